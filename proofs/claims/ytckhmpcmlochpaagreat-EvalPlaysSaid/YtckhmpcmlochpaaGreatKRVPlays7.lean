import Derived.Test.YtckhmpcmlochpaaGreatKRVPlays6
import Derived.Test.YtckhmpcmlochpaaGreatKRVPlays5
import Derived.Test.YtckhmpcmlochpaaGreatKRVPlays2
import Derived.WalkKit
import Derived.ProofKit
import Derived.OpenShut
import Derived.ShutString
import Derived.ChangeOld
import Derived.Below
import Derived.DataReads
import Derived.ChangeArms
import Derived.Test.YtckhmpcmlochpaaGreatKRVPlays4
import Derived.Test.YtckhmpcmlochpaaGreatKRVPlays3
set_option linter.unusedSimpArgs false
set_option linter.unusedVariables false
set_option linter.unnecessarySimpa false
set_option linter.unusedSectionVars false
namespace Go.Proofs.YtckhmpcmlochpaaGreat.G
open Go.BX
variable {fn : FuncId} {T : Nat → AV} {ds : List ADef} {ro : Option Nat} {k : List AItem} {Q : AV → AHeap → Prop} {dst : Option Nat} {os : List AO}
def dgt (c : UInt8) : Int := if dg c then (c.toNat : Int) - 48 else if 97 ≤ (c.toNat : Int) ∧ (c.toNat : Int) ≤ 102 then (c.toNat : Int) - 87 else -1
theorem j6u (c : UInt8) : -1 ≤ dgt c ∧ dgt c ≤ 15 := by
 unfold dgt dg z7b
 simp only [Bool.and_eq_true, decide_eq_true_eq]
 split
 ·omega
 ·split <;> omega
theorem j4k (c : UInt8) : q0k Cx 109 [.int .u8 (c.toNat : Int)] (.int .i64 (dgt c)) := by
 refine q0c (q0l _) y4z ?_
 have hc : c.toNat < 256 := c.toNat_lt
 have w0 : IntKind.i64.wrap (c.toNat : Int) = (c.toNat : Int) := wr64 (by omega) (by omega)
 have w1 : IntKind.i64.wrap ((c.toNat : Int) - 48) = (c.toNat : Int) - 48 := wr64 (by omega) (by omega)
 have w2 : IntKind.i64.wrap ((c.toNat : Int) - 87) = (c.toNat : Int) - 87 := wr64 (by omega) (by omega)
 unfold dgt dg z7b
 by_cases h1 : (48 : Int) ≤ (c.toNat : Int) <;> by_cases h2 : (c.toNat : Int) ≤ 57 <;> by_cases h3 : (97 : Int) ≤ (c.toNat : Int) <;> by_cases h4 : (c.toNat : Int) ≤ 102 <;>
 simp only [h1, h2, h3, h4, w0, w1, w2, decide_true, decide_false, Bool.and_true, Bool.and_false, and_true, and_false, Bool.false_eq_true, r109_0, w4o, tt, bb, bc, ↓bd, Nat.reduceEqDiff, ↓reduceIte, reduceCtorEq, Int.reduceNeg]
theorem bsl : x6q Cx 127 5 := ⟨_, j7t, rfl⟩
theorem bti : ∃ ti, Cx.TT 5 = some ti ∧ ti.size = 1 ∧ ti.bytes = 1 := ⟨_, w7t, rfl, rfl⟩
def BufB (d : AV) (n : Nat) (A : Nat → Blk) (acc : Bytes) : Prop := (d = .nilS ∧ acc = []) ∨ ∃ g, d = .slc g 1 0 acc.length ∧ 0 < g ∧ g < n ∧ A g = .cells 5 1 (q0v acc)
theorem BufB.len {d : AV} {n : Nat} {A : Nat → Blk} {acc : Bytes} (h : BufB d n A acc) : lenOf d = some acc.length := by
 rcases h with ⟨rfl, rfl⟩ | ⟨g, rfl, -⟩ <;> rfl
theorem BufB.conv {d : AV} {n : Nat} {A : Nat → Blk} {acc : Bytes} (h : BufB d n A acc) : convA Cx ⟨n, A⟩ 127 9 d = some (.str acc) := by
 unfold convA
 rw [j7t, x6r]
 simp only [w7t]
 rcases h with ⟨rfl, rfl⟩ | ⟨g, rfl, hg0, hg, hA⟩
 ·rfl
 ·have he : elems ⟨n, A⟩ 1 (.slc g 1 0 acc.length) = some (q0v acc) := by
   unfold elems
   simp only [hA]
   rw [if_pos ⟨trivial, trivial, by simp [q0v]⟩, List.drop_zero, List.take_of_length_le (by simp [q0v])]
  rw [he]
  simp only [q5i, Option.map_some]
abbrev x6y (e : Int) : AV := .tuple [q1o zV, .int .i64 0, .int .i64 e]
def w8e (r : AV) : Prop := ∃ (v : Vl) (n e : Int), r = .tuple [q1o v, .int .i64 n, .int .i64 e] ∧ (e ≠ 0 ∨ v.k ≠ 0)
theorem q4w {e : Int} (h : e ≠ 0) : w8e (x6y e) := ⟨zV, 0, e, rfl, .inl h⟩
def PB (s : Bytes) (r : AV) (i : Nat) (acc : Bytes) : Prop := ∀ (T : Nat → AV) (n : Nat) (A : Nat → Blk) (d : AV), 1 ≤ n → T 0 = .str s → T 2 = .ptr 0 5 0 0 → T 12 = d → T 13 = .int .i64 (i : Int) → BufB d n A acc → A 0 = .cells 26 5 [[.int .i64 0, .int .i64 0, .str [], .int .i64 0, .int .i64 0]] →
 Run Cx 91 T [] none [.inLoop c91_63, .inBlock 0, .code c91_152] ⟨n, A⟩ (fun r0 H' => BX.freeze H' r0 = some r)
theorem y2s {s acc : Bytes} {i : Nat} (hi : s.length ≤ i) : PB s (x6y 2) i acc := by
 intro T n A d hn t0 t2 t12 t13 hb hA
 have c0 : ¬ (i : Int) < (s.length : Int) := by omega
 rw [run_inLoop]
 simp only [t0, t2, t13, c0, hA, i64, xx, r91_0, r91_1, z0a, tt, bb, bc, ↓bd, Nat.reduceEqDiff, Nat.reduceAdd, ↓reduceIte, reduceCtorEq]
 try rfl
theorem x9t {s acc : Bytes} {i : Nat} (hs : s.length ≤ 1000000) (hi : s[i]? = some 34) : ∃ r, w8e r ∧ PB s r i acc := by
 have hlt : i < s.length := (List.getElem?_eq_some_iff.mp hi).1
 have c0 : (i : Int) < (s.length : Int) := by omega
 have p0 : (0 : Int) ≤ (i : Int) := by omega
 have z : (((34 : UInt8).toNat : Int) == 34) = true := rfl
 by_cases hl : 4096 < acc.length
 ·refine ⟨x6y 3, q4w (by decide), ?_⟩
  intro T n A d hn t0 t2 t12 t13 hb hA
  have hlo := hb.len
  simp only [BX.lenOf] at hlo
  have c1 : (4096 : Int) < (acc.length : Int) := by omega
  rw [run_inLoop]
  simp only [t0, t2, t12, t13, c0, c1, p0, hi, z, hlo, Option.map_some, q0i, hA, q0n, Int.toNat_natCast, i64, r91_0, z0a, tt, bb, bc, ↓bd, Nat.reduceEqDiff, Nat.reduceAdd, ↓reduceIte, reduceCtorEq]
  try rfl
 ·refine ⟨.tuple [q1o (tV acc), .int .i64 ((i + 1 : Nat) : Int), .int .i64 0], ⟨_, _, _, rfl, .inr (by intro h; cases h)⟩, ?_⟩
  intro T n A d hn t0 t2 t12 t13 hb hA
  have c1 : ¬ (4096 : Int) < (acc.length : Int) := by omega
  have w1 : IntKind.i64.wrap ((i : Int) + 1) = ((i + 1 : Nat) : Int) := by rw [wr64 (by omega) (by omega)]; omega
  rcases hb with ⟨rfl, rfl⟩ | ⟨g, rfl, hg0, hg, hA2⟩
  ·have g6 : bytesOf ([] : List (List AV)) = some [] := rfl
   rw [run_inLoop]
   simp only [t0, t2, t12, t13, c0, p0, hi, z, w1, hA, g6, q0n, Int.toNat_natCast, i64, r91_0, z0a, tt, bb, bc, ↓bd, Nat.reduceEqDiff, Nat.reduceAdd, Nat.reduceLeDiff, ↓reduceIte, reduceCtorEq, Int.reduceLT]
   try rfl
  ·have g6 := q5i acc
   have g7 := q5v acc
   have g8 : acc.length ≤ (q0v acc).length := by rw [q3g]; exact Nat.le_refl _
   rw [run_inLoop]
   simp only [t0, t2, t12, t13, c0, c1, p0, hi, z, w1, hA, hA2, g6, g7, g8, q0n, Int.toNat_natCast, List.drop_zero, Nat.zero_add, i64, r91_0, z0a, tt, bb, bc, ↓bd, Nat.reduceEqDiff, Nat.reduceAdd, Nat.reduceLeDiff, ↓reduceIte, reduceCtorEq]
   try rfl
theorem y7d {s acc : Bytes} {i : Nat} {c : UInt8} (hs : s.length ≤ 1000000) (hi : s[i]? = some c) (h34 : c ≠ 34) (h92 : c ≠ 92) (hc : q7h c = false) : PB s (x6y 6) i acc := by
 intro T n A d hn t0 t2 t12 t13 hb hA
 have hlt : i < s.length := (List.getElem?_eq_some_iff.mp hi).1
 have c0 : (i : Int) < (s.length : Int) := by omega
 have p0 : (0 : Int) ≤ (i : Int) := by omega
 have z : ((c.toNat : Int) == 34) = false := q9f (n := 34) (by decide) h34
 have z2 : ((c.toNat : Int) != 92) = true := by rw [bne, show ((c.toNat : Int) == 92) = false from q9f (n := 92) (by decide) h92]; rfl
 have hp := q5k (c.toNat : Int)
 have hc' : q3z (c.toNat : Int) = false := hc
 rw [hc'] at hp
 rw [run_inLoop]
 simp only [t0, t2, t13, c0, p0, hi, z, z2, hA, q0n, Int.toNat_natCast, q0a z3d rfl hp, i64, r91_0, z0a, tt, bb, bc, ↓bd, Nat.reduceEqDiff, Nat.reduceAdd, ↓reduceIte, reduceCtorEq]
 try rfl
theorem x9u {s acc : Bytes} {i : Nat} {c : UInt8} {r : AV} (hs : s.length ≤ 1000000) (hi : s[i]? = some c) (h34 : c ≠ 34) (h92 : c ≠ 92) (hc : q7h c = true) (hl : acc.length ≤ 1000000) (hp' : PB s r (i + 1) (acc ++ [c])) : PB s r i acc := by
 intro T n A d hn t0 t2 t12 t13 hb hA
 have hlt : i < s.length := (List.getElem?_eq_some_iff.mp hi).1
 have c0 : (i : Int) < (s.length : Int) := by omega
 have p0 : (0 : Int) ≤ (i : Int) := by omega
 have z : ((c.toNat : Int) == 34) = false := q9f (n := 34) (by decide) h34
 have z2 : ((c.toNat : Int) != 92) = true := by rw [bne, show ((c.toNat : Int) == 92) = false from q9f (n := 92) (by decide) h92]; rfl
 have hp := q5k (c.toNat : Int)
 have hc' : q3z (c.toNat : Int) = true := hc
 rw [hc'] at hp
 have w1 : IntKind.i64.wrap ((i : Int) + 1) = ((i + 1 : Nat) : Int) := by rw [wr64 (by omega) (by omega)]; omega
 have el : (acc ++ [c]).length = acc.length + 1 := by simp
 rw [run_inLoop]
 rcases hb with ⟨rfl, rfl⟩ | ⟨g, rfl, hg0, hg, hA2⟩
 ·have mm : (1 : Nat) ≤ q2m := by decide
  simp only [t0, t12, t13, c0, p0, hi, z, z2, w1, mm, q1n, q2c, q3a, q0i, q0n, Int.toNat_natCast, q0a z3d rfl hp, i64, xx, r91_0, r91_1.2.2.2.1, tt, bb, bc, ↓bd, Nat.reduceEqDiff, Nat.reduceMul, Nat.reduceLeDiff, ↓reduceIte, reduceCtorEq, List.reduceReplicate]
  refine hp' _ _ _ _ (by omega) ?_ ?_ rfl ?_ ?_ ?_
  ·simp only [q0b, t0, Nat.reduceEqDiff, ↓reduceIte]
  ·simp only [q0b, t2, Nat.reduceEqDiff, ↓reduceIte]
  ·simp only [q0b, ↓reduceIte]
  ·refine .inr ⟨n + 1, ?_, by omega, by omega, ?_⟩
   ·simp only [q0b, Nat.reduceEqDiff, ↓reduceIte]; rfl
   ·simp only [q0b, ↓reduceIte]; rfl
  ·simp only [q0b, show (0 = n) = False from eq_false (by omega), show (0 = n + 1) = False from eq_false (by omega), ↓reduceIte]; exact hA
 ·have ha := q7y (C := Cx) (g := g) (n := n) (A := A) (es := q0v acc) (row := [.int .u8 (c.toNat : Int)]) bsl bti hA2 (by omega) (by rw [q3g]; unfold q2m; omega) (by rw [q3g]; unfold q2m; omega)
  rw [q3g] at ha
  simp only [t0, t12, t13, c0, p0, hi, z, z2, w1, ha, q0i, q0n, Int.toNat_natCast, q0a z3d rfl hp, i64, xx, r91_0, r91_1.2.2.2.1, tt, bb, bc, ↓bd, Nat.reduceEqDiff, Nat.reduceMul, Nat.reduceLeDiff, ↓reduceIte, reduceCtorEq, List.reduceReplicate]
  refine hp' _ (n + 1 + 1) _ _ (by omega) ?_ ?_ rfl ?_ ?_ ?_
  ·simp only [q0b, t0, Nat.reduceEqDiff, ↓reduceIte]
  ·simp only [q0b, t2, Nat.reduceEqDiff, ↓reduceIte]
  ·simp only [q0b, ↓reduceIte]
  ·refine .inr ⟨n + 1, ?_, by omega, by omega, ?_⟩
   ·rw [el]; simp only [q0b, Nat.reduceEqDiff, ↓reduceIte]
   ·simp only [q0b, ↓reduceIte]
    unfold q0v
    rw [List.map_append]; rfl
  ·simp only [q0b, show (0 = n) = False from eq_false (by omega), show (0 = n + 1) = False from eq_false (by omega), show (0 = g) = False from eq_false (by omega), ↓reduceIte]; exact hA
def PDg (s : Bytes) (r : AV) (i j : Nat) (x : Int) (acc : Bytes) : Prop := ∀ (T : Nat → AV) (n : Nat) (A : Nat → Blk) (d : AV), 1 ≤ n → T 0 = .str s → T 2 = .ptr 0 5 0 0 → T 12 = d → T 13 = .int .i64 (i : Int) → T 15 = .int .i64 x → T 16 = .int .i64 (j : Int) → BufB d n A acc → A 0 = .cells 26 5 [[.int .i64 0, .int .i64 0, .str [], .int .i64 0, .int .i64 0]] →
 Run Cx 91 T [] none [.inLoop c91_112, .inBlock 2, .code c91_140, .inBlock 1, .code c91_151, .inLoop c91_63, .inBlock 0, .code c91_152] ⟨n, A⟩ (fun r0 H' => BX.freeze H' r0 = some r)
theorem w6o {s acc : Bytes} {i : Nat} {r : AV} (hs : s.length ≤ 1000000) (hi : s[i]? = some 92) (h : PDg s r i 1 0 acc) : PB s r i acc := by
 intro T n A d hn t0 t2 t12 t13 hb hA
 have hlt : i < s.length := (List.getElem?_eq_some_iff.mp hi).1
 have c0 : (i : Int) < (s.length : Int) := by omega
 have p0 : (0 : Int) ≤ (i : Int) := by omega
 have z : (((92 : UInt8).toNat : Int) == 34) = false := rfl
 have z2 : (((92 : UInt8).toNat : Int) != 92) = false := rfl
 rw [run_inLoop]
 simp only [t0, t13, c0, p0, hi, z, z2, q0n, Int.toNat_natCast, i64, r91_0, tt, bb, bc, ↓bd, Nat.reduceEqDiff, ↓reduceIte, reduceCtorEq]
 refine h _ n A d hn ?_ ?_ ?_ ?_ ?_ ?_ hb hA
 all_goals simp only [q0b, t0, t2, t12, t13, Nat.reduceEqDiff, ↓reduceIte]
 rfl
theorem j4l {s acc : Bytes} {i j : Nat} {x : Int} (hs : s.length ≤ 1000000) (hil : i ≤ s.length) (hj : j ≤ 2) (hi : s.length ≤ i + j) : PDg s (x6y 2) i j x acc := by
 intro T n A d hn t0 t2 t12 t13 t15 t16 hb hA
 have c0 : (j : Int) ≤ 2 := by omega
 have w1 : IntKind.i64.wrap ((i : Int) + (j : Int)) = ((i + j : Nat) : Int) := by rw [wr64 (by omega) (by omega)]; omega
 have c1 : (s.length : Int) ≤ ((i + j : Nat) : Int) := by omega
 rw [run_inLoop]
 simp only [t0, t2, t13, t16, c0, c1, w1, hA, i64, r91_1.1, r91_1.2.1, z0a, tt, bb, bc, ↓bd, Nat.reduceEqDiff, Nat.reduceAdd, ↓reduceIte, reduceCtorEq]
 try rfl
theorem x5u {s acc : Bytes} {i j : Nat} {x : Int} {c : UInt8} (hs : s.length ≤ 1000000) (hj : j ≤ 2) (hi : s[i + j]? = some c) (hd : dgt c < 0) : PDg s (x6y 6) i j x acc := by
 intro T n A d hn t0 t2 t12 t13 t15 t16 hb hA
 have hlt : i + j < s.length := (List.getElem?_eq_some_iff.mp hi).1
 have c0 : (j : Int) ≤ 2 := by omega
 have w1 : IntKind.i64.wrap ((i : Int) + (j : Int)) = ((i + j : Nat) : Int) := by rw [wr64 (by omega) (by omega)]; omega
 have c1 : ¬ (s.length : Int) ≤ ((i + j : Nat) : Int) := by omega
 have p0 : (0 : Int) ≤ ((i + j : Nat) : Int) := by omega
 have hp := j4k c
 rw [run_inLoop]
 simp only [t0, t2, t13, t16, c0, c1, w1, p0, hi, hd, hA, q0n, Int.toNat_natCast, q0a x3t rfl hp, i64, r91_1.1, r91_1.2.1, z0a, tt, bb, bc, ↓bd, Nat.reduceEqDiff, Nat.reduceAdd, ↓reduceIte, reduceCtorEq]
 try rfl
theorem q9a {s acc : Bytes} {i j : Nat} {x : Int} {c : UInt8} {r : AV} (hs : s.length ≤ 1000000) (hj : j ≤ 2) (hi : s[i + j]? = some c) (hd : 0 ≤ dgt c) (hx : 0 ≤ x ∧ x ≤ 1000) (h : PDg s r i (j + 1) (x * 16 + dgt c) acc) : PDg s r i j x acc := by
 intro T n A d hn t0 t2 t12 t13 t15 t16 hb hA
 have hlt : i + j < s.length := (List.getElem?_eq_some_iff.mp hi).1
 have c0 : (j : Int) ≤ 2 := by omega
 have w1 : IntKind.i64.wrap ((i : Int) + (j : Int)) = ((i + j : Nat) : Int) := by rw [wr64 (by omega) (by omega)]; omega
 have c1 : ¬ (s.length : Int) ≤ ((i + j : Nat) : Int) := by omega
 have p0 : (0 : Int) ≤ ((i + j : Nat) : Int) := by omega
 have hp := j4k c
 have hr := j6u c
 have hd' : ¬ dgt c < 0 := by omega
 have w2 : IntKind.i64.wrap ((j : Int) + 1) = ((j + 1 : Nat) : Int) := by rw [wr64 (by omega) (by omega)]; omega
 have w3 : IntKind.i64.wrap (x * 16) = x * 16 := wr64 (by omega) (by omega)
 have w4 : IntKind.i64.wrap (x * 16 + dgt c) = x * 16 + dgt c := wr64 (by omega) (by omega)
 rw [run_inLoop]
 simp only [t0, t13, t15, t16, c0, c1, w1, w2, w3, w4, p0, hi, hd', q0n, Int.toNat_natCast, q0a x3t rfl hp, i64, xx, r91_1.1, r91_1.2.1, tt, bb, bc, ↓bd, Nat.reduceEqDiff, ↓reduceIte, reduceCtorEq]
 refine h _ n A d hn ?_ ?_ ?_ ?_ ?_ ?_ hb hA
 all_goals simp only [q0b, t0, t2, t12, t13, Nat.reduceEqDiff, ↓reduceIte]
theorem x5v {s acc : Bytes} {i : Nat} {x : Int} (hx : 0 ≤ x ∧ x < 256) (hp' : q3z x = true) : PDg s (x6y 6) i 3 x acc := by
 intro T n A d hn t0 t2 t12 t13 t15 t16 hb hA
 have w8 : IntKind.u8.wrap x = x := wr8 (by omega) (by omega)
 have hp := q5k x
 rw [hp'] at hp
 rw [run_inLoop]
 simp only [t2, t15, t16, w8, hA, q0a z3d rfl hp, xx, r91_1.1, r91_1.2.2.1, z0a, tt, bb, bc, ↓bd, Nat.reduceEqDiff, Nat.reduceAdd, ↓reduceIte, Int.reduceLE]
 try rfl
theorem y7e {s acc : Bytes} {i : Nat} {x : Int} {r : AV} (hs : s.length ≤ 1000000) (hi : i < s.length) (hl : acc.length ≤ 1000000) (hx : 0 ≤ x ∧ x < 256) (hq : q3z x = false) (hp' : PB s r (i + 3) (acc ++ [UInt8.ofNat x.toNat])) : PDg s r i 3 x acc := by
 intro T n A d hn t0 t2 t12 t13 t15 t16 hb hA
 have w8 : IntKind.u8.wrap x = x := wr8 (by omega) (by omega)
 have hp := q5k x
 rw [hq] at hp
 have w1 : IntKind.i64.wrap ((i : Int) + 2) = (i : Int) + 2 := wr64 (by omega) (by omega)
 have w2 : IntKind.i64.wrap ((i : Int) + 2 + 1) = ((i + 3 : Nat) : Int) := by rw [wr64 (by omega) (by omega)]; omega
 have ex : (((UInt8.ofNat x.toNat).toNat : Nat) : Int) = x := by
  rw [UInt8.toNat_ofNat']; omega
 have el : (acc ++ [UInt8.ofNat x.toNat]).length = acc.length + 1 := by simp
 rw [run_inLoop]
 rcases hb with ⟨rfl, rfl⟩ | ⟨g, rfl, hg0, hg, hA2⟩
 ·have mm : (1 : Nat) ≤ q2m := by decide
  simp only [t12, t13, t15, t16, w8, w1, w2, mm, q1n, q2c, q3a, q0i, q0a z3d rfl hp, xx, r91_1.1, r91_1.2.2.1, r91_1.2.2.2.1, tt, bb, bc, ↓bd, Nat.reduceEqDiff, Nat.reduceMul, Nat.reduceLeDiff, ↓reduceIte, reduceCtorEq, Int.reduceLE, List.reduceReplicate]
  refine hp' _ (n + 1 + 1) _ _ (by omega) ?_ ?_ rfl ?_ ?_ ?_
  ·simp only [q0b, t0, Nat.reduceEqDiff, ↓reduceIte]
  ·simp only [q0b, t2, Nat.reduceEqDiff, ↓reduceIte]
  ·simp only [q0b, ↓reduceIte]
  ·refine .inr ⟨n + 1, ?_, by omega, by omega, ?_⟩
   ·simp only [q0b, Nat.reduceEqDiff, ↓reduceIte]; rfl
   ·simp only [q0b, ↓reduceIte]
    show _ = Blk.cells 5 1 [[.int .u8 (((UInt8.ofNat x.toNat).toNat : Nat) : Int)]]
    rw [ex]
  ·simp only [q0b, show (0 = n) = False from eq_false (by omega), show (0 = n + 1) = False from eq_false (by omega), ↓reduceIte]; exact hA
 ·have ha := q7y (C := Cx) (g := g) (n := n) (A := A) (es := q0v acc) (row := [.int .u8 x]) bsl bti hA2 (by omega) (by rw [q3g]; unfold q2m; omega) (by rw [q3g]; unfold q2m; omega)
  rw [q3g] at ha
  simp only [t12, t13, t15, t16, w8, w1, w2, ha, q0i, q0a z3d rfl hp, xx, r91_1.1, r91_1.2.2.1, r91_1.2.2.2.1, tt, bb, bc, ↓bd, Nat.reduceEqDiff, Nat.reduceMul, Nat.reduceLeDiff, ↓reduceIte, Int.reduceLE, List.reduceReplicate]
  refine hp' _ (n + 1 + 1) _ _ (by omega) ?_ ?_ rfl ?_ ?_ ?_
  ·simp only [q0b, t0, Nat.reduceEqDiff, ↓reduceIte]
  ·simp only [q0b, t2, Nat.reduceEqDiff, ↓reduceIte]
  ·simp only [q0b, ↓reduceIte]
  ·refine .inr ⟨n + 1, ?_, by omega, by omega, ?_⟩
   ·rw [el]; simp only [q0b, Nat.reduceEqDiff, ↓reduceIte]
   ·simp only [q0b, ↓reduceIte]
    unfold q0v
    rw [List.map_append, List.map_cons, ex]; rfl
  ·simp only [q0b, show (0 = n) = False from eq_false (by omega), show (0 = n + 1) = False from eq_false (by omega), show (0 = g) = False from eq_false (by omega), ↓reduceIte]; exact hA
theorem w6p {s : Bytes} (hs : s.length ≤ 1000000) : ∀ (m i : Nat) (acc : Bytes), s.length - i ≤ m → acc.length ≤ i → i ≤ s.length → ∃ r, w8e r ∧ PB s r i acc := by
 intro m
 induction m with
 | zero =>
  intro i acc hm ha hi
  exact ⟨_, q4w (by decide), y2s (by omega)⟩
 | succ m ih =>
  intro i acc hm ha hi
  by_cases hlt : i < s.length
  ·have hg : s[i]? = some s[i] := List.getElem?_eq_getElem hlt
   generalize s[i] = c at hg
   by_cases h34 : c = 34
   ·subst h34; exact x9t hs hg
   ·by_cases h92 : c = 92
    ·subst h92
     have key : ∃ r, w8e r ∧ PDg s r i 1 0 acc := by
      by_cases h1 : i + 1 < s.length
      ·have hg1 : s[i + 1]? = some s[i + 1] := List.getElem?_eq_getElem h1
       generalize s[i + 1] = c1 at hg1
       have hr1 := j6u c1
       by_cases hd1 : dgt c1 < 0
       ·exact ⟨_, q4w (by decide), x5u hs (by omega) hg1 hd1⟩
       ·by_cases h2 : i + 2 < s.length
        ·have hg2 : s[i + 2]? = some s[i + 2] := List.getElem?_eq_getElem h2
         generalize s[i + 2] = c2 at hg2
         have hr2 := j6u c2
         by_cases hd2 : dgt c2 < 0
         ·exact ⟨_, q4w (by decide), q9a hs (by omega) hg1 (by omega) (by omega) (x5u hs (by omega) hg2 hd2)⟩
         ·cases hp : q3z ((0 * 16 + dgt c1) * 16 + dgt c2) with
          | true => exact ⟨_, q4w (by decide), q9a hs (by omega) hg1 (by omega) (by omega) (q9a hs (by omega) hg2 (by omega) (by omega) (x5v (by omega) hp))⟩
          | false =>
           obtain ⟨r, hb, hr⟩ := ih (i + 3) (acc ++ [UInt8.ofNat ((0 * 16 + dgt c1) * 16 + dgt c2).toNat]) (by omega) (by simp; omega) (by omega)
           exact ⟨r, hb, q9a hs (by omega) hg1 (by omega) (by omega) (q9a hs (by omega) hg2 (by omega) (by omega) (y7e hs hlt (by omega) (by omega) hp hr))⟩
        ·exact ⟨_, q4w (by decide), q9a hs (by omega) hg1 (by omega) (by omega) (j4l hs (by omega) (by omega) (by omega))⟩
      ·exact ⟨_, q4w (by decide), j4l hs (by omega) (by omega) (by omega)⟩
     obtain ⟨r, hb, hr⟩ := key
     exact ⟨r, hb, w6o hs hg hr⟩
    ·cases hp : q7h c with
     | false => exact ⟨_, q4w (by decide), y7d hs hg h34 h92 hp⟩
     | true =>
      obtain ⟨r, hb, hr⟩ := ih (i + 1) (acc ++ [c]) (by omega) (by simp; omega) (by omega)
      exact ⟨r, hb, x9u hs hg h34 h92 hp (by omega) hr⟩
  ·exact ⟨_, q4w (by decide), y2s (by omega)⟩
def y2t (n : Int) : Prop := n < -9007199254740992 ∨ 9007199254740992 < n
theorem x5w : ∀ (l : Bytes) (a b : Nat), (∀ c, c ∈ l → dg c = true) → ((a = b ∧ a ≤ 9007199254740992) ∨ (9007199254740992 < a ∧ a ≤ 90071992547409929 ∧ 9007199254740992 < b)) →
  (x6x a l = y1w b l ∧ x6x a l ≤ 9007199254740992) ∨ (9007199254740992 < x6x a l ∧ x6x a l ≤ 90071992547409929 ∧ 9007199254740992 < y1w b l)
 | [], a, b, _, h => h
 | c :: l, a, b, hd, h => by
  have hc := hd c (by simp)
  unfold dg z7b at hc
  simp only [Bool.and_eq_true, decide_eq_true_eq] at hc
  have e1 : x6x a (c :: l) = x6x (if a ≤ 9007199254740992 then a * 10 + (c.toNat - 48) else a) l := rfl
  have e2 : y1w b (c :: l) = y1w (min (10 * b + (c.toNat - 48)) 18014398509481984) l := rfl
  rw [e1, e2]
  refine x5w l _ _ (fun x hx => hd x (by simp [hx])) ?_
  split <;> omega
theorem w6q : ∀ l : Bytes, ∀ c, c ∈ l.takeWhile dg → dg c = true
 | [], c, h => by cases h
 | d :: l, c, h => by
  rw [List.takeWhile_cons] at h
  split at h
  ·rename_i hd
   rcases List.mem_cons.mp h with rfl | h
   ·exact hd
   ·exact w6q l c h
  ·cases h
theorem x5x (s : Bytes) (i : Nat) (hi : i ≤ s.length) : (∃ e e' : Int, e ≠ 0 ∧ w6n s i = j0k e ∧ x4f s i = .error e') ∨
  ∃ (n n' : Int) (k : Nat), w6n s i = .tuple [.int .i64 n, .int .i64 (k : Int), .int .i64 0] ∧ x4f s i = .ok (n', k) ∧ k ≤ s.length ∧ (n = n' ∨ (y2t n ∧ y2t n')) ∧ -90071992547409929 ≤ n ∧ n ≤ 90071992547409929 := by
 have key : ∀ (neg : Bool) (fr : Nat), fr ≤ s.length → (∃ e e' : Int, e ≠ 0 ∧ y7c s neg fr = j0k e ∧ x6t s (if neg then -1 else 1) fr = .error e') ∨
   ∃ (n n' : Int) (k : Nat), y7c s neg fr = .tuple [.int .i64 n, .int .i64 (k : Int), .int .i64 0] ∧ x6t s (if neg then -1 else 1) fr = .ok (n', k) ∧ k ≤ s.length ∧ (n = n' ∨ (y2t n ∧ y2t n')) ∧ -90071992547409929 ≤ n ∧ n ≤ 90071992547409929 := by
  intro neg fr hfr
  unfold y7c x6t
  by_cases he : fr = s.length
  ·left
   rw [if_pos he, List.getElem?_eq_none (by omega)]
   exact ⟨2, 2, by decide, rfl, rfl⟩
  ·rw [if_neg he]
   have hlt : fr < s.length := by omega
   have hg : s[fr]? = some s[fr] := List.getElem?_eq_getElem hlt
   have hd : s.drop fr = s[fr] :: s.drop (fr + 1) := List.drop_eq_getElem_cons hlt
   generalize s[fr] = c at hg hd
   have hle := w4z (s.drop fr)
   rw [List.length_drop] at hle
   have hcr := x5w ((s.drop fr).takeWhile dg) 0 0 (w6q _) (.inl ⟨rfl, by omega⟩)
   unfold w6m w7v
   rw [hg]
   simp only
   cases hdc : dg c with
   | false =>
    left
    rw [hd, List.takeWhile_cons_of_neg (by simp [hdc])]
    rw [if_pos (.inl (by simp))]
    exact ⟨6, 6, by decide, rfl, rfl⟩
   | true =>
    have hne : ¬ fr + ((s.drop fr).takeWhile dg).length = fr := by
     rw [hd, List.takeWhile_cons_of_pos hdc]; simp
    rw [if_pos rfl]
    by_cases hz : some c = some (48 : UInt8) ∧ (fr + 1 < fr + ((s.drop fr).takeWhile dg).length ∨ neg = true)
    ·left
     rw [if_pos (.inr hz), if_pos ⟨hz.1, hz.2.imp id (fun h => by rw [h]; decide)⟩]
     exact ⟨6, 6, by decide, rfl, rfl⟩
    ·right
     have n1 : ¬ (fr + ((s.drop fr).takeWhile dg).length = fr ∨ some c = some (48 : UInt8) ∧ (fr + 1 < fr + ((s.drop fr).takeWhile dg).length ∨ neg = true)) := fun h => h.elim hne hz
     have n2 : ¬ (some c = some (48 : UInt8) ∧ (fr + 1 < fr + ((s.drop fr).takeWhile dg).length ∨ (if neg = true then (-1 : Int) else 1) < 0)) := by
      rintro ⟨h1, h2⟩
      refine hz ⟨h1, h2.imp id fun h => ?_⟩
      cases neg with
      | true => rfl
      | false => simp at h
     rw [if_neg n1, if_neg n2]
     refine ⟨_, _, _, rfl, rfl, by omega, ?_, ?_⟩
     ·cases neg with
      | true =>
       simp only [if_true]
       rcases hcr with ⟨h1, h2⟩ | ⟨h1, h2, h3⟩
       ·left; rw [h1]; omega
       ·right; unfold y2t; omega
      | false =>
       simp only [Bool.false_eq_true, if_false]
       rcases hcr with ⟨h1, h2⟩ | ⟨h1, h2, h3⟩
       ·left; rw [h1]; omega
       ·right; unfold y2t; omega
     ·cases neg with
      | true => simp only [if_true]; omega
      | false => simp only [Bool.false_eq_true, if_false]; omega
 unfold w6n x4f
 by_cases h45 : s[i]? = some 45
 ·rw [if_pos h45, if_pos h45]
  have hlt : i < s.length := (List.getElem?_eq_some_iff.mp h45).1
  exact key true (i + 1) (by omega)
 ·rw [if_neg h45, if_neg h45]
  exact key false i hi
theorem y2u {n : Int} (h : y2t n) : okV (nV n) = false := by
 unfold y2t at h
 cases ho : okV (nV n) with
 | false => rfl
 | true =>
  have := (q0w ho).1 rfl
  have e : (nV n).n = n := rfl
  rw [e] at this
  omega
def w6r (s : Bytes) (v : Vl) (n e : Int) : Prop := ((e ≠ 0 ∨ n < s.length ∨ v.k ≠ 0) ∧ j1a s = .bad 6) ∨ (e = 0 ∧ n = s.length ∧ v.k = 0 ∧ j1a s = .val v)
theorem j6v {s : Bytes} (hs : s.length ≤ 1000000) (v : Vl) (k : Nat) (T : Nat → AV) (n : Nat) (A : Nat → Blk) (hn : 2 ≤ n) (t0 : T 0 = .str s) (t2 : T 2 = .ptr 0 5 0 0) (t6 : T 6 = .int .i64 (k : Int)) (t8 : T 8 = .ptr 1 5 0 0) (hA : A 0 = .cells 26 5 [[.int .i64 0, .int .i64 0, .str [], .int .i64 0, .int .i64 0]]) (hA1 : A 1 = .cells 26 5 [[.int .i64 v.k, .int .i64 v.n, .str v.s, .int .i64 v.x, .int .i64 v.y]]) :
  Run Cx 91 T [] none [.code c91_44, .code c91_56] ⟨n, A⟩ (fun r0 H' => BX.freeze H' r0 = some (if okV v then .tuple [q1o v, .int .i64 (k : Int), .int .i64 0] else x6y 14)) := by
 have r := refRight_ok v.k v.n v.s v.x v.y
 have eo : q1j v.k v.n v.s v.x v.y = okV v := rfl
 rw [eo] at r
 cases ho : okV v with
 | true =>
  rw [ho] at r
  simp only [t2, t6, t8, hA, hA1, q0a q3p rfl r, r91_0, z0a, tt, bb, bc, ↓bd, Nat.reduceEqDiff, Nat.reduceAdd, ↓reduceIte]
  try rfl
 | false =>
  rw [ho] at r
  simp only [t2, t8, hA, hA1, q0a q3p rfl r, r91_0, z0a, tt, bb, bc, ↓bd, Nat.reduceEqDiff, Nat.reduceAdd, ↓reduceIte]
  try rfl
theorem w6s {s : Bytes} (hs : s.length ≤ 1000000) (go : ∀ rr, (∀ (T : Nat → AV), T 0 = .str s → T 2 = .ptr 0 5 0 0 → Run Cx 91 T [] none [.code c91_14, .code c91_56] ⟨1, upd AHeap.empty.at_ 0 (.cells 26 5 [[.int .i64 0, .int .i64 0, .str [], .int .i64 0, .int .i64 0]])⟩ (fun r0 H' => BX.freeze H' r0 = some rr)) → q0k Cx 91 [.str s] rr)
  (hpx : z1h s = q2o s) : ∃ (v : Vl) (n e : Int), q0k Cx 91 [.str s] (.tuple [q1o v, .int .i64 n, .int .i64 e]) ∧ w6r s v n e := by
 have w1 : ∀ k : Nat, k ≤ s.length → IntKind.i64.wrap ((k : Int) + 1) = ((k + 1 : Nat) : Int) := by intro k hk; rw [wr64 (by omega) (by omega)]; omega
 have hn0 := z9c (s := s) (p := 0) hs (Nat.zero_le _)
 rcases x5x s 0 (Nat.zero_le _) with ⟨e, e', he, h1, h2⟩ | ⟨n, n', k, h1, h2, hk, hnn, hlo, hhi⟩
 ·refine ⟨zV, 0, e, go _ ?_, .inl ⟨.inl he, ?_⟩⟩
  ·intro T t0 t2
   rw [h1] at hn0
   have y8i : q0k Cx 108 [.str s, .int .i64 0] (.tuple [.int .i64 0, .int .i64 0, .int .i64 e]) := hn0
   have z : (e != 0) = true := by simpa using he
   simp only [t0, t2, z, q0a z0b rfl y8i, r91_0.2.1, z0a, tt, bb, bc, ↓bd, Nat.reduceEqDiff, Nat.reduceAdd, ↓reduceIte]
   try rfl
  ·unfold j1a
   rw [hpx]
   unfold q2o
   rw [h2]
 ·rw [h1] at hn0
  have y8i : q0k Cx 108 [.str s, .int .i64 0] (.tuple [.int .i64 n, .int .i64 (k : Int), .int .i64 0]) := hn0
  have zz : ((0 : Int) != 0) = false := rfl
  have p0 : (0 : Int) ≤ (k : Int) := by omega
  by_cases h58 : s[k]? = some 58
  ·have hlt : k < s.length := (List.getElem?_eq_some_iff.mp h58).1
   have c0 : (k : Int) < (s.length : Int) := by omega
   have z58 : (((58 : UInt8).toNat : Int) == 58) = true := rfl
   have hn1 := z9c (s := s) (p := k + 1) hs (by omega)
   have w1' := w1 k hk
   rcases x5x s (k + 1) (by omega) with ⟨e, e', he, h3, h4⟩ | ⟨m, m', j, h3, h4, hj, hmm, hml, hmh⟩
   ·refine ⟨zV, 0, e, go _ ?_, .inl ⟨.inl he, ?_⟩⟩
    ·intro T t0 t2
     rw [h3] at hn1
     have v1d : q0k Cx 108 [.str s, .int .i64 ((k + 1 : Nat) : Int)] (.tuple [.int .i64 0, .int .i64 0, .int .i64 e]) := hn1
     have z : (e != 0) = true := by simpa using he
     simp only [t0, t2, z, zz, c0, p0, h58, z58, w1', q0n, Int.toNat_natCast, q0a z0b rfl y8i, q0a z0b rfl v1d, i64, r91_0.2.1, r91_0.2.2.1, z0a, tt, bb, bc, ↓bd, Nat.reduceEqDiff, Nat.reduceAdd, Nat.reduceLeDiff, ↓reduceIte, reduceCtorEq]
     try rfl
    ·unfold j1a
     rw [hpx]
     unfold q2o
     rw [h2]
     simp only
     rw [if_pos h58, h4]
   ·have y0j : ∃ v n3 e3, (if okV (pV n m) then AV.tuple [q1o (pV n m), .int .i64 (j : Int), .int .i64 0] else x6y 14) = .tuple [q1o v, .int .i64 n3, .int .i64 e3] ∧ (e3 ≠ 0 ∨ v.k ≠ 0) := by
     cases okV (pV n m) with
     | true => exact ⟨pV n m, (j : Int), 0, rfl, .inr (by intro h; cases h)⟩
     | false => exact ⟨zV, 0, 14, rfl, .inl (by decide)⟩
    obtain ⟨v, n2, e2, hr, q9c⟩ := y0j
    refine ⟨v, n2, e2, ?_, .inl ⟨q9c.imp id .inr, ?_⟩⟩
    ·rw [← hr]
     refine go _ ?_
     intro T t0 t2
     rw [h3] at hn1
     have v1d : q0k Cx 108 [.str s, .int .i64 ((k + 1 : Nat) : Int)] (.tuple [.int .i64 m, .int .i64 (j : Int), .int .i64 0]) := hn1
     simp only [t0, zz, c0, p0, h58, z58, w1', q0n, Int.toNat_natCast, q0a z0b rfl y8i, q0a z0b rfl v1d, i64, r91_0.2.1, r91_0.2.2.1, tt, bb, bc, ↓bd, Nat.reduceEqDiff, Nat.reduceAdd, Nat.reduceLeDiff, ↓reduceIte, reduceCtorEq]
     refine j6v hs (pV n m) j _ _ _ (Nat.le_refl 2) ?_ ?_ ?_ ?_ ?_ ?_
     all_goals simp only [q0b, t0, t2, Nat.reduceEqDiff, ↓reduceIte]
    ·unfold j1a
     rw [hpx]
     unfold q2o
     rw [h2]
     simp only
     rw [if_pos h58, h4]
     simp only
     split
     ·rename_i v i heq
      split at heq
      ·cases heq
       rw [if_neg (by rintro ⟨-, h⟩; cases h)]
      ·cases heq
     ·rfl
  ·have tail : ∀ rr, rr = (if okV (nV n) then AV.tuple [q1o (nV n), .int .i64 (k : Int), .int .i64 0] else x6y 14) → q0k Cx 91 [.str s] rr := by
    rintro rr rfl
    refine go _ ?_
    intro T t0 t2
    by_cases hlt : k < s.length
    ·have c0 : (k : Int) < (s.length : Int) := by omega
     have hg : s[k]? = some s[k] := List.getElem?_eq_getElem hlt
     rw [hg] at h58
     generalize s[k] = d at hg h58
     have z58 : ((d.toNat : Int) == 58) = false := q9f (n := 58) (by decide) (fun h => h58 (by rw [h]; rfl))
     simp only [t0, zz, c0, p0, hg, z58, q0n, Int.toNat_natCast, q0a z0b rfl y8i, i64, r91_0.2.1, r91_0.2.2.1, tt, bb, bc, ↓bd, Nat.reduceEqDiff, Nat.reduceAdd, Nat.reduceLeDiff, ↓reduceIte, reduceCtorEq]
     refine j6v hs (nV n) k _ _ _ (Nat.le_refl 2) ?_ ?_ ?_ ?_ ?_ ?_
     all_goals simp only [q0b, t0, t2, Nat.reduceEqDiff, ↓reduceIte]
    ·have c0 : ¬ (k : Int) < (s.length : Int) := by omega
     simp only [t0, zz, c0, q0a z0b rfl y8i, i64, r91_0.2.1, r91_0.2.2.1, tt, bb, bc, ↓bd, Nat.reduceEqDiff, Nat.reduceAdd, Nat.reduceLeDiff, ↓reduceIte, reduceCtorEq]
     refine j6v hs (nV n) k _ _ _ (Nat.le_refl 2) ?_ ?_ ?_ ?_ ?_ ?_
     all_goals simp only [q0b, t0, t2, Nat.reduceEqDiff, ↓reduceIte]
   have en : j1a s = match (if okV ⟨0, n', [], 0, 0⟩ then Except.ok (⟨0, n', [], 0, 0⟩, k) else Except.error 14 : Except Int (Vl × Nat)) with
    | .ok (v, n) => if n = s.length ∧ v.k = 0 then .val v else .bad 6
    | .error _ => .bad 6 := by
    unfold j1a
    rw [hpx]
    unfold q2o
    rw [h2]
    simp only
    rw [if_neg h58]
    rfl
   rcases hnn with rfl | ⟨b1, b2⟩
   ·cases ho : okV (nV n) with
    | false =>
     refine ⟨zV, 0, 14, tail _ (by rw [ho]; rfl), .inl ⟨.inl (by decide), ?_⟩⟩
     rw [en, if_neg (by rw [ho]; simp)]
    | true =>
     rw [if_pos ho] at en
     by_cases hkl : k = s.length
     ·refine ⟨nV n, k, 0, tail _ (by rw [ho]; rfl), .inr ⟨rfl, by omega, rfl, ?_⟩⟩
      rw [en]
      simp only
      rw [if_pos ⟨hkl, by first | rfl | trivial⟩]
     ·refine ⟨nV n, k, 0, tail _ (by rw [ho]; rfl), .inl ⟨.inr (.inl (by omega)), ?_⟩⟩
      rw [en]
      simp only
      rw [if_neg (fun h => hkl h.1)]
   ·have ho := y2u b1
    have ho' := y2u b2
    refine ⟨zV, 0, 14, tail _ (by rw [ho]; rfl), .inl ⟨.inl (by decide), ?_⟩⟩
    rw [en, if_neg (by rw [ho']; simp)]
theorem x5y {s : Bytes} (hs : s.length ≤ 1000000) : ∃ (v : Vl) (n e : Int), q0k Cx 91 [.str s] (.tuple [q1o v, .int .i64 n, .int .i64 e]) ∧ w6r s v n e := by
 cases s with
 | nil =>
  refine ⟨zV, 0, 10, ?_, .inl ⟨.inl (by decide), rfl⟩⟩
  refine q0c (q0l _) j7z ?_
  have z : (([] : Bytes) == []) = true := rfl
  simp only [z, r91_0, z0a, tt, bb, bc, ↓bd, Nat.reduceEqDiff, Nat.reduceAdd, ↓reduceIte, reduceCtorEq]
  try rfl
 | cons c r =>
  have g0 : (c :: r)[0]? = some c := rfl
  have z0 : ((c :: r) == []) = false := rfl
  have z0' : ((c :: r).length == 0) = false := rfl
  by_cases h34 : c = 34
  ·subst h34
   obtain ⟨rr, ⟨v, n, e, rfl, q9c⟩, hr⟩ := w6p hs ((34 :: r).length - 1) 1 [] (Nat.le_refl _) (by simp) (by simp)
   refine ⟨v, n, e, ?_, .inl ⟨q9c.imp id .inr, ?_⟩⟩
   ·refine q0c (q0l _) j7z ?_
    have z : (((34 : UInt8).toNat : Int) != 34) = false := rfl
    simp only [g0, z0, z, q0n, Int.toNat_zero, r91_0.1, r91_0.2.2.2.2.1, tt, bb, ↓bd, Nat.reduceEqDiff, ↓reduceIte, reduceCtorEq, Int.reduceLE]
    refine hr _ _ _ .nilS ?_ ?_ ?_ ?_ ?_ (.inl ⟨rfl, rfl⟩) ?_
    rotate_left
    all_goals try simp only [q0b, q1g, List.getElem?_cons_zero, Option.getD_some, Nat.reduceEqDiff, ↓reduceIte]
    all_goals try rfl
    all_goals omega
   ·unfold j1a
    rw [q4f, if_pos rfl]
    cases txX r [] 1 with
    | error e => rfl
    | ok p =>
     obtain ⟨t, i⟩ := p
     simp only
     rw [if_neg (by rintro ⟨-, h⟩; cases h)]
  ·have z34 : ((c.toNat : Int) != 34) = true := by rw [bne, show ((c.toNat : Int) == 34) = false from q9f (n := 34) (by decide) h34]; rfl
   by_cases hq : c = 45 ∨ dg c = true
   ·have hpx : z1h (c :: r) = q2o (c :: r) := by rw [q4f, if_neg h34, if_pos hq]
    have go : ∀ rr, (∀ (T : Nat → AV), T 0 = .str (c :: r) → T 2 = .ptr 0 5 0 0 → Run Cx 91 T [] none [.code c91_14, .code c91_56] ⟨1, upd AHeap.empty.at_ 0 (.cells 26 5 [[.int .i64 0, .int .i64 0, .str [], .int .i64 0, .int .i64 0]])⟩ (fun r0 H' => BX.freeze H' r0 = some rr)) → q0k Cx 91 [.str (c :: r)] rr := by
     intro rr h
     refine q0c (q0l _) j7z ?_
     rcases hq with h45 | hdg
     ·subst h45
      have z1 : (((45 : UInt8).toNat : Int) != 45) = false := rfl
      simp only [g0, z0, z34, z1, q0n, Int.toNat_zero, r91_0.1, tt, bb, ↓bd, Nat.reduceEqDiff, ↓reduceIte, reduceCtorEq, Int.reduceLE]
      refine h _ ?_ ?_
      all_goals simp only [q0b, q1g, List.getElem?_cons_zero, Option.getD_some, Nat.reduceEqDiff, ↓reduceIte]
     ·have hdg' := hdg
      unfold dg z7b at hdg'
      simp only [Bool.and_eq_true, decide_eq_true_eq] at hdg'
      have c1 : ¬ (c.toNat : Int) < 48 := by omega
      have c2 : ¬ (57 : Int) < (c.toNat : Int) := by omega
      have z1 : ((c.toNat : Int) != 45) = true := by simp; omega
      simp only [g0, z0, z34, z1, c1, c2, q0n, Int.toNat_zero, r91_0.1, tt, bb, ↓bd, Nat.reduceEqDiff, ↓reduceIte, reduceCtorEq, Int.reduceLE]
      refine h _ ?_ ?_
      all_goals simp only [q0b, q1g, List.getElem?_cons_zero, Option.getD_some, Nat.reduceEqDiff, ↓reduceIte]
    exact w6s hs go hpx
   ·have z1 : ((c.toNat : Int) != 45) = true := by
     rw [bne, show ((c.toNat : Int) == 45) = false from q9f (n := 45) (by decide) (fun h => hq (.inl h))]; rfl
    have hdg : dg c = false := by
     cases h : dg c with
     | false => rfl
     | true => exact absurd (.inr h) hq
    refine ⟨zV, 0, 10, ?_, .inl ⟨.inl (by decide), ?_⟩⟩
    ·refine q0c (q0l _) j7z ?_
     unfold dg z7b at hdg
     by_cases c1 : (c.toNat : Int) < 48
     ·simp only [g0, z0, z34, z1, c1, q0n, Int.toNat_zero, r91_0, z0a, tt, bb, bc, ↓bd, Nat.reduceEqDiff, Nat.reduceAdd, ↓reduceIte, reduceCtorEq, Int.reduceLE]
      try rfl
     ·have c2 : (57 : Int) < (c.toNat : Int) := by
       rw [Bool.and_eq_false_iff, decide_eq_false_iff_not, decide_eq_false_iff_not] at hdg
       omega
      simp only [g0, z0, z34, z1, c1, c2, q0n, Int.toNat_zero, r91_0, z0a, tt, bb, bc, ↓bd, Nat.reduceEqDiff, Nat.reduceAdd, ↓reduceIte, reduceCtorEq, Int.reduceLE]
      try rfl
    ·unfold j1a
     rw [q4f, if_neg h34, if_neg hq]
section
theorem v0o {M : Mch} {n g : Nat} {A : Nat → Blk} {s : St} {vs : List Vl} {a : Vl} (h : MR M n A s) (ha : AS M g n A vs) (hf : vs[0]? = some a) (hl : vs.length = 2)
  (q9c : q1p [1, 1] vs = false → ∀ n' A', MR M n' A' (q1f 13 s) → Keep M.b n A A' → n ≤ n' → q0d Cx fn (putA T dst (q1o zV)) ds ro os k ⟨n', A'⟩ Q)
  (hgo : q1p [1, 1] vs = true → ∀ n' A' T', MR M n' A' s → AS M g n' A' vs → Keep M.b (n + 1) (upd A n zB) A' → n + 1 ≤ n' → T' 0 = .ptr M.b 22 0 0 → T' 1 = .str (q0e 14) → T' 2 = .slc g 5 0 2 → T' 6 = .ptr n 5 0 0 → T' 8 = .str a.s →
   Run Cx 64 T' [] none [.code c64_45] ⟨n', A'⟩ (fun r H1 => q0d Cx fn (putA T dst r) ds ro os k H1 Q)) :
  q0g Cx fn T ds ro 64 [.ptr M.b 22 0 0, .str (q0e 14), .slc g 5 0 2] dst os k ⟨n, A⟩ Q := by
 refine q0s z6h (q0l _) z6g ?_
 have hb := h.lt
 have hI : IS M (n + 1 + 1) (n + 1 + 1 + 1) (upd (upd (upd A n zB) (n + 1) (.cells 3 1 [[.int .i64 1]])) (n + 1 + 1) (.cells 3 1 [[.int .i64 1], [.int .i64 1]])) [1, 1] := ⟨by omega, by omega, by rw [q0b, if_pos rfl]; rfl⟩
 simp only [y8b, xx, r64_0.1, r64_0.2.1, tt, bb, bc, ↓bd, Nat.reduceEqDiff, Nat.reduceAdd, Nat.reduceMul, Nat.reduceLeDiff, ↓reduceIte, reduceCtorEq, List.reduceReplicate]
 refine q1w (ks := [1, 1]) (vs := vs) (((h.up1 _).up1 _).up1 _) (((ha.up1 _).up1 _).up1 _) hI (by rw [hl]; decide) (by rw [hl]; decide) hl.symm rfl ?_
 intro n' A' hm' hkp hn
 have q1y := (((Keep.refl M.b (n + 1) (upd A n zB)).up1 (Nat.le_refl _) (.cells 3 1 [[.int .i64 1]])).up1 (n' := n + 1 + 1) (by omega) (.cells 3 1 [[.int .i64 1], [.int .i64 1]])).trans (by omega) hkp
 have hc := q0f hb q1y
 cases e : q1p [1, 1] vs with
 | false =>
  rw [e, if_neg (by decide)] at hm'
  simp only [hc, q5p, tt, bb, bc, ↓bd, Nat.reduceEqDiff, Nat.reduceAdd, ↓reduceIte]
  exact q0t hb hm' q1y (by omega) (q9c e)
 | true =>
  rw [e, if_pos rfl] at hm'
  have ha' := (((ha.up1 _).up1 _).up1 _).keep (by omega) hkp
  have hg := ha'.cell
  have g0 := q2x hf
  simp only [hg, g0, Int.toNat_zero, tt, bb, ↓bd, Nat.reduceEqDiff, ↓reduceIte, Int.reduceLT, Int.reduceLE]
  refine hgo e n' A' _ hm' ha' q1y (by omega) ?_ ?_ ?_ ?_ ?_
  all_goals simp only [q0b, q1g, qez, Nat.reduceEqDiff, ↓reduceIte]
theorem v0p {M : Mch} {n g : Nat} {A : Nat → Blk} {s : St} {vs : List Vl} {a : Vl} (h : MR M n A s) (ha : AS M g n A vs) (hf : vs[0]? = some a) (hl : vs.length = 1)
  (q9c : q1p [1] vs = false → ∀ n' A', MR M n' A' (q1f 13 s) → Keep M.b n A A' → n ≤ n' → q0d Cx fn (putA T dst (q1o zV)) ds ro os k ⟨n', A'⟩ Q)
  (hgo : q1p [1] vs = true → ∀ n' A' T', MR M n' A' s → AS M g n' A' vs → Keep M.b (n + 1) (upd A n zB) A' → n + 1 ≤ n' → T' 0 = .ptr M.b 22 0 0 → T' 1 = .str (q0e 15) → T' 2 = .slc g 5 0 1 → T' 6 = .ptr n 5 0 0 → T' 8 = .str a.s →
   Run Cx 64 T' [] none [.code c64_45] ⟨n', A'⟩ (fun r H1 => q0d Cx fn (putA T dst r) ds ro os k H1 Q)) :
  q0g Cx fn T ds ro 64 [.ptr M.b 22 0 0, .str (q0e 15), .slc g 5 0 1] dst os k ⟨n, A⟩ Q := by
 refine q0s z6h (q0l _) z6g ?_
 have hb := h.lt
 have hI : IS M (n + 1) (n + 1 + 1) (upd (upd A n zB) (n + 1) (.cells 3 1 [[.int .i64 1]])) [1] := ⟨by omega, by omega, by rw [q0b, if_pos rfl]; rfl⟩
 simp only [w7w, xx, r64_0.1, r64_0.2.1, r64_0.2.2.1, tt, bb, bc, ↓bd, Nat.reduceEqDiff, Nat.reduceMul, Nat.reduceLeDiff, ↓reduceIte, reduceCtorEq, List.reduceReplicate]
 refine q1w (ks := [1]) (vs := vs) ((h.up1 _).up1 _) ((ha.up1 _).up1 _) hI (by rw [hl]; decide) (by rw [hl]; decide) hl.symm rfl ?_
 intro n' A' hm' hkp hn
 have q1y := ((Keep.refl M.b (n + 1) (upd A n zB)).up1 (Nat.le_refl _) (.cells 3 1 [[.int .i64 1]])).trans (by omega) hkp
 have hc := q0f hb q1y
 cases e : q1p [1] vs with
 | false =>
  rw [e, if_neg (by decide)] at hm'
  simp only [hc, q5p, tt, bb, bc, ↓bd, Nat.reduceEqDiff, Nat.reduceAdd, ↓reduceIte]
  exact q0t hb hm' q1y (by omega) (q9c e)
 | true =>
  rw [e, if_pos rfl] at hm'
  have ha' := ((ha.up1 _).up1 _).keep (by omega) hkp
  have hg := ha'.cell
  have g0 := q2x hf
  simp only [hg, g0, Int.toNat_zero, tt, bb, ↓bd, Nat.reduceEqDiff, ↓reduceIte, Int.reduceLT, Int.reduceLE]
  refine hgo e n' A' _ hm' ha' q1y (by omega) ?_ ?_ ?_ ?_ ?_
  all_goals simp only [q0b, q1g, qez, Nat.reduceEqDiff, ↓reduceIte]
theorem v0q {M : Mch} {n g : Nat} {A : Nat → Blk} {s : St} {vs : List Vl} {a : Vl} (h : MR M n A s) (ha : AS M g n A vs) (hf : vs[0]? = some a) (hl : vs.length = 3)
  (q9c : q1p [1, 0, 0] vs = false → ∀ n' A', MR M n' A' (q1f 13 s) → Keep M.b n A A' → n ≤ n' → q0d Cx fn (putA T dst (q1o zV)) ds ro os k ⟨n', A'⟩ Q)
  (hgo : q1p [1, 0, 0] vs = true → ∀ n' A' T', MR M n' A' s → AS M g n' A' vs → Keep M.b (n + 1) (upd A n zB) A' → n + 1 ≤ n' → T' 0 = .ptr M.b 22 0 0 → T' 1 = .str (q0e 16) → T' 2 = .slc g 5 0 3 → T' 6 = .ptr n 5 0 0 → T' 8 = .str a.s →
   Run Cx 64 T' [] none [.code c64_45] ⟨n', A'⟩ (fun r H1 => q0d Cx fn (putA T dst r) ds ro os k H1 Q)) :
  q0g Cx fn T ds ro 64 [.ptr M.b 22 0 0, .str (q0e 16), .slc g 5 0 3] dst os k ⟨n, A⟩ Q := by
 refine q0s z6h (q0l _) z6g ?_
 have hb := h.lt
 have hI : IS M (n + 1 + 1) (n + 1 + 1 + 1) (upd (upd (upd A n zB) (n + 1) (.cells 3 1 [[.int .i64 1]])) (n + 1 + 1) (.cells 3 1 [[.int .i64 1], [.int .i64 0], [.int .i64 0]])) [1, 0, 0] := ⟨by omega, by omega, by rw [q0b, if_pos rfl]; rfl⟩
 simp only [x6u, xx, r64_0.1, r64_0.2.1, r64_0.2.2.1, tt, bb, bc, ↓bd, Nat.reduceEqDiff, Nat.reduceAdd, Nat.reduceMul, Nat.reduceLeDiff, ↓reduceIte, reduceCtorEq, List.reduceReplicate]
 refine q1w (ks := [1, 0, 0]) (vs := vs) (((h.up1 _).up1 _).up1 _) (((ha.up1 _).up1 _).up1 _) hI (by rw [hl]; decide) (by rw [hl]; decide) hl.symm rfl ?_
 intro n' A' hm' hkp hn
 have q1y := (((Keep.refl M.b (n + 1) (upd A n zB)).up1 (Nat.le_refl _) (.cells 3 1 [[.int .i64 1]])).up1 (n' := n + 1 + 1) (by omega) (.cells 3 1 [[.int .i64 1], [.int .i64 0], [.int .i64 0]])).trans (by omega) hkp
 have hc := q0f hb q1y
 cases e : q1p [1, 0, 0] vs with
 | false =>
  rw [e, if_neg (by decide)] at hm'
  simp only [hc, q5p, tt, bb, bc, ↓bd, Nat.reduceEqDiff, Nat.reduceAdd, ↓reduceIte]
  exact q0t hb hm' q1y (by omega) (q9c e)
 | true =>
  rw [e, if_pos rfl] at hm'
  have ha' := (((ha.up1 _).up1 _).up1 _).keep (by omega) hkp
  have hg := ha'.cell
  have g0 := q2x hf
  simp only [hg, g0, Int.toNat_zero, tt, bb, ↓bd, Nat.reduceEqDiff, ↓reduceIte, Int.reduceLT, Int.reduceLE]
  refine hgo e n' A' _ hm' ha' q1y (by omega) ?_ ?_ ?_ ?_ ?_
  all_goals simp only [q0b, q1g, qez, Nat.reduceEqDiff, ↓reduceIte]
theorem v0r {M : Mch} {n g : Nat} {A : Nat → Blk} {s : St} {vs : List Vl} {a : Vl} (h : MR M n A s) (ha : AS M g n A vs) (hf : vs[0]? = some a) (hl : vs.length = 2)
  (q9c : q1p [1, 0] vs = false → ∀ n' A', MR M n' A' (q1f 13 s) → Keep M.b n A A' → n ≤ n' → q0d Cx fn (putA T dst (q1o zV)) ds ro os k ⟨n', A'⟩ Q)
  (hgo : q1p [1, 0] vs = true → ∀ n' A' T', MR M n' A' s → AS M g n' A' vs → Keep M.b (n + 1) (upd A n zB) A' → n + 1 ≤ n' → T' 0 = .ptr M.b 22 0 0 → T' 1 = .str (q0e 17) → T' 2 = .slc g 5 0 2 → T' 6 = .ptr n 5 0 0 → T' 8 = .str a.s →
   Run Cx 64 T' [] none [.code c64_45] ⟨n', A'⟩ (fun r H1 => q0d Cx fn (putA T dst r) ds ro os k H1 Q)) :
  q0g Cx fn T ds ro 64 [.ptr M.b 22 0 0, .str (q0e 17), .slc g 5 0 2] dst os k ⟨n, A⟩ Q := by
 refine q0s z6h (q0l _) z6g ?_
 have hb := h.lt
 have hI : IS M (n + 1 + 1) (n + 1 + 1 + 1) (upd (upd (upd A n zB) (n + 1) (.cells 3 1 [[.int .i64 1]])) (n + 1 + 1) (.cells 3 1 [[.int .i64 1], [.int .i64 0]])) [1, 0] := ⟨by omega, by omega, by rw [q0b, if_pos rfl]; rfl⟩
 simp only [y1y, xx, r64_0.1, r64_0.2.1, tt, bb, bc, ↓bd, Nat.reduceEqDiff, Nat.reduceAdd, Nat.reduceMul, Nat.reduceLeDiff, ↓reduceIte, reduceCtorEq, List.reduceReplicate]
 refine q1w (ks := [1, 0]) (vs := vs) (((h.up1 _).up1 _).up1 _) (((ha.up1 _).up1 _).up1 _) hI (by rw [hl]; decide) (by rw [hl]; decide) hl.symm rfl ?_
 intro n' A' hm' hkp hn
 have q1y := (((Keep.refl M.b (n + 1) (upd A n zB)).up1 (Nat.le_refl _) (.cells 3 1 [[.int .i64 1]])).up1 (n' := n + 1 + 1) (by omega) (.cells 3 1 [[.int .i64 1], [.int .i64 0]])).trans (by omega) hkp
 have hc := q0f hb q1y
 cases e : q1p [1, 0] vs with
 | false =>
  rw [e, if_neg (by decide)] at hm'
  simp only [hc, q5p, tt, bb, bc, ↓bd, Nat.reduceEqDiff, Nat.reduceAdd, ↓reduceIte]
  exact q0t hb hm' q1y (by omega) (q9c e)
 | true =>
  rw [e, if_pos rfl] at hm'
  have ha' := (((ha.up1 _).up1 _).up1 _).keep (by omega) hkp
  have hg := ha'.cell
  have g0 := q2x hf
  simp only [hg, g0, Int.toNat_zero, tt, bb, ↓bd, Nat.reduceEqDiff, ↓reduceIte, Int.reduceLT, Int.reduceLE]
  refine hgo e n' A' _ hm' ha' q1y (by omega) ?_ ?_ ?_ ?_ ?_
  all_goals simp only [q0b, q1g, qez, Nat.reduceEqDiff, ↓reduceIte]
theorem v0s {M : Mch} {n g : Nat} {A : Nat → Blk} {s : St} {vs : List Vl} {a : Vl} (h : MR M n A s) (ha : AS M g n A vs) (hf : vs[0]? = some a) (hl : vs.length = 1)
  (q9c : q1p [1] vs = false → ∀ n' A', MR M n' A' (q1f 13 s) → Keep M.b n A A' → n ≤ n' → q0d Cx fn (putA T dst (q1o zV)) ds ro os k ⟨n', A'⟩ Q)
  (hgo : q1p [1] vs = true → ∀ n' A' T', MR M n' A' s → AS M g n' A' vs → Keep M.b (n + 1) (upd A n zB) A' → n + 1 ≤ n' → T' 0 = .ptr M.b 22 0 0 → T' 1 = .str (q0e 18) → T' 2 = .slc g 5 0 1 → T' 6 = .ptr n 5 0 0 → T' 8 = .str a.s →
   Run Cx 64 T' [] none [.code c64_45] ⟨n', A'⟩ (fun r H1 => q0d Cx fn (putA T dst r) ds ro os k H1 Q)) :
  q0g Cx fn T ds ro 64 [.ptr M.b 22 0 0, .str (q0e 18), .slc g 5 0 1] dst os k ⟨n, A⟩ Q := by
 refine q0s z6h (q0l _) z6g ?_
 have hb := h.lt
 have hI : IS M (n + 1) (n + 1 + 1) (upd (upd A n zB) (n + 1) (.cells 3 1 [[.int .i64 1]])) [1] := ⟨by omega, by omega, by rw [q0b, if_pos rfl]; rfl⟩
 simp only [w7x, xx, r64_0.1, r64_0.2.1, r64_0.2.2.1, tt, bb, bc, ↓bd, Nat.reduceEqDiff, Nat.reduceMul, Nat.reduceLeDiff, ↓reduceIte, reduceCtorEq, List.reduceReplicate]
 refine q1w (ks := [1]) (vs := vs) ((h.up1 _).up1 _) ((ha.up1 _).up1 _) hI (by rw [hl]; decide) (by rw [hl]; decide) hl.symm rfl ?_
 intro n' A' hm' hkp hn
 have q1y := ((Keep.refl M.b (n + 1) (upd A n zB)).up1 (Nat.le_refl _) (.cells 3 1 [[.int .i64 1]])).trans (by omega) hkp
 have hc := q0f hb q1y
 cases e : q1p [1] vs with
 | false =>
  rw [e, if_neg (by decide)] at hm'
  simp only [hc, q5p, tt, bb, bc, ↓bd, Nat.reduceEqDiff, Nat.reduceAdd, ↓reduceIte]
  exact q0t hb hm' q1y (by omega) (q9c e)
 | true =>
  rw [e, if_pos rfl] at hm'
  have ha' := ((ha.up1 _).up1 _).keep (by omega) hkp
  have hg := ha'.cell
  have g0 := q2x hf
  simp only [hg, g0, Int.toNat_zero, tt, bb, ↓bd, Nat.reduceEqDiff, ↓reduceIte, Int.reduceLT, Int.reduceLE]
  refine hgo e n' A' _ hm' ha' q1y (by omega) ?_ ?_ ?_ ?_ ?_
  all_goals simp only [q0b, q1g, qez, Nat.reduceEqDiff, ↓reduceIte]
theorem v0t {M : Mch} {n g : Nat} {A : Nat → Blk} {s : St} {vs : List Vl} {a : Vl} (h : MR M n A s) (ha : AS M g n A vs) (hf : vs[0]? = some a) (hl : vs.length = 1)
  (q9c : q1p [1] vs = false → ∀ n' A', MR M n' A' (q1f 13 s) → Keep M.b n A A' → n ≤ n' → q0d Cx fn (putA T dst (q1o zV)) ds ro os k ⟨n', A'⟩ Q)
  (hgo : q1p [1] vs = true → ∀ n' A' T', MR M n' A' s → AS M g n' A' vs → Keep M.b (n + 1) (upd A n zB) A' → n + 1 ≤ n' → T' 0 = .ptr M.b 22 0 0 → T' 1 = .str (q0e 19) → T' 2 = .slc g 5 0 1 → T' 6 = .ptr n 5 0 0 → T' 8 = .str a.s →
   Run Cx 64 T' [] none [.code c64_45] ⟨n', A'⟩ (fun r H1 => q0d Cx fn (putA T dst r) ds ro os k H1 Q)) :
  q0g Cx fn T ds ro 64 [.ptr M.b 22 0 0, .str (q0e 19), .slc g 5 0 1] dst os k ⟨n, A⟩ Q := by
 refine q0s z6h (q0l _) z6g ?_
 have hb := h.lt
 have hI : IS M (n + 1) (n + 1 + 1) (upd (upd A n zB) (n + 1) (.cells 3 1 [[.int .i64 1]])) [1] := ⟨by omega, by omega, by rw [q0b, if_pos rfl]; rfl⟩
 simp only [x6v, xx, r64_0.1, r64_0.2.1, r64_0.2.2.1, tt, bb, bc, ↓bd, Nat.reduceEqDiff, Nat.reduceMul, Nat.reduceLeDiff, ↓reduceIte, reduceCtorEq, List.reduceReplicate]
 refine q1w (ks := [1]) (vs := vs) ((h.up1 _).up1 _) ((ha.up1 _).up1 _) hI (by rw [hl]; decide) (by rw [hl]; decide) hl.symm rfl ?_
 intro n' A' hm' hkp hn
 have q1y := ((Keep.refl M.b (n + 1) (upd A n zB)).up1 (Nat.le_refl _) (.cells 3 1 [[.int .i64 1]])).trans (by omega) hkp
 have hc := q0f hb q1y
 cases e : q1p [1] vs with
 | false =>
  rw [e, if_neg (by decide)] at hm'
  simp only [hc, q5p, tt, bb, bc, ↓bd, Nat.reduceEqDiff, Nat.reduceAdd, ↓reduceIte]
  exact q0t hb hm' q1y (by omega) (q9c e)
 | true =>
  rw [e, if_pos rfl] at hm'
  have ha' := ((ha.up1 _).up1 _).keep (by omega) hkp
  have hg := ha'.cell
  have g0 := q2x hf
  simp only [hg, g0, Int.toNat_zero, tt, bb, ↓bd, Nat.reduceEqDiff, ↓reduceIte, Int.reduceLT, Int.reduceLE]
  refine hgo e n' A' _ hm' ha' q1y (by omega) ?_ ?_ ?_ ?_ ?_
  all_goals simp only [q0b, q1g, qez, Nat.reduceEqDiff, ↓reduceIte]
end
section
theorem s_15 {M : Mch} {n g : Nat} {A : Nat → Blk} {s : St} {a : Vl} (h : MR M n A s) (he : s.err = 0) (ha : AS M g n A [a]) (oa : okV a = true)
  (hk : ∀ n' A', MR M n' A' (q1v (ap1 15 a) s).2 → Keep M.b n A A' → n ≤ n' → q0d Cx fn (putA T dst (q1o (q1v (ap1 15 a) s).1)) ds ro os k ⟨n', A'⟩ Q) :
  q0g Cx fn T ds ro 64 [.ptr M.b 22 0 0, .str (q0e 15), .slc g 5 0 1] dst os k ⟨n, A⟩ Q := by
 have hb := h.lt
 have eap : ap1 15 a = if a.k = 1 then .val (nV a.s.length) else .bad 13 := rfl
 rw [eap] at hk
 refine v0p h ha rfl rfl ?_ ?_
 ·intro e
  have hnn : ¬ (a.k = 1) := by
   intro hh
   rw [show q1p [1] [a] = true from by simp [q1p, hh]] at e
   cases e
  rw [if_neg hnn, q0m he] at hk
  exact fun n' A' hm hkp hn => hk n' A' hm hkp hn
 ·intro e n' A' T' hm ha' hkp hn t0 t1 t2 t6 t8
  have hh : a.k = 1 := by simpa [q1p] using e
  rw [if_pos hh] at hk
  have hc := q0f hb hkp
  simp only [w7w, t1, t6, t8, hc, q0a q3q rfl (q1s (a.s.length : Int)), i64, r64_0, q5p, tt, bb, bc, ↓bd, Nat.reduceEqDiff, Nat.reduceAdd, ↓reduceIte]
  exact q0t hb hm hkp hn hk
theorem s_18 {M : Mch} {n g : Nat} {A : Nat → Blk} {s : St} {a : Vl} (h : MR M n A s) (he : s.err = 0) (ha : AS M g n A [a]) (oa : okV a = true)
  (hk : ∀ n' A', MR M n' A' (q1v (ap1 18 a) s).2 → Keep M.b n A A' → n ≤ n' → q0d Cx fn (putA T dst (q1o (q1v (ap1 18 a) s).1)) ds ro os k ⟨n', A'⟩ Q) :
  q0g Cx fn T ds ro 64 [.ptr M.b 22 0 0, .str (q0e 18), .slc g 5 0 1] dst os k ⟨n, A⟩ Q := by
 have hb := h.lt
 have eap : ap1 18 a = if a.k = 1 then .val (nV (q1u a.s).length) else .bad 13 := rfl
 rw [eap] at hk
 refine v0s h ha rfl rfl ?_ ?_
 ·intro e
  have hnn : ¬ (a.k = 1) := by
   intro hh
   rw [show q1p [1] [a] = true from by simp [q1p, hh]] at e
   cases e
  rw [if_neg hnn, q0m he] at hk
  exact fun n' A' hm hkp hn => hk n' A' hm hkp hn
 ·intro e n' A' T' hm ha' hkp hn t0 t1 t2 t6 t8
  have hh : a.k = 1 := by simpa [q1p] using e
  rw [if_pos hh] at hk
  have hc := q0f hb hkp
  have hw := j4j (s := a.s) (by have := z7o oa hh; omega)
  have hl := x5s (q1u a.s)
  simp only [BX.lenOf] at hl
  simp only [w7x, t1, t6, t8, hc, hl, Option.map_some, q0i, q0a j7y rfl hw, q0a q3q rfl (q1s ((q1u a.s).length : Int)), i64, r64_0, q5p, tt, bb, bc, ↓bd, Nat.reduceEqDiff, Nat.reduceAdd, ↓reduceIte]
  exact q0t hb hm hkp hn hk
theorem s_14 {M : Mch} {n g : Nat} {A : Nat → Blk} {s : St} {a b : Vl} (h : MR M n A s) (he : s.err = 0) (ha : AS M g n A [a, b]) (oa : okV a = true) (ob : okV b = true)
  (hk : ∀ n' A', MR M n' A' (q1v (ap2 14 a b s.out.length) s).2 → Keep M.b n A A' → n ≤ n' → q0d Cx fn (putA T dst (q1o (q1v (ap2 14 a b s.out.length) s).1)) ds ro os k ⟨n', A'⟩ Q) :
  q0g Cx fn T ds ro 64 [.ptr M.b 22 0 0, .str (q0e 14), .slc g 5 0 2] dst os k ⟨n, A⟩ Q := by
 have hb := h.lt
 have eap : ap2 14 a b s.out.length = if a.k = 1 ∧ b.k = 1 then (if a.s.length + b.s.length ≤ 4096 then .val (tV (a.s ++ b.s)) else .bad 3) else .bad 13 := rfl
 rw [eap] at hk
 refine v0o h ha rfl rfl ?_ ?_
 ·intro e
  have hnn : ¬ (a.k = 1 ∧ b.k = 1) := by
   intro hh
   rw [show q1p [1, 1] [a, b] = true from by simp [q1p, hh]] at e
   cases e
  rw [if_neg hnn, q0m he] at hk
  exact fun n' A' hm hkp hn => hk n' A' hm hkp hn
 ·intro e n' A' T' hm ha' hkp hn t0 t1 t2 t6 t8
  have hh : a.k = 1 ∧ b.k = 1 := by simpa [q1p] using e
  rw [if_pos hh] at hk
  have hc := q0f hb hkp
  have hg := ha'.cell
  have g1 := q2x (show [a, b][1]? = some b from rfl)
  have la := z7o oa hh.1
  have lb := z7o ob hh.2
  have c9 : a.s.length + b.s.length ≤ 9223372036854775807 := by omega
  have w1 : IntKind.i64.wrap ((a.s.length : Int) + (b.s.length : Int)) = (a.s.length : Int) + (b.s.length : Int) := wr64 (by omega) (by omega)
  by_cases hle : a.s.length + b.s.length ≤ 4096
  ·rw [if_pos hle] at hk
   have c1 : ¬ (4096 : Int) < (a.s.length : Int) + (b.s.length : Int) := by omega
   simp only [y8b, t1, t2, t6, t8, hc, hg, g1, w1, c1, c9, q0i, q5f, q0a j3m rfl (q6s (a.s ++ b.s)), i64, Int.toNat_one, List.length_cons, List.length_nil, r64_0, q5p, tt, bb, bc, ↓bd, Nat.reduceEqDiff, Nat.reduceAdd, ↓reduceIte, Int.reduceLT, Int.reduceLE]
   exact q0t hb hm hkp hn hk
  ·rw [if_neg hle, q0m he] at hk
   have c1 : (4096 : Int) < (a.s.length : Int) + (b.s.length : Int) := by omega
   simp only [y8b, t0, t1, t2, t8, hg, g1, w1, c1, q0i, q5f, i64, Int.toNat_one, r64_0, tt, bb, bc, ↓bd, Nat.reduceEqDiff, ↓reduceIte, reduceCtorEq, Int.reduceLT, Int.reduceLE]
   refine q0q hm ?_
   intro n2 A2 hm2 q1k hn2
   have q1t := hkp.trans (by omega) q1k
   have hc2 := q0f hb q1t
   simp only [t6, hc2, q5p, tt, bb, bc, ↓bd, Nat.reduceEqDiff, Nat.reduceAdd, ↓reduceIte]
   exact q0t hb hm2 q1t (by omega) hk
end
section
set_option maxRecDepth 20000 in
theorem s_17 {M : Mch} {n g : Nat} {A : Nat → Blk} {s : St} {a b : Vl} (h : MR M n A s) (he : s.err = 0) (ha : AS M g n A [a, b]) (oa : okV a = true) (ob : okV b = true)
  (hk : ∀ n' A', MR M n' A' (q1v (ap2 17 a b s.out.length) s).2 → Keep M.b n A A' → n ≤ n' → q0d Cx fn (putA T dst (q1o (q1v (ap2 17 a b s.out.length) s).1)) ds ro os k ⟨n', A'⟩ Q) :
  q0g Cx fn T ds ro 64 [.ptr M.b 22 0 0, .str (q0e 17), .slc g 5 0 2] dst os k ⟨n, A⟩ Q := by
 have hb := h.lt
 have eap : ap2 17 a b s.out.length = if a.k = 1 ∧ b.k = 0 then (if 0 ≤ b.n ∧ b.n < (q1u a.s).length then .val (tV ((q1u a.s).getD b.n.toNat [])) else .bad 14) else .bad 13 := rfl
 rw [eap] at hk
 refine v0r h ha rfl rfl ?_ ?_
 ·intro e
  have hnn : ¬ (a.k = 1 ∧ b.k = 0) := by
   intro hh
   rw [show q1p [1, 0] [a, b] = true from by simp [q1p, hh]] at e
   cases e
  rw [if_neg hnn, q0m he] at hk
  exact fun n' A' hm hkp hn => hk n' A' hm hkp hn
 ·intro e n' A' T' hm ha' hkp hn t0 t1 t2 t6 t8
  have hh : a.k = 1 ∧ b.k = 0 := by simpa [q1p] using e
  rw [if_pos hh] at hk
  have hc := q0f hb hkp
  have hg := ha'.cell
  have g1 := q2x (show [a, b][1]? = some b from rfl)
  have hw := j4j (s := a.s) (by have := z7o oa hh.1; omega)
  have hl := x5s (q1u a.s)
  simp only [BX.lenOf] at hl
  by_cases c1 : b.n < 0
  ·rw [if_neg (by omega), q0m he] at hk
   simp only [y1y, c1, t0, t1, t2, t8, hg, g1, Option.map_some, q0i, q0a j7y rfl hw, Int.toNat_one, r64_0, tt, bb, bc, ↓bd, Nat.reduceEqDiff, ↓reduceIte, reduceCtorEq, Int.reduceLT, Int.reduceLE]
   refine q0q hm ?_
   intro n2 A2 hm2 q1k hn2
   have q1t := hkp.trans (by omega) q1k
   have hc2 := q0f hb q1t
   simp only [t6, hc2, q5p, tt, bb, bc, ↓bd, Nat.reduceEqDiff, Nat.reduceAdd, ↓reduceIte]
   exact q0t hb hm2 q1t (by omega) hk
  ·by_cases c2 : ((q1u a.s).length : Int) ≤ b.n
   ·rw [if_neg (by omega), q0m he] at hk
    simp only [y1y, c1, c2, t0, t1, t2, t8, hg, g1, hl, Option.map_some, q0i, q0a j7y rfl hw, i64, Int.toNat_one, r64_0, tt, bb, bc, ↓bd, Nat.reduceEqDiff, ↓reduceIte, reduceCtorEq, Int.reduceLT, Int.reduceLE]
    refine q0q hm ?_
    intro n2 A2 hm2 q1k hn2
    have q1t := hkp.trans (by omega) q1k
    have hc2 := q0f hb q1t
    simp only [t6, hc2, q5p, tt, bb, bc, ↓bd, Nat.reduceEqDiff, Nat.reduceAdd, ↓reduceIte]
    exact q0t hb hm2 q1t (by omega) hk
   ·rw [if_pos (by omega)] at hk
    have hlt : b.n.toNat < (q1u a.s).length := by omega
    have ew : inW (q1u a.s) = .vec 1 ((q1u a.s).map fun w => [AV.str w]) := by
     unfold inW
     rw [if_neg]
     intro h0
     rw [h0] at hlt
     simp at hlt
    rw [ew] at hw
    have gg : ((q1u a.s).map fun w => [AV.str w])[b.n.toNat]? = some [.str ((q1u a.s).getD b.n.toNat [])] := by
     rw [List.getElem?_map, List.getElem?_eq_getElem hlt, List.getD_eq_getElem?_getD, List.getElem?_eq_getElem hlt]; rfl
    have p0 : 0 ≤ b.n := by omega
    have p1 : b.n < ((q1u a.s).length : Int) := by omega
    simp only [y1y, t1, t2, t6, t8, hc, hg, g1, c1, c2, p0, p1, gg, i64, Int.toNat_one, List.length_map, List.length_cons, List.length_nil, q0a j7y rfl hw, q0a j3m rfl (q6s ((q1u a.s).getD b.n.toNat [])), r64_0, q5p, tt, bb, bc, ↓bd, Nat.reduceEqDiff, Nat.reduceAdd, ↓reduceIte, Int.reduceLT, Int.reduceLE]
    exact q0t hb hm hkp hn hk
set_option maxRecDepth 20000 in
theorem s_16 {M : Mch} {n g : Nat} {A : Nat → Blk} {s : St} {a b c : Vl} (h : MR M n A s) (he : s.err = 0) (ha : AS M g n A [a, b, c]) (oa : okV a = true) (ob : okV b = true) (oc : okV c = true)
  (hk : ∀ n' A', MR M n' A' (q1v (ap3 a b c) s).2 → Keep M.b n A A' → n ≤ n' → q0d Cx fn (putA T dst (q1o (q1v (ap3 a b c) s).1)) ds ro os k ⟨n', A'⟩ Q) :
  q0g Cx fn T ds ro 64 [.ptr M.b 22 0 0, .str (q0e 16), .slc g 5 0 3] dst os k ⟨n, A⟩ Q := by
 have hb := h.lt
 have eap : ap3 a b c = if a.k = 1 ∧ b.k = 0 ∧ c.k = 0 then (if (0 ≤ b.n ∧ b.n ≤ c.n) ∧ c.n ≤ a.s.length then .val (tV ((a.s.take c.n.toNat).drop b.n.toNat)) else .bad 14) else .bad 13 := rfl
 rw [eap] at hk
 refine v0q h ha rfl rfl ?_ ?_
 ·intro e
  have hnn : ¬ (a.k = 1 ∧ b.k = 0 ∧ c.k = 0) := by
   intro hh
   rw [show q1p [1, 0, 0] [a, b, c] = true from by simp [q1p, hh]] at e
   cases e
  rw [if_neg hnn, q0m he] at hk
  exact fun n' A' hm hkp hn => hk n' A' hm hkp hn
 ·intro e n' A' T' hm ha' hkp hn t0 t1 t2 t6 t8
  have hh : a.k = 1 ∧ b.k = 0 ∧ c.k = 0 := by simpa [q1p] using e
  rw [if_pos hh] at hk
  have hc := q0f hb hkp
  have hg := ha'.cell
  have g1 := q2x (show [a, b, c][1]? = some b from rfl)
  have g2 := q2x (show [a, b, c][2]? = some c from rfl)
  have i2 : (2 : Int).toNat = 2 := rfl
  by_cases c1 : b.n < 0
  ·rw [if_neg (by omega), q0m he] at hk
   simp only [x6u, c1, t0, t1, t2, hg, g1, Int.toNat_one, r64_0, tt, bb, bc, ↓bd, Nat.reduceEqDiff, ↓reduceIte, reduceCtorEq, Int.reduceLT, Int.reduceLE]
   refine q0q hm ?_
   intro n2 A2 hm2 q1k hn2
   have q1t := hkp.trans (by omega) q1k
   have hc2 := q0f hb q1t
   simp only [t6, hc2, q5p, tt, bb, bc, ↓bd, Nat.reduceEqDiff, Nat.reduceAdd, ↓reduceIte]
   exact q0t hb hm2 q1t (by omega) hk
  ·by_cases c2 : c.n < b.n
   ·rw [if_neg (by omega), q0m he] at hk
    simp only [x6u, c1, c2, t0, t1, t2, hg, g1, g2, i2, Int.toNat_one, r64_0, tt, bb, bc, ↓bd, Nat.reduceEqDiff, ↓reduceIte, reduceCtorEq, Int.reduceLT, Int.reduceLE]
    refine q0q hm ?_
    intro n2 A2 hm2 q1k hn2
    have q1t := hkp.trans (by omega) q1k
    have hc2 := q0f hb q1t
    simp only [t6, hc2, q5p, tt, bb, bc, ↓bd, Nat.reduceEqDiff, Nat.reduceAdd, ↓reduceIte]
    exact q0t hb hm2 q1t (by omega) hk
   ·by_cases c3 : (a.s.length : Int) < c.n
    ·rw [if_neg (by omega), q0m he] at hk
     simp only [x6u, c1, c2, c3, t0, t1, t2, t8, hg, g1, g2, i2, i64, Int.toNat_one, r64_0, tt, bb, bc, ↓bd, Nat.reduceEqDiff, ↓reduceIte, reduceCtorEq, Int.reduceLT, Int.reduceLE]
     refine q0q hm ?_
     intro n2 A2 hm2 q1k hn2
     have q1t := hkp.trans (by omega) q1k
     have hc2 := q0f hb q1t
     simp only [t6, hc2, q5p, tt, bb, bc, ↓bd, Nat.reduceEqDiff, Nat.reduceAdd, ↓reduceIte]
     exact q0t hb hm2 q1t (by omega) hk
    ·rw [if_pos (by omega)] at hk
     have hsl : q4r Cx 9 (.str a.s) (some (.int .i64 b.n)) (some (.int .i64 c.n)) none = some (.str ((a.s.take c.n.toNat).drop b.n.toNat)) := by
      unfold q4r
      rw [x6r]
      simp only [j4t, z3h]
      rw [if_pos (by omega)]
      simp only
      rw [if_pos (by omega)]
      rfl
     simp only [x6u, t1, t2, t6, t8, hc, hg, g1, g2, i2, c1, c2, c3, hsl, evo, i64, Int.toNat_one, List.length_cons, List.length_nil, q0a j3m rfl (q6s ((a.s.take c.n.toNat).drop b.n.toNat)), r64_0, q5p, tt, bb, bc, ↓bd, Nat.reduceEqDiff, Nat.reduceAdd, ↓reduceIte, Int.reduceLT, Int.reduceLE]
     exact q0t hb hm hkp hn hk
set_option maxRecDepth 20000 in
theorem s_19 {M : Mch} {n g : Nat} {A : Nat → Blk} {s : St} {a : Vl} (h : MR M n A s) (he : s.err = 0) (ha : AS M g n A [a]) (oa : okV a = true)
  (hk : ∀ n' A', MR M n' A' (q1v (ap1 19 a) s).2 → Keep M.b n A A' → n ≤ n' → q0d Cx fn (putA T dst (q1o (q1v (ap1 19 a) s).1)) ds ro os k ⟨n', A'⟩ Q) :
  q0g Cx fn T ds ro 64 [.ptr M.b 22 0 0, .str (q0e 19), .slc g 5 0 1] dst os k ⟨n, A⟩ Q := by
 have hb := h.lt
 have eap : ap1 19 a = if a.k = 1 then j1a a.s else .bad 13 := rfl
 rw [eap] at hk
 refine v0t h ha rfl rfl ?_ ?_
 ·intro e
  have hnn : ¬ (a.k = 1) := by
   intro hh
   rw [show q1p [1] [a] = true from by simp [q1p, hh]] at e
   cases e
  rw [if_neg hnn, q0m he] at hk
  exact fun n' A' hm hkp hn => hk n' A' hm hkp hn
 ·intro e n' A' T' hm ha' hkp hn t0 t1 t2 t6 t8
  have hh : a.k = 1 := by simpa [q1p] using e
  rw [if_pos hh] at hk
  have hc := q0f hb hkp
  have hg := ha'.cell
  obtain ⟨v, i, e9, hp, hgood⟩ := x5y (s := a.s) (by have := z7o oa hh; omega)
  have nn : (n = n') = False := eq_false (by omega)
  have uu : ∀ (X Y : Blk), upd (upd A' n' X) n' Y = upd A' n' Y := fun X Y => z4f A' n' X Y
  rcases hgood with ⟨q9c, y7p⟩ | ⟨rfl, hi, hvk, y7p⟩
  ·rw [y7p, q0m he] at hk
   by_cases h0 : e9 = 0
   ·subst h0
    have z0 : ((0 : Int) != 0) = false := rfl
    by_cases hlt : i < (a.s.length : Int)
    ·simp only [x6v, t0, t1, t8, z0, hlt, uu, q0a j8a rfl hp, i64, xx, r64_0, tt, bb, bc, ↓bd, Nat.reduceEqDiff, Nat.reduceAdd, ↓reduceIte, reduceCtorEq]
     refine q0q (hm.up1 _) ?_
     intro n2 A2 hm2 q1k hn2
     have q1t := (hkp.up1 hn (.cells 26 5 [[.int .i64 v.k, .int .i64 v.n, .str v.s, .int .i64 v.x, .int .i64 v.y]])).trans (by omega) q1k
     have hc2 := q0f hb q1t
     simp only [t6, hc2, q5p, tt, bb, bc, ↓bd, Nat.reduceEqDiff, Nat.reduceAdd, ↓reduceIte]
     exact q0t hb hm2 q1t (by omega) hk
    ·have hvk : v.k ≠ 0 := by
      rcases q9c with h | h | h
      ·exact absurd rfl h
      ·exact absurd h hlt
      ·exact h
     have z2 : (v.k != 0) = true := by simpa using hvk
     simp only [x6v, t0, t1, t8, z0, hlt, z2, uu, q0a j8a rfl hp, i64, xx, r64_0, tt, bb, bc, ↓bd, Nat.reduceEqDiff, Nat.reduceAdd, ↓reduceIte, reduceCtorEq]
     refine q0q (hm.up1 _) ?_
     intro n2 A2 hm2 q1k hn2
     have q1t := (hkp.up1 hn (.cells 26 5 [[.int .i64 v.k, .int .i64 v.n, .str v.s, .int .i64 v.x, .int .i64 v.y]])).trans (by omega) q1k
     have hc2 := q0f hb q1t
     simp only [t6, hc2, q5p, tt, bb, bc, ↓bd, Nat.reduceEqDiff, Nat.reduceAdd, ↓reduceIte]
     exact q0t hb hm2 q1t (by omega) hk
   ·have z0 : (e9 != 0) = true := by simpa using h0
    simp only [x6v, t0, t1, t8, z0, uu, q0a j8a rfl hp, xx, r64_0, tt, bb, bc, ↓bd, Nat.reduceEqDiff, Nat.reduceAdd, ↓reduceIte, reduceCtorEq]
    refine q0q (hm.up1 _) ?_
    intro n2 A2 hm2 q1k hn2
    have q1t := (hkp.up1 hn (.cells 26 5 [[.int .i64 v.k, .int .i64 v.n, .str v.s, .int .i64 v.x, .int .i64 v.y]])).trans (by omega) q1k
    have hc2 := q0f hb q1t
    simp only [t6, hc2, q5p, tt, bb, bc, ↓bd, Nat.reduceEqDiff, Nat.reduceAdd, ↓reduceIte]
    exact q0t hb hm2 q1t (by omega) hk
  ·rw [y7p] at hk
   have z0 : ((0 : Int) != 0) = false := rfl
   have hlt : ¬ i < (a.s.length : Int) := by omega
   have z2 : (v.k != 0) = false := by simp [hvk]
   simp only [x6v, t1, t6, t8, hc, z0, hlt, z2, uu, nn, q0a j8a rfl hp, i64, xx, r64_0, q5p, tt, bb, bc, ↓bd, Nat.reduceEqDiff, Nat.reduceAdd, ↓reduceIte]
   exact q0t hb (hm.up1 _) (hkp.up1 hn _) (by omega) hk
end
section
theorem v0u {M : Mch} {n g : Nat} {A : Nat → Blk} {s : St} {a b : Vl} (h : MR M n A s) (he : s.err = 0) (ha : AS M g n A [a, b]) (oa : okV a = true) (ob : okV b = true)
  (hk : ∀ n' A', MR M n' A' (q1v (ap2 14 a b s.out.length) s).2 → Keep M.b n A A' → n ≤ n' → q0d Cx fn (putA T dst (q1o (q1v (ap2 14 a b s.out.length) s).1)) ds ro os k ⟨n', A'⟩ Q) :
  q0g Cx fn T ds ro 38 [.ptr M.b 22 0 0, .str (q0e 14), .slc g 5 0 2] dst os k ⟨n, A⟩ Q := by
 have hb := h.lt
 refine q2j (vs := [a, b]) h ha rfl rfl (by simp) rfl ?_
 intro T' t0 t1 t2 t6 t7 t8
 have hm := q6f (a := a) (b := b) h
 have hs := q6g (a := a) (b := b) ha
 have kr := Keep.refl M.b (n + 1 + 1 + 1) (H3 A n a b)
 obtain ⟨c0, c1, c2⟩ := q0j (n' := n + 1 + 1 + 1) hb kr
 simp only [y8b, t0, t1, t2, xx, r38_0, r38_1, tt, bb, bc, ↓bd, Nat.reduceEqDiff, ↓reduceIte, reduceCtorEq]
 refine s_14 hm he hs oa ob ?_
 intro n2 A2 hm2 q1k hn2
 simp only [t6, (q0j (n' := n2) hb q1k).1, q1r, tt, bb, bc, ↓bd, Nat.reduceEqDiff, Nat.reduceAdd, ↓reduceIte]
 exact q0x hb hm2 q1k hn2 hk
theorem v0v {M : Mch} {n g : Nat} {A : Nat → Blk} {s : St} {a : Vl} (h : MR M n A s) (he : s.err = 0) (ha : AS M g n A [a]) (oa : okV a = true)
  (hk : ∀ n' A', MR M n' A' (q1v (ap1 15 a) s).2 → Keep M.b n A A' → n ≤ n' → q0d Cx fn (putA T dst (q1o (q1v (ap1 15 a) s).1)) ds ro os k ⟨n', A'⟩ Q) :
  q0g Cx fn T ds ro 38 [.ptr M.b 22 0 0, .str (q0e 15), .slc g 5 0 1] dst os k ⟨n, A⟩ Q := by
 have hb := h.lt
 refine q2j (vs := [a]) h ha rfl rfl (by simp) rfl ?_
 intro T' t0 t1 t2 t6 t7 t8
 have hm := q6f (a := a) (b := a) h
 have hs := q6g (a := a) (b := a) ha
 have kr := Keep.refl M.b (n + 1 + 1 + 1) (H3 A n a a)
 obtain ⟨c0, c1, c2⟩ := q0j (n' := n + 1 + 1 + 1) hb kr
 simp only [w7w, t0, t1, t2, xx, r38_0, r38_1, tt, bb, bc, ↓bd, Nat.reduceEqDiff, ↓reduceIte, reduceCtorEq]
 refine s_15 hm he hs oa ?_
 intro n2 A2 hm2 q1k hn2
 simp only [t6, (q0j (n' := n2) hb q1k).1, q1r, tt, bb, bc, ↓bd, Nat.reduceEqDiff, Nat.reduceAdd, ↓reduceIte]
 exact q0x hb hm2 q1k hn2 hk
theorem v0w {M : Mch} {n g : Nat} {A : Nat → Blk} {s : St} {a b c : Vl} (h : MR M n A s) (he : s.err = 0) (ha : AS M g n A [a, b, c]) (oa : okV a = true) (ob : okV b = true) (oc : okV c = true)
  (hk : ∀ n' A', MR M n' A' (q1v (ap3 a b c) s).2 → Keep M.b n A A' → n ≤ n' → q0d Cx fn (putA T dst (q1o (q1v (ap3 a b c) s).1)) ds ro os k ⟨n', A'⟩ Q) :
  q0g Cx fn T ds ro 38 [.ptr M.b 22 0 0, .str (q0e 16), .slc g 5 0 3] dst os k ⟨n, A⟩ Q := by
 have hb := h.lt
 refine q2j (vs := [a, b, c]) h ha rfl rfl (by simp) rfl ?_
 intro T' t0 t1 t2 t6 t7 t8
 have hm := q6f (a := a) (b := c) h
 have hs := q6g (a := a) (b := c) ha
 have kr := Keep.refl M.b (n + 1 + 1 + 1) (H3 A n a c)
 obtain ⟨c0, c1, c2⟩ := q0j (n' := n + 1 + 1 + 1) hb kr
 simp only [x6u, t0, t1, t2, xx, r38_0, r38_1, tt, bb, bc, ↓bd, Nat.reduceEqDiff, ↓reduceIte, reduceCtorEq]
 refine s_16 hm he hs oa ob oc ?_
 intro n2 A2 hm2 q1k hn2
 simp only [t6, (q0j (n' := n2) hb q1k).1, q1r, tt, bb, bc, ↓bd, Nat.reduceEqDiff, Nat.reduceAdd, ↓reduceIte]
 exact q0x hb hm2 q1k hn2 hk
theorem w6t {M : Mch} {n g : Nat} {A : Nat → Blk} {s : St} {a b : Vl} (h : MR M n A s) (he : s.err = 0) (ha : AS M g n A [a, b]) (oa : okV a = true) (ob : okV b = true)
  (hk : ∀ n' A', MR M n' A' (q1v (ap2 17 a b s.out.length) s).2 → Keep M.b n A A' → n ≤ n' → q0d Cx fn (putA T dst (q1o (q1v (ap2 17 a b s.out.length) s).1)) ds ro os k ⟨n', A'⟩ Q) :
  q0g Cx fn T ds ro 38 [.ptr M.b 22 0 0, .str (q0e 17), .slc g 5 0 2] dst os k ⟨n, A⟩ Q := by
 have hb := h.lt
 refine q2j (vs := [a, b]) h ha rfl rfl (by simp) rfl ?_
 intro T' t0 t1 t2 t6 t7 t8
 have hm := q6f (a := a) (b := b) h
 have hs := q6g (a := a) (b := b) ha
 have kr := Keep.refl M.b (n + 1 + 1 + 1) (H3 A n a b)
 obtain ⟨c0, c1, c2⟩ := q0j (n' := n + 1 + 1 + 1) hb kr
 simp only [y1y, t0, t1, t2, xx, r38_0, r38_1, tt, bb, bc, ↓bd, Nat.reduceEqDiff, ↓reduceIte, reduceCtorEq]
 refine s_17 hm he hs oa ob ?_
 intro n2 A2 hm2 q1k hn2
 simp only [t6, (q0j (n' := n2) hb q1k).1, q1r, tt, bb, bc, ↓bd, Nat.reduceEqDiff, Nat.reduceAdd, ↓reduceIte]
 exact q0x hb hm2 q1k hn2 hk
theorem y7f {M : Mch} {n g : Nat} {A : Nat → Blk} {s : St} {a : Vl} (h : MR M n A s) (he : s.err = 0) (ha : AS M g n A [a]) (oa : okV a = true)
  (hk : ∀ n' A', MR M n' A' (q1v (ap1 18 a) s).2 → Keep M.b n A A' → n ≤ n' → q0d Cx fn (putA T dst (q1o (q1v (ap1 18 a) s).1)) ds ro os k ⟨n', A'⟩ Q) :
  q0g Cx fn T ds ro 38 [.ptr M.b 22 0 0, .str (q0e 18), .slc g 5 0 1] dst os k ⟨n, A⟩ Q := by
 have hb := h.lt
 refine q2j (vs := [a]) h ha rfl rfl (by simp) rfl ?_
 intro T' t0 t1 t2 t6 t7 t8
 have hm := q6f (a := a) (b := a) h
 have hs := q6g (a := a) (b := a) ha
 have kr := Keep.refl M.b (n + 1 + 1 + 1) (H3 A n a a)
 obtain ⟨c0, c1, c2⟩ := q0j (n' := n + 1 + 1 + 1) hb kr
 simp only [w7x, t0, t1, t2, xx, r38_0, r38_1, tt, bb, bc, ↓bd, Nat.reduceEqDiff, ↓reduceIte, reduceCtorEq]
 refine s_18 hm he hs oa ?_
 intro n2 A2 hm2 q1k hn2
 simp only [t6, (q0j (n' := n2) hb q1k).1, q1r, tt, bb, bc, ↓bd, Nat.reduceEqDiff, Nat.reduceAdd, ↓reduceIte]
 exact q0x hb hm2 q1k hn2 hk
theorem v0x {M : Mch} {n g : Nat} {A : Nat → Blk} {s : St} {a : Vl} (h : MR M n A s) (he : s.err = 0) (ha : AS M g n A [a]) (oa : okV a = true)
  (hk : ∀ n' A', MR M n' A' (q1v (ap1 19 a) s).2 → Keep M.b n A A' → n ≤ n' → q0d Cx fn (putA T dst (q1o (q1v (ap1 19 a) s).1)) ds ro os k ⟨n', A'⟩ Q) :
  q0g Cx fn T ds ro 38 [.ptr M.b 22 0 0, .str (q0e 19), .slc g 5 0 1] dst os k ⟨n, A⟩ Q := by
 have hb := h.lt
 refine q2j (vs := [a]) h ha rfl rfl (by simp) rfl ?_
 intro T' t0 t1 t2 t6 t7 t8
 have hm := q6f (a := a) (b := a) h
 have hs := q6g (a := a) (b := a) ha
 have kr := Keep.refl M.b (n + 1 + 1 + 1) (H3 A n a a)
 obtain ⟨c0, c1, c2⟩ := q0j (n' := n + 1 + 1 + 1) hb kr
 simp only [x6v, t0, t1, t2, xx, r38_0, r38_1, tt, bb, bc, ↓bd, Nat.reduceEqDiff, ↓reduceIte, reduceCtorEq]
 refine s_19 hm he hs oa ?_
 intro n2 A2 hm2 q1k hn2
 simp only [t6, (q0j (n' := n2) hb q1k).1, q1r, tt, bb, bc, ↓bd, Nat.reduceEqDiff, Nat.reduceAdd, ↓reduceIte]
 exact q0x hb hm2 q1k hn2 hk
theorem j6w {M : Mch} {n g : Nat} {A : Nat → Blk} {s : St} {op : Int} {vs : List Vl} (h : MR M n A s) (he : s.err = 0) (ha : AS M g n A vs) (hok : ∀ v, v ∈ vs → okV v = true) (ho : s.out.length ≤ 64) (hop : q4n op = true) (h1 : op ≠ 11 ∧ op ≠ 28 ∧ op ≠ 29) (hp : q1b op = vs.length)
  (hk : ∀ n' A', MR M n' A' (q1v (apR op vs s.out.length) s).2 → Keep M.b n A A' → n ≤ n' → q0d Cx fn (putA T dst (q1o (q1v (apR op vs s.out.length) s).1)) ds ro os k ⟨n', A'⟩ Q) :
  q0g Cx fn T ds ro 38 [.ptr M.b 22 0 0, .str (q0e op), .slc g 5 0 vs.length] dst os k ⟨n, A⟩ Q := by
 have hc : op = 2 ∨ op = 3 ∨ op = 4 ∨ op = 5 ∨ op = 6 ∨ op = 7 ∨ op = 8 ∨ op = 9 ∨ op = 10 ∨ op = 12 ∨ op = 13 ∨ op = 14 ∨ op = 15 ∨ op = 16 ∨ op = 17 ∨ op = 18 ∨ op = 19 ∨ op = 20 ∨ op = 21 ∨ op = 22 ∨ op = 23 ∨ op = 24 ∨ op = 25 ∨ op = 26 ∨ op = 27 := by
  unfold q4n at hop
  simp only [Bool.and_eq_true, decide_eq_true_eq] at hop
  omega
 match vs, hp, ha, hok, hk with
 | [], hp, _, _, _ => have := q2h hop; simp at hp; omega
 | [a], hp, ha, hok, hk =>
  have oa := hok a (by simp)
  rcases hc with rfl | rfl | rfl | rfl | rfl | rfl | rfl | rfl | rfl | rfl | rfl | rfl | rfl | rfl | rfl | rfl | rfl | rfl | rfl | rfl | rfl | rfl | rfl | rfl | rfl
  ·cases hp
  ·cases hp
  ·cases hp
  ·cases hp
  ·cases hp
  ·exact v0l h he ha oa ho hk
  ·cases hp
  ·cases hp
  ·exact v0m h he ha oa ho hk
  ·cases hp
  ·cases hp
  ·cases hp
  ·exact v0v h he ha oa hk
  ·cases hp
  ·cases hp
  ·exact y7f h he ha oa hk
  ·exact v0x h he ha oa hk
  ·exact w6j h he ha oa ho hk
  ·cases hp
  ·exact a_re h he ha oa ho hk
  ·exact a_im h he ha oa ho hk
  ·exact w6h h he ha oa ho hk
  ·exact w6i h he ha oa ho hk
  ·cases hp
  ·cases hp
 | [a, b], hp, ha, hok, hk =>
  have oa := hok a (by simp)
  have ob := hok b (by simp)
  rcases hc with rfl | rfl | rfl | rfl | rfl | rfl | rfl | rfl | rfl | rfl | rfl | rfl | rfl | rfl | rfl | rfl | rfl | rfl | rfl | rfl | rfl | rfl | rfl | rfl | rfl
  ·exact j4i h he ha oa ob (by decide) hk
  ·exact j4i h he ha oa ob (by decide) hk
  ·exact j4i h he ha oa ob (by decide) hk
  ·exact j4i h he ha oa ob (by decide) hk
  ·exact j4i h he ha oa ob (by decide) hk
  ·cases hp
  ·exact w6e h he ha oa ob ho hk
  ·exact w6f h he ha oa ob ho hk
  ·cases hp
  ·exact v0j h he ha oa ob ho hk
  ·exact v0k h he ha oa ob ho hk
  ·exact v0u h he ha oa ob hk
  ·cases hp
  ·cases hp
  ·exact w6t h he ha oa ob hk
  ·cases hp
  ·cases hp
  ·cases hp
  ·exact a_at h he ha oa ob ho hk
  ·cases hp
  ·cases hp
  ·cases hp
  ·cases hp
  ·exact w6k h he ha oa ob ho hk
  ·exact w6g h he ha oa ob ho hk
 | [a, b, c], hp, ha, hok, hk =>
  have oa := hok a (by simp)
  have ob := hok b (by simp)
  have oc := hok c (by simp)
  rcases hc with rfl | rfl | rfl | rfl | rfl | rfl | rfl | rfl | rfl | rfl | rfl | rfl | rfl | rfl | rfl | rfl | rfl | rfl | rfl | rfl | rfl | rfl | rfl | rfl | rfl
  ·cases hp
  ·cases hp
  ·cases hp
  ·cases hp
  ·cases hp
  ·cases hp
  ·cases hp
  ·cases hp
  ·cases hp
  ·cases hp
  ·cases hp
  ·cases hp
  ·cases hp
  ·exact v0w h he ha oa ob oc hk
  ·cases hp
  ·cases hp
  ·cases hp
  ·cases hp
  ·cases hp
  ·cases hp
  ·cases hp
  ·cases hp
  ·cases hp
  ·cases hp
  ·cases hp
 | a :: b :: c :: e :: r, hp, _, _, _ => have := q2h hop; simp at hp; omega
end
noncomputable def q9i (l : List Nd) : List (List AV) := (q3k l).map fun r => r.drop 2
theorem q8g {l : List Nd} {p : Nat} {t : Ex} (h : Tree l p t) : (q9i l)[p]? = some [.int .i64 ((p + (q0o t).length : Nat) : Int)] := by
 unfold q9i
 rw [List.getElem?_map, q6q h]
 rfl
theorem z6w (l : List Nd) : (q9i l).length = l.length := by unfold q9i; rw [List.length_map, q3x]
structure MLR (M : Mch) (l : List Nd) (e : Nat) : Prop where
 L : M.L = .vec 6 (l.map q2y)
 F : M.F = .slc e 1 0 l.length
 len : l.length ≤ 400
 env : Ek M.E
 eb : e < M.b
theorem MLR.ne {M : Mch} {l : List Nd} {e : Nat} (h : MLR M l e) : e ≠ M.b := Nat.ne_of_lt h.eb
structure ER (l : List Nd) (e n : Nat) (A : Nat → Blk) : Prop where
 lt : e < n
 cell : A e = .cells 3 1 (q9i l)
theorem ER.keep {M : Mch} {l : List Nd} {e n n' : Nat} {A A' : Nat → Blk} (h : ER l e n A) (hM : MLR M l e) (hn : n ≤ n') (hk : Keep M.b n A A') : ER l e n' A' :=
 ⟨by have := h.lt; omega, hk.at h.lt hM.ne h.cell (by decide)⟩
def DoR (M : Mch) (l : List Nd) (e g : Nat) : Prop :=
 ∀ {fn : FuncId} {T : Nat → AV} {ds : List ADef} {ro : Option Nat} {k : List AItem} {Q : AV → AHeap → Prop} {dst : Option Nat} {os : List AO} {n p : Nat} {A : Nat → Blk} {s : St} {t : Ex}, MR M n A s → ER l e n A → Sk s → Tree l p t → s.left ≤ g →
  (∀ n' A', MR M n' A' (ev M.E g t s).2 → Keep M.b n A A' → n ≤ n' → q0d Cx fn (putA T dst (q1o (ev M.E g t s).1)) ds ro os k ⟨n', A'⟩ Q) →
  q0g Cx fn T ds ro 20 [.ptr M.b 22 0 0, .int .i64 (p : Int)] dst os k ⟨n, A⟩ Q
structure At (M : Mch) (l : List Nd) (e n n1 p : Nat) (A1 : Nat → Blk) (A : Nat → Blk) (op : Int) (a : Ex) (r : Vl × St) (T' : Nat → AV) : Prop where
 mr : MR M (n1 + 1) A1 r.2
 er : ER l e (n1 + 1) A1
 kp : Keep M.b (n + 1) (upd A n zB) A1
 le : n + 1 ≤ n1
 ca : A1 n1 = q3n r.1
 ok : okV r.1 = true
 sk : Sk r.2
 err : r.2.err = 0
 t0 : T' 0 = .ptr M.b 22 0 0
 t4 : T' 4 = .ptr n 5 0 0
 t6 : T' 6 = .str (q0e op)
 t7 : T' 7 = .ptr n1 5 0 0
 t8 : T' 8 = .int .i64 ((p + 1 + (q0o a).length : Nat) : Int)
section
theorem v0y {M : Mch} {l : List Nd} {e g : Nat} (hM : MLR M l e) (hD : DoR M l e g) {n n1 p : Nat} {A A1 : Nat → Blk} {s : St} {a b c : Ex} {T' : Nat → AV} (hb : M.b < n) (ht : Tree l p (.op3 11 a b c)) (hg : (ev M.E g a s).2.left ≤ g) (h : At M l e n n1 p A1 A 11 a (ev M.E g a s) T')
  (hk : ∀ n' A', MR M n' A' (evT M.E (ev M.E g) g (.op3 11 a b c) s).2 → Keep M.b n A A' → n ≤ n' → q0d Cx fn (putA T dst (q1o (evT M.E (ev M.E g) g (.op3 11 a b c) s).1)) ds ro os k ⟨n', A'⟩ Q) :
  Run Cx 20 T' [] none [.code c20_81] ⟨n1 + 1, A1⟩ (fun r H1 => q0d Cx fn (putA T dst r) ds ro os k H1 Q) := by
 obtain ⟨ta, tb, tc⟩ := w5w ht
 have ek : evT M.E (ev M.E g) g (.op3 11 a b c) s = if (ev M.E g a s).2.err ≠ 0 then (zV, (ev M.E g a s).2) else if (ev M.E g a s).1.k ≠ 0 then (zV, { (ev M.E g a s).2 with err := 13 }) else if (ev M.E g a s).1.n ≠ 0 then ev M.E g b (ev M.E g a s).2 else ev M.E g c (ev M.E g a s).2 := rfl
 rw [ek] at hk
 generalize hr : ev M.E g a s = r at *
 obtain ⟨hm, hE, hkp, hle, hc1, hok, hsk, he, t0, t4, t6, t7, t8⟩ := h
 rw [if_neg (by simpa using he)] at hk
 have j0x : A1 n1 = .cells 26 5 [[.int .i64 r.1.k, .int .i64 r.1.n, .str r.1.s, .int .i64 r.1.x, .int .i64 r.1.y]] := hc1
 have fin : ∀ {v : Vl} {s' : St} (hk : ∀ n' A', MR M n' A' s' → Keep M.b n A A' → n ≤ n' → q0d Cx fn (putA T dst (q1o v)) ds ro os k ⟨n', A'⟩ Q), ∀ n2 A2, MR M n2 A2 s' → Keep M.b (n1 + 1) A1 A2 → n1 + 1 ≤ n2 → A2 n = .cells 26 5 [[.int .i64 0, .int .i64 0, .str [], .int .i64 0, .int .i64 0]] ∧ ∀ X, q0d Cx fn (putA T dst (q1o v)) ds ro os k ⟨n2, upd A2 n X⟩ Q := by
  intro v s' hk n2 A2 hm4 q5o hn2
  have j0w := hkp.trans (by omega) q5o
  exact ⟨q0f hb j0w, fun X => q0t hb hm4 j0w (by omega) hk⟩
 by_cases k0 : r.1.k = 0
 ·have z1 : (r.1.k != 0) = false := by simp [k0]
  rw [if_neg (by simp [k0])] at hk
  by_cases n0 : r.1.n = 0
  ·have z2 : (r.1.n == 0) = true := by simp [n0]
   rw [if_neg (by simp [n0])] at hk
   obtain ⟨o, q1m⟩ := hm.errCell
   have hF := hM.F
   have hcE := hE.cell
   have hlt := tb.lt
   have g0 := q8g tb
   have p0 : (0 : Int) ≤ ((p + 1 + (q0o a).length : Nat) : Int) := by omega
   have p1 : ((p + 1 + (q0o a).length : Nat) : Int) < (l.length : Int) := by omega
   simp only [t0, t6, t7, t8, j0x, y8a, z1, z2, q1m, hF, hcE, g0, p0, p1, Int.toNat_natCast, r20_0, tt, bb, bc, ↓bd, Nat.reduceEqDiff, ↓reduceIte, reduceCtorEq]
   refine hD hm hE hsk tc hg ?_
   intro n2 A2 hm4 q5o hn2
   obtain ⟨hcz, hx⟩ := fin hk n2 A2 hm4 q5o hn2
   simp only [t4, hcz, z1a, tt, bb, bc, ↓bd, Nat.reduceEqDiff, Nat.reduceAdd, ↓reduceIte]
   exact hx _
  ·have z2 : (r.1.n == 0) = false := by simpa using n0
   rw [if_pos n0] at hk
   simp only [t0, t6, t7, t8, j0x, y8a, z1, z2, r20_0, tt, bb, bc, ↓bd, Nat.reduceEqDiff, ↓reduceIte, reduceCtorEq]
   refine hD hm hE hsk tb hg ?_
   intro n2 A2 hm4 q5o hn2
   obtain ⟨hcz, hx⟩ := fin hk n2 A2 hm4 q5o hn2
   simp only [t4, hcz, z1a, tt, bb, bc, ↓bd, Nat.reduceEqDiff, Nat.reduceAdd, ↓reduceIte]
   exact hx _
 ·have z1 : (r.1.k != 0) = true := by simpa using k0
  rw [if_pos k0] at hk
  simp only [t0, t6, t7, j0x, y8a, z1, r20_0, tt, bb, bc, ↓bd, Nat.reduceEqDiff, ↓reduceIte, reduceCtorEq]
  refine q0q hm ?_
  intro n2 A2 hm4 q5o hn2
  rw [z0g he] at hm4
  obtain ⟨hcz, hx⟩ := fin hk n2 A2 hm4 q5o hn2
  simp only [t4, hcz, z1a, tt, bb, bc, ↓bd, Nat.reduceEqDiff, Nat.reduceAdd, ↓reduceIte]
  exact hx _
theorem w6u {M : Mch} {l : List Nd} {e g : Nat} (hM : MLR M l e) (hD : DoR M l e g) {n n1 p : Nat} {A A1 : Nat → Blk} {s : St} {a b : Ex} {T' : Nat → AV} (hb : M.b < n) (ht : Tree l p (.op2 29 a b)) (hg : (ev M.E g a s).2.left ≤ g) (h : At M l e n n1 p A1 A 29 a (ev M.E g a s) T')
  (hk : ∀ n' A', MR M n' A' (evT M.E (ev M.E g) g (.op2 29 a b) s).2 → Keep M.b n A A' → n ≤ n' → q0d Cx fn (putA T dst (q1o (evT M.E (ev M.E g) g (.op2 29 a b) s).1)) ds ro os k ⟨n', A'⟩ Q) :
  Run Cx 20 T' [] none [.code c20_81] ⟨n1 + 1, A1⟩ (fun r H1 => q0d Cx fn (putA T dst r) ds ro os k H1 Q) := by
 obtain ⟨ta, tb⟩ := x9m ht
 have ek : evT M.E (ev M.E g) g (.op2 29 a b) s = if (ev M.E g a s).2.err ≠ 0 then (zV, (ev M.E g a s).2) else ((ev M.E g b { (ev M.E g a s).2 with it := (ev M.E g a s).1 }).1, { (ev M.E g b { (ev M.E g a s).2 with it := (ev M.E g a s).1 }).2 with it := (ev M.E g a s).2.it }) := rfl
 rw [ek] at hk
 generalize hr : ev M.E g a s = r at *
 obtain ⟨hm, hE, hkp, hle, hc1, hok, hsk, he, t0, t4, t6, t7, t8⟩ := h
 rw [if_neg (by simpa using he)] at hk
 obtain ⟨o, q1m⟩ := hm.errCell
 have j0x : A1 n1 = .cells 26 5 [[.int .i64 r.1.k, .int .i64 r.1.n, .str r.1.s, .int .i64 r.1.x, .int .i64 r.1.y]] := hc1
 have e1 : (n1 = n1 + 1) = False := eq_false (by omega)
 have e2 : (M.b = n1 + 1) = False := eq_false (by omega)
 have uu : ∀ (A : Nat → Blk) (c : Nat) (X Y : Blk), upd (upd A c X) c Y = upd A c Y := fun A c X Y => z4f A c X Y
 have hm2 := hm.up1 (q3n r.2.it)
 have hm3 := hm2.setI (o := o) (by rw [q0b, if_neg (by omega)]; exact q1m) { r.2 with it := r.1 } rfl
 simp only [t0, t6, t7, t8, q1m, j0x, wq29, e1, e2, uu, r20_0, r20_1, tt, bb, bc, ↓bd, Nat.reduceEqDiff, Nat.reduceAdd, Nat.reduceLeDiff, ↓reduceIte, reduceCtorEq]
 have hs3 : Sk { r.2 with it := r.1 } := ⟨hok, hsk.i0, hsk.i1, hsk.out, hsk.outs⟩
 have j1c := ((Keep.refl M.b (n1 + 1) A1).up1 (n' := n1 + 1) (by omega) (q3n r.2.it)).set (.cells 66 22 [[M.L, M.F, .str M.E.key, .int .i64 M.E.val.k, .int .i64 M.E.val.n, .str M.E.val.s, .int .i64 M.E.val.x, .int .i64 M.E.val.y, .int .i64 M.E.acc.k, .int .i64 M.E.acc.n, .str M.E.acc.s, .int .i64 M.E.acc.x, .int .i64 M.E.acc.y, .int .i64 r.2.i, .int .i64 r.1.k, .int .i64 r.1.n, .str r.1.s, .int .i64 r.1.x, .int .i64 r.1.y, o, .int .i64 (r.2.left : Int), .int .i64 r.2.err]])
 refine hD hm3 (hE.keep hM (by omega) j1c) hs3 tb hg ?_
 intro n2 A2 hm4 q5o hn2
 generalize hr2 : ev M.E g b { r.2 with it := r.1 } = r2 at *
 have q1k := hkp.trans (by omega) j1c
 have w7o : Keep M.b (n + 1) (upd A n zB) A2 := Keep.trans (n' := n1 + 1 + 1) q1k (by omega) q5o
 have hc9 : A2 (n1 + 1) = .cells 26 5 [[.int .i64 r.2.it.k, .int .i64 r.2.it.n, .str r.2.it.s, .int .i64 r.2.it.x, .int .i64 r.2.it.y]] := q6e q5o (by rw [q0b, if_neg (by omega), q0b, if_pos rfl]) (by omega) (by omega) (by decide)
 obtain ⟨o2, hcell2⟩ := hm4.errCell
 have hcz := q0f hb w7o
 have e3 : (n1 + 1 = n2) = False := eq_false (by omega)
 have e4 : (M.b = n2) = False := eq_false (by omega)
 have e5 : (n = n2) = False := eq_false (by omega)
 have e6 : (n2 = M.b) = False := eq_false (by omega)
 have e7 : (n = M.b) = False := eq_false (by omega)
 have hm5 := hm4.up1 (q3n r2.1)
 have hm6 := hm5.setI (o := o2) (by rw [q0b, if_neg (by omega)]; exact hcell2) { r2.2 with it := r.2.it } rfl
 simp only [t0, t4, hcell2, hc9, hcz, e3, e4, e5, e6, e7, uu, z1a, tt, bb, bc, ↓bd, Nat.reduceEqDiff, Nat.reduceAdd, Nat.reduceLeDiff, ↓reduceIte, reduceCtorEq]
 have v1n := (w7o.up1 (n' := n2) (by omega) (q3n r2.1)).set (.cells 66 22 [[M.L, M.F, .str M.E.key, .int .i64 M.E.val.k, .int .i64 M.E.val.n, .str M.E.val.s, .int .i64 M.E.val.x, .int .i64 M.E.val.y, .int .i64 M.E.acc.k, .int .i64 M.E.acc.n, .str M.E.acc.s, .int .i64 M.E.acc.x, .int .i64 M.E.acc.y, .int .i64 r2.2.i, .int .i64 r.2.it.k, .int .i64 r.2.it.n, .str r.2.it.s, .int .i64 r.2.it.x, .int .i64 r.2.it.y, o2, .int .i64 (r2.2.left : Int), .int .i64 r2.2.err]])
 exact q0t hb hm6 v1n (by omega) hk
end
abbrev mB (M : Mch) (s : St) (o : AV) : Blk := .cells 66 22 [[M.L, M.F, .str M.E.key, .int .i64 M.E.val.k, .int .i64 M.E.val.n, .str M.E.val.s, .int .i64 M.E.val.x, .int .i64 M.E.val.y, .int .i64 M.E.acc.k, .int .i64 M.E.acc.n, .str M.E.acc.s, .int .i64 M.E.acc.x, .int .i64 M.E.acc.y, .int .i64 s.i, .int .i64 s.it.k, .int .i64 s.it.n, .str s.it.s, .int .i64 s.it.x, .int .i64 s.it.y, o, .int .i64 (s.left : Int), .int .i64 s.err]]
section
theorem j8y {M : Mch} {n n1 n2 : Nat} {A A2 : Nat → Blk} {s : St} {v : Vl} {i0 : Int} {T' : Nat → AV} (hb : M.b < n) (h1 : n + 1 ≤ n1) (hm : MR M n2 A2 s) (hkp : Keep M.b (n + 1) (upd A n zB) A2) (hn : n1 + 1 + 1 ≤ n2) (hv : A2 (n1 + 1) = q3n v)
  (t0 : T' 0 = .ptr M.b 22 0 0) (t4 : T' 4 = .ptr n 5 0 0) (t11 : T' 11 = .int .i64 i0) (t12 : T' 12 = .ptr (n1 + 1) 5 0 0)
  (hk : ∀ n' A', MR M n' A' { s with i := i0 } → Keep M.b n A A' → n ≤ n' → q0d Cx fn (putA T dst (q1o v)) ds ro os k ⟨n', A'⟩ Q) :
  Run Cx 20 T' [] none [.code c20_159, .inBlock 1, .code c20_165] ⟨n2, A2⟩ (fun r H1 => q0d Cx fn (putA T dst r) ds ro os k H1 Q) := by
 obtain ⟨o, q1m⟩ := hm.errCell
 have hc9 : A2 (n1 + 1) = .cells 26 5 [[.int .i64 v.k, .int .i64 v.n, .str v.s, .int .i64 v.x, .int .i64 v.y]] := hv
 have hcz := q0f hb hkp
 have e1 : (n1 + 1 = M.b) = False := eq_false (by omega)
 have e2 : (n = M.b) = False := eq_false (by omega)
 have hm2 := hm.setI q1m { s with i := i0 } rfl
 simp only [t0, t4, t11, t12, q1m, hc9, hcz, e1, e2, r20_1, z1a, tt, bb, bc, ↓bd, Nat.reduceEqDiff, Nat.reduceAdd, Nat.reduceLeDiff, ↓reduceIte]
 exact q0t hb hm2 (hkp.set (mB M { s with i := i0 } o)) (by omega) hk
theorem w6v {M : Mch} {l : List Nd} {e g : Nat} (hM : MLR M l e) (hD : DoR M l e g) {n n1 q : Nat} {A : Nat → Blk} {b : Ex} (hb : M.b < n) (h1 : n + 1 ≤ n1) (ht : Tree l q b) {i0 : Int} {nv : Vl} (hN0 : 0 ≤ nv.n) (hN1 : nv.n ≤ 9007199254740992) :
  ∀ (c : Nat) (j : Int) (v : Vl) (s : St) (T' : Nat → AV) (n2 : Nat) (A2 : Nat → Blk), MR M n2 A2 s → ER l e n2 A2 → Sk s → 0 ≤ j → j ≤ nv.n → s.left ≤ g → (s.err = 0 → s.left < c) → Keep M.b (n + 1) (upd A n zB) A2 → n1 + 1 + 1 ≤ n2 → A2 n1 = q3n nv → A2 (n1 + 1) = q3n v →
   T' 0 = .ptr M.b 22 0 0 → T' 4 = .ptr n 5 0 0 → T' 7 = .ptr n1 5 0 0 → T' 8 = .int .i64 (q : Int) → T' 11 = .int .i64 i0 → T' 12 = .ptr (n1 + 1) 5 0 0 → T' 13 = .int .i64 j →
   (∀ n' A', MR M n' A' { (q5l (ev M.E g b) nv.n c j v s).2 with i := i0 } → Keep M.b n A A' → n ≤ n' → q0d Cx fn (putA T dst (q1o (q5l (ev M.E g b) nv.n c j v s).1)) ds ro os k ⟨n', A'⟩ Q) →
   Run Cx 20 T' [] none [.inLoop c20_147, .inBlock 2, .code c20_159, .inBlock 1, .code c20_165] ⟨n2, A2⟩ (fun r H1 => q0d Cx fn (putA T dst r) ds ro os k H1 Q) := by
 intro c
 induction c with
 | zero =>
  intro j v s T' n2 A2 hm hE hs hj0 hj1 hg hc hkp hn hA1 hA2 t0 t4 t7 t8 t11 t12 t13 hk
  rw [run_inLoop]
  obtain ⟨o, q1m⟩ := hm.errCell
  have hne : s.err ≠ 0 := fun h => by have := hc h; omega
  have z1 : (s.err == 0) = false := by simp [hne]
  have y8g : A2 n1 = .cells 26 5 [[.int .i64 nv.k, .int .i64 nv.n, .str nv.s, .int .i64 nv.x, .int .i64 nv.y]] := hA1
  by_cases hlt : j < nv.n
  ·simp only [t0, t7, t13, y8g, q1m, hlt, z1, xx, r20_1.2.2.1, tt, bb, ↓bd, Nat.reduceEqDiff, ↓reduceIte, reduceCtorEq]
   refine j8y hb h1 hm hkp hn hA2 ?_ ?_ ?_ ?_ hk
   all_goals simp only [q0b, t0, t4, t11, t12, Nat.reduceEqDiff, ↓reduceIte]
  ·simp only [t7, t13, y8g, hlt, xx, r20_1.2.2.1, tt, bb, ↓bd, Nat.reduceEqDiff, ↓reduceIte]
   refine j8y hb h1 hm hkp hn hA2 ?_ ?_ ?_ ?_ hk
   all_goals simp only [q0b, t0, t4, t11, t12, Nat.reduceEqDiff, ↓reduceIte]
 | succ c ih =>
  intro j v s T' n2 A2 hm hE hs hj0 hj1 hg hc hkp hn hA1 hA2 t0 t4 t7 t8 t11 t12 t13 hk
  rw [run_inLoop]
  obtain ⟨o, q1m⟩ := hm.errCell
  have y8g : A2 n1 = .cells 26 5 [[.int .i64 nv.k, .int .i64 nv.n, .str nv.s, .int .i64 nv.x, .int .i64 nv.y]] := hA1
  by_cases hgo : j < nv.n ∧ s.err = 0
  ·rw [x5k hgo] at hk
   have c1 : (j < nv.n) = True := eq_true hgo.1
   have z1 : (s.err == 0) = true := by simp [hgo.2]
   have w1 : IntKind.i64.wrap (j + 1) = j + 1 := wr64 (by omega) (by omega)
   have hm2 := hm.setI q1m { s with i := j } rfl
   have hkq := (Keep.refl M.b n2 A2).set (mB M { s with i := j } o)
   simp only [t0, t7, t8, t13, y8g, q1m, c1, z1, r20_1.2.2.1, tt, bb, bc, ↓bd, Nat.reduceEqDiff, Nat.reduceAdd, Nat.reduceLeDiff, ↓reduceIte, reduceCtorEq]
   have hsj : Sk { s with i := j } := ⟨hs.it, hj0, by show j ≤ _; omega, hs.out, hs.outs⟩
   refine hD hm2 (hE.keep hM (Nat.le_refl _) hkq) hsj ht hg ?_
   intro n3 A3 hm3 q1t hn3
   have y0e : Keep M.b n2 A2 A3 := hkq.trans (Nat.le_refl _) q1t
   have q0 := q6e y0e hA1 (by omega) (by omega) (by decide)
   have q8 := q6e y0e hA2 (by omega) (by omega) (by decide)
   have hk2 := x6w hM.env g b { s with i := j } ht.1 hsj
   have j1c := z7n (E := M.E) g b { s with i := j }
   generalize hr : ev M.E g b { s with i := j } = r at hm3 hk hk2 j1c
   have hm4 := hm3.upo (c := n1 + 1) (by omega) (by rw [q8]; exact q3j) (q3n r.1)
   simp only [t12, t13, q8, w1, xx, tt, bb, ↓bd, Nat.reduceEqDiff, Nat.reduceAdd, ↓reduceIte]
   have hE4 : ER l e n3 (upd A3 (n1 + 1) (q3n r.1)) := by
    have := hE.keep hM hn3 y0e
    refine ⟨this.lt, ?_⟩
    rw [q0b, if_neg]
    ·exact this.cell
    ·rintro rfl
     have h1 := this.cell
     rw [q8] at h1
     cases h1
   refine ih (j + 1) r.1 r.2 _ n3 _ hm4 hE4 hk2.2 (by omega) (by omega) (Nat.le_trans j1c.left hg) ?_ ((hkp.trans (by omega) y0e).up1 (n' := n1 + 1) (by omega) (q3n r.1)) (by omega) ?_ ?_ ?_ ?_ ?_ ?_ ?_ ?_ ?_ hk
   ·intro h
    have := x4q (E := M.E) (g := g) (t := b) (s := { s with i := j }) (by rw [hr]; exact h)
    rw [hr] at this
    have h3 := hc hgo.2
    have h4 : r.2.left < s.left := this
    omega
   ·rw [q0b, if_neg (by omega)]; exact q0
   ·rw [q0b, if_pos rfl]
   all_goals simp only [q0b, t0, t4, t7, t8, t11, t12, Nat.reduceEqDiff, ↓reduceIte]
  ·rw [j4e hgo] at hk
   by_cases hlt : j < nv.n
   ·have z1 : (s.err == 0) = false := by
     have : s.err ≠ 0 := fun h => hgo ⟨hlt, h⟩
     simp [this]
    simp only [t0, t7, t13, y8g, q1m, hlt, z1, xx, r20_1.2.2.1, tt, bb, ↓bd, Nat.reduceEqDiff, ↓reduceIte, reduceCtorEq]
    refine j8y hb h1 hm hkp hn hA2 ?_ ?_ ?_ ?_ hk
    all_goals simp only [q0b, t0, t4, t11, t12, Nat.reduceEqDiff, ↓reduceIte]
   ·simp only [t7, t13, y8g, hlt, xx, r20_1.2.2.1, tt, bb, ↓bd, Nat.reduceEqDiff, ↓reduceIte]
    refine j8y hb h1 hm hkp hn hA2 ?_ ?_ ?_ ?_ hk
    all_goals simp only [q0b, t0, t4, t11, t12, Nat.reduceEqDiff, ↓reduceIte]
theorem y7g {M : Mch} {l : List Nd} {e g : Nat} (hM : MLR M l e) (hD : DoR M l e g) {n n1 p : Nat} {A A1 : Nat → Blk} {s : St} {a b : Ex} {T' : Nat → AV} (hb : M.b < n) (ht : Tree l p (.op2 28 a b)) (hg : (ev M.E g a s).2.left ≤ g) (h : At M l e n n1 p A1 A 28 a (ev M.E g a s) T')
  (hk : ∀ n' A', MR M n' A' (evT M.E (ev M.E g) g (.op2 28 a b) s).2 → Keep M.b n A A' → n ≤ n' → q0d Cx fn (putA T dst (q1o (evT M.E (ev M.E g) g (.op2 28 a b) s).1)) ds ro os k ⟨n', A'⟩ Q) :
  Run Cx 20 T' [] none [.code c20_81] ⟨n1 + 1, A1⟩ (fun r H1 => q0d Cx fn (putA T dst r) ds ro os k H1 Q) := by
 obtain ⟨ta, tb⟩ := x9m ht
 have ek : evT M.E (ev M.E g) g (.op2 28 a b) s = if (ev M.E g a s).2.err ≠ 0 then (zV, (ev M.E g a s).2) else q9h (ev M.E g b) (g + 1) (ev M.E g a s).1 (ev M.E g a s).2 := rfl
 rw [ek] at hk
 generalize hr : ev M.E g a s = r at *
 obtain ⟨hm, hE, hkp, hle, hc1, hok, hsk, he, t0, t4, t6, t7, t8⟩ := h
 rw [if_neg (by simpa using he)] at hk
 have j0x : A1 n1 = .cells 26 5 [[.int .i64 r.1.k, .int .i64 r.1.n, .str r.1.s, .int .i64 r.1.x, .int .i64 r.1.y]] := hc1
 have fin : ∀ {v : Vl} {s' : St} (hk : ∀ n' A', MR M n' A' s' → Keep M.b n A A' → n ≤ n' → q0d Cx fn (putA T dst (q1o v)) ds ro os k ⟨n', A'⟩ Q), ∀ n2 A2, MR M n2 A2 s' → Keep M.b (n1 + 1) A1 A2 → n1 + 1 ≤ n2 → A2 n = .cells 26 5 [[.int .i64 0, .int .i64 0, .str [], .int .i64 0, .int .i64 0]] ∧ ∀ X, q0d Cx fn (putA T dst (q1o v)) ds ro os k ⟨n2, upd A2 n X⟩ Q := by
  intro v s' hk n2 A2 hm4 q5o hn2
  have j0w := hkp.trans (by omega) q5o
  exact ⟨q0f hb j0w, fun X => q0t hb hm4 j0w (by omega) hk⟩
 by_cases k0 : r.1.k = 0
 ·have z0 : (r.1.k != 0) = false := by simp [k0]
  by_cases n0 : r.1.n < 0
  ·have er : q9h (ev M.E g b) (g + 1) r.1 r.2 = (zV, { r.2 with err := 14 }) := by unfold q9h; rw [if_neg (by simp [k0]), if_pos n0]
   rw [er] at hk
   simp only [t0, t6, t7, j0x, w8a, z0, n0, r20_0, r20_1, tt, bb, bc, ↓bd, Nat.reduceEqDiff, ↓reduceIte, reduceCtorEq]
   refine q0q hm ?_
   intro n2 A2 hm4 q5o hn2
   rw [z0g he] at hm4
   obtain ⟨hcz, hx⟩ := fin hk n2 A2 hm4 q5o hn2
   simp only [t4, hcz, z1a, tt, bb, bc, ↓bd, Nat.reduceEqDiff, Nat.reduceAdd, ↓reduceIte]
   exact hx _
  ·have er : q9h (ev M.E g b) (g + 1) r.1 r.2 = ((q5l (ev M.E g b) r.1.n (g + 1) 0 (nV 0) r.2).1, { (q5l (ev M.E g b) r.1.n (g + 1) 0 (nV 0) r.2).2 with i := r.2.i }) := by unfold q9h; rw [if_neg (by simp [k0]), if_neg n0]
   rw [er] at hk
   obtain ⟨o, q1m⟩ := hm.errCell
   have hvn : 0 ≤ r.1.n ∧ r.1.n ≤ 9007199254740992 := by have := (q0w hok).1 k0; omega
   have uu : ∀ (A : Nat → Blk) (c : Nat) (X Y : Blk), upd (upd A c X) c Y = upd A c Y := fun A c X Y => z4f A c X Y
   simp only [t0, t6, t7, j0x, q1m, w8a, z0, n0, uu, q0a q3q rfl (q1s 0), r20_0, r20_1.1, r20_1.2.1, tt, bb, bc, ↓bd, Nat.reduceEqDiff, Nat.reduceAdd, ↓reduceIte, reduceCtorEq]
   have hkq := (Keep.refl M.b (n1 + 1) A1).up1 (n' := n1 + 1) (Nat.le_refl _) (q3n (nV 0))
   refine w6v (nv := r.1) (i0 := r.2.i) (q := p + 1 + (q0o a).length) hM hD hb hle tb hvn.1 hvn.2 (g + 1) 0 (nV 0) r.2 _ (n1 + 1 + 1) _ (hm.up1 (q3n (nV 0))) (hE.keep hM (by omega) hkq) hsk (Int.le_refl _) hvn.1 hg (fun _ => by omega) (hkp.trans (by omega) hkq) (Nat.le_refl _) ?_ ?_ ?_ ?_ ?_ ?_ ?_ ?_ ?_ hk
   ·rw [q0b, if_neg (by omega)]; exact hc1
   ·rw [q0b, if_pos rfl]
   all_goals simp only [q0b, t0, t4, t7, t8, Nat.reduceEqDiff, ↓reduceIte]
 ·have er : q9h (ev M.E g b) (g + 1) r.1 r.2 = (zV, { r.2 with err := 13 }) := by unfold q9h; rw [if_pos k0]
  rw [er] at hk
  have z0 : (r.1.k != 0) = true := by simpa using k0
  simp only [t0, t6, t7, j0x, w8a, z0, r20_0, r20_1, tt, bb, bc, ↓bd, Nat.reduceEqDiff, ↓reduceIte, reduceCtorEq]
  refine q0q hm ?_
  intro n2 A2 hm4 q5o hn2
  rw [z0g he] at hm4
  obtain ⟨hcz, hx⟩ := fin hk n2 A2 hm4 q5o hn2
  simp only [t4, hcz, z1a, tt, bb, bc, ↓bd, Nat.reduceEqDiff, Nat.reduceAdd, ↓reduceIte]
  exact hx _
end
theorem j8z {op : Int} (h : q4n op = true) : op = 2 ∨ op = 3 ∨ op = 4 ∨ op = 5 ∨ op = 6 ∨ op = 7 ∨ op = 8 ∨ op = 9 ∨ op = 10 ∨ op = 11 ∨ op = 12 ∨ op = 13 ∨ op = 14 ∨ op = 15 ∨ op = 16 ∨ op = 17 ∨ op = 18 ∨ op = 19 ∨ op = 20 ∨ op = 21 ∨ op = 22 ∨ op = 23 ∨ op = 24 ∨ op = 25 ∨ op = 26 ∨ op = 27 ∨ op = 28 ∨ op = 29 := by
 unfold q4n at h
 simp only [Bool.and_eq_true, decide_eq_true_eq] at h
 omega
theorem j0s (op : Int) : q0k Cx 34 [.int .i64 op] (.str (q0e op)) := by
 cases ho : q4n op with
 | true =>
  rcases j8z ho with rfl | rfl | rfl | rfl | rfl | rfl | rfl | rfl | rfl | rfl | rfl | rfl | rfl | rfl | rfl | rfl | rfl | rfl | rfl | rfl | rfl | rfl | rfl | rfl | rfl | rfl | rfl | rfl <;> exact ⟨60, by kernel_rfl⟩
 | false =>
  rw [(q8s ho).2]
  refine q0c (q0l _) w0q ?_
  unfold q4n at ho
  by_cases c1 : op < 2
  ·simp only [c1, r34_0, w0r, tt, bb, bc, ↓bd, Nat.reduceEqDiff, ↓reduceIte, reduceCtorEq]
  ·have c2 : 29 < op := by
    simp only [Bool.and_eq_false_iff, decide_eq_false_iff_not] at ho
    omega
   simp only [c1, c2, r34_0, w0r, tt, bb, bc, ↓bd, Nat.reduceEqDiff, ↓reduceIte, reduceCtorEq]
theorem q5n (op : Int) : q0k Cx 19 [.int .i64 op] (.int .i64 (q1b op : Int)) := by
 cases ho : q4n op with
 | true =>
  rcases j8z ho with rfl | rfl | rfl | rfl | rfl | rfl | rfl | rfl | rfl | rfl | rfl | rfl | rfl | rfl | rfl | rfl | rfl | rfl | rfl | rfl | rfl | rfl | rfl | rfl | rfl | rfl | rfl | rfl <;> exact ⟨100, by kernel_rfl⟩
 | false =>
  have hw := j0s op
  rw [(q8s ho).2] at hw
  rw [(q8s ho).1]
  refine q0c (q0l _) y9y ?_
  have e1 : (([] : Bytes) == []) = true := rfl
  simp only [e1, Int.cast_ofNat_Int, q0a q9o rfl hw, r19_0, w8v, tt, bb, bc, ↓bd, ↓reduceIte, reduceCtorEq]
theorem Es.cons1 {d : Nat} {e : List Nd} {b : Bytes} (h : Es d 1 e [b]) {k : Nat} {ls : List Nd} {bs : List Bytes} (hs : Es d k ls bs) : Es d (k + 1) (e ++ ls) (b :: bs) := by
 cases h with
 | leaf h h0 => cases h0; exact .leaf h hs
 | node h hz hp h0 => cases h0; rw [List.append_nil, List.cons_append]; exact .node h hz hp hs
def EsX : Nat → Nat → List Nd → List Bytes → Prop
 | 0, k, e, bs => k = 0 ∧ e = [] ∧ bs = []
 | d + 1, k, e, bs => Es d k e bs
theorem EsX.zero (D : Nat) : EsX D 0 [] [] := by
 cases D with
 | zero => exact ⟨rfl, rfl, rfl⟩
 | succ d => exact .nil _
theorem EsX.cons1 {D : Nat} {e : List Nd} {b : Bytes} (h : EsX D 1 e [b]) {k : Nat} {ls : List Nd} {bs : List Bytes} (hs : EsX D k ls bs) : EsX D (k + 1) (e ++ ls) (b :: bs) := by
 cases D with
 | zero => cases h.1
 | succ d => exact Es.cons1 h hs
theorem EsX.split {D k : Nat} {l : List Nd} {bs : List Bytes} (h : EsX D (k + 1) l bs) : ∃ e ls b bs', l = e ++ ls ∧ bs = b :: bs' ∧ EsX D 1 e [b] ∧ EsX D k ls bs' := by
 cases D with
 | zero => cases h.1
 | succ d => exact Es.split h
theorem EsX.uniq {D k : Nat} {l l' : List Nd} {bs bs' : List Bytes} {p p' : List Nd} (h : EsX D k l bs) (h' : EsX D k l' bs') (e : l ++ p = l' ++ p') : l = l' ∧ p = p' ∧ bs = bs' := by
 cases D with
 | zero =>
  obtain ⟨_, rfl, rfl⟩ := h
  obtain ⟨_, rfl, rfl⟩ := h'
  exact ⟨rfl, e, rfl⟩
 | succ d => exact Es.uniq h h' e
def OneR (l : List Nd) (D k at_ : Nat) (r : Int) : Prop :=
 (∃ e post bs, l.drop at_ = e ++ post ∧ EsX D k e bs ∧ r = ((at_ + e.length : Nat) : Int)) ∨ (r = -1 ∧ ∀ e post bs, l.drop at_ = e ++ post → ¬ EsX D k e bs)
theorem OneR.zero (l : List Nd) (D at_ : Nat) : OneR l D 0 at_ (at_ : Int) := .inl ⟨[], l.drop at_, [], rfl, .zero D, rfl⟩
theorem OneR.no {l : List Nd} {D k at_ : Nat} (h : OneR l D 1 at_ (-1)) : OneR l D (k + 1) at_ (-1) := by
 refine .inr ⟨rfl, fun e post bs hd hs => ?_⟩
 obtain ⟨e1, ls, b, bs', rfl, rfl, h1, h2⟩ := hs.split
 rcases h with ⟨_, _, _, _, _, hr⟩ | ⟨_, h⟩
 ·omega
 ·exact h e1 (ls ++ post) [b] (by rw [hd, List.append_assoc]) h1
theorem OneR.step {l : List Nd} {D k at_ m : Nat} {r : Int} (h : OneR l D 1 at_ (m : Int)) (hr : OneR l D k m r) : OneR l D (k + 1) at_ r := by
 rcases h with ⟨e, post, bs, hd, hs, hm⟩ | ⟨hm, _⟩
 ·have hm' : m = at_ + e.length := by omega
  subst hm'
  have hd2 : l.drop (at_ + e.length) = post := by rw [← List.drop_drop, hd, List.drop_left]
  have hb : ∃ b, bs = [b] := by
   cases D with
   | zero => cases hs.1
   | succ d =>
    have := (show Es d 1 e bs from hs).len.2
    match bs, this with
    | [b], _ => exact ⟨b, rfl⟩
  obtain ⟨b, rfl⟩ := hb
  rcases hr with ⟨e2, post2, bs2, hd3, hs2, hr⟩ | ⟨hr, hno⟩
  ·refine .inl ⟨e ++ e2, post2, b :: bs2, ?_, hs.cons1 hs2, by rw [hr, List.length_append]; omega⟩
   rw [hd, List.append_assoc, ← hd2, hd3]
  ·refine .inr ⟨hr, fun e3 post3 bs3 hd3 hs3 => ?_⟩
   obtain ⟨e4, ls, b4, bs', rfl, rfl, h4, h5⟩ := hs3.split
   rw [hd, List.append_assoc] at hd3
   obtain ⟨rfl, hp, _⟩ := hs.uniq h4 hd3
   exact hno ls post3 bs' (by rw [hd2, hp]) h5
 ·omega
def P1 (l : List Nd) (n : Nd) (w k : Nat) (i at_ : Nat) (r : Int) : Prop :=
 ∀ (T : Nat → AV) (h : Nat) (A : Nat → Blk), T 0 = .vec 6 (l.map q2y) → T 1 = .int .i64 (at_ : Int) → T 2 = .int .i64 (w : Int) → T 7 = .ptr 0 6 0 0 → T 8 = .int .i64 (i : Int) → A 0 = .cells 51 6 [q2y n] →
  Run Cx 32 T [] none [.inLoop c32_43, .inBlock 0, .code c32_61] ⟨h, A⟩ (fun r0 H' => BX.freeze H' r0 = some (.int .i64 r))
theorem y2v {l : List Nd} {n : Nd} {D w : Nat} (hw : w ≤ 24) (hl : l.length ≤ 1000) (ih : ∀ at_, ∃ r, q0k Cx 32 [.vec 6 (l.map q2y), .int .i64 (at_ : Nat), .int .i64 ((w + 1 : Nat) : Int)] (.int .i64 r) ∧ OneR l D 1 at_ r) (h3 : q1b n.op ≤ 3) :
  ∀ (j i at_ : Nat), i + j = q1b n.op → ∃ r, OneR l D j at_ r ∧ P1 l n w (q1b n.op) i at_ r
 | 0, i, at_, hij => by
  refine ⟨_, .zero l D at_, fun T h A t0 t1 t2 t7 t8 a0 => ?_⟩
  rw [run_inLoop]
  have c0 : ¬ (i : Int) < (q1b n.op : Int) := by omega
  simp only [t1, t7, t8, a0, c0, q0a z6e rfl (q5n n.op), xx, r32_0, z1c, tt, bb, bc, ↓bd, Nat.reduceEqDiff, ↓reduceIte]
 | j + 1, i, at_, hij => by
  obtain ⟨r, hc, hr⟩ := ih at_
  have c0 : (i : Int) < (q1b n.op : Int) := by omega
  have w1 : IntKind.i64.wrap ((w : Int) + 1) = ((w + 1 : Nat) : Int) := by rw [wr64 (by omega) (by omega)]; omega
  have w2 : IntKind.i64.wrap ((i : Int) + 1) = ((i + 1 : Nat) : Int) := by rw [wr64 (by omega) (by omega)]; omega
  rcases hr with ⟨e, post, bs, hd, hs, hm⟩ | ⟨hm, hno⟩
  ·subst hm
   obtain ⟨r2, hr2, hp2⟩ := y2v hw hl ih h3 j (i + 1) (at_ + e.length) (by omega)
   refine ⟨r2, OneR.step (.inl ⟨e, post, bs, hd, hs, rfl⟩) hr2, fun T h A t0 t1 t2 t7 t8 a0 => ?_⟩
   rw [run_inLoop]
   have c1 : ¬ ((at_ + e.length : Nat) : Int) < 0 := by omega
   simp only [t0, t1, t2, t7, t8, a0, c0, c1, w1, w2, q0a z6e rfl (q5n n.op), q0a x3h rfl hc, xx, r32_0.2.2.2.2.2.1, tt, bb, bc, ↓bd, Nat.reduceEqDiff, ↓reduceIte, reduceCtorEq]
   refine hp2 _ _ _ ?_ ?_ ?_ ?_ ?_ a0
   all_goals simp only [q0b, t0, t2, t7, Nat.reduceEqDiff, ↓reduceIte]
  ·subst hm
   refine ⟨-1, OneR.no (.inr ⟨rfl, hno⟩), fun T h A t0 t1 t2 t7 t8 a0 => ?_⟩
   rw [run_inLoop]
   simp only [t0, t1, t2, t7, t8, a0, c0, w1, q0a z6e rfl (q5n n.op), q0a x3h rfl hc, r32_0, z1c, tt, bb, bc, ↓bd, Nat.reduceEqDiff, ↓reduceIte, reduceCtorEq, Int.reduceLT, Int.reduceNeg]
theorem j9a {l : List Nd} {d at_ : Nat} {n : Nd} (hlt : at_ < l.length) (hg : l[at_] = n) (h1 : q2v n = false) (h2 : q4n n.op = false ∨ z3q n.v = false) : OneR l (d + 1) 1 at_ (-1) := by
 refine .inr ⟨rfl, fun e post bs hd hs => ?_⟩
 replace hs : Es d 1 e bs := hs
 have hd0 := List.drop_eq_getElem_cons hlt
 rw [hg] at hd0
 rw [hd0] at hd
 cases hs with
 | leaf h hs =>
  rw [List.cons_append] at hd
  cases (List.cons.inj hd).1
  rw [h] at h1
  cases h1
 | node h hz hp hs =>
  rw [List.cons_append] at hd
  cases (List.cons.inj hd).1
  rcases h2 with h2 | h2
  ·rw [h] at h2; cases h2
  ·rw [hz] at h2; cases h2
theorem j9b {l : List Nd} {d at_ : Nat} {n : Nd} (hlt : at_ < l.length) (hg : l[at_] = n) (h1 : q2v n = true) : OneR l (d + 1) 1 at_ ((at_ + 1 : Nat) : Int) := by
 have hd0 := List.drop_eq_getElem_cons hlt
 rw [hg] at hd0
 exact .inl ⟨[n], l.drop (at_ + 1), _, hd0, Es.leaf (d := d) h1 (.nil _), rfl⟩
theorem x9v {l : List Nd} {d at_ : Nat} {n : Nd} {r : Int} (hlt : at_ < l.length) (hg : l[at_] = n) (ho : q4n n.op = true) (hz : z3q n.v = true) (h : OneR l d (q1b n.op) (at_ + 1) r) : OneR l (d + 1) 1 at_ r := by
 have hd0 := List.drop_eq_getElem_cons hlt
 rw [hg] at hd0
 have hp := q2h ho
 rcases h with ⟨e, post, bs, hd, hs, hr⟩ | ⟨hr, hno⟩
 ·cases d with
  | zero => have := hs.1; omega
  | succ d =>
   refine .inl ⟨n :: e, post, [x9b n bs], by rw [hd0, hd]; rfl, ?_, by rw [hr, List.length_cons]; omega⟩
   have := Es.node (d := d) ho hz hs (.nil _)
   rw [List.append_nil] at this
   exact this
 ·refine .inr ⟨hr, fun e post bs hd hs => ?_⟩
  replace hs : Es d 1 e bs := hs
  rw [hd0] at hd
  cases hs with
  | leaf h hs =>
   rw [List.cons_append] at hd
   cases (List.cons.inj hd).1
   have := (q8t h).1
   rw [ho] at this
   cases this
  | @node d k n ps ls cs bs h hz hp hs =>
   cases hs
   rw [List.append_nil, List.cons_append] at hd
   obtain ⟨h1, h2⟩ := List.cons.inj hd
   cases h1
   exact hno ps post cs h2 hp
theorem y7h {op : Int} (h : q4n op = true) : q0e op ≠ [] := by
 obtain ⟨h2, e⟩ := j6l h
 unfold q0e
 rw [e]
 have key : ∀ x, x ∈ ops → x.1 ≠ [] := by decide
 exact key _ (List.getElem_mem h2)
theorem y2w {l : List Nd} (hl : l.length ≤ 1000) : ∀ (D w : Nat), w + D = 25 → ∀ at_ : Nat, ∃ r, q0k Cx 32 [.vec 6 (l.map q2y), .int .i64 (at_ : Nat), .int .i64 (w : Int)] (.int .i64 r) ∧ OneR l D 1 at_ r
 | 0, w, hw, at_ => by
  refine ⟨-1, ?_, .inr ⟨rfl, fun e post bs hd hs => by cases hs.1⟩⟩
  refine q0c (q0l _) z1b ?_
  have hw' : w = 25 := by omega
  subst hw'
  by_cases c0 : ((l.map q2y).length : Int) ≤ (at_ : Int)
  ·simp only [c0, i64, Int.cast_ofNat_Int, r32_0.1, r32_0.2.1, z1c, tt, bb, bc, ↓bd, Nat.reduceEqDiff, ↓reduceIte, reduceCtorEq, Int.reduceNeg]
  ·simp only [c0, i64, Int.cast_ofNat_Int, r32_0.1, r32_0.2.1, z1c, tt, bb, bc, ↓bd, Nat.reduceEqDiff, ↓reduceIte, reduceCtorEq, Int.reduceLT, Int.reduceNeg]
 | d + 1, w, hw, at_ => by
  by_cases hlt : at_ < l.length
  ·have ih := fun a => y2w hl d (w + 1) (by omega) a
   have c0 : ¬ ((l.map q2y).length : Int) ≤ (at_ : Int) := by rw [List.length_map]; omega
   have c1 : ¬ (24 : Int) < (w : Int) := by omega
   have p0 : (0 : Int) ≤ (at_ : Int) := by omega
   have l0 : (at_ : Int) < ((l.map q2y).length : Int) := by rw [List.length_map]; omega
   have g0 := z4g hlt
   have w1 : IntKind.i64.wrap ((at_ : Int) + 1) = ((at_ + 1 : Nat) : Int) := by rw [wr64 (by omega) (by omega)]; omega
   have hR := refRight_ok (l[at_]).v.k (l[at_]).v.n (l[at_]).v.s (l[at_]).v.x (l[at_]).v.y
   have eo : q1j (l[at_]).v.k (l[at_]).v.n (l[at_]).v.s (l[at_]).v.x (l[at_]).v.y = okV (l[at_]).v := rfl
   rw [eo] at hR
   have hW := j0s (l[at_]).op
   cases ho : q4n (l[at_]).op with
   | true =>
    have ho' := ho
    unfold q4n at ho'
    simp only [Bool.and_eq_true, decide_eq_true_eq] at ho'
    have h0 : ((l[at_]).op == 0) = false := by rw [beq_eq_false_iff_ne]; omega
    have h1 : ((l[at_]).op == 1) = false := by rw [beq_eq_false_iff_ne]; omega
    have hp := q2h ho
    have e2 : (q0e (l[at_]).op == []) = false := by
     rw [beq_eq_false_iff_ne]
     exact y7h ho
    have hno : q2v l[at_] = false := by
     cases ha : q2v l[at_] with
     | false => rfl
     | true => have := (q8t ha).1; rw [ho] at this; cases this
    cases hz : z3q (l[at_]).v with
    | false =>
     refine ⟨-1, ?_, j9a hlt rfl hno (.inr hz)⟩
     unfold z3q at hz
     refine q0c (q0l _) z1b ?_
     simp only [c0, c1, p0, l0, g0, h0, h1, e2, hz, Int.toNat_natCast, i64, q0a q9o rfl hW, r32_0.1, r32_0.2.1, r32_0.2.2.1, r32_0.2.2.2.1, z1c, tt, bb, bc, ↓bd, Nat.reduceEqDiff, Nat.reduceAdd, ↓reduceIte, reduceCtorEq, Int.reduceNeg]
    | true =>
     obtain ⟨r, hr, hpl⟩ := y2v (n := l[at_]) (D := d) (w := w) (by omega) hl ih hp.2 (q1b (l[at_]).op) 0 (at_ + 1) (by omega)
     refine ⟨r, ?_, x9v hlt rfl ho hz hr⟩
     unfold z3q at hz
     refine q0c (q0l _) z1b ?_
     simp only [c0, c1, p0, l0, g0, w1, h0, h1, e2, hz, Int.toNat_natCast, i64, q0a q9o rfl hW, r32_0.1, r32_0.2.1, r32_0.2.2.1, r32_0.2.2.2.1, r32_0.2.2.2.2.1, tt, bb, bc, ↓bd, Nat.reduceEqDiff, Nat.reduceAdd, ↓reduceIte, reduceCtorEq]
     refine hpl _ _ _ ?_ ?_ ?_ ?_ ?_ ?_
     all_goals simp only [q0b, q1g, qez, Nat.reduceEqDiff, ↓reduceIte]
     all_goals rfl
   | false =>
    rw [(q8s ho).2] at hW
    have e2 : (([] : Bytes) == []) = true := rfl
    cases h0 : ((l[at_]).op == 0) with
    | true =>
     have hop0 : (l[at_]).op = 0 := by simpa using h0
     have hal : q2v l[at_] = okV (l[at_]).v := by unfold q2v; rw [if_neg (by rw [hop0]; decide), h0, Bool.true_and]
     have h1 : ((l[at_]).op == 1) = false := by rw [hop0]; rfl
     cases hok : okV (l[at_]).v with
     | true =>
      rw [hok] at hR
      refine ⟨((at_ + 1 : Nat) : Int), ?_, j9b hlt rfl (by rw [hal, hok])⟩
      refine q0c (q0l _) z1b ?_
      simp only [c0, c1, p0, l0, g0, w1, h0, Int.toNat_natCast, i64, q0a q3p rfl hR, r32_0.1, r32_0.2.1, z1c, tt, bb, bc, ↓bd, Nat.reduceEqDiff, Nat.reduceAdd, ↓reduceIte, reduceCtorEq]
     | false =>
      rw [hok] at hR
      refine ⟨-1, ?_, j9a hlt rfl (by rw [hal, hok]) (.inl ho)⟩
      refine q0c (q0l _) z1b ?_
      simp only [c0, c1, p0, l0, g0, h0, h1, e2, Int.toNat_natCast, i64, q0a q3p rfl hR, q0a q9o rfl hW, r32_0.1, r32_0.2.1, r32_0.2.2.1, r32_0.2.2.2.1, z1c, tt, bb, bc, ↓bd, Nat.reduceEqDiff, Nat.reduceAdd, ↓reduceIte, reduceCtorEq, Int.reduceNeg]
    | false =>
     cases h1 : ((l[at_]).op == 1) with
     | false =>
      have hal : q2v l[at_] = false := by
       unfold q2v
       rw [if_neg (by simpa using h1), h0]; rfl
      refine ⟨-1, ?_, j9a hlt rfl hal (.inl ho)⟩
      refine q0c (q0l _) z1b ?_
      simp only [c0, c1, p0, l0, g0, h0, h1, e2, Int.toNat_natCast, i64, q0a q9o rfl hW, r32_0.1, r32_0.2.1, r32_0.2.2.1, r32_0.2.2.2.1, z1c, tt, bb, bc, ↓bd, Nat.reduceEqDiff, Nat.reduceAdd, ↓reduceIte, reduceCtorEq, Int.reduceNeg]
     | true =>
      have hop1 : (l[at_]).op = 1 := by simpa using h1
      have hal : q2v l[at_] = ((((l[at_]).v.k == 0) && okV (l[at_]).v) && decide (0 ≤ (l[at_]).v.n) && decide ((l[at_]).v.n < 5)) := by
       unfold q2v
       rw [if_pos hop1]
      by_cases hyes : q2v l[at_] = true
      ·have hy := hyes
       rw [hal] at hy
       simp only [Bool.and_eq_true, decide_eq_true_eq] at hy
       obtain ⟨⟨⟨hk, hok⟩, hn0⟩, hn5⟩ := hy
       have hn4 : (l[at_]).v.n ≤ 4 := by omega
       rw [hok] at hR
       refine ⟨((at_ + 1 : Nat) : Int), ?_, j9b hlt rfl hyes⟩
       refine q0c (q0l _) z1b ?_
       simp only [c0, c1, p0, l0, g0, w1, h0, h1, hk, hn0, hn4, Int.toNat_natCast, i64, q0a q3p rfl hR, r32_0.1, r32_0.2.1, r32_0.2.2.1, z1c, tt, bb, bc, ↓bd, Nat.reduceEqDiff, Nat.reduceAdd, ↓reduceIte, reduceCtorEq]
      ·have hno : q2v l[at_] = false := by simpa using hyes
       refine ⟨-1, ?_, j9a hlt rfl hno (.inl ho)⟩
       rw [hal] at hno
       refine q0c (q0l _) z1b ?_
       cases hok : okV (l[at_]).v with
       | false =>
        rw [hok] at hR
        simp only [c0, c1, p0, l0, g0, h0, h1, e2, Int.toNat_natCast, i64, q0a q3p rfl hR, q0a q9o rfl hW, r32_0.1, r32_0.2.1, r32_0.2.2.1, r32_0.2.2.2.1, z1c, tt, bb, bc, ↓bd, Nat.reduceEqDiff, Nat.reduceAdd, ↓reduceIte, reduceCtorEq, Int.reduceNeg]
       | true =>
        rw [hok] at hR hno
        cases hk : ((l[at_]).v.k == 0) with
        | false => simp only [c0, c1, p0, l0, g0, h0, h1, e2, hk, Int.toNat_natCast, i64, q0a q3p rfl hR, q0a q9o rfl hW, r32_0.1, r32_0.2.1, r32_0.2.2.1, r32_0.2.2.2.1, z1c, tt, bb, bc, ↓bd, Nat.reduceEqDiff, Nat.reduceAdd, ↓reduceIte, reduceCtorEq, Int.reduceNeg]
        | true =>
         rw [hk] at hno
         by_cases hn0 : 0 ≤ (l[at_]).v.n
         ·have hn4 : ¬ (l[at_]).v.n ≤ 4 := by
           simp [hn0] at hno
           omega
          simp only [c0, c1, p0, l0, g0, h0, h1, e2, hk, hn0, hn4, Int.toNat_natCast, i64, q0a q3p rfl hR, q0a q9o rfl hW, r32_0.1, r32_0.2.1, r32_0.2.2.1, r32_0.2.2.2.1, z1c, tt, bb, bc, ↓bd, Nat.reduceEqDiff, Nat.reduceAdd, ↓reduceIte, reduceCtorEq, Int.reduceNeg]
         ·simp only [c0, c1, p0, l0, g0, h0, h1, e2, hk, hn0, Int.toNat_natCast, i64, q0a q3p rfl hR, q0a q9o rfl hW, r32_0.1, r32_0.2.1, r32_0.2.2.1, r32_0.2.2.2.1, z1c, tt, bb, bc, ↓bd, Nat.reduceEqDiff, Nat.reduceAdd, ↓reduceIte, reduceCtorEq, Int.reduceNeg]
  ·refine ⟨-1, ?_, .inr ⟨rfl, fun e post bs hd hs => ?_⟩⟩
   ·refine q0c (q0l _) z1b ?_
    have c0 : ((l.map q2y).length : Int) ≤ (at_ : Int) := by rw [List.length_map]; omega
    simp only [c0, i64, r32_0.1, r32_0.2.1, z1c, tt, bb, bc, ↓bd, Nat.reduceEqDiff, ↓reduceIte, reduceCtorEq, Int.reduceNeg]
   ·replace hs : Es d 1 e bs := hs
    have := hs.len.1
    rw [List.drop_of_length_le (by omega)] at hd
    have := congrArg List.length hd
    simp only [List.length_nil, List.length_append] at this
    omega
theorem j4m {v : AV} {l : List Nd} (hv : InN v l) (hl : l.length ≤ 1000) : q0k Cx 17 [v] (.bool (q2w l)) := by
 by_cases h0 : l = []
 ·subst h0
  have e : q2w [] = false := rfl
  rw [e]
  rcases hv with ⟨rfl, _⟩ | rfl
  ·exact ⟨100, by kernel_rfl⟩
  ·exact ⟨100, by kernel_rfl⟩
 ·obtain rfl := hv.vec h0
  refine q0c (q0l _) y9v ?_
  by_cases h4 : l.length ≤ 400
  ·obtain ⟨r, hr, ho⟩ := y2w hl 25 0 rfl 0
   have c0 : ((l.map q2y).length : Int) ≤ 400 := by rw [List.length_map]; omega
   have e : (r == ((l.map q2y).length : Int)) = q2w l := by
    rw [List.length_map]
    rcases ho with ⟨e, post, bs, hd, hs, rfl⟩ | ⟨rfl, hno⟩
    ·replace hs : Es 24 1 e bs := hs
     rw [List.drop_zero] at hd
     have hb := hs.len.2
     match bs, hb with
     | [b], _ =>
      cases hrm : q2w l with
      | true =>
       obtain ⟨_, b2, h2⟩ := right_iff.mp hrm
       obtain ⟨h5, _⟩ := hs.uniq (p := post) (p' := []) h2 (by rw [← hd, List.append_nil])
       rw [beq_iff_eq, h5, Nat.zero_add]
      | false =>
       rw [beq_eq_false_iff_ne]
       intro hc
       have y7t : post = [] := by
        have := congrArg List.length hd
        rw [List.length_append] at this
        exact List.eq_nil_of_length_eq_zero (by omega)
       rw [y7t, List.append_nil] at hd
       have : q2w l = true := right_iff.mpr ⟨h4, b, by rw [hd]; exact hs⟩
       rw [hrm] at this
       cases this
    ·have : q2w l = false := by
      cases hrm : q2w l with
      | false => rfl
      | true =>
       obtain ⟨_, b2, h2⟩ := right_iff.mp hrm
       exact absurd h2 (hno l [] [b2] (by rw [List.drop_zero, List.append_nil]))
     rw [this, beq_eq_false_iff_ne]
     omega
   replace hr : q0k Cx 32 [.vec 6 (l.map q2y), .int .i64 0, .int .i64 0] (.int .i64 r) := hr
   simp only [c0, e, i64, q0a x3h rfl hr, r17_0, y9w, tt, bb, bc, ↓bd, Nat.reduceEqDiff, ↓reduceIte, reduceCtorEq]
  ·have c0 : ¬ ((l.map q2y).length : Int) ≤ 400 := by rw [List.length_map]; omega
   have e : q2w l = false := by
    unfold q2w
    have : (400 < l.length) := by omega
    simp [this]
   rw [e]
   simp only [c0, i64, r17_0, y9w, tt, bb, bc, ↓bd, Nat.reduceEqDiff, ↓reduceIte, reduceCtorEq]
section
theorem y2x {M : Mch} {l : List Nd} {e g : Nat} (hM : MLR M l e) (hD : DoR M l e g) {n : Nat} {A : Nat → Blk} (hb : M.b < n) {op : Int} (hop : q4n op = true) (hop2 : op ≠ 11 ∧ op ≠ 28 ∧ op ≠ 29) {q : Nat} {nv : Vl} :
  ∀ (ts : List Ex) (p : Nat) (vs : List Vl) (s : St) (T' : Nat → AV) (n' : Nat) (A' : Nat → Blk) (d : AV), Kids l p ts q → MR M n' A' s → ER l e n' A' → Sk s → s.err = 0 → s.left ≤ g → AL M (n + 1 + 1) d n' A' vs → vs ≠ [] → (∀ v, v ∈ vs → okV v = true) → vs.length + ts.length = q1b op → Keep M.b (n + 1) (upd A n zB) A' → n + 1 + 1 ≤ n' →
   A' (n + 1) = .cells 51 6 [[.int .i64 op, .int .i64 nv.k, .int .i64 nv.n, .str nv.s, .int .i64 nv.x, .int .i64 nv.y]] →
   T' 0 = .ptr M.b 22 0 0 → T' 4 = .ptr n 5 0 0 → T' 5 = .ptr (n + 1) 6 0 0 → T' 6 = .str (q0e op) → T' 14 = d → T' 15 = .int .i64 (p : Int) → T' 16 = .int .i64 (vs.length : Int) →
   (∀ n' A', MR M n' A' (x1b (ev M.E g) op ts vs s).2 → Keep M.b n A A' → n ≤ n' → q0d Cx fn (putA T dst (q1o (x1b (ev M.E g) op ts vs s).1)) ds ro os k ⟨n', A'⟩ Q) →
   Run Cx 20 T' [] none [.inLoop c20_174, .inBlock 4, .code c20_194] ⟨n', A'⟩ (fun r H1 => q0d Cx fn (putA T dst r) ds ro os k H1 Q)
 | [], p, vs, s, T', n', A', d, hK, hm, hE, hs, he, hg, ho, hne, hok, hl, hkp, hn, hnd, t0, t4, t5, t6, t14, t15, t16, hk => by
  rw [run_inLoop]
  rw [List.length_nil, Nat.add_zero] at hl
  have c0 : ¬ (vs.length : Int) < (q1b op : Int) := by omega
  have hP := q5n op
  rcases ho with ⟨h1, h2⟩ | ⟨g', h1, h2, h3⟩
  ·exact absurd h2 hne
  ·subst h1
   simp only [t0, t5, t6, t14, t16, c0, hnd, q0a z6e rfl hP, xx, r20_1, tt, bb, bc, ↓bd, Nat.reduceEqDiff, ↓reduceIte, reduceCtorEq]
   refine j6w hm he h3 hok hs.out hop hop2 hl.symm ?_
   intro n2 A2 hm2 q1k hn2
   have q1t := hkp.trans (by omega) q1k
   have hcz := q0f hb q1t
   simp only [t4, hcz, z1a, tt, bb, bc, ↓bd, Nat.reduceEqDiff, Nat.reduceAdd, ↓reduceIte]
   exact q0t hb hm2 q1t (by omega) hk
 | t :: ts, p, vs, s, T', n', A', d, hK, hm, hE, hs, he, hg, ho, hne, hok, hl, hkp, hn, hnd, t0, t4, t5, t6, t14, t15, t16, hk => by
  rw [run_inLoop]
  rw [List.length_cons] at hl
  cases hK with
  | cons ht hK =>
   have hpp := q2h hop
   have hP := q5n op
   have c0 : (vs.length : Int) < (q1b op : Int) := by omega
   simp only [t0, t5, t14, t15, t16, c0, hnd, q0a z6e rfl hP, r20_1, tt, bb, bc, ↓bd, Nat.reduceEqDiff, ↓reduceIte, reduceCtorEq]
   refine hD hm hE hs ht hg ?_
   intro n2 A2 hm2 q1k hn2
   have hk2 := x6w hM.env g t s ht.1 hs
   have x1c := z7n (E := M.E) g t s
   have ek : x1b (ev M.E g) op (t :: ts) vs s = if (ev M.E g t s).2.err ≠ 0 then (zV, (ev M.E g t s).2) else x1b (ev M.E g) op ts (vs ++ [(ev M.E g t s).1]) (ev M.E g t s).2 := rfl
   rw [ek] at hk
   generalize hr : ev M.E g t s = r at *
   obtain ⟨A3, x1d, ho3, hkeep⟩ := (ho.keep hn2 q1k).app1 (by omega) (by omega) r.1 (by omega)
   have hm3 : MR M (n2 + 1 + 1) A3 r.2 := hm2.keep (by omega) fun c hc hp => hkeep c hc (by
    rcases hp with rfl | hp
    ·left; omega
    ·right; exact hp)
   have q1t : Keep M.b (n + 1) (upd A n zB) A3 := by
    intro c hc hcb hcp
    have := hkp.trans (by omega) q1k
    rw [← this c hc hcb hcp]
    exact hkeep c (by omega) (.inl (by omega))
   have hE2 := hE.keep hM hn2 q1k
   have hE3 : ER l e (n2 + 1 + 1) A3 := ⟨by have := hE2.lt; omega, by rw [hkeep e hE2.lt (.inl (by have := hM.eb; omega))]; exact hE2.cell⟩
   have hnd3 : A3 (n + 1) = .cells 51 6 [[.int .i64 op, .int .i64 nv.k, .int .i64 nv.n, .str nv.s, .int .i64 nv.x, .int .i64 nv.y]] := by
    rw [hkeep (n + 1) (by omega) (.inl (by omega))]
    exact q6e q1k hnd (by omega) (by omega) (by decide)
   obtain ⟨o, q1m⟩ := hm3.errCell
   have hcz := q0f hb q1t
   by_cases hre : r.2.err = 0
   ·rw [if_neg (by simpa using hre)] at hk
    have z1 : (r.2.err != 0) = false := by simp [hre]
    have w1 : IntKind.i64.wrap ((vs.length : Int) + 1) = ((vs.length + 1 : Nat) : Int) := by rw [wr64 (by omega) (by omega)]; omega
    have hlt := ht.lt
    have g0 := q8g ht
    have p0 : (0 : Int) ≤ (p : Int) := by omega
    have p1 : (p : Int) < (l.length : Int) := by omega
    have hF := hM.F
    have hcE := hE3.cell
    simp only [t0, t15, t16, x1d, q1m, z1, w1, hF, hcE, g0, p0, p1, Int.toNat_natCast, q0i, xx, tt, bb, bc, ↓bd, Nat.reduceEqDiff, Nat.reduceAdd, Nat.reduceMul, Nat.reduceLeDiff, ↓reduceIte, reduceCtorEq, List.reduceReplicate]
    have el : (vs ++ [r.1]).length = vs.length + 1 := by simp
    refine y2x hM hD hb hop hop2 ts (p + (q0o t).length) (vs ++ [r.1]) r.2 _ _ A3 (.slc (n2 + 1) 5 0 (vs.length + 1)) hK hm3 hE3 hk2.2 hre (Nat.le_trans x1c.left hg) ho3 (by simp) ?_ (by rw [el]; omega) q1t (by omega) hnd3 ?_ ?_ ?_ ?_ ?_ ?_ ?_ hk
    ·intro v hv
     rcases List.mem_append.mp hv with hv | hv
     ·exact hok v hv
     ·rw [List.mem_singleton.mp hv]; exact hk2.1
    all_goals simp only [q0b, t0, t4, t5, t6, el, Nat.reduceEqDiff, ↓reduceIte]
   ·rw [if_pos hre] at hk
    have z1 : (r.2.err != 0) = true := by simpa using hre
    simp only [t0, t4, x1d, q1m, hcz, z1, q0i, z1a, tt, bb, bc, ↓bd, Nat.reduceEqDiff, Nat.reduceAdd, Nat.reduceMul, Nat.reduceLeDiff, ↓reduceIte, reduceCtorEq, List.reduceReplicate]
    exact q0t hb hm3 q1t (by omega) hk
end
section
theorem j0t {M : Mch} {l : List Nd} {e g : Nat} (hM : MLR M l e) (hD : DoR M l e g) {n n1 p : Nat} {A A1 : Nat → Blk} {s : St} {t a : Ex} {ts : List Ex} {T' : Nat → AV} (hb : M.b < n) (hio : q4n (opE t) = true) (h3 : opE t ≠ 11 ∧ opE t ≠ 28 ∧ opE t ≠ 29) (ht : Tree l p t) (hkd : q7e t = a :: ts) (hg : (ev M.E g a s).2.left ≤ g) (h : At M l e n n1 p A1 A (opE t) a (ev M.E g a s) T')
  (t5 : T' 5 = .ptr (n + 1) 6 0 0) (hle : n + 1 + 1 ≤ n1) (hnd : A1 (n + 1) = .cells 51 6 [[.int .i64 (opE t), .int .i64 (q2r t).k, .int .i64 (q2r t).n, .str (q2r t).s, .int .i64 (q2r t).x, .int .i64 (q2r t).y]])
  (hk : ∀ n' A', MR M n' A' (evT M.E (ev M.E g) g t s).2 → Keep M.b n A A' → n ≤ n' → q0d Cx fn (putA T dst (q1o (evT M.E (ev M.E g) g t s).1)) ds ro os k ⟨n', A'⟩ Q) :
  Run Cx 20 T' [] none [.code c20_81] ⟨n1 + 1, A1⟩ (fun r H1 => q0d Cx fn (putA T dst r) ds ro os k H1 Q) := by
 rw [x5m ht.1 hio h3, hkd] at hk
 have ek : x1b (ev M.E g) (opE t) (a :: ts) [] s = if (ev M.E g a s).2.err ≠ 0 then (zV, (ev M.E g a s).2) else x1b (ev M.E g) (opE t) ts ([] ++ [(ev M.E g a s).1]) (ev M.E g a s).2 := rfl
 rw [ek] at hk
 have j7c := ht.kids.1
 have hln := (q8y ht.1).1
 rw [hkd] at j7c hln
 generalize hr : ev M.E g a s = r at *
 obtain ⟨hm, hE, hkp, hle0, hc1, hok, hsk, he, t0, t4, t6, t7, t8⟩ := h
 rw [if_neg (by simpa using he), List.nil_append] at hk
 have j0x : A1 n1 = .cells 26 5 [[.int .i64 r.1.k, .int .i64 r.1.n, .str r.1.s, .int .i64 r.1.x, .int .i64 r.1.y]] := hc1
 obtain ⟨q1, q2, q3, q4, q5⟩ := j0q hio
 have d1 : decide (opE t = 11) = false := by simp [h3.1]
 have d2 : decide (opE t = 28) = false := by simp [h3.2.1]
 have d3 : decide (opE t = 29) = false := by simp [h3.2.2]
 rw [d1] at q2
 rw [d2] at q3
 rw [d3] at q4
 simp only [t6, t7, t8, j0x, q2, q3, q4, xx, r20_0, r20_1.1, r20_1.2.2.2.2.1, tt, bb, bc, ↓bd, Nat.reduceEqDiff, Nat.reduceAdd, Nat.reduceMul, Nat.reduceLeDiff, ↓reduceIte, List.reduceReplicate]
 have hkq := (Keep.refl M.b (n1 + 1) A1).up1 (n' := n1 + 1) (Nat.le_refl _) (q3n r.1)
 cases j7c with
 | cons hta hK =>
  refine y2x (nv := q2r t) hM hD hb hio h3 ts (p + 1 + (q0o a).length) [r.1] r.2 _ (n1 + 1 + 1) _ (.slc (n1 + 1) 5 0 1) hK (hm.up1 (q3n r.1)) (hE.keep hM (by omega) hkq) hsk he hg (.inr ⟨n1 + 1, rfl, by omega, by omega, by have := hm.lt; omega, by rw [q0b, if_pos rfl]; rfl⟩) (by simp) ?_ (by rw [hln]; simp; omega) (hkp.trans (by omega) hkq) (by omega) ?_ ?_ ?_ ?_ ?_ ?_ ?_ ?_ hk
  ·intro v hv
   rw [List.mem_singleton.mp hv]; exact hok
  ·rw [q0b, if_neg (by omega)]; exact hnd
  all_goals simp only [q0b, t0, t4, t5, t6, Nat.reduceEqDiff, ↓reduceIte]
  rfl
theorem x9w {M : Mch} {l : List Nd} {e g : Nat} (hM : MLR M l e) (hD : DoR M l e g) {n p : Nat} {A A2 : Nat → Blk} {s : St} {t : Ex} {T' : Nat → AV} (hb : M.b < n) (hm : MR M (n + 1 + 1) A2 s) (hE : ER l e (n + 1 + 1) A2) (hs : Sk s) (he : s.err = 0) (hg : s.left ≤ g) (ht : Tree l p t) (hkp : Keep M.b (n + 1) (upd A n zB) A2)
  (hnd : A2 (n + 1) = .cells 51 6 [[.int .i64 (opE t), .int .i64 (q2r t).k, .int .i64 (q2r t).n, .str (q2r t).s, .int .i64 (q2r t).x, .int .i64 (q2r t).y]])
  (t0 : T' 0 = .ptr M.b 22 0 0) (t1 : T' 1 = .int .i64 (p : Int)) (t4 : T' 4 = .ptr n 5 0 0) (t5 : T' 5 = .ptr (n + 1) 6 0 0)
  (hk : ∀ n' A', MR M n' A' (evT M.E (ev M.E g) g t s).2 → Keep M.b n A A' → n ≤ n' → q0d Cx fn (putA T dst (q1o (evT M.E (ev M.E g) g t s).1)) ds ro os k ⟨n', A'⟩ Q) :
  Run Cx 20 T' [] none [.code c20_22] ⟨n + 1 + 1, A2⟩ (fun r H1 => q0d Cx fn (putA T dst r) ds ro os k H1 Q) := by
 have hcz := q0f hb hkp
 have hll := hM.len
 have hlt := ht.lt
 have go : ∀ (hio : q4n (opE t) = true) (a : Ex) (ts : List Ex), q7e t = a :: ts → ((ev M.E g a s).2.err ≠ 0 → evT M.E (ev M.E g) g t s = (zV, (ev M.E g a s).2)) →
   (∀ n1 A1 T1, At M l e n n1 p A1 A (opE t) a (ev M.E g a s) T1 → n + 1 + 1 ≤ n1 → T1 5 = .ptr (n + 1) 6 0 0 → A1 (n + 1) = .cells 51 6 [[.int .i64 (opE t), .int .i64 (q2r t).k, .int .i64 (q2r t).n, .str (q2r t).s, .int .i64 (q2r t).x, .int .i64 (q2r t).y]] → (ev M.E g a s).2.left ≤ g → Run Cx 20 T1 [] none [.code c20_81] ⟨n1 + 1, A1⟩ (fun r H1 => q0d Cx fn (putA T dst r) ds ro os k H1 Q)) →
   Run Cx 20 T' [] none [.code c20_22] ⟨n + 1 + 1, A2⟩ (fun r H1 => q0d Cx fn (putA T dst r) ds ro os k H1 Q) := by
  intro hio a ts hkd q9c hgo
  have j7c := ht.kids.1
  rw [hkd] at j7c
  have h2 := q5y hio
  have z0 : (opE t == 0) = false := by simp; omega
  have z1 : (opE t == 1) = false := by simp; omega
  have hW := j0s (opE t)
  have w1 : IntKind.i64.wrap ((p : Int) + 1) = ((p + 1 : Nat) : Int) := by rw [wr64 (by omega) (by omega)]; omega
  cases j7c with
  | cons ta hK =>
   simp only [t0, t1, t5, hnd, z0, z1, w1, q0a q9o rfl hW, r20_0, tt, bb, bc, ↓bd, Nat.reduceEqDiff, ↓reduceIte, reduceCtorEq]
   refine hD hm hE hs ta hg ?_
   intro n1 A1 hm1 j1c hn1
   have hk1 := x6w hM.env g a s ta.1 hs
   have x1c := z7n (E := M.E) g a s
   generalize hr : ev M.E g a s = r at *
   have hm2 := hm1.up1 (q3n r.1)
   have hkq : Keep M.b (n + 1 + 1) A2 (upd A1 n1 (q3n r.1)) := j1c.up1 (n' := n1) (by omega) (q3n r.1)
   have q1k := hkp.trans (by omega) hkq
   have hE2 : ER l e (n1 + 1) (upd A1 n1 (q3n r.1)) := hE.keep hM (by omega) hkq
   have hcz2 := q0f hb q1k
   obtain ⟨o, q1m⟩ := hm1.errCell
   have e1 : (M.b = n1) = False := eq_false (by omega)
   have e2 : (n = n1) = False := eq_false (by omega)
   have hczA : A1 n = .cells 26 5 [[.int .i64 0, .int .i64 0, .str [], .int .i64 0, .int .i64 0]] := by rw [q0b, if_neg (by omega)] at hcz2; exact hcz2
   have uu : ∀ (A : Nat → Blk) (c : Nat) (X Y : Blk), upd (upd A c X) c Y = upd A c Y := fun A c X Y => z4f A c X Y
   by_cases hre : r.2.err = 0
   ·have y1 : (r.2.err != 0) = false := by simp [hre]
    have hla := ta.lt
    have g0 := q8g ta
    have p0 : (0 : Int) ≤ ((p + 1 : Nat) : Int) := by omega
    have p1 : ((p + 1 : Nat) : Int) < (l.length : Int) := by omega
    have hF := hM.F
    have hcE := hE2.cell
    have en : (e = n1) = False := eq_false (by have := hM.eb; omega)
    rw [q0b, if_neg (by rw [en]; exact id)] at hcE
    simp only [t0, t1, q1m, e1, en, uu, y1, w1, hF, hcE, g0, p0, p1, Int.toNat_natCast, tt, bb, ↓bd, Nat.reduceEqDiff, Nat.reduceAdd, ↓reduceIte, reduceCtorEq]
    have hnd1 : (upd A1 n1 (q3n r.1)) (n + 1) = .cells 51 6 [[.int .i64 (opE t), .int .i64 (q2r t).k, .int .i64 (q2r t).n, .str (q2r t).s, .int .i64 (q2r t).x, .int .i64 (q2r t).y]] := by
     rw [q0b, if_neg (by omega)]; exact q6e j1c hnd (by omega) (by omega) (by decide)
    refine hgo n1 _ _ ⟨hm2, hE2, q1k, by omega, by rw [q0b, if_pos rfl], hk1.1, hk1.2, hre, ?_, ?_, ?_, ?_, ?_⟩ (by omega) ?_ hnd1 (Nat.le_trans x1c.left hg)
    all_goals simp only [q0b, t0, t4, t5, Nat.reduceEqDiff, ↓reduceIte]
   ·have y1 : (r.2.err != 0) = true := by simpa using hre
    rw [q9c hre] at hk
    simp only [t0, t4, q1m, hczA, e1, e2, uu, y1, z1a, tt, bb, bc, ↓bd, Nat.reduceEqDiff, Nat.reduceAdd, ↓reduceIte, reduceCtorEq]
    exact q0t hb hm2 q1k (by omega) hk
 cases t with
 | lit v =>
  have z0 : ((0 : Int) == 0) = true := rfl
  have y7o : A2 (n + 1) = .cells 51 6 [[.int .i64 0, .int .i64 v.k, .int .i64 v.n, .str v.s, .int .i64 v.x, .int .i64 v.y]] := hnd
  simp only [t4, t5, y7o, hcz, z0, r20_0, z1a, tt, bb, bc, ↓bd, Nat.reduceEqDiff, Nat.reduceAdd, ↓reduceIte]
  exact q0t hb hm hkp (by omega) hk
 | nam j =>
  have z0 : ((1 : Int) == 0) = false := rfl
  have z1 : ((1 : Int) == 1) = true := rfl
  have hj : 0 ≤ j ∧ j < 5 := ht.1
  have y7o : A2 (n + 1) = .cells 51 6 [[.int .i64 1, .int .i64 0, .int .i64 j, .str [], .int .i64 0, .int .i64 0]] := hnd
  obtain ⟨o, q1m⟩ := hm.errCell
  have y7r : j = 0 ∨ j = 1 ∨ j = 2 ∨ j = 3 ∨ j = 4 := by omega
  have hk' : ∀ X v, v = q1o (x0q M.E j s) → q0d Cx fn (putA T dst v) ds ro os k ⟨n + 1 + 1, upd A2 n X⟩ Q := by
   rintro X v rfl
   exact q0t hb hm hkp (by omega) hk
  rcases y7r with rfl | rfl | rfl | rfl | rfl <;>
  ·simp only [t0, t4, t5, y7o, hcz, q1m, z0, z1, q0a j3m rfl (q6s M.E.key), q0a q3q rfl (q1s s.i), xx, r20_0, z1a, tt, bb, bc, ↓bd, Nat.reduceEqDiff, Nat.reduceAdd, Nat.reduceLeDiff, ↓reduceIte, reduceCtorEq, Int.reduceBEq]
   exact hk' _ _ rfl
 | op1 op a =>
  have hio : q4n op = true := ht.1.1.1
  have hpp : q1b op = 1 := ht.1.1.2
  refine go hio a [] rfl (fun h => by show (if _ then _ else _) = _; rw [if_pos h]) ?_
  intro n1 A1 T1 hAt hle h5 hn1 hgl
  refine j0t (t := .op1 op a) hM hD hb hio ⟨?_, ?_, ?_⟩ ht rfl hgl hAt h5 hle hn1 hk <;> · intro e; rw [show op = _ from e] at hpp; cases hpp
 | op2 op a b =>
  have hio : q4n op = true := ht.1.1.1
  have hpp : q1b op = 2 := ht.1.1.2
  refine go hio a [b] rfl (fun h => by show (if _ then _ else _) = _; rw [if_pos h]) ?_
  intro n1 A1 T1 hAt hle h5 hn1 hgl
  by_cases h28 : op = 28
  ·subst h28
   exact y7g hM hD hb ht hgl hAt hk
  ·by_cases h29 : op = 29
   ·subst h29
    exact w6u hM hD hb ht hgl hAt hk
   ·exact j0t (t := .op2 op a b) hM hD hb hio ⟨fun e => (by rw [show op = _ from e] at hpp; cases hpp), h28, h29⟩ ht rfl hgl hAt h5 hle hn1 hk
 | op3 op a b c =>
  have hio : q4n op = true := ht.1.1.1
  have hpp : q1b op = 3 := ht.1.1.2
  refine go hio a [b, c] rfl (fun h => by show (if _ then _ else _) = _; rw [if_pos h]) ?_
  intro n1 A1 T1 hAt hle h5 hn1 hgl
  by_cases h11 : op = 11
  ·subst h11
   exact v0y hM hD hb ht hgl hAt hk
  ·refine j0t (t := .op3 op a b c) hM hD hb hio ⟨h11, ?_, ?_⟩ ht rfl hgl hAt h5 hle hn1 hk <;> · intro e; rw [show op = _ from e] at hpp; cases hpp
theorem j9c {M : Mch} {l : List Nd} {e g g' : Nat} (hM : MLR M l e) (hD : ∀ g1, g = g1 + 1 → DoR M l e g1) (hgb : g ≤ 1000000) {n p : Nat} {A : Nat → Blk} {s : St} {t : Ex} (h : MR M n A s) (hE : ER l e n A) (hs : Sk s) (ht : Tree l p t) (hg : s.left ≤ g)
  (hk : ∀ n' A', MR M n' A' (ev M.E g t s).2 → Keep M.b n A A' → n ≤ n' → q0d Cx fn (putA T dst (q1o (ev M.E g t s).1)) ds ro os k ⟨n', A'⟩ Q) :
  q0g Cx fn T ds ro 20 [.ptr M.b 22 0 0, .int .i64 (p : Int)] dst os k ⟨n, A⟩ Q := by
 refine q0s w0a (q0l _) y9z ?_
 have hb := h.lt
 have hll := hM.len
 have hlt := ht.lt
 obtain ⟨o, q1m⟩ := h.errCell
 have e1 : (M.b = n) = False := eq_false (by omega)
 have e2 : (n = M.b) = False := eq_false (by omega)
 have h2 := h.up1 zB
 by_cases he : s.err = 0
 ·have z1 : (s.err != 0) = false := by simp [he]
  by_cases h0 : s.left = 0
  ·have z2 : ((s.left : Int) == 0) = true := by simp [h0]
   simp only [q1m, z1, z2, e1, r20_0, tt, bb, bc, ↓bd, ↓reduceIte, reduceCtorEq]
   refine q0q h2 ?_
   intro n' A' hm hkp hn
   rw [z6q he h0, ← z0g he] at hk
   have hc := q0f hb hkp
   simp only [hc, z1a, tt, bb, bc, ↓bd, Nat.reduceEqDiff, Nat.reduceAdd, ↓reduceIte]
   exact q0t hb hm hkp hn hk
  ·obtain ⟨g1, rfl⟩ : ∃ g1, g = g1 + 1 := ⟨g - 1, by omega⟩
   have hL := hM.L
   have hF := hM.F
   obtain ⟨j7c, hnd⟩ := ht.kids
   have g0 : (l.map q2y)[p]? = some [.int .i64 (opE t), .int .i64 (q2r t).k, .int .i64 (q2r t).n, .str (q2r t).s, .int .i64 (q2r t).x, .int .i64 (q2r t).y] := by rw [List.getElem?_map, hnd]; rfl
   have p0 : (0 : Int) ≤ (p : Int) := by omega
   have p1 : (p : Int) < ((l.map q2y).length : Int) := by rw [List.length_map]; omega
   have z2 : ((s.left : Int) == 0) = false := by simp; omega
   have w1 : IntKind.i64.wrap ((s.left : Int) - 1) = ((s.left - 1 : Nat) : Int) := by rw [wr64 (by omega) (by omega)]; omega
   have uu : ∀ (A : Nat → Blk) (c : Nat) (X Y : Blk), upd (upd A c X) c Y = upd A c Y := fun A c X Y => z4f A c X Y
   simp only [q1m, z1, z2, e1, w1, uu, hL, hF, p0, p1, g0, Int.toNat_natCast, q4e, q9x, r20_0.1, r20_0.2.1, tt, bb, ↓bd, Nat.reduceEqDiff, Nat.reduceAdd, Nat.reduceLeDiff, ↓reduceIte, reduceCtorEq]
   rw [z6r he h0] at hk
   have hm3 := h2.setI (o := o) (by rw [q0b, if_neg (by omega)]; exact q1m) { s with left := s.left - 1 } rfl
   have hm4 := hm3.up1 (.cells 51 6 [[.int .i64 (opE t), .int .i64 (q2r t).k, .int .i64 (q2r t).n, .str (q2r t).s, .int .i64 (q2r t).x, .int .i64 (q2r t).y]])
   have q5o := (((Keep.refl M.b (n + 1) (upd A n zB)).set (mB M { s with left := s.left - 1 } o)).up1 (Nat.le_refl _) (.cells 51 6 [[.int .i64 (opE t), .int .i64 (q2r t).k, .int .i64 (q2r t).n, .str (q2r t).s, .int .i64 (q2r t).x, .int .i64 (q2r t).y]]))
   have hs4 : Sk { s with left := s.left - 1 } := ⟨hs.it, hs.i0, hs.i1, hs.out, hs.outs⟩
   have hkq := ((Keep.refl M.b n A).up1 (Nat.le_refl _) zB).trans (by omega) q5o
   have hE4 : ER l e (n + 1 + 1) _ := hE.keep hM (by omega) hkq
   simp only [mB, hL, hF] at hm4 q5o hE4
   refine x9w hM (hD g1 rfl) hb hm4 hE4 hs4 he (by show s.left - 1 ≤ g1; omega) ht q5o (by rw [q0b, if_pos rfl]) ?_ ?_ ?_ ?_ hk
   all_goals simp only [q0b, q1g, qez, Nat.reduceEqDiff, ↓reduceIte]
 ·have z1 : (s.err != 0) = true := by simpa using he
  rw [j3y he] at hk
  simp only [q1m, z1, e1, r20_0, z1a, tt, bb, bc, ↓bd, Nat.reduceEqDiff, Nat.reduceAdd, ↓reduceIte, reduceCtorEq]
  exact z4h h hk
end
theorem y7i {M : Mch} {l : List Nd} {e : Nat} (hM : MLR M l e) : ∀ g, g ≤ 1000000 → DoR M l e g := by
 intro g
 induction g with
 | zero =>
  intro _
  unfold DoR
  intro fn T ds ro k Q dst os n p A s t h hE hs ht hg hk
  exact j9c (g' := 0) hM (fun g1 e => by cases e) (by omega) h hE hs ht hg hk
 | succ g ih =>
  intro hgb
  unfold DoR
  intro fn T ds ro k Q dst os n p A s t h hE hs ht hg hk
  exact j9c (g' := 0) hM (fun g1 e => by cases e; exact ih (by omega)) hgb h hE hs ht hg hk
theorem x5z {l : List Nd} {Q : AV → AHeap → Prop} {n g j : Nat} {A0 : Nat → Blk} {es : List (List AV)} {K : List AItem} {q : Nat} {t : Ex} (hl : l.length ≤ 400) (q2u : es.length = l.length) (hj : Tree l j t) (hes : ∀ p, j < p → p < l.length → es[p]? = (q9i l)[p]?) :
  ∀ (ts : List Ex) (p k : Nat) (T : Nat → AV), q1b (opE t) = k + ts.length → Kids l p ts q → j < p → T 0 = .vec 6 (l.map q2y) → T 14 = .slc g 1 0 l.length → T 15 = .int .i64 (j : Int) → T 16 = .int .i64 (k : Int) → k ≤ 10 →
   (∀ T' : Nat → AV, T' 0 = T 0 → T' 1 = T 1 → T' 4 = T 4 → T' 7 = T 7 → T' 8 = T 8 → T' 10 = T 10 → T' 14 = T 14 → T' 15 = T 15 → Run Cx 9 T' [] none K ⟨n, upd A0 g (.cells 3 1 (es.set j [.int .i64 (q : Int)]))⟩ Q) →
   Run Cx 9 T [] none (.inLoop c9_31 :: .inBlock 2 :: K) ⟨n, upd A0 g (.cells 3 1 (es.set j [.int .i64 (p : Int)]))⟩ Q
 | [], p, k, T, hm, hk, hp, t0, t14, t15, t16, hk10, hQ => by
  rw [run_inLoop]
  cases hk
  rw [List.length_nil] at hm
  have hP := q5n (opE t)
  have c0 : ¬ (k : Int) < (q1b (opE t) : Int) := by omega
  have hlt := hj.lt
  have hg := hj.kids.2
  have g0 : (l.map q2y)[j]? = some [.int .i64 (opE t), .int .i64 (q2r t).k, .int .i64 (q2r t).n, .str (q2r t).s, .int .i64 (q2r t).x, .int .i64 (q2r t).y] := by rw [List.getElem?_map, hg]; rfl
  have p0 : (0 : Int) ≤ (j : Int) := by omega
  have p1 : (j : Int) < (l.length : Int) := by omega
  simp only [t0, t15, t16, c0, p0, p1, g0, Int.toNat_natCast, List.length_map, q0a z6e rfl hP, xx, r9_0, tt, bb, bc, ↓bd, Nat.reduceEqDiff, ↓reduceIte, reduceCtorEq]
  refine hQ _ ?_ ?_ ?_ ?_ ?_ ?_ ?_ ?_
  all_goals simp only [q0b, t0, t14, t15, Nat.reduceEqDiff, ↓reduceIte]
 | c :: ts, p, k, T, hm, hk, hp, t0, t14, t15, t16, hk10, hQ => by
  rw [run_inLoop]
  cases hk with
  | cons h hs =>
   have hP := q5n (opE t)
   rw [List.length_cons] at hm
   have c0 : (k : Int) < (q1b (opE t) : Int) := by omega
   have hlt := hj.lt
   have hlc := h.lt
   have hg := hj.kids.2
   have g0 : (l.map q2y)[j]? = some [.int .i64 (opE t), .int .i64 (q2r t).k, .int .i64 (q2r t).n, .str (q2r t).s, .int .i64 (q2r t).x, .int .i64 (q2r t).y] := by rw [List.getElem?_map, hg]; rfl
   have p0 : (0 : Int) ≤ (j : Int) := by omega
   have p1 : (j : Int) < (l.length : Int) := by omega
   have r0 : (0 : Int) ≤ (p : Int) := by omega
   have r1 : (p : Int) < (l.length : Int) := by omega
   have r2 : p < l.length := by omega
   have e1 : (es.set j [AV.int .i64 (p : Int)])[j]? = some [.int .i64 (p : Int)] := by rw [List.getElem?_set_self (by omega)]
   have e2 : (es.set j [AV.int .i64 (p : Int)])[p]? = some [.int .i64 ((p + (q0o c).length : Nat) : Int)] := by
    rw [List.getElem?_set_ne (by omega), hes p hp r2, q8g h]
   have e3 : ∀ X Y : List AV, (es.set j X).set j Y = es.set j Y := fun X Y => by rw [List.set_set]
   have w1 : IntKind.i64.wrap ((k : Int) + 1) = ((k + 1 : Nat) : Int) := by rw [wr64 (by omega) (by omega)]; omega
   have uu : ∀ (X Y : Blk), upd (upd A0 g X) g Y = upd A0 g Y := fun X Y => z4f A0 g X Y
   simp only [t0, t14, t15, t16, c0, p0, p1, r0, r1, g0, e1, e2, e3, w1, uu, Int.toNat_natCast, List.length_map, q0a z6e rfl hP, xx, r9_0, tt, bb, bc, ↓bd, Nat.reduceEqDiff, ↓reduceIte, reduceCtorEq]
   have hpp : q1b (opE t) ≤ 3 := by
    have := (q8y hj.1).1
    cases t <;> simp [q7e] at this <;> omega
   refine x5z hl q2u hj hes ts (p + (q0o c).length) (k + 1) _ (by omega) hs (by omega) ?_ ?_ ?_ ?_ (by omega) ?_
   ·simp only [q0b, t0, Nat.reduceEqDiff, ↓reduceIte]
   ·simp only [q0b, t14, Nat.reduceEqDiff, ↓reduceIte]
   ·simp only [q0b, t15, Nat.reduceEqDiff, ↓reduceIte]
   ·simp only [q0b, ↓reduceIte]
   ·intro T' h0 h1 h4 h7 h8 h10 h14 h15
    refine hQ T' ?_ ?_ ?_ ?_ ?_ ?_ ?_ ?_
    ·rw [h0]; simp only [q0b, Nat.reduceEqDiff, ↓reduceIte]
    ·rw [h1]; simp only [q0b, Nat.reduceEqDiff, ↓reduceIte]
    ·rw [h4]; simp only [q0b, Nat.reduceEqDiff, ↓reduceIte]
    ·rw [h7]; simp only [q0b, Nat.reduceEqDiff, ↓reduceIte]
    ·rw [h8]; simp only [q0b, Nat.reduceEqDiff, ↓reduceIte]
    ·rw [h10]; simp only [q0b, Nat.reduceEqDiff, ↓reduceIte]
    ·rw [h14]; simp only [q0b, Nat.reduceEqDiff, ↓reduceIte]
    ·rw [h15]; simp only [q0b, Nat.reduceEqDiff, ↓reduceIte]
theorem x6a {l : List Nd} {Q : AV → AHeap → Prop} {n g : Nat} {A0 : Nat → Blk} (hl : l.length ≤ 400) (ht : ∀ p, p < l.length → ∃ t, Tree l p t) : ∀ (j : Nat) (T : Nat → AV), j ≤ l.length →
   T 0 = .vec 6 (l.map q2y) → T 14 = .slc g 1 0 l.length → T 15 = .int .i64 ((j : Int) - 1) →
   (∀ T' : Nat → AV, T' 0 = T 0 → T' 1 = T 1 → T' 4 = T 4 → T' 7 = T 7 → T' 8 = T 8 → T' 10 = T 10 → T' 14 = T 14 → Run Cx 9 T' [] none [.code c9_42] ⟨n, upd A0 g (.cells 3 1 (q9i l))⟩ Q) →
  Run Cx 9 T [] none [.inLoop c9_17, .inBlock 0, .code c9_42] ⟨n, upd A0 g (.cells 3 1 (List.replicate j [.int .i64 0] ++ (q9i l).drop j))⟩ Q
 | 0, T, hj, t0, t14, t15, hQ => by
  rw [run_inLoop]
  simp only [t15, xx, r9_0.2.1, tt, bb, ↓bd, ↓reduceIte, Int.reduceLE, Int.reduceSub, Int.reduceNeg, List.reduceReplicate]
  refine hQ _ ?_ ?_ ?_ ?_ ?_ ?_ ?_
  all_goals simp only [q0b, t0, t14, Nat.reduceEqDiff, ↓reduceIte]
 | j + 1, T, hj, t0, t14, t15, hQ => by
  rw [run_inLoop]
  obtain ⟨t, h⟩ := ht j (by omega)
  obtain ⟨hk, hg⟩ := h.kids
  have e1 : ((j + 1 : Nat) : Int) - 1 = (j : Int) := by omega
  rw [e1] at t15
  have p1 : (0 : Int) ≤ (j : Int) := by omega
  have c1 : (j : Int) < (l.length : Int) := by omega
  have c2 : j < l.length := by omega
  have w1 : IntKind.i64.wrap ((j : Int) + 1) = ((j + 1 : Nat) : Int) := by rw [wr64 (by omega) (by omega)]; omega
  have w2 : IntKind.i64.wrap ((j : Int) - 1) = (j : Int) - 1 := wr64 (by omega) (by omega)
  have q2u : (List.replicate (j + 1) [AV.int .i64 0] ++ (q9i l).drop (j + 1)).length = l.length := by rw [List.length_append, List.length_replicate, List.length_drop, z6w]; omega
  have gz : (List.replicate (j + 1) [AV.int .i64 0] ++ (q9i l).drop (j + 1))[j]? = some [.int .i64 0] := by
   rw [List.getElem?_append_left (by simp)]; simp
  have uu : ∀ (X Y : Blk), upd (upd A0 g X) g Y = upd A0 g Y := fun X Y => z4f A0 g X Y
  simp only [t14, t15, p1, c1, w1, gz, uu, Int.toNat_natCast, r9_0.2.1, tt, bb, ↓bd, Nat.reduceEqDiff, ↓reduceIte]
  have hkl := q8y h.1
  refine x5z hl q2u h ?_ (q7e t) (j + 1) 0 _ (by rw [hkl.1]; omega) hk (by omega) ?_ ?_ ?_ ?_ (by omega) ?_
  ·intro p h1 h2
   rw [List.getElem?_append_right (by rw [List.length_replicate]; omega), List.length_replicate, List.getElem?_drop, show j + 1 + (p - (j + 1)) = p by omega]
  ·simp only [q0b, t0, Nat.reduceEqDiff, ↓reduceIte]
  ·simp only [q0b, t14, Nat.reduceEqDiff, ↓reduceIte]
  ·simp only [q0b, t15, Nat.reduceEqDiff, ↓reduceIte]
  ·simp only [q0b, ↓reduceIte]; rfl
  ·intro T' h0 h1 h4 h7 h8 h10 h14 h15
   simp only [q0b, t0, t14, t15, Nat.reduceEqDiff, ↓reduceIte] at h0 h1 h4 h7 h8 h10 h14 h15
   have y0l : (List.replicate (j + 1) [AV.int .i64 0] ++ (q9i l).drop (j + 1)).set j [.int .i64 ((j + (q0o t).length : Nat) : Int)] = List.replicate j [AV.int .i64 0] ++ (q9i l).drop j := by
    have e2 : (q9i l).drop j = [.int .i64 ((j + (q0o t).length : Nat) : Int)] :: (q9i l).drop (j + 1) := by
     have hlt : j < (q9i l).length := by rw [z6w]; omega
     rw [List.drop_eq_getElem_cons hlt]
     have := q8g h
     rw [List.getElem?_eq_getElem hlt] at this
     rw [Option.some.inj this]
    rw [e2, List.set_append_left _ _ (by simp), List.replicate_succ', List.set_append_right _ _ (by simp), List.length_replicate, Nat.sub_self, List.set_cons_zero, List.append_assoc]
    rfl
   rw [y0l]
   simp only [h15, w2, xx, tt, bb, ↓bd, ↓reduceIte]
   refine x6a hl ht j _ (by omega) ?_ ?_ ?_ ?_
   ·simp only [q0b, h0, Nat.reduceEqDiff, ↓reduceIte]
   ·simp only [q0b, h14, Nat.reduceEqDiff, ↓reduceIte]
   ·simp only [q0b, ↓reduceIte]
   ·intro T2 g0 g1 g4 g7 g8 g10 g14
    simp only [q0b, Nat.reduceEqDiff, ↓reduceIte] at g0 g1 g4 g7 g8 g10 g14
    exact hQ T2 (by rw [g0, h0, t0]) (by rw [g1, h1]) (by rw [g4, h4]) (by rw [g7, h7]) (by rw [g8, h8]) (by rw [g10, h10]) (by rw [g14, h14, t14])
abbrev x6b (v : AV) (E : Env) (f : Int) : List AV := [v, .str E.key, q1o E.val, q1o E.acc, .int .i64 f]
abbrev y7j (v : Vl) (d : AV) (left : Nat) (e : Int) : AV := .tuple [q1o v, d, .int .i64 (left : Int), .int .i64 e]
theorem x9x {v : AV} {l : List Nd} (hv : InN v l) (hl : l.length ≤ 1000) {E : Env} {f : Int} (h : z1l l E f = false) : q0k Cx 9 (x6b v E f) (y7j zV .nilS 0 1) := by
 refine q0c (q0l _) y9n ?_
 have hr := j4m hv hl
 have f0 : [v].all AV.flat = true := by simp [hv.flat]
 have r1 := refRight_ok E.val.k E.val.n E.val.s E.val.x E.val.y
 have r2 := refRight_ok E.acc.k E.acc.n E.acc.s E.acc.x E.acc.y
 have eo1 : q1j E.val.k E.val.n E.val.s E.val.x E.val.y = okV E.val := rfl
 have eo2 : q1j E.acc.k E.acc.n E.acc.s E.acc.x E.acc.y = okV E.acc := rfl
 rw [eo1] at r1
 rw [eo2] at r2
 unfold z1l at h
 cases h1 : q2w l with
 | false =>
  rw [h1] at hr
  rcases hv with ⟨rfl, rfl⟩ | rfl
  ·simp only [q0a z3c f0 hr, r9_0, x8i, tt, bb, bc, ↓bd, Nat.reduceEqDiff, Nat.reduceAdd, ↓reduceIte, reduceCtorEq]
   try rfl
  ·simp only [q0a z3c f0 hr, r9_0, x8i, tt, bb, bc, ↓bd, Nat.reduceEqDiff, Nat.reduceAdd, ↓reduceIte, reduceCtorEq]
   try rfl
 | true =>
  obtain rfl := hv.vecR h1
  rw [h1] at hr h
  by_cases h2 : E.key.length ≤ 4096
  ·have c2 : ¬ (4096 : Int) < (E.key.length : Int) := by omega
   have d2 : decide (E.key.length ≤ 4096) = true := by simpa using h2
   rw [d2] at h
   cases h3 : okV E.val with
   | false =>
    rw [h3] at r1
    simp only [c2, q0a z3c f0 hr, q0a q3p rfl r1, i64, r9_0, x8i, tt, bb, bc, ↓bd, Nat.reduceEqDiff, Nat.reduceAdd, ↓reduceIte, reduceCtorEq]
    try rfl
   | true =>
    rw [h3] at r1 h
    cases h4 : okV E.acc with
    | false =>
     rw [h4] at r2
     simp only [c2, q0a z3c f0 hr, q0a q3p rfl r1, q0a q3p rfl r2, i64, r9_0, x8i, tt, bb, bc, ↓bd, Nat.reduceEqDiff, Nat.reduceAdd, ↓reduceIte, reduceCtorEq]
     try rfl
    | true =>
     rw [h4] at r2 h
     by_cases h5 : f < 0
     ·simp only [c2, h5, q0a z3c f0 hr, q0a q3p rfl r1, q0a q3p rfl r2, i64, r9_0, x8i, tt, bb, bc, ↓bd, Nat.reduceEqDiff, Nat.reduceAdd, ↓reduceIte, reduceCtorEq]
      try rfl
     ·have d5 : decide (0 ≤ f) = true := by simp; omega
      rw [d5] at h
      have h6 : (100000 : Int) < f := by
       simp only [Bool.true_and, decide_eq_false_iff_not] at h
       omega
      simp only [c2, h5, h6, q0a z3c f0 hr, q0a q3p rfl r1, q0a q3p rfl r2, i64, r9_0, x8i, tt, bb, bc, ↓bd, Nat.reduceEqDiff, Nat.reduceAdd, ↓reduceIte, reduceCtorEq]
      try rfl
  ·have c2 : (4096 : Int) < (E.key.length : Int) := by omega
   simp only [c2, q0a z3c f0 hr, i64, r9_0, x8i, tt, bb, bc, ↓bd, Nat.reduceEqDiff, Nat.reduceAdd, ↓reduceIte, reduceCtorEq]
   try rfl
theorem x6c {l : List Nd} {t : Ex} {E : Env} {f : Nat} (h : z1l l E f = true) (hw : WF t) (e : l = q0o t) {P : AV → Prop}
  (hP : ∀ d, ((q2z t E f).2.err ≠ 0 → P (y7j zV .nilS 0 (q2z t E f).2.err)) ∧ ((q2z t E f).2.err = 0 → OutV d (q2z t E f).2.out → P (y7j (q2z t E f).1 d (q2z t E f).2.left 0))) :
  ∃ r, P r ∧ q0k Cx 9 (x6b (.vec 6 (l.map q2y)) E f) r := by
 obtain ⟨hr0, hE, hf0, hf1⟩ := q6r h
 have hll := (right_iff.mp hr0).1
 have hr := j4m (v := .vec 6 (l.map q2y)) (.inr rfl) (by omega)
 rw [hr0] at hr
 have r1 := refRight_ok E.val.k E.val.n E.val.s E.val.x E.val.y
 have r2 := refRight_ok E.acc.k E.acc.n E.acc.s E.acc.x E.acc.y
 have eo1 : q1j E.val.k E.val.n E.val.s E.val.x E.val.y = true := hE.val
 have eo2 : q1j E.acc.k E.acc.n E.acc.s E.acc.x E.acc.y = true := hE.acc
 rw [eo1] at r1
 rw [eo2] at r2
 have c2 : ¬ (4096 : Int) < (E.key.length : Int) := by have := hE.key; omega
 have c5 : ¬ (f : Int) < 0 := by omega
 have c6 : ¬ (100000 : Int) < (f : Int) := by omega
 have htr : ∀ p, p < l.length → ∃ t, Tree l p t := by
  intro p hp
  rw [e] at hp
  have := x5h t hw [] p hp
  rw [List.append_nil, ← e] at this
  exact this
 have ht : Tree l 0 t := ⟨hw, [], by rw [List.drop_zero, e, List.append_nil]⟩
 have pos : 1 ≤ l.length := by have := ht.lt; omega
 refine j0l (q0l _) y9n ?_
 have w0 : IntKind.i64.wrap ((l.length : Int) - 1) = (l.length : Int) - 1 := wr64 (by omega) (by omega)
 have m0 : (0 : Int) ≤ (l.length : Int) := by omega
 have m1 : (l.length : Int) ≤ (q2m : Int) := by unfold q2m; omega
 have m2 : (l.length : Int) * 8 ≤ (q2m : Int) := by unfold q2m; omega
 simp only [c2, c5, c6, w0, m0, m1, m2, q0a z3c rfl hr, q0a q3p rfl r1, q0a q3p rfl r2, i64, Int.toNat_natCast, Int.le_refl, List.length_map, r9_0.1, tt, bb, bc, ↓bd, Nat.reduceEqDiff, Nat.reduceAdd, ↓reduceIte, reduceCtorEq]
 have er : List.replicate l.length [AV.int .i64 0] = List.replicate l.length [AV.int .i64 0] ++ (q9i l).drop l.length := by rw [List.drop_of_length_le (by rw [z6w]; omega), List.append_nil]
 rw [er]
 refine x6a hll htr l.length _ (Nat.le_refl _) ?_ ?_ ?_ ?_
 ·simp only [q0b, q1g, List.getElem?_cons_zero, Option.getD_some, Nat.reduceEqDiff, ↓reduceIte]
 ·simp only [q0b, Nat.reduceEqDiff, ↓reduceIte]
 ·simp only [q0b, ↓reduceIte]
 ·intro T' t0 t1 t4 t7 t8 t10 t14
  simp only [q0b, q1g, qez, Nat.reduceEqDiff, ↓reduceIte] at t0 t1 t4 t7 t8 t10 t14
  simp only [t0, t1, t4, t7, t8, t14, r9_0, tt, bb, bc, ↓bd, Nat.reduceEqDiff, Nat.reduceAdd, Nat.reduceLeDiff, ↓reduceIte, reduceCtorEq]
  have hM : MLR ⟨.vec 6 (l.map q2y), .slc 3 1 0 l.length, E, 4⟩ l 3 := ⟨rfl, rfl, hll, hE, by show 3 < 4; omega⟩
  refine y7i hM f (by omega) (p := 0) (s := ⟨0, zV, [], f, 0⟩) (t := t) ⟨by show 4 < 5; omega, .nilS, by rw [q0b, if_pos rfl], .inl ⟨rfl, rfl⟩⟩ ⟨by omega, by rw [q0b, if_neg (by omega), q0b, if_pos rfl]⟩ ⟨rfl, Int.le_refl _, by show (0 : Int) ≤ 9007199254740992; omega, by show 0 ≤ 64; omega, fun p hp => by cases hp⟩ ht (Nat.le_refl _) ?_
  intro n A hm hkp hn5
  have hc2 : A 2 = .cells 26 5 [[.int .i64 0, .int .i64 0, .str [], .int .i64 0, .int .i64 0]] := q6e hkp (by rw [q0b, if_neg (by omega), q0b, if_neg (by omega), q0b, if_pos rfl]) (by omega) (by show 2 ≠ 4; omega) (by decide)
  change MR ⟨.vec 6 (l.map q2y), .slc 3 1 0 l.length, E, 4⟩ n A (q2z t E f).2 at hm
  show q0d _ _ (putA _ _ (q1o (q2z t E f).1)) _ _ _ _ _ _
  obtain ⟨hb, o, q1m, ho⟩ := hm
  have z9e : A 4 = .cells 66 22 [[.vec 6 (l.map q2y), .slc 3 1 0 l.length, .str E.key, .int .i64 E.val.k, .int .i64 E.val.n, .str E.val.s, .int .i64 E.val.x, .int .i64 E.val.y, .int .i64 E.acc.k, .int .i64 E.acc.n, .str E.acc.s, .int .i64 E.acc.x, .int .i64 E.acc.y, .int .i64 (q2z t E f).2.i, .int .i64 (q2z t E f).2.it.k, .int .i64 (q2z t E f).2.it.n, .str (q2z t E f).2.it.s, .int .i64 (q2z t E f).2.it.x, .int .i64 (q2z t E f).2.it.y, o, .int .i64 ((q2z t E f).2.left : Int), .int .i64 (q2z t E f).2.err]] := q1m
  have e1 : (4 = n) = False := eq_false (by omega)
  have e2 : (2 = n) = False := eq_false (by omega)
  have uu : ∀ (A : Nat → Blk) (c : Nat) (X Y : Blk), upd (upd A c X) c Y = upd A c Y := fun A c X Y => z4f A c X Y
  have hpl := ho.plain
  simp only [AV.plain] at hpl
  have hcs := ho.cells
  simp only [AV.cells] at hcs
  by_cases he : (q2z t E f).2.err = 0
  ·have z1 : ((q2z t E f).2.err != 0) = false := by simp [he]
   simp only [t10, z9e, hc2, e1, e2, z1, uu, q4e, q8q, q9x, r9_0, x8i, tt, bb, bc, ↓bd, Nat.reduceEqDiff, Nat.reduceAdd, ↓reduceIte, Nat.reduceBneDiff]
   have ho' := ho.keep (n' := n + 1) (A' := upd (upd A n (q3n (q2z t E f).1)) 2 (q3n (q2z t E f).1)) (by omega) fun z hz hp => by
    have : z ≠ 2 := by rintro rfl; rw [hc2] at hp; cases hp
    rw [q0b, if_neg this, q0b, if_neg (by omega)]
   obtain ⟨w, hw, hfz⟩ := ho'.out
   have hf2 : q2s ⟨n + 1, upd (upd A n (q3n (q2z t E f).1)) 2 (q3n (q2z t E f).1)⟩ o = some w := by
    rcases ho with ⟨rfl, _⟩ | ⟨g, rfl, _⟩ <;> exact hfz
   refine ⟨_, (hP w).2 he hw, ?_⟩
   rw [hf2]
   rfl
  ·have z1 : ((q2z t E f).2.err != 0) = true := by simpa using he
   simp only [t10, z9e, hc2, e1, e2, z1, q4e, q8q, q9x, r9_0, x8i, tt, bb, bc, ↓bd, Nat.reduceEqDiff, Nat.reduceAdd, ↓reduceIte, Nat.reduceBneDiff]
   exact ⟨_, (hP .nilS).1 he, rfl⟩
def w6w (l : List Nd) (E : Env) (f : Int) (r : AV) : Prop :=
 (z1l l E f = false ∧ r = y7j zV .nilS 0 1) ∨
 (∃ t, z1l l E f = true ∧ WF t ∧ l = q0o t ∧ (((q2z t E f.toNat).2.err ≠ 0 ∧ r = y7j zV .nilS 0 (q2z t E f.toNat).2.err) ∨
  ((q2z t E f.toNat).2.err = 0 ∧ ∃ d, OutV d (q2z t E f.toNat).2.out ∧ r = y7j (q2z t E f.toNat).1 d (q2z t E f.toNat).2.left 0)))
theorem y7k {v : AV} {l : List Nd} (hv : InN v l) (hl : l.length ≤ 1000) (E : Env) (f : Int) : ∃ r, w6w l E f r ∧ q0k Cx 9 (x6b v E f) r := by
 cases hg : z1l l E f with
 | false => exact ⟨_, .inl ⟨hg, rfl⟩, x9x hv hl hg⟩
 | true =>
  obtain ⟨hr, hE, f0, f1⟩ := q6r hg
  obtain rfl := hv.vecR hr
  obtain ⟨_, t, hw, e⟩ := z9a hr
  have hff : ((f.toNat : Nat) : Int) = f := by omega
  have h := x6c (f := f.toNat) (P := w6w l E f) (by rw [hff]; exact hg) hw e (fun d => ⟨fun he => .inr ⟨t, hg, hw, e, .inl ⟨he, rfl⟩⟩, fun he hd => .inr ⟨t, hg, hw, e, .inr ⟨he, d, hd, rfl⟩⟩⟩)
  rw [hff] at h
  exact h
theorem sk0 (n : Nat) : Sk ⟨0, zV, [], n, 0⟩ := ⟨rfl, Int.le_refl _, by show (0 : Int) ≤ 9007199254740992; omega, by show 0 ≤ 64; omega, fun p hp => by cases hp⟩
theorem x9y {t : Ex} {E : Env} (hE : Ek E) (hw : WF t) {n : Nat} : (q2z t E n).2.out.length ≤ 64 := (x6w hE n t _ hw (sk0 n)).2.out
theorem x6d {v w : AV} {l : List Nd} (hv : InN v l) (hw : InN w l) (hn : x9g l) (hl : l.length ≤ 1000) (E : Env) (f : Int) : ∃ x d d' left e o, OutV d o ∧ OutV d' o ∧ o.length ≤ 64 ∧
  q0k Cx 7 [w, x5o E, .int .i64 f] (.tuple [y2m x d left, .int .i64 e]) ∧ q0k Cx 9 (x6b v E f) (y7j x d' left e) := by
 obtain ⟨r1, hr1, hp1⟩ := w6a hw hn (by omega) E f
 obtain ⟨r2, hr2, hp2⟩ := y7k hv hl E f
 rcases hr1 with ⟨hg, rfl⟩ | ⟨t, hg, hwf, hlt, hr1⟩
 ·rcases hr2 with ⟨_, rfl⟩ | ⟨t, hg2, _⟩
  ·exact ⟨zV, .nilS, .nilS, 0, 1, [], .inl ⟨rfl, rfl⟩, .inl ⟨rfl, rfl⟩, by simp, hp1, hp2⟩
  ·rw [hg] at hg2; cases hg2
 ·rcases hr2 with ⟨hg2, _⟩ | ⟨t2, hg2, hwf2, y2z, hr2⟩
  ·rw [hg] at hg2; cases hg2
  ·have ht2 : t2 = t := (j8s t2 t [] [] hwf2 hwf (by rw [List.append_nil, List.append_nil, ← y2z, hlt])).1
   subst ht2
   rcases hr1 with ⟨he, rfl⟩ | ⟨he, d, hd, rfl⟩
   ·rcases hr2 with ⟨_, rfl⟩ | ⟨he2, _⟩
    ·exact ⟨zV, .nilS, .nilS, 0, _, [], .inl ⟨rfl, rfl⟩, .inl ⟨rfl, rfl⟩, by simp, hp1, hp2⟩
    ·exact absurd he2 he
   ·rcases hr2 with ⟨he2, _⟩ | ⟨_, d2, hd2, rfl⟩
    ·exact absurd he he2
    ·exact ⟨_, d, d2, _, 0, _, hd, hd2, x9y (q6r hg).2.1 hwf, hp1, hp2⟩
theorem j4n {v : AV} {l : List Nd} (hv : InN v l) (hn : x9g l) (E : Env) (f : Int) : q0k Cx 3 [v, x5o E, .int .i64 f] (.bool true) := by
 refine q0c (q0l _) w8r ?_
 have f1 : [v].all AV.flat = true := by rw [List.all_cons, hv.flat]; rfl
 have f2 : [v, x5o E].all AV.flat = true := by rw [List.all_cons, hv.flat]; rfl
 have hvp : v.plain = true := by rcases hv with ⟨rfl, _⟩ | rfl <;> rfl
 simp only [AV.plain] at hvp
 obtain ⟨y, hy, hfew⟩ := w5z hv E
 rcases hy with rfl | ⟨rfl, hl0⟩
 ·simp only [q0a x8f rfl q8z, q0a x8g f2 hfew, r3_0, w7u, tt, bb, bc, ↓bd, Nat.reduceEqDiff, Nat.reduceAdd, ↓reduceIte, reduceCtorEq]
 ·obtain ⟨w, hw, hof⟩ := w9z hv (by omega)
  have fw3 : [w, x5o E, .int .i64 f].all AV.flat = true := by rw [List.all_cons, hw.flat]; rfl
  have fr : (x6b v E f).all AV.flat = true := by rw [List.all_cons, hv.flat]; rfl
  obtain ⟨x, d, d', left, e, o, hd, hd', hol, hp1, hp2⟩ := x6d hv hw hn (by omega) E f
  have hs := y6p hd hd' (by omega)
  have hpl := hd.plain
  have hpl' := hd'.plain
  have hcs := hd.cells
  have hcs' := hd'.cells
  simp only [AV.plain] at hpl hpl'
  simp only [AV.cells] at hcs hcs'
  have fs : [d, d'].all AV.flat = true := by rw [List.all_cons, List.all_cons, hd.flat, hd'.flat]; rfl
  by_cases c1 : (3000 : Int) < f
  ·by_cases c2 : f ≤ 100000
   ·simp only [c1, c2, q0a x8f rfl q8z, q0a x8g f2 hfew, r3_0, w7u, tt, bb, bc, ↓bd, Nat.reduceEqDiff, Nat.reduceAdd, ↓reduceIte, reduceCtorEq, Int.reduceBEq]
   ·simp only [c1, c2, beq_self_eq_true, q0a y0x fs hs, q0a x8f rfl q8z, q0a x8g f2 hfew, q0a y9m f1 hof, q0a y9l fw3 hp1, q0a y9o fr hp2, r3_0, w7u, tt, bb, bc, ↓bd, Nat.reduceEqDiff, Nat.reduceAdd, Nat.reduceLeDiff, ↓reduceIte, reduceCtorEq, Int.reduceBEq]
  ·simp only [c1, beq_self_eq_true, q0a y0x fs hs, q0a x8f rfl q8z, q0a x8g f2 hfew, q0a y9m f1 hof, q0a y9l fw3 hp1, q0a y9o fr hp2, r3_0, w7u, tt, bb, bc, ↓bd, Nat.reduceEqDiff, Nat.reduceAdd, Nat.reduceLeDiff, ↓reduceIte, reduceCtorEq, Int.reduceBEq]
end Go.Proofs.YtckhmpcmlochpaaGreat.G
namespace Go.BX
open Go.ChangeShapes Go.WideShapes Go.ChangeAt Go.RowKit
variable {P : Program} {w : World} {H : Type} {enc : TypeId × Value → H} {base : Nat} {spare : Nat → Bool} {held : Bool}
end Go.BX
namespace Go.BX
open Go.ChangeShapes Go.WideShapes Go.ChangeAt Go.RowKit
inductive Shp (P : Program) : TypeId → List AV → Prop
 | bool {t b} (h : P.underlying t = some .bool) : Shp P t [.bool b]
 | int {t k n} (h : P.underlying t = some (.int k)) (hw : (Lit.int k n).wf = true) : Shp P t [.int k n]
 | str {t s} (h : P.underlying t = some .string) (hl : s.length ≤ maxLen) : Shp P t [.str s]
 | nilS {t e} (h : P.underlying t = some (.slice e)) : Shp P t [.nilS]
 | vec {t e es} (h : P.underlying t = some (.slice e)) (hl : es.length ≤ maxLen) (he : ∀ r, r ∈ es → Shp P e r) : Shp P t [.vec (P.cellsOf e) es]
 | struct {t fs az} (h : P.underlying t = some (.struct fs)) (hl : az.length = P.cellsOf t) (hf : ∀ (i : Nat) (f : Field), fs[i]? = some f → Shp P f.type ((az.drop f.offset).take (P.cellsOf f.type))) : Shp P t az
variable {P : Program}
theorem y7l {t : TypeId} {k : IntKind} {az : List AV} (h : P.underlying t = some (.int k)) (hs : Shp P t az) : ∃ n, az = [.int k n] ∧ (Lit.int k n).wf = true := by
 cases hs with
 | int h' hw => rw [h] at h'; cases h'; exact ⟨_, rfl, hw⟩
 | bool h' | str h' | nilS h' | vec h' | struct h' => rw [h] at h'; cases h'
theorem y7m {t : TypeId} {az : List AV} (h : P.underlying t = some .string) (hs : Shp P t az) : ∃ s, az = [.str s] ∧ s.length ≤ maxLen := by
 cases hs with
 | str h' hl => exact ⟨_, rfl, hl⟩
 | bool h' | int h' | nilS h' | vec h' | struct h' => rw [h] at h'; cases h'
theorem x6e {t e : TypeId} {az : List AV} (h : P.underlying t = some (.slice e)) (hs : Shp P t az) : az = [.nilS] ∨ ∃ es, az = [.vec (P.cellsOf e) es] ∧ es.length ≤ maxLen ∧ ∀ r, r ∈ es → Shp P e r := by
 cases hs with
 | nilS h' => exact .inl rfl
 | vec h' hl he => rw [h] at h'; cases h'; exact .inr ⟨_, rfl, hl, he⟩
 | bool h' | int h' | str h' | struct h' => rw [h] at h'; cases h'
theorem q9b {t : TypeId} {fs : Array Field} {az : List AV} (h : P.underlying t = some (.struct fs)) (hs : Shp P t az) :
  az.length = P.cellsOf t ∧ ∀ (i : Nat) (f : Field), fs[i]? = some f → Shp P f.type ((az.drop f.offset).take (P.cellsOf f.type)) := by
 cases hs with
 | struct h' hl hf => rw [h] at h'; cases h'; exact ⟨hl, hf⟩
 | bool h' | int h' | str h' | nilS h' | vec h' => rw [h] at h'; cases h'
def w8f (P : Program) (fs : Array Field) (c : Nat) : Option Nat :=
 (List.range fs.size).find? fun i => match fs[i]? with
  | some f => decide (f.offset ≤ c) && decide (c < f.offset + P.cellsOf f.type)
  | none => false
def j6x (P : Program) : Nat → TypeId → Bool
 | 0, _ => false
 | d + 1, t =>
  match P.underlying t with
  | some .bool | some (.int _) | some .string => true
  | some (.slice e) => j6x P d e && decide (P.cellsOf e ≠ 0)
  | some (.struct fs) =>
   ((List.range (P.cellsOf t)).all fun c => (w8f P fs c).isSome) &&
   (List.range fs.size).all fun i => match fs[i]? with
    | some f => j6x P d f.type && decide (f.offset + P.cellsOf f.type ≤ P.cellsOf t) && (List.range (P.cellsOf f.type)).all fun j => w8f P fs (f.offset + j) == some i
    | none => false
  | _ => false
variable {w : World} {H : Type} {enc : TypeId × Value → H} {base : Nat} {spare : Nat → Bool} {held : Bool}
def Sts (w : World) (az : List AV) (cs : List Value) : Prop :=
 az.length = cs.length ∧ ∀ (i : Nat) (a : AV) (v : Value), az[i]? = some a → cs[i]? = some v → a.one = true ∧ VRel w (Old w) (fun _ => none) a v
theorem z6x {a : AV} {v : Value} (h1 : a.one = true) (h : VRel w (Old w) (fun _ => none) a v) : Sts w [a] [v] := by
 refine ⟨rfl, fun i x y hx hy => ?_⟩
 match i, hx, hy with
 | 0, hx, hy => cases hx; cases hy; exact ⟨h1, h⟩
theorem q8h {a : Addr} {n : Nat} {cs : List Value} (h : w.cells? base a n = some cs) : cs.length = n := by
 unfold World.cells? at h
 split at h
 ·simpa using mapM_some_length h
 ·cases h
theorem j4o {a : Addr} {n : Nat} {cs : List Value} (h : w.cells? base a n = some cs) {i : Nat} (hi : i < n) : w.cell? (a.add i) = cs[i]? := by
 unfold World.cells? at h
 split at h
 ·exact mapM_some_get h i i (by simp [hi])
 ·cases h
theorem x6f {a : Addr} {v : Value} (h : w.cell? a = some v) : a.spot = none := by
 unfold World.cell? at h
 split at h
 ·split at h
  ·cases h
  ·rename_i hs; simpa using hs
 ·cases h
theorem add_eq {a : Addr} (hs : a.spot = none) (n : Nat) : a.add n = ⟨a.block, a.off + n, none⟩ := by
 unfold Addr.add
 split
 ·rename_i h; subst h; cases a; simp_all
 ·rfl
theorem z0j {α : Type} {p : Nat → α → Prop} (n : Nat) (h : ∀ i, i < n → ∃ x, p i x) : ∃ l : List α, l.length = n ∧ ∀ (i : Nat) (x : α), l[i]? = some x → p i x := by
 have : ∀ i, ∃ x : Option α, (i < n → ∃ y, x = some y ∧ p i y) := fun i => by
  by_cases hi : i < n
  ·obtain ⟨x, hx⟩ := h i hi; exact ⟨some x, fun _ => ⟨x, rfl, hx⟩⟩
  ·exact ⟨none, fun h => absurd h hi⟩
 let F : Nat → Option α := fun i => Classical.choose (this i)
 have hF : ∀ i, i < n → ∃ y, F i = some y ∧ p i y := fun i => Classical.choose_spec (this i)
 refine ⟨(List.range n).filterMap F, ?_, ?_⟩
 ·have : ∀ l : List Nat, (∀ i ∈ l, i < n) → (l.filterMap F).length = l.length := by
   intro l hl
   induction l with
   | nil => rfl
   | cons x xs ih =>
    obtain ⟨y, hy, _⟩ := hF x (hl x (by simp))
    rw [List.filterMap_cons, hy]
    simp [ih fun i hi => hl i (by simp [hi])]
  rw [this _ (by simp), List.length_range]
 ·have key : ∀ l : List Nat, (∀ i ∈ l, i < n) → ∀ (j : Nat) (x : α), (l.filterMap F)[j]? = some x → ∃ i, l[j]? = some i ∧ F i = some x := by
   intro l hl
   induction l with
   | nil => intro j x h; simp at h
   | cons z zs ih =>
    intro j x h
    obtain ⟨y, hy, _⟩ := hF z (hl z (by simp))
    rw [List.filterMap_cons, hy] at h
    cases j with
    | zero => simp at h; subst h; exact ⟨z, rfl, hy⟩
    | succ j => exact ih (fun i hi => hl i (by simp [hi])) j x (by simpa using h)
  intro i x hx
  obtain ⟨i', hi', hx'⟩ := key _ (by simp) i x hx
  have hlt : i < n := by
   rcases Nat.lt_or_ge i n with h | h
   ·exact h
   ·rw [List.getElem?_eq_none (by simpa using h)] at hi'; cases hi'
  have : i' = i := by simp [List.getElem?_range hlt] at hi'; exact hi'.symm
  subst this
  obtain ⟨y, hy, hp⟩ := hF i' hlt
  rw [hx'] at hy; cases hy; exact hp
theorem x0v : ∀ (d : Nat) {t : TypeId} {fuel : Nat} {cs : List Value} {x : DataW H × List MemPlace}, j6x P d t = true → DataW.trod enc P w base spare held fuel t cs = some x → ∃ az, Sts w az cs ∧ Shp P t az := by
 intro d
 induction d with
 | zero => intro t fuel cs x h; cases h
 | succ d ih =>
  intro t fuel cs x hd hx
  unfold j6x at hd
  split at hd
  ·rename_i ht
   obtain ⟨b, rfl, _⟩ := DataW.trod_bool ht hx
   exact ⟨[.bool b], z6x rfl (.bool b), .bool ht⟩
  ·rename_i k ht
   obtain ⟨n, rfl, _, hw⟩ := DataW.trod_int ht hx
   exact ⟨[.int k n], z6x rfl (.int k n), .int ht hw⟩
  ·rename_i ht
   obtain ⟨s, rfl, _, hl⟩ := DataW.trod_string ht hx
   exact ⟨[.str s.data.toList], z6x rfl (.str _ s rfl), .str ht (by simpa using hl)⟩
  ·rename_i e ht
   simp only [Bool.and_eq_true, decide_eq_true_eq] at hd
   rcases DataW.trod_slice ht hx with ⟨rfl, _⟩ | ⟨a, len, cap, elems, rest, n, _, rfl, _, hb, hlc, hcm, hel, he, _, _⟩
   ·exact ⟨[.nilS], z6x rfl .nilS, .nilS ht⟩
   ·have y8f : ∀ i, i < len → ∃ cs az, w.cells? base (a.add (i * P.cellsOf e)) (P.cellsOf e) = some cs ∧ Sts w az cs ∧ Shp P e az := by
     intro i hi
     have h1 := he i hi
     rw [List.getElem?_eq_getElem (by omega)] at h1
     simp only [Option.bind_eq_some_iff] at h1
     obtain ⟨cs, hcs, h2⟩ := h1
     obtain ⟨az, h3, h4⟩ := ih hd.1 h2
     exact ⟨cs, az, hcs, h3, h4⟩
    obtain ⟨rows, hrl, hrows⟩ := z0j (α := List Value × List AV) (p := fun i z => w.cells? base (a.add (i * P.cellsOf e)) (P.cellsOf e) = some z.1 ∧ Sts w z.2 z.1 ∧ Shp P e z.2) len (fun i hi => by
     obtain ⟨cs, az, h⟩ := y8f i hi; exact ⟨(cs, az), h⟩)
    have y7v : len ≠ 0 → a.spot = none ∧ a.block < w.heap.size := by
     intro hne
     obtain ⟨cs, az, h, _⟩ := y8f 0 (by omega)
     have h0 := j4o h (i := 0) (by omega)
     rw [List.getElem?_eq_getElem (by rw [q8h h]; omega)] at h0
     simp only [Nat.zero_mul] at h0
     have e0 : (a.add 0).add 0 = a := rfl
     rw [e0] at h0
     exact ⟨x6f h0, y3h h0⟩
    have hz : ∀ (i : Nat) (r : List AV), (rows.map (·.2))[i]? = some r → ∃ cs, rows[i]? = some (cs, r) ∧ w.cells? base (a.add (i * P.cellsOf e)) (P.cellsOf e) = some cs ∧ Sts w r cs ∧ Shp P e r := by
     intro i r h
     rw [List.getElem?_map, Option.map_eq_some_iff] at h
     obtain ⟨z, hz, rfl⟩ := h
     obtain ⟨h1, h2, h3⟩ := hrows i z hz
     exact ⟨z.1, hz, h1, h2, h3⟩
    refine ⟨[.vec (P.cellsOf e) (rows.map (·.2))], z6x rfl ?_, .vec ht (by simp; omega) ?_⟩
    ·have hll : (rows.map (·.2)).length = len := by simp [hrl]
     have w7a := VRel.vec (w := w) (U := Old w) (ι := fun _ => none) (rows.map (·.2)) a (P.cellsOf e) cap (fun i j => ((rows[i]?).bind fun z => z.1[j]?).getD undef) (by omega)
      (fun r hr => by
       obtain ⟨i, hi⟩ := List.getElem?_of_mem hr
       obtain ⟨cs, _, h1, h2, _⟩ := hz i r hi
       rw [h2.1, q8h h1])
      (fun hne => (y7v (by intro h0; apply hne; apply List.eq_nil_of_length_eq_zero; omega)).2)
      (fun hne => (y7v (by intro h0; apply hne; apply List.eq_nil_of_length_eq_zero; omega)).1)
      (fun i j hi hj => by
       have hs := (y7v (by omega)).1
       obtain ⟨cs, hcs, h1, h2, _⟩ := hz i (rows.map (·.2))[i] (List.getElem?_eq_getElem hi)
       have h3 := j4o h1 hj
       rw [hcs]
       simp only [Option.bind_some]
       rw [List.getElem?_eq_getElem (by rw [q8h h1]; exact hj)] at h3 ⊢
       rw [← add_eq (a := ⟨a.block, a.off + i * P.cellsOf e, none⟩) rfl j, ← add_eq hs]
       exact h3)
      (fun r hr x hxr => by
       obtain ⟨i, hi⟩ := List.getElem?_of_mem hr
       obtain ⟨cs, _, h1, h2, _⟩ := hz i r hi
       obtain ⟨j, hj⟩ := List.getElem?_of_mem hxr
       have hjl : j < cs.length := by rw [← h2.1]; exact (List.getElem?_eq_some_iff.mp hj).1
       exact (h2.2 j x cs[j] hj (List.getElem?_eq_getElem hjl)).1)
      (fun i r j x hi hj => by
       obtain ⟨cs, hcs, h1, h2, _⟩ := hz i r hi
       have hjl : j < cs.length := by rw [← h2.1]; exact (List.getElem?_eq_some_iff.mp hj).1
       have h4 := (h2.2 j x cs[j] hj (List.getElem?_eq_getElem hjl)).2
       simp only [hcs, Option.bind_some, List.getElem?_eq_getElem hjl, Option.getD_some]
       exact h4)
     rw [hll] at w7a
     exact w7a
    ·intro r hr
     obtain ⟨i, hi⟩ := List.getElem?_of_mem hr
     obtain ⟨_, _, _, _, h⟩ := hz i r hi
     exact h
  ·rename_i fs ht
   simp only [Bool.and_eq_true, List.all_eq_true, List.mem_range] at hd
   obtain ⟨hcov, hflds⟩ := hd
   obtain ⟨xs, n, _, _, hcl, hxl, hxf⟩ := DataW.trod_struct ht hx
   have hfi : ∀ i, i < fs.size → ∃ az, ∀ f, fs[i]? = some f → Sts w az ((cs.drop f.offset).take (P.cellsOf f.type)) ∧ Shp P f.type az ∧ f.offset + P.cellsOf f.type ≤ P.cellsOf t ∧ ∀ j, j < P.cellsOf f.type → w8f P fs (f.offset + j) = some i := by
    intro i hi
    have hf0 : fs[i]? = some fs[i] := Array.getElem?_eq_getElem hi
    have h1 := hxf i fs[i] hf0
    rw [List.getElem?_eq_getElem (by omega)] at h1
    have h2 := hflds i hi
    rw [hf0] at h2
    simp only [Bool.and_eq_true, decide_eq_true_eq, List.all_eq_true, List.mem_range, beq_iff_eq] at h2
    obtain ⟨az, h3, h4⟩ := ih h2.1.1 h1
    exact ⟨az, fun f hf => by rw [hf0] at hf; cases hf; exact ⟨h3, h4, h2.1.2, h2.2⟩⟩
   obtain ⟨rows, hrl, hrows⟩ := z0j fs.size hfi
   have q1m : ∀ c, c < P.cellsOf t → ∃ a, ∀ i f r, w8f P fs c = some i → fs[i]? = some f → rows[i]? = some r → f.offset ≤ c ∧ c < f.offset + P.cellsOf f.type ∧ r[c - f.offset]? = some a := by
    intro c hc
    have h1 := hcov c hc
    obtain ⟨i, hi⟩ := Option.isSome_iff_exists.mp h1
    have h2 := List.find?_some hi
    have h3 : i < fs.size := by simpa using List.mem_of_find?_eq_some hi
    have hf0 : fs[i]? = some fs[i] := Array.getElem?_eq_getElem h3
    rw [hf0] at h2
    simp only [Bool.and_eq_true, decide_eq_true_eq] at h2
    have hr0 : rows[i]? = some rows[i] := List.getElem?_eq_getElem (by omega)
    obtain ⟨hst, _, hle, _⟩ := hrows i rows[i] hr0 fs[i] hf0
    have q2u : rows[i].length = P.cellsOf fs[i].type := by rw [hst.1, List.length_take, List.length_drop, hcl]; omega
    refine ⟨(rows[i])[c - fs[i].offset]'(by omega), fun i' f r hi' hf hr => ?_⟩
    rw [hi] at hi'; cases hi'
    rw [hf0] at hf; cases hf
    rw [hr0] at hr; cases hr
    exact ⟨h2.1, h2.2, List.getElem?_eq_getElem _⟩
   obtain ⟨az, hal, has⟩ := z0j (P.cellsOf t) q1m
   have w7r : ∀ (i : Nat) (f : Field) (r : List AV), fs[i]? = some f → rows[i]? = some r → (az.drop f.offset).take (P.cellsOf f.type) = r := by
    intro i f r hf hr
    obtain ⟨hst, _, hle, hown⟩ := hrows i r hr f hf
    have q2u : r.length = P.cellsOf f.type := by rw [hst.1, List.length_take, List.length_drop, hcl]; omega
    apply List.ext_getElem?
    intro j
    rcases Nat.lt_or_ge j (P.cellsOf f.type) with hj | hj
    ·rw [List.getElem?_take_of_lt hj, List.getElem?_drop]
     have hc : az[f.offset + j]? = some (az[f.offset + j]'(by omega)) := List.getElem?_eq_getElem (by omega)
     obtain ⟨_, _, h3⟩ := has (f.offset + j) _ hc i f r (hown j hj) hf hr
     rw [hc, ← h3]
     congr 1; omega
    ·rw [List.getElem?_eq_none (by simp; omega), List.getElem?_eq_none (by omega)]
   refine ⟨az, ⟨by omega, ?_⟩, .struct ht hal ?_⟩
   ·intro c a v ha hv
    have hc : c < P.cellsOf t := by rw [← hal]; exact (List.getElem?_eq_some_iff.mp ha).1
    obtain ⟨i, hi⟩ := Option.isSome_iff_exists.mp (hcov c hc)
    have h3 : i < fs.size := by simpa using List.mem_of_find?_eq_some hi
    have hf0 : fs[i]? = some fs[i] := Array.getElem?_eq_getElem h3
    have hr0 : rows[i]? = some rows[i] := List.getElem?_eq_getElem (by omega)
    obtain ⟨hst, _, hle, _⟩ := hrows i rows[i] hr0 fs[i] hf0
    obtain ⟨h4, h5, h6⟩ := has c a ha i fs[i] rows[i] hi hf0 hr0
    refine hst.2 (c - fs[i].offset) a v h6 ?_
    rw [List.getElem?_take_of_lt (by omega), List.getElem?_drop, show fs[i].offset + (c - fs[i].offset) = c by omega]
    exact hv
   ·intro i f hf
    have h3 : i < fs.size := (Array.getElem?_eq_some_iff.mp hf).1
    have hr0 : rows[i]? = some rows[i] := List.getElem?_eq_getElem (by omega)
    rw [w7r i f rows[i] hf hr0]
    exact (hrows i rows[i] hr0 f hf).2.1
  ·cases hd
theorem j0u {t : TypeId} {v : Value} {x : DataW H} {ps : List MemPlace} {r : Reach} {b0 : Nat} (hd : j6x P 8 t = true) (x6p : Value.okWide P w r b0 t v) (hx : DataW.Trod enc P w base spare held t v x ps) :
  ∃ av az, VRel w (Old w) (fun _ => none) av v ∧ Shp P t az ∧ (match P.underlying t with | some (.struct _) => av = .agg az | _ => az = [av]) := by
 obtain ⟨fuel, hf⟩ := hx
 obtain ⟨az, hst, hsh⟩ := x0v 8 hd hf
 cases hu : P.underlying t with
 | none => exfalso; unfold j6x at hd; rw [hu] at hd; cases hd
 | some u =>
  by_cases hs : ∃ fs, u = .struct fs
  ·obtain ⟨fs, rfl⟩ := hs
   obtain ⟨cs, rfl, hcs⟩ := okWide_struct hu x6p
   refine ⟨.agg az, az, ?_, hsh, rfl⟩
   have hl : cs.toList.length = az.length := hst.1.symm
   have := VRel.agg (w := w) (U := Old w) (ι := fun _ => none) az cs.toList hl (fun a ha => by
    obtain ⟨i, hi⟩ := List.getElem?_of_mem ha
    have hil : i < cs.toList.length := by rw [hl]; exact (List.getElem?_eq_some_iff.mp hi).1
    exact (hst.2 i a cs.toList[i] hi (List.getElem?_eq_getElem hil)).1) (fun i a v ha hv => (hst.2 i a v ha hv).2)
   simpa using this
  ·have y0h : ∃ a, az = [a] := by
    cases hsh with
    | struct h' => rw [hu] at h'; cases h'; exact absurd ⟨_, rfl⟩ hs
    | bool _ | int _ | str _ | nilS _ | vec _ => exact ⟨_, rfl⟩
   obtain ⟨a, rfl⟩ := y0h
   have hcl : v.cells.toList.length = 1 := hst.1.symm
   have hv : v.cells.toList = [v] := by
    cases v with
    | agg cs =>
     exfalso
     unfold Value.okWide at x6p
     rw [hu] at x6p
     have hcs : cs.toList.length = 1 := hcl
     obtain ⟨c, hc⟩ : ∃ c, cs.toList = [c] := List.length_eq_one_iff.mp hcs
     unfold j6x at hd
     rw [hu] at hd
     cases u <;> first | (cases hd; done) | (exact absurd ⟨_, rfl⟩ hs) | (simp [Cell.okWide, Cell.ok, hu] at x6p)
    | _ => rfl
   refine ⟨a, [a], ?_, hsh, ?_⟩
   ·exact (hst.2 0 a v rfl (by rw [hv]; rfl)).2
   ·cases u <;> first | rfl | exact absurd ⟨_, rfl⟩ hs
end Go.BX
namespace Go.Proofs.YtckhmpcmlochpaaGreat.G
open Go.BX
open Go.ChangeShapes Go.WideShapes Go.ChangeAt Go.RowKit
theorem own : ownKnob Tryz.prog.godebug = none := by kernel_rfl
theorem j6y : laidOutB Tryz.prog = true := by kernel_rfl
theorem x6g {f : FuncId} {args : List AV} (hx : Cx.ext f = none) (h : q0k Cx f args (.bool true)) {w : World} {vs : List Value} (ha : LsRel w (Old w) (fun _ => none) args vs) :
  Calls Tryz.prog f vs.toArray w (fun e w' => e = .returned (.bool true) ∧ Below w.heap.size w w') := by
 obtain ⟨n, hn⟩ := h
 refine (j5w cok hx hn ha).mono ?_
 rintro e w' ⟨⟨v, U', rfl, hv⟩, hb⟩
 cases hv
 exact ⟨rfl, hb⟩
theorem w6x {n : Int} (h : (Lit.int .i64 n).wf = true) : -9223372036854775808 ≤ n ∧ n ≤ 9223372036854775807 := bounds_i64 h
end Go.Proofs.YtckhmpcmlochpaaGreat.G
namespace Go.Proofs.YtckhmpcmlochpaaGreat.G
open Go.BX
set_option maxRecDepth 100000
theorem z2i {cs : List AV} (h : Shp Tryz.prog 3 cs) : ∃ n, cs = [.int .i64 n] ∧ (-9223372036854775808 ≤ n ∧ n ≤ 9223372036854775807) := by
 obtain ⟨n, h1, h2⟩ := y7l Tryz.underlying3 h
 exact ⟨n, h1, w6x h2⟩
theorem x6h {cs : List AV} (h : Shp Tryz.prog 9 cs) : ∃ s, cs = [.str s] ∧ s.length ≤ maxLen := y7m Tryz.underlying9 h
theorem x9z {cs : List AV} (h : Shp Tryz.prog 24 cs) : ∃ x y, cs = [.int .i64 x, .int .i64 y] := by
 obtain ⟨hl, hf⟩ := q9b Tryz.underlying24 h
 have hl2 : cs.length = 2 := hl.trans (by kernel_rfl)
 match cs, hl2 with
 | [a0, a1], _ =>
  have f0 := hf 0 _ rfl
  have f1 := hf 1 _ rfl
  obtain ⟨x, hx, bx⟩ := z2i f0
  obtain ⟨y, hy, by'⟩ := z2i f1
  cases hx
  cases hy
  exact ⟨_, _, rfl⟩
theorem j6z {cs : List AV} (h : Shp Tryz.prog 26 cs) : ∃ k n s x y, cs = [.int .i64 k, .int .i64 n, .str s, .int .i64 x, .int .i64 y] := by
 obtain ⟨hl, hf⟩ := q9b Tryz.underlying26 h
 have hl2 : cs.length = 5 := hl.trans (by kernel_rfl)
 match cs, hl2 with
 | [a0, a1, a2, a3, a4], _ =>
  have f0 := hf 0 _ rfl
  have f1 := hf 1 _ rfl
  have f2 := hf 2 _ rfl
  have f3 := hf 3 _ rfl
  obtain ⟨k, hk, bk⟩ := z2i f0
  obtain ⟨n, hn, bn⟩ := z2i f1
  obtain ⟨s, hs, bs⟩ := x6h f2
  obtain ⟨x, y, hxy⟩ := x9z f3
  cases hk
  cases hn
  cases hs
  have hxy' : [a3, a4] = [.int .i64 x, .int .i64 y] := hxy
  cases hxy'
  exact ⟨_, _, _, _, _, rfl⟩
theorem y0a {cs : List AV} (h : Shp Tryz.prog 51 cs) : ∃ p : Nd, cs = q2y p ∧ w8b p := by
 obtain ⟨hl, hf⟩ := q9b Tryz.underlying51 h
 have hl2 : cs.length = 6 := hl.trans (by kernel_rfl)
 match cs, hl2 with
 | [a0, a1, a2, a3, a4, a5], _ =>
  have f0 := hf 0 _ rfl
  have f1 := hf 1 _ rfl
  obtain ⟨o, ho, bo⟩ := z2i f0
  obtain ⟨k, n, s, x, y, hv⟩ := j6z f1
  cases ho
  have hv' : [a1, a2, a3, a4, a5] = [.int .i64 k, .int .i64 n, .str s, .int .i64 x, .int .i64 y] := hv
  cases hv'
  exact ⟨⟨o, ⟨k, n, s, x, y⟩⟩, rfl, bo⟩
theorem z9d : ∀ {es : List (List AV)}, (∀ r, r ∈ es → ∃ p : Nd, r = q2y p ∧ w8b p) → ∃ l : List Nd, es = l.map q2y ∧ x9g l
 | [], _ => ⟨[], rfl, fun n h => by cases h⟩
 | r :: es, h => by
  obtain ⟨p, rfl, hp⟩ := h r (by simp)
  obtain ⟨l, rfl, hl⟩ := z9d (es := es) (fun r hr => h r (by simp [hr]))
  exact ⟨p :: l, rfl, fun n hm => by rcases List.mem_cons.mp hm with rfl | hm; exact hp; exact hl n hm⟩
theorem x6i {a : AV} (h : Shp Tryz.prog 22 [a]) : ∃ l : List Nd, InN a l ∧ x9g l ∧ l.length ≤ maxLen := by
 rcases x6e Tryz.underlying22 h with e | ⟨es, e, hl, hr⟩
 ·cases e
  exact ⟨[], .inl ⟨rfl, rfl⟩, (fun n h => by cases h), by simp⟩
 ·cases e
  obtain ⟨l, rfl, hn⟩ := z9d (fun r hm => y0a (hr r hm))
  have hc : Tryz.prog.cellsOf 51 = 6 := by kernel_rfl
  refine ⟨l, .inr (by rw [hc]), hn, by simpa using hl⟩
end Go.Proofs.YtckhmpcmlochpaaGreat.G
namespace Go.Proofs.YtckhmpcmlochpaaGreat.G
open Go.BX
open Go.ChangeShapes Go.WideShapes Go.ChangeAt Go.RowKit
set_option maxRecDepth 100000
theorem y7n {cs : List AV} (h : Shp Tryz.prog 28 cs) : ∃ E : Env, cs = [.str E.key, .int .i64 E.val.k, .int .i64 E.val.n, .str E.val.s, .int .i64 E.val.x, .int .i64 E.val.y, .int .i64 E.acc.k, .int .i64 E.acc.n, .str E.acc.s, .int .i64 E.acc.x, .int .i64 E.acc.y] := by
 obtain ⟨hl, hf⟩ := q9b Tryz.underlying28 h
 have hl2 : cs.length = 11 := hl.trans (by kernel_rfl)
 match cs, hl2 with
 | [a0, a1, a2, a3, a4, a5, a6, a7, a8, a9, a10], _ =>
  have f0 := hf 0 _ rfl
  have f1 := hf 1 _ rfl
  have f2 := hf 2 _ rfl
  obtain ⟨s, hs, bs⟩ := x6h f0
  obtain ⟨k1, n1, s1, x1, y1, hv1⟩ := j6z f1
  obtain ⟨k2, n2, s2, x2, y2, hv2⟩ := j6z f2
  cases hs
  have hv1' : [a1, a2, a3, a4, a5] = [.int .i64 k1, .int .i64 n1, .str s1, .int .i64 x1, .int .i64 y1] := hv1
  have hv2' : [a6, a7, a8, a9, a10] = [.int .i64 k2, .int .i64 n2, .str s2, .int .i64 x2, .int .i64 y2] := hv2
  cases hv1'
  cases hv2'
  exact ⟨⟨s, ⟨k1, n1, s1, x1, y1⟩, ⟨k2, n2, s2, x2, y2⟩⟩, rfl⟩
end Go.Proofs.YtckhmpcmlochpaaGreat.G
