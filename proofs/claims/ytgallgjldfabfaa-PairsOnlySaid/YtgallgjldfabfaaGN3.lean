import Derived.Test.YtgallgjldfabfaaGN2
namespace Go.Proofs.Ytgallgjldfabfaa.G
open Go.BX
set_option linter.unusedSimpArgs false
set_option linter.unusedVariables false

def plainI (n : Int) : Bool := ((decide (32 ≤ n) && decide (n ≤ 126)) && n != 34) && n != 92
def plainB (c : UInt8) : Bool := plainI (c.toNat : Int)

def q1 (c : UInt8) : Bytes := if plainB c then [c] else [92, hexB (c.toNat / 16), hexB (c.toNat % 16)]
def quoM (s : Bytes) : Bytes := s.flatMap q1
def quoS (s : Bytes) : Bytes := 34 :: (quoM s ++ [34])

theorem q1_len (c : UInt8) : (q1 c).length ≤ 3 := by unfold q1; split <;> simp
theorem quoM_len (s : Bytes) : (quoM s).length ≤ 3 * s.length := by
  unfold quoM
  induction s with
  | nil => simp
  | cons c s ih => rw [List.flatMap_cons, List.length_append, List.length_cons]; have := q1_len c; omega
theorem quoM_cons (c : UInt8) (s : Bytes) : quoM (c :: s) = q1 c ++ quoM s := rfl

theorem td16 {n : Int} (h : 0 ≤ n) : n.tmod 16 = n % 16 ∧ n.tdiv 16 = n / 16 := ⟨Int.tmod_eq_emod_of_nonneg h, Int.tdiv_eq_ediv_of_nonneg h⟩

end Go.Proofs.Ytgallgjldfabfaa.G