import Derived.Test.YtkcanidmdjfclaaG0
namespace Go.Proofs.Ytkcanidmdjfclaa.G
open Go.BX
section
variable {T : Nat → AV} {ds : List ADef} {ro : Option Nat} {k : List AItem} {H : AHeap} {Q : AV → AHeap → Prop}
def o3_1 : List AO := [{ dst := (some 3), op := .box 25 (.tmp 0), ty := 0, guard := none },
  { dst := (some 4), op := .box 25 (.tmp 1), ty := 0, guard := none },
  { dst := (some 5), op := .box 25 (.tmp 2), ty := 0, guard := none },
  { dst := (some 6), op := .assign (.const (.bool false)), ty := 4, guard := none }]
def c3_1 : AC := .region o3_1 []
theorem n3_1 : Run Cx 3 T ds ro (.code c3_1 :: k) H Q = RunOps Cx 3 T ds ro o3_1 k H Q := run_region
def o3_4 : List AO := [{ dst := (some 9), op := .call { callee := (.value (.func 7)), args := #[], argTypes := #[] }, ty := 4, guard := none },
  { dst := (some 10), op := .unOp .not 4 (.tmp 9), ty := 4, guard := none },
  { dst := (some 11), op := .move (.tmp 10), ty := 4, guard := none },
  { dst := (some 12), op := .load 25 (.tmp 3), ty := 25, guard := (some (11, false)) },
  { dst := (some 13), op := .call { callee := (.value (.func 8)), args := #[(.tmp 12)], argTypes := #[25] }, ty := 4, guard := (some (11, false)) },
  { dst := (some 14), op := .unOp .not 4 (.tmp 13), ty := 4, guard := (some (11, false)) },
  { dst := (some 15), op := .pick (.tmp 11) (.const (.bool true)) (.tmp 14), ty := 4, guard := none },
  { dst := (some 16), op := .move (.tmp 15), ty := 4, guard := none },
  { dst := (some 17), op := .load 25 (.tmp 4), ty := 25, guard := (some (16, false)) },
  { dst := (some 18), op := .call { callee := (.value (.func 8)), args := #[(.tmp 17)], argTypes := #[25] }, ty := 4, guard := (some (16, false)) },
  { dst := (some 19), op := .unOp .not 4 (.tmp 18), ty := 4, guard := (some (16, false)) },
  { dst := (some 20), op := .pick (.tmp 16) (.const (.bool true)) (.tmp 19), ty := 4, guard := none },
  { dst := (some 21), op := .move (.tmp 20), ty := 4, guard := none },
  { dst := (some 22), op := .load 25 (.tmp 5), ty := 25, guard := (some (21, false)) },
  { dst := (some 23), op := .call { callee := (.value (.func 8)), args := #[(.tmp 22)], argTypes := #[25] }, ty := 4, guard := (some (21, false)) },
  { dst := (some 24), op := .unOp .not 4 (.tmp 23), ty := 4, guard := (some (21, false)) },
  { dst := (some 25), op := .pick (.tmp 21) (.const (.bool true)) (.tmp 24), ty := 4, guard := none }]
def c3_4 : AC := .region o3_4 []
theorem n3_4 : Run Cx 3 T ds ro (.code c3_4 :: k) H Q = RunOps Cx 3 T ds ro o3_4 k H Q := run_region
def o3_7 : List AO := [{ dst := (some 26), op := .call { callee := (.value (.func 7)), args := #[], argTypes := #[] }, ty := 4, guard := none },
  { dst := (some 6), op := .assign (.tmp 26), ty := 4, guard := none }]
def c3_7 : AC := .region o3_7 []
theorem n3_7 : Run Cx 3 T ds ro (.code c3_7 :: k) H Q = RunOps Cx 3 T ds ro o3_7 k H Q := run_region
def c3_8 : AC := .ret
theorem n3_8 : Run Cx 3 T [] none (.code c3_8 :: k) H Q = RunRes Cx T H Q (resOf Cx 3) := run_ret
def c3_6 : AC := .seq c3_7 c3_8
theorem n3_6 : Run Cx 3 T ds ro (.code c3_6 :: k) H Q = Run Cx 3 T ds ro (.code c3_7 :: .code c3_8 :: k) H Q := run_seq
def c3_9 : AC := .skip
theorem n3_9 : Run Cx 3 T ds ro (.code c3_9 :: k) H Q = Run Cx 3 T ds ro (k) H Q := run_skip
def c3_5 : AC := .cond (.tmp 25) c3_6 c3_9
theorem n3_5 : Run Cx 3 T ds ro (.code c3_5 :: k) H Q = RunCond Cx 3 T ds ro (.tmp 25) (ev T (.tmp 25)) c3_6 c3_9 k H Q := run_condC
def c3_3 : AC := .seq c3_4 c3_5
theorem n3_3 : Run Cx 3 T ds ro (.code c3_3 :: k) H Q = Run Cx 3 T ds ro (.code c3_4 :: .code c3_5 :: k) H Q := run_seq
def o3_11 : List AO := [{ dst := (some 27), op := .load 25 (.tmp 3), ty := 25, guard := none },
  { dst := (some 28), op := .load 25 (.tmp 4), ty := 25, guard := none },
  { dst := (some 29), op := .call { callee := (.value (.func 9)), args := #[(.tmp 27), (.tmp 28)], argTypes := #[25, 25] }, ty := 3, guard := none },
  { dst := (some 30), op := .load 25 (.tmp 4), ty := 25, guard := none },
  { dst := (some 31), op := .load 25 (.tmp 5), ty := 25, guard := none },
  { dst := (some 32), op := .call { callee := (.value (.func 9)), args := #[(.tmp 30), (.tmp 31)], argTypes := #[25, 25] }, ty := 3, guard := none },
  { dst := (some 7), op := .assign (.tmp 29), ty := 3, guard := none },
  { dst := (some 8), op := .assign (.tmp 32), ty := 3, guard := none }]
def c3_11 : AC := .region o3_11 []
theorem n3_11 : Run Cx 3 T ds ro (.code c3_11 :: k) H Q = RunOps Cx 3 T ds ro o3_11 k H Q := run_region
def o3_13 : List AO := [{ dst := (some 33), op := .move (.tmp 7), ty := 3, guard := none },
  { dst := (some 34), op := .load 25 (.tmp 4), ty := 25, guard := none },
  { dst := (some 35), op := .load 25 (.tmp 3), ty := 25, guard := none },
  { dst := (some 36), op := .call { callee := (.value (.func 9)), args := #[(.tmp 34), (.tmp 35)], argTypes := #[25, 25] }, ty := 3, guard := none },
  { dst := (some 37), op := .unOp .neg 3 (.tmp 36), ty := 3, guard := none },
  { dst := (some 38), op := .binOp .eql 3 (.tmp 33) (.tmp 37) 3, ty := 4, guard := none },
  { dst := (some 39), op := .move (.tmp 38), ty := 4, guard := none },
  { dst := (some 40), op := .move (.tmp 7), ty := 3, guard := (some (39, true)) },
  { dst := (some 41), op := .binOp .eql 3 (.tmp 40) (.const (.int .i64 0)) 3, ty := 4, guard := (some (39, true)) },
  { dst := (some 42), op := .load 25 (.tmp 3), ty := 25, guard := (some (39, true)) },
  { dst := (some 43), op := .load 25 (.tmp 4), ty := 25, guard := (some (39, true)) },
  { dst := (some 44), op := .binOp .eql 25 (.tmp 42) (.tmp 43) 25, ty := 4, guard := (some (39, true)) },
  { dst := (some 45), op := .binOp .eql 4 (.tmp 41) (.tmp 44) 4, ty := 4, guard := (some (39, true)) },
  { dst := (some 46), op := .pick (.tmp 39) (.tmp 45) (.const (.bool false)), ty := 4, guard := none },
  { dst := (some 47), op := .move (.tmp 46), ty := 4, guard := none },
  { dst := (some 48), op := .move (.tmp 7), ty := 3, guard := (some (47, true)) },
  { dst := (some 49), op := .binOp .gtr 3 (.tmp 48) (.const (.int .i64 0)) 3, ty := 4, guard := (some (47, true)) },
  { dst := (some 50), op := .move (.tmp 49), ty := 4, guard := (some (47, true)) },
  { dst := (some 51), op := .move (.tmp 8), ty := 3, guard := (some (50, false)) },
  { dst := (some 52), op := .binOp .gtr 3 (.tmp 51) (.const (.int .i64 0)) 3, ty := 4, guard := (some (50, false)) },
  { dst := (some 53), op := .pick (.tmp 50) (.const (.bool true)) (.tmp 52), ty := 4, guard := (some (47, true)) },
  { dst := (some 54), op := .move (.tmp 53), ty := 4, guard := (some (47, true)) },
  { dst := (some 55), op := .load 25 (.tmp 3), ty := 25, guard := (some (54, false)) },
  { dst := (some 56), op := .load 25 (.tmp 5), ty := 25, guard := (some (54, false)) },
  { dst := (some 57), op := .call { callee := (.value (.func 9)), args := #[(.tmp 55), (.tmp 56)], argTypes := #[25, 25] }, ty := 3, guard := (some (54, false)) },
  { dst := (some 58), op := .binOp .leq 3 (.tmp 57) (.const (.int .i64 0)) 3, ty := 4, guard := (some (54, false)) },
  { dst := (some 59), op := .pick (.tmp 54) (.const (.bool true)) (.tmp 58), ty := 4, guard := (some (47, true)) },
  { dst := (some 60), op := .pick (.tmp 47) (.tmp 59) (.const (.bool false)), ty := 4, guard := none },
  { dst := (some 61), op := .move (.tmp 60), ty := 4, guard := none },
  { dst := (some 62), op := .load 25 (.tmp 3), ty := 25, guard := (some (61, true)) },
  { dst := (some 63), op := .load 25 (.tmp 5), ty := 25, guard := (some (61, true)) },
  { dst := (some 64), op := .call { callee := (.value (.func 9)), args := #[(.tmp 62), (.tmp 63)], argTypes := #[25, 25] }, ty := 3, guard := (some (61, true)) },
  { dst := (some 65), op := .binOp .geq 3 (.tmp 64) (.const (.int .i64 (-1))) 3, ty := 4, guard := (some (61, true)) },
  { dst := (some 66), op := .pick (.tmp 61) (.tmp 65) (.const (.bool false)), ty := 4, guard := none },
  { dst := (some 67), op := .move (.tmp 66), ty := 4, guard := none },
  { dst := (some 68), op := .move (.tmp 7), ty := 3, guard := (some (67, true)) },
  { dst := (some 69), op := .move (.tmp 7), ty := 3, guard := (some (67, true)) },
  { dst := (some 70), op := .binOp .mul 3 (.tmp 68) (.tmp 69) 3, ty := 3, guard := (some (67, true)) },
  { dst := (some 71), op := .binOp .leq 3 (.tmp 70) (.const (.int .i64 1)) 3, ty := 4, guard := (some (67, true)) },
  { dst := (some 72), op := .pick (.tmp 67) (.tmp 71) (.const (.bool false)), ty := 4, guard := none },
  { dst := (some 6), op := .assign (.tmp 72), ty := 4, guard := none }]
def c3_13 : AC := .region o3_13 []
theorem n3_13 : Run Cx 3 T ds ro (.code c3_13 :: k) H Q = RunOps Cx 3 T ds ro o3_13 k H Q := run_region
def c3_14 : AC := .ret
theorem n3_14 : Run Cx 3 T [] none (.code c3_14 :: k) H Q = RunRes Cx T H Q (resOf Cx 3) := run_ret
def c3_12 : AC := .seq c3_13 c3_14
theorem n3_12 : Run Cx 3 T ds ro (.code c3_12 :: k) H Q = Run Cx 3 T ds ro (.code c3_13 :: .code c3_14 :: k) H Q := run_seq
def c3_10 : AC := .seq c3_11 c3_12
theorem n3_10 : Run Cx 3 T ds ro (.code c3_10 :: k) H Q = Run Cx 3 T ds ro (.code c3_11 :: .code c3_12 :: k) H Q := run_seq
def c3_2 : AC := .seq c3_3 c3_10
theorem n3_2 : Run Cx 3 T ds ro (.code c3_2 :: k) H Q = Run Cx 3 T ds ro (.code c3_3 :: .code c3_10 :: k) H Q := run_seq
def c3_0 : AC := .seq c3_1 c3_2
theorem n3_0 : Run Cx 3 T ds ro (.code c3_0 :: k) H Q = Run Cx 3 T ds ro (.code c3_1 :: .code c3_2 :: k) H Q := run_seq
theorem body3 : bodyOf Cx 3 = some c3_0 := by kernel_rfl
theorem res3 : resOf Cx 3 = some [.tmp 6] := by kernel_rfl
theorem pure3 : Cx.pure 3 = true := by kernel_rfl
-- RULES 3: n3_0, n3_1, n3_2, n3_3, n3_4, n3_5, n3_6, n3_7, n3_8, n3_9, n3_10, n3_11, n3_12, n3_13, n3_14
def o4_1 : List AO := [{ dst := (some 2), op := .box 25 (.tmp 0), ty := 0, guard := none },
  { dst := (some 3), op := .box 25 (.tmp 1), ty := 0, guard := none },
  { dst := (some 4), op := .assign (.const (.bool false)), ty := 4, guard := none }]
def c4_1 : AC := .region o4_1 []
theorem n4_1 : Run Cx 4 T ds ro (.code c4_1 :: k) H Q = RunOps Cx 4 T ds ro o4_1 k H Q := run_region
def o4_4 : List AO := [{ dst := (some 5), op := .call { callee := (.value (.func 7)), args := #[], argTypes := #[] }, ty := 4, guard := none },
  { dst := (some 6), op := .unOp .not 4 (.tmp 5), ty := 4, guard := none },
  { dst := (some 7), op := .move (.tmp 6), ty := 4, guard := none },
  { dst := (some 8), op := .fieldAddr 25 (.tmp 2) 2, ty := 0, guard := (some (7, false)) },
  { dst := (some 9), op := .load 9 (.tmp 8), ty := 9, guard := (some (7, false)) },
  { dst := (some 10), op := .call { callee := (.builtin .len), args := #[(.tmp 9)], argTypes := #[9] }, ty := 3, guard := (some (7, false)) },
  { dst := (some 11), op := .binOp .gtr 3 (.tmp 10) (.const (.int .i64 6000)) 3, ty := 4, guard := (some (7, false)) },
  { dst := (some 12), op := .pick (.tmp 7) (.const (.bool true)) (.tmp 11), ty := 4, guard := none },
  { dst := (some 13), op := .move (.tmp 12), ty := 4, guard := none },
  { dst := (some 14), op := .fieldAddr 25 (.tmp 3) 2, ty := 0, guard := (some (13, false)) },
  { dst := (some 15), op := .load 9 (.tmp 14), ty := 9, guard := (some (13, false)) },
  { dst := (some 16), op := .call { callee := (.builtin .len), args := #[(.tmp 15)], argTypes := #[9] }, ty := 3, guard := (some (13, false)) },
  { dst := (some 17), op := .binOp .gtr 3 (.tmp 16) (.const (.int .i64 6000)) 3, ty := 4, guard := (some (13, false)) },
  { dst := (some 18), op := .pick (.tmp 13) (.const (.bool true)) (.tmp 17), ty := 4, guard := none }]
def c4_4 : AC := .region o4_4 []
theorem n4_4 : Run Cx 4 T ds ro (.code c4_4 :: k) H Q = RunOps Cx 4 T ds ro o4_4 k H Q := run_region
def o4_7 : List AO := [{ dst := (some 19), op := .call { callee := (.value (.func 7)), args := #[], argTypes := #[] }, ty := 4, guard := none },
  { dst := (some 4), op := .assign (.tmp 19), ty := 4, guard := none }]
def c4_7 : AC := .region o4_7 []
theorem n4_7 : Run Cx 4 T ds ro (.code c4_7 :: k) H Q = RunOps Cx 4 T ds ro o4_7 k H Q := run_region
def c4_8 : AC := .ret
theorem n4_8 : Run Cx 4 T [] none (.code c4_8 :: k) H Q = RunRes Cx T H Q (resOf Cx 4) := run_ret
def c4_6 : AC := .seq c4_7 c4_8
theorem n4_6 : Run Cx 4 T ds ro (.code c4_6 :: k) H Q = Run Cx 4 T ds ro (.code c4_7 :: .code c4_8 :: k) H Q := run_seq
def c4_9 : AC := .skip
theorem n4_9 : Run Cx 4 T ds ro (.code c4_9 :: k) H Q = Run Cx 4 T ds ro (k) H Q := run_skip
def c4_5 : AC := .cond (.tmp 18) c4_6 c4_9
theorem n4_5 : Run Cx 4 T ds ro (.code c4_5 :: k) H Q = RunCond Cx 4 T ds ro (.tmp 18) (ev T (.tmp 18)) c4_6 c4_9 k H Q := run_condC
def c4_3 : AC := .seq c4_4 c4_5
theorem n4_3 : Run Cx 4 T ds ro (.code c4_3 :: k) H Q = Run Cx 4 T ds ro (.code c4_4 :: .code c4_5 :: k) H Q := run_seq
def o4_12 : List AO := [{ dst := (some 20), op := .load 25 (.tmp 2), ty := 25, guard := none },
  { dst := (some 21), op := .call { callee := (.value (.func 8)), args := #[(.tmp 20)], argTypes := #[25] }, ty := 4, guard := none },
  { dst := (some 22), op := .load 25 (.tmp 2), ty := 25, guard := none },
  { dst := (some 23), op := .call { callee := (.value (.func 10)), args := #[(.tmp 22)], argTypes := #[25] }, ty := 4, guard := none },
  { dst := (some 24), op := .binOp .neq 4 (.tmp 21) (.tmp 23) 4, ty := 4, guard := none }]
def c4_12 : AC := .region o4_12 []
theorem n4_12 : Run Cx 4 T ds ro (.code c4_12 :: k) H Q = RunOps Cx 4 T ds ro o4_12 k H Q := run_region
def o4_15 : List AO := [{ dst := (some 4), op := .assign (.const (.bool false)), ty := 4, guard := none }]
def c4_15 : AC := .region o4_15 []
theorem n4_15 : Run Cx 4 T ds ro (.code c4_15 :: k) H Q = RunOps Cx 4 T ds ro o4_15 k H Q := run_region
def c4_16 : AC := .ret
theorem n4_16 : Run Cx 4 T [] none (.code c4_16 :: k) H Q = RunRes Cx T H Q (resOf Cx 4) := run_ret
def c4_14 : AC := .seq c4_15 c4_16
theorem n4_14 : Run Cx 4 T ds ro (.code c4_14 :: k) H Q = Run Cx 4 T ds ro (.code c4_15 :: .code c4_16 :: k) H Q := run_seq
def c4_17 : AC := .skip
theorem n4_17 : Run Cx 4 T ds ro (.code c4_17 :: k) H Q = Run Cx 4 T ds ro (k) H Q := run_skip
def c4_13 : AC := .cond (.tmp 24) c4_14 c4_17
theorem n4_13 : Run Cx 4 T ds ro (.code c4_13 :: k) H Q = RunCond Cx 4 T ds ro (.tmp 24) (ev T (.tmp 24)) c4_14 c4_17 k H Q := run_condC
def c4_11 : AC := .seq c4_12 c4_13
theorem n4_11 : Run Cx 4 T ds ro (.code c4_11 :: k) H Q = Run Cx 4 T ds ro (.code c4_12 :: .code c4_13 :: k) H Q := run_seq
def o4_20 : List AO := [{ dst := (some 25), op := .load 25 (.tmp 2), ty := 25, guard := none },
  { dst := (some 26), op := .call { callee := (.value (.func 10)), args := #[(.tmp 25)], argTypes := #[25] }, ty := 4, guard := none },
  { dst := (some 27), op := .unOp .not 4 (.tmp 26), ty := 4, guard := none }]
def c4_20 : AC := .region o4_20 []
theorem n4_20 : Run Cx 4 T ds ro (.code c4_20 :: k) H Q = RunOps Cx 4 T ds ro o4_20 k H Q := run_region
def o4_23 : List AO := [{ dst := (some 28), op := .load 25 (.tmp 2), ty := 25, guard := none },
  { dst := (some 29), op := .call { callee := (.value (.func 11)), args := #[(.tmp 28)], argTypes := #[25] }, ty := 9, guard := none },
  { dst := (some 30), op := .binOp .eql 9 (.tmp 29) (.const (.string ⟨#[]⟩)) 9, ty := 4, guard := none },
  { dst := (some 31), op := .move (.tmp 30), ty := 4, guard := none },
  { dst := (some 32), op := .load 25 (.tmp 2), ty := 25, guard := (some (31, true)) },
  { dst := (some 33), op := .call { callee := (.value (.func 12)), args := #[(.tmp 32)], argTypes := #[25] }, ty := 9, guard := (some (31, true)) },
  { dst := (some 34), op := .binOp .eql 9 (.tmp 33) (.const (.string ⟨#[]⟩)) 9, ty := 4, guard := (some (31, true)) },
  { dst := (some 35), op := .pick (.tmp 31) (.tmp 34) (.const (.bool false)), ty := 4, guard := none },
  { dst := (some 4), op := .assign (.tmp 35), ty := 4, guard := none }]
def c4_23 : AC := .region o4_23 []
theorem n4_23 : Run Cx 4 T ds ro (.code c4_23 :: k) H Q = RunOps Cx 4 T ds ro o4_23 k H Q := run_region
def c4_24 : AC := .ret
theorem n4_24 : Run Cx 4 T [] none (.code c4_24 :: k) H Q = RunRes Cx T H Q (resOf Cx 4) := run_ret
def c4_22 : AC := .seq c4_23 c4_24
theorem n4_22 : Run Cx 4 T ds ro (.code c4_22 :: k) H Q = Run Cx 4 T ds ro (.code c4_23 :: .code c4_24 :: k) H Q := run_seq
def c4_25 : AC := .skip
theorem n4_25 : Run Cx 4 T ds ro (.code c4_25 :: k) H Q = Run Cx 4 T ds ro (k) H Q := run_skip
def c4_21 : AC := .cond (.tmp 27) c4_22 c4_25
theorem n4_21 : Run Cx 4 T ds ro (.code c4_21 :: k) H Q = RunCond Cx 4 T ds ro (.tmp 27) (ev T (.tmp 27)) c4_22 c4_25 k H Q := run_condC
def c4_19 : AC := .seq c4_20 c4_21
theorem n4_19 : Run Cx 4 T ds ro (.code c4_19 :: k) H Q = Run Cx 4 T ds ro (.code c4_20 :: .code c4_21 :: k) H Q := run_seq
def o4_27 : List AO := [{ dst := (some 36), op := .load 25 (.tmp 2), ty := 25, guard := none },
  { dst := (some 37), op := .call { callee := (.value (.func 11)), args := #[(.tmp 36)], argTypes := #[25] }, ty := 9, guard := none },
  { dst := (some 38), op := .load 25 (.tmp 2), ty := 25, guard := none },
  { dst := (some 39), op := .call { callee := (.value (.func 13)), args := #[(.tmp 38)], argTypes := #[25] }, ty := 9, guard := none },
  { dst := (some 40), op := .binOp .eql 9 (.tmp 37) (.tmp 39) 9, ty := 4, guard := none },
  { dst := (some 41), op := .move (.tmp 40), ty := 4, guard := none },
  { dst := (some 42), op := .load 25 (.tmp 2), ty := 25, guard := (some (41, true)) },
  { dst := (some 43), op := .call { callee := (.value (.func 12)), args := #[(.tmp 42)], argTypes := #[25] }, ty := 9, guard := (some (41, true)) },
  { dst := (some 44), op := .load 25 (.tmp 2), ty := 25, guard := (some (41, true)) },
  { dst := (some 45), op := .call { callee := (.value (.func 14)), args := #[(.tmp 44)], argTypes := #[25] }, ty := 9, guard := (some (41, true)) },
  { dst := (some 46), op := .binOp .eql 9 (.tmp 43) (.tmp 45) 9, ty := 4, guard := (some (41, true)) },
  { dst := (some 47), op := .pick (.tmp 41) (.tmp 46) (.const (.bool false)), ty := 4, guard := none },
  { dst := (some 48), op := .move (.tmp 47), ty := 4, guard := none },
  { dst := (some 49), op := .load 25 (.tmp 3), ty := 25, guard := (some (48, true)) },
  { dst := (some 50), op := .call { callee := (.value (.func 10)), args := #[(.tmp 49)], argTypes := #[25] }, ty := 4, guard := (some (48, true)) },
  { dst := (some 51), op := .unOp .not 4 (.tmp 50), ty := 4, guard := (some (48, true)) },
  { dst := (some 52), op := .move (.tmp 51), ty := 4, guard := (some (48, true)) },
  { dst := (some 53), op := .load 25 (.tmp 2), ty := 25, guard := (some (52, false)) },
  { dst := (some 54), op := .load 25 (.tmp 3), ty := 25, guard := (some (52, false)) },
  { dst := (some 55), op := .call { callee := (.value (.func 9)), args := #[(.tmp 53), (.tmp 54)], argTypes := #[25, 25] }, ty := 3, guard := (some (52, false)) },
  { dst := (some 56), op := .load 25 (.tmp 2), ty := 25, guard := (some (52, false)) },
  { dst := (some 57), op := .load 25 (.tmp 3), ty := 25, guard := (some (52, false)) },
  { dst := (some 58), op := .call { callee := (.value (.func 15)), args := #[(.tmp 56), (.tmp 57)], argTypes := #[25, 25] }, ty := 3, guard := (some (52, false)) },
  { dst := (some 59), op := .binOp .eql 3 (.tmp 55) (.tmp 58) 3, ty := 4, guard := (some (52, false)) },
  { dst := (some 60), op := .pick (.tmp 52) (.const (.bool true)) (.tmp 59), ty := 4, guard := (some (48, true)) },
  { dst := (some 61), op := .pick (.tmp 48) (.tmp 60) (.const (.bool false)), ty := 4, guard := none },
  { dst := (some 4), op := .assign (.tmp 61), ty := 4, guard := none }]
def c4_27 : AC := .region o4_27 []
theorem n4_27 : Run Cx 4 T ds ro (.code c4_27 :: k) H Q = RunOps Cx 4 T ds ro o4_27 k H Q := run_region
def c4_28 : AC := .ret
theorem n4_28 : Run Cx 4 T [] none (.code c4_28 :: k) H Q = RunRes Cx T H Q (resOf Cx 4) := run_ret
def c4_26 : AC := .seq c4_27 c4_28
theorem n4_26 : Run Cx 4 T ds ro (.code c4_26 :: k) H Q = Run Cx 4 T ds ro (.code c4_27 :: .code c4_28 :: k) H Q := run_seq
def c4_18 : AC := .seq c4_19 c4_26
theorem n4_18 : Run Cx 4 T ds ro (.code c4_18 :: k) H Q = Run Cx 4 T ds ro (.code c4_19 :: .code c4_26 :: k) H Q := run_seq
def c4_10 : AC := .seq c4_11 c4_18
theorem n4_10 : Run Cx 4 T ds ro (.code c4_10 :: k) H Q = Run Cx 4 T ds ro (.code c4_11 :: .code c4_18 :: k) H Q := run_seq
def c4_2 : AC := .seq c4_3 c4_10
theorem n4_2 : Run Cx 4 T ds ro (.code c4_2 :: k) H Q = Run Cx 4 T ds ro (.code c4_3 :: .code c4_10 :: k) H Q := run_seq
def c4_0 : AC := .seq c4_1 c4_2
theorem n4_0 : Run Cx 4 T ds ro (.code c4_0 :: k) H Q = Run Cx 4 T ds ro (.code c4_1 :: .code c4_2 :: k) H Q := run_seq
theorem body4 : bodyOf Cx 4 = some c4_0 := by kernel_rfl
theorem res4 : resOf Cx 4 = some [.tmp 4] := by kernel_rfl
theorem pure4 : Cx.pure 4 = true := by kernel_rfl
-- RULES 4: n4_0, n4_1, n4_2, n4_3, n4_4, n4_5, n4_6, n4_7, n4_8, n4_9, n4_10, n4_11, n4_12, n4_13, n4_14, n4_15, n4_16, n4_17, n4_18, n4_19, n4_20, n4_21, n4_22, n4_23, n4_24, n4_25, n4_26, n4_27, n4_28
def o5_1 : List AO := [{ dst := (some 2), op := .box 25 (.tmp 0), ty := 0, guard := none },
  { dst := (some 3), op := .box 25 (.tmp 1), ty := 0, guard := none },
  { dst := (some 4), op := .assign (.const (.bool false)), ty := 4, guard := none }]
def c5_1 : AC := .region o5_1 []
theorem n5_1 : Run Cx 5 T ds ro (.code c5_1 :: k) H Q = RunOps Cx 5 T ds ro o5_1 k H Q := run_region
def o5_4 : List AO := [{ dst := (some 6), op := .call { callee := (.value (.func 7)), args := #[], argTypes := #[] }, ty := 4, guard := none },
  { dst := (some 7), op := .unOp .not 4 (.tmp 6), ty := 4, guard := none },
  { dst := (some 8), op := .move (.tmp 7), ty := 4, guard := none },
  { dst := (some 9), op := .fieldAddr 25 (.tmp 2) 2, ty := 0, guard := (some (8, false)) },
  { dst := (some 10), op := .load 9 (.tmp 9), ty := 9, guard := (some (8, false)) },
  { dst := (some 11), op := .call { callee := (.builtin .len), args := #[(.tmp 10)], argTypes := #[9] }, ty := 3, guard := (some (8, false)) },
  { dst := (some 12), op := .binOp .gtr 3 (.tmp 11) (.const (.int .i64 6000)) 3, ty := 4, guard := (some (8, false)) },
  { dst := (some 13), op := .pick (.tmp 8) (.const (.bool true)) (.tmp 12), ty := 4, guard := none },
  { dst := (some 14), op := .move (.tmp 13), ty := 4, guard := none },
  { dst := (some 15), op := .fieldAddr 25 (.tmp 3) 2, ty := 0, guard := (some (14, false)) },
  { dst := (some 16), op := .load 9 (.tmp 15), ty := 9, guard := (some (14, false)) },
  { dst := (some 17), op := .call { callee := (.builtin .len), args := #[(.tmp 16)], argTypes := #[9] }, ty := 3, guard := (some (14, false)) },
  { dst := (some 18), op := .binOp .gtr 3 (.tmp 17) (.const (.int .i64 6000)) 3, ty := 4, guard := (some (14, false)) },
  { dst := (some 19), op := .pick (.tmp 14) (.const (.bool true)) (.tmp 18), ty := 4, guard := none },
  { dst := (some 20), op := .move (.tmp 19), ty := 4, guard := none },
  { dst := (some 21), op := .load 25 (.tmp 2), ty := 25, guard := (some (20, false)) },
  { dst := (some 22), op := .call { callee := (.value (.func 8)), args := #[(.tmp 21)], argTypes := #[25] }, ty := 4, guard := (some (20, false)) },
  { dst := (some 23), op := .unOp .not 4 (.tmp 22), ty := 4, guard := (some (20, false)) },
  { dst := (some 24), op := .pick (.tmp 20) (.const (.bool true)) (.tmp 23), ty := 4, guard := none },
  { dst := (some 25), op := .move (.tmp 24), ty := 4, guard := none },
  { dst := (some 26), op := .load 25 (.tmp 3), ty := 25, guard := (some (25, false)) },
  { dst := (some 27), op := .call { callee := (.value (.func 8)), args := #[(.tmp 26)], argTypes := #[25] }, ty := 4, guard := (some (25, false)) },
  { dst := (some 28), op := .unOp .not 4 (.tmp 27), ty := 4, guard := (some (25, false)) },
  { dst := (some 29), op := .pick (.tmp 25) (.const (.bool true)) (.tmp 28), ty := 4, guard := none }]
def c5_4 : AC := .region o5_4 []
theorem n5_4 : Run Cx 5 T ds ro (.code c5_4 :: k) H Q = RunOps Cx 5 T ds ro o5_4 k H Q := run_region
def o5_7 : List AO := [{ dst := (some 30), op := .call { callee := (.value (.func 7)), args := #[], argTypes := #[] }, ty := 4, guard := none },
  { dst := (some 4), op := .assign (.tmp 30), ty := 4, guard := none }]
def c5_7 : AC := .region o5_7 []
theorem n5_7 : Run Cx 5 T ds ro (.code c5_7 :: k) H Q = RunOps Cx 5 T ds ro o5_7 k H Q := run_region
def c5_8 : AC := .ret
theorem n5_8 : Run Cx 5 T [] none (.code c5_8 :: k) H Q = RunRes Cx T H Q (resOf Cx 5) := run_ret
def c5_6 : AC := .seq c5_7 c5_8
theorem n5_6 : Run Cx 5 T ds ro (.code c5_6 :: k) H Q = Run Cx 5 T ds ro (.code c5_7 :: .code c5_8 :: k) H Q := run_seq
def c5_9 : AC := .skip
theorem n5_9 : Run Cx 5 T ds ro (.code c5_9 :: k) H Q = Run Cx 5 T ds ro (k) H Q := run_skip
def c5_5 : AC := .cond (.tmp 29) c5_6 c5_9
theorem n5_5 : Run Cx 5 T ds ro (.code c5_5 :: k) H Q = RunCond Cx 5 T ds ro (.tmp 29) (ev T (.tmp 29)) c5_6 c5_9 k H Q := run_condC
def c5_3 : AC := .seq c5_4 c5_5
theorem n5_3 : Run Cx 5 T ds ro (.code c5_3 :: k) H Q = Run Cx 5 T ds ro (.code c5_4 :: .code c5_5 :: k) H Q := run_seq
def o5_11 : List AO := [{ dst := (some 31), op := .load 25 (.tmp 2), ty := 25, guard := none },
  { dst := (some 32), op := .load 25 (.tmp 3), ty := 25, guard := none },
  { dst := (some 33), op := .binOp .eql 25 (.tmp 31) (.tmp 32) 25, ty := 4, guard := none },
  { dst := (some 5), op := .assign (.tmp 33), ty := 4, guard := none }]
def c5_11 : AC := .region o5_11 []
theorem n5_11 : Run Cx 5 T ds ro (.code c5_11 :: k) H Q = RunOps Cx 5 T ds ro o5_11 k H Q := run_region
def o5_13 : List AO := [{ dst := (some 34), op := .load 25 (.tmp 2), ty := 25, guard := none },
  { dst := (some 35), op := .load 25 (.tmp 3), ty := 25, guard := none },
  { dst := (some 36), op := .call { callee := (.value (.func 9)), args := #[(.tmp 34), (.tmp 35)], argTypes := #[25, 25] }, ty := 3, guard := none },
  { dst := (some 37), op := .binOp .eql 3 (.tmp 36) (.const (.int .i64 0)) 3, ty := 4, guard := none },
  { dst := (some 38), op := .move (.tmp 5), ty := 4, guard := none },
  { dst := (some 39), op := .binOp .eql 4 (.tmp 37) (.tmp 38) 4, ty := 4, guard := none },
  { dst := (some 40), op := .move (.tmp 39), ty := 4, guard := none },
  { dst := (some 41), op := .load 25 (.tmp 2), ty := 25, guard := (some (40, true)) },
  { dst := (some 42), op := .call { callee := (.value (.func 11)), args := #[(.tmp 41)], argTypes := #[25] }, ty := 9, guard := (some (40, true)) },
  { dst := (some 43), op := .load 25 (.tmp 3), ty := 25, guard := (some (40, true)) },
  { dst := (some 44), op := .call { callee := (.value (.func 11)), args := #[(.tmp 43)], argTypes := #[25] }, ty := 9, guard := (some (40, true)) },
  { dst := (some 45), op := .binOp .eql 9 (.tmp 42) (.tmp 44) 9, ty := 4, guard := (some (40, true)) },
  { dst := (some 46), op := .move (.tmp 5), ty := 4, guard := (some (40, true)) },
  { dst := (some 47), op := .binOp .eql 4 (.tmp 45) (.tmp 46) 4, ty := 4, guard := (some (40, true)) },
  { dst := (some 48), op := .pick (.tmp 40) (.tmp 47) (.const (.bool false)), ty := 4, guard := none },
  { dst := (some 49), op := .move (.tmp 48), ty := 4, guard := none },
  { dst := (some 50), op := .load 25 (.tmp 2), ty := 25, guard := (some (49, true)) },
  { dst := (some 51), op := .call { callee := (.value (.func 12)), args := #[(.tmp 50)], argTypes := #[25] }, ty := 9, guard := (some (49, true)) },
  { dst := (some 52), op := .load 25 (.tmp 3), ty := 25, guard := (some (49, true)) },
  { dst := (some 53), op := .call { callee := (.value (.func 12)), args := #[(.tmp 52)], argTypes := #[25] }, ty := 9, guard := (some (49, true)) },
  { dst := (some 54), op := .binOp .eql 9 (.tmp 51) (.tmp 53) 9, ty := 4, guard := (some (49, true)) },
  { dst := (some 55), op := .move (.tmp 5), ty := 4, guard := (some (49, true)) },
  { dst := (some 56), op := .binOp .eql 4 (.tmp 54) (.tmp 55) 4, ty := 4, guard := (some (49, true)) },
  { dst := (some 57), op := .pick (.tmp 49) (.tmp 56) (.const (.bool false)), ty := 4, guard := none },
  { dst := (some 4), op := .assign (.tmp 57), ty := 4, guard := none }]
def c5_13 : AC := .region o5_13 []
theorem n5_13 : Run Cx 5 T ds ro (.code c5_13 :: k) H Q = RunOps Cx 5 T ds ro o5_13 k H Q := run_region
def c5_14 : AC := .ret
theorem n5_14 : Run Cx 5 T [] none (.code c5_14 :: k) H Q = RunRes Cx T H Q (resOf Cx 5) := run_ret
def c5_12 : AC := .seq c5_13 c5_14
theorem n5_12 : Run Cx 5 T ds ro (.code c5_12 :: k) H Q = Run Cx 5 T ds ro (.code c5_13 :: .code c5_14 :: k) H Q := run_seq
def c5_10 : AC := .seq c5_11 c5_12
theorem n5_10 : Run Cx 5 T ds ro (.code c5_10 :: k) H Q = Run Cx 5 T ds ro (.code c5_11 :: .code c5_12 :: k) H Q := run_seq
def c5_2 : AC := .seq c5_3 c5_10
theorem n5_2 : Run Cx 5 T ds ro (.code c5_2 :: k) H Q = Run Cx 5 T ds ro (.code c5_3 :: .code c5_10 :: k) H Q := run_seq
def c5_0 : AC := .seq c5_1 c5_2
theorem n5_0 : Run Cx 5 T ds ro (.code c5_0 :: k) H Q = Run Cx 5 T ds ro (.code c5_1 :: .code c5_2 :: k) H Q := run_seq
theorem body5 : bodyOf Cx 5 = some c5_0 := by kernel_rfl
theorem res5 : resOf Cx 5 = some [.tmp 4] := by kernel_rfl
theorem pure5 : Cx.pure 5 = true := by kernel_rfl
-- RULES 5: n5_0, n5_1, n5_2, n5_3, n5_4, n5_5, n5_6, n5_7, n5_8, n5_9, n5_10, n5_11, n5_12, n5_13, n5_14
def o6_1 : List AO := [{ dst := (some 2), op := .box 25 (.tmp 0), ty := 0, guard := none },
  { dst := (some 4), op := .assign (.const (.bool false)), ty := 4, guard := none }]
def c6_1 : AC := .region o6_1 []
theorem n6_1 : Run Cx 6 T ds ro (.code c6_1 :: k) H Q = RunOps Cx 6 T ds ro o6_1 k H Q := run_region
def o6_4 : List AO := [{ dst := (some 13), op := .call { callee := (.value (.func 7)), args := #[], argTypes := #[] }, ty := 4, guard := none },
  { dst := (some 14), op := .unOp .not 4 (.tmp 13), ty := 4, guard := none },
  { dst := (some 15), op := .move (.tmp 14), ty := 4, guard := none },
  { dst := (some 16), op := .fieldAddr 25 (.tmp 2) 2, ty := 0, guard := (some (15, false)) },
  { dst := (some 17), op := .load 9 (.tmp 16), ty := 9, guard := (some (15, false)) },
  { dst := (some 18), op := .call { callee := (.builtin .len), args := #[(.tmp 17)], argTypes := #[9] }, ty := 3, guard := (some (15, false)) },
  { dst := (some 19), op := .binOp .gtr 3 (.tmp 18) (.const (.int .i64 6000)) 3, ty := 4, guard := (some (15, false)) },
  { dst := (some 20), op := .pick (.tmp 15) (.const (.bool true)) (.tmp 19), ty := 4, guard := none },
  { dst := (some 21), op := .move (.tmp 20), ty := 4, guard := none },
  { dst := (some 22), op := .move (.tmp 1), ty := 9, guard := (some (21, false)) },
  { dst := (some 23), op := .call { callee := (.builtin .len), args := #[(.tmp 22)], argTypes := #[9] }, ty := 3, guard := (some (21, false)) },
  { dst := (some 24), op := .binOp .gtr 3 (.tmp 23) (.const (.int .i64 6000)) 3, ty := 4, guard := (some (21, false)) },
  { dst := (some 25), op := .pick (.tmp 21) (.const (.bool true)) (.tmp 24), ty := 4, guard := none },
  { dst := (some 26), op := .move (.tmp 25), ty := 4, guard := none },
  { dst := (some 27), op := .load 25 (.tmp 2), ty := 25, guard := (some (26, false)) },
  { dst := (some 28), op := .call { callee := (.value (.func 8)), args := #[(.tmp 27)], argTypes := #[25] }, ty := 4, guard := (some (26, false)) },
  { dst := (some 29), op := .unOp .not 4 (.tmp 28), ty := 4, guard := (some (26, false)) },
  { dst := (some 30), op := .pick (.tmp 26) (.const (.bool true)) (.tmp 29), ty := 4, guard := none }]
def c6_4 : AC := .region o6_4 []
theorem n6_4 : Run Cx 6 T ds ro (.code c6_4 :: k) H Q = RunOps Cx 6 T ds ro o6_4 k H Q := run_region
def o6_7 : List AO := [{ dst := (some 31), op := .call { callee := (.value (.func 7)), args := #[], argTypes := #[] }, ty := 4, guard := none },
  { dst := (some 4), op := .assign (.tmp 31), ty := 4, guard := none }]
def c6_7 : AC := .region o6_7 []
theorem n6_7 : Run Cx 6 T ds ro (.code c6_7 :: k) H Q = RunOps Cx 6 T ds ro o6_7 k H Q := run_region
def c6_8 : AC := .ret
theorem n6_8 : Run Cx 6 T [] none (.code c6_8 :: k) H Q = RunRes Cx T H Q (resOf Cx 6) := run_ret
def c6_6 : AC := .seq c6_7 c6_8
theorem n6_6 : Run Cx 6 T ds ro (.code c6_6 :: k) H Q = Run Cx 6 T ds ro (.code c6_7 :: .code c6_8 :: k) H Q := run_seq
def c6_9 : AC := .skip
theorem n6_9 : Run Cx 6 T ds ro (.code c6_9 :: k) H Q = Run Cx 6 T ds ro (k) H Q := run_skip
def c6_5 : AC := .cond (.tmp 30) c6_6 c6_9
theorem n6_5 : Run Cx 6 T ds ro (.code c6_5 :: k) H Q = RunCond Cx 6 T ds ro (.tmp 30) (ev T (.tmp 30)) c6_6 c6_9 k H Q := run_condC
def c6_3 : AC := .seq c6_4 c6_5
theorem n6_3 : Run Cx 6 T ds ro (.code c6_3 :: k) H Q = Run Cx 6 T ds ro (.code c6_4 :: .code c6_5 :: k) H Q := run_seq
def o6_11 : List AO := [{ dst := (some 32), op := .load 25 (.tmp 2), ty := 25, guard := none },
  { dst := (some 33), op := .call { callee := (.value (.func 11)), args := #[(.tmp 32)], argTypes := #[25] }, ty := 9, guard := none },
  { dst := (some 5), op := .assign (.tmp 33), ty := 9, guard := none }]
def c6_11 : AC := .region o6_11 []
theorem n6_11 : Run Cx 6 T ds ro (.code c6_11 :: k) H Q = RunOps Cx 6 T ds ro o6_11 k H Q := run_region
def o6_13 : List AO := [{ dst := (some 34), op := .move (.tmp 5), ty := 9, guard := none },
  { dst := (some 35), op := .move (.tmp 1), ty := 9, guard := none },
  { dst := (some 36), op := .binOp .add 9 (.tmp 34) (.tmp 35) 9, ty := 9, guard := none },
  { dst := (some 37), op := .call { callee := (.value (.func 16)), args := #[(.tmp 36)], argTypes := #[9] }, ty := 32, guard := none },
  { dst := (some 6), op := .assign (.tmp 37), ty := 32, guard := none }]
def c6_13 : AC := .region o6_13 []
theorem n6_13 : Run Cx 6 T ds ro (.code c6_13 :: k) H Q = RunOps Cx 6 T ds ro o6_13 k H Q := run_region
def o6_15 : List AO := [{ dst := (some 39), op := .move (.tmp 6), ty := 32, guard := none },
  { dst := (some 40), op := .call { callee := (.value (.func 17)), args := #[(.tmp 39)], argTypes := #[32] }, ty := 35, guard := none },
  { dst := (some 38), op := .move (.tmp 40), ty := 35, guard := none },
  { dst := (some 41), op := .extract (.tmp 38) 0, ty := 25, guard := none },
  { dst := (some 42), op := .extract (.tmp 38) 1, ty := 34, guard := none },
  { dst := (some 7), op := .alloc 25, ty := 0, guard := none },
  { dst := none, op := .store 25 (.tmp 7) (.tmp 41), ty := 0, guard := none },
  { dst := (some 8), op := .assign (.tmp 42), ty := 34, guard := none }]
def c6_15 : AC := .region o6_15 []
theorem n6_15 : Run Cx 6 T ds ro (.code c6_15 :: k) H Q = RunOps Cx 6 T ds ro o6_15 k H Q := run_region
def o6_17 : List AO := [{ dst := (some 43), op := .load 25 (.tmp 2), ty := 25, guard := none },
  { dst := (some 44), op := .call { callee := (.value (.func 12)), args := #[(.tmp 43)], argTypes := #[25] }, ty := 9, guard := none },
  { dst := (some 9), op := .assign (.tmp 44), ty := 9, guard := none }]
def c6_17 : AC := .region o6_17 []
theorem n6_17 : Run Cx 6 T ds ro (.code c6_17 :: k) H Q = RunOps Cx 6 T ds ro o6_17 k H Q := run_region
def o6_19 : List AO := [{ dst := (some 46), op := .move (.tmp 9), ty := 9, guard := none },
  { dst := (some 47), op := .binOp .add 9 (.tmp 46) (.const (.string ⟨#[32]⟩)) 9, ty := 9, guard := none },
  { dst := (some 48), op := .move (.tmp 1), ty := 9, guard := none },
  { dst := (some 49), op := .binOp .add 9 (.tmp 47) (.tmp 48) 9, ty := 9, guard := none },
  { dst := (some 50), op := .call { callee := (.value (.func 18)), args := #[(.tmp 49)], argTypes := #[9] }, ty := 37, guard := none },
  { dst := (some 45), op := .move (.tmp 50), ty := 37, guard := none },
  { dst := (some 51), op := .extract (.tmp 45) 0, ty := 25, guard := none },
  { dst := (some 52), op := .extract (.tmp 45) 1, ty := 3, guard := none },
  { dst := (some 53), op := .extract (.tmp 45) 2, ty := 34, guard := none },
  { dst := (some 10), op := .alloc 25, ty := 0, guard := none },
  { dst := none, op := .store 25 (.tmp 10) (.tmp 51), ty := 0, guard := none },
  { dst := (some 11), op := .assign (.tmp 52), ty := 3, guard := none },
  { dst := (some 12), op := .assign (.tmp 53), ty := 34, guard := none }]
def c6_19 : AC := .region o6_19 []
theorem n6_19 : Run Cx 6 T ds ro (.code c6_19 :: k) H Q = RunOps Cx 6 T ds ro o6_19 k H Q := run_region
def o6_21 : List AO := [{ dst := (some 54), op := .move (.tmp 8), ty := 34, guard := none },
  { dst := (some 55), op := .binOp .eql 34 (.tmp 54) (.const (.int .i64 0)) 34, ty := 4, guard := none },
  { dst := (some 56), op := .move (.tmp 55), ty := 4, guard := none },
  { dst := (some 57), op := .load 25 (.tmp 7), ty := 25, guard := (some (56, true)) },
  { dst := (some 58), op := .load 25 (.tmp 2), ty := 25, guard := (some (56, true)) },
  { dst := (some 59), op := .binOp .eql 25 (.tmp 57) (.tmp 58) 25, ty := 4, guard := (some (56, true)) },
  { dst := (some 60), op := .pick (.tmp 56) (.tmp 59) (.const (.bool false)), ty := 4, guard := none },
  { dst := (some 61), op := .move (.tmp 60), ty := 4, guard := none },
  { dst := (some 62), op := .move (.tmp 6), ty := 32, guard := (some (61, true)) },
  { dst := (some 63), op := .call { callee := (.value (.func 19)), args := #[(.tmp 62)], argTypes := #[32] }, ty := 3, guard := (some (61, true)) },
  { dst := (some 64), op := .move (.tmp 1), ty := 9, guard := (some (61, true)) },
  { dst := (some 65), op := .call { callee := (.builtin .len), args := #[(.tmp 64)], argTypes := #[9] }, ty := 3, guard := (some (61, true)) },
  { dst := (some 66), op := .binOp .eql 3 (.tmp 63) (.tmp 65) 3, ty := 4, guard := (some (61, true)) },
  { dst := (some 67), op := .pick (.tmp 61) (.tmp 66) (.const (.bool false)), ty := 4, guard := none },
  { dst := (some 68), op := .move (.tmp 67), ty := 4, guard := none },
  { dst := (some 69), op := .move (.tmp 12), ty := 34, guard := (some (68, true)) },
  { dst := (some 70), op := .binOp .eql 34 (.tmp 69) (.const (.int .i64 0)) 34, ty := 4, guard := (some (68, true)) },
  { dst := (some 71), op := .pick (.tmp 68) (.tmp 70) (.const (.bool false)), ty := 4, guard := none },
  { dst := (some 72), op := .move (.tmp 71), ty := 4, guard := none },
  { dst := (some 73), op := .load 25 (.tmp 10), ty := 25, guard := (some (72, true)) },
  { dst := (some 74), op := .load 25 (.tmp 2), ty := 25, guard := (some (72, true)) },
  { dst := (some 75), op := .binOp .eql 25 (.tmp 73) (.tmp 74) 25, ty := 4, guard := (some (72, true)) },
  { dst := (some 76), op := .pick (.tmp 72) (.tmp 75) (.const (.bool false)), ty := 4, guard := none },
  { dst := (some 77), op := .move (.tmp 76), ty := 4, guard := none },
  { dst := (some 78), op := .move (.tmp 11), ty := 3, guard := (some (77, true)) },
  { dst := (some 79), op := .move (.tmp 9), ty := 9, guard := (some (77, true)) },
  { dst := (some 80), op := .call { callee := (.builtin .len), args := #[(.tmp 79)], argTypes := #[9] }, ty := 3, guard := (some (77, true)) },
  { dst := (some 81), op := .binOp .eql 3 (.tmp 78) (.tmp 80) 3, ty := 4, guard := (some (77, true)) },
  { dst := (some 82), op := .pick (.tmp 77) (.tmp 81) (.const (.bool false)), ty := 4, guard := none },
  { dst := (some 4), op := .assign (.tmp 82), ty := 4, guard := none }]
def c6_21 : AC := .region o6_21 []
theorem n6_21 : Run Cx 6 T ds ro (.code c6_21 :: k) H Q = RunOps Cx 6 T ds ro o6_21 k H Q := run_region
def c6_22 : AC := .ret
theorem n6_22 : Run Cx 6 T [] none (.code c6_22 :: k) H Q = RunRes Cx T H Q (resOf Cx 6) := run_ret
def c6_20 : AC := .seq c6_21 c6_22
theorem n6_20 : Run Cx 6 T ds ro (.code c6_20 :: k) H Q = Run Cx 6 T ds ro (.code c6_21 :: .code c6_22 :: k) H Q := run_seq
def c6_18 : AC := .seq c6_19 c6_20
theorem n6_18 : Run Cx 6 T ds ro (.code c6_18 :: k) H Q = Run Cx 6 T ds ro (.code c6_19 :: .code c6_20 :: k) H Q := run_seq
def c6_16 : AC := .seq c6_17 c6_18
theorem n6_16 : Run Cx 6 T ds ro (.code c6_16 :: k) H Q = Run Cx 6 T ds ro (.code c6_17 :: .code c6_18 :: k) H Q := run_seq
def c6_14 : AC := .seq c6_15 c6_16
theorem n6_14 : Run Cx 6 T ds ro (.code c6_14 :: k) H Q = Run Cx 6 T ds ro (.code c6_15 :: .code c6_16 :: k) H Q := run_seq
def c6_12 : AC := .seq c6_13 c6_14
theorem n6_12 : Run Cx 6 T ds ro (.code c6_12 :: k) H Q = Run Cx 6 T ds ro (.code c6_13 :: .code c6_14 :: k) H Q := run_seq
def c6_10 : AC := .seq c6_11 c6_12
theorem n6_10 : Run Cx 6 T ds ro (.code c6_10 :: k) H Q = Run Cx 6 T ds ro (.code c6_11 :: .code c6_12 :: k) H Q := run_seq
def c6_2 : AC := .seq c6_3 c6_10
theorem n6_2 : Run Cx 6 T ds ro (.code c6_2 :: k) H Q = Run Cx 6 T ds ro (.code c6_3 :: .code c6_10 :: k) H Q := run_seq
def c6_0 : AC := .seq c6_1 c6_2
theorem n6_0 : Run Cx 6 T ds ro (.code c6_0 :: k) H Q = Run Cx 6 T ds ro (.code c6_1 :: .code c6_2 :: k) H Q := run_seq
theorem body6 : bodyOf Cx 6 = some c6_0 := by kernel_rfl
theorem res6 : resOf Cx 6 = some [.tmp 4] := by kernel_rfl
theorem pure6 : Cx.pure 6 = true := by kernel_rfl
-- RULES 6: n6_0, n6_1, n6_2, n6_3, n6_4, n6_5, n6_6, n6_7, n6_8, n6_9, n6_10, n6_11, n6_12, n6_13, n6_14, n6_15, n6_16, n6_17, n6_18, n6_19, n6_20, n6_21, n6_22
def o8_1 : List AO := [{ dst := (some 1), op := .box 25 (.tmp 0), ty := 0, guard := none },
  { dst := (some 2), op := .assign (.const (.bool false)), ty := 4, guard := none }]
def c8_1 : AC := .region o8_1 []
theorem n8_1 : Run Cx 8 T ds ro (.code c8_1 :: k) H Q = RunOps Cx 8 T ds ro o8_1 k H Q := run_region
def o8_3 : List AO := [{ dst := (some 6), op := .fieldAddr 25 (.tmp 1) 1, ty := 0, guard := none },
  { dst := (some 7), op := .load 3 (.tmp 6), ty := 3, guard := none },
  { dst := (some 8), op := .binOp .neq 3 (.tmp 7) (.const (.int .i64 0)) 3, ty := 4, guard := none },
  { dst := (some 9), op := .fieldAddr 25 (.tmp 1) 2, ty := 0, guard := none },
  { dst := (some 10), op := .load 9 (.tmp 9), ty := 9, guard := none },
  { dst := (some 11), op := .binOp .neq 9 (.tmp 10) (.const (.string ⟨#[]⟩)) 9, ty := 4, guard := none },
  { dst := (some 12), op := .fieldAddr 25 (.tmp 1) 3, ty := 0, guard := none },
  { dst := (some 13), op := .load 23 (.tmp 12), ty := 23, guard := none },
  { dst := (some 14), op := .build 23 #[], ty := 23, guard := none },
  { dst := (some 15), op := .binOp .neq 23 (.tmp 13) (.tmp 14) 23, ty := 4, guard := none },
  { dst := (some 3), op := .assign (.tmp 8), ty := 4, guard := none },
  { dst := (some 4), op := .assign (.tmp 11), ty := 4, guard := none },
  { dst := (some 5), op := .assign (.tmp 15), ty := 4, guard := none }]
def c8_3 : AC := .region o8_3 []
theorem n8_3 : Run Cx 8 T ds ro (.code c8_3 :: k) H Q = RunOps Cx 8 T ds ro o8_3 k H Q := run_region
def o8_6 : List AO := [{ dst := (some 16), op := .fieldAddr 25 (.tmp 1) 0, ty := 0, guard := none },
  { dst := (some 17), op := .load 3 (.tmp 16), ty := 3, guard := none }]
def c8_6 : AC := .region o8_6 []
theorem n8_6 : Run Cx 8 T ds ro (.code c8_6 :: k) H Q = RunOps Cx 8 T ds ro o8_6 k H Q := run_region
def o8_9 : List AO := [{ dst := (some 19), op := .binOp .eql 3 (.tmp 17) (.const (.int .i64 0)) 3, ty := 4, guard := none },
  { dst := (some 18), op := .assign (.tmp 19), ty := 4, guard := none }]
def c8_9 : AC := .region o8_9 []
theorem n8_9 : Run Cx 8 T ds ro (.code c8_9 :: k) H Q = RunOps Cx 8 T ds ro o8_9 k H Q := run_region
def o8_12 : List AO := [{ dst := (some 20), op := .fieldAddr 25 (.tmp 1) 1, ty := 0, guard := none },
  { dst := (some 21), op := .load 3 (.tmp 20), ty := 3, guard := none },
  { dst := (some 22), op := .binOp .geq 3 (.tmp 21) (.const (.int .i64 (-9007199254740992))) 3, ty := 4, guard := none },
  { dst := (some 23), op := .move (.tmp 22), ty := 4, guard := none },
  { dst := (some 24), op := .fieldAddr 25 (.tmp 1) 1, ty := 0, guard := (some (23, true)) },
  { dst := (some 25), op := .load 3 (.tmp 24), ty := 3, guard := (some (23, true)) },
  { dst := (some 26), op := .binOp .leq 3 (.tmp 25) (.const (.int .i64 9007199254740992)) 3, ty := 4, guard := (some (23, true)) },
  { dst := (some 27), op := .pick (.tmp 23) (.tmp 26) (.const (.bool false)), ty := 4, guard := none },
  { dst := (some 28), op := .move (.tmp 27), ty := 4, guard := none },
  { dst := (some 29), op := .move (.tmp 4), ty := 4, guard := (some (28, true)) },
  { dst := (some 30), op := .unOp .not 4 (.tmp 29), ty := 4, guard := (some (28, true)) },
  { dst := (some 31), op := .pick (.tmp 28) (.tmp 30) (.const (.bool false)), ty := 4, guard := none },
  { dst := (some 32), op := .move (.tmp 31), ty := 4, guard := none },
  { dst := (some 33), op := .move (.tmp 5), ty := 4, guard := (some (32, true)) },
  { dst := (some 34), op := .unOp .not 4 (.tmp 33), ty := 4, guard := (some (32, true)) },
  { dst := (some 35), op := .pick (.tmp 32) (.tmp 34) (.const (.bool false)), ty := 4, guard := none },
  { dst := (some 2), op := .assign (.tmp 35), ty := 4, guard := none }]
def c8_12 : AC := .region o8_12 []
theorem n8_12 : Run Cx 8 T ds ro (.code c8_12 :: k) H Q = RunOps Cx 8 T ds ro o8_12 k H Q := run_region
def c8_13 : AC := .ret
theorem n8_13 : Run Cx 8 T [] none (.code c8_13 :: k) H Q = RunRes Cx T H Q (resOf Cx 8) := run_ret
def c8_11 : AC := .seq c8_12 c8_13
theorem n8_11 : Run Cx 8 T ds ro (.code c8_11 :: k) H Q = Run Cx 8 T ds ro (.code c8_12 :: .code c8_13 :: k) H Q := run_seq
def o8_15 : List AO := [{ dst := (some 37), op := .binOp .eql 3 (.tmp 17) (.const (.int .i64 1)) 3, ty := 4, guard := none },
  { dst := (some 36), op := .assign (.tmp 37), ty := 4, guard := none }]
def c8_15 : AC := .region o8_15 []
theorem n8_15 : Run Cx 8 T ds ro (.code c8_15 :: k) H Q = RunOps Cx 8 T ds ro o8_15 k H Q := run_region
def o8_18 : List AO := [{ dst := (some 38), op := .fieldAddr 25 (.tmp 1) 2, ty := 0, guard := none },
  { dst := (some 39), op := .load 9 (.tmp 38), ty := 9, guard := none },
  { dst := (some 40), op := .call { callee := (.builtin .len), args := #[(.tmp 39)], argTypes := #[9] }, ty := 3, guard := none },
  { dst := (some 41), op := .binOp .leq 3 (.tmp 40) (.const (.int .i64 4096)) 3, ty := 4, guard := none },
  { dst := (some 42), op := .move (.tmp 41), ty := 4, guard := none },
  { dst := (some 43), op := .move (.tmp 3), ty := 4, guard := (some (42, true)) },
  { dst := (some 44), op := .unOp .not 4 (.tmp 43), ty := 4, guard := (some (42, true)) },
  { dst := (some 45), op := .pick (.tmp 42) (.tmp 44) (.const (.bool false)), ty := 4, guard := none },
  { dst := (some 46), op := .move (.tmp 45), ty := 4, guard := none },
  { dst := (some 47), op := .move (.tmp 5), ty := 4, guard := (some (46, true)) },
  { dst := (some 48), op := .unOp .not 4 (.tmp 47), ty := 4, guard := (some (46, true)) },
  { dst := (some 49), op := .pick (.tmp 46) (.tmp 48) (.const (.bool false)), ty := 4, guard := none },
  { dst := (some 2), op := .assign (.tmp 49), ty := 4, guard := none }]
def c8_18 : AC := .region o8_18 []
theorem n8_18 : Run Cx 8 T ds ro (.code c8_18 :: k) H Q = RunOps Cx 8 T ds ro o8_18 k H Q := run_region
def c8_19 : AC := .ret
theorem n8_19 : Run Cx 8 T [] none (.code c8_19 :: k) H Q = RunRes Cx T H Q (resOf Cx 8) := run_ret
def c8_17 : AC := .seq c8_18 c8_19
theorem n8_17 : Run Cx 8 T ds ro (.code c8_17 :: k) H Q = Run Cx 8 T ds ro (.code c8_18 :: .code c8_19 :: k) H Q := run_seq
def o8_21 : List AO := [{ dst := (some 51), op := .binOp .eql 3 (.tmp 17) (.const (.int .i64 2)) 3, ty := 4, guard := none },
  { dst := (some 50), op := .assign (.tmp 51), ty := 4, guard := none }]
def c8_21 : AC := .region o8_21 []
theorem n8_21 : Run Cx 8 T ds ro (.code c8_21 :: k) H Q = RunOps Cx 8 T ds ro o8_21 k H Q := run_region
def o8_24 : List AO := [{ dst := (some 52), op := .fieldAddr 25 (.tmp 1) 3, ty := 0, guard := none },
  { dst := (some 53), op := .load 23 (.tmp 52), ty := 23, guard := none },
  { dst := (some 54), op := .call { callee := (.value (.func 20)), args := #[(.tmp 53)], argTypes := #[23] }, ty := 4, guard := none },
  { dst := (some 55), op := .move (.tmp 54), ty := 4, guard := none },
  { dst := (some 56), op := .move (.tmp 3), ty := 4, guard := (some (55, true)) },
  { dst := (some 57), op := .unOp .not 4 (.tmp 56), ty := 4, guard := (some (55, true)) },
  { dst := (some 58), op := .pick (.tmp 55) (.tmp 57) (.const (.bool false)), ty := 4, guard := none },
  { dst := (some 59), op := .move (.tmp 58), ty := 4, guard := none },
  { dst := (some 60), op := .move (.tmp 4), ty := 4, guard := (some (59, true)) },
  { dst := (some 61), op := .unOp .not 4 (.tmp 60), ty := 4, guard := (some (59, true)) },
  { dst := (some 62), op := .pick (.tmp 59) (.tmp 61) (.const (.bool false)), ty := 4, guard := none },
  { dst := (some 2), op := .assign (.tmp 62), ty := 4, guard := none }]
def c8_24 : AC := .region o8_24 []
theorem n8_24 : Run Cx 8 T ds ro (.code c8_24 :: k) H Q = RunOps Cx 8 T ds ro o8_24 k H Q := run_region
def c8_25 : AC := .ret
theorem n8_25 : Run Cx 8 T [] none (.code c8_25 :: k) H Q = RunRes Cx T H Q (resOf Cx 8) := run_ret
def c8_23 : AC := .seq c8_24 c8_25
theorem n8_23 : Run Cx 8 T ds ro (.code c8_23 :: k) H Q = Run Cx 8 T ds ro (.code c8_24 :: .code c8_25 :: k) H Q := run_seq
def c8_26 : AC := .skip
theorem n8_26 : Run Cx 8 T ds ro (.code c8_26 :: k) H Q = Run Cx 8 T ds ro (k) H Q := run_skip
def c8_22 : AC := .cond (.tmp 50) c8_23 c8_26
theorem n8_22 : Run Cx 8 T ds ro (.code c8_22 :: k) H Q = RunCond Cx 8 T ds ro (.tmp 50) (ev T (.tmp 50)) c8_23 c8_26 k H Q := run_condC
def c8_20 : AC := .seq c8_21 c8_22
theorem n8_20 : Run Cx 8 T ds ro (.code c8_20 :: k) H Q = Run Cx 8 T ds ro (.code c8_21 :: .code c8_22 :: k) H Q := run_seq
def c8_16 : AC := .cond (.tmp 36) c8_17 c8_20
theorem n8_16 : Run Cx 8 T ds ro (.code c8_16 :: k) H Q = RunCond Cx 8 T ds ro (.tmp 36) (ev T (.tmp 36)) c8_17 c8_20 k H Q := run_condC
def c8_14 : AC := .seq c8_15 c8_16
theorem n8_14 : Run Cx 8 T ds ro (.code c8_14 :: k) H Q = Run Cx 8 T ds ro (.code c8_15 :: .code c8_16 :: k) H Q := run_seq
def c8_10 : AC := .cond (.tmp 18) c8_11 c8_14
theorem n8_10 : Run Cx 8 T ds ro (.code c8_10 :: k) H Q = RunCond Cx 8 T ds ro (.tmp 18) (ev T (.tmp 18)) c8_11 c8_14 k H Q := run_condC
def c8_8 : AC := .seq c8_9 c8_10
theorem n8_8 : Run Cx 8 T ds ro (.code c8_8 :: k) H Q = Run Cx 8 T ds ro (.code c8_9 :: .code c8_10 :: k) H Q := run_seq
def c8_7 : AC := .block 0 c8_8
theorem n8_7 : Run Cx 8 T ds ro (.code c8_7 :: k) H Q = Run Cx 8 T ds ro (.code c8_8 :: .inBlock 0 :: k) H Q := run_block
def c8_5 : AC := .seq c8_6 c8_7
theorem n8_5 : Run Cx 8 T ds ro (.code c8_5 :: k) H Q = Run Cx 8 T ds ro (.code c8_6 :: .code c8_7 :: k) H Q := run_seq
def o8_28 : List AO := [{ dst := (some 2), op := .assign (.const (.bool false)), ty := 4, guard := none }]
def c8_28 : AC := .region o8_28 []
theorem n8_28 : Run Cx 8 T ds ro (.code c8_28 :: k) H Q = RunOps Cx 8 T ds ro o8_28 k H Q := run_region
def c8_29 : AC := .ret
theorem n8_29 : Run Cx 8 T [] none (.code c8_29 :: k) H Q = RunRes Cx T H Q (resOf Cx 8) := run_ret
def c8_27 : AC := .seq c8_28 c8_29
theorem n8_27 : Run Cx 8 T ds ro (.code c8_27 :: k) H Q = Run Cx 8 T ds ro (.code c8_28 :: .code c8_29 :: k) H Q := run_seq
def c8_4 : AC := .seq c8_5 c8_27
theorem n8_4 : Run Cx 8 T ds ro (.code c8_4 :: k) H Q = Run Cx 8 T ds ro (.code c8_5 :: .code c8_27 :: k) H Q := run_seq
def c8_2 : AC := .seq c8_3 c8_4
theorem n8_2 : Run Cx 8 T ds ro (.code c8_2 :: k) H Q = Run Cx 8 T ds ro (.code c8_3 :: .code c8_4 :: k) H Q := run_seq
def c8_0 : AC := .seq c8_1 c8_2
theorem n8_0 : Run Cx 8 T ds ro (.code c8_0 :: k) H Q = Run Cx 8 T ds ro (.code c8_1 :: .code c8_2 :: k) H Q := run_seq
theorem body8 : bodyOf Cx 8 = some c8_0 := by kernel_rfl
theorem res8 : resOf Cx 8 = some [.tmp 2] := by kernel_rfl
theorem pure8 : Cx.pure 8 = true := by kernel_rfl
-- RULES 8: n8_0, n8_1, n8_2, n8_3, n8_4, n8_5, n8_6, n8_7, n8_8, n8_9, n8_10, n8_11, n8_12, n8_13, n8_14, n8_15, n8_16, n8_17, n8_18, n8_19, n8_20, n8_21, n8_22, n8_23, n8_24, n8_25, n8_26, n8_27, n8_28, n8_29
def o9_1 : List AO := [{ dst := (some 2), op := .box 25 (.tmp 0), ty := 0, guard := none },
  { dst := (some 3), op := .box 25 (.tmp 1), ty := 0, guard := none },
  { dst := (some 4), op := .assign (.const (.int .i64 0)), ty := 3, guard := none }]
def c9_1 : AC := .region o9_1 []
theorem n9_1 : Run Cx 9 T ds ro (.code c9_1 :: k) H Q = RunOps Cx 9 T ds ro o9_1 k H Q := run_region
def o9_3 : List AO := [{ dst := (some 5), op := .fieldAddr 25 (.tmp 2) 0, ty := 0, guard := none },
  { dst := (some 6), op := .load 3 (.tmp 5), ty := 3, guard := none },
  { dst := (some 7), op := .fieldAddr 25 (.tmp 3) 0, ty := 0, guard := none },
  { dst := (some 8), op := .load 3 (.tmp 7), ty := 3, guard := none },
  { dst := (some 9), op := .call { callee := (.value (.func 22)), args := #[(.tmp 6), (.tmp 8)], argTypes := #[3, 3] }, ty := 3, guard := none },
  { dst := (some 10), op := .fieldAddr 25 (.tmp 2) 1, ty := 0, guard := none },
  { dst := (some 11), op := .load 3 (.tmp 10), ty := 3, guard := none },
  { dst := (some 12), op := .fieldAddr 25 (.tmp 3) 1, ty := 0, guard := none },
  { dst := (some 13), op := .load 3 (.tmp 12), ty := 3, guard := none },
  { dst := (some 14), op := .call { callee := (.value (.func 22)), args := #[(.tmp 11), (.tmp 13)], argTypes := #[3, 3] }, ty := 3, guard := none },
  { dst := (some 15), op := .fieldAddr 25 (.tmp 2) 2, ty := 0, guard := none },
  { dst := (some 16), op := .load 9 (.tmp 15), ty := 9, guard := none },
  { dst := (some 17), op := .fieldAddr 25 (.tmp 3) 2, ty := 0, guard := none },
  { dst := (some 18), op := .load 9 (.tmp 17), ty := 9, guard := none },
  { dst := (some 19), op := .call { callee := (.value (.func 23)), args := #[(.tmp 16), (.tmp 18)], argTypes := #[9, 9] }, ty := 3, guard := none },
  { dst := (some 20), op := .fieldAddr 25 (.tmp 2) 3, ty := 0, guard := none },
  { dst := (some 21), op := .fieldAddr 23 (.tmp 20) 0, ty := 0, guard := none },
  { dst := (some 22), op := .load 3 (.tmp 21), ty := 3, guard := none },
  { dst := (some 23), op := .fieldAddr 25 (.tmp 3) 3, ty := 0, guard := none },
  { dst := (some 24), op := .fieldAddr 23 (.tmp 23) 0, ty := 0, guard := none },
  { dst := (some 25), op := .load 3 (.tmp 24), ty := 3, guard := none },
  { dst := (some 26), op := .call { callee := (.value (.func 22)), args := #[(.tmp 22), (.tmp 25)], argTypes := #[3, 3] }, ty := 3, guard := none },
  { dst := (some 27), op := .fieldAddr 25 (.tmp 2) 3, ty := 0, guard := none },
  { dst := (some 28), op := .fieldAddr 23 (.tmp 27) 1, ty := 0, guard := none },
  { dst := (some 29), op := .load 3 (.tmp 28), ty := 3, guard := none },
  { dst := (some 30), op := .fieldAddr 25 (.tmp 3) 3, ty := 0, guard := none },
  { dst := (some 31), op := .fieldAddr 23 (.tmp 30) 1, ty := 0, guard := none },
  { dst := (some 32), op := .load 3 (.tmp 31), ty := 3, guard := none },
  { dst := (some 33), op := .call { callee := (.value (.func 22)), args := #[(.tmp 29), (.tmp 32)], argTypes := #[3, 3] }, ty := 3, guard := none },
  { dst := (some 34), op := .buildSlice 57 5 #[(0, (.tmp 9)), (1, (.tmp 14)), (2, (.tmp 19)), (3, (.tmp 26)), (4, (.tmp 33))], ty := 57, guard := none },
  { dst := (some 35), op := .call { callee := (.value (.func 21)), args := #[(.tmp 34)], argTypes := #[57] }, ty := 3, guard := none },
  { dst := (some 4), op := .assign (.tmp 35), ty := 3, guard := none }]
def c9_3 : AC := .region o9_3 []
theorem n9_3 : Run Cx 9 T ds ro (.code c9_3 :: k) H Q = RunOps Cx 9 T ds ro o9_3 k H Q := run_region
def c9_4 : AC := .ret
theorem n9_4 : Run Cx 9 T [] none (.code c9_4 :: k) H Q = RunRes Cx T H Q (resOf Cx 9) := run_ret
def c9_2 : AC := .seq c9_3 c9_4
theorem n9_2 : Run Cx 9 T ds ro (.code c9_2 :: k) H Q = Run Cx 9 T ds ro (.code c9_3 :: .code c9_4 :: k) H Q := run_seq
def c9_0 : AC := .seq c9_1 c9_2
theorem n9_0 : Run Cx 9 T ds ro (.code c9_0 :: k) H Q = Run Cx 9 T ds ro (.code c9_1 :: .code c9_2 :: k) H Q := run_seq
theorem body9 : bodyOf Cx 9 = some c9_0 := by kernel_rfl
theorem res9 : resOf Cx 9 = some [.tmp 4] := by kernel_rfl
theorem pure9 : Cx.pure 9 = true := by kernel_rfl
-- RULES 9: n9_0, n9_1, n9_2, n9_3, n9_4
def o10_1 : List AO := [{ dst := (some 1), op := .box 25 (.tmp 0), ty := 0, guard := none },
  { dst := (some 2), op := .assign (.const (.bool false)), ty := 4, guard := none }]
def c10_1 : AC := .region o10_1 []
theorem n10_1 : Run Cx 10 T ds ro (.code c10_1 :: k) H Q = RunOps Cx 10 T ds ro o10_1 k H Q := run_region
def o10_4 : List AO := [{ dst := (some 3), op := .fieldAddr 25 (.tmp 1) 0, ty := 0, guard := none },
  { dst := (some 4), op := .load 3 (.tmp 3), ty := 3, guard := none }]
def c10_4 : AC := .region o10_4 []
theorem n10_4 : Run Cx 10 T ds ro (.code c10_4 :: k) H Q = RunOps Cx 10 T ds ro o10_4 k H Q := run_region
def o10_7 : List AO := [{ dst := (some 6), op := .binOp .eql 3 (.tmp 4) (.const (.int .i64 0)) 3, ty := 4, guard := none },
  { dst := (some 5), op := .assign (.tmp 6), ty := 4, guard := none }]
def c10_7 : AC := .region o10_7 []
theorem n10_7 : Run Cx 10 T ds ro (.code c10_7 :: k) H Q = RunOps Cx 10 T ds ro o10_7 k H Q := run_region
def o10_10 : List AO := [{ dst := (some 7), op := .fieldAddr 25 (.tmp 1) 1, ty := 0, guard := none },
  { dst := (some 8), op := .load 3 (.tmp 7), ty := 3, guard := none },
  { dst := (some 9), op := .binOp .geq 3 (.tmp 8) (.const (.int .i64 (-9007199254740992))) 3, ty := 4, guard := none },
  { dst := (some 10), op := .move (.tmp 9), ty := 4, guard := none },
  { dst := (some 11), op := .fieldAddr 25 (.tmp 1) 1, ty := 0, guard := (some (10, true)) },
  { dst := (some 12), op := .load 3 (.tmp 11), ty := 3, guard := (some (10, true)) },
  { dst := (some 13), op := .binOp .leq 3 (.tmp 12) (.const (.int .i64 9007199254740992)) 3, ty := 4, guard := (some (10, true)) },
  { dst := (some 14), op := .pick (.tmp 10) (.tmp 13) (.const (.bool false)), ty := 4, guard := none },
  { dst := (some 15), op := .move (.tmp 14), ty := 4, guard := none },
  { dst := (some 16), op := .fieldAddr 25 (.tmp 1) 2, ty := 0, guard := (some (15, true)) },
  { dst := (some 17), op := .load 9 (.tmp 16), ty := 9, guard := (some (15, true)) },
  { dst := (some 18), op := .binOp .eql 9 (.tmp 17) (.const (.string ⟨#[]⟩)) 9, ty := 4, guard := (some (15, true)) },
  { dst := (some 19), op := .pick (.tmp 15) (.tmp 18) (.const (.bool false)), ty := 4, guard := none },
  { dst := (some 20), op := .move (.tmp 19), ty := 4, guard := none },
  { dst := (some 21), op := .fieldAddr 25 (.tmp 1) 3, ty := 0, guard := (some (20, true)) },
  { dst := (some 22), op := .load 23 (.tmp 21), ty := 23, guard := (some (20, true)) },
  { dst := (some 23), op := .build 23 #[], ty := 23, guard := (some (20, true)) },
  { dst := (some 24), op := .binOp .eql 23 (.tmp 22) (.tmp 23) 23, ty := 4, guard := (some (20, true)) },
  { dst := (some 25), op := .pick (.tmp 20) (.tmp 24) (.const (.bool false)), ty := 4, guard := none },
  { dst := (some 2), op := .assign (.tmp 25), ty := 4, guard := none }]
def c10_10 : AC := .region o10_10 []
theorem n10_10 : Run Cx 10 T ds ro (.code c10_10 :: k) H Q = RunOps Cx 10 T ds ro o10_10 k H Q := run_region
def c10_11 : AC := .ret
theorem n10_11 : Run Cx 10 T [] none (.code c10_11 :: k) H Q = RunRes Cx T H Q (resOf Cx 10) := run_ret
def c10_9 : AC := .seq c10_10 c10_11
theorem n10_9 : Run Cx 10 T ds ro (.code c10_9 :: k) H Q = Run Cx 10 T ds ro (.code c10_10 :: .code c10_11 :: k) H Q := run_seq
def o10_13 : List AO := [{ dst := (some 27), op := .binOp .eql 3 (.tmp 4) (.const (.int .i64 1)) 3, ty := 4, guard := none },
  { dst := (some 26), op := .assign (.tmp 27), ty := 4, guard := none }]
def c10_13 : AC := .region o10_13 []
theorem n10_13 : Run Cx 10 T ds ro (.code c10_13 :: k) H Q = RunOps Cx 10 T ds ro o10_13 k H Q := run_region
def o10_16 : List AO := [{ dst := (some 28), op := .fieldAddr 25 (.tmp 1) 2, ty := 0, guard := none },
  { dst := (some 29), op := .load 9 (.tmp 28), ty := 9, guard := none },
  { dst := (some 30), op := .call { callee := (.builtin .len), args := #[(.tmp 29)], argTypes := #[9] }, ty := 3, guard := none },
  { dst := (some 31), op := .binOp .leq 3 (.tmp 30) (.const (.int .i64 4096)) 3, ty := 4, guard := none },
  { dst := (some 32), op := .move (.tmp 31), ty := 4, guard := none },
  { dst := (some 33), op := .fieldAddr 25 (.tmp 1) 1, ty := 0, guard := (some (32, true)) },
  { dst := (some 34), op := .load 3 (.tmp 33), ty := 3, guard := (some (32, true)) },
  { dst := (some 35), op := .binOp .eql 3 (.tmp 34) (.const (.int .i64 0)) 3, ty := 4, guard := (some (32, true)) },
  { dst := (some 36), op := .pick (.tmp 32) (.tmp 35) (.const (.bool false)), ty := 4, guard := none },
  { dst := (some 37), op := .move (.tmp 36), ty := 4, guard := none },
  { dst := (some 38), op := .fieldAddr 25 (.tmp 1) 3, ty := 0, guard := (some (37, true)) },
  { dst := (some 39), op := .load 23 (.tmp 38), ty := 23, guard := (some (37, true)) },
  { dst := (some 40), op := .build 23 #[], ty := 23, guard := (some (37, true)) },
  { dst := (some 41), op := .binOp .eql 23 (.tmp 39) (.tmp 40) 23, ty := 4, guard := (some (37, true)) },
  { dst := (some 42), op := .pick (.tmp 37) (.tmp 41) (.const (.bool false)), ty := 4, guard := none },
  { dst := (some 2), op := .assign (.tmp 42), ty := 4, guard := none }]
def c10_16 : AC := .region o10_16 []
theorem n10_16 : Run Cx 10 T ds ro (.code c10_16 :: k) H Q = RunOps Cx 10 T ds ro o10_16 k H Q := run_region
def c10_17 : AC := .ret
theorem n10_17 : Run Cx 10 T [] none (.code c10_17 :: k) H Q = RunRes Cx T H Q (resOf Cx 10) := run_ret
def c10_15 : AC := .seq c10_16 c10_17
theorem n10_15 : Run Cx 10 T ds ro (.code c10_15 :: k) H Q = Run Cx 10 T ds ro (.code c10_16 :: .code c10_17 :: k) H Q := run_seq
def o10_19 : List AO := [{ dst := (some 44), op := .binOp .eql 3 (.tmp 4) (.const (.int .i64 2)) 3, ty := 4, guard := none },
  { dst := (some 43), op := .assign (.tmp 44), ty := 4, guard := none }]
def c10_19 : AC := .region o10_19 []
theorem n10_19 : Run Cx 10 T ds ro (.code c10_19 :: k) H Q = RunOps Cx 10 T ds ro o10_19 k H Q := run_region
def o10_22 : List AO := [{ dst := (some 45), op := .fieldAddr 25 (.tmp 1) 3, ty := 0, guard := none },
  { dst := (some 46), op := .load 23 (.tmp 45), ty := 23, guard := none },
  { dst := (some 47), op := .call { callee := (.value (.func 24)), args := #[(.tmp 46)], argTypes := #[23] }, ty := 4, guard := none },
  { dst := (some 48), op := .move (.tmp 47), ty := 4, guard := none },
  { dst := (some 49), op := .fieldAddr 25 (.tmp 1) 1, ty := 0, guard := (some (48, true)) },
  { dst := (some 50), op := .load 3 (.tmp 49), ty := 3, guard := (some (48, true)) },
  { dst := (some 51), op := .binOp .eql 3 (.tmp 50) (.const (.int .i64 0)) 3, ty := 4, guard := (some (48, true)) },
  { dst := (some 52), op := .pick (.tmp 48) (.tmp 51) (.const (.bool false)), ty := 4, guard := none },
  { dst := (some 53), op := .move (.tmp 52), ty := 4, guard := none },
  { dst := (some 54), op := .fieldAddr 25 (.tmp 1) 2, ty := 0, guard := (some (53, true)) },
  { dst := (some 55), op := .load 9 (.tmp 54), ty := 9, guard := (some (53, true)) },
  { dst := (some 56), op := .binOp .eql 9 (.tmp 55) (.const (.string ⟨#[]⟩)) 9, ty := 4, guard := (some (53, true)) },
  { dst := (some 57), op := .pick (.tmp 53) (.tmp 56) (.const (.bool false)), ty := 4, guard := none },
  { dst := (some 2), op := .assign (.tmp 57), ty := 4, guard := none }]
def c10_22 : AC := .region o10_22 []
theorem n10_22 : Run Cx 10 T ds ro (.code c10_22 :: k) H Q = RunOps Cx 10 T ds ro o10_22 k H Q := run_region
def c10_23 : AC := .ret
theorem n10_23 : Run Cx 10 T [] none (.code c10_23 :: k) H Q = RunRes Cx T H Q (resOf Cx 10) := run_ret
def c10_21 : AC := .seq c10_22 c10_23
theorem n10_21 : Run Cx 10 T ds ro (.code c10_21 :: k) H Q = Run Cx 10 T ds ro (.code c10_22 :: .code c10_23 :: k) H Q := run_seq
def c10_24 : AC := .skip
theorem n10_24 : Run Cx 10 T ds ro (.code c10_24 :: k) H Q = Run Cx 10 T ds ro (k) H Q := run_skip
def c10_20 : AC := .cond (.tmp 43) c10_21 c10_24
theorem n10_20 : Run Cx 10 T ds ro (.code c10_20 :: k) H Q = RunCond Cx 10 T ds ro (.tmp 43) (ev T (.tmp 43)) c10_21 c10_24 k H Q := run_condC
def c10_18 : AC := .seq c10_19 c10_20
theorem n10_18 : Run Cx 10 T ds ro (.code c10_18 :: k) H Q = Run Cx 10 T ds ro (.code c10_19 :: .code c10_20 :: k) H Q := run_seq
def c10_14 : AC := .cond (.tmp 26) c10_15 c10_18
theorem n10_14 : Run Cx 10 T ds ro (.code c10_14 :: k) H Q = RunCond Cx 10 T ds ro (.tmp 26) (ev T (.tmp 26)) c10_15 c10_18 k H Q := run_condC
def c10_12 : AC := .seq c10_13 c10_14
theorem n10_12 : Run Cx 10 T ds ro (.code c10_12 :: k) H Q = Run Cx 10 T ds ro (.code c10_13 :: .code c10_14 :: k) H Q := run_seq
def c10_8 : AC := .cond (.tmp 5) c10_9 c10_12
theorem n10_8 : Run Cx 10 T ds ro (.code c10_8 :: k) H Q = RunCond Cx 10 T ds ro (.tmp 5) (ev T (.tmp 5)) c10_9 c10_12 k H Q := run_condC
def c10_6 : AC := .seq c10_7 c10_8
theorem n10_6 : Run Cx 10 T ds ro (.code c10_6 :: k) H Q = Run Cx 10 T ds ro (.code c10_7 :: .code c10_8 :: k) H Q := run_seq
def c10_5 : AC := .block 0 c10_6
theorem n10_5 : Run Cx 10 T ds ro (.code c10_5 :: k) H Q = Run Cx 10 T ds ro (.code c10_6 :: .inBlock 0 :: k) H Q := run_block
def c10_3 : AC := .seq c10_4 c10_5
theorem n10_3 : Run Cx 10 T ds ro (.code c10_3 :: k) H Q = Run Cx 10 T ds ro (.code c10_4 :: .code c10_5 :: k) H Q := run_seq
def o10_26 : List AO := [{ dst := (some 2), op := .assign (.const (.bool false)), ty := 4, guard := none }]
def c10_26 : AC := .region o10_26 []
theorem n10_26 : Run Cx 10 T ds ro (.code c10_26 :: k) H Q = RunOps Cx 10 T ds ro o10_26 k H Q := run_region
def c10_27 : AC := .ret
theorem n10_27 : Run Cx 10 T [] none (.code c10_27 :: k) H Q = RunRes Cx T H Q (resOf Cx 10) := run_ret
def c10_25 : AC := .seq c10_26 c10_27
theorem n10_25 : Run Cx 10 T ds ro (.code c10_25 :: k) H Q = Run Cx 10 T ds ro (.code c10_26 :: .code c10_27 :: k) H Q := run_seq
def c10_2 : AC := .seq c10_3 c10_25
theorem n10_2 : Run Cx 10 T ds ro (.code c10_2 :: k) H Q = Run Cx 10 T ds ro (.code c10_3 :: .code c10_25 :: k) H Q := run_seq
def c10_0 : AC := .seq c10_1 c10_2
theorem n10_0 : Run Cx 10 T ds ro (.code c10_0 :: k) H Q = Run Cx 10 T ds ro (.code c10_1 :: .code c10_2 :: k) H Q := run_seq
theorem body10 : bodyOf Cx 10 = some c10_0 := by kernel_rfl
theorem res10 : resOf Cx 10 = some [.tmp 2] := by kernel_rfl
theorem pure10 : Cx.pure 10 = true := by kernel_rfl
-- RULES 10: n10_0, n10_1, n10_2, n10_3, n10_4, n10_5, n10_6, n10_7, n10_8, n10_9, n10_10, n10_11, n10_12, n10_13, n10_14, n10_15, n10_16, n10_17, n10_18, n10_19, n10_20, n10_21, n10_22, n10_23, n10_24, n10_25, n10_26, n10_27
def o11_1 : List AO := [{ dst := (some 1), op := .box 25 (.tmp 0), ty := 0, guard := none },
  { dst := (some 2), op := .assign (.const (.string ⟨#[]⟩)), ty := 9, guard := none }]
def c11_1 : AC := .region o11_1 []
theorem n11_1 : Run Cx 11 T ds ro (.code c11_1 :: k) H Q = RunOps Cx 11 T ds ro o11_1 k H Q := run_region
def o11_4 : List AO := [{ dst := (some 5), op := .load 25 (.tmp 1), ty := 25, guard := none },
  { dst := (some 6), op := .call { callee := (.value (.func 8)), args := #[(.tmp 5)], argTypes := #[25] }, ty := 4, guard := none },
  { dst := (some 7), op := .unOp .not 4 (.tmp 6), ty := 4, guard := none }]
def c11_4 : AC := .region o11_4 []
theorem n11_4 : Run Cx 11 T ds ro (.code c11_4 :: k) H Q = RunOps Cx 11 T ds ro o11_4 k H Q := run_region
def o11_7 : List AO := [{ dst := (some 2), op := .assign (.const (.string ⟨#[]⟩)), ty := 9, guard := none }]
def c11_7 : AC := .region o11_7 []
theorem n11_7 : Run Cx 11 T ds ro (.code c11_7 :: k) H Q = RunOps Cx 11 T ds ro o11_7 k H Q := run_region
def c11_8 : AC := .ret
theorem n11_8 : Run Cx 11 T [] none (.code c11_8 :: k) H Q = RunRes Cx T H Q (resOf Cx 11) := run_ret
def c11_6 : AC := .seq c11_7 c11_8
theorem n11_6 : Run Cx 11 T ds ro (.code c11_6 :: k) H Q = Run Cx 11 T ds ro (.code c11_7 :: .code c11_8 :: k) H Q := run_seq
def c11_9 : AC := .skip
theorem n11_9 : Run Cx 11 T ds ro (.code c11_9 :: k) H Q = Run Cx 11 T ds ro (k) H Q := run_skip
def c11_5 : AC := .cond (.tmp 7) c11_6 c11_9
theorem n11_5 : Run Cx 11 T ds ro (.code c11_5 :: k) H Q = RunCond Cx 11 T ds ro (.tmp 7) (ev T (.tmp 7)) c11_6 c11_9 k H Q := run_condC
def c11_3 : AC := .seq c11_4 c11_5
theorem n11_3 : Run Cx 11 T ds ro (.code c11_3 :: k) H Q = Run Cx 11 T ds ro (.code c11_4 :: .code c11_5 :: k) H Q := run_seq
def o11_11 : List AO := [{ dst := (some 8), op := .fieldAddr 25 (.tmp 1) 0, ty := 0, guard := none },
  { dst := (some 9), op := .load 3 (.tmp 8), ty := 3, guard := none },
  { dst := (some 10), op := .call { callee := (.value (.func 25)), args := #[(.tmp 9)], argTypes := #[3] }, ty := 9, guard := none },
  { dst := (some 3), op := .assign (.tmp 10), ty := 9, guard := none }]
def c11_11 : AC := .region o11_11 []
theorem n11_11 : Run Cx 11 T ds ro (.code c11_11 :: k) H Q = RunOps Cx 11 T ds ro o11_11 k H Q := run_region
def o11_14 : List AO := [{ dst := (some 11), op := .fieldAddr 25 (.tmp 1) 0, ty := 0, guard := none },
  { dst := (some 12), op := .load 3 (.tmp 11), ty := 3, guard := none }]
def c11_14 : AC := .region o11_14 []
theorem n11_14 : Run Cx 11 T ds ro (.code c11_14 :: k) H Q = RunOps Cx 11 T ds ro o11_14 k H Q := run_region
def o11_17 : List AO := [{ dst := (some 14), op := .binOp .eql 3 (.tmp 12) (.const (.int .i64 0)) 3, ty := 4, guard := none },
  { dst := (some 13), op := .assign (.tmp 14), ty := 4, guard := none }]
def c11_17 : AC := .region o11_17 []
theorem n11_17 : Run Cx 11 T ds ro (.code c11_17 :: k) H Q = RunOps Cx 11 T ds ro o11_17 k H Q := run_region
def o11_20 : List AO := [{ dst := (some 15), op := .fieldAddr 25 (.tmp 1) 1, ty := 0, guard := none },
  { dst := (some 16), op := .load 3 (.tmp 15), ty := 3, guard := none },
  { dst := (some 17), op := .binOp .rem 3 (.tmp 16) (.const (.int .i64 134217728)) 3, ty := 3, guard := none },
  { dst := (some 18), op := .binOp .add 3 (.tmp 17) (.const (.int .i64 134217728)) 3, ty := 3, guard := none },
  { dst := (some 19), op := .binOp .rem 3 (.tmp 18) (.const (.int .i64 134217728)) 3, ty := 3, guard := none },
  { dst := (some 4), op := .assign (.tmp 19), ty := 3, guard := none }]
def c11_20 : AC := .region o11_20 []
theorem n11_20 : Run Cx 11 T ds ro (.code c11_20 :: k) H Q = RunOps Cx 11 T ds ro o11_20 k H Q := run_region
def o11_22 : List AO := [{ dst := (some 20), op := .move (.tmp 3), ty := 9, guard := none },
  { dst := (some 21), op := .fieldAddr 25 (.tmp 1) 1, ty := 0, guard := none },
  { dst := (some 22), op := .load 3 (.tmp 21), ty := 3, guard := none },
  { dst := (some 23), op := .move (.tmp 4), ty := 3, guard := none },
  { dst := (some 24), op := .binOp .sub 3 (.tmp 22) (.tmp 23) 3, ty := 3, guard := none },
  { dst := (some 25), op := .binOp .quo 3 (.tmp 24) (.const (.int .i64 134217728)) 3, ty := 3, guard := none },
  { dst := (some 26), op := .call { callee := (.value (.func 26)), args := #[(.tmp 25)], argTypes := #[3] }, ty := 9, guard := none },
  { dst := (some 27), op := .binOp .add 9 (.tmp 20) (.tmp 26) 9, ty := 9, guard := none },
  { dst := (some 28), op := .move (.tmp 4), ty := 3, guard := none },
  { dst := (some 29), op := .call { callee := (.value (.func 25)), args := #[(.tmp 28)], argTypes := #[3] }, ty := 9, guard := none },
  { dst := (some 30), op := .binOp .add 9 (.tmp 27) (.tmp 29) 9, ty := 9, guard := none },
  { dst := (some 2), op := .assign (.tmp 30), ty := 9, guard := none }]
def c11_22 : AC := .region o11_22 []
theorem n11_22 : Run Cx 11 T ds ro (.code c11_22 :: k) H Q = RunOps Cx 11 T ds ro o11_22 k H Q := run_region
def c11_23 : AC := .ret
theorem n11_23 : Run Cx 11 T [] none (.code c11_23 :: k) H Q = RunRes Cx T H Q (resOf Cx 11) := run_ret
def c11_21 : AC := .seq c11_22 c11_23
theorem n11_21 : Run Cx 11 T ds ro (.code c11_21 :: k) H Q = Run Cx 11 T ds ro (.code c11_22 :: .code c11_23 :: k) H Q := run_seq
def c11_19 : AC := .seq c11_20 c11_21
theorem n11_19 : Run Cx 11 T ds ro (.code c11_19 :: k) H Q = Run Cx 11 T ds ro (.code c11_20 :: .code c11_21 :: k) H Q := run_seq
def o11_25 : List AO := [{ dst := (some 32), op := .binOp .eql 3 (.tmp 12) (.const (.int .i64 1)) 3, ty := 4, guard := none },
  { dst := (some 31), op := .assign (.tmp 32), ty := 4, guard := none }]
def c11_25 : AC := .region o11_25 []
theorem n11_25 : Run Cx 11 T ds ro (.code c11_25 :: k) H Q = RunOps Cx 11 T ds ro o11_25 k H Q := run_region
def o11_28 : List AO := [{ dst := (some 33), op := .move (.tmp 3), ty := 9, guard := none },
  { dst := (some 34), op := .fieldAddr 25 (.tmp 1) 2, ty := 0, guard := none },
  { dst := (some 35), op := .load 9 (.tmp 34), ty := 9, guard := none },
  { dst := (some 36), op := .call { callee := (.value (.func 27)), args := #[(.tmp 35)], argTypes := #[9] }, ty := 9, guard := none },
  { dst := (some 37), op := .binOp .add 9 (.tmp 33) (.tmp 36) 9, ty := 9, guard := none },
  { dst := (some 2), op := .assign (.tmp 37), ty := 9, guard := none }]
def c11_28 : AC := .region o11_28 []
theorem n11_28 : Run Cx 11 T ds ro (.code c11_28 :: k) H Q = RunOps Cx 11 T ds ro o11_28 k H Q := run_region
def c11_29 : AC := .ret
theorem n11_29 : Run Cx 11 T [] none (.code c11_29 :: k) H Q = RunRes Cx T H Q (resOf Cx 11) := run_ret
def c11_27 : AC := .seq c11_28 c11_29
theorem n11_27 : Run Cx 11 T ds ro (.code c11_27 :: k) H Q = Run Cx 11 T ds ro (.code c11_28 :: .code c11_29 :: k) H Q := run_seq
def c11_30 : AC := .skip
theorem n11_30 : Run Cx 11 T ds ro (.code c11_30 :: k) H Q = Run Cx 11 T ds ro (k) H Q := run_skip
def c11_26 : AC := .cond (.tmp 31) c11_27 c11_30
theorem n11_26 : Run Cx 11 T ds ro (.code c11_26 :: k) H Q = RunCond Cx 11 T ds ro (.tmp 31) (ev T (.tmp 31)) c11_27 c11_30 k H Q := run_condC
def c11_24 : AC := .seq c11_25 c11_26
theorem n11_24 : Run Cx 11 T ds ro (.code c11_24 :: k) H Q = Run Cx 11 T ds ro (.code c11_25 :: .code c11_26 :: k) H Q := run_seq
def c11_18 : AC := .cond (.tmp 13) c11_19 c11_24
theorem n11_18 : Run Cx 11 T ds ro (.code c11_18 :: k) H Q = RunCond Cx 11 T ds ro (.tmp 13) (ev T (.tmp 13)) c11_19 c11_24 k H Q := run_condC
def c11_16 : AC := .seq c11_17 c11_18
theorem n11_16 : Run Cx 11 T ds ro (.code c11_16 :: k) H Q = Run Cx 11 T ds ro (.code c11_17 :: .code c11_18 :: k) H Q := run_seq
def c11_15 : AC := .block 0 c11_16
theorem n11_15 : Run Cx 11 T ds ro (.code c11_15 :: k) H Q = Run Cx 11 T ds ro (.code c11_16 :: .inBlock 0 :: k) H Q := run_block
def c11_13 : AC := .seq c11_14 c11_15
theorem n11_13 : Run Cx 11 T ds ro (.code c11_13 :: k) H Q = Run Cx 11 T ds ro (.code c11_14 :: .code c11_15 :: k) H Q := run_seq
def o11_32 : List AO := [{ dst := (some 38), op := .move (.tmp 3), ty := 9, guard := none },
  { dst := (some 39), op := .fieldAddr 25 (.tmp 1) 3, ty := 0, guard := none },
  { dst := (some 40), op := .fieldAddr 23 (.tmp 39) 0, ty := 0, guard := none },
  { dst := (some 41), op := .load 3 (.tmp 40), ty := 3, guard := none },
  { dst := (some 42), op := .call { callee := (.value (.func 26)), args := #[(.tmp 41)], argTypes := #[3] }, ty := 9, guard := none },
  { dst := (some 43), op := .binOp .add 9 (.tmp 38) (.tmp 42) 9, ty := 9, guard := none },
  { dst := (some 44), op := .fieldAddr 25 (.tmp 1) 3, ty := 0, guard := none },
  { dst := (some 45), op := .fieldAddr 23 (.tmp 44) 1, ty := 0, guard := none },
  { dst := (some 46), op := .load 3 (.tmp 45), ty := 3, guard := none },
  { dst := (some 47), op := .call { callee := (.value (.func 26)), args := #[(.tmp 46)], argTypes := #[3] }, ty := 9, guard := none },
  { dst := (some 48), op := .binOp .add 9 (.tmp 43) (.tmp 47) 9, ty := 9, guard := none },
  { dst := (some 2), op := .assign (.tmp 48), ty := 9, guard := none }]
def c11_32 : AC := .region o11_32 []
theorem n11_32 : Run Cx 11 T ds ro (.code c11_32 :: k) H Q = RunOps Cx 11 T ds ro o11_32 k H Q := run_region
def c11_33 : AC := .ret
theorem n11_33 : Run Cx 11 T [] none (.code c11_33 :: k) H Q = RunRes Cx T H Q (resOf Cx 11) := run_ret
def c11_31 : AC := .seq c11_32 c11_33
theorem n11_31 : Run Cx 11 T ds ro (.code c11_31 :: k) H Q = Run Cx 11 T ds ro (.code c11_32 :: .code c11_33 :: k) H Q := run_seq
def c11_12 : AC := .seq c11_13 c11_31
theorem n11_12 : Run Cx 11 T ds ro (.code c11_12 :: k) H Q = Run Cx 11 T ds ro (.code c11_13 :: .code c11_31 :: k) H Q := run_seq
def c11_10 : AC := .seq c11_11 c11_12
theorem n11_10 : Run Cx 11 T ds ro (.code c11_10 :: k) H Q = Run Cx 11 T ds ro (.code c11_11 :: .code c11_12 :: k) H Q := run_seq
def c11_2 : AC := .seq c11_3 c11_10
theorem n11_2 : Run Cx 11 T ds ro (.code c11_2 :: k) H Q = Run Cx 11 T ds ro (.code c11_3 :: .code c11_10 :: k) H Q := run_seq
def c11_0 : AC := .seq c11_1 c11_2
theorem n11_0 : Run Cx 11 T ds ro (.code c11_0 :: k) H Q = Run Cx 11 T ds ro (.code c11_1 :: .code c11_2 :: k) H Q := run_seq
theorem body11 : bodyOf Cx 11 = some c11_0 := by kernel_rfl
theorem res11 : resOf Cx 11 = some [.tmp 2] := by kernel_rfl
theorem pure11 : Cx.pure 11 = true := by kernel_rfl
-- RULES 11: n11_0, n11_1, n11_2, n11_3, n11_4, n11_5, n11_6, n11_7, n11_8, n11_9, n11_10, n11_11, n11_12, n11_13, n11_14, n11_15, n11_16, n11_17, n11_18, n11_19, n11_20, n11_21, n11_22, n11_23, n11_24, n11_25, n11_26, n11_27, n11_28, n11_29, n11_30, n11_31, n11_32, n11_33
def o12_1 : List AO := [{ dst := (some 1), op := .box 25 (.tmp 0), ty := 0, guard := none },
  { dst := (some 2), op := .assign (.const (.string ⟨#[]⟩)), ty := 9, guard := none }]
def c12_1 : AC := .region o12_1 []
theorem n12_1 : Run Cx 12 T ds ro (.code c12_1 :: k) H Q = RunOps Cx 12 T ds ro o12_1 k H Q := run_region
def o12_4 : List AO := [{ dst := (some 3), op := .load 25 (.tmp 1), ty := 25, guard := none },
  { dst := (some 4), op := .call { callee := (.value (.func 8)), args := #[(.tmp 3)], argTypes := #[25] }, ty := 4, guard := none },
  { dst := (some 5), op := .unOp .not 4 (.tmp 4), ty := 4, guard := none }]
def c12_4 : AC := .region o12_4 []
theorem n12_4 : Run Cx 12 T ds ro (.code c12_4 :: k) H Q = RunOps Cx 12 T ds ro o12_4 k H Q := run_region
def o12_7 : List AO := [{ dst := (some 2), op := .assign (.const (.string ⟨#[]⟩)), ty := 9, guard := none }]
def c12_7 : AC := .region o12_7 []
theorem n12_7 : Run Cx 12 T ds ro (.code c12_7 :: k) H Q = RunOps Cx 12 T ds ro o12_7 k H Q := run_region
def c12_8 : AC := .ret
theorem n12_8 : Run Cx 12 T [] none (.code c12_8 :: k) H Q = RunRes Cx T H Q (resOf Cx 12) := run_ret
def c12_6 : AC := .seq c12_7 c12_8
theorem n12_6 : Run Cx 12 T ds ro (.code c12_6 :: k) H Q = Run Cx 12 T ds ro (.code c12_7 :: .code c12_8 :: k) H Q := run_seq
def c12_9 : AC := .skip
theorem n12_9 : Run Cx 12 T ds ro (.code c12_9 :: k) H Q = Run Cx 12 T ds ro (k) H Q := run_skip
def c12_5 : AC := .cond (.tmp 5) c12_6 c12_9
theorem n12_5 : Run Cx 12 T ds ro (.code c12_5 :: k) H Q = RunCond Cx 12 T ds ro (.tmp 5) (ev T (.tmp 5)) c12_6 c12_9 k H Q := run_condC
def c12_3 : AC := .seq c12_4 c12_5
theorem n12_3 : Run Cx 12 T ds ro (.code c12_3 :: k) H Q = Run Cx 12 T ds ro (.code c12_4 :: .code c12_5 :: k) H Q := run_seq
def o12_12 : List AO := [{ dst := (some 6), op := .fieldAddr 25 (.tmp 1) 0, ty := 0, guard := none },
  { dst := (some 7), op := .load 3 (.tmp 6), ty := 3, guard := none }]
def c12_12 : AC := .region o12_12 []
theorem n12_12 : Run Cx 12 T ds ro (.code c12_12 :: k) H Q = RunOps Cx 12 T ds ro o12_12 k H Q := run_region
def o12_15 : List AO := [{ dst := (some 9), op := .binOp .eql 3 (.tmp 7) (.const (.int .i64 0)) 3, ty := 4, guard := none },
  { dst := (some 8), op := .assign (.tmp 9), ty := 4, guard := none }]
def c12_15 : AC := .region o12_15 []
theorem n12_15 : Run Cx 12 T ds ro (.code c12_15 :: k) H Q = RunOps Cx 12 T ds ro o12_15 k H Q := run_region
def o12_18 : List AO := [{ dst := (some 10), op := .fieldAddr 25 (.tmp 1) 1, ty := 0, guard := none },
  { dst := (some 11), op := .load 3 (.tmp 10), ty := 3, guard := none },
  { dst := (some 12), op := .call { callee := (.value (.func 28)), args := #[(.tmp 11)], argTypes := #[3] }, ty := 9, guard := none },
  { dst := (some 2), op := .assign (.tmp 12), ty := 9, guard := none }]
def c12_18 : AC := .region o12_18 []
theorem n12_18 : Run Cx 12 T ds ro (.code c12_18 :: k) H Q = RunOps Cx 12 T ds ro o12_18 k H Q := run_region
def c12_19 : AC := .ret
theorem n12_19 : Run Cx 12 T [] none (.code c12_19 :: k) H Q = RunRes Cx T H Q (resOf Cx 12) := run_ret
def c12_17 : AC := .seq c12_18 c12_19
theorem n12_17 : Run Cx 12 T ds ro (.code c12_17 :: k) H Q = Run Cx 12 T ds ro (.code c12_18 :: .code c12_19 :: k) H Q := run_seq
def o12_21 : List AO := [{ dst := (some 14), op := .binOp .eql 3 (.tmp 7) (.const (.int .i64 1)) 3, ty := 4, guard := none },
  { dst := (some 13), op := .assign (.tmp 14), ty := 4, guard := none }]
def c12_21 : AC := .region o12_21 []
theorem n12_21 : Run Cx 12 T ds ro (.code c12_21 :: k) H Q = RunOps Cx 12 T ds ro o12_21 k H Q := run_region
def o12_24 : List AO := [{ dst := (some 15), op := .fieldAddr 25 (.tmp 1) 2, ty := 0, guard := none },
  { dst := (some 16), op := .load 9 (.tmp 15), ty := 9, guard := none },
  { dst := (some 17), op := .call { callee := (.value (.func 29)), args := #[(.tmp 16)], argTypes := #[9] }, ty := 9, guard := none },
  { dst := (some 2), op := .assign (.tmp 17), ty := 9, guard := none }]
def c12_24 : AC := .region o12_24 []
theorem n12_24 : Run Cx 12 T ds ro (.code c12_24 :: k) H Q = RunOps Cx 12 T ds ro o12_24 k H Q := run_region
def c12_25 : AC := .ret
theorem n12_25 : Run Cx 12 T [] none (.code c12_25 :: k) H Q = RunRes Cx T H Q (resOf Cx 12) := run_ret
def c12_23 : AC := .seq c12_24 c12_25
theorem n12_23 : Run Cx 12 T ds ro (.code c12_23 :: k) H Q = Run Cx 12 T ds ro (.code c12_24 :: .code c12_25 :: k) H Q := run_seq
def c12_26 : AC := .skip
theorem n12_26 : Run Cx 12 T ds ro (.code c12_26 :: k) H Q = Run Cx 12 T ds ro (k) H Q := run_skip
def c12_22 : AC := .cond (.tmp 13) c12_23 c12_26
theorem n12_22 : Run Cx 12 T ds ro (.code c12_22 :: k) H Q = RunCond Cx 12 T ds ro (.tmp 13) (ev T (.tmp 13)) c12_23 c12_26 k H Q := run_condC
def c12_20 : AC := .seq c12_21 c12_22
theorem n12_20 : Run Cx 12 T ds ro (.code c12_20 :: k) H Q = Run Cx 12 T ds ro (.code c12_21 :: .code c12_22 :: k) H Q := run_seq
def c12_16 : AC := .cond (.tmp 8) c12_17 c12_20
theorem n12_16 : Run Cx 12 T ds ro (.code c12_16 :: k) H Q = RunCond Cx 12 T ds ro (.tmp 8) (ev T (.tmp 8)) c12_17 c12_20 k H Q := run_condC
def c12_14 : AC := .seq c12_15 c12_16
theorem n12_14 : Run Cx 12 T ds ro (.code c12_14 :: k) H Q = Run Cx 12 T ds ro (.code c12_15 :: .code c12_16 :: k) H Q := run_seq
def c12_13 : AC := .block 0 c12_14
theorem n12_13 : Run Cx 12 T ds ro (.code c12_13 :: k) H Q = Run Cx 12 T ds ro (.code c12_14 :: .inBlock 0 :: k) H Q := run_block
def c12_11 : AC := .seq c12_12 c12_13
theorem n12_11 : Run Cx 12 T ds ro (.code c12_11 :: k) H Q = Run Cx 12 T ds ro (.code c12_12 :: .code c12_13 :: k) H Q := run_seq
def o12_28 : List AO := [{ dst := (some 18), op := .fieldAddr 25 (.tmp 1) 3, ty := 0, guard := none },
  { dst := (some 19), op := .fieldAddr 23 (.tmp 18) 0, ty := 0, guard := none },
  { dst := (some 20), op := .load 3 (.tmp 19), ty := 3, guard := none },
  { dst := (some 21), op := .call { callee := (.value (.func 28)), args := #[(.tmp 20)], argTypes := #[3] }, ty := 9, guard := none },
  { dst := (some 22), op := .binOp .add 9 (.tmp 21) (.const (.string ⟨#[58]⟩)) 9, ty := 9, guard := none },
  { dst := (some 23), op := .fieldAddr 25 (.tmp 1) 3, ty := 0, guard := none },
  { dst := (some 24), op := .fieldAddr 23 (.tmp 23) 1, ty := 0, guard := none },
  { dst := (some 25), op := .load 3 (.tmp 24), ty := 3, guard := none },
  { dst := (some 26), op := .call { callee := (.value (.func 28)), args := #[(.tmp 25)], argTypes := #[3] }, ty := 9, guard := none },
  { dst := (some 27), op := .binOp .add 9 (.tmp 22) (.tmp 26) 9, ty := 9, guard := none },
  { dst := (some 2), op := .assign (.tmp 27), ty := 9, guard := none }]
def c12_28 : AC := .region o12_28 []
theorem n12_28 : Run Cx 12 T ds ro (.code c12_28 :: k) H Q = RunOps Cx 12 T ds ro o12_28 k H Q := run_region
def c12_29 : AC := .ret
theorem n12_29 : Run Cx 12 T [] none (.code c12_29 :: k) H Q = RunRes Cx T H Q (resOf Cx 12) := run_ret
def c12_27 : AC := .seq c12_28 c12_29
theorem n12_27 : Run Cx 12 T ds ro (.code c12_27 :: k) H Q = Run Cx 12 T ds ro (.code c12_28 :: .code c12_29 :: k) H Q := run_seq
def c12_10 : AC := .seq c12_11 c12_27
theorem n12_10 : Run Cx 12 T ds ro (.code c12_10 :: k) H Q = Run Cx 12 T ds ro (.code c12_11 :: .code c12_27 :: k) H Q := run_seq
def c12_2 : AC := .seq c12_3 c12_10
theorem n12_2 : Run Cx 12 T ds ro (.code c12_2 :: k) H Q = Run Cx 12 T ds ro (.code c12_3 :: .code c12_10 :: k) H Q := run_seq
def c12_0 : AC := .seq c12_1 c12_2
theorem n12_0 : Run Cx 12 T ds ro (.code c12_0 :: k) H Q = Run Cx 12 T ds ro (.code c12_1 :: .code c12_2 :: k) H Q := run_seq
theorem body12 : bodyOf Cx 12 = some c12_0 := by kernel_rfl
theorem res12 : resOf Cx 12 = some [.tmp 2] := by kernel_rfl
theorem pure12 : Cx.pure 12 = true := by kernel_rfl
-- RULES 12: n12_0, n12_1, n12_2, n12_3, n12_4, n12_5, n12_6, n12_7, n12_8, n12_9, n12_10, n12_11, n12_12, n12_13, n12_14, n12_15, n12_16, n12_17, n12_18, n12_19, n12_20, n12_21, n12_22, n12_23, n12_24, n12_25, n12_26, n12_27, n12_28, n12_29
def o13_1 : List AO := [{ dst := (some 1), op := .box 25 (.tmp 0), ty := 0, guard := none },
  { dst := (some 2), op := .assign (.const (.string ⟨#[]⟩)), ty := 9, guard := none }]
def c13_1 : AC := .region o13_1 []
theorem n13_1 : Run Cx 13 T ds ro (.code c13_1 :: k) H Q = RunOps Cx 13 T ds ro o13_1 k H Q := run_region
def o13_3 : List AO := [{ dst := (some 5), op := .fieldAddr 25 (.tmp 1) 0, ty := 0, guard := none },
  { dst := (some 6), op := .load 3 (.tmp 5), ty := 3, guard := none },
  { dst := (some 7), op := .call { callee := (.value (.func 30)), args := #[(.tmp 6)], argTypes := #[3] }, ty := 9, guard := none },
  { dst := (some 3), op := .assign (.tmp 7), ty := 9, guard := none }]
def c13_3 : AC := .region o13_3 []
theorem n13_3 : Run Cx 13 T ds ro (.code c13_3 :: k) H Q = RunOps Cx 13 T ds ro o13_3 k H Q := run_region
def o13_6 : List AO := [{ dst := (some 8), op := .fieldAddr 25 (.tmp 1) 0, ty := 0, guard := none },
  { dst := (some 9), op := .load 3 (.tmp 8), ty := 3, guard := none }]
def c13_6 : AC := .region o13_6 []
theorem n13_6 : Run Cx 13 T ds ro (.code c13_6 :: k) H Q = RunOps Cx 13 T ds ro o13_6 k H Q := run_region
def o13_9 : List AO := [{ dst := (some 11), op := .binOp .eql 3 (.tmp 9) (.const (.int .i64 0)) 3, ty := 4, guard := none },
  { dst := (some 10), op := .assign (.tmp 11), ty := 4, guard := none }]
def c13_9 : AC := .region o13_9 []
theorem n13_9 : Run Cx 13 T ds ro (.code c13_9 :: k) H Q = RunOps Cx 13 T ds ro o13_9 k H Q := run_region
def o13_12 : List AO := [{ dst := (some 12), op := .fieldAddr 25 (.tmp 1) 1, ty := 0, guard := none },
  { dst := (some 13), op := .load 3 (.tmp 12), ty := 3, guard := none },
  { dst := (some 14), op := .binOp .quo 3 (.tmp 13) (.const (.int .i64 134217728)) 3, ty := 3, guard := none },
  { dst := (some 4), op := .assign (.tmp 14), ty := 3, guard := none }]
def c13_12 : AC := .region o13_12 []
theorem n13_12 : Run Cx 13 T ds ro (.code c13_12 :: k) H Q = RunOps Cx 13 T ds ro o13_12 k H Q := run_region
def o13_15 : List AO := [{ dst := (some 15), op := .move (.tmp 4), ty := 3, guard := none },
  { dst := (some 16), op := .binOp .mul 3 (.tmp 15) (.const (.int .i64 134217728)) 3, ty := 3, guard := none },
  { dst := (some 17), op := .fieldAddr 25 (.tmp 1) 1, ty := 0, guard := none },
  { dst := (some 18), op := .load 3 (.tmp 17), ty := 3, guard := none },
  { dst := (some 19), op := .binOp .gtr 3 (.tmp 16) (.tmp 18) 3, ty := 4, guard := none }]
def c13_15 : AC := .region o13_15 []
theorem n13_15 : Run Cx 13 T ds ro (.code c13_15 :: k) H Q = RunOps Cx 13 T ds ro o13_15 k H Q := run_region
def o13_17 : List AO := [{ dst := (some 20), op := .move (.tmp 4), ty := 3, guard := none },
  { dst := (some 21), op := .binOp .sub 3 (.tmp 20) (.const (.int .i64 1)) 3, ty := 3, guard := none },
  { dst := (some 4), op := .assign (.tmp 21), ty := 3, guard := none }]
def c13_17 : AC := .region o13_17 []
theorem n13_17 : Run Cx 13 T ds ro (.code c13_17 :: k) H Q = RunOps Cx 13 T ds ro o13_17 k H Q := run_region
def c13_18 : AC := .skip
theorem n13_18 : Run Cx 13 T ds ro (.code c13_18 :: k) H Q = Run Cx 13 T ds ro (k) H Q := run_skip
def c13_16 : AC := .cond (.tmp 19) c13_17 c13_18
theorem n13_16 : Run Cx 13 T ds ro (.code c13_16 :: k) H Q = RunCond Cx 13 T ds ro (.tmp 19) (ev T (.tmp 19)) c13_17 c13_18 k H Q := run_condC
def c13_14 : AC := .seq c13_15 c13_16
theorem n13_14 : Run Cx 13 T ds ro (.code c13_14 :: k) H Q = Run Cx 13 T ds ro (.code c13_15 :: .code c13_16 :: k) H Q := run_seq
def o13_20 : List AO := [{ dst := (some 22), op := .move (.tmp 3), ty := 9, guard := none },
  { dst := (some 23), op := .move (.tmp 4), ty := 3, guard := none },
  { dst := (some 24), op := .call { callee := (.value (.func 31)), args := #[(.tmp 23)], argTypes := #[3] }, ty := 9, guard := none },
  { dst := (some 25), op := .binOp .add 9 (.tmp 22) (.tmp 24) 9, ty := 9, guard := none },
  { dst := (some 26), op := .fieldAddr 25 (.tmp 1) 1, ty := 0, guard := none },
  { dst := (some 27), op := .load 3 (.tmp 26), ty := 3, guard := none },
  { dst := (some 28), op := .move (.tmp 4), ty := 3, guard := none },
  { dst := (some 29), op := .binOp .mul 3 (.tmp 28) (.const (.int .i64 134217728)) 3, ty := 3, guard := none },
  { dst := (some 30), op := .binOp .sub 3 (.tmp 27) (.tmp 29) 3, ty := 3, guard := none },
  { dst := (some 31), op := .call { callee := (.value (.func 30)), args := #[(.tmp 30)], argTypes := #[3] }, ty := 9, guard := none },
  { dst := (some 32), op := .binOp .add 9 (.tmp 25) (.tmp 31) 9, ty := 9, guard := none },
  { dst := (some 2), op := .assign (.tmp 32), ty := 9, guard := none }]
def c13_20 : AC := .region o13_20 []
theorem n13_20 : Run Cx 13 T ds ro (.code c13_20 :: k) H Q = RunOps Cx 13 T ds ro o13_20 k H Q := run_region
def c13_21 : AC := .ret
theorem n13_21 : Run Cx 13 T [] none (.code c13_21 :: k) H Q = RunRes Cx T H Q (resOf Cx 13) := run_ret
def c13_19 : AC := .seq c13_20 c13_21
theorem n13_19 : Run Cx 13 T ds ro (.code c13_19 :: k) H Q = Run Cx 13 T ds ro (.code c13_20 :: .code c13_21 :: k) H Q := run_seq
def c13_13 : AC := .seq c13_14 c13_19
theorem n13_13 : Run Cx 13 T ds ro (.code c13_13 :: k) H Q = Run Cx 13 T ds ro (.code c13_14 :: .code c13_19 :: k) H Q := run_seq
def c13_11 : AC := .seq c13_12 c13_13
theorem n13_11 : Run Cx 13 T ds ro (.code c13_11 :: k) H Q = Run Cx 13 T ds ro (.code c13_12 :: .code c13_13 :: k) H Q := run_seq
def o13_23 : List AO := [{ dst := (some 34), op := .binOp .eql 3 (.tmp 9) (.const (.int .i64 1)) 3, ty := 4, guard := none },
  { dst := (some 33), op := .assign (.tmp 34), ty := 4, guard := none }]
def c13_23 : AC := .region o13_23 []
theorem n13_23 : Run Cx 13 T ds ro (.code c13_23 :: k) H Q = RunOps Cx 13 T ds ro o13_23 k H Q := run_region
def o13_26 : List AO := [{ dst := (some 35), op := .move (.tmp 3), ty := 9, guard := none },
  { dst := (some 36), op := .fieldAddr 25 (.tmp 1) 2, ty := 0, guard := none },
  { dst := (some 37), op := .load 9 (.tmp 36), ty := 9, guard := none },
  { dst := (some 38), op := .call { callee := (.value (.func 32)), args := #[(.tmp 37)], argTypes := #[9] }, ty := 9, guard := none },
  { dst := (some 39), op := .binOp .add 9 (.tmp 35) (.tmp 38) 9, ty := 9, guard := none },
  { dst := (some 2), op := .assign (.tmp 39), ty := 9, guard := none }]
def c13_26 : AC := .region o13_26 []
theorem n13_26 : Run Cx 13 T ds ro (.code c13_26 :: k) H Q = RunOps Cx 13 T ds ro o13_26 k H Q := run_region
def c13_27 : AC := .ret
theorem n13_27 : Run Cx 13 T [] none (.code c13_27 :: k) H Q = RunRes Cx T H Q (resOf Cx 13) := run_ret
def c13_25 : AC := .seq c13_26 c13_27
theorem n13_25 : Run Cx 13 T ds ro (.code c13_25 :: k) H Q = Run Cx 13 T ds ro (.code c13_26 :: .code c13_27 :: k) H Q := run_seq
def c13_28 : AC := .skip
theorem n13_28 : Run Cx 13 T ds ro (.code c13_28 :: k) H Q = Run Cx 13 T ds ro (k) H Q := run_skip
def c13_24 : AC := .cond (.tmp 33) c13_25 c13_28
theorem n13_24 : Run Cx 13 T ds ro (.code c13_24 :: k) H Q = RunCond Cx 13 T ds ro (.tmp 33) (ev T (.tmp 33)) c13_25 c13_28 k H Q := run_condC
def c13_22 : AC := .seq c13_23 c13_24
theorem n13_22 : Run Cx 13 T ds ro (.code c13_22 :: k) H Q = Run Cx 13 T ds ro (.code c13_23 :: .code c13_24 :: k) H Q := run_seq
def c13_10 : AC := .cond (.tmp 10) c13_11 c13_22
theorem n13_10 : Run Cx 13 T ds ro (.code c13_10 :: k) H Q = RunCond Cx 13 T ds ro (.tmp 10) (ev T (.tmp 10)) c13_11 c13_22 k H Q := run_condC
def c13_8 : AC := .seq c13_9 c13_10
theorem n13_8 : Run Cx 13 T ds ro (.code c13_8 :: k) H Q = Run Cx 13 T ds ro (.code c13_9 :: .code c13_10 :: k) H Q := run_seq
def c13_7 : AC := .block 0 c13_8
theorem n13_7 : Run Cx 13 T ds ro (.code c13_7 :: k) H Q = Run Cx 13 T ds ro (.code c13_8 :: .inBlock 0 :: k) H Q := run_block
def c13_5 : AC := .seq c13_6 c13_7
theorem n13_5 : Run Cx 13 T ds ro (.code c13_5 :: k) H Q = Run Cx 13 T ds ro (.code c13_6 :: .code c13_7 :: k) H Q := run_seq
def o13_30 : List AO := [{ dst := (some 40), op := .move (.tmp 3), ty := 9, guard := none },
  { dst := (some 41), op := .fieldAddr 25 (.tmp 1) 3, ty := 0, guard := none },
  { dst := (some 42), op := .fieldAddr 23 (.tmp 41) 0, ty := 0, guard := none },
  { dst := (some 43), op := .load 3 (.tmp 42), ty := 3, guard := none },
  { dst := (some 44), op := .call { callee := (.value (.func 31)), args := #[(.tmp 43)], argTypes := #[3] }, ty := 9, guard := none },
  { dst := (some 45), op := .binOp .add 9 (.tmp 40) (.tmp 44) 9, ty := 9, guard := none },
  { dst := (some 46), op := .fieldAddr 25 (.tmp 1) 3, ty := 0, guard := none },
  { dst := (some 47), op := .fieldAddr 23 (.tmp 46) 1, ty := 0, guard := none },
  { dst := (some 48), op := .load 3 (.tmp 47), ty := 3, guard := none },
  { dst := (some 49), op := .call { callee := (.value (.func 31)), args := #[(.tmp 48)], argTypes := #[3] }, ty := 9, guard := none },
  { dst := (some 50), op := .binOp .add 9 (.tmp 45) (.tmp 49) 9, ty := 9, guard := none },
  { dst := (some 2), op := .assign (.tmp 50), ty := 9, guard := none }]
def c13_30 : AC := .region o13_30 []
theorem n13_30 : Run Cx 13 T ds ro (.code c13_30 :: k) H Q = RunOps Cx 13 T ds ro o13_30 k H Q := run_region
def c13_31 : AC := .ret
theorem n13_31 : Run Cx 13 T [] none (.code c13_31 :: k) H Q = RunRes Cx T H Q (resOf Cx 13) := run_ret
def c13_29 : AC := .seq c13_30 c13_31
theorem n13_29 : Run Cx 13 T ds ro (.code c13_29 :: k) H Q = Run Cx 13 T ds ro (.code c13_30 :: .code c13_31 :: k) H Q := run_seq
def c13_4 : AC := .seq c13_5 c13_29
theorem n13_4 : Run Cx 13 T ds ro (.code c13_4 :: k) H Q = Run Cx 13 T ds ro (.code c13_5 :: .code c13_29 :: k) H Q := run_seq
def c13_2 : AC := .seq c13_3 c13_4
theorem n13_2 : Run Cx 13 T ds ro (.code c13_2 :: k) H Q = Run Cx 13 T ds ro (.code c13_3 :: .code c13_4 :: k) H Q := run_seq
def c13_0 : AC := .seq c13_1 c13_2
theorem n13_0 : Run Cx 13 T ds ro (.code c13_0 :: k) H Q = Run Cx 13 T ds ro (.code c13_1 :: .code c13_2 :: k) H Q := run_seq
theorem body13 : bodyOf Cx 13 = some c13_0 := by kernel_rfl
theorem res13 : resOf Cx 13 = some [.tmp 2] := by kernel_rfl
theorem pure13 : Cx.pure 13 = true := by kernel_rfl
-- RULES 13: n13_0, n13_1, n13_2, n13_3, n13_4, n13_5, n13_6, n13_7, n13_8, n13_9, n13_10, n13_11, n13_12, n13_13, n13_14, n13_15, n13_16, n13_17, n13_18, n13_19, n13_20, n13_21, n13_22, n13_23, n13_24, n13_25, n13_26, n13_27, n13_28, n13_29, n13_30, n13_31
def o14_1 : List AO := [{ dst := (some 1), op := .box 25 (.tmp 0), ty := 0, guard := none },
  { dst := (some 2), op := .assign (.const (.string ⟨#[]⟩)), ty := 9, guard := none }]
def c14_1 : AC := .region o14_1 []
theorem n14_1 : Run Cx 14 T ds ro (.code c14_1 :: k) H Q = RunOps Cx 14 T ds ro o14_1 k H Q := run_region
def o14_4 : List AO := [{ dst := (some 5), op := .fieldAddr 25 (.tmp 1) 0, ty := 0, guard := none },
  { dst := (some 6), op := .load 3 (.tmp 5), ty := 3, guard := none }]
def c14_4 : AC := .region o14_4 []
theorem n14_4 : Run Cx 14 T ds ro (.code c14_4 :: k) H Q = RunOps Cx 14 T ds ro o14_4 k H Q := run_region
def o14_7 : List AO := [{ dst := (some 8), op := .binOp .eql 3 (.tmp 6) (.const (.int .i64 0)) 3, ty := 4, guard := none },
  { dst := (some 7), op := .assign (.tmp 8), ty := 4, guard := none }]
def c14_7 : AC := .region o14_7 []
theorem n14_7 : Run Cx 14 T ds ro (.code c14_7 :: k) H Q = RunOps Cx 14 T ds ro o14_7 k H Q := run_region
def o14_10 : List AO := [{ dst := (some 9), op := .fieldAddr 25 (.tmp 1) 1, ty := 0, guard := none },
  { dst := (some 10), op := .load 3 (.tmp 9), ty := 3, guard := none },
  { dst := (some 11), op := .call { callee := (.value (.func 33)), args := #[(.tmp 10)], argTypes := #[3] }, ty := 9, guard := none },
  { dst := (some 2), op := .assign (.tmp 11), ty := 9, guard := none }]
def c14_10 : AC := .region o14_10 []
theorem n14_10 : Run Cx 14 T ds ro (.code c14_10 :: k) H Q = RunOps Cx 14 T ds ro o14_10 k H Q := run_region
def c14_11 : AC := .ret
theorem n14_11 : Run Cx 14 T [] none (.code c14_11 :: k) H Q = RunRes Cx T H Q (resOf Cx 14) := run_ret
def c14_9 : AC := .seq c14_10 c14_11
theorem n14_9 : Run Cx 14 T ds ro (.code c14_9 :: k) H Q = Run Cx 14 T ds ro (.code c14_10 :: .code c14_11 :: k) H Q := run_seq
def o14_13 : List AO := [{ dst := (some 13), op := .binOp .eql 3 (.tmp 6) (.const (.int .i64 2)) 3, ty := 4, guard := none },
  { dst := (some 12), op := .assign (.tmp 13), ty := 4, guard := none }]
def c14_13 : AC := .region o14_13 []
theorem n14_13 : Run Cx 14 T ds ro (.code c14_13 :: k) H Q = RunOps Cx 14 T ds ro o14_13 k H Q := run_region
def o14_16 : List AO := [{ dst := (some 14), op := .fieldAddr 25 (.tmp 1) 3, ty := 0, guard := none },
  { dst := (some 15), op := .fieldAddr 23 (.tmp 14) 0, ty := 0, guard := none },
  { dst := (some 16), op := .load 3 (.tmp 15), ty := 3, guard := none },
  { dst := (some 17), op := .call { callee := (.value (.func 33)), args := #[(.tmp 16)], argTypes := #[3] }, ty := 9, guard := none },
  { dst := (some 18), op := .binOp .add 9 (.tmp 17) (.const (.string ⟨#[58]⟩)) 9, ty := 9, guard := none },
  { dst := (some 19), op := .fieldAddr 25 (.tmp 1) 3, ty := 0, guard := none },
  { dst := (some 20), op := .fieldAddr 23 (.tmp 19) 1, ty := 0, guard := none },
  { dst := (some 21), op := .load 3 (.tmp 20), ty := 3, guard := none },
  { dst := (some 22), op := .call { callee := (.value (.func 33)), args := #[(.tmp 21)], argTypes := #[3] }, ty := 9, guard := none },
  { dst := (some 23), op := .binOp .add 9 (.tmp 18) (.tmp 22) 9, ty := 9, guard := none },
  { dst := (some 2), op := .assign (.tmp 23), ty := 9, guard := none }]
def c14_16 : AC := .region o14_16 []
theorem n14_16 : Run Cx 14 T ds ro (.code c14_16 :: k) H Q = RunOps Cx 14 T ds ro o14_16 k H Q := run_region
def c14_17 : AC := .ret
theorem n14_17 : Run Cx 14 T [] none (.code c14_17 :: k) H Q = RunRes Cx T H Q (resOf Cx 14) := run_ret
def c14_15 : AC := .seq c14_16 c14_17
theorem n14_15 : Run Cx 14 T ds ro (.code c14_15 :: k) H Q = Run Cx 14 T ds ro (.code c14_16 :: .code c14_17 :: k) H Q := run_seq
def c14_18 : AC := .skip
theorem n14_18 : Run Cx 14 T ds ro (.code c14_18 :: k) H Q = Run Cx 14 T ds ro (k) H Q := run_skip
def c14_14 : AC := .cond (.tmp 12) c14_15 c14_18
theorem n14_14 : Run Cx 14 T ds ro (.code c14_14 :: k) H Q = RunCond Cx 14 T ds ro (.tmp 12) (ev T (.tmp 12)) c14_15 c14_18 k H Q := run_condC
def c14_12 : AC := .seq c14_13 c14_14
theorem n14_12 : Run Cx 14 T ds ro (.code c14_12 :: k) H Q = Run Cx 14 T ds ro (.code c14_13 :: .code c14_14 :: k) H Q := run_seq
def c14_8 : AC := .cond (.tmp 7) c14_9 c14_12
theorem n14_8 : Run Cx 14 T ds ro (.code c14_8 :: k) H Q = RunCond Cx 14 T ds ro (.tmp 7) (ev T (.tmp 7)) c14_9 c14_12 k H Q := run_condC
def c14_6 : AC := .seq c14_7 c14_8
theorem n14_6 : Run Cx 14 T ds ro (.code c14_6 :: k) H Q = Run Cx 14 T ds ro (.code c14_7 :: .code c14_8 :: k) H Q := run_seq
def c14_5 : AC := .block 0 c14_6
theorem n14_5 : Run Cx 14 T ds ro (.code c14_5 :: k) H Q = Run Cx 14 T ds ro (.code c14_6 :: .inBlock 0 :: k) H Q := run_block
def c14_3 : AC := .seq c14_4 c14_5
theorem n14_3 : Run Cx 14 T ds ro (.code c14_3 :: k) H Q = Run Cx 14 T ds ro (.code c14_4 :: .code c14_5 :: k) H Q := run_seq
def o14_20 : List AO := [{ dst := (some 3), op := .assign (.const (.string ⟨#[34]⟩)), ty := 9, guard := none }]
def c14_20 : AC := .region o14_20 []
theorem n14_20 : Run Cx 14 T ds ro (.code c14_20 :: k) H Q = RunOps Cx 14 T ds ro o14_20 k H Q := run_region
def o14_23 : List AO := [{ dst := (some 4), op := .assign (.const (.int .i64 0)), ty := 3, guard := none }]
def c14_23 : AC := .region o14_23 []
theorem n14_23 : Run Cx 14 T ds ro (.code c14_23 :: k) H Q = RunOps Cx 14 T ds ro o14_23 k H Q := run_region
def o14_28 : List AO := [{ dst := (some 24), op := .move (.tmp 4), ty := 3, guard := none },
  { dst := (some 25), op := .fieldAddr 25 (.tmp 1) 2, ty := 0, guard := none },
  { dst := (some 26), op := .load 9 (.tmp 25), ty := 9, guard := none },
  { dst := (some 27), op := .call { callee := (.builtin .len), args := #[(.tmp 26)], argTypes := #[9] }, ty := 3, guard := none },
  { dst := (some 28), op := .binOp .lss 3 (.tmp 24) (.tmp 27) 3, ty := 4, guard := none }]
def c14_28 : AC := .region o14_28 []
theorem n14_28 : Run Cx 14 T ds ro (.code c14_28 :: k) H Q = RunOps Cx 14 T ds ro o14_28 k H Q := run_region
def c14_30 : AC := .skip
theorem n14_30 : Run Cx 14 T ds ro (.code c14_30 :: k) H Q = Run Cx 14 T ds ro (k) H Q := run_skip
def c14_31 : AC := .exit 1
theorem n14_31 : Run Cx 14 T ds ro (.code c14_31 :: k) H Q = RunExit Cx 14 T ds ro 1 k k H Q := run_exit_start
def c14_29 : AC := .cond (.tmp 28) c14_30 c14_31
theorem n14_29 : Run Cx 14 T ds ro (.code c14_29 :: k) H Q = RunCond Cx 14 T ds ro (.tmp 28) (ev T (.tmp 28)) c14_30 c14_31 k H Q := run_condC
def c14_27 : AC := .seq c14_28 c14_29
theorem n14_27 : Run Cx 14 T ds ro (.code c14_27 :: k) H Q = Run Cx 14 T ds ro (.code c14_28 :: .code c14_29 :: k) H Q := run_seq
def o14_35 : List AO := [{ dst := (some 31), op := .fieldAddr 25 (.tmp 1) 2, ty := 0, guard := none },
  { dst := (some 32), op := .load 9 (.tmp 31), ty := 9, guard := none },
  { dst := (some 33), op := .move (.tmp 4), ty := 3, guard := none },
  { dst := (some 34), op := .index 9 (.tmp 32) (.tmp 33), ty := 5, guard := none },
  { dst := (some 35), op := .call { callee := (.value (.func 34)), args := #[(.tmp 34)], argTypes := #[5] }, ty := 4, guard := none }]
def c14_35 : AC := .region o14_35 []
theorem n14_35 : Run Cx 14 T ds ro (.code c14_35 :: k) H Q = RunOps Cx 14 T ds ro o14_35 k H Q := run_region
def o14_37 : List AO := [{ dst := (some 36), op := .move (.tmp 3), ty := 9, guard := none },
  { dst := (some 37), op := .fieldAddr 25 (.tmp 1) 2, ty := 0, guard := none },
  { dst := (some 38), op := .load 9 (.tmp 37), ty := 9, guard := none },
  { dst := (some 39), op := .move (.tmp 4), ty := 3, guard := none },
  { dst := (some 40), op := .move (.tmp 4), ty := 3, guard := none },
  { dst := (some 41), op := .binOp .add 3 (.tmp 40) (.const (.int .i64 1)) 3, ty := 3, guard := none },
  { dst := (some 42), op := .slice 9 (.tmp 38) (some (.tmp 39)) (some (.tmp 41)) none, ty := 9, guard := none },
  { dst := (some 43), op := .binOp .add 9 (.tmp 36) (.tmp 42) 9, ty := 9, guard := none },
  { dst := (some 3), op := .assign (.tmp 43), ty := 9, guard := none }]
def c14_37 : AC := .region o14_37 []
theorem n14_37 : Run Cx 14 T ds ro (.code c14_37 :: k) H Q = RunOps Cx 14 T ds ro o14_37 k H Q := run_region
def o14_38 : List AO := [{ dst := (some 44), op := .move (.tmp 3), ty := 9, guard := none },
  { dst := (some 45), op := .binOp .add 9 (.tmp 44) (.const (.string ⟨#[92]⟩)) 9, ty := 9, guard := none },
  { dst := (some 46), op := .fieldAddr 25 (.tmp 1) 2, ty := 0, guard := none },
  { dst := (some 47), op := .load 9 (.tmp 46), ty := 9, guard := none },
  { dst := (some 48), op := .move (.tmp 4), ty := 3, guard := none },
  { dst := (some 49), op := .index 9 (.tmp 47) (.tmp 48), ty := 5, guard := none },
  { dst := (some 50), op := .convert 5 3 (.tmp 49), ty := 3, guard := none },
  { dst := (some 51), op := .binOp .quo 3 (.tmp 50) (.const (.int .i64 16)) 3, ty := 3, guard := none },
  { dst := (some 52), op := .call { callee := (.value (.func 35)), args := #[(.tmp 51)], argTypes := #[3] }, ty := 9, guard := none },
  { dst := (some 53), op := .binOp .add 9 (.tmp 45) (.tmp 52) 9, ty := 9, guard := none },
  { dst := (some 54), op := .fieldAddr 25 (.tmp 1) 2, ty := 0, guard := none },
  { dst := (some 55), op := .load 9 (.tmp 54), ty := 9, guard := none },
  { dst := (some 56), op := .move (.tmp 4), ty := 3, guard := none },
  { dst := (some 57), op := .index 9 (.tmp 55) (.tmp 56), ty := 5, guard := none },
  { dst := (some 58), op := .convert 5 3 (.tmp 57), ty := 3, guard := none },
  { dst := (some 59), op := .binOp .rem 3 (.tmp 58) (.const (.int .i64 16)) 3, ty := 3, guard := none },
  { dst := (some 60), op := .call { callee := (.value (.func 35)), args := #[(.tmp 59)], argTypes := #[3] }, ty := 9, guard := none },
  { dst := (some 61), op := .binOp .add 9 (.tmp 53) (.tmp 60) 9, ty := 9, guard := none },
  { dst := (some 3), op := .assign (.tmp 61), ty := 9, guard := none }]
def c14_38 : AC := .region o14_38 []
theorem n14_38 : Run Cx 14 T ds ro (.code c14_38 :: k) H Q = RunOps Cx 14 T ds ro o14_38 k H Q := run_region
def c14_36 : AC := .cond (.tmp 35) c14_37 c14_38
theorem n14_36 : Run Cx 14 T ds ro (.code c14_36 :: k) H Q = RunCond Cx 14 T ds ro (.tmp 35) (ev T (.tmp 35)) c14_37 c14_38 k H Q := run_condC
def c14_34 : AC := .seq c14_35 c14_36
theorem n14_34 : Run Cx 14 T ds ro (.code c14_34 :: k) H Q = Run Cx 14 T ds ro (.code c14_35 :: .code c14_36 :: k) H Q := run_seq
def c14_33 : AC := .block 2 c14_34
theorem n14_33 : Run Cx 14 T ds ro (.code c14_33 :: k) H Q = Run Cx 14 T ds ro (.code c14_34 :: .inBlock 2 :: k) H Q := run_block
def o14_39 : List AO := [{ dst := (some 29), op := .move (.tmp 4), ty := 3, guard := none },
  { dst := (some 30), op := .binOp .add 3 (.tmp 29) (.const (.int .i64 1)) 3, ty := 3, guard := none },
  { dst := (some 4), op := .assign (.tmp 30), ty := 3, guard := none }]
def c14_39 : AC := .region o14_39 []
theorem n14_39 : Run Cx 14 T ds ro (.code c14_39 :: k) H Q = RunOps Cx 14 T ds ro o14_39 k H Q := run_region
def c14_32 : AC := .seq c14_33 c14_39
theorem n14_32 : Run Cx 14 T ds ro (.code c14_32 :: k) H Q = Run Cx 14 T ds ro (.code c14_33 :: .code c14_39 :: k) H Q := run_seq
def c14_26 : AC := .seq c14_27 c14_32
theorem n14_26 : Run Cx 14 T ds ro (.code c14_26 :: k) H Q = Run Cx 14 T ds ro (.code c14_27 :: .code c14_32 :: k) H Q := run_seq
def c14_25 : AC := .loop c14_26
theorem n14_25 : Run Cx 14 T ds ro (.code c14_25 :: k) H Q = Run Cx 14 T ds ro (.inLoop c14_26 :: k) H Q := run_loop'
def c14_24 : AC := .block 1 c14_25
theorem n14_24 : Run Cx 14 T ds ro (.code c14_24 :: k) H Q = Run Cx 14 T ds ro (.code c14_25 :: .inBlock 1 :: k) H Q := run_block
def c14_22 : AC := .seq c14_23 c14_24
theorem n14_22 : Run Cx 14 T ds ro (.code c14_22 :: k) H Q = Run Cx 14 T ds ro (.code c14_23 :: .code c14_24 :: k) H Q := run_seq
def o14_41 : List AO := [{ dst := (some 62), op := .move (.tmp 3), ty := 9, guard := none },
  { dst := (some 63), op := .binOp .add 9 (.tmp 62) (.const (.string ⟨#[34]⟩)) 9, ty := 9, guard := none },
  { dst := (some 2), op := .assign (.tmp 63), ty := 9, guard := none }]
def c14_41 : AC := .region o14_41 []
theorem n14_41 : Run Cx 14 T ds ro (.code c14_41 :: k) H Q = RunOps Cx 14 T ds ro o14_41 k H Q := run_region
def c14_42 : AC := .ret
theorem n14_42 : Run Cx 14 T [] none (.code c14_42 :: k) H Q = RunRes Cx T H Q (resOf Cx 14) := run_ret
def c14_40 : AC := .seq c14_41 c14_42
theorem n14_40 : Run Cx 14 T ds ro (.code c14_40 :: k) H Q = Run Cx 14 T ds ro (.code c14_41 :: .code c14_42 :: k) H Q := run_seq
def c14_21 : AC := .seq c14_22 c14_40
theorem n14_21 : Run Cx 14 T ds ro (.code c14_21 :: k) H Q = Run Cx 14 T ds ro (.code c14_22 :: .code c14_40 :: k) H Q := run_seq
def c14_19 : AC := .seq c14_20 c14_21
theorem n14_19 : Run Cx 14 T ds ro (.code c14_19 :: k) H Q = Run Cx 14 T ds ro (.code c14_20 :: .code c14_21 :: k) H Q := run_seq
def c14_2 : AC := .seq c14_3 c14_19
theorem n14_2 : Run Cx 14 T ds ro (.code c14_2 :: k) H Q = Run Cx 14 T ds ro (.code c14_3 :: .code c14_19 :: k) H Q := run_seq
def c14_0 : AC := .seq c14_1 c14_2
theorem n14_0 : Run Cx 14 T ds ro (.code c14_0 :: k) H Q = Run Cx 14 T ds ro (.code c14_1 :: .code c14_2 :: k) H Q := run_seq
theorem body14 : bodyOf Cx 14 = some c14_0 := by kernel_rfl
theorem res14 : resOf Cx 14 = some [.tmp 2] := by kernel_rfl
theorem pure14 : Cx.pure 14 = true := by kernel_rfl
-- RULES 14: n14_0, n14_1, n14_2, n14_3, n14_4, n14_5, n14_6, n14_7, n14_8, n14_9, n14_10, n14_11, n14_12, n14_13, n14_14, n14_15, n14_16, n14_17, n14_18, n14_19, n14_20, n14_21, n14_22, n14_23, n14_24, n14_25, n14_26, n14_27, n14_28, n14_29, n14_30, n14_31, n14_32, n14_33, n14_34, n14_35, n14_36, n14_37, n14_38, n14_39, n14_40, n14_41, n14_42
def o15_1 : List AO := [{ dst := (some 2), op := .box 25 (.tmp 0), ty := 0, guard := none },
  { dst := (some 3), op := .box 25 (.tmp 1), ty := 0, guard := none },
  { dst := (some 4), op := .assign (.const (.int .i64 0)), ty := 3, guard := none }]
def c15_1 : AC := .region o15_1 []
theorem n15_1 : Run Cx 15 T ds ro (.code c15_1 :: k) H Q = RunOps Cx 15 T ds ro o15_1 k H Q := run_region
def o15_4 : List AO := [{ dst := (some 5), op := .load 25 (.tmp 2), ty := 25, guard := none },
  { dst := (some 6), op := .load 25 (.tmp 3), ty := 25, guard := none },
  { dst := (some 7), op := .call { callee := (.value (.func 36)), args := #[(.tmp 5), (.tmp 6)], argTypes := #[25, 25] }, ty := 4, guard := none }]
def c15_4 : AC := .region o15_4 []
theorem n15_4 : Run Cx 15 T ds ro (.code c15_4 :: k) H Q = RunOps Cx 15 T ds ro o15_4 k H Q := run_region
def o15_7 : List AO := [{ dst := (some 4), op := .assign (.const (.int .i64 (-1))), ty := 3, guard := none }]
def c15_7 : AC := .region o15_7 []
theorem n15_7 : Run Cx 15 T ds ro (.code c15_7 :: k) H Q = RunOps Cx 15 T ds ro o15_7 k H Q := run_region
def c15_8 : AC := .ret
theorem n15_8 : Run Cx 15 T [] none (.code c15_8 :: k) H Q = RunRes Cx T H Q (resOf Cx 15) := run_ret
def c15_6 : AC := .seq c15_7 c15_8
theorem n15_6 : Run Cx 15 T ds ro (.code c15_6 :: k) H Q = Run Cx 15 T ds ro (.code c15_7 :: .code c15_8 :: k) H Q := run_seq
def c15_9 : AC := .skip
theorem n15_9 : Run Cx 15 T ds ro (.code c15_9 :: k) H Q = Run Cx 15 T ds ro (k) H Q := run_skip
def c15_5 : AC := .cond (.tmp 7) c15_6 c15_9
theorem n15_5 : Run Cx 15 T ds ro (.code c15_5 :: k) H Q = RunCond Cx 15 T ds ro (.tmp 7) (ev T (.tmp 7)) c15_6 c15_9 k H Q := run_condC
def c15_3 : AC := .seq c15_4 c15_5
theorem n15_3 : Run Cx 15 T ds ro (.code c15_3 :: k) H Q = Run Cx 15 T ds ro (.code c15_4 :: .code c15_5 :: k) H Q := run_seq
def o15_12 : List AO := [{ dst := (some 8), op := .load 25 (.tmp 3), ty := 25, guard := none },
  { dst := (some 9), op := .load 25 (.tmp 2), ty := 25, guard := none },
  { dst := (some 10), op := .call { callee := (.value (.func 36)), args := #[(.tmp 8), (.tmp 9)], argTypes := #[25, 25] }, ty := 4, guard := none }]
def c15_12 : AC := .region o15_12 []
theorem n15_12 : Run Cx 15 T ds ro (.code c15_12 :: k) H Q = RunOps Cx 15 T ds ro o15_12 k H Q := run_region
def o15_15 : List AO := [{ dst := (some 4), op := .assign (.const (.int .i64 1)), ty := 3, guard := none }]
def c15_15 : AC := .region o15_15 []
theorem n15_15 : Run Cx 15 T ds ro (.code c15_15 :: k) H Q = RunOps Cx 15 T ds ro o15_15 k H Q := run_region
def c15_16 : AC := .ret
theorem n15_16 : Run Cx 15 T [] none (.code c15_16 :: k) H Q = RunRes Cx T H Q (resOf Cx 15) := run_ret
def c15_14 : AC := .seq c15_15 c15_16
theorem n15_14 : Run Cx 15 T ds ro (.code c15_14 :: k) H Q = Run Cx 15 T ds ro (.code c15_15 :: .code c15_16 :: k) H Q := run_seq
def c15_17 : AC := .skip
theorem n15_17 : Run Cx 15 T ds ro (.code c15_17 :: k) H Q = Run Cx 15 T ds ro (k) H Q := run_skip
def c15_13 : AC := .cond (.tmp 10) c15_14 c15_17
theorem n15_13 : Run Cx 15 T ds ro (.code c15_13 :: k) H Q = RunCond Cx 15 T ds ro (.tmp 10) (ev T (.tmp 10)) c15_14 c15_17 k H Q := run_condC
def c15_11 : AC := .seq c15_12 c15_13
theorem n15_11 : Run Cx 15 T ds ro (.code c15_11 :: k) H Q = Run Cx 15 T ds ro (.code c15_12 :: .code c15_13 :: k) H Q := run_seq
def o15_19 : List AO := [{ dst := (some 4), op := .assign (.const (.int .i64 0)), ty := 3, guard := none }]
def c15_19 : AC := .region o15_19 []
theorem n15_19 : Run Cx 15 T ds ro (.code c15_19 :: k) H Q = RunOps Cx 15 T ds ro o15_19 k H Q := run_region
def c15_20 : AC := .ret
theorem n15_20 : Run Cx 15 T [] none (.code c15_20 :: k) H Q = RunRes Cx T H Q (resOf Cx 15) := run_ret
def c15_18 : AC := .seq c15_19 c15_20
theorem n15_18 : Run Cx 15 T ds ro (.code c15_18 :: k) H Q = Run Cx 15 T ds ro (.code c15_19 :: .code c15_20 :: k) H Q := run_seq
def c15_10 : AC := .seq c15_11 c15_18
theorem n15_10 : Run Cx 15 T ds ro (.code c15_10 :: k) H Q = Run Cx 15 T ds ro (.code c15_11 :: .code c15_18 :: k) H Q := run_seq
def c15_2 : AC := .seq c15_3 c15_10
theorem n15_2 : Run Cx 15 T ds ro (.code c15_2 :: k) H Q = Run Cx 15 T ds ro (.code c15_3 :: .code c15_10 :: k) H Q := run_seq
def c15_0 : AC := .seq c15_1 c15_2
theorem n15_0 : Run Cx 15 T ds ro (.code c15_0 :: k) H Q = Run Cx 15 T ds ro (.code c15_1 :: .code c15_2 :: k) H Q := run_seq
theorem body15 : bodyOf Cx 15 = some c15_0 := by kernel_rfl
theorem res15 : resOf Cx 15 = some [.tmp 4] := by kernel_rfl
theorem pure15 : Cx.pure 15 = true := by kernel_rfl
-- RULES 15: n15_0, n15_1, n15_2, n15_3, n15_4, n15_5, n15_6, n15_7, n15_8, n15_9, n15_10, n15_11, n15_12, n15_13, n15_14, n15_15, n15_16, n15_17, n15_18, n15_19, n15_20
def o16_1 : List AO := [{ dst := (some 2), op := .assign (.const (.pointer none)), ty := 32, guard := none }]
def c16_1 : AC := .region o16_1 []
theorem n16_1 : Run Cx 16 T ds ro (.code c16_1 :: k) H Q = RunOps Cx 16 T ds ro o16_1 k H Q := run_region
def o16_3 : List AO := [{ dst := (some 3), op := .move (.tmp 0), ty := 9, guard := none },
  { dst := (some 4), op := .build 49 #[(0, (.tmp 3))], ty := 49, guard := none },
  { dst := (some 5), op := .box 49 (.tmp 4), ty := 32, guard := none },
  { dst := (some 2), op := .assign (.tmp 5), ty := 32, guard := none }]
def c16_3 : AC := .region o16_3 []
theorem n16_3 : Run Cx 16 T ds ro (.code c16_3 :: k) H Q = RunOps Cx 16 T ds ro o16_3 k H Q := run_region
def c16_4 : AC := .ret
theorem n16_4 : Run Cx 16 T [] none (.code c16_4 :: k) H Q = RunRes Cx T H Q (resOf Cx 16) := run_ret
def c16_2 : AC := .seq c16_3 c16_4
theorem n16_2 : Run Cx 16 T ds ro (.code c16_2 :: k) H Q = Run Cx 16 T ds ro (.code c16_3 :: .code c16_4 :: k) H Q := run_seq
def c16_0 : AC := .seq c16_1 c16_2
theorem n16_0 : Run Cx 16 T ds ro (.code c16_0 :: k) H Q = Run Cx 16 T ds ro (.code c16_1 :: .code c16_2 :: k) H Q := run_seq
theorem body16 : bodyOf Cx 16 = some c16_0 := by kernel_rfl
theorem res16 : resOf Cx 16 = some [.tmp 2] := by kernel_rfl
theorem pure16 : Cx.pure 16 = false := by kernel_rfl
-- RULES 16: n16_0, n16_1, n16_2, n16_3, n16_4
def o17_1 : List AO := [{ dst := (some 2), op := .alloc 25, ty := 0, guard := none },
  { dst := (some 3), op := .assign (.const (.int .i64 0)), ty := 34, guard := none }]
def c17_1 : AC := .region o17_1 []
theorem n17_1 : Run Cx 17 T ds ro (.code c17_1 :: k) H Q = RunOps Cx 17 T ds ro o17_1 k H Q := run_region
def o17_3 : List AO := [{ dst := (some 11), op := .move (.tmp 0), ty := 32, guard := none },
  { dst := (some 12), op := .call { callee := (.value (.func 37)), args := #[(.tmp 11)], argTypes := #[32] }, ty := 50, guard := none },
  { dst := (some 10), op := .move (.tmp 12), ty := 50, guard := none },
  { dst := (some 13), op := .extract (.tmp 10) 0, ty := 3, guard := none },
  { dst := (some 14), op := .extract (.tmp 10) 1, ty := 34, guard := none },
  { dst := (some 4), op := .assign (.tmp 13), ty := 3, guard := none },
  { dst := (some 5), op := .assign (.tmp 14), ty := 34, guard := none }]
def c17_3 : AC := .region o17_3 []
theorem n17_3 : Run Cx 17 T ds ro (.code c17_3 :: k) H Q = RunOps Cx 17 T ds ro o17_3 k H Q := run_region
def o17_6 : List AO := [{ dst := (some 15), op := .move (.tmp 5), ty := 34, guard := none },
  { dst := (some 16), op := .binOp .neq 34 (.tmp 15) (.const (.int .i64 0)) 34, ty := 4, guard := none }]
def c17_6 : AC := .region o17_6 []
theorem n17_6 : Run Cx 17 T ds ro (.code c17_6 :: k) H Q = RunOps Cx 17 T ds ro o17_6 k H Q := run_region
def o17_9 : List AO := [{ dst := (some 17), op := .build 25 #[], ty := 25, guard := none },
  { dst := (some 18), op := .move (.tmp 5), ty := 34, guard := none },
  { dst := none, op := .store 25 (.tmp 2) (.tmp 17), ty := 0, guard := none },
  { dst := (some 3), op := .assign (.tmp 18), ty := 34, guard := none }]
def c17_9 : AC := .region o17_9 []
theorem n17_9 : Run Cx 17 T ds ro (.code c17_9 :: k) H Q = RunOps Cx 17 T ds ro o17_9 k H Q := run_region
def c17_10 : AC := .ret
theorem n17_10 : Run Cx 17 T [] none (.code c17_10 :: k) H Q = RunRes Cx T H Q (resOf Cx 17) := run_ret
def c17_8 : AC := .seq c17_9 c17_10
theorem n17_8 : Run Cx 17 T ds ro (.code c17_8 :: k) H Q = Run Cx 17 T ds ro (.code c17_9 :: .code c17_10 :: k) H Q := run_seq
def c17_11 : AC := .skip
theorem n17_11 : Run Cx 17 T ds ro (.code c17_11 :: k) H Q = Run Cx 17 T ds ro (k) H Q := run_skip
def c17_7 : AC := .cond (.tmp 16) c17_8 c17_11
theorem n17_7 : Run Cx 17 T ds ro (.code c17_7 :: k) H Q = RunCond Cx 17 T ds ro (.tmp 16) (ev T (.tmp 16)) c17_8 c17_11 k H Q := run_condC
def c17_5 : AC := .seq c17_6 c17_7
theorem n17_5 : Run Cx 17 T ds ro (.code c17_5 :: k) H Q = Run Cx 17 T ds ro (.code c17_6 :: .code c17_7 :: k) H Q := run_seq
def o17_13 : List AO := [{ dst := (some 19), op := .move (.tmp 4), ty := 3, guard := none },
  { dst := (some 20), op := .build 25 #[(0, (.tmp 19))], ty := 25, guard := none },
  { dst := (some 6), op := .alloc 25, ty := 0, guard := none },
  { dst := none, op := .store 25 (.tmp 6) (.tmp 20), ty := 0, guard := none }]
def c17_13 : AC := .region o17_13 []
theorem n17_13 : Run Cx 17 T ds ro (.code c17_13 :: k) H Q = RunOps Cx 17 T ds ro o17_13 k H Q := run_region
def o17_16 : List AO := [{ dst := (some 21), op := .move (.tmp 4), ty := 3, guard := none }]
def c17_16 : AC := .region o17_16 []
theorem n17_16 : Run Cx 17 T ds ro (.code c17_16 :: k) H Q = RunOps Cx 17 T ds ro o17_16 k H Q := run_region
def o17_19 : List AO := [{ dst := (some 23), op := .binOp .eql 3 (.tmp 21) (.const (.int .i64 0)) 3, ty := 4, guard := none },
  { dst := (some 22), op := .assign (.tmp 23), ty := 4, guard := none }]
def c17_19 : AC := .region o17_19 []
theorem n17_19 : Run Cx 17 T ds ro (.code c17_19 :: k) H Q = RunOps Cx 17 T ds ro o17_19 k H Q := run_region
def o17_22 : List AO := [{ dst := (some 25), op := .move (.tmp 0), ty := 32, guard := none },
  { dst := (some 26), op := .makeFunc (.func 39) #[(.tmp 25)] #[], ty := 51, guard := none },
  { dst := (some 27), op := .move (.tmp 0), ty := 32, guard := none },
  { dst := (some 28), op := .makeFunc (.func 37) #[(.tmp 27)] #[], ty := 51, guard := none },
  { dst := (some 29), op := .call { callee := (.value (.func 38)), args := #[(.tmp 26), (.tmp 28)], argTypes := #[51, 51] }, ty := 52, guard := none },
  { dst := (some 24), op := .move (.tmp 29), ty := 52, guard := none },
  { dst := (some 30), op := .extract (.tmp 24) 0, ty := 3, guard := none },
  { dst := (some 31), op := .extract (.tmp 24) 1, ty := 3, guard := none },
  { dst := (some 32), op := .extract (.tmp 24) 2, ty := 34, guard := none },
  { dst := (some 7), op := .assign (.tmp 30), ty := 3, guard := none },
  { dst := (some 8), op := .assign (.tmp 31), ty := 3, guard := none },
  { dst := (some 9), op := .assign (.tmp 32), ty := 34, guard := none }]
def c17_22 : AC := .region o17_22 []
theorem n17_22 : Run Cx 17 T ds ro (.code c17_22 :: k) H Q = RunOps Cx 17 T ds ro o17_22 k H Q := run_region
def o17_25 : List AO := [{ dst := (some 33), op := .move (.tmp 9), ty := 34, guard := none },
  { dst := (some 34), op := .binOp .eql 34 (.tmp 33) (.const (.int .i64 0)) 34, ty := 4, guard := none },
  { dst := (some 35), op := .move (.tmp 34), ty := 4, guard := none },
  { dst := (some 36), op := .move (.tmp 8), ty := 3, guard := (some (35, true)) },
  { dst := (some 37), op := .binOp .geq 3 (.tmp 36) (.const (.int .i64 134217728)) 3, ty := 4, guard := (some (35, true)) },
  { dst := (some 38), op := .move (.tmp 37), ty := 4, guard := (some (35, true)) },
  { dst := (some 39), op := .move (.tmp 7), ty := 3, guard := (some (38, false)) },
  { dst := (some 40), op := .binOp .lss 3 (.tmp 39) (.const (.int .i64 (-134217728))) 3, ty := 4, guard := (some (38, false)) },
  { dst := (some 41), op := .pick (.tmp 38) (.const (.bool true)) (.tmp 40), ty := 4, guard := (some (35, true)) },
  { dst := (some 42), op := .move (.tmp 41), ty := 4, guard := (some (35, true)) },
  { dst := (some 43), op := .move (.tmp 7), ty := 3, guard := (some (42, false)) },
  { dst := (some 44), op := .binOp .gtr 3 (.tmp 43) (.const (.int .i64 134217728)) 3, ty := 4, guard := (some (42, false)) },
  { dst := (some 45), op := .pick (.tmp 42) (.const (.bool true)) (.tmp 44), ty := 4, guard := (some (35, true)) },
  { dst := (some 46), op := .pick (.tmp 35) (.tmp 45) (.const (.bool false)), ty := 4, guard := none }]
def c17_25 : AC := .region o17_25 []
theorem n17_25 : Run Cx 17 T ds ro (.code c17_25 :: k) H Q = RunOps Cx 17 T ds ro o17_25 k H Q := run_region
def o17_27 : List AO := [{ dst := (some 9), op := .assign (.const (.int .i64 6)), ty := 34, guard := none }]
def c17_27 : AC := .region o17_27 []
theorem n17_27 : Run Cx 17 T ds ro (.code c17_27 :: k) H Q = RunOps Cx 17 T ds ro o17_27 k H Q := run_region
def c17_28 : AC := .skip
theorem n17_28 : Run Cx 17 T ds ro (.code c17_28 :: k) H Q = Run Cx 17 T ds ro (k) H Q := run_skip
def c17_26 : AC := .cond (.tmp 46) c17_27 c17_28
theorem n17_26 : Run Cx 17 T ds ro (.code c17_26 :: k) H Q = RunCond Cx 17 T ds ro (.tmp 46) (ev T (.tmp 46)) c17_27 c17_28 k H Q := run_condC
def c17_24 : AC := .seq c17_25 c17_26
theorem n17_24 : Run Cx 17 T ds ro (.code c17_24 :: k) H Q = Run Cx 17 T ds ro (.code c17_25 :: .code c17_26 :: k) H Q := run_seq
def o17_29 : List AO := [{ dst := (some 47), op := .move (.tmp 7), ty := 3, guard := none },
  { dst := (some 48), op := .binOp .mul 3 (.tmp 47) (.const (.int .i64 134217728)) 3, ty := 3, guard := none },
  { dst := (some 49), op := .move (.tmp 8), ty := 3, guard := none },
  { dst := (some 50), op := .binOp .add 3 (.tmp 48) (.tmp 49) 3, ty := 3, guard := none },
  { dst := (some 51), op := .move (.tmp 9), ty := 34, guard := none },
  { dst := (some 52), op := .fieldAddr 25 (.tmp 6) 1, ty := 0, guard := none },
  { dst := none, op := .store 3 (.tmp 52) (.tmp 50), ty := 0, guard := none },
  { dst := (some 5), op := .assign (.tmp 51), ty := 34, guard := none }]
def c17_29 : AC := .region o17_29 []
theorem n17_29 : Run Cx 17 T ds ro (.code c17_29 :: k) H Q = RunOps Cx 17 T ds ro o17_29 k H Q := run_region
def c17_23 : AC := .seq c17_24 c17_29
theorem n17_23 : Run Cx 17 T ds ro (.code c17_23 :: k) H Q = Run Cx 17 T ds ro (.code c17_24 :: .code c17_29 :: k) H Q := run_seq
def c17_21 : AC := .seq c17_22 c17_23
theorem n17_21 : Run Cx 17 T ds ro (.code c17_21 :: k) H Q = Run Cx 17 T ds ro (.code c17_22 :: .code c17_23 :: k) H Q := run_seq
def o17_31 : List AO := [{ dst := (some 54), op := .binOp .eql 3 (.tmp 21) (.const (.int .i64 1)) 3, ty := 4, guard := none },
  { dst := (some 53), op := .assign (.tmp 54), ty := 4, guard := none }]
def c17_31 : AC := .region o17_31 []
theorem n17_31 : Run Cx 17 T ds ro (.code c17_31 :: k) H Q = RunOps Cx 17 T ds ro o17_31 k H Q := run_region
def o17_33 : List AO := [{ dst := (some 56), op := .move (.tmp 0), ty := 32, guard := none },
  { dst := (some 57), op := .call { callee := (.value (.func 40)), args := #[(.tmp 56), (.const (.int .i64 4096))], argTypes := #[32, 3] }, ty := 54, guard := none },
  { dst := (some 55), op := .move (.tmp 57), ty := 54, guard := none },
  { dst := (some 58), op := .extract (.tmp 55) 0, ty := 9, guard := none },
  { dst := (some 59), op := .extract (.tmp 55) 1, ty := 34, guard := none },
  { dst := (some 60), op := .fieldAddr 25 (.tmp 6) 2, ty := 0, guard := none },
  { dst := none, op := .store 9 (.tmp 60) (.tmp 58), ty := 0, guard := none },
  { dst := (some 5), op := .assign (.tmp 59), ty := 34, guard := none }]
def c17_33 : AC := .region o17_33 []
theorem n17_33 : Run Cx 17 T ds ro (.code c17_33 :: k) H Q = RunOps Cx 17 T ds ro o17_33 k H Q := run_region
def o17_35 : List AO := [{ dst := (some 62), op := .binOp .eql 3 (.tmp 21) (.const (.int .i64 2)) 3, ty := 4, guard := none },
  { dst := (some 61), op := .assign (.tmp 62), ty := 4, guard := none }]
def c17_35 : AC := .region o17_35 []
theorem n17_35 : Run Cx 17 T ds ro (.code c17_35 :: k) H Q = RunOps Cx 17 T ds ro o17_35 k H Q := run_region
def o17_37 : List AO := [{ dst := (some 64), op := .move (.tmp 0), ty := 32, guard := none },
  { dst := (some 65), op := .makeFunc (.func 39) #[(.tmp 64)] #[], ty := 51, guard := none },
  { dst := (some 66), op := .move (.tmp 0), ty := 32, guard := none },
  { dst := (some 67), op := .makeFunc (.func 39) #[(.tmp 66)] #[], ty := 51, guard := none },
  { dst := (some 68), op := .call { callee := (.value (.func 38)), args := #[(.tmp 65), (.tmp 67)], argTypes := #[51, 51] }, ty := 52, guard := none },
  { dst := (some 63), op := .move (.tmp 68), ty := 52, guard := none },
  { dst := (some 69), op := .extract (.tmp 63) 0, ty := 3, guard := none },
  { dst := (some 70), op := .extract (.tmp 63) 1, ty := 3, guard := none },
  { dst := (some 71), op := .extract (.tmp 63) 2, ty := 34, guard := none },
  { dst := (some 72), op := .fieldAddr 25 (.tmp 6) 3, ty := 0, guard := none },
  { dst := (some 73), op := .fieldAddr 23 (.tmp 72) 0, ty := 0, guard := none },
  { dst := none, op := .store 3 (.tmp 73) (.tmp 69), ty := 0, guard := none },
  { dst := (some 74), op := .fieldAddr 25 (.tmp 6) 3, ty := 0, guard := none },
  { dst := (some 75), op := .fieldAddr 23 (.tmp 74) 1, ty := 0, guard := none },
  { dst := none, op := .store 3 (.tmp 75) (.tmp 70), ty := 0, guard := none },
  { dst := (some 5), op := .assign (.tmp 71), ty := 34, guard := none }]
def c17_37 : AC := .region o17_37 []
theorem n17_37 : Run Cx 17 T ds ro (.code c17_37 :: k) H Q = RunOps Cx 17 T ds ro o17_37 k H Q := run_region
def c17_38 : AC := .skip
theorem n17_38 : Run Cx 17 T ds ro (.code c17_38 :: k) H Q = Run Cx 17 T ds ro (k) H Q := run_skip
def c17_36 : AC := .cond (.tmp 61) c17_37 c17_38
theorem n17_36 : Run Cx 17 T ds ro (.code c17_36 :: k) H Q = RunCond Cx 17 T ds ro (.tmp 61) (ev T (.tmp 61)) c17_37 c17_38 k H Q := run_condC
def c17_34 : AC := .seq c17_35 c17_36
theorem n17_34 : Run Cx 17 T ds ro (.code c17_34 :: k) H Q = Run Cx 17 T ds ro (.code c17_35 :: .code c17_36 :: k) H Q := run_seq
def c17_32 : AC := .cond (.tmp 53) c17_33 c17_34
theorem n17_32 : Run Cx 17 T ds ro (.code c17_32 :: k) H Q = RunCond Cx 17 T ds ro (.tmp 53) (ev T (.tmp 53)) c17_33 c17_34 k H Q := run_condC
def c17_30 : AC := .seq c17_31 c17_32
theorem n17_30 : Run Cx 17 T ds ro (.code c17_30 :: k) H Q = Run Cx 17 T ds ro (.code c17_31 :: .code c17_32 :: k) H Q := run_seq
def c17_20 : AC := .cond (.tmp 22) c17_21 c17_30
theorem n17_20 : Run Cx 17 T ds ro (.code c17_20 :: k) H Q = RunCond Cx 17 T ds ro (.tmp 22) (ev T (.tmp 22)) c17_21 c17_30 k H Q := run_condC
def c17_18 : AC := .seq c17_19 c17_20
theorem n17_18 : Run Cx 17 T ds ro (.code c17_18 :: k) H Q = Run Cx 17 T ds ro (.code c17_19 :: .code c17_20 :: k) H Q := run_seq
def c17_17 : AC := .block 0 c17_18
theorem n17_17 : Run Cx 17 T ds ro (.code c17_17 :: k) H Q = Run Cx 17 T ds ro (.code c17_18 :: .inBlock 0 :: k) H Q := run_block
def c17_15 : AC := .seq c17_16 c17_17
theorem n17_15 : Run Cx 17 T ds ro (.code c17_15 :: k) H Q = Run Cx 17 T ds ro (.code c17_16 :: .code c17_17 :: k) H Q := run_seq
def o17_42 : List AO := [{ dst := (some 77), op := .move (.tmp 5), ty := 34, guard := none },
  { dst := (some 78), op := .binOp .neq 34 (.tmp 77) (.const (.int .i64 0)) 34, ty := 4, guard := none },
  { dst := (some 76), op := .assign (.tmp 78), ty := 4, guard := none }]
def c17_42 : AC := .region o17_42 []
theorem n17_42 : Run Cx 17 T ds ro (.code c17_42 :: k) H Q = RunOps Cx 17 T ds ro o17_42 k H Q := run_region
def o17_45 : List AO := [{ dst := (some 79), op := .build 25 #[], ty := 25, guard := none },
  { dst := (some 80), op := .move (.tmp 5), ty := 34, guard := none },
  { dst := none, op := .store 25 (.tmp 2) (.tmp 79), ty := 0, guard := none },
  { dst := (some 3), op := .assign (.tmp 80), ty := 34, guard := none }]
def c17_45 : AC := .region o17_45 []
theorem n17_45 : Run Cx 17 T ds ro (.code c17_45 :: k) H Q = RunOps Cx 17 T ds ro o17_45 k H Q := run_region
def c17_46 : AC := .ret
theorem n17_46 : Run Cx 17 T [] none (.code c17_46 :: k) H Q = RunRes Cx T H Q (resOf Cx 17) := run_ret
def c17_44 : AC := .seq c17_45 c17_46
theorem n17_44 : Run Cx 17 T ds ro (.code c17_44 :: k) H Q = Run Cx 17 T ds ro (.code c17_45 :: .code c17_46 :: k) H Q := run_seq
def o17_48 : List AO := [{ dst := (some 82), op := .load 25 (.tmp 6), ty := 25, guard := none },
  { dst := (some 83), op := .call { callee := (.value (.func 8)), args := #[(.tmp 82)], argTypes := #[25] }, ty := 4, guard := none },
  { dst := (some 84), op := .unOp .not 4 (.tmp 83), ty := 4, guard := none },
  { dst := (some 81), op := .assign (.tmp 84), ty := 4, guard := none }]
def c17_48 : AC := .region o17_48 []
theorem n17_48 : Run Cx 17 T ds ro (.code c17_48 :: k) H Q = RunOps Cx 17 T ds ro o17_48 k H Q := run_region
def o17_51 : List AO := [{ dst := (some 85), op := .build 25 #[], ty := 25, guard := none },
  { dst := none, op := .store 25 (.tmp 2) (.tmp 85), ty := 0, guard := none },
  { dst := (some 3), op := .assign (.const (.int .i64 6)), ty := 34, guard := none }]
def c17_51 : AC := .region o17_51 []
theorem n17_51 : Run Cx 17 T ds ro (.code c17_51 :: k) H Q = RunOps Cx 17 T ds ro o17_51 k H Q := run_region
def c17_52 : AC := .ret
theorem n17_52 : Run Cx 17 T [] none (.code c17_52 :: k) H Q = RunRes Cx T H Q (resOf Cx 17) := run_ret
def c17_50 : AC := .seq c17_51 c17_52
theorem n17_50 : Run Cx 17 T ds ro (.code c17_50 :: k) H Q = Run Cx 17 T ds ro (.code c17_51 :: .code c17_52 :: k) H Q := run_seq
def c17_53 : AC := .skip
theorem n17_53 : Run Cx 17 T ds ro (.code c17_53 :: k) H Q = Run Cx 17 T ds ro (k) H Q := run_skip
def c17_49 : AC := .cond (.tmp 81) c17_50 c17_53
theorem n17_49 : Run Cx 17 T ds ro (.code c17_49 :: k) H Q = RunCond Cx 17 T ds ro (.tmp 81) (ev T (.tmp 81)) c17_50 c17_53 k H Q := run_condC
def c17_47 : AC := .seq c17_48 c17_49
theorem n17_47 : Run Cx 17 T ds ro (.code c17_47 :: k) H Q = Run Cx 17 T ds ro (.code c17_48 :: .code c17_49 :: k) H Q := run_seq
def c17_43 : AC := .cond (.tmp 76) c17_44 c17_47
theorem n17_43 : Run Cx 17 T ds ro (.code c17_43 :: k) H Q = RunCond Cx 17 T ds ro (.tmp 76) (ev T (.tmp 76)) c17_44 c17_47 k H Q := run_condC
def c17_41 : AC := .seq c17_42 c17_43
theorem n17_41 : Run Cx 17 T ds ro (.code c17_41 :: k) H Q = Run Cx 17 T ds ro (.code c17_42 :: .code c17_43 :: k) H Q := run_seq
def c17_40 : AC := .block 1 c17_41
theorem n17_40 : Run Cx 17 T ds ro (.code c17_40 :: k) H Q = Run Cx 17 T ds ro (.code c17_41 :: .inBlock 1 :: k) H Q := run_block
def o17_55 : List AO := [{ dst := (some 86), op := .load 25 (.tmp 6), ty := 25, guard := none },
  { dst := none, op := .store 25 (.tmp 2) (.tmp 86), ty := 0, guard := none },
  { dst := (some 3), op := .assign (.const (.int .i64 0)), ty := 34, guard := none }]
def c17_55 : AC := .region o17_55 []
theorem n17_55 : Run Cx 17 T ds ro (.code c17_55 :: k) H Q = RunOps Cx 17 T ds ro o17_55 k H Q := run_region
def c17_56 : AC := .ret
theorem n17_56 : Run Cx 17 T [] none (.code c17_56 :: k) H Q = RunRes Cx T H Q (resOf Cx 17) := run_ret
def c17_54 : AC := .seq c17_55 c17_56
theorem n17_54 : Run Cx 17 T ds ro (.code c17_54 :: k) H Q = Run Cx 17 T ds ro (.code c17_55 :: .code c17_56 :: k) H Q := run_seq
def c17_39 : AC := .seq c17_40 c17_54
theorem n17_39 : Run Cx 17 T ds ro (.code c17_39 :: k) H Q = Run Cx 17 T ds ro (.code c17_40 :: .code c17_54 :: k) H Q := run_seq
def c17_14 : AC := .seq c17_15 c17_39
theorem n17_14 : Run Cx 17 T ds ro (.code c17_14 :: k) H Q = Run Cx 17 T ds ro (.code c17_15 :: .code c17_39 :: k) H Q := run_seq
def c17_12 : AC := .seq c17_13 c17_14
theorem n17_12 : Run Cx 17 T ds ro (.code c17_12 :: k) H Q = Run Cx 17 T ds ro (.code c17_13 :: .code c17_14 :: k) H Q := run_seq
def c17_4 : AC := .seq c17_5 c17_12
theorem n17_4 : Run Cx 17 T ds ro (.code c17_4 :: k) H Q = Run Cx 17 T ds ro (.code c17_5 :: .code c17_12 :: k) H Q := run_seq
def c17_2 : AC := .seq c17_3 c17_4
theorem n17_2 : Run Cx 17 T ds ro (.code c17_2 :: k) H Q = Run Cx 17 T ds ro (.code c17_3 :: .code c17_4 :: k) H Q := run_seq
def c17_0 : AC := .seq c17_1 c17_2
theorem n17_0 : Run Cx 17 T ds ro (.code c17_0 :: k) H Q = Run Cx 17 T ds ro (.code c17_1 :: .code c17_2 :: k) H Q := run_seq
theorem body17 : bodyOf Cx 17 = some c17_0 := by kernel_rfl
theorem res17 : resOf Cx 17 = some [.cell 2 25, .tmp 3] := by kernel_rfl
theorem pure17 : Cx.pure 17 = false := by kernel_rfl
-- RULES 17: n17_0, n17_1, n17_2, n17_3, n17_4, n17_5, n17_6, n17_7, n17_8, n17_9, n17_10, n17_11, n17_12, n17_13, n17_14, n17_15, n17_16, n17_17, n17_18, n17_19, n17_20, n17_21, n17_22, n17_23, n17_24, n17_25, n17_26, n17_27, n17_28, n17_29, n17_30, n17_31, n17_32, n17_33, n17_34, n17_35, n17_36, n17_37, n17_38, n17_39, n17_40, n17_41, n17_42, n17_43, n17_44, n17_45, n17_46, n17_47, n17_48, n17_49, n17_50, n17_51, n17_52, n17_53, n17_54, n17_55, n17_56
def o18_1 : List AO := [{ dst := (some 2), op := .alloc 25, ty := 0, guard := none },
  { dst := (some 3), op := .assign (.const (.int .i64 0)), ty := 3, guard := none },
  { dst := (some 4), op := .assign (.const (.int .i64 0)), ty := 34, guard := none }]
def c18_1 : AC := .region o18_1 []
theorem n18_1 : Run Cx 18 T ds ro (.code c18_1 :: k) H Q = RunOps Cx 18 T ds ro o18_1 k H Q := run_region
def o18_5 : List AO := [{ dst := (some 6), op := .move (.tmp 0), ty := 9, guard := none },
  { dst := (some 7), op := .binOp .neq 9 (.tmp 6) (.const (.string ⟨#[]⟩)) 9, ty := 4, guard := none },
  { dst := (some 8), op := .move (.tmp 7), ty := 4, guard := none },
  { dst := (some 9), op := .move (.tmp 0), ty := 9, guard := (some (8, true)) },
  { dst := (some 10), op := .index 9 (.tmp 9) (.const (.int .i64 0)), ty := 5, guard := (some (8, true)) },
  { dst := (some 11), op := .binOp .eql 5 (.tmp 10) (.const (.int .u8 34)) 5, ty := 4, guard := (some (8, true)) },
  { dst := (some 12), op := .pick (.tmp 8) (.tmp 11) (.const (.bool false)), ty := 4, guard := none },
  { dst := (some 5), op := .assign (.tmp 12), ty := 4, guard := none }]
def c18_5 : AC := .region o18_5 []
theorem n18_5 : Run Cx 18 T ds ro (.code c18_5 :: k) H Q = RunOps Cx 18 T ds ro o18_5 k H Q := run_region
def o18_8 : List AO := [{ dst := (some 13), op := .move (.tmp 0), ty := 9, guard := none },
  { dst := (some 14), op := .call { callee := (.value (.func 41)), args := #[(.tmp 13)], argTypes := #[9] }, ty := 37, guard := none },
  { dst := (some 15), op := .extract (.tmp 14) 0, ty := 25, guard := none },
  { dst := (some 16), op := .extract (.tmp 14) 1, ty := 3, guard := none },
  { dst := (some 17), op := .extract (.tmp 14) 2, ty := 34, guard := none },
  { dst := none, op := .store 25 (.tmp 2) (.tmp 15), ty := 0, guard := none },
  { dst := (some 3), op := .assign (.tmp 16), ty := 3, guard := none },
  { dst := (some 4), op := .assign (.tmp 17), ty := 34, guard := none }]
def c18_8 : AC := .region o18_8 []
theorem n18_8 : Run Cx 18 T ds ro (.code c18_8 :: k) H Q = RunOps Cx 18 T ds ro o18_8 k H Q := run_region
def c18_9 : AC := .ret
theorem n18_9 : Run Cx 18 T [] none (.code c18_9 :: k) H Q = RunRes Cx T H Q (resOf Cx 18) := run_ret
def c18_7 : AC := .seq c18_8 c18_9
theorem n18_7 : Run Cx 18 T ds ro (.code c18_7 :: k) H Q = Run Cx 18 T ds ro (.code c18_8 :: .code c18_9 :: k) H Q := run_seq
def o18_11 : List AO := [{ dst := (some 19), op := .move (.tmp 0), ty := 9, guard := none },
  { dst := (some 20), op := .binOp .neq 9 (.tmp 19) (.const (.string ⟨#[]⟩)) 9, ty := 4, guard := none },
  { dst := (some 21), op := .move (.tmp 20), ty := 4, guard := none },
  { dst := (some 22), op := .move (.tmp 0), ty := 9, guard := (some (21, true)) },
  { dst := (some 23), op := .index 9 (.tmp 22) (.const (.int .i64 0)), ty := 5, guard := (some (21, true)) },
  { dst := (some 24), op := .binOp .eql 5 (.tmp 23) (.const (.int .u8 45)) 5, ty := 4, guard := (some (21, true)) },
  { dst := (some 25), op := .move (.tmp 24), ty := 4, guard := (some (21, true)) },
  { dst := (some 26), op := .move (.tmp 0), ty := 9, guard := (some (25, false)) },
  { dst := (some 27), op := .index 9 (.tmp 26) (.const (.int .i64 0)), ty := 5, guard := (some (25, false)) },
  { dst := (some 28), op := .call { callee := (.value (.func 42)), args := #[(.tmp 27)], argTypes := #[5] }, ty := 4, guard := (some (25, false)) },
  { dst := (some 29), op := .pick (.tmp 25) (.const (.bool true)) (.tmp 28), ty := 4, guard := (some (21, true)) },
  { dst := (some 30), op := .pick (.tmp 21) (.tmp 29) (.const (.bool false)), ty := 4, guard := none },
  { dst := (some 18), op := .assign (.tmp 30), ty := 4, guard := none }]
def c18_11 : AC := .region o18_11 []
theorem n18_11 : Run Cx 18 T ds ro (.code c18_11 :: k) H Q = RunOps Cx 18 T ds ro o18_11 k H Q := run_region
def o18_14 : List AO := [{ dst := (some 31), op := .move (.tmp 0), ty := 9, guard := none },
  { dst := (some 32), op := .call { callee := (.value (.func 43)), args := #[(.tmp 31)], argTypes := #[9] }, ty := 37, guard := none },
  { dst := (some 33), op := .extract (.tmp 32) 0, ty := 25, guard := none },
  { dst := (some 34), op := .extract (.tmp 32) 1, ty := 3, guard := none },
  { dst := (some 35), op := .extract (.tmp 32) 2, ty := 34, guard := none },
  { dst := none, op := .store 25 (.tmp 2) (.tmp 33), ty := 0, guard := none },
  { dst := (some 3), op := .assign (.tmp 34), ty := 3, guard := none },
  { dst := (some 4), op := .assign (.tmp 35), ty := 34, guard := none }]
def c18_14 : AC := .region o18_14 []
theorem n18_14 : Run Cx 18 T ds ro (.code c18_14 :: k) H Q = RunOps Cx 18 T ds ro o18_14 k H Q := run_region
def c18_15 : AC := .ret
theorem n18_15 : Run Cx 18 T [] none (.code c18_15 :: k) H Q = RunRes Cx T H Q (resOf Cx 18) := run_ret
def c18_13 : AC := .seq c18_14 c18_15
theorem n18_13 : Run Cx 18 T ds ro (.code c18_13 :: k) H Q = Run Cx 18 T ds ro (.code c18_14 :: .code c18_15 :: k) H Q := run_seq
def c18_16 : AC := .skip
theorem n18_16 : Run Cx 18 T ds ro (.code c18_16 :: k) H Q = Run Cx 18 T ds ro (k) H Q := run_skip
def c18_12 : AC := .cond (.tmp 18) c18_13 c18_16
theorem n18_12 : Run Cx 18 T ds ro (.code c18_12 :: k) H Q = RunCond Cx 18 T ds ro (.tmp 18) (ev T (.tmp 18)) c18_13 c18_16 k H Q := run_condC
def c18_10 : AC := .seq c18_11 c18_12
theorem n18_10 : Run Cx 18 T ds ro (.code c18_10 :: k) H Q = Run Cx 18 T ds ro (.code c18_11 :: .code c18_12 :: k) H Q := run_seq
def c18_6 : AC := .cond (.tmp 5) c18_7 c18_10
theorem n18_6 : Run Cx 18 T ds ro (.code c18_6 :: k) H Q = RunCond Cx 18 T ds ro (.tmp 5) (ev T (.tmp 5)) c18_7 c18_10 k H Q := run_condC
def c18_4 : AC := .seq c18_5 c18_6
theorem n18_4 : Run Cx 18 T ds ro (.code c18_4 :: k) H Q = Run Cx 18 T ds ro (.code c18_5 :: .code c18_6 :: k) H Q := run_seq
def c18_3 : AC := .block 0 c18_4
theorem n18_3 : Run Cx 18 T ds ro (.code c18_3 :: k) H Q = Run Cx 18 T ds ro (.code c18_4 :: .inBlock 0 :: k) H Q := run_block
def o18_18 : List AO := [{ dst := (some 36), op := .build 25 #[], ty := 25, guard := none },
  { dst := none, op := .store 25 (.tmp 2) (.tmp 36), ty := 0, guard := none },
  { dst := (some 3), op := .assign (.const (.int .i64 0)), ty := 3, guard := none },
  { dst := (some 4), op := .assign (.const (.int .i64 10)), ty := 34, guard := none }]
def c18_18 : AC := .region o18_18 []
theorem n18_18 : Run Cx 18 T ds ro (.code c18_18 :: k) H Q = RunOps Cx 18 T ds ro o18_18 k H Q := run_region
def c18_19 : AC := .ret
theorem n18_19 : Run Cx 18 T [] none (.code c18_19 :: k) H Q = RunRes Cx T H Q (resOf Cx 18) := run_ret
def c18_17 : AC := .seq c18_18 c18_19
theorem n18_17 : Run Cx 18 T ds ro (.code c18_17 :: k) H Q = Run Cx 18 T ds ro (.code c18_18 :: .code c18_19 :: k) H Q := run_seq
def c18_2 : AC := .seq c18_3 c18_17
theorem n18_2 : Run Cx 18 T ds ro (.code c18_2 :: k) H Q = Run Cx 18 T ds ro (.code c18_3 :: .code c18_17 :: k) H Q := run_seq
def c18_0 : AC := .seq c18_1 c18_2
theorem n18_0 : Run Cx 18 T ds ro (.code c18_0 :: k) H Q = Run Cx 18 T ds ro (.code c18_1 :: .code c18_2 :: k) H Q := run_seq
theorem body18 : bodyOf Cx 18 = some c18_0 := by kernel_rfl
theorem res18 : resOf Cx 18 = some [.cell 2 25, .tmp 3, .tmp 4] := by kernel_rfl
theorem pure18 : Cx.pure 18 = true := by kernel_rfl
-- RULES 18: n18_0, n18_1, n18_2, n18_3, n18_4, n18_5, n18_6, n18_7, n18_8, n18_9, n18_10, n18_11, n18_12, n18_13, n18_14, n18_15, n18_16, n18_17, n18_18, n18_19
def o19_1 : List AO := [{ dst := (some 2), op := .assign (.const (.int .i64 0)), ty := 3, guard := none }]
def c19_1 : AC := .region o19_1 []
theorem n19_1 : Run Cx 19 T ds ro (.code c19_1 :: k) H Q = RunOps Cx 19 T ds ro o19_1 k H Q := run_region
def o19_4 : List AO := [{ dst := (some 3), op := .move (.tmp 0), ty := 32, guard := none },
  { dst := (some 4), op := .binOp .eql 32 (.tmp 3) (.const (.pointer none)) 32, ty := 4, guard := none }]
def c19_4 : AC := .region o19_4 []
theorem n19_4 : Run Cx 19 T ds ro (.code c19_4 :: k) H Q = RunOps Cx 19 T ds ro o19_4 k H Q := run_region
def o19_7 : List AO := [{ dst := (some 2), op := .assign (.const (.int .i64 0)), ty := 3, guard := none }]
def c19_7 : AC := .region o19_7 []
theorem n19_7 : Run Cx 19 T ds ro (.code c19_7 :: k) H Q = RunOps Cx 19 T ds ro o19_7 k H Q := run_region
def c19_8 : AC := .ret
theorem n19_8 : Run Cx 19 T [] none (.code c19_8 :: k) H Q = RunRes Cx T H Q (resOf Cx 19) := run_ret
def c19_6 : AC := .seq c19_7 c19_8
theorem n19_6 : Run Cx 19 T ds ro (.code c19_6 :: k) H Q = Run Cx 19 T ds ro (.code c19_7 :: .code c19_8 :: k) H Q := run_seq
def c19_9 : AC := .skip
theorem n19_9 : Run Cx 19 T ds ro (.code c19_9 :: k) H Q = Run Cx 19 T ds ro (k) H Q := run_skip
def c19_5 : AC := .cond (.tmp 4) c19_6 c19_9
theorem n19_5 : Run Cx 19 T ds ro (.code c19_5 :: k) H Q = RunCond Cx 19 T ds ro (.tmp 4) (ev T (.tmp 4)) c19_6 c19_9 k H Q := run_condC
def c19_3 : AC := .seq c19_4 c19_5
theorem n19_3 : Run Cx 19 T ds ro (.code c19_3 :: k) H Q = Run Cx 19 T ds ro (.code c19_4 :: .code c19_5 :: k) H Q := run_seq
def o19_11 : List AO := [{ dst := (some 5), op := .move (.tmp 0), ty := 32, guard := none },
  { dst := (some 6), op := .nilCheck (.tmp 5), ty := 0, guard := none },
  { dst := (some 7), op := .fieldAddr 49 (.tmp 6) 0, ty := 0, guard := none },
  { dst := (some 8), op := .load 9 (.tmp 7), ty := 9, guard := none },
  { dst := (some 9), op := .call { callee := (.builtin .len), args := #[(.tmp 8)], argTypes := #[9] }, ty := 3, guard := none },
  { dst := (some 10), op := .move (.tmp 0), ty := 32, guard := none },
  { dst := (some 11), op := .nilCheck (.tmp 10), ty := 0, guard := none },
  { dst := (some 12), op := .fieldAddr 49 (.tmp 11) 1, ty := 0, guard := none },
  { dst := (some 13), op := .load 3 (.tmp 12), ty := 3, guard := none },
  { dst := (some 14), op := .binOp .sub 3 (.tmp 9) (.tmp 13) 3, ty := 3, guard := none },
  { dst := (some 2), op := .assign (.tmp 14), ty := 3, guard := none }]
def c19_11 : AC := .region o19_11 []
theorem n19_11 : Run Cx 19 T ds ro (.code c19_11 :: k) H Q = RunOps Cx 19 T ds ro o19_11 k H Q := run_region
def c19_12 : AC := .ret
theorem n19_12 : Run Cx 19 T [] none (.code c19_12 :: k) H Q = RunRes Cx T H Q (resOf Cx 19) := run_ret
def c19_10 : AC := .seq c19_11 c19_12
theorem n19_10 : Run Cx 19 T ds ro (.code c19_10 :: k) H Q = Run Cx 19 T ds ro (.code c19_11 :: .code c19_12 :: k) H Q := run_seq
def c19_2 : AC := .seq c19_3 c19_10
theorem n19_2 : Run Cx 19 T ds ro (.code c19_2 :: k) H Q = Run Cx 19 T ds ro (.code c19_3 :: .code c19_10 :: k) H Q := run_seq
def c19_0 : AC := .seq c19_1 c19_2
theorem n19_0 : Run Cx 19 T ds ro (.code c19_0 :: k) H Q = Run Cx 19 T ds ro (.code c19_1 :: .code c19_2 :: k) H Q := run_seq
theorem body19 : bodyOf Cx 19 = some c19_0 := by kernel_rfl
theorem res19 : resOf Cx 19 = some [.tmp 2] := by kernel_rfl
theorem pure19 : Cx.pure 19 = false := by kernel_rfl
-- RULES 19: n19_0, n19_1, n19_2, n19_3, n19_4, n19_5, n19_6, n19_7, n19_8, n19_9, n19_10, n19_11, n19_12
def o20_1 : List AO := [{ dst := (some 1), op := .box 23 (.tmp 0), ty := 0, guard := none },
  { dst := (some 2), op := .assign (.const (.bool false)), ty := 4, guard := none }]
def c20_1 : AC := .region o20_1 []
theorem n20_1 : Run Cx 20 T ds ro (.code c20_1 :: k) H Q = RunOps Cx 20 T ds ro o20_1 k H Q := run_region
def o20_3 : List AO := [{ dst := (some 3), op := .fieldAddr 23 (.tmp 1) 0, ty := 0, guard := none },
  { dst := (some 4), op := .load 3 (.tmp 3), ty := 3, guard := none },
  { dst := (some 5), op := .call { callee := (.value (.func 44)), args := #[(.tmp 4)], argTypes := #[3] }, ty := 4, guard := none },
  { dst := (some 6), op := .move (.tmp 5), ty := 4, guard := none },
  { dst := (some 7), op := .fieldAddr 23 (.tmp 1) 1, ty := 0, guard := (some (6, true)) },
  { dst := (some 8), op := .load 3 (.tmp 7), ty := 3, guard := (some (6, true)) },
  { dst := (some 9), op := .call { callee := (.value (.func 44)), args := #[(.tmp 8)], argTypes := #[3] }, ty := 4, guard := (some (6, true)) },
  { dst := (some 10), op := .pick (.tmp 6) (.tmp 9) (.const (.bool false)), ty := 4, guard := none },
  { dst := (some 2), op := .assign (.tmp 10), ty := 4, guard := none }]
def c20_3 : AC := .region o20_3 []
theorem n20_3 : Run Cx 20 T ds ro (.code c20_3 :: k) H Q = RunOps Cx 20 T ds ro o20_3 k H Q := run_region
def c20_4 : AC := .ret
theorem n20_4 : Run Cx 20 T [] none (.code c20_4 :: k) H Q = RunRes Cx T H Q (resOf Cx 20) := run_ret
def c20_2 : AC := .seq c20_3 c20_4
theorem n20_2 : Run Cx 20 T ds ro (.code c20_2 :: k) H Q = Run Cx 20 T ds ro (.code c20_3 :: .code c20_4 :: k) H Q := run_seq
def c20_0 : AC := .seq c20_1 c20_2
theorem n20_0 : Run Cx 20 T ds ro (.code c20_0 :: k) H Q = Run Cx 20 T ds ro (.code c20_1 :: .code c20_2 :: k) H Q := run_seq
theorem body20 : bodyOf Cx 20 = some c20_0 := by kernel_rfl
theorem res20 : resOf Cx 20 = some [.tmp 2] := by kernel_rfl
theorem pure20 : Cx.pure 20 = true := by kernel_rfl
-- RULES 20: n20_0, n20_1, n20_2, n20_3, n20_4
def o21_1 : List AO := [{ dst := (some 2), op := .assign (.const (.int .i64 0)), ty := 3, guard := none }]
def c21_1 : AC := .region o21_1 []
theorem n21_1 : Run Cx 21 T ds ro (.code c21_1 :: k) H Q = RunOps Cx 21 T ds ro o21_1 k H Q := run_region
def o21_3 : List AO := [{ dst := (some 3), op := .assign (.const (.int .i64 0)), ty := 3, guard := none }]
def c21_3 : AC := .region o21_3 []
theorem n21_3 : Run Cx 21 T ds ro (.code c21_3 :: k) H Q = RunOps Cx 21 T ds ro o21_3 k H Q := run_region
def o21_6 : List AO := [{ dst := (some 6), op := .move (.tmp 0), ty := 57, guard := none },
  { dst := (some 7), op := .call { callee := (.builtin .len), args := #[(.tmp 6)], argTypes := #[57] }, ty := 3, guard := none },
  { dst := (some 8), op := .move (.const (.int .i64 0)), ty := 3, guard := none }]
def c21_6 : AC := .region o21_6 []
theorem n21_6 : Run Cx 21 T ds ro (.code c21_6 :: k) H Q = RunOps Cx 21 T ds ro o21_6 k H Q := run_region
def o21_10 : List AO := [{ dst := (some 9), op := .binOp .lss 3 (.tmp 8) (.tmp 7) 3, ty := 0, guard := none }]
def c21_10 : AC := .region o21_10 []
theorem n21_10 : Run Cx 21 T ds ro (.code c21_10 :: k) H Q = RunOps Cx 21 T ds ro o21_10 k H Q := run_region
def c21_13 : AC := .skip
theorem n21_13 : Run Cx 21 T ds ro (.code c21_13 :: k) H Q = Run Cx 21 T ds ro (k) H Q := run_skip
def c21_14 : AC := .exit 0
theorem n21_14 : Run Cx 21 T ds ro (.code c21_14 :: k) H Q = RunExit Cx 21 T ds ro 0 k k H Q := run_exit_start
def c21_12 : AC := .cond (.tmp 9) c21_13 c21_14
theorem n21_12 : Run Cx 21 T ds ro (.code c21_12 :: k) H Q = RunCond Cx 21 T ds ro (.tmp 9) (ev T (.tmp 9)) c21_13 c21_14 k H Q := run_condC
def o21_18 : List AO := [{ dst := (some 10), op := .indexAddr 57 (.tmp 6) (.tmp 8), ty := 0, guard := none },
  { dst := (some 11), op := .load 3 (.tmp 10), ty := 3, guard := none },
  { dst := (some 5), op := .assign (.tmp 11), ty := 3, guard := none }]
def c21_18 : AC := .region o21_18 []
theorem n21_18 : Run Cx 21 T ds ro (.code c21_18 :: k) H Q = RunOps Cx 21 T ds ro o21_18 k H Q := run_region
def o21_20 : List AO := [{ dst := (some 12), op := .move (.tmp 5), ty := 3, guard := none },
  { dst := (some 13), op := .move (.tmp 3), ty := 3, guard := none },
  { dst := (some 14), op := .binOp .neq 3 (.tmp 12) (.tmp 13) 3, ty := 4, guard := none }]
def c21_20 : AC := .region o21_20 []
theorem n21_20 : Run Cx 21 T ds ro (.code c21_20 :: k) H Q = RunOps Cx 21 T ds ro o21_20 k H Q := run_region
def o21_23 : List AO := [{ dst := (some 15), op := .move (.tmp 5), ty := 3, guard := none },
  { dst := (some 2), op := .assign (.tmp 15), ty := 3, guard := none }]
def c21_23 : AC := .region o21_23 []
theorem n21_23 : Run Cx 21 T ds ro (.code c21_23 :: k) H Q = RunOps Cx 21 T ds ro o21_23 k H Q := run_region
def c21_24 : AC := .ret
theorem n21_24 : Run Cx 21 T [] none (.code c21_24 :: k) H Q = RunRes Cx T H Q (resOf Cx 21) := run_ret
def c21_22 : AC := .seq c21_23 c21_24
theorem n21_22 : Run Cx 21 T ds ro (.code c21_22 :: k) H Q = Run Cx 21 T ds ro (.code c21_23 :: .code c21_24 :: k) H Q := run_seq
def c21_25 : AC := .skip
theorem n21_25 : Run Cx 21 T ds ro (.code c21_25 :: k) H Q = Run Cx 21 T ds ro (k) H Q := run_skip
def c21_21 : AC := .cond (.tmp 14) c21_22 c21_25
theorem n21_21 : Run Cx 21 T ds ro (.code c21_21 :: k) H Q = RunCond Cx 21 T ds ro (.tmp 14) (ev T (.tmp 14)) c21_22 c21_25 k H Q := run_condC
def c21_19 : AC := .seq c21_20 c21_21
theorem n21_19 : Run Cx 21 T ds ro (.code c21_19 :: k) H Q = Run Cx 21 T ds ro (.code c21_20 :: .code c21_21 :: k) H Q := run_seq
def c21_17 : AC := .seq c21_18 c21_19
theorem n21_17 : Run Cx 21 T ds ro (.code c21_17 :: k) H Q = Run Cx 21 T ds ro (.code c21_18 :: .code c21_19 :: k) H Q := run_seq
def c21_16 : AC := .block 1 c21_17
theorem n21_16 : Run Cx 21 T ds ro (.code c21_16 :: k) H Q = Run Cx 21 T ds ro (.code c21_17 :: .inBlock 1 :: k) H Q := run_block
def o21_26 : List AO := [{ dst := (some 16), op := .binOp .add 3 (.tmp 8) (.const (.int .i64 1)) 3, ty := 3, guard := none },
  { dst := (some 8), op := .move (.tmp 16), ty := 3, guard := none }]
def c21_26 : AC := .region o21_26 []
theorem n21_26 : Run Cx 21 T ds ro (.code c21_26 :: k) H Q = RunOps Cx 21 T ds ro o21_26 k H Q := run_region
def c21_15 : AC := .seq c21_16 c21_26
theorem n21_15 : Run Cx 21 T ds ro (.code c21_15 :: k) H Q = Run Cx 21 T ds ro (.code c21_16 :: .code c21_26 :: k) H Q := run_seq
def c21_11 : AC := .seq c21_12 c21_15
theorem n21_11 : Run Cx 21 T ds ro (.code c21_11 :: k) H Q = Run Cx 21 T ds ro (.code c21_12 :: .code c21_15 :: k) H Q := run_seq
def c21_9 : AC := .seq c21_10 c21_11
theorem n21_9 : Run Cx 21 T ds ro (.code c21_9 :: k) H Q = Run Cx 21 T ds ro (.code c21_10 :: .code c21_11 :: k) H Q := run_seq
def c21_8 : AC := .loop c21_9
theorem n21_8 : Run Cx 21 T ds ro (.code c21_8 :: k) H Q = Run Cx 21 T ds ro (.inLoop c21_9 :: k) H Q := run_loop'
def c21_7 : AC := .block 0 c21_8
theorem n21_7 : Run Cx 21 T ds ro (.code c21_7 :: k) H Q = Run Cx 21 T ds ro (.code c21_8 :: .inBlock 0 :: k) H Q := run_block
def c21_5 : AC := .seq c21_6 c21_7
theorem n21_5 : Run Cx 21 T ds ro (.code c21_5 :: k) H Q = Run Cx 21 T ds ro (.code c21_6 :: .code c21_7 :: k) H Q := run_seq
def o21_28 : List AO := [{ dst := (some 17), op := .move (.tmp 3), ty := 3, guard := none },
  { dst := (some 2), op := .assign (.tmp 17), ty := 3, guard := none }]
def c21_28 : AC := .region o21_28 []
theorem n21_28 : Run Cx 21 T ds ro (.code c21_28 :: k) H Q = RunOps Cx 21 T ds ro o21_28 k H Q := run_region
def c21_29 : AC := .ret
theorem n21_29 : Run Cx 21 T [] none (.code c21_29 :: k) H Q = RunRes Cx T H Q (resOf Cx 21) := run_ret
def c21_27 : AC := .seq c21_28 c21_29
theorem n21_27 : Run Cx 21 T ds ro (.code c21_27 :: k) H Q = Run Cx 21 T ds ro (.code c21_28 :: .code c21_29 :: k) H Q := run_seq
def c21_4 : AC := .seq c21_5 c21_27
theorem n21_4 : Run Cx 21 T ds ro (.code c21_4 :: k) H Q = Run Cx 21 T ds ro (.code c21_5 :: .code c21_27 :: k) H Q := run_seq
def c21_2 : AC := .seq c21_3 c21_4
theorem n21_2 : Run Cx 21 T ds ro (.code c21_2 :: k) H Q = Run Cx 21 T ds ro (.code c21_3 :: .code c21_4 :: k) H Q := run_seq
def c21_0 : AC := .seq c21_1 c21_2
theorem n21_0 : Run Cx 21 T ds ro (.code c21_0 :: k) H Q = Run Cx 21 T ds ro (.code c21_1 :: .code c21_2 :: k) H Q := run_seq
theorem body21 : bodyOf Cx 21 = some c21_0 := by kernel_rfl
theorem res21 : resOf Cx 21 = some [.tmp 2] := by kernel_rfl
theorem pure21 : Cx.pure 21 = true := by kernel_rfl
-- RULES 21: n21_0, n21_1, n21_2, n21_3, n21_4, n21_5, n21_6, n21_7, n21_8, n21_9, n21_10, n21_11, n21_12, n21_13, n21_14, n21_15, n21_16, n21_17, n21_18, n21_19, n21_20, n21_21, n21_22, n21_23, n21_24, n21_25, n21_26, n21_27, n21_28, n21_29
def o22_1 : List AO := [{ dst := (some 4), op := .assign (.const (.int .i64 0)), ty := 3, guard := none }]
def c22_1 : AC := .region o22_1 []
theorem n22_1 : Run Cx 22 T ds ro (.code c22_1 :: k) H Q = RunOps Cx 22 T ds ro o22_1 k H Q := run_region
def o22_3 : List AO := [{ dst := (some 7), op := .move (.tmp 0), ty := 3, guard := none },
  { dst := (some 8), op := .call { callee := (.value (.func 45)), args := #[(.tmp 7)], argTypes := #[3] }, ty := 4, guard := none },
  { dst := (some 5), op := .assign (.tmp 8), ty := 4, guard := none }]
def c22_3 : AC := .region o22_3 []
theorem n22_3 : Run Cx 22 T ds ro (.code c22_3 :: k) H Q = RunOps Cx 22 T ds ro o22_3 k H Q := run_region
def o22_5 : List AO := [{ dst := (some 9), op := .move (.tmp 1), ty := 3, guard := none },
  { dst := (some 10), op := .call { callee := (.value (.func 45)), args := #[(.tmp 9)], argTypes := #[3] }, ty := 4, guard := none },
  { dst := (some 6), op := .assign (.tmp 10), ty := 4, guard := none }]
def c22_5 : AC := .region o22_5 []
theorem n22_5 : Run Cx 22 T ds ro (.code c22_5 :: k) H Q = RunOps Cx 22 T ds ro o22_5 k H Q := run_region
def o22_8 : List AO := [{ dst := (some 11), op := .move (.tmp 5), ty := 4, guard := none }]
def c22_8 : AC := .region o22_8 []
theorem n22_8 : Run Cx 22 T ds ro (.code c22_8 :: k) H Q = RunOps Cx 22 T ds ro o22_8 k H Q := run_region
def o22_12 : List AO := [{ dst := (some 12), op := .move (.tmp 6), ty := 4, guard := none }]
def c22_12 : AC := .region o22_12 []
theorem n22_12 : Run Cx 22 T ds ro (.code c22_12 :: k) H Q = RunOps Cx 22 T ds ro o22_12 k H Q := run_region
def o22_15 : List AO := [{ dst := (some 4), op := .assign (.const (.int .i64 0)), ty := 3, guard := none }]
def c22_15 : AC := .region o22_15 []
theorem n22_15 : Run Cx 22 T ds ro (.code c22_15 :: k) H Q = RunOps Cx 22 T ds ro o22_15 k H Q := run_region
def c22_16 : AC := .ret
theorem n22_16 : Run Cx 22 T [] none (.code c22_16 :: k) H Q = RunRes Cx T H Q (resOf Cx 22) := run_ret
def c22_14 : AC := .seq c22_15 c22_16
theorem n22_14 : Run Cx 22 T ds ro (.code c22_14 :: k) H Q = Run Cx 22 T ds ro (.code c22_15 :: .code c22_16 :: k) H Q := run_seq
def c22_17 : AC := .skip
theorem n22_17 : Run Cx 22 T ds ro (.code c22_17 :: k) H Q = Run Cx 22 T ds ro (k) H Q := run_skip
def c22_13 : AC := .cond (.tmp 12) c22_14 c22_17
theorem n22_13 : Run Cx 22 T ds ro (.code c22_13 :: k) H Q = RunCond Cx 22 T ds ro (.tmp 12) (ev T (.tmp 12)) c22_14 c22_17 k H Q := run_condC
def c22_11 : AC := .seq c22_12 c22_13
theorem n22_11 : Run Cx 22 T ds ro (.code c22_11 :: k) H Q = Run Cx 22 T ds ro (.code c22_12 :: .code c22_13 :: k) H Q := run_seq
def o22_19 : List AO := [{ dst := (some 4), op := .assign (.const (.int .i64 (-1))), ty := 3, guard := none }]
def c22_19 : AC := .region o22_19 []
theorem n22_19 : Run Cx 22 T ds ro (.code c22_19 :: k) H Q = RunOps Cx 22 T ds ro o22_19 k H Q := run_region
def c22_20 : AC := .ret
theorem n22_20 : Run Cx 22 T [] none (.code c22_20 :: k) H Q = RunRes Cx T H Q (resOf Cx 22) := run_ret
def c22_18 : AC := .seq c22_19 c22_20
theorem n22_18 : Run Cx 22 T ds ro (.code c22_18 :: k) H Q = Run Cx 22 T ds ro (.code c22_19 :: .code c22_20 :: k) H Q := run_seq
def c22_10 : AC := .seq c22_11 c22_18
theorem n22_10 : Run Cx 22 T ds ro (.code c22_10 :: k) H Q = Run Cx 22 T ds ro (.code c22_11 :: .code c22_18 :: k) H Q := run_seq
def c22_21 : AC := .skip
theorem n22_21 : Run Cx 22 T ds ro (.code c22_21 :: k) H Q = Run Cx 22 T ds ro (k) H Q := run_skip
def c22_9 : AC := .cond (.tmp 11) c22_10 c22_21
theorem n22_9 : Run Cx 22 T ds ro (.code c22_9 :: k) H Q = RunCond Cx 22 T ds ro (.tmp 11) (ev T (.tmp 11)) c22_10 c22_21 k H Q := run_condC
def c22_7 : AC := .seq c22_8 c22_9
theorem n22_7 : Run Cx 22 T ds ro (.code c22_7 :: k) H Q = Run Cx 22 T ds ro (.code c22_8 :: .code c22_9 :: k) H Q := run_seq
def o22_24 : List AO := [{ dst := (some 13), op := .move (.tmp 6), ty := 4, guard := none }]
def c22_24 : AC := .region o22_24 []
theorem n22_24 : Run Cx 22 T ds ro (.code c22_24 :: k) H Q = RunOps Cx 22 T ds ro o22_24 k H Q := run_region
def o22_27 : List AO := [{ dst := (some 4), op := .assign (.const (.int .i64 1)), ty := 3, guard := none }]
def c22_27 : AC := .region o22_27 []
theorem n22_27 : Run Cx 22 T ds ro (.code c22_27 :: k) H Q = RunOps Cx 22 T ds ro o22_27 k H Q := run_region
def c22_28 : AC := .ret
theorem n22_28 : Run Cx 22 T [] none (.code c22_28 :: k) H Q = RunRes Cx T H Q (resOf Cx 22) := run_ret
def c22_26 : AC := .seq c22_27 c22_28
theorem n22_26 : Run Cx 22 T ds ro (.code c22_26 :: k) H Q = Run Cx 22 T ds ro (.code c22_27 :: .code c22_28 :: k) H Q := run_seq
def c22_29 : AC := .skip
theorem n22_29 : Run Cx 22 T ds ro (.code c22_29 :: k) H Q = Run Cx 22 T ds ro (k) H Q := run_skip
def c22_25 : AC := .cond (.tmp 13) c22_26 c22_29
theorem n22_25 : Run Cx 22 T ds ro (.code c22_25 :: k) H Q = RunCond Cx 22 T ds ro (.tmp 13) (ev T (.tmp 13)) c22_26 c22_29 k H Q := run_condC
def c22_23 : AC := .seq c22_24 c22_25
theorem n22_23 : Run Cx 22 T ds ro (.code c22_23 :: k) H Q = Run Cx 22 T ds ro (.code c22_24 :: .code c22_25 :: k) H Q := run_seq
def o22_32 : List AO := [{ dst := (some 14), op := .move (.tmp 0), ty := 3, guard := none },
  { dst := (some 15), op := .move (.tmp 1), ty := 3, guard := none },
  { dst := (some 16), op := .binOp .lss 3 (.tmp 14) (.tmp 15) 3, ty := 4, guard := none }]
def c22_32 : AC := .region o22_32 []
theorem n22_32 : Run Cx 22 T ds ro (.code c22_32 :: k) H Q = RunOps Cx 22 T ds ro o22_32 k H Q := run_region
def o22_35 : List AO := [{ dst := (some 4), op := .assign (.const (.int .i64 (-1))), ty := 3, guard := none }]
def c22_35 : AC := .region o22_35 []
theorem n22_35 : Run Cx 22 T ds ro (.code c22_35 :: k) H Q = RunOps Cx 22 T ds ro o22_35 k H Q := run_region
def c22_36 : AC := .ret
theorem n22_36 : Run Cx 22 T [] none (.code c22_36 :: k) H Q = RunRes Cx T H Q (resOf Cx 22) := run_ret
def c22_34 : AC := .seq c22_35 c22_36
theorem n22_34 : Run Cx 22 T ds ro (.code c22_34 :: k) H Q = Run Cx 22 T ds ro (.code c22_35 :: .code c22_36 :: k) H Q := run_seq
def c22_37 : AC := .skip
theorem n22_37 : Run Cx 22 T ds ro (.code c22_37 :: k) H Q = Run Cx 22 T ds ro (k) H Q := run_skip
def c22_33 : AC := .cond (.tmp 16) c22_34 c22_37
theorem n22_33 : Run Cx 22 T ds ro (.code c22_33 :: k) H Q = RunCond Cx 22 T ds ro (.tmp 16) (ev T (.tmp 16)) c22_34 c22_37 k H Q := run_condC
def c22_31 : AC := .seq c22_32 c22_33
theorem n22_31 : Run Cx 22 T ds ro (.code c22_31 :: k) H Q = Run Cx 22 T ds ro (.code c22_32 :: .code c22_33 :: k) H Q := run_seq
def o22_40 : List AO := [{ dst := (some 17), op := .move (.tmp 0), ty := 3, guard := none },
  { dst := (some 18), op := .move (.tmp 1), ty := 3, guard := none },
  { dst := (some 19), op := .binOp .gtr 3 (.tmp 17) (.tmp 18) 3, ty := 4, guard := none }]
def c22_40 : AC := .region o22_40 []
theorem n22_40 : Run Cx 22 T ds ro (.code c22_40 :: k) H Q = RunOps Cx 22 T ds ro o22_40 k H Q := run_region
def o22_43 : List AO := [{ dst := (some 4), op := .assign (.const (.int .i64 1)), ty := 3, guard := none }]
def c22_43 : AC := .region o22_43 []
theorem n22_43 : Run Cx 22 T ds ro (.code c22_43 :: k) H Q = RunOps Cx 22 T ds ro o22_43 k H Q := run_region
def c22_44 : AC := .ret
theorem n22_44 : Run Cx 22 T [] none (.code c22_44 :: k) H Q = RunRes Cx T H Q (resOf Cx 22) := run_ret
def c22_42 : AC := .seq c22_43 c22_44
theorem n22_42 : Run Cx 22 T ds ro (.code c22_42 :: k) H Q = Run Cx 22 T ds ro (.code c22_43 :: .code c22_44 :: k) H Q := run_seq
def c22_45 : AC := .skip
theorem n22_45 : Run Cx 22 T ds ro (.code c22_45 :: k) H Q = Run Cx 22 T ds ro (k) H Q := run_skip
def c22_41 : AC := .cond (.tmp 19) c22_42 c22_45
theorem n22_41 : Run Cx 22 T ds ro (.code c22_41 :: k) H Q = RunCond Cx 22 T ds ro (.tmp 19) (ev T (.tmp 19)) c22_42 c22_45 k H Q := run_condC
def c22_39 : AC := .seq c22_40 c22_41
theorem n22_39 : Run Cx 22 T ds ro (.code c22_39 :: k) H Q = Run Cx 22 T ds ro (.code c22_40 :: .code c22_41 :: k) H Q := run_seq
def o22_47 : List AO := [{ dst := (some 4), op := .assign (.const (.int .i64 0)), ty := 3, guard := none }]
def c22_47 : AC := .region o22_47 []
theorem n22_47 : Run Cx 22 T ds ro (.code c22_47 :: k) H Q = RunOps Cx 22 T ds ro o22_47 k H Q := run_region
def c22_48 : AC := .ret
theorem n22_48 : Run Cx 22 T [] none (.code c22_48 :: k) H Q = RunRes Cx T H Q (resOf Cx 22) := run_ret
def c22_46 : AC := .seq c22_47 c22_48
theorem n22_46 : Run Cx 22 T ds ro (.code c22_46 :: k) H Q = Run Cx 22 T ds ro (.code c22_47 :: .code c22_48 :: k) H Q := run_seq
def c22_38 : AC := .seq c22_39 c22_46
theorem n22_38 : Run Cx 22 T ds ro (.code c22_38 :: k) H Q = Run Cx 22 T ds ro (.code c22_39 :: .code c22_46 :: k) H Q := run_seq
def c22_30 : AC := .seq c22_31 c22_38
theorem n22_30 : Run Cx 22 T ds ro (.code c22_30 :: k) H Q = Run Cx 22 T ds ro (.code c22_31 :: .code c22_38 :: k) H Q := run_seq
def c22_22 : AC := .seq c22_23 c22_30
theorem n22_22 : Run Cx 22 T ds ro (.code c22_22 :: k) H Q = Run Cx 22 T ds ro (.code c22_23 :: .code c22_30 :: k) H Q := run_seq
def c22_6 : AC := .seq c22_7 c22_22
theorem n22_6 : Run Cx 22 T ds ro (.code c22_6 :: k) H Q = Run Cx 22 T ds ro (.code c22_7 :: .code c22_22 :: k) H Q := run_seq
def c22_4 : AC := .seq c22_5 c22_6
theorem n22_4 : Run Cx 22 T ds ro (.code c22_4 :: k) H Q = Run Cx 22 T ds ro (.code c22_5 :: .code c22_6 :: k) H Q := run_seq
def c22_2 : AC := .seq c22_3 c22_4
theorem n22_2 : Run Cx 22 T ds ro (.code c22_2 :: k) H Q = Run Cx 22 T ds ro (.code c22_3 :: .code c22_4 :: k) H Q := run_seq
def c22_0 : AC := .seq c22_1 c22_2
theorem n22_0 : Run Cx 22 T ds ro (.code c22_0 :: k) H Q = Run Cx 22 T ds ro (.code c22_1 :: .code c22_2 :: k) H Q := run_seq
theorem body22 : bodyOf Cx 22 = some c22_0 := by kernel_rfl
theorem res22 : resOf Cx 22 = some [.tmp 4] := by kernel_rfl
theorem pure22 : Cx.pure 22 = true := by kernel_rfl
-- RULES 22: n22_0, n22_1, n22_2, n22_3, n22_4, n22_5, n22_6, n22_7, n22_8, n22_9, n22_10, n22_11, n22_12, n22_13, n22_14, n22_15, n22_16, n22_17, n22_18, n22_19, n22_20, n22_21, n22_22, n22_23, n22_24, n22_25, n22_26, n22_27, n22_28, n22_29, n22_30, n22_31, n22_32, n22_33, n22_34, n22_35, n22_36, n22_37, n22_38, n22_39, n22_40, n22_41, n22_42, n22_43, n22_44, n22_45, n22_46, n22_47, n22_48
def o23_1 : List AO := [{ dst := (some 4), op := .assign (.const (.int .i64 0)), ty := 3, guard := none }]
def c23_1 : AC := .region o23_1 []
theorem n23_1 : Run Cx 23 T ds ro (.code c23_1 :: k) H Q = RunOps Cx 23 T ds ro o23_1 k H Q := run_region
def o23_3 : List AO := [{ dst := (some 5), op := .move (.tmp 0), ty := 9, guard := none },
  { dst := (some 6), op := .move (.tmp 1), ty := 9, guard := none },
  { dst := (some 7), op := .call { callee := (.value (.func 46)), args := #[(.tmp 5), (.tmp 6)], argTypes := #[9, 9] }, ty := 3, guard := none },
  { dst := (some 4), op := .assign (.tmp 7), ty := 3, guard := none }]
def c23_3 : AC := .region o23_3 []
theorem n23_3 : Run Cx 23 T ds ro (.code c23_3 :: k) H Q = RunOps Cx 23 T ds ro o23_3 k H Q := run_region
def c23_4 : AC := .ret
theorem n23_4 : Run Cx 23 T [] none (.code c23_4 :: k) H Q = RunRes Cx T H Q (resOf Cx 23) := run_ret
def c23_2 : AC := .seq c23_3 c23_4
theorem n23_2 : Run Cx 23 T ds ro (.code c23_2 :: k) H Q = Run Cx 23 T ds ro (.code c23_3 :: .code c23_4 :: k) H Q := run_seq
def c23_0 : AC := .seq c23_1 c23_2
theorem n23_0 : Run Cx 23 T ds ro (.code c23_0 :: k) H Q = Run Cx 23 T ds ro (.code c23_1 :: .code c23_2 :: k) H Q := run_seq
theorem body23 : bodyOf Cx 23 = some c23_0 := by kernel_rfl
theorem res23 : resOf Cx 23 = some [.tmp 4] := by kernel_rfl
theorem pure23 : Cx.pure 23 = true := by kernel_rfl
-- RULES 23: n23_0, n23_1, n23_2, n23_3, n23_4
def o24_1 : List AO := [{ dst := (some 1), op := .box 23 (.tmp 0), ty := 0, guard := none },
  { dst := (some 2), op := .assign (.const (.bool false)), ty := 4, guard := none }]
def c24_1 : AC := .region o24_1 []
theorem n24_1 : Run Cx 24 T ds ro (.code c24_1 :: k) H Q = RunOps Cx 24 T ds ro o24_1 k H Q := run_region
def o24_3 : List AO := [{ dst := (some 3), op := .fieldAddr 23 (.tmp 1) 0, ty := 0, guard := none },
  { dst := (some 4), op := .load 3 (.tmp 3), ty := 3, guard := none },
  { dst := (some 5), op := .binOp .geq 3 (.tmp 4) (.const (.int .i64 (-16777216))) 3, ty := 4, guard := none },
  { dst := (some 6), op := .move (.tmp 5), ty := 4, guard := none },
  { dst := (some 7), op := .fieldAddr 23 (.tmp 1) 0, ty := 0, guard := (some (6, true)) },
  { dst := (some 8), op := .load 3 (.tmp 7), ty := 3, guard := (some (6, true)) },
  { dst := (some 9), op := .binOp .leq 3 (.tmp 8) (.const (.int .i64 16777216)) 3, ty := 4, guard := (some (6, true)) },
  { dst := (some 10), op := .pick (.tmp 6) (.tmp 9) (.const (.bool false)), ty := 4, guard := none },
  { dst := (some 11), op := .move (.tmp 10), ty := 4, guard := none },
  { dst := (some 12), op := .fieldAddr 23 (.tmp 1) 1, ty := 0, guard := (some (11, true)) },
  { dst := (some 13), op := .load 3 (.tmp 12), ty := 3, guard := (some (11, true)) },
  { dst := (some 14), op := .binOp .geq 3 (.tmp 13) (.const (.int .i64 (-16777216))) 3, ty := 4, guard := (some (11, true)) },
  { dst := (some 15), op := .pick (.tmp 11) (.tmp 14) (.const (.bool false)), ty := 4, guard := none },
  { dst := (some 16), op := .move (.tmp 15), ty := 4, guard := none },
  { dst := (some 17), op := .fieldAddr 23 (.tmp 1) 1, ty := 0, guard := (some (16, true)) },
  { dst := (some 18), op := .load 3 (.tmp 17), ty := 3, guard := (some (16, true)) },
  { dst := (some 19), op := .binOp .leq 3 (.tmp 18) (.const (.int .i64 16777216)) 3, ty := 4, guard := (some (16, true)) },
  { dst := (some 20), op := .pick (.tmp 16) (.tmp 19) (.const (.bool false)), ty := 4, guard := none },
  { dst := (some 2), op := .assign (.tmp 20), ty := 4, guard := none }]
def c24_3 : AC := .region o24_3 []
theorem n24_3 : Run Cx 24 T ds ro (.code c24_3 :: k) H Q = RunOps Cx 24 T ds ro o24_3 k H Q := run_region
def c24_4 : AC := .ret
theorem n24_4 : Run Cx 24 T [] none (.code c24_4 :: k) H Q = RunRes Cx T H Q (resOf Cx 24) := run_ret
def c24_2 : AC := .seq c24_3 c24_4
theorem n24_2 : Run Cx 24 T ds ro (.code c24_2 :: k) H Q = Run Cx 24 T ds ro (.code c24_3 :: .code c24_4 :: k) H Q := run_seq
def c24_0 : AC := .seq c24_1 c24_2
theorem n24_0 : Run Cx 24 T ds ro (.code c24_0 :: k) H Q = Run Cx 24 T ds ro (.code c24_1 :: .code c24_2 :: k) H Q := run_seq
theorem body24 : bodyOf Cx 24 = some c24_0 := by kernel_rfl
theorem res24 : resOf Cx 24 = some [.tmp 2] := by kernel_rfl
theorem pure24 : Cx.pure 24 = true := by kernel_rfl
-- RULES 24: n24_0, n24_1, n24_2, n24_3, n24_4
def o25_1 : List AO := [{ dst := (some 2), op := .assign (.const (.string ⟨#[]⟩)), ty := 9, guard := none }]
def c25_1 : AC := .region o25_1 []
theorem n25_1 : Run Cx 25 T ds ro (.code c25_1 :: k) H Q = RunOps Cx 25 T ds ro o25_1 k H Q := run_region
def o25_4 : List AO := [{ dst := (some 4), op := .move (.tmp 0), ty := 3, guard := none },
  { dst := (some 5), op := .binOp .lss 3 (.tmp 4) (.const (.int .i64 0)) 3, ty := 4, guard := none },
  { dst := (some 6), op := .move (.tmp 5), ty := 4, guard := none },
  { dst := (some 7), op := .move (.tmp 0), ty := 3, guard := (some (6, false)) },
  { dst := (some 8), op := .binOp .gtr 3 (.tmp 7) (.const (.int .i64 9007199254740991)) 3, ty := 4, guard := (some (6, false)) },
  { dst := (some 9), op := .pick (.tmp 6) (.const (.bool true)) (.tmp 8), ty := 4, guard := none }]
def c25_4 : AC := .region o25_4 []
theorem n25_4 : Run Cx 25 T ds ro (.code c25_4 :: k) H Q = RunOps Cx 25 T ds ro o25_4 k H Q := run_region
def o25_7 : List AO := [{ dst := (some 2), op := .assign (.const (.string ⟨#[]⟩)), ty := 9, guard := none }]
def c25_7 : AC := .region o25_7 []
theorem n25_7 : Run Cx 25 T ds ro (.code c25_7 :: k) H Q = RunOps Cx 25 T ds ro o25_7 k H Q := run_region
def c25_8 : AC := .ret
theorem n25_8 : Run Cx 25 T [] none (.code c25_8 :: k) H Q = RunRes Cx T H Q (resOf Cx 25) := run_ret
def c25_6 : AC := .seq c25_7 c25_8
theorem n25_6 : Run Cx 25 T ds ro (.code c25_6 :: k) H Q = Run Cx 25 T ds ro (.code c25_7 :: .code c25_8 :: k) H Q := run_seq
def c25_9 : AC := .skip
theorem n25_9 : Run Cx 25 T ds ro (.code c25_9 :: k) H Q = Run Cx 25 T ds ro (k) H Q := run_skip
def c25_5 : AC := .cond (.tmp 9) c25_6 c25_9
theorem n25_5 : Run Cx 25 T ds ro (.code c25_5 :: k) H Q = RunCond Cx 25 T ds ro (.tmp 9) (ev T (.tmp 9)) c25_6 c25_9 k H Q := run_condC
def c25_3 : AC := .seq c25_4 c25_5
theorem n25_3 : Run Cx 25 T ds ro (.code c25_3 :: k) H Q = Run Cx 25 T ds ro (.code c25_4 :: .code c25_5 :: k) H Q := run_seq
def o25_11 : List AO := [{ dst := (some 3), op := .assign (.const (.slice none 0 0)), ty := 58, guard := none }]
def c25_11 : AC := .region o25_11 []
theorem n25_11 : Run Cx 25 T ds ro (.code c25_11 :: k) H Q = RunOps Cx 25 T ds ro o25_11 k H Q := run_region
def o25_17 : List AO := [{ dst := (some 10), op := .move (.tmp 0), ty := 3, guard := none },
  { dst := (some 11), op := .binOp .geq 3 (.tmp 10) (.const (.int .i64 128)) 3, ty := 4, guard := none }]
def c25_17 : AC := .region o25_17 []
theorem n25_17 : Run Cx 25 T ds ro (.code c25_17 :: k) H Q = RunOps Cx 25 T ds ro o25_17 k H Q := run_region
def c25_19 : AC := .skip
theorem n25_19 : Run Cx 25 T ds ro (.code c25_19 :: k) H Q = Run Cx 25 T ds ro (k) H Q := run_skip
def c25_20 : AC := .exit 0
theorem n25_20 : Run Cx 25 T ds ro (.code c25_20 :: k) H Q = RunExit Cx 25 T ds ro 0 k k H Q := run_exit_start
def c25_18 : AC := .cond (.tmp 11) c25_19 c25_20
theorem n25_18 : Run Cx 25 T ds ro (.code c25_18 :: k) H Q = RunCond Cx 25 T ds ro (.tmp 11) (ev T (.tmp 11)) c25_19 c25_20 k H Q := run_condC
def c25_16 : AC := .seq c25_17 c25_18
theorem n25_16 : Run Cx 25 T ds ro (.code c25_16 :: k) H Q = Run Cx 25 T ds ro (.code c25_17 :: .code c25_18 :: k) H Q := run_seq
def o25_23 : List AO := [{ dst := (some 12), op := .move (.tmp 3), ty := 58, guard := none },
  { dst := (some 13), op := .move (.tmp 0), ty := 3, guard := none },
  { dst := (some 14), op := .binOp .rem 3 (.tmp 13) (.const (.int .i64 128)) 3, ty := 3, guard := none },
  { dst := (some 15), op := .binOp .add 3 (.tmp 14) (.const (.int .i64 128)) 3, ty := 3, guard := none },
  { dst := (some 16), op := .convert 3 5 (.tmp 15), ty := 5, guard := none },
  { dst := (some 17), op := .buildSlice 58 1 #[(0, (.tmp 16))], ty := 58, guard := none },
  { dst := (some 18), op := .call { callee := (.builtin .append), args := #[(.tmp 12), (.tmp 17)], argTypes := #[58, 58] }, ty := 58, guard := none },
  { dst := (some 3), op := .assign (.tmp 18), ty := 58, guard := none }]
def c25_23 : AC := .region o25_23 []
theorem n25_23 : Run Cx 25 T ds ro (.code c25_23 :: k) H Q = RunOps Cx 25 T ds ro o25_23 k H Q := run_region
def o25_24 : List AO := [{ dst := (some 19), op := .move (.tmp 0), ty := 3, guard := none },
  { dst := (some 20), op := .binOp .quo 3 (.tmp 19) (.const (.int .i64 128)) 3, ty := 3, guard := none },
  { dst := (some 0), op := .assign (.tmp 20), ty := 3, guard := none }]
def c25_24 : AC := .region o25_24 []
theorem n25_24 : Run Cx 25 T ds ro (.code c25_24 :: k) H Q = RunOps Cx 25 T ds ro o25_24 k H Q := run_region
def c25_22 : AC := .seq c25_23 c25_24
theorem n25_22 : Run Cx 25 T ds ro (.code c25_22 :: k) H Q = Run Cx 25 T ds ro (.code c25_23 :: .code c25_24 :: k) H Q := run_seq
def c25_21 : AC := .block 1 c25_22
theorem n25_21 : Run Cx 25 T ds ro (.code c25_21 :: k) H Q = Run Cx 25 T ds ro (.code c25_22 :: .inBlock 1 :: k) H Q := run_block
def c25_15 : AC := .seq c25_16 c25_21
theorem n25_15 : Run Cx 25 T ds ro (.code c25_15 :: k) H Q = Run Cx 25 T ds ro (.code c25_16 :: .code c25_21 :: k) H Q := run_seq
def c25_14 : AC := .loop c25_15
theorem n25_14 : Run Cx 25 T ds ro (.code c25_14 :: k) H Q = Run Cx 25 T ds ro (.inLoop c25_15 :: k) H Q := run_loop'
def c25_13 : AC := .block 0 c25_14
theorem n25_13 : Run Cx 25 T ds ro (.code c25_13 :: k) H Q = Run Cx 25 T ds ro (.code c25_14 :: .inBlock 0 :: k) H Q := run_block
def o25_26 : List AO := [{ dst := (some 21), op := .move (.tmp 3), ty := 58, guard := none },
  { dst := (some 22), op := .move (.tmp 0), ty := 3, guard := none },
  { dst := (some 23), op := .convert 3 5 (.tmp 22), ty := 5, guard := none },
  { dst := (some 24), op := .buildSlice 58 1 #[(0, (.tmp 23))], ty := 58, guard := none },
  { dst := (some 25), op := .call { callee := (.builtin .append), args := #[(.tmp 21), (.tmp 24)], argTypes := #[58, 58] }, ty := 58, guard := none },
  { dst := (some 26), op := .convert 58 9 (.tmp 25), ty := 9, guard := none },
  { dst := (some 2), op := .assign (.tmp 26), ty := 9, guard := none }]
def c25_26 : AC := .region o25_26 []
theorem n25_26 : Run Cx 25 T ds ro (.code c25_26 :: k) H Q = RunOps Cx 25 T ds ro o25_26 k H Q := run_region
def c25_27 : AC := .ret
theorem n25_27 : Run Cx 25 T [] none (.code c25_27 :: k) H Q = RunRes Cx T H Q (resOf Cx 25) := run_ret
def c25_25 : AC := .seq c25_26 c25_27
theorem n25_25 : Run Cx 25 T ds ro (.code c25_25 :: k) H Q = Run Cx 25 T ds ro (.code c25_26 :: .code c25_27 :: k) H Q := run_seq
def c25_12 : AC := .seq c25_13 c25_25
theorem n25_12 : Run Cx 25 T ds ro (.code c25_12 :: k) H Q = Run Cx 25 T ds ro (.code c25_13 :: .code c25_25 :: k) H Q := run_seq
def c25_10 : AC := .seq c25_11 c25_12
theorem n25_10 : Run Cx 25 T ds ro (.code c25_10 :: k) H Q = Run Cx 25 T ds ro (.code c25_11 :: .code c25_12 :: k) H Q := run_seq
def c25_2 : AC := .seq c25_3 c25_10
theorem n25_2 : Run Cx 25 T ds ro (.code c25_2 :: k) H Q = Run Cx 25 T ds ro (.code c25_3 :: .code c25_10 :: k) H Q := run_seq
def c25_0 : AC := .seq c25_1 c25_2
theorem n25_0 : Run Cx 25 T ds ro (.code c25_0 :: k) H Q = Run Cx 25 T ds ro (.code c25_1 :: .code c25_2 :: k) H Q := run_seq
theorem body25 : bodyOf Cx 25 = some c25_0 := by kernel_rfl
theorem res25 : resOf Cx 25 = some [.tmp 2] := by kernel_rfl
theorem pure25 : Cx.pure 25 = true := by kernel_rfl
-- RULES 25: n25_0, n25_1, n25_2, n25_3, n25_4, n25_5, n25_6, n25_7, n25_8, n25_9, n25_10, n25_11, n25_12, n25_13, n25_14, n25_15, n25_16, n25_17, n25_18, n25_19, n25_20, n25_21, n25_22, n25_23, n25_24, n25_25, n25_26, n25_27
def o26_1 : List AO := [{ dst := (some 2), op := .assign (.const (.string ⟨#[]⟩)), ty := 9, guard := none }]
def c26_1 : AC := .region o26_1 []
theorem n26_1 : Run Cx 26 T ds ro (.code c26_1 :: k) H Q = RunOps Cx 26 T ds ro o26_1 k H Q := run_region
def o26_5 : List AO := [{ dst := (some 4), op := .move (.tmp 0), ty := 3, guard := none },
  { dst := (some 5), op := .binOp .lss 3 (.tmp 4) (.const (.int .i64 (-4503599627370496))) 3, ty := 4, guard := none },
  { dst := (some 6), op := .move (.tmp 5), ty := 4, guard := none },
  { dst := (some 7), op := .move (.tmp 0), ty := 3, guard := (some (6, false)) },
  { dst := (some 8), op := .binOp .geq 3 (.tmp 7) (.const (.int .i64 4503599627370496)) 3, ty := 4, guard := (some (6, false)) },
  { dst := (some 9), op := .pick (.tmp 6) (.const (.bool true)) (.tmp 8), ty := 4, guard := none },
  { dst := (some 3), op := .assign (.tmp 9), ty := 4, guard := none }]
def c26_5 : AC := .region o26_5 []
theorem n26_5 : Run Cx 26 T ds ro (.code c26_5 :: k) H Q = RunOps Cx 26 T ds ro o26_5 k H Q := run_region
def o26_8 : List AO := [{ dst := (some 2), op := .assign (.const (.string ⟨#[]⟩)), ty := 9, guard := none }]
def c26_8 : AC := .region o26_8 []
theorem n26_8 : Run Cx 26 T ds ro (.code c26_8 :: k) H Q = RunOps Cx 26 T ds ro o26_8 k H Q := run_region
def c26_9 : AC := .ret
theorem n26_9 : Run Cx 26 T [] none (.code c26_9 :: k) H Q = RunRes Cx T H Q (resOf Cx 26) := run_ret
def c26_7 : AC := .seq c26_8 c26_9
theorem n26_7 : Run Cx 26 T ds ro (.code c26_7 :: k) H Q = Run Cx 26 T ds ro (.code c26_8 :: .code c26_9 :: k) H Q := run_seq
def o26_11 : List AO := [{ dst := (some 11), op := .move (.tmp 0), ty := 3, guard := none },
  { dst := (some 12), op := .binOp .lss 3 (.tmp 11) (.const (.int .i64 0)) 3, ty := 4, guard := none },
  { dst := (some 10), op := .assign (.tmp 12), ty := 4, guard := none }]
def c26_11 : AC := .region o26_11 []
theorem n26_11 : Run Cx 26 T ds ro (.code c26_11 :: k) H Q = RunOps Cx 26 T ds ro o26_11 k H Q := run_region
def o26_14 : List AO := [{ dst := (some 13), op := .move (.tmp 0), ty := 3, guard := none },
  { dst := (some 14), op := .binOp .mul 3 (.const (.int .i64 (-2))) (.tmp 13) 3, ty := 3, guard := none },
  { dst := (some 15), op := .binOp .sub 3 (.tmp 14) (.const (.int .i64 1)) 3, ty := 3, guard := none },
  { dst := (some 16), op := .call { callee := (.value (.func 25)), args := #[(.tmp 15)], argTypes := #[3] }, ty := 9, guard := none },
  { dst := (some 2), op := .assign (.tmp 16), ty := 9, guard := none }]
def c26_14 : AC := .region o26_14 []
theorem n26_14 : Run Cx 26 T ds ro (.code c26_14 :: k) H Q = RunOps Cx 26 T ds ro o26_14 k H Q := run_region
def c26_15 : AC := .ret
theorem n26_15 : Run Cx 26 T [] none (.code c26_15 :: k) H Q = RunRes Cx T H Q (resOf Cx 26) := run_ret
def c26_13 : AC := .seq c26_14 c26_15
theorem n26_13 : Run Cx 26 T ds ro (.code c26_13 :: k) H Q = Run Cx 26 T ds ro (.code c26_14 :: .code c26_15 :: k) H Q := run_seq
def c26_16 : AC := .skip
theorem n26_16 : Run Cx 26 T ds ro (.code c26_16 :: k) H Q = Run Cx 26 T ds ro (k) H Q := run_skip
def c26_12 : AC := .cond (.tmp 10) c26_13 c26_16
theorem n26_12 : Run Cx 26 T ds ro (.code c26_12 :: k) H Q = RunCond Cx 26 T ds ro (.tmp 10) (ev T (.tmp 10)) c26_13 c26_16 k H Q := run_condC
def c26_10 : AC := .seq c26_11 c26_12
theorem n26_10 : Run Cx 26 T ds ro (.code c26_10 :: k) H Q = Run Cx 26 T ds ro (.code c26_11 :: .code c26_12 :: k) H Q := run_seq
def c26_6 : AC := .cond (.tmp 3) c26_7 c26_10
theorem n26_6 : Run Cx 26 T ds ro (.code c26_6 :: k) H Q = RunCond Cx 26 T ds ro (.tmp 3) (ev T (.tmp 3)) c26_7 c26_10 k H Q := run_condC
def c26_4 : AC := .seq c26_5 c26_6
theorem n26_4 : Run Cx 26 T ds ro (.code c26_4 :: k) H Q = Run Cx 26 T ds ro (.code c26_5 :: .code c26_6 :: k) H Q := run_seq
def c26_3 : AC := .block 0 c26_4
theorem n26_3 : Run Cx 26 T ds ro (.code c26_3 :: k) H Q = Run Cx 26 T ds ro (.code c26_4 :: .inBlock 0 :: k) H Q := run_block
def o26_18 : List AO := [{ dst := (some 17), op := .move (.tmp 0), ty := 3, guard := none },
  { dst := (some 18), op := .binOp .mul 3 (.const (.int .i64 2)) (.tmp 17) 3, ty := 3, guard := none },
  { dst := (some 19), op := .call { callee := (.value (.func 25)), args := #[(.tmp 18)], argTypes := #[3] }, ty := 9, guard := none },
  { dst := (some 2), op := .assign (.tmp 19), ty := 9, guard := none }]
def c26_18 : AC := .region o26_18 []
theorem n26_18 : Run Cx 26 T ds ro (.code c26_18 :: k) H Q = RunOps Cx 26 T ds ro o26_18 k H Q := run_region
def c26_19 : AC := .ret
theorem n26_19 : Run Cx 26 T [] none (.code c26_19 :: k) H Q = RunRes Cx T H Q (resOf Cx 26) := run_ret
def c26_17 : AC := .seq c26_18 c26_19
theorem n26_17 : Run Cx 26 T ds ro (.code c26_17 :: k) H Q = Run Cx 26 T ds ro (.code c26_18 :: .code c26_19 :: k) H Q := run_seq
def c26_2 : AC := .seq c26_3 c26_17
theorem n26_2 : Run Cx 26 T ds ro (.code c26_2 :: k) H Q = Run Cx 26 T ds ro (.code c26_3 :: .code c26_17 :: k) H Q := run_seq
def c26_0 : AC := .seq c26_1 c26_2
theorem n26_0 : Run Cx 26 T ds ro (.code c26_0 :: k) H Q = Run Cx 26 T ds ro (.code c26_1 :: .code c26_2 :: k) H Q := run_seq
theorem body26 : bodyOf Cx 26 = some c26_0 := by kernel_rfl
theorem res26 : resOf Cx 26 = some [.tmp 2] := by kernel_rfl
theorem pure26 : Cx.pure 26 = true := by kernel_rfl
-- RULES 26: n26_0, n26_1, n26_2, n26_3, n26_4, n26_5, n26_6, n26_7, n26_8, n26_9, n26_10, n26_11, n26_12, n26_13, n26_14, n26_15, n26_16, n26_17, n26_18, n26_19
def o27_1 : List AO := [{ dst := (some 2), op := .assign (.const (.string ⟨#[]⟩)), ty := 9, guard := none }]
def c27_1 : AC := .region o27_1 []
theorem n27_1 : Run Cx 27 T ds ro (.code c27_1 :: k) H Q = RunOps Cx 27 T ds ro o27_1 k H Q := run_region
def o27_3 : List AO := [{ dst := (some 3), op := .move (.tmp 0), ty := 9, guard := none },
  { dst := (some 4), op := .call { callee := (.builtin .len), args := #[(.tmp 3)], argTypes := #[9] }, ty := 3, guard := none },
  { dst := (some 5), op := .call { callee := (.value (.func 25)), args := #[(.tmp 4)], argTypes := #[3] }, ty := 9, guard := none },
  { dst := (some 6), op := .move (.tmp 0), ty := 9, guard := none },
  { dst := (some 7), op := .binOp .add 9 (.tmp 5) (.tmp 6) 9, ty := 9, guard := none },
  { dst := (some 2), op := .assign (.tmp 7), ty := 9, guard := none }]
def c27_3 : AC := .region o27_3 []
theorem n27_3 : Run Cx 27 T ds ro (.code c27_3 :: k) H Q = RunOps Cx 27 T ds ro o27_3 k H Q := run_region
def c27_4 : AC := .ret
theorem n27_4 : Run Cx 27 T [] none (.code c27_4 :: k) H Q = RunRes Cx T H Q (resOf Cx 27) := run_ret
def c27_2 : AC := .seq c27_3 c27_4
theorem n27_2 : Run Cx 27 T ds ro (.code c27_2 :: k) H Q = Run Cx 27 T ds ro (.code c27_3 :: .code c27_4 :: k) H Q := run_seq
def c27_0 : AC := .seq c27_1 c27_2
theorem n27_0 : Run Cx 27 T ds ro (.code c27_0 :: k) H Q = Run Cx 27 T ds ro (.code c27_1 :: .code c27_2 :: k) H Q := run_seq
theorem body27 : bodyOf Cx 27 = some c27_0 := by kernel_rfl
theorem res27 : resOf Cx 27 = some [.tmp 2] := by kernel_rfl
theorem pure27 : Cx.pure 27 = true := by kernel_rfl
-- RULES 27: n27_0, n27_1, n27_2, n27_3, n27_4
def o28_1 : List AO := [{ dst := (some 2), op := .assign (.const (.string ⟨#[]⟩)), ty := 9, guard := none }]
def c28_1 : AC := .region o28_1 []
theorem n28_1 : Run Cx 28 T ds ro (.code c28_1 :: k) H Q = RunOps Cx 28 T ds ro o28_1 k H Q := run_region
def o28_4 : List AO := [{ dst := (some 4), op := .move (.tmp 0), ty := 3, guard := none },
  { dst := (some 5), op := .binOp .lss 3 (.tmp 4) (.const (.int .i64 0)) 3, ty := 4, guard := none }]
def c28_4 : AC := .region o28_4 []
theorem n28_4 : Run Cx 28 T ds ro (.code c28_4 :: k) H Q = RunOps Cx 28 T ds ro o28_4 k H Q := run_region
def o28_7 : List AO := [{ dst := (some 6), op := .move (.tmp 0), ty := 3, guard := none },
  { dst := (some 7), op := .unOp .neg 3 (.tmp 6), ty := 3, guard := none },
  { dst := (some 8), op := .call { callee := (.value (.func 28)), args := #[(.tmp 7)], argTypes := #[3] }, ty := 9, guard := none },
  { dst := (some 9), op := .binOp .add 9 (.const (.string ⟨#[45]⟩)) (.tmp 8) 9, ty := 9, guard := none },
  { dst := (some 2), op := .assign (.tmp 9), ty := 9, guard := none }]
def c28_7 : AC := .region o28_7 []
theorem n28_7 : Run Cx 28 T ds ro (.code c28_7 :: k) H Q = RunOps Cx 28 T ds ro o28_7 k H Q := run_region
def c28_8 : AC := .ret
theorem n28_8 : Run Cx 28 T [] none (.code c28_8 :: k) H Q = RunRes Cx T H Q (resOf Cx 28) := run_ret
def c28_6 : AC := .seq c28_7 c28_8
theorem n28_6 : Run Cx 28 T ds ro (.code c28_6 :: k) H Q = Run Cx 28 T ds ro (.code c28_7 :: .code c28_8 :: k) H Q := run_seq
def c28_9 : AC := .skip
theorem n28_9 : Run Cx 28 T ds ro (.code c28_9 :: k) H Q = Run Cx 28 T ds ro (k) H Q := run_skip
def c28_5 : AC := .cond (.tmp 5) c28_6 c28_9
theorem n28_5 : Run Cx 28 T ds ro (.code c28_5 :: k) H Q = RunCond Cx 28 T ds ro (.tmp 5) (ev T (.tmp 5)) c28_6 c28_9 k H Q := run_condC
def c28_3 : AC := .seq c28_4 c28_5
theorem n28_3 : Run Cx 28 T ds ro (.code c28_3 :: k) H Q = Run Cx 28 T ds ro (.code c28_4 :: .code c28_5 :: k) H Q := run_seq
def o28_11 : List AO := [{ dst := (some 3), op := .assign (.const (.string ⟨#[]⟩)), ty := 9, guard := none }]
def c28_11 : AC := .region o28_11 []
theorem n28_11 : Run Cx 28 T ds ro (.code c28_11 :: k) H Q = RunOps Cx 28 T ds ro o28_11 k H Q := run_region
def o28_16 : List AO := [{ dst := (some 10), op := .move (.tmp 0), ty := 3, guard := none },
  { dst := (some 11), op := .binOp .rem 3 (.tmp 10) (.const (.int .i64 10)) 3, ty := 3, guard := none },
  { dst := (some 12), op := .move (.tmp 0), ty := 3, guard := none },
  { dst := (some 13), op := .binOp .rem 3 (.tmp 12) (.const (.int .i64 10)) 3, ty := 3, guard := none },
  { dst := (some 14), op := .binOp .add 3 (.tmp 13) (.const (.int .i64 1)) 3, ty := 3, guard := none },
  { dst := (some 15), op := .slice 9 (.const (.string ⟨#[48, 49, 50, 51, 52, 53, 54, 55, 56, 57, 97, 98, 99, 100, 101, 102]⟩)) (some (.tmp 11)) (some (.tmp 14)) none, ty := 9, guard := none },
  { dst := (some 16), op := .move (.tmp 3), ty := 9, guard := none },
  { dst := (some 17), op := .binOp .add 9 (.tmp 15) (.tmp 16) 9, ty := 9, guard := none },
  { dst := (some 3), op := .assign (.tmp 17), ty := 9, guard := none }]
def c28_16 : AC := .region o28_16 []
theorem n28_16 : Run Cx 28 T ds ro (.code c28_16 :: k) H Q = RunOps Cx 28 T ds ro o28_16 k H Q := run_region
def o28_18 : List AO := [{ dst := (some 18), op := .move (.tmp 0), ty := 3, guard := none },
  { dst := (some 19), op := .binOp .quo 3 (.tmp 18) (.const (.int .i64 10)) 3, ty := 3, guard := none },
  { dst := (some 0), op := .assign (.tmp 19), ty := 3, guard := none }]
def c28_18 : AC := .region o28_18 []
theorem n28_18 : Run Cx 28 T ds ro (.code c28_18 :: k) H Q = RunOps Cx 28 T ds ro o28_18 k H Q := run_region
def o28_20 : List AO := [{ dst := (some 20), op := .move (.tmp 0), ty := 3, guard := none },
  { dst := (some 21), op := .binOp .eql 3 (.tmp 20) (.const (.int .i64 0)) 3, ty := 4, guard := none }]
def c28_20 : AC := .region o28_20 []
theorem n28_20 : Run Cx 28 T ds ro (.code c28_20 :: k) H Q = RunOps Cx 28 T ds ro o28_20 k H Q := run_region
def o28_23 : List AO := [{ dst := (some 22), op := .move (.tmp 3), ty := 9, guard := none },
  { dst := (some 2), op := .assign (.tmp 22), ty := 9, guard := none }]
def c28_23 : AC := .region o28_23 []
theorem n28_23 : Run Cx 28 T ds ro (.code c28_23 :: k) H Q = RunOps Cx 28 T ds ro o28_23 k H Q := run_region
def c28_24 : AC := .ret
theorem n28_24 : Run Cx 28 T [] none (.code c28_24 :: k) H Q = RunRes Cx T H Q (resOf Cx 28) := run_ret
def c28_22 : AC := .seq c28_23 c28_24
theorem n28_22 : Run Cx 28 T ds ro (.code c28_22 :: k) H Q = Run Cx 28 T ds ro (.code c28_23 :: .code c28_24 :: k) H Q := run_seq
def c28_25 : AC := .skip
theorem n28_25 : Run Cx 28 T ds ro (.code c28_25 :: k) H Q = Run Cx 28 T ds ro (k) H Q := run_skip
def c28_21 : AC := .cond (.tmp 21) c28_22 c28_25
theorem n28_21 : Run Cx 28 T ds ro (.code c28_21 :: k) H Q = RunCond Cx 28 T ds ro (.tmp 21) (ev T (.tmp 21)) c28_22 c28_25 k H Q := run_condC
def c28_19 : AC := .seq c28_20 c28_21
theorem n28_19 : Run Cx 28 T ds ro (.code c28_19 :: k) H Q = Run Cx 28 T ds ro (.code c28_20 :: .code c28_21 :: k) H Q := run_seq
def c28_17 : AC := .seq c28_18 c28_19
theorem n28_17 : Run Cx 28 T ds ro (.code c28_17 :: k) H Q = Run Cx 28 T ds ro (.code c28_18 :: .code c28_19 :: k) H Q := run_seq
def c28_15 : AC := .seq c28_16 c28_17
theorem n28_15 : Run Cx 28 T ds ro (.code c28_15 :: k) H Q = Run Cx 28 T ds ro (.code c28_16 :: .code c28_17 :: k) H Q := run_seq
def c28_14 : AC := .block 1 c28_15
theorem n28_14 : Run Cx 28 T ds ro (.code c28_14 :: k) H Q = Run Cx 28 T ds ro (.code c28_15 :: .inBlock 1 :: k) H Q := run_block
def c28_13 : AC := .loop c28_14
theorem n28_13 : Run Cx 28 T ds ro (.code c28_13 :: k) H Q = Run Cx 28 T ds ro (.inLoop c28_14 :: k) H Q := run_loop'
def c28_12 : AC := .block 0 c28_13
theorem n28_12 : Run Cx 28 T ds ro (.code c28_12 :: k) H Q = Run Cx 28 T ds ro (.code c28_13 :: .inBlock 0 :: k) H Q := run_block
def c28_10 : AC := .seq c28_11 c28_12
theorem n28_10 : Run Cx 28 T ds ro (.code c28_10 :: k) H Q = Run Cx 28 T ds ro (.code c28_11 :: .code c28_12 :: k) H Q := run_seq
def c28_2 : AC := .seq c28_3 c28_10
theorem n28_2 : Run Cx 28 T ds ro (.code c28_2 :: k) H Q = Run Cx 28 T ds ro (.code c28_3 :: .code c28_10 :: k) H Q := run_seq
def c28_0 : AC := .seq c28_1 c28_2
theorem n28_0 : Run Cx 28 T ds ro (.code c28_0 :: k) H Q = Run Cx 28 T ds ro (.code c28_1 :: .code c28_2 :: k) H Q := run_seq
theorem body28 : bodyOf Cx 28 = some c28_0 := by kernel_rfl
theorem res28 : resOf Cx 28 = some [.tmp 2] := by kernel_rfl
theorem pure28 : Cx.pure 28 = true := by kernel_rfl
-- RULES 28: n28_0, n28_1, n28_2, n28_3, n28_4, n28_5, n28_6, n28_7, n28_8, n28_9, n28_10, n28_11, n28_12, n28_13, n28_14, n28_15, n28_16, n28_17, n28_18, n28_19, n28_20, n28_21, n28_22, n28_23, n28_24, n28_25
def o29_1 : List AO := [{ dst := (some 2), op := .assign (.const (.string ⟨#[]⟩)), ty := 9, guard := none }]
def c29_1 : AC := .region o29_1 []
theorem n29_1 : Run Cx 29 T ds ro (.code c29_1 :: k) H Q = RunOps Cx 29 T ds ro o29_1 k H Q := run_region
def o29_3 : List AO := [{ dst := (some 3), op := .alloc 61, ty := 0, guard := none }]
def c29_3 : AC := .region o29_3 []
theorem n29_3 : Run Cx 29 T ds ro (.code c29_3 :: k) H Q = RunOps Cx 29 T ds ro o29_3 k H Q := run_region
def o29_5 : List AO := [{ dst := (some 6), op := .call { callee := (.value (.func 47)), args := #[(.tmp 3), (.const (.int .u8 34))], argTypes := #[61, 5] }, ty := 63, guard := none }]
def c29_5 : AC := .region o29_5 []
theorem n29_5 : Run Cx 29 T ds ro (.code c29_5 :: k) H Q = RunOps Cx 29 T ds ro o29_5 k H Q := run_region
def o29_8 : List AO := [{ dst := (some 7), op := .move (.tmp 0), ty := 9, guard := none },
  { dst := (some 8), op := .call { callee := (.builtin .len), args := #[(.tmp 7)], argTypes := #[9] }, ty := 3, guard := none },
  { dst := (some 9), op := .move (.const (.int .i64 0)), ty := 3, guard := none }]
def c29_8 : AC := .region o29_8 []
theorem n29_8 : Run Cx 29 T ds ro (.code c29_8 :: k) H Q = RunOps Cx 29 T ds ro o29_8 k H Q := run_region
def o29_12 : List AO := [{ dst := (some 10), op := .binOp .lss 3 (.tmp 9) (.tmp 8) 3, ty := 4, guard := none }]
def c29_12 : AC := .region o29_12 []
theorem n29_12 : Run Cx 29 T ds ro (.code c29_12 :: k) H Q = RunOps Cx 29 T ds ro o29_12 k H Q := run_region
def c29_15 : AC := .skip
theorem n29_15 : Run Cx 29 T ds ro (.code c29_15 :: k) H Q = Run Cx 29 T ds ro (k) H Q := run_skip
def c29_16 : AC := .exit 0
theorem n29_16 : Run Cx 29 T ds ro (.code c29_16 :: k) H Q = RunExit Cx 29 T ds ro 0 k k H Q := run_exit_start
def c29_14 : AC := .cond (.tmp 10) c29_15 c29_16
theorem n29_14 : Run Cx 29 T ds ro (.code c29_14 :: k) H Q = RunCond Cx 29 T ds ro (.tmp 10) (ev T (.tmp 10)) c29_15 c29_16 k H Q := run_condC
def o29_20 : List AO := [{ dst := (some 11), op := .move (.tmp 9), ty := 3, guard := none },
  { dst := (some 4), op := .assign (.tmp 11), ty := 3, guard := none }]
def c29_20 : AC := .region o29_20 []
theorem n29_20 : Run Cx 29 T ds ro (.code c29_20 :: k) H Q = RunOps Cx 29 T ds ro o29_20 k H Q := run_region
def o29_22 : List AO := [{ dst := (some 12), op := .move (.tmp 0), ty := 9, guard := none },
  { dst := (some 13), op := .move (.tmp 4), ty := 3, guard := none },
  { dst := (some 14), op := .index 9 (.tmp 12) (.tmp 13), ty := 5, guard := none },
  { dst := (some 5), op := .assign (.tmp 14), ty := 5, guard := none }]
def c29_22 : AC := .region o29_22 []
theorem n29_22 : Run Cx 29 T ds ro (.code c29_22 :: k) H Q = RunOps Cx 29 T ds ro o29_22 k H Q := run_region
def o29_24 : List AO := [{ dst := (some 15), op := .move (.tmp 5), ty := 5, guard := none },
  { dst := (some 16), op := .call { callee := (.value (.func 48)), args := #[(.tmp 15)], argTypes := #[5] }, ty := 4, guard := none }]
def c29_24 : AC := .region o29_24 []
theorem n29_24 : Run Cx 29 T ds ro (.code c29_24 :: k) H Q = RunOps Cx 29 T ds ro o29_24 k H Q := run_region
def o29_26 : List AO := [{ dst := (some 17), op := .move (.tmp 5), ty := 5, guard := none },
  { dst := (some 18), op := .call { callee := (.value (.func 47)), args := #[(.tmp 3), (.tmp 17)], argTypes := #[61, 5] }, ty := 63, guard := none }]
def c29_26 : AC := .region o29_26 []
theorem n29_26 : Run Cx 29 T ds ro (.code c29_26 :: k) H Q = RunOps Cx 29 T ds ro o29_26 k H Q := run_region
def o29_27 : List AO := [{ dst := (some 19), op := .move (.tmp 5), ty := 5, guard := none },
  { dst := (some 20), op := .binOp .quo 5 (.tmp 19) (.const (.int .u8 16)) 5, ty := 5, guard := none },
  { dst := (some 21), op := .move (.tmp 5), ty := 5, guard := none },
  { dst := (some 22), op := .binOp .quo 5 (.tmp 21) (.const (.int .u8 16)) 5, ty := 5, guard := none },
  { dst := (some 23), op := .binOp .add 5 (.tmp 22) (.const (.int .u8 1)) 5, ty := 5, guard := none },
  { dst := (some 24), op := .slice 9 (.const (.string ⟨#[48, 49, 50, 51, 52, 53, 54, 55, 56, 57, 97, 98, 99, 100, 101, 102]⟩)) (some (.tmp 20)) (some (.tmp 23)) none, ty := 9, guard := none },
  { dst := (some 25), op := .binOp .add 9 (.const (.string ⟨#[92]⟩)) (.tmp 24) 9, ty := 9, guard := none },
  { dst := (some 26), op := .move (.tmp 5), ty := 5, guard := none },
  { dst := (some 27), op := .binOp .rem 5 (.tmp 26) (.const (.int .u8 16)) 5, ty := 5, guard := none },
  { dst := (some 28), op := .move (.tmp 5), ty := 5, guard := none },
  { dst := (some 29), op := .binOp .rem 5 (.tmp 28) (.const (.int .u8 16)) 5, ty := 5, guard := none },
  { dst := (some 30), op := .binOp .add 5 (.tmp 29) (.const (.int .u8 1)) 5, ty := 5, guard := none },
  { dst := (some 31), op := .slice 9 (.const (.string ⟨#[48, 49, 50, 51, 52, 53, 54, 55, 56, 57, 97, 98, 99, 100, 101, 102]⟩)) (some (.tmp 27)) (some (.tmp 30)) none, ty := 9, guard := none },
  { dst := (some 32), op := .binOp .add 9 (.tmp 25) (.tmp 31) 9, ty := 9, guard := none },
  { dst := (some 33), op := .call { callee := (.value (.func 49)), args := #[(.tmp 3), (.tmp 32)], argTypes := #[61, 9] }, ty := 65, guard := none }]
def c29_27 : AC := .region o29_27 []
theorem n29_27 : Run Cx 29 T ds ro (.code c29_27 :: k) H Q = RunOps Cx 29 T ds ro o29_27 k H Q := run_region
def c29_25 : AC := .cond (.tmp 16) c29_26 c29_27
theorem n29_25 : Run Cx 29 T ds ro (.code c29_25 :: k) H Q = RunCond Cx 29 T ds ro (.tmp 16) (ev T (.tmp 16)) c29_26 c29_27 k H Q := run_condC
def c29_23 : AC := .seq c29_24 c29_25
theorem n29_23 : Run Cx 29 T ds ro (.code c29_23 :: k) H Q = Run Cx 29 T ds ro (.code c29_24 :: .code c29_25 :: k) H Q := run_seq
def c29_21 : AC := .seq c29_22 c29_23
theorem n29_21 : Run Cx 29 T ds ro (.code c29_21 :: k) H Q = Run Cx 29 T ds ro (.code c29_22 :: .code c29_23 :: k) H Q := run_seq
def c29_19 : AC := .seq c29_20 c29_21
theorem n29_19 : Run Cx 29 T ds ro (.code c29_19 :: k) H Q = Run Cx 29 T ds ro (.code c29_20 :: .code c29_21 :: k) H Q := run_seq
def c29_18 : AC := .block 1 c29_19
theorem n29_18 : Run Cx 29 T ds ro (.code c29_18 :: k) H Q = Run Cx 29 T ds ro (.code c29_19 :: .inBlock 1 :: k) H Q := run_block
def o29_28 : List AO := [{ dst := (some 34), op := .binOp .add 3 (.tmp 9) (.const (.int .i64 1)) 3, ty := 3, guard := none },
  { dst := (some 9), op := .move (.tmp 34), ty := 3, guard := none }]
def c29_28 : AC := .region o29_28 []
theorem n29_28 : Run Cx 29 T ds ro (.code c29_28 :: k) H Q = RunOps Cx 29 T ds ro o29_28 k H Q := run_region
def c29_17 : AC := .seq c29_18 c29_28
theorem n29_17 : Run Cx 29 T ds ro (.code c29_17 :: k) H Q = Run Cx 29 T ds ro (.code c29_18 :: .code c29_28 :: k) H Q := run_seq
def c29_13 : AC := .seq c29_14 c29_17
theorem n29_13 : Run Cx 29 T ds ro (.code c29_13 :: k) H Q = Run Cx 29 T ds ro (.code c29_14 :: .code c29_17 :: k) H Q := run_seq
def c29_11 : AC := .seq c29_12 c29_13
theorem n29_11 : Run Cx 29 T ds ro (.code c29_11 :: k) H Q = Run Cx 29 T ds ro (.code c29_12 :: .code c29_13 :: k) H Q := run_seq
def c29_10 : AC := .loop c29_11
theorem n29_10 : Run Cx 29 T ds ro (.code c29_10 :: k) H Q = Run Cx 29 T ds ro (.inLoop c29_11 :: k) H Q := run_loop'
def c29_9 : AC := .block 0 c29_10
theorem n29_9 : Run Cx 29 T ds ro (.code c29_9 :: k) H Q = Run Cx 29 T ds ro (.code c29_10 :: .inBlock 0 :: k) H Q := run_block
def c29_7 : AC := .seq c29_8 c29_9
theorem n29_7 : Run Cx 29 T ds ro (.code c29_7 :: k) H Q = Run Cx 29 T ds ro (.code c29_8 :: .code c29_9 :: k) H Q := run_seq
def o29_30 : List AO := [{ dst := (some 35), op := .call { callee := (.value (.func 47)), args := #[(.tmp 3), (.const (.int .u8 34))], argTypes := #[61, 5] }, ty := 63, guard := none }]
def c29_30 : AC := .region o29_30 []
theorem n29_30 : Run Cx 29 T ds ro (.code c29_30 :: k) H Q = RunOps Cx 29 T ds ro o29_30 k H Q := run_region
def o29_32 : List AO := [{ dst := (some 36), op := .call { callee := (.value (.func 50)), args := #[(.tmp 3)], argTypes := #[61] }, ty := 9, guard := none },
  { dst := (some 2), op := .assign (.tmp 36), ty := 9, guard := none }]
def c29_32 : AC := .region o29_32 []
theorem n29_32 : Run Cx 29 T ds ro (.code c29_32 :: k) H Q = RunOps Cx 29 T ds ro o29_32 k H Q := run_region
def c29_33 : AC := .ret
theorem n29_33 : Run Cx 29 T [] none (.code c29_33 :: k) H Q = RunRes Cx T H Q (resOf Cx 29) := run_ret
def c29_31 : AC := .seq c29_32 c29_33
theorem n29_31 : Run Cx 29 T ds ro (.code c29_31 :: k) H Q = Run Cx 29 T ds ro (.code c29_32 :: .code c29_33 :: k) H Q := run_seq
def c29_29 : AC := .seq c29_30 c29_31
theorem n29_29 : Run Cx 29 T ds ro (.code c29_29 :: k) H Q = Run Cx 29 T ds ro (.code c29_30 :: .code c29_31 :: k) H Q := run_seq
def c29_6 : AC := .seq c29_7 c29_29
theorem n29_6 : Run Cx 29 T ds ro (.code c29_6 :: k) H Q = Run Cx 29 T ds ro (.code c29_7 :: .code c29_29 :: k) H Q := run_seq
def c29_4 : AC := .seq c29_5 c29_6
theorem n29_4 : Run Cx 29 T ds ro (.code c29_4 :: k) H Q = Run Cx 29 T ds ro (.code c29_5 :: .code c29_6 :: k) H Q := run_seq
def c29_2 : AC := .seq c29_3 c29_4
theorem n29_2 : Run Cx 29 T ds ro (.code c29_2 :: k) H Q = Run Cx 29 T ds ro (.code c29_3 :: .code c29_4 :: k) H Q := run_seq
def c29_0 : AC := .seq c29_1 c29_2
theorem n29_0 : Run Cx 29 T ds ro (.code c29_0 :: k) H Q = Run Cx 29 T ds ro (.code c29_1 :: .code c29_2 :: k) H Q := run_seq
theorem body29 : bodyOf Cx 29 = some c29_0 := by kernel_rfl
theorem res29 : resOf Cx 29 = some [.tmp 2] := by kernel_rfl
theorem pure29 : Cx.pure 29 = true := by kernel_rfl
-- RULES 29: n29_0, n29_1, n29_2, n29_3, n29_4, n29_5, n29_6, n29_7, n29_8, n29_9, n29_10, n29_11, n29_12, n29_13, n29_14, n29_15, n29_16, n29_17, n29_18, n29_19, n29_20, n29_21, n29_22, n29_23, n29_24, n29_25, n29_26, n29_27, n29_28, n29_29, n29_30, n29_31, n29_32, n29_33
def o30_1 : List AO := [{ dst := (some 2), op := .assign (.const (.string ⟨#[]⟩)), ty := 9, guard := none }]
def c30_1 : AC := .region o30_1 []
theorem n30_1 : Run Cx 30 T ds ro (.code c30_1 :: k) H Q = RunOps Cx 30 T ds ro o30_1 k H Q := run_region
def o30_4 : List AO := [{ dst := (some 3), op := .move (.tmp 0), ty := 3, guard := none },
  { dst := (some 4), op := .binOp .lss 3 (.tmp 3) (.const (.int .i64 0)) 3, ty := 4, guard := none },
  { dst := (some 5), op := .move (.tmp 4), ty := 4, guard := none },
  { dst := (some 6), op := .move (.tmp 0), ty := 3, guard := (some (5, false)) },
  { dst := (some 7), op := .binOp .gtr 3 (.tmp 6) (.const (.int .i64 9007199254740991)) 3, ty := 4, guard := (some (5, false)) },
  { dst := (some 8), op := .pick (.tmp 5) (.const (.bool true)) (.tmp 7), ty := 4, guard := none }]
def c30_4 : AC := .region o30_4 []
theorem n30_4 : Run Cx 30 T ds ro (.code c30_4 :: k) H Q = RunOps Cx 30 T ds ro o30_4 k H Q := run_region
def o30_7 : List AO := [{ dst := (some 2), op := .assign (.const (.string ⟨#[]⟩)), ty := 9, guard := none }]
def c30_7 : AC := .region o30_7 []
theorem n30_7 : Run Cx 30 T ds ro (.code c30_7 :: k) H Q = RunOps Cx 30 T ds ro o30_7 k H Q := run_region
def c30_8 : AC := .ret
theorem n30_8 : Run Cx 30 T [] none (.code c30_8 :: k) H Q = RunRes Cx T H Q (resOf Cx 30) := run_ret
def c30_6 : AC := .seq c30_7 c30_8
theorem n30_6 : Run Cx 30 T ds ro (.code c30_6 :: k) H Q = Run Cx 30 T ds ro (.code c30_7 :: .code c30_8 :: k) H Q := run_seq
def c30_9 : AC := .skip
theorem n30_9 : Run Cx 30 T ds ro (.code c30_9 :: k) H Q = Run Cx 30 T ds ro (k) H Q := run_skip
def c30_5 : AC := .cond (.tmp 8) c30_6 c30_9
theorem n30_5 : Run Cx 30 T ds ro (.code c30_5 :: k) H Q = RunCond Cx 30 T ds ro (.tmp 8) (ev T (.tmp 8)) c30_6 c30_9 k H Q := run_condC
def c30_3 : AC := .seq c30_4 c30_5
theorem n30_3 : Run Cx 30 T ds ro (.code c30_3 :: k) H Q = Run Cx 30 T ds ro (.code c30_4 :: .code c30_5 :: k) H Q := run_seq
def o30_12 : List AO := [{ dst := (some 9), op := .move (.tmp 0), ty := 3, guard := none },
  { dst := (some 10), op := .binOp .lss 3 (.tmp 9) (.const (.int .i64 128)) 3, ty := 4, guard := none }]
def c30_12 : AC := .region o30_12 []
theorem n30_12 : Run Cx 30 T ds ro (.code c30_12 :: k) H Q = RunOps Cx 30 T ds ro o30_12 k H Q := run_region
def o30_15 : List AO := [{ dst := (some 11), op := .move (.tmp 0), ty := 3, guard := none },
  { dst := (some 12), op := .convert 3 5 (.tmp 11), ty := 5, guard := none },
  { dst := (some 13), op := .buildSlice 58 1 #[(0, (.tmp 12))], ty := 58, guard := none },
  { dst := (some 14), op := .convert 58 9 (.tmp 13), ty := 9, guard := none },
  { dst := (some 2), op := .assign (.tmp 14), ty := 9, guard := none }]
def c30_15 : AC := .region o30_15 []
theorem n30_15 : Run Cx 30 T ds ro (.code c30_15 :: k) H Q = RunOps Cx 30 T ds ro o30_15 k H Q := run_region
def c30_16 : AC := .ret
theorem n30_16 : Run Cx 30 T [] none (.code c30_16 :: k) H Q = RunRes Cx T H Q (resOf Cx 30) := run_ret
def c30_14 : AC := .seq c30_15 c30_16
theorem n30_14 : Run Cx 30 T ds ro (.code c30_14 :: k) H Q = Run Cx 30 T ds ro (.code c30_15 :: .code c30_16 :: k) H Q := run_seq
def c30_17 : AC := .skip
theorem n30_17 : Run Cx 30 T ds ro (.code c30_17 :: k) H Q = Run Cx 30 T ds ro (k) H Q := run_skip
def c30_13 : AC := .cond (.tmp 10) c30_14 c30_17
theorem n30_13 : Run Cx 30 T ds ro (.code c30_13 :: k) H Q = RunCond Cx 30 T ds ro (.tmp 10) (ev T (.tmp 10)) c30_14 c30_17 k H Q := run_condC
def c30_11 : AC := .seq c30_12 c30_13
theorem n30_11 : Run Cx 30 T ds ro (.code c30_11 :: k) H Q = Run Cx 30 T ds ro (.code c30_12 :: .code c30_13 :: k) H Q := run_seq
def o30_19 : List AO := [{ dst := (some 15), op := .move (.tmp 0), ty := 3, guard := none },
  { dst := (some 16), op := .binOp .rem 3 (.tmp 15) (.const (.int .i64 128)) 3, ty := 3, guard := none },
  { dst := (some 17), op := .binOp .add 3 (.const (.int .i64 128)) (.tmp 16) 3, ty := 3, guard := none },
  { dst := (some 18), op := .convert 3 5 (.tmp 17), ty := 5, guard := none },
  { dst := (some 19), op := .buildSlice 58 1 #[(0, (.tmp 18))], ty := 58, guard := none },
  { dst := (some 20), op := .convert 58 9 (.tmp 19), ty := 9, guard := none },
  { dst := (some 21), op := .move (.tmp 0), ty := 3, guard := none },
  { dst := (some 22), op := .binOp .quo 3 (.tmp 21) (.const (.int .i64 128)) 3, ty := 3, guard := none },
  { dst := (some 23), op := .call { callee := (.value (.func 30)), args := #[(.tmp 22)], argTypes := #[3] }, ty := 9, guard := none },
  { dst := (some 24), op := .binOp .add 9 (.tmp 20) (.tmp 23) 9, ty := 9, guard := none },
  { dst := (some 2), op := .assign (.tmp 24), ty := 9, guard := none }]
def c30_19 : AC := .region o30_19 []
theorem n30_19 : Run Cx 30 T ds ro (.code c30_19 :: k) H Q = RunOps Cx 30 T ds ro o30_19 k H Q := run_region
def c30_20 : AC := .ret
theorem n30_20 : Run Cx 30 T [] none (.code c30_20 :: k) H Q = RunRes Cx T H Q (resOf Cx 30) := run_ret
def c30_18 : AC := .seq c30_19 c30_20
theorem n30_18 : Run Cx 30 T ds ro (.code c30_18 :: k) H Q = Run Cx 30 T ds ro (.code c30_19 :: .code c30_20 :: k) H Q := run_seq
def c30_10 : AC := .seq c30_11 c30_18
theorem n30_10 : Run Cx 30 T ds ro (.code c30_10 :: k) H Q = Run Cx 30 T ds ro (.code c30_11 :: .code c30_18 :: k) H Q := run_seq
def c30_2 : AC := .seq c30_3 c30_10
theorem n30_2 : Run Cx 30 T ds ro (.code c30_2 :: k) H Q = Run Cx 30 T ds ro (.code c30_3 :: .code c30_10 :: k) H Q := run_seq
def c30_0 : AC := .seq c30_1 c30_2
theorem n30_0 : Run Cx 30 T ds ro (.code c30_0 :: k) H Q = Run Cx 30 T ds ro (.code c30_1 :: .code c30_2 :: k) H Q := run_seq
theorem body30 : bodyOf Cx 30 = some c30_0 := by kernel_rfl
theorem res30 : resOf Cx 30 = some [.tmp 2] := by kernel_rfl
theorem pure30 : Cx.pure 30 = true := by kernel_rfl
-- RULES 30: n30_0, n30_1, n30_2, n30_3, n30_4, n30_5, n30_6, n30_7, n30_8, n30_9, n30_10, n30_11, n30_12, n30_13, n30_14, n30_15, n30_16, n30_17, n30_18, n30_19, n30_20
def o31_1 : List AO := [{ dst := (some 2), op := .assign (.const (.string ⟨#[]⟩)), ty := 9, guard := none }]
def c31_1 : AC := .region o31_1 []
theorem n31_1 : Run Cx 31 T ds ro (.code c31_1 :: k) H Q = RunOps Cx 31 T ds ro o31_1 k H Q := run_region
def o31_4 : List AO := [{ dst := (some 3), op := .move (.tmp 0), ty := 3, guard := none },
  { dst := (some 4), op := .binOp .lss 3 (.tmp 3) (.const (.int .i64 (-4503599627370496))) 3, ty := 4, guard := none },
  { dst := (some 5), op := .move (.tmp 4), ty := 4, guard := none },
  { dst := (some 6), op := .move (.tmp 0), ty := 3, guard := (some (5, false)) },
  { dst := (some 7), op := .binOp .gtr 3 (.tmp 6) (.const (.int .i64 4503599627370495)) 3, ty := 4, guard := (some (5, false)) },
  { dst := (some 8), op := .pick (.tmp 5) (.const (.bool true)) (.tmp 7), ty := 4, guard := none }]
def c31_4 : AC := .region o31_4 []
theorem n31_4 : Run Cx 31 T ds ro (.code c31_4 :: k) H Q = RunOps Cx 31 T ds ro o31_4 k H Q := run_region
def o31_7 : List AO := [{ dst := (some 2), op := .assign (.const (.string ⟨#[]⟩)), ty := 9, guard := none }]
def c31_7 : AC := .region o31_7 []
theorem n31_7 : Run Cx 31 T ds ro (.code c31_7 :: k) H Q = RunOps Cx 31 T ds ro o31_7 k H Q := run_region
def c31_8 : AC := .ret
theorem n31_8 : Run Cx 31 T [] none (.code c31_8 :: k) H Q = RunRes Cx T H Q (resOf Cx 31) := run_ret
def c31_6 : AC := .seq c31_7 c31_8
theorem n31_6 : Run Cx 31 T ds ro (.code c31_6 :: k) H Q = Run Cx 31 T ds ro (.code c31_7 :: .code c31_8 :: k) H Q := run_seq
def c31_9 : AC := .skip
theorem n31_9 : Run Cx 31 T ds ro (.code c31_9 :: k) H Q = Run Cx 31 T ds ro (k) H Q := run_skip
def c31_5 : AC := .cond (.tmp 8) c31_6 c31_9
theorem n31_5 : Run Cx 31 T ds ro (.code c31_5 :: k) H Q = RunCond Cx 31 T ds ro (.tmp 8) (ev T (.tmp 8)) c31_6 c31_9 k H Q := run_condC
def c31_3 : AC := .seq c31_4 c31_5
theorem n31_3 : Run Cx 31 T ds ro (.code c31_3 :: k) H Q = Run Cx 31 T ds ro (.code c31_4 :: .code c31_5 :: k) H Q := run_seq
def o31_12 : List AO := [{ dst := (some 9), op := .move (.tmp 0), ty := 3, guard := none },
  { dst := (some 10), op := .binOp .lss 3 (.tmp 9) (.const (.int .i64 0)) 3, ty := 4, guard := none }]
def c31_12 : AC := .region o31_12 []
theorem n31_12 : Run Cx 31 T ds ro (.code c31_12 :: k) H Q = RunOps Cx 31 T ds ro o31_12 k H Q := run_region
def o31_15 : List AO := [{ dst := (some 11), op := .move (.tmp 0), ty := 3, guard := none },
  { dst := (some 12), op := .binOp .mul 3 (.const (.int .i64 (-2))) (.tmp 11) 3, ty := 3, guard := none },
  { dst := (some 13), op := .binOp .sub 3 (.tmp 12) (.const (.int .i64 1)) 3, ty := 3, guard := none },
  { dst := (some 14), op := .call { callee := (.value (.func 30)), args := #[(.tmp 13)], argTypes := #[3] }, ty := 9, guard := none },
  { dst := (some 2), op := .assign (.tmp 14), ty := 9, guard := none }]
def c31_15 : AC := .region o31_15 []
theorem n31_15 : Run Cx 31 T ds ro (.code c31_15 :: k) H Q = RunOps Cx 31 T ds ro o31_15 k H Q := run_region
def c31_16 : AC := .ret
theorem n31_16 : Run Cx 31 T [] none (.code c31_16 :: k) H Q = RunRes Cx T H Q (resOf Cx 31) := run_ret
def c31_14 : AC := .seq c31_15 c31_16
theorem n31_14 : Run Cx 31 T ds ro (.code c31_14 :: k) H Q = Run Cx 31 T ds ro (.code c31_15 :: .code c31_16 :: k) H Q := run_seq
def c31_17 : AC := .skip
theorem n31_17 : Run Cx 31 T ds ro (.code c31_17 :: k) H Q = Run Cx 31 T ds ro (k) H Q := run_skip
def c31_13 : AC := .cond (.tmp 10) c31_14 c31_17
theorem n31_13 : Run Cx 31 T ds ro (.code c31_13 :: k) H Q = RunCond Cx 31 T ds ro (.tmp 10) (ev T (.tmp 10)) c31_14 c31_17 k H Q := run_condC
def c31_11 : AC := .seq c31_12 c31_13
theorem n31_11 : Run Cx 31 T ds ro (.code c31_11 :: k) H Q = Run Cx 31 T ds ro (.code c31_12 :: .code c31_13 :: k) H Q := run_seq
def o31_19 : List AO := [{ dst := (some 15), op := .move (.tmp 0), ty := 3, guard := none },
  { dst := (some 16), op := .binOp .mul 3 (.const (.int .i64 2)) (.tmp 15) 3, ty := 3, guard := none },
  { dst := (some 17), op := .call { callee := (.value (.func 30)), args := #[(.tmp 16)], argTypes := #[3] }, ty := 9, guard := none },
  { dst := (some 2), op := .assign (.tmp 17), ty := 9, guard := none }]
def c31_19 : AC := .region o31_19 []
theorem n31_19 : Run Cx 31 T ds ro (.code c31_19 :: k) H Q = RunOps Cx 31 T ds ro o31_19 k H Q := run_region
def c31_20 : AC := .ret
theorem n31_20 : Run Cx 31 T [] none (.code c31_20 :: k) H Q = RunRes Cx T H Q (resOf Cx 31) := run_ret
def c31_18 : AC := .seq c31_19 c31_20
theorem n31_18 : Run Cx 31 T ds ro (.code c31_18 :: k) H Q = Run Cx 31 T ds ro (.code c31_19 :: .code c31_20 :: k) H Q := run_seq
def c31_10 : AC := .seq c31_11 c31_18
theorem n31_10 : Run Cx 31 T ds ro (.code c31_10 :: k) H Q = Run Cx 31 T ds ro (.code c31_11 :: .code c31_18 :: k) H Q := run_seq
def c31_2 : AC := .seq c31_3 c31_10
theorem n31_2 : Run Cx 31 T ds ro (.code c31_2 :: k) H Q = Run Cx 31 T ds ro (.code c31_3 :: .code c31_10 :: k) H Q := run_seq
def c31_0 : AC := .seq c31_1 c31_2
theorem n31_0 : Run Cx 31 T ds ro (.code c31_0 :: k) H Q = Run Cx 31 T ds ro (.code c31_1 :: .code c31_2 :: k) H Q := run_seq
theorem body31 : bodyOf Cx 31 = some c31_0 := by kernel_rfl
theorem res31 : resOf Cx 31 = some [.tmp 2] := by kernel_rfl
theorem pure31 : Cx.pure 31 = true := by kernel_rfl
-- RULES 31: n31_0, n31_1, n31_2, n31_3, n31_4, n31_5, n31_6, n31_7, n31_8, n31_9, n31_10, n31_11, n31_12, n31_13, n31_14, n31_15, n31_16, n31_17, n31_18, n31_19, n31_20
def o32_1 : List AO := [{ dst := (some 2), op := .assign (.const (.string ⟨#[]⟩)), ty := 9, guard := none }]
def c32_1 : AC := .region o32_1 []
theorem n32_1 : Run Cx 32 T ds ro (.code c32_1 :: k) H Q = RunOps Cx 32 T ds ro o32_1 k H Q := run_region
def o32_3 : List AO := [{ dst := (some 3), op := .move (.tmp 0), ty := 9, guard := none },
  { dst := (some 4), op := .call { callee := (.builtin .len), args := #[(.tmp 3)], argTypes := #[9] }, ty := 3, guard := none },
  { dst := (some 5), op := .call { callee := (.value (.func 30)), args := #[(.tmp 4)], argTypes := #[3] }, ty := 9, guard := none },
  { dst := (some 6), op := .move (.tmp 0), ty := 9, guard := none },
  { dst := (some 7), op := .binOp .add 9 (.tmp 5) (.tmp 6) 9, ty := 9, guard := none },
  { dst := (some 2), op := .assign (.tmp 7), ty := 9, guard := none }]
def c32_3 : AC := .region o32_3 []
theorem n32_3 : Run Cx 32 T ds ro (.code c32_3 :: k) H Q = RunOps Cx 32 T ds ro o32_3 k H Q := run_region
def c32_4 : AC := .ret
theorem n32_4 : Run Cx 32 T [] none (.code c32_4 :: k) H Q = RunRes Cx T H Q (resOf Cx 32) := run_ret
def c32_2 : AC := .seq c32_3 c32_4
theorem n32_2 : Run Cx 32 T ds ro (.code c32_2 :: k) H Q = Run Cx 32 T ds ro (.code c32_3 :: .code c32_4 :: k) H Q := run_seq
def c32_0 : AC := .seq c32_1 c32_2
theorem n32_0 : Run Cx 32 T ds ro (.code c32_0 :: k) H Q = Run Cx 32 T ds ro (.code c32_1 :: .code c32_2 :: k) H Q := run_seq
theorem body32 : bodyOf Cx 32 = some c32_0 := by kernel_rfl
theorem res32 : resOf Cx 32 = some [.tmp 2] := by kernel_rfl
theorem pure32 : Cx.pure 32 = true := by kernel_rfl
-- RULES 32: n32_0, n32_1, n32_2, n32_3, n32_4
def o33_1 : List AO := [{ dst := (some 2), op := .assign (.const (.string ⟨#[]⟩)), ty := 9, guard := none }]
def c33_1 : AC := .region o33_1 []
theorem n33_1 : Run Cx 33 T ds ro (.code c33_1 :: k) H Q = RunOps Cx 33 T ds ro o33_1 k H Q := run_region
def o33_4 : List AO := [{ dst := (some 3), op := .move (.tmp 0), ty := 3, guard := none },
  { dst := (some 4), op := .binOp .lss 3 (.tmp 3) (.const (.int .i64 0)) 3, ty := 4, guard := none }]
def c33_4 : AC := .region o33_4 []
theorem n33_4 : Run Cx 33 T ds ro (.code c33_4 :: k) H Q = RunOps Cx 33 T ds ro o33_4 k H Q := run_region
def o33_7 : List AO := [{ dst := (some 5), op := .move (.tmp 0), ty := 3, guard := none },
  { dst := (some 6), op := .unOp .neg 3 (.tmp 5), ty := 3, guard := none },
  { dst := (some 7), op := .call { callee := (.value (.func 33)), args := #[(.tmp 6)], argTypes := #[3] }, ty := 9, guard := none },
  { dst := (some 8), op := .binOp .add 9 (.const (.string ⟨#[45]⟩)) (.tmp 7) 9, ty := 9, guard := none },
  { dst := (some 2), op := .assign (.tmp 8), ty := 9, guard := none }]
def c33_7 : AC := .region o33_7 []
theorem n33_7 : Run Cx 33 T ds ro (.code c33_7 :: k) H Q = RunOps Cx 33 T ds ro o33_7 k H Q := run_region
def c33_8 : AC := .ret
theorem n33_8 : Run Cx 33 T [] none (.code c33_8 :: k) H Q = RunRes Cx T H Q (resOf Cx 33) := run_ret
def c33_6 : AC := .seq c33_7 c33_8
theorem n33_6 : Run Cx 33 T ds ro (.code c33_6 :: k) H Q = Run Cx 33 T ds ro (.code c33_7 :: .code c33_8 :: k) H Q := run_seq
def c33_9 : AC := .skip
theorem n33_9 : Run Cx 33 T ds ro (.code c33_9 :: k) H Q = Run Cx 33 T ds ro (k) H Q := run_skip
def c33_5 : AC := .cond (.tmp 4) c33_6 c33_9
theorem n33_5 : Run Cx 33 T ds ro (.code c33_5 :: k) H Q = RunCond Cx 33 T ds ro (.tmp 4) (ev T (.tmp 4)) c33_6 c33_9 k H Q := run_condC
def c33_3 : AC := .seq c33_4 c33_5
theorem n33_3 : Run Cx 33 T ds ro (.code c33_3 :: k) H Q = Run Cx 33 T ds ro (.code c33_4 :: .code c33_5 :: k) H Q := run_seq
def o33_12 : List AO := [{ dst := (some 9), op := .move (.tmp 0), ty := 3, guard := none },
  { dst := (some 10), op := .binOp .lss 3 (.tmp 9) (.const (.int .i64 10)) 3, ty := 4, guard := none }]
def c33_12 : AC := .region o33_12 []
theorem n33_12 : Run Cx 33 T ds ro (.code c33_12 :: k) H Q = RunOps Cx 33 T ds ro o33_12 k H Q := run_region
def o33_15 : List AO := [{ dst := (some 11), op := .move (.tmp 0), ty := 3, guard := none },
  { dst := (some 12), op := .binOp .add 3 (.const (.int .i64 48)) (.tmp 11) 3, ty := 3, guard := none },
  { dst := (some 13), op := .convert 3 5 (.tmp 12), ty := 5, guard := none },
  { dst := (some 14), op := .buildSlice 58 1 #[(0, (.tmp 13))], ty := 58, guard := none },
  { dst := (some 15), op := .convert 58 9 (.tmp 14), ty := 9, guard := none },
  { dst := (some 2), op := .assign (.tmp 15), ty := 9, guard := none }]
def c33_15 : AC := .region o33_15 []
theorem n33_15 : Run Cx 33 T ds ro (.code c33_15 :: k) H Q = RunOps Cx 33 T ds ro o33_15 k H Q := run_region
def c33_16 : AC := .ret
theorem n33_16 : Run Cx 33 T [] none (.code c33_16 :: k) H Q = RunRes Cx T H Q (resOf Cx 33) := run_ret
def c33_14 : AC := .seq c33_15 c33_16
theorem n33_14 : Run Cx 33 T ds ro (.code c33_14 :: k) H Q = Run Cx 33 T ds ro (.code c33_15 :: .code c33_16 :: k) H Q := run_seq
def c33_17 : AC := .skip
theorem n33_17 : Run Cx 33 T ds ro (.code c33_17 :: k) H Q = Run Cx 33 T ds ro (k) H Q := run_skip
def c33_13 : AC := .cond (.tmp 10) c33_14 c33_17
theorem n33_13 : Run Cx 33 T ds ro (.code c33_13 :: k) H Q = RunCond Cx 33 T ds ro (.tmp 10) (ev T (.tmp 10)) c33_14 c33_17 k H Q := run_condC
def c33_11 : AC := .seq c33_12 c33_13
theorem n33_11 : Run Cx 33 T ds ro (.code c33_11 :: k) H Q = Run Cx 33 T ds ro (.code c33_12 :: .code c33_13 :: k) H Q := run_seq
def o33_19 : List AO := [{ dst := (some 16), op := .move (.tmp 0), ty := 3, guard := none },
  { dst := (some 17), op := .binOp .quo 3 (.tmp 16) (.const (.int .i64 10)) 3, ty := 3, guard := none },
  { dst := (some 18), op := .call { callee := (.value (.func 33)), args := #[(.tmp 17)], argTypes := #[3] }, ty := 9, guard := none },
  { dst := (some 19), op := .move (.tmp 0), ty := 3, guard := none },
  { dst := (some 20), op := .binOp .rem 3 (.tmp 19) (.const (.int .i64 10)) 3, ty := 3, guard := none },
  { dst := (some 21), op := .call { callee := (.value (.func 33)), args := #[(.tmp 20)], argTypes := #[3] }, ty := 9, guard := none },
  { dst := (some 22), op := .binOp .add 9 (.tmp 18) (.tmp 21) 9, ty := 9, guard := none },
  { dst := (some 2), op := .assign (.tmp 22), ty := 9, guard := none }]
def c33_19 : AC := .region o33_19 []
theorem n33_19 : Run Cx 33 T ds ro (.code c33_19 :: k) H Q = RunOps Cx 33 T ds ro o33_19 k H Q := run_region
def c33_20 : AC := .ret
theorem n33_20 : Run Cx 33 T [] none (.code c33_20 :: k) H Q = RunRes Cx T H Q (resOf Cx 33) := run_ret
def c33_18 : AC := .seq c33_19 c33_20
theorem n33_18 : Run Cx 33 T ds ro (.code c33_18 :: k) H Q = Run Cx 33 T ds ro (.code c33_19 :: .code c33_20 :: k) H Q := run_seq
def c33_10 : AC := .seq c33_11 c33_18
theorem n33_10 : Run Cx 33 T ds ro (.code c33_10 :: k) H Q = Run Cx 33 T ds ro (.code c33_11 :: .code c33_18 :: k) H Q := run_seq
def c33_2 : AC := .seq c33_3 c33_10
theorem n33_2 : Run Cx 33 T ds ro (.code c33_2 :: k) H Q = Run Cx 33 T ds ro (.code c33_3 :: .code c33_10 :: k) H Q := run_seq
def c33_0 : AC := .seq c33_1 c33_2
theorem n33_0 : Run Cx 33 T ds ro (.code c33_0 :: k) H Q = Run Cx 33 T ds ro (.code c33_1 :: .code c33_2 :: k) H Q := run_seq
theorem body33 : bodyOf Cx 33 = some c33_0 := by kernel_rfl
theorem res33 : resOf Cx 33 = some [.tmp 2] := by kernel_rfl
theorem pure33 : Cx.pure 33 = true := by kernel_rfl
-- RULES 33: n33_0, n33_1, n33_2, n33_3, n33_4, n33_5, n33_6, n33_7, n33_8, n33_9, n33_10, n33_11, n33_12, n33_13, n33_14, n33_15, n33_16, n33_17, n33_18, n33_19, n33_20
def o34_1 : List AO := [{ dst := (some 2), op := .assign (.const (.bool false)), ty := 4, guard := none }]
def c34_1 : AC := .region o34_1 []
theorem n34_1 : Run Cx 34 T ds ro (.code c34_1 :: k) H Q = RunOps Cx 34 T ds ro o34_1 k H Q := run_region
def o34_3 : List AO := [{ dst := (some 3), op := .move (.tmp 0), ty := 5, guard := none },
  { dst := (some 4), op := .binOp .geq 5 (.tmp 3) (.const (.int .u8 32)) 5, ty := 4, guard := none },
  { dst := (some 5), op := .move (.tmp 4), ty := 4, guard := none },
  { dst := (some 6), op := .move (.tmp 0), ty := 5, guard := (some (5, true)) },
  { dst := (some 7), op := .binOp .leq 5 (.tmp 6) (.const (.int .u8 126)) 5, ty := 4, guard := (some (5, true)) },
  { dst := (some 8), op := .pick (.tmp 5) (.tmp 7) (.const (.bool false)), ty := 4, guard := none },
  { dst := (some 9), op := .move (.tmp 8), ty := 4, guard := none },
  { dst := (some 10), op := .move (.tmp 0), ty := 5, guard := (some (9, true)) },
  { dst := (some 11), op := .binOp .neq 5 (.tmp 10) (.const (.int .u8 34)) 5, ty := 4, guard := (some (9, true)) },
  { dst := (some 12), op := .pick (.tmp 9) (.tmp 11) (.const (.bool false)), ty := 4, guard := none },
  { dst := (some 13), op := .move (.tmp 12), ty := 4, guard := none },
  { dst := (some 14), op := .move (.tmp 0), ty := 5, guard := (some (13, true)) },
  { dst := (some 15), op := .binOp .neq 5 (.tmp 14) (.const (.int .u8 92)) 5, ty := 4, guard := (some (13, true)) },
  { dst := (some 16), op := .pick (.tmp 13) (.tmp 15) (.const (.bool false)), ty := 4, guard := none },
  { dst := (some 2), op := .assign (.tmp 16), ty := 4, guard := none }]
def c34_3 : AC := .region o34_3 []
theorem n34_3 : Run Cx 34 T ds ro (.code c34_3 :: k) H Q = RunOps Cx 34 T ds ro o34_3 k H Q := run_region
def c34_4 : AC := .ret
theorem n34_4 : Run Cx 34 T [] none (.code c34_4 :: k) H Q = RunRes Cx T H Q (resOf Cx 34) := run_ret
def c34_2 : AC := .seq c34_3 c34_4
theorem n34_2 : Run Cx 34 T ds ro (.code c34_2 :: k) H Q = Run Cx 34 T ds ro (.code c34_3 :: .code c34_4 :: k) H Q := run_seq
def c34_0 : AC := .seq c34_1 c34_2
theorem n34_0 : Run Cx 34 T ds ro (.code c34_0 :: k) H Q = Run Cx 34 T ds ro (.code c34_1 :: .code c34_2 :: k) H Q := run_seq
theorem body34 : bodyOf Cx 34 = some c34_0 := by kernel_rfl
theorem res34 : resOf Cx 34 = some [.tmp 2] := by kernel_rfl
theorem pure34 : Cx.pure 34 = true := by kernel_rfl
-- RULES 34: n34_0, n34_1, n34_2, n34_3, n34_4
def o35_1 : List AO := [{ dst := (some 2), op := .assign (.const (.string ⟨#[]⟩)), ty := 9, guard := none }]
def c35_1 : AC := .region o35_1 []
theorem n35_1 : Run Cx 35 T ds ro (.code c35_1 :: k) H Q = RunOps Cx 35 T ds ro o35_1 k H Q := run_region
def o35_4 : List AO := [{ dst := (some 3), op := .move (.tmp 0), ty := 3, guard := none },
  { dst := (some 4), op := .binOp .lss 3 (.tmp 3) (.const (.int .i64 10)) 3, ty := 4, guard := none }]
def c35_4 : AC := .region o35_4 []
theorem n35_4 : Run Cx 35 T ds ro (.code c35_4 :: k) H Q = RunOps Cx 35 T ds ro o35_4 k H Q := run_region
def o35_7 : List AO := [{ dst := (some 5), op := .move (.tmp 0), ty := 3, guard := none },
  { dst := (some 6), op := .binOp .add 3 (.const (.int .i64 48)) (.tmp 5) 3, ty := 3, guard := none },
  { dst := (some 7), op := .convert 3 5 (.tmp 6), ty := 5, guard := none },
  { dst := (some 8), op := .buildSlice 58 1 #[(0, (.tmp 7))], ty := 58, guard := none },
  { dst := (some 9), op := .convert 58 9 (.tmp 8), ty := 9, guard := none },
  { dst := (some 2), op := .assign (.tmp 9), ty := 9, guard := none }]
def c35_7 : AC := .region o35_7 []
theorem n35_7 : Run Cx 35 T ds ro (.code c35_7 :: k) H Q = RunOps Cx 35 T ds ro o35_7 k H Q := run_region
def c35_8 : AC := .ret
theorem n35_8 : Run Cx 35 T [] none (.code c35_8 :: k) H Q = RunRes Cx T H Q (resOf Cx 35) := run_ret
def c35_6 : AC := .seq c35_7 c35_8
theorem n35_6 : Run Cx 35 T ds ro (.code c35_6 :: k) H Q = Run Cx 35 T ds ro (.code c35_7 :: .code c35_8 :: k) H Q := run_seq
def c35_9 : AC := .skip
theorem n35_9 : Run Cx 35 T ds ro (.code c35_9 :: k) H Q = Run Cx 35 T ds ro (k) H Q := run_skip
def c35_5 : AC := .cond (.tmp 4) c35_6 c35_9
theorem n35_5 : Run Cx 35 T ds ro (.code c35_5 :: k) H Q = RunCond Cx 35 T ds ro (.tmp 4) (ev T (.tmp 4)) c35_6 c35_9 k H Q := run_condC
def c35_3 : AC := .seq c35_4 c35_5
theorem n35_3 : Run Cx 35 T ds ro (.code c35_3 :: k) H Q = Run Cx 35 T ds ro (.code c35_4 :: .code c35_5 :: k) H Q := run_seq
def o35_11 : List AO := [{ dst := (some 10), op := .move (.tmp 0), ty := 3, guard := none },
  { dst := (some 11), op := .binOp .add 3 (.const (.int .i64 97)) (.tmp 10) 3, ty := 3, guard := none },
  { dst := (some 12), op := .binOp .sub 3 (.tmp 11) (.const (.int .i64 10)) 3, ty := 3, guard := none },
  { dst := (some 13), op := .convert 3 5 (.tmp 12), ty := 5, guard := none },
  { dst := (some 14), op := .buildSlice 58 1 #[(0, (.tmp 13))], ty := 58, guard := none },
  { dst := (some 15), op := .convert 58 9 (.tmp 14), ty := 9, guard := none },
  { dst := (some 2), op := .assign (.tmp 15), ty := 9, guard := none }]
def c35_11 : AC := .region o35_11 []
theorem n35_11 : Run Cx 35 T ds ro (.code c35_11 :: k) H Q = RunOps Cx 35 T ds ro o35_11 k H Q := run_region
def c35_12 : AC := .ret
theorem n35_12 : Run Cx 35 T [] none (.code c35_12 :: k) H Q = RunRes Cx T H Q (resOf Cx 35) := run_ret
def c35_10 : AC := .seq c35_11 c35_12
theorem n35_10 : Run Cx 35 T ds ro (.code c35_10 :: k) H Q = Run Cx 35 T ds ro (.code c35_11 :: .code c35_12 :: k) H Q := run_seq
def c35_2 : AC := .seq c35_3 c35_10
theorem n35_2 : Run Cx 35 T ds ro (.code c35_2 :: k) H Q = Run Cx 35 T ds ro (.code c35_3 :: .code c35_10 :: k) H Q := run_seq
def c35_0 : AC := .seq c35_1 c35_2
theorem n35_0 : Run Cx 35 T ds ro (.code c35_0 :: k) H Q = Run Cx 35 T ds ro (.code c35_1 :: .code c35_2 :: k) H Q := run_seq
theorem body35 : bodyOf Cx 35 = some c35_0 := by kernel_rfl
theorem res35 : resOf Cx 35 = some [.tmp 2] := by kernel_rfl
theorem pure35 : Cx.pure 35 = true := by kernel_rfl
-- RULES 35: n35_0, n35_1, n35_2, n35_3, n35_4, n35_5, n35_6, n35_7, n35_8, n35_9, n35_10, n35_11, n35_12
end
end Go.Proofs.Ytkcanidmdjfclaa.G
