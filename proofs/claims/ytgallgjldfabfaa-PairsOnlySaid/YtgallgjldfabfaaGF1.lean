import Derived.Test.YtgallgjldfabfaaG0
namespace Go.Proofs.Ytgallgjldfabfaa.G
open Go.BX
section
variable {T : Nat → AV} {ds : List ADef} {ro : Option Nat} {k : List AItem} {H : AHeap} {Q : AV → AHeap → Prop}
def o3_1 : List AO := [{ dst := (some 2), op := .assign (.const (.bool false)), ty := 4, guard := none }]
def c3_1 : AC := .region o3_1 []
theorem n3_1 : Run Cx 3 T ds ro (.code c3_1 :: k) H Q = RunOps Cx 3 T ds ro o3_1 k H Q := run_region
def o3_4 : List AO := [{ dst := (some 6), op := .call { callee := (.value (.func 5)), args := #[], argTypes := #[] }, ty := 4, guard := none },
  { dst := (some 7), op := .unOp .not 4 (.tmp 6), ty := 4, guard := none },
  { dst := (some 8), op := .move (.tmp 7), ty := 4, guard := none },
  { dst := (some 9), op := .move (.tmp 0), ty := 22, guard := (some (8, false)) },
  { dst := (some 10), op := .call { callee := (.value (.func 6)), args := #[(.tmp 9)], argTypes := #[22] }, ty := 3, guard := (some (8, false)) },
  { dst := (some 11), op := .binOp .eql 3 (.tmp 10) (.const (.int .i64 0)) 3, ty := 4, guard := (some (8, false)) },
  { dst := (some 12), op := .pick (.tmp 8) (.const (.bool true)) (.tmp 11), ty := 4, guard := none }]
def c3_4 : AC := .region o3_4 []
theorem n3_4 : Run Cx 3 T ds ro (.code c3_4 :: k) H Q = RunOps Cx 3 T ds ro o3_4 k H Q := run_region
def o3_7 : List AO := [{ dst := (some 13), op := .call { callee := (.value (.func 5)), args := #[], argTypes := #[] }, ty := 4, guard := none },
  { dst := (some 2), op := .assign (.tmp 13), ty := 4, guard := none }]
def c3_7 : AC := .region o3_7 []
theorem n3_7 : Run Cx 3 T ds ro (.code c3_7 :: k) H Q = RunOps Cx 3 T ds ro o3_7 k H Q := run_region
def c3_8 : AC := .ret
theorem n3_8 : Run Cx 3 T [] none (.code c3_8 :: k) H Q = RunRes Cx T H Q (resOf Cx 3) := run_ret
def c3_6 : AC := .seq c3_7 c3_8
theorem n3_6 : Run Cx 3 T ds ro (.code c3_6 :: k) H Q = Run Cx 3 T ds ro (.code c3_7 :: .code c3_8 :: k) H Q := run_seq
def c3_9 : AC := .skip
theorem n3_9 : Run Cx 3 T ds ro (.code c3_9 :: k) H Q = Run Cx 3 T ds ro (k) H Q := run_skip
def c3_5 : AC := .cond (.tmp 12) c3_6 c3_9
theorem n3_5 : Run Cx 3 T ds ro (.code c3_5 :: k) H Q = RunCond Cx 3 T ds ro (.tmp 12) (ev T (.tmp 12)) c3_6 c3_9 k H Q := run_condC
def c3_3 : AC := .seq c3_4 c3_5
theorem n3_3 : Run Cx 3 T ds ro (.code c3_3 :: k) H Q = Run Cx 3 T ds ro (.code c3_4 :: .code c3_5 :: k) H Q := run_seq
def o3_11 : List AO := [{ dst := (some 14), op := .move (.tmp 0), ty := 22, guard := none },
  { dst := (some 15), op := .call { callee := (.value (.func 7)), args := #[(.tmp 14)], argTypes := #[22] }, ty := 9, guard := none },
  { dst := (some 3), op := .assign (.tmp 15), ty := 9, guard := none }]
def c3_11 : AC := .region o3_11 []
theorem n3_11 : Run Cx 3 T ds ro (.code c3_11 :: k) H Q = RunOps Cx 3 T ds ro o3_11 k H Q := run_region
def o3_14 : List AO := [{ dst := (some 16), op := .move (.tmp 0), ty := 22, guard := none },
  { dst := (some 17), op := .call { callee := (.value (.func 8)), args := #[(.tmp 16)], argTypes := #[22] }, ty := 4, guard := none },
  { dst := (some 18), op := .unOp .not 4 (.tmp 17), ty := 4, guard := none }]
def c3_14 : AC := .region o3_14 []
theorem n3_14 : Run Cx 3 T ds ro (.code c3_14 :: k) H Q = RunOps Cx 3 T ds ro o3_14 k H Q := run_region
def o3_17 : List AO := [{ dst := (some 19), op := .move (.tmp 3), ty := 9, guard := none },
  { dst := (some 20), op := .binOp .eql 9 (.tmp 19) (.const (.string ⟨#[]⟩)) 9, ty := 4, guard := none },
  { dst := (some 2), op := .assign (.tmp 20), ty := 4, guard := none }]
def c3_17 : AC := .region o3_17 []
theorem n3_17 : Run Cx 3 T ds ro (.code c3_17 :: k) H Q = RunOps Cx 3 T ds ro o3_17 k H Q := run_region
def c3_18 : AC := .ret
theorem n3_18 : Run Cx 3 T [] none (.code c3_18 :: k) H Q = RunRes Cx T H Q (resOf Cx 3) := run_ret
def c3_16 : AC := .seq c3_17 c3_18
theorem n3_16 : Run Cx 3 T ds ro (.code c3_16 :: k) H Q = Run Cx 3 T ds ro (.code c3_17 :: .code c3_18 :: k) H Q := run_seq
def c3_19 : AC := .skip
theorem n3_19 : Run Cx 3 T ds ro (.code c3_19 :: k) H Q = Run Cx 3 T ds ro (k) H Q := run_skip
def c3_15 : AC := .cond (.tmp 18) c3_16 c3_19
theorem n3_15 : Run Cx 3 T ds ro (.code c3_15 :: k) H Q = RunCond Cx 3 T ds ro (.tmp 18) (ev T (.tmp 18)) c3_16 c3_19 k H Q := run_condC
def c3_13 : AC := .seq c3_14 c3_15
theorem n3_13 : Run Cx 3 T ds ro (.code c3_13 :: k) H Q = Run Cx 3 T ds ro (.code c3_14 :: .code c3_15 :: k) H Q := run_seq
def o3_21 : List AO := [{ dst := (some 22), op := .move (.tmp 3), ty := 9, guard := none },
  { dst := (some 23), op := .call { callee := (.value (.func 9)), args := #[(.tmp 22)], argTypes := #[9] }, ty := 28, guard := none },
  { dst := (some 21), op := .move (.tmp 23), ty := 28, guard := none },
  { dst := (some 24), op := .extract (.tmp 21) 0, ty := 22, guard := none },
  { dst := (some 25), op := .extract (.tmp 21) 1, ty := 27, guard := none },
  { dst := (some 4), op := .assign (.tmp 24), ty := 22, guard := none },
  { dst := (some 5), op := .assign (.tmp 25), ty := 27, guard := none }]
def c3_21 : AC := .region o3_21 []
theorem n3_21 : Run Cx 3 T ds ro (.code c3_21 :: k) H Q = RunOps Cx 3 T ds ro o3_21 k H Q := run_region
def o3_23 : List AO := [{ dst := (some 26), op := .move (.tmp 5), ty := 27, guard := none },
  { dst := (some 27), op := .binOp .eql 27 (.tmp 26) (.const (.int .i64 0)) 27, ty := 4, guard := none },
  { dst := (some 28), op := .move (.tmp 27), ty := 4, guard := none },
  { dst := (some 29), op := .move (.tmp 0), ty := 22, guard := (some (28, true)) },
  { dst := (some 30), op := .move (.tmp 4), ty := 22, guard := (some (28, true)) },
  { dst := (some 31), op := .call { callee := (.value (.func 10)), args := #[(.tmp 29), (.tmp 30)], argTypes := #[22, 22] }, ty := 4, guard := (some (28, true)) },
  { dst := (some 32), op := .pick (.tmp 28) (.tmp 31) (.const (.bool false)), ty := 4, guard := none },
  { dst := (some 2), op := .assign (.tmp 32), ty := 4, guard := none }]
def c3_23 : AC := .region o3_23 []
theorem n3_23 : Run Cx 3 T ds ro (.code c3_23 :: k) H Q = RunOps Cx 3 T ds ro o3_23 k H Q := run_region
def c3_24 : AC := .ret
theorem n3_24 : Run Cx 3 T [] none (.code c3_24 :: k) H Q = RunRes Cx T H Q (resOf Cx 3) := run_ret
def c3_22 : AC := .seq c3_23 c3_24
theorem n3_22 : Run Cx 3 T ds ro (.code c3_22 :: k) H Q = Run Cx 3 T ds ro (.code c3_23 :: .code c3_24 :: k) H Q := run_seq
def c3_20 : AC := .seq c3_21 c3_22
theorem n3_20 : Run Cx 3 T ds ro (.code c3_20 :: k) H Q = Run Cx 3 T ds ro (.code c3_21 :: .code c3_22 :: k) H Q := run_seq
def c3_12 : AC := .seq c3_13 c3_20
theorem n3_12 : Run Cx 3 T ds ro (.code c3_12 :: k) H Q = Run Cx 3 T ds ro (.code c3_13 :: .code c3_20 :: k) H Q := run_seq
def c3_10 : AC := .seq c3_11 c3_12
theorem n3_10 : Run Cx 3 T ds ro (.code c3_10 :: k) H Q = Run Cx 3 T ds ro (.code c3_11 :: .code c3_12 :: k) H Q := run_seq
def c3_2 : AC := .seq c3_3 c3_10
theorem n3_2 : Run Cx 3 T ds ro (.code c3_2 :: k) H Q = Run Cx 3 T ds ro (.code c3_3 :: .code c3_10 :: k) H Q := run_seq
def c3_0 : AC := .seq c3_1 c3_2
theorem n3_0 : Run Cx 3 T ds ro (.code c3_0 :: k) H Q = Run Cx 3 T ds ro (.code c3_1 :: .code c3_2 :: k) H Q := run_seq
theorem body3 : bodyOf Cx 3 = some c3_0 := by kernel_rfl
theorem res3 : resOf Cx 3 = some [.tmp 2] := by kernel_rfl
theorem pure3 : Cx.pure 3 = true := by kernel_rfl
-- RULES 3: n3_0, n3_1, n3_2, n3_3, n3_4, n3_5, n3_6, n3_7, n3_8, n3_9, n3_10, n3_11, n3_12, n3_13, n3_14, n3_15, n3_16, n3_17, n3_18, n3_19, n3_20, n3_21, n3_22, n3_23, n3_24
def o4_1 : List AO := [{ dst := (some 2), op := .assign (.const (.bool false)), ty := 4, guard := none }]
def c4_1 : AC := .region o4_1 []
theorem n4_1 : Run Cx 4 T ds ro (.code c4_1 :: k) H Q = RunOps Cx 4 T ds ro o4_1 k H Q := run_region
def o4_4 : List AO := [{ dst := (some 5), op := .call { callee := (.value (.func 5)), args := #[], argTypes := #[] }, ty := 4, guard := none },
  { dst := (some 6), op := .unOp .not 4 (.tmp 5), ty := 4, guard := none },
  { dst := (some 7), op := .move (.tmp 6), ty := 4, guard := none },
  { dst := (some 8), op := .move (.tmp 0), ty := 9, guard := (some (7, false)) },
  { dst := (some 9), op := .call { callee := (.builtin .len), args := #[(.tmp 8)], argTypes := #[9] }, ty := 3, guard := (some (7, false)) },
  { dst := (some 10), op := .binOp .gtr 3 (.tmp 9) (.const (.int .i64 5000)) 3, ty := 4, guard := (some (7, false)) },
  { dst := (some 11), op := .pick (.tmp 7) (.const (.bool true)) (.tmp 10), ty := 4, guard := none }]
def c4_4 : AC := .region o4_4 []
theorem n4_4 : Run Cx 4 T ds ro (.code c4_4 :: k) H Q = RunOps Cx 4 T ds ro o4_4 k H Q := run_region
def o4_7 : List AO := [{ dst := (some 12), op := .call { callee := (.value (.func 5)), args := #[], argTypes := #[] }, ty := 4, guard := none },
  { dst := (some 2), op := .assign (.tmp 12), ty := 4, guard := none }]
def c4_7 : AC := .region o4_7 []
theorem n4_7 : Run Cx 4 T ds ro (.code c4_7 :: k) H Q = RunOps Cx 4 T ds ro o4_7 k H Q := run_region
def c4_8 : AC := .ret
theorem n4_8 : Run Cx 4 T [] none (.code c4_8 :: k) H Q = RunRes Cx T H Q (resOf Cx 4) := run_ret
def c4_6 : AC := .seq c4_7 c4_8
theorem n4_6 : Run Cx 4 T ds ro (.code c4_6 :: k) H Q = Run Cx 4 T ds ro (.code c4_7 :: .code c4_8 :: k) H Q := run_seq
def c4_9 : AC := .skip
theorem n4_9 : Run Cx 4 T ds ro (.code c4_9 :: k) H Q = Run Cx 4 T ds ro (k) H Q := run_skip
def c4_5 : AC := .cond (.tmp 11) c4_6 c4_9
theorem n4_5 : Run Cx 4 T ds ro (.code c4_5 :: k) H Q = RunCond Cx 4 T ds ro (.tmp 11) (ev T (.tmp 11)) c4_6 c4_9 k H Q := run_condC
def c4_3 : AC := .seq c4_4 c4_5
theorem n4_3 : Run Cx 4 T ds ro (.code c4_3 :: k) H Q = Run Cx 4 T ds ro (.code c4_4 :: .code c4_5 :: k) H Q := run_seq
def o4_11 : List AO := [{ dst := (some 14), op := .move (.tmp 0), ty := 9, guard := none },
  { dst := (some 15), op := .call { callee := (.value (.func 9)), args := #[(.tmp 14)], argTypes := #[9] }, ty := 28, guard := none },
  { dst := (some 13), op := .move (.tmp 15), ty := 28, guard := none },
  { dst := (some 16), op := .extract (.tmp 13) 0, ty := 22, guard := none },
  { dst := (some 17), op := .extract (.tmp 13) 1, ty := 27, guard := none },
  { dst := (some 3), op := .assign (.tmp 16), ty := 22, guard := none },
  { dst := (some 4), op := .assign (.tmp 17), ty := 27, guard := none }]
def c4_11 : AC := .region o4_11 []
theorem n4_11 : Run Cx 4 T ds ro (.code c4_11 :: k) H Q = RunOps Cx 4 T ds ro o4_11 k H Q := run_region
def o4_14 : List AO := [{ dst := (some 18), op := .move (.tmp 4), ty := 27, guard := none },
  { dst := (some 19), op := .binOp .neq 27 (.tmp 18) (.const (.int .i64 0)) 27, ty := 4, guard := none }]
def c4_14 : AC := .region o4_14 []
theorem n4_14 : Run Cx 4 T ds ro (.code c4_14 :: k) H Q = RunOps Cx 4 T ds ro o4_14 k H Q := run_region
def o4_17 : List AO := [{ dst := (some 20), op := .move (.tmp 3), ty := 22, guard := none },
  { dst := (some 21), op := .call { callee := (.builtin .len), args := #[(.tmp 20)], argTypes := #[22] }, ty := 3, guard := none },
  { dst := (some 22), op := .binOp .eql 3 (.tmp 21) (.const (.int .i64 0)) 3, ty := 4, guard := none },
  { dst := (some 2), op := .assign (.tmp 22), ty := 4, guard := none }]
def c4_17 : AC := .region o4_17 []
theorem n4_17 : Run Cx 4 T ds ro (.code c4_17 :: k) H Q = RunOps Cx 4 T ds ro o4_17 k H Q := run_region
def c4_18 : AC := .ret
theorem n4_18 : Run Cx 4 T [] none (.code c4_18 :: k) H Q = RunRes Cx T H Q (resOf Cx 4) := run_ret
def c4_16 : AC := .seq c4_17 c4_18
theorem n4_16 : Run Cx 4 T ds ro (.code c4_16 :: k) H Q = Run Cx 4 T ds ro (.code c4_17 :: .code c4_18 :: k) H Q := run_seq
def c4_19 : AC := .skip
theorem n4_19 : Run Cx 4 T ds ro (.code c4_19 :: k) H Q = Run Cx 4 T ds ro (k) H Q := run_skip
def c4_15 : AC := .cond (.tmp 19) c4_16 c4_19
theorem n4_15 : Run Cx 4 T ds ro (.code c4_15 :: k) H Q = RunCond Cx 4 T ds ro (.tmp 19) (ev T (.tmp 19)) c4_16 c4_19 k H Q := run_condC
def c4_13 : AC := .seq c4_14 c4_15
theorem n4_13 : Run Cx 4 T ds ro (.code c4_13 :: k) H Q = Run Cx 4 T ds ro (.code c4_14 :: .code c4_15 :: k) H Q := run_seq
def o4_21 : List AO := [{ dst := (some 23), op := .move (.tmp 3), ty := 22, guard := none },
  { dst := (some 24), op := .call { callee := (.value (.func 8)), args := #[(.tmp 23)], argTypes := #[22] }, ty := 4, guard := none },
  { dst := (some 25), op := .move (.tmp 24), ty := 4, guard := none },
  { dst := (some 26), op := .move (.tmp 3), ty := 22, guard := (some (25, true)) },
  { dst := (some 27), op := .call { callee := (.value (.func 7)), args := #[(.tmp 26)], argTypes := #[22] }, ty := 9, guard := (some (25, true)) },
  { dst := (some 28), op := .move (.tmp 0), ty := 9, guard := (some (25, true)) },
  { dst := (some 29), op := .binOp .eql 9 (.tmp 27) (.tmp 28) 9, ty := 4, guard := (some (25, true)) },
  { dst := (some 30), op := .pick (.tmp 25) (.tmp 29) (.const (.bool false)), ty := 4, guard := none },
  { dst := (some 2), op := .assign (.tmp 30), ty := 4, guard := none }]
def c4_21 : AC := .region o4_21 []
theorem n4_21 : Run Cx 4 T ds ro (.code c4_21 :: k) H Q = RunOps Cx 4 T ds ro o4_21 k H Q := run_region
def c4_22 : AC := .ret
theorem n4_22 : Run Cx 4 T [] none (.code c4_22 :: k) H Q = RunRes Cx T H Q (resOf Cx 4) := run_ret
def c4_20 : AC := .seq c4_21 c4_22
theorem n4_20 : Run Cx 4 T ds ro (.code c4_20 :: k) H Q = Run Cx 4 T ds ro (.code c4_21 :: .code c4_22 :: k) H Q := run_seq
def c4_12 : AC := .seq c4_13 c4_20
theorem n4_12 : Run Cx 4 T ds ro (.code c4_12 :: k) H Q = Run Cx 4 T ds ro (.code c4_13 :: .code c4_20 :: k) H Q := run_seq
def c4_10 : AC := .seq c4_11 c4_12
theorem n4_10 : Run Cx 4 T ds ro (.code c4_10 :: k) H Q = Run Cx 4 T ds ro (.code c4_11 :: .code c4_12 :: k) H Q := run_seq
def c4_2 : AC := .seq c4_3 c4_10
theorem n4_2 : Run Cx 4 T ds ro (.code c4_2 :: k) H Q = Run Cx 4 T ds ro (.code c4_3 :: .code c4_10 :: k) H Q := run_seq
def c4_0 : AC := .seq c4_1 c4_2
theorem n4_0 : Run Cx 4 T ds ro (.code c4_0 :: k) H Q = Run Cx 4 T ds ro (.code c4_1 :: .code c4_2 :: k) H Q := run_seq
theorem body4 : bodyOf Cx 4 = some c4_0 := by kernel_rfl
theorem res4 : resOf Cx 4 = some [.tmp 2] := by kernel_rfl
theorem pure4 : Cx.pure 4 = true := by kernel_rfl
-- RULES 4: n4_0, n4_1, n4_2, n4_3, n4_4, n4_5, n4_6, n4_7, n4_8, n4_9, n4_10, n4_11, n4_12, n4_13, n4_14, n4_15, n4_16, n4_17, n4_18, n4_19, n4_20, n4_21, n4_22
def o6_1 : List AO := [{ dst := (some 2), op := .assign (.const (.int .i64 0)), ty := 3, guard := none }]
def c6_1 : AC := .region o6_1 []
theorem n6_1 : Run Cx 6 T ds ro (.code c6_1 :: k) H Q = RunOps Cx 6 T ds ro o6_1 k H Q := run_region
def o6_3 : List AO := [{ dst := (some 3), op := .assign (.const (.int .i64 0)), ty := 3, guard := none }]
def c6_3 : AC := .region o6_3 []
theorem n6_3 : Run Cx 6 T ds ro (.code c6_3 :: k) H Q = RunOps Cx 6 T ds ro o6_3 k H Q := run_region
def o6_6 : List AO := [{ dst := (some 4), op := .assign (.const (.int .i64 0)), ty := 3, guard := none }]
def c6_6 : AC := .region o6_6 []
theorem n6_6 : Run Cx 6 T ds ro (.code c6_6 :: k) H Q = RunOps Cx 6 T ds ro o6_6 k H Q := run_region
def o6_11 : List AO := [{ dst := (some 5), op := .move (.tmp 4), ty := 3, guard := none },
  { dst := (some 6), op := .move (.tmp 0), ty := 22, guard := none },
  { dst := (some 7), op := .call { callee := (.builtin .len), args := #[(.tmp 6)], argTypes := #[22] }, ty := 3, guard := none },
  { dst := (some 8), op := .binOp .lss 3 (.tmp 5) (.tmp 7) 3, ty := 4, guard := none },
  { dst := (some 9), op := .move (.tmp 8), ty := 4, guard := none },
  { dst := (some 10), op := .move (.tmp 4), ty := 3, guard := (some (9, true)) },
  { dst := (some 11), op := .binOp .leq 3 (.tmp 10) (.const (.int .i64 100)) 3, ty := 4, guard := (some (9, true)) },
  { dst := (some 12), op := .pick (.tmp 9) (.tmp 11) (.const (.bool false)), ty := 4, guard := none }]
def c6_11 : AC := .region o6_11 []
theorem n6_11 : Run Cx 6 T ds ro (.code c6_11 :: k) H Q = RunOps Cx 6 T ds ro o6_11 k H Q := run_region
def c6_13 : AC := .skip
theorem n6_13 : Run Cx 6 T ds ro (.code c6_13 :: k) H Q = Run Cx 6 T ds ro (k) H Q := run_skip
def c6_14 : AC := .exit 0
theorem n6_14 : Run Cx 6 T ds ro (.code c6_14 :: k) H Q = RunExit Cx 6 T ds ro 0 k k H Q := run_exit_start
def c6_12 : AC := .cond (.tmp 12) c6_13 c6_14
theorem n6_12 : Run Cx 6 T ds ro (.code c6_12 :: k) H Q = RunCond Cx 6 T ds ro (.tmp 12) (ev T (.tmp 12)) c6_13 c6_14 k H Q := run_condC
def c6_10 : AC := .seq c6_11 c6_12
theorem n6_10 : Run Cx 6 T ds ro (.code c6_10 :: k) H Q = Run Cx 6 T ds ro (.code c6_11 :: .code c6_12 :: k) H Q := run_seq
def o6_17 : List AO := [{ dst := (some 15), op := .move (.tmp 3), ty := 3, guard := none },
  { dst := (some 16), op := .move (.tmp 0), ty := 22, guard := none },
  { dst := (some 17), op := .move (.tmp 4), ty := 3, guard := none },
  { dst := (some 18), op := .indexAddr 22 (.tmp 16) (.tmp 17), ty := 0, guard := none },
  { dst := (some 19), op := .fieldAddr 38 (.tmp 18) 0, ty := 0, guard := none },
  { dst := (some 20), op := .load 9 (.tmp 19), ty := 9, guard := none },
  { dst := (some 21), op := .call { callee := (.builtin .len), args := #[(.tmp 20)], argTypes := #[9] }, ty := 3, guard := none },
  { dst := (some 22), op := .call { callee := (.builtin .min), args := #[(.tmp 21), (.const (.int .i64 100000))], argTypes := #[3, 3] }, ty := 3, guard := none },
  { dst := (some 23), op := .binOp .add 3 (.tmp 15) (.tmp 22) 3, ty := 3, guard := none },
  { dst := (some 24), op := .move (.tmp 0), ty := 22, guard := none },
  { dst := (some 25), op := .move (.tmp 4), ty := 3, guard := none },
  { dst := (some 26), op := .indexAddr 22 (.tmp 24) (.tmp 25), ty := 0, guard := none },
  { dst := (some 27), op := .fieldAddr 38 (.tmp 26) 1, ty := 0, guard := none },
  { dst := (some 28), op := .fieldAddr 36 (.tmp 27) 2, ty := 0, guard := none },
  { dst := (some 29), op := .load 9 (.tmp 28), ty := 9, guard := none },
  { dst := (some 30), op := .call { callee := (.builtin .len), args := #[(.tmp 29)], argTypes := #[9] }, ty := 3, guard := none },
  { dst := (some 31), op := .call { callee := (.builtin .min), args := #[(.tmp 30), (.const (.int .i64 100000))], argTypes := #[3, 3] }, ty := 3, guard := none },
  { dst := (some 32), op := .binOp .add 3 (.tmp 23) (.tmp 31) 3, ty := 3, guard := none },
  { dst := (some 3), op := .assign (.tmp 32), ty := 3, guard := none }]
def c6_17 : AC := .region o6_17 []
theorem n6_17 : Run Cx 6 T ds ro (.code c6_17 :: k) H Q = RunOps Cx 6 T ds ro o6_17 k H Q := run_region
def c6_16 : AC := .block 1 c6_17
theorem n6_16 : Run Cx 6 T ds ro (.code c6_16 :: k) H Q = Run Cx 6 T ds ro (.code c6_17 :: .inBlock 1 :: k) H Q := run_block
def o6_18 : List AO := [{ dst := (some 13), op := .move (.tmp 4), ty := 3, guard := none },
  { dst := (some 14), op := .binOp .add 3 (.tmp 13) (.const (.int .i64 1)) 3, ty := 3, guard := none },
  { dst := (some 4), op := .assign (.tmp 14), ty := 3, guard := none }]
def c6_18 : AC := .region o6_18 []
theorem n6_18 : Run Cx 6 T ds ro (.code c6_18 :: k) H Q = RunOps Cx 6 T ds ro o6_18 k H Q := run_region
def c6_15 : AC := .seq c6_16 c6_18
theorem n6_15 : Run Cx 6 T ds ro (.code c6_15 :: k) H Q = Run Cx 6 T ds ro (.code c6_16 :: .code c6_18 :: k) H Q := run_seq
def c6_9 : AC := .seq c6_10 c6_15
theorem n6_9 : Run Cx 6 T ds ro (.code c6_9 :: k) H Q = Run Cx 6 T ds ro (.code c6_10 :: .code c6_15 :: k) H Q := run_seq
def c6_8 : AC := .loop c6_9
theorem n6_8 : Run Cx 6 T ds ro (.code c6_8 :: k) H Q = Run Cx 6 T ds ro (.inLoop c6_9 :: k) H Q := run_loop'
def c6_7 : AC := .block 0 c6_8
theorem n6_7 : Run Cx 6 T ds ro (.code c6_7 :: k) H Q = Run Cx 6 T ds ro (.code c6_8 :: .inBlock 0 :: k) H Q := run_block
def c6_5 : AC := .seq c6_6 c6_7
theorem n6_5 : Run Cx 6 T ds ro (.code c6_5 :: k) H Q = Run Cx 6 T ds ro (.code c6_6 :: .code c6_7 :: k) H Q := run_seq
def o6_21 : List AO := [{ dst := (some 33), op := .move (.tmp 0), ty := 22, guard := none },
  { dst := (some 34), op := .call { callee := (.builtin .len), args := #[(.tmp 33)], argTypes := #[22] }, ty := 3, guard := none },
  { dst := (some 35), op := .binOp .gtr 3 (.tmp 34) (.const (.int .i64 100)) 3, ty := 4, guard := none },
  { dst := (some 36), op := .move (.tmp 35), ty := 4, guard := none },
  { dst := (some 37), op := .move (.tmp 3), ty := 3, guard := (some (36, false)) },
  { dst := (some 38), op := .binOp .gtr 3 (.tmp 37) (.const (.int .i64 10000)) 3, ty := 4, guard := (some (36, false)) },
  { dst := (some 39), op := .pick (.tmp 36) (.const (.bool true)) (.tmp 38), ty := 4, guard := none }]
def c6_21 : AC := .region o6_21 []
theorem n6_21 : Run Cx 6 T ds ro (.code c6_21 :: k) H Q = RunOps Cx 6 T ds ro o6_21 k H Q := run_region
def o6_24 : List AO := [{ dst := (some 2), op := .assign (.const (.int .i64 0)), ty := 3, guard := none }]
def c6_24 : AC := .region o6_24 []
theorem n6_24 : Run Cx 6 T ds ro (.code c6_24 :: k) H Q = RunOps Cx 6 T ds ro o6_24 k H Q := run_region
def c6_25 : AC := .ret
theorem n6_25 : Run Cx 6 T [] none (.code c6_25 :: k) H Q = RunRes Cx T H Q (resOf Cx 6) := run_ret
def c6_23 : AC := .seq c6_24 c6_25
theorem n6_23 : Run Cx 6 T ds ro (.code c6_23 :: k) H Q = Run Cx 6 T ds ro (.code c6_24 :: .code c6_25 :: k) H Q := run_seq
def c6_26 : AC := .skip
theorem n6_26 : Run Cx 6 T ds ro (.code c6_26 :: k) H Q = Run Cx 6 T ds ro (k) H Q := run_skip
def c6_22 : AC := .cond (.tmp 39) c6_23 c6_26
theorem n6_22 : Run Cx 6 T ds ro (.code c6_22 :: k) H Q = RunCond Cx 6 T ds ro (.tmp 39) (ev T (.tmp 39)) c6_23 c6_26 k H Q := run_condC
def c6_20 : AC := .seq c6_21 c6_22
theorem n6_20 : Run Cx 6 T ds ro (.code c6_20 :: k) H Q = Run Cx 6 T ds ro (.code c6_21 :: .code c6_22 :: k) H Q := run_seq
def o6_28 : List AO := [{ dst := (some 2), op := .assign (.const (.int .i64 1)), ty := 3, guard := none }]
def c6_28 : AC := .region o6_28 []
theorem n6_28 : Run Cx 6 T ds ro (.code c6_28 :: k) H Q = RunOps Cx 6 T ds ro o6_28 k H Q := run_region
def c6_29 : AC := .ret
theorem n6_29 : Run Cx 6 T [] none (.code c6_29 :: k) H Q = RunRes Cx T H Q (resOf Cx 6) := run_ret
def c6_27 : AC := .seq c6_28 c6_29
theorem n6_27 : Run Cx 6 T ds ro (.code c6_27 :: k) H Q = Run Cx 6 T ds ro (.code c6_28 :: .code c6_29 :: k) H Q := run_seq
def c6_19 : AC := .seq c6_20 c6_27
theorem n6_19 : Run Cx 6 T ds ro (.code c6_19 :: k) H Q = Run Cx 6 T ds ro (.code c6_20 :: .code c6_27 :: k) H Q := run_seq
def c6_4 : AC := .seq c6_5 c6_19
theorem n6_4 : Run Cx 6 T ds ro (.code c6_4 :: k) H Q = Run Cx 6 T ds ro (.code c6_5 :: .code c6_19 :: k) H Q := run_seq
def c6_2 : AC := .seq c6_3 c6_4
theorem n6_2 : Run Cx 6 T ds ro (.code c6_2 :: k) H Q = Run Cx 6 T ds ro (.code c6_3 :: .code c6_4 :: k) H Q := run_seq
def c6_0 : AC := .seq c6_1 c6_2
theorem n6_0 : Run Cx 6 T ds ro (.code c6_0 :: k) H Q = Run Cx 6 T ds ro (.code c6_1 :: .code c6_2 :: k) H Q := run_seq
theorem body6 : bodyOf Cx 6 = some c6_0 := by kernel_rfl
theorem res6 : resOf Cx 6 = some [.tmp 2] := by kernel_rfl
theorem pure6 : Cx.pure 6 = true := by kernel_rfl
-- RULES 6: n6_0, n6_1, n6_2, n6_3, n6_4, n6_5, n6_6, n6_7, n6_8, n6_9, n6_10, n6_11, n6_12, n6_13, n6_14, n6_15, n6_16, n6_17, n6_18, n6_19, n6_20, n6_21, n6_22, n6_23, n6_24, n6_25, n6_26, n6_27, n6_28, n6_29
def o7_1 : List AO := [{ dst := (some 2), op := .assign (.const (.string ⟨#[]⟩)), ty := 9, guard := none }]
def c7_1 : AC := .region o7_1 []
theorem n7_1 : Run Cx 7 T ds ro (.code c7_1 :: k) H Q = RunOps Cx 7 T ds ro o7_1 k H Q := run_region
def o7_4 : List AO := [{ dst := (some 6), op := .move (.tmp 0), ty := 22, guard := none },
  { dst := (some 7), op := .call { callee := (.value (.func 8)), args := #[(.tmp 6)], argTypes := #[22] }, ty := 4, guard := none },
  { dst := (some 8), op := .unOp .not 4 (.tmp 7), ty := 4, guard := none }]
def c7_4 : AC := .region o7_4 []
theorem n7_4 : Run Cx 7 T ds ro (.code c7_4 :: k) H Q = RunOps Cx 7 T ds ro o7_4 k H Q := run_region
def o7_7 : List AO := [{ dst := (some 2), op := .assign (.const (.string ⟨#[]⟩)), ty := 9, guard := none }]
def c7_7 : AC := .region o7_7 []
theorem n7_7 : Run Cx 7 T ds ro (.code c7_7 :: k) H Q = RunOps Cx 7 T ds ro o7_7 k H Q := run_region
def c7_8 : AC := .ret
theorem n7_8 : Run Cx 7 T [] none (.code c7_8 :: k) H Q = RunRes Cx T H Q (resOf Cx 7) := run_ret
def c7_6 : AC := .seq c7_7 c7_8
theorem n7_6 : Run Cx 7 T ds ro (.code c7_6 :: k) H Q = Run Cx 7 T ds ro (.code c7_7 :: .code c7_8 :: k) H Q := run_seq
def c7_9 : AC := .skip
theorem n7_9 : Run Cx 7 T ds ro (.code c7_9 :: k) H Q = Run Cx 7 T ds ro (k) H Q := run_skip
def c7_5 : AC := .cond (.tmp 8) c7_6 c7_9
theorem n7_5 : Run Cx 7 T ds ro (.code c7_5 :: k) H Q = RunCond Cx 7 T ds ro (.tmp 8) (ev T (.tmp 8)) c7_6 c7_9 k H Q := run_condC
def c7_3 : AC := .seq c7_4 c7_5
theorem n7_3 : Run Cx 7 T ds ro (.code c7_3 :: k) H Q = Run Cx 7 T ds ro (.code c7_4 :: .code c7_5 :: k) H Q := run_seq
def o7_11 : List AO := [{ dst := (some 3), op := .alloc 42, ty := 0, guard := none }]
def c7_11 : AC := .region o7_11 []
theorem n7_11 : Run Cx 7 T ds ro (.code c7_11 :: k) H Q = RunOps Cx 7 T ds ro o7_11 k H Q := run_region
def o7_13 : List AO := [{ dst := (some 9), op := .move (.tmp 0), ty := 22, guard := none },
  { dst := (some 10), op := .call { callee := (.builtin .len), args := #[(.tmp 9)], argTypes := #[22] }, ty := 3, guard := none },
  { dst := (some 11), op := .call { callee := (.value (.func 13)), args := #[(.tmp 10)], argTypes := #[3] }, ty := 9, guard := none },
  { dst := (some 12), op := .call { callee := (.value (.func 12)), args := #[(.tmp 3), (.tmp 11)], argTypes := #[42, 9] }, ty := 45, guard := none }]
def c7_13 : AC := .region o7_13 []
theorem n7_13 : Run Cx 7 T ds ro (.code c7_13 :: k) H Q = RunOps Cx 7 T ds ro o7_13 k H Q := run_region
def o7_16 : List AO := [{ dst := (some 13), op := .move (.tmp 0), ty := 22, guard := none },
  { dst := (some 14), op := .call { callee := (.builtin .len), args := #[(.tmp 13)], argTypes := #[22] }, ty := 3, guard := none },
  { dst := (some 15), op := .move (.const (.int .i64 0)), ty := 3, guard := none }]
def c7_16 : AC := .region o7_16 []
theorem n7_16 : Run Cx 7 T ds ro (.code c7_16 :: k) H Q = RunOps Cx 7 T ds ro o7_16 k H Q := run_region
def o7_20 : List AO := [{ dst := (some 16), op := .binOp .lss 3 (.tmp 15) (.tmp 14) 3, ty := 0, guard := none }]
def c7_20 : AC := .region o7_20 []
theorem n7_20 : Run Cx 7 T ds ro (.code c7_20 :: k) H Q = RunOps Cx 7 T ds ro o7_20 k H Q := run_region
def c7_23 : AC := .skip
theorem n7_23 : Run Cx 7 T ds ro (.code c7_23 :: k) H Q = Run Cx 7 T ds ro (k) H Q := run_skip
def c7_24 : AC := .exit 0
theorem n7_24 : Run Cx 7 T ds ro (.code c7_24 :: k) H Q = RunExit Cx 7 T ds ro 0 k k H Q := run_exit_start
def c7_22 : AC := .cond (.tmp 16) c7_23 c7_24
theorem n7_22 : Run Cx 7 T ds ro (.code c7_22 :: k) H Q = RunCond Cx 7 T ds ro (.tmp 16) (ev T (.tmp 16)) c7_23 c7_24 k H Q := run_condC
def o7_28 : List AO := [{ dst := (some 17), op := .indexAddr 22 (.tmp 13) (.tmp 15), ty := 0, guard := none },
  { dst := (some 18), op := .load 38 (.tmp 17), ty := 38, guard := none },
  { dst := (some 5), op := .alloc 38, ty := 0, guard := none },
  { dst := none, op := .store 38 (.tmp 5) (.tmp 18), ty := 0, guard := none }]
def c7_28 : AC := .region o7_28 []
theorem n7_28 : Run Cx 7 T ds ro (.code c7_28 :: k) H Q = RunOps Cx 7 T ds ro o7_28 k H Q := run_region
def o7_29 : List AO := [{ dst := (some 19), op := .fieldAddr 38 (.tmp 5) 0, ty := 0, guard := none },
  { dst := (some 20), op := .load 9 (.tmp 19), ty := 9, guard := none },
  { dst := (some 21), op := .call { callee := (.value (.func 14)), args := #[(.tmp 20)], argTypes := #[9] }, ty := 9, guard := none },
  { dst := (some 22), op := .fieldAddr 38 (.tmp 5) 1, ty := 0, guard := none },
  { dst := (some 23), op := .load 36 (.tmp 22), ty := 36, guard := none },
  { dst := (some 24), op := .call { callee := (.value (.func 15)), args := #[(.tmp 23)], argTypes := #[36] }, ty := 9, guard := none },
  { dst := (some 25), op := .binOp .add 9 (.tmp 21) (.tmp 24) 9, ty := 9, guard := none },
  { dst := (some 26), op := .call { callee := (.value (.func 12)), args := #[(.tmp 3), (.tmp 25)], argTypes := #[42, 9] }, ty := 45, guard := none }]
def c7_29 : AC := .region o7_29 []
theorem n7_29 : Run Cx 7 T ds ro (.code c7_29 :: k) H Q = RunOps Cx 7 T ds ro o7_29 k H Q := run_region
def c7_27 : AC := .seq c7_28 c7_29
theorem n7_27 : Run Cx 7 T ds ro (.code c7_27 :: k) H Q = Run Cx 7 T ds ro (.code c7_28 :: .code c7_29 :: k) H Q := run_seq
def c7_26 : AC := .block 1 c7_27
theorem n7_26 : Run Cx 7 T ds ro (.code c7_26 :: k) H Q = Run Cx 7 T ds ro (.code c7_27 :: .inBlock 1 :: k) H Q := run_block
def o7_30 : List AO := [{ dst := (some 27), op := .binOp .add 3 (.tmp 15) (.const (.int .i64 1)) 3, ty := 3, guard := none },
  { dst := (some 15), op := .move (.tmp 27), ty := 3, guard := none }]
def c7_30 : AC := .region o7_30 []
theorem n7_30 : Run Cx 7 T ds ro (.code c7_30 :: k) H Q = RunOps Cx 7 T ds ro o7_30 k H Q := run_region
def c7_25 : AC := .seq c7_26 c7_30
theorem n7_25 : Run Cx 7 T ds ro (.code c7_25 :: k) H Q = Run Cx 7 T ds ro (.code c7_26 :: .code c7_30 :: k) H Q := run_seq
def c7_21 : AC := .seq c7_22 c7_25
theorem n7_21 : Run Cx 7 T ds ro (.code c7_21 :: k) H Q = Run Cx 7 T ds ro (.code c7_22 :: .code c7_25 :: k) H Q := run_seq
def c7_19 : AC := .seq c7_20 c7_21
theorem n7_19 : Run Cx 7 T ds ro (.code c7_19 :: k) H Q = Run Cx 7 T ds ro (.code c7_20 :: .code c7_21 :: k) H Q := run_seq
def c7_18 : AC := .loop c7_19
theorem n7_18 : Run Cx 7 T ds ro (.code c7_18 :: k) H Q = Run Cx 7 T ds ro (.inLoop c7_19 :: k) H Q := run_loop'
def c7_17 : AC := .block 0 c7_18
theorem n7_17 : Run Cx 7 T ds ro (.code c7_17 :: k) H Q = Run Cx 7 T ds ro (.code c7_18 :: .inBlock 0 :: k) H Q := run_block
def c7_15 : AC := .seq c7_16 c7_17
theorem n7_15 : Run Cx 7 T ds ro (.code c7_15 :: k) H Q = Run Cx 7 T ds ro (.code c7_16 :: .code c7_17 :: k) H Q := run_seq
def o7_32 : List AO := [{ dst := (some 28), op := .call { callee := (.value (.func 16)), args := #[(.tmp 3)], argTypes := #[42] }, ty := 9, guard := none },
  { dst := (some 2), op := .assign (.tmp 28), ty := 9, guard := none }]
def c7_32 : AC := .region o7_32 []
theorem n7_32 : Run Cx 7 T ds ro (.code c7_32 :: k) H Q = RunOps Cx 7 T ds ro o7_32 k H Q := run_region
def c7_33 : AC := .ret
theorem n7_33 : Run Cx 7 T [] none (.code c7_33 :: k) H Q = RunRes Cx T H Q (resOf Cx 7) := run_ret
def c7_31 : AC := .seq c7_32 c7_33
theorem n7_31 : Run Cx 7 T ds ro (.code c7_31 :: k) H Q = Run Cx 7 T ds ro (.code c7_32 :: .code c7_33 :: k) H Q := run_seq
def c7_14 : AC := .seq c7_15 c7_31
theorem n7_14 : Run Cx 7 T ds ro (.code c7_14 :: k) H Q = Run Cx 7 T ds ro (.code c7_15 :: .code c7_31 :: k) H Q := run_seq
def c7_12 : AC := .seq c7_13 c7_14
theorem n7_12 : Run Cx 7 T ds ro (.code c7_12 :: k) H Q = Run Cx 7 T ds ro (.code c7_13 :: .code c7_14 :: k) H Q := run_seq
def c7_10 : AC := .seq c7_11 c7_12
theorem n7_10 : Run Cx 7 T ds ro (.code c7_10 :: k) H Q = Run Cx 7 T ds ro (.code c7_11 :: .code c7_12 :: k) H Q := run_seq
def c7_2 : AC := .seq c7_3 c7_10
theorem n7_2 : Run Cx 7 T ds ro (.code c7_2 :: k) H Q = Run Cx 7 T ds ro (.code c7_3 :: .code c7_10 :: k) H Q := run_seq
def c7_0 : AC := .seq c7_1 c7_2
theorem n7_0 : Run Cx 7 T ds ro (.code c7_0 :: k) H Q = Run Cx 7 T ds ro (.code c7_1 :: .code c7_2 :: k) H Q := run_seq
theorem body7 : bodyOf Cx 7 = some c7_0 := by kernel_rfl
theorem res7 : resOf Cx 7 = some [.tmp 2] := by kernel_rfl
theorem pure7 : Cx.pure 7 = true := by kernel_rfl
-- RULES 7: n7_0, n7_1, n7_2, n7_3, n7_4, n7_5, n7_6, n7_7, n7_8, n7_9, n7_10, n7_11, n7_12, n7_13, n7_14, n7_15, n7_16, n7_17, n7_18, n7_19, n7_20, n7_21, n7_22, n7_23, n7_24, n7_25, n7_26, n7_27, n7_28, n7_29, n7_30, n7_31, n7_32, n7_33
def o8_1 : List AO := [{ dst := (some 2), op := .assign (.const (.bool false)), ty := 4, guard := none }]
def c8_1 : AC := .region o8_1 []
theorem n8_1 : Run Cx 8 T ds ro (.code c8_1 :: k) H Q = RunOps Cx 8 T ds ro o8_1 k H Q := run_region
def o8_3 : List AO := [{ dst := (some 3), op := .move (.tmp 0), ty := 22, guard := none },
  { dst := (some 4), op := .call { callee := (.value (.func 17)), args := #[(.tmp 3), (.func 18)], argTypes := #[22, 53] }, ty := 4, guard := none },
  { dst := (some 5), op := .unOp .not 4 (.tmp 4), ty := 4, guard := none },
  { dst := (some 2), op := .assign (.tmp 5), ty := 4, guard := none }]
def c8_3 : AC := .region o8_3 []
theorem n8_3 : Run Cx 8 T ds ro (.code c8_3 :: k) H Q = RunOps Cx 8 T ds ro o8_3 k H Q := run_region
def c8_4 : AC := .ret
theorem n8_4 : Run Cx 8 T [] none (.code c8_4 :: k) H Q = RunRes Cx T H Q (resOf Cx 8) := run_ret
def c8_2 : AC := .seq c8_3 c8_4
theorem n8_2 : Run Cx 8 T ds ro (.code c8_2 :: k) H Q = Run Cx 8 T ds ro (.code c8_3 :: .code c8_4 :: k) H Q := run_seq
def c8_0 : AC := .seq c8_1 c8_2
theorem n8_0 : Run Cx 8 T ds ro (.code c8_0 :: k) H Q = Run Cx 8 T ds ro (.code c8_1 :: .code c8_2 :: k) H Q := run_seq
theorem body8 : bodyOf Cx 8 = some c8_0 := by kernel_rfl
theorem res8 : resOf Cx 8 = some [.tmp 2] := by kernel_rfl
theorem pure8 : Cx.pure 8 = true := by kernel_rfl
-- RULES 8: n8_0, n8_1, n8_2, n8_3, n8_4
def o9_1 : List AO := [{ dst := (some 2), op := .assign (.const (.slice none 0 0)), ty := 22, guard := none },
  { dst := (some 3), op := .assign (.const (.int .i64 0)), ty := 27, guard := none }]
def c9_1 : AC := .region o9_1 []
theorem n9_1 : Run Cx 9 T ds ro (.code c9_1 :: k) H Q = RunOps Cx 9 T ds ro o9_1 k H Q := run_region
def o9_3 : List AO := [{ dst := (some 10), op := .move (.tmp 0), ty := 9, guard := none },
  { dst := (some 11), op := .call { callee := (.value (.func 20)), args := #[(.tmp 10)], argTypes := #[9] }, ty := 54, guard := none },
  { dst := (some 4), op := .assign (.tmp 11), ty := 54, guard := none }]
def c9_3 : AC := .region o9_3 []
theorem n9_3 : Run Cx 9 T ds ro (.code c9_3 :: k) H Q = RunOps Cx 9 T ds ro o9_3 k H Q := run_region
def o9_5 : List AO := [{ dst := (some 13), op := .move (.tmp 4), ty := 54, guard := none },
  { dst := (some 14), op := .move (.tmp 0), ty := 9, guard := none },
  { dst := (some 15), op := .call { callee := (.builtin .len), args := #[(.tmp 14)], argTypes := #[9] }, ty := 3, guard := none },
  { dst := (some 16), op := .call { callee := (.value (.func 21)), args := #[(.tmp 13), (.tmp 15)], argTypes := #[54, 3] }, ty := 56, guard := none },
  { dst := (some 12), op := .move (.tmp 16), ty := 56, guard := none },
  { dst := (some 17), op := .extract (.tmp 12) 0, ty := 3, guard := none },
  { dst := (some 18), op := .extract (.tmp 12) 1, ty := 27, guard := none },
  { dst := (some 5), op := .assign (.tmp 17), ty := 3, guard := none },
  { dst := (some 6), op := .assign (.tmp 18), ty := 27, guard := none }]
def c9_5 : AC := .region o9_5 []
theorem n9_5 : Run Cx 9 T ds ro (.code c9_5 :: k) H Q = RunOps Cx 9 T ds ro o9_5 k H Q := run_region
def o9_8 : List AO := [{ dst := (some 19), op := .move (.tmp 6), ty := 27, guard := none },
  { dst := (some 20), op := .binOp .neq 27 (.tmp 19) (.const (.int .i64 0)) 27, ty := 4, guard := none }]
def c9_8 : AC := .region o9_8 []
theorem n9_8 : Run Cx 9 T ds ro (.code c9_8 :: k) H Q = RunOps Cx 9 T ds ro o9_8 k H Q := run_region
def o9_11 : List AO := [{ dst := (some 21), op := .move (.tmp 6), ty := 27, guard := none },
  { dst := (some 2), op := .assign (.const (.slice none 0 0)), ty := 22, guard := none },
  { dst := (some 3), op := .assign (.tmp 21), ty := 27, guard := none }]
def c9_11 : AC := .region o9_11 []
theorem n9_11 : Run Cx 9 T ds ro (.code c9_11 :: k) H Q = RunOps Cx 9 T ds ro o9_11 k H Q := run_region
def c9_12 : AC := .ret
theorem n9_12 : Run Cx 9 T [] none (.code c9_12 :: k) H Q = RunRes Cx T H Q (resOf Cx 9) := run_ret
def c9_10 : AC := .seq c9_11 c9_12
theorem n9_10 : Run Cx 9 T ds ro (.code c9_10 :: k) H Q = Run Cx 9 T ds ro (.code c9_11 :: .code c9_12 :: k) H Q := run_seq
def c9_13 : AC := .skip
theorem n9_13 : Run Cx 9 T ds ro (.code c9_13 :: k) H Q = Run Cx 9 T ds ro (k) H Q := run_skip
def c9_9 : AC := .cond (.tmp 20) c9_10 c9_13
theorem n9_9 : Run Cx 9 T ds ro (.code c9_9 :: k) H Q = RunCond Cx 9 T ds ro (.tmp 20) (ev T (.tmp 20)) c9_10 c9_13 k H Q := run_condC
def c9_7 : AC := .seq c9_8 c9_9
theorem n9_7 : Run Cx 9 T ds ro (.code c9_7 :: k) H Q = Run Cx 9 T ds ro (.code c9_8 :: .code c9_9 :: k) H Q := run_seq
def o9_15 : List AO := [{ dst := (some 7), op := .assign (.const (.slice none 0 0)), ty := 22, guard := none }]
def c9_15 : AC := .region o9_15 []
theorem n9_15 : Run Cx 9 T ds ro (.code c9_15 :: k) H Q = RunOps Cx 9 T ds ro o9_15 k H Q := run_region
def o9_18 : List AO := [{ dst := (some 22), op := .move (.tmp 5), ty := 3, guard := none },
  { dst := (some 23), op := .move (.const (.int .i64 0)), ty := 3, guard := none }]
def c9_18 : AC := .region o9_18 []
theorem n9_18 : Run Cx 9 T ds ro (.code c9_18 :: k) H Q = RunOps Cx 9 T ds ro o9_18 k H Q := run_region
def o9_22 : List AO := [{ dst := (some 24), op := .binOp .lss 3 (.tmp 23) (.tmp 22) 3, ty := 4, guard := none }]
def c9_22 : AC := .region o9_22 []
theorem n9_22 : Run Cx 9 T ds ro (.code c9_22 :: k) H Q = RunOps Cx 9 T ds ro o9_22 k H Q := run_region
def c9_25 : AC := .skip
theorem n9_25 : Run Cx 9 T ds ro (.code c9_25 :: k) H Q = Run Cx 9 T ds ro (k) H Q := run_skip
def c9_26 : AC := .exit 0
theorem n9_26 : Run Cx 9 T ds ro (.code c9_26 :: k) H Q = RunExit Cx 9 T ds ro 0 k k H Q := run_exit_start
def c9_24 : AC := .cond (.tmp 24) c9_25 c9_26
theorem n9_24 : Run Cx 9 T ds ro (.code c9_24 :: k) H Q = RunCond Cx 9 T ds ro (.tmp 24) (ev T (.tmp 24)) c9_25 c9_26 k H Q := run_condC
def o9_30 : List AO := [{ dst := (some 26), op := .move (.tmp 4), ty := 54, guard := none },
  { dst := (some 27), op := .call { callee := (.value (.func 22)), args := #[(.tmp 26)], argTypes := #[54] }, ty := 58, guard := none },
  { dst := (some 25), op := .move (.tmp 27), ty := 58, guard := none },
  { dst := (some 28), op := .extract (.tmp 25) 0, ty := 38, guard := none },
  { dst := (some 29), op := .extract (.tmp 25) 1, ty := 27, guard := none },
  { dst := (some 8), op := .alloc 38, ty := 0, guard := none },
  { dst := none, op := .store 38 (.tmp 8) (.tmp 28), ty := 0, guard := none },
  { dst := (some 9), op := .assign (.tmp 29), ty := 27, guard := none }]
def c9_30 : AC := .region o9_30 []
theorem n9_30 : Run Cx 9 T ds ro (.code c9_30 :: k) H Q = RunOps Cx 9 T ds ro o9_30 k H Q := run_region
def o9_33 : List AO := [{ dst := (some 30), op := .move (.tmp 9), ty := 27, guard := none },
  { dst := (some 31), op := .binOp .neq 27 (.tmp 30) (.const (.int .i64 0)) 27, ty := 4, guard := none }]
def c9_33 : AC := .region o9_33 []
theorem n9_33 : Run Cx 9 T ds ro (.code c9_33 :: k) H Q = RunOps Cx 9 T ds ro o9_33 k H Q := run_region
def o9_36 : List AO := [{ dst := (some 32), op := .move (.tmp 9), ty := 27, guard := none },
  { dst := (some 2), op := .assign (.const (.slice none 0 0)), ty := 22, guard := none },
  { dst := (some 3), op := .assign (.tmp 32), ty := 27, guard := none }]
def c9_36 : AC := .region o9_36 []
theorem n9_36 : Run Cx 9 T ds ro (.code c9_36 :: k) H Q = RunOps Cx 9 T ds ro o9_36 k H Q := run_region
def c9_37 : AC := .ret
theorem n9_37 : Run Cx 9 T [] none (.code c9_37 :: k) H Q = RunRes Cx T H Q (resOf Cx 9) := run_ret
def c9_35 : AC := .seq c9_36 c9_37
theorem n9_35 : Run Cx 9 T ds ro (.code c9_35 :: k) H Q = Run Cx 9 T ds ro (.code c9_36 :: .code c9_37 :: k) H Q := run_seq
def c9_38 : AC := .skip
theorem n9_38 : Run Cx 9 T ds ro (.code c9_38 :: k) H Q = Run Cx 9 T ds ro (k) H Q := run_skip
def c9_34 : AC := .cond (.tmp 31) c9_35 c9_38
theorem n9_34 : Run Cx 9 T ds ro (.code c9_34 :: k) H Q = RunCond Cx 9 T ds ro (.tmp 31) (ev T (.tmp 31)) c9_35 c9_38 k H Q := run_condC
def c9_32 : AC := .seq c9_33 c9_34
theorem n9_32 : Run Cx 9 T ds ro (.code c9_32 :: k) H Q = Run Cx 9 T ds ro (.code c9_33 :: .code c9_34 :: k) H Q := run_seq
def o9_39 : List AO := [{ dst := (some 33), op := .move (.tmp 7), ty := 22, guard := none },
  { dst := (some 34), op := .load 38 (.tmp 8), ty := 38, guard := none },
  { dst := (some 35), op := .buildSlice 22 1 #[(0, (.tmp 34))], ty := 22, guard := none },
  { dst := (some 36), op := .call { callee := (.builtin .append), args := #[(.tmp 33), (.tmp 35)], argTypes := #[22, 22] }, ty := 22, guard := none },
  { dst := (some 7), op := .assign (.tmp 36), ty := 22, guard := none }]
def c9_39 : AC := .region o9_39 []
theorem n9_39 : Run Cx 9 T ds ro (.code c9_39 :: k) H Q = RunOps Cx 9 T ds ro o9_39 k H Q := run_region
def c9_31 : AC := .seq c9_32 c9_39
theorem n9_31 : Run Cx 9 T ds ro (.code c9_31 :: k) H Q = Run Cx 9 T ds ro (.code c9_32 :: .code c9_39 :: k) H Q := run_seq
def c9_29 : AC := .seq c9_30 c9_31
theorem n9_29 : Run Cx 9 T ds ro (.code c9_29 :: k) H Q = Run Cx 9 T ds ro (.code c9_30 :: .code c9_31 :: k) H Q := run_seq
def c9_28 : AC := .block 1 c9_29
theorem n9_28 : Run Cx 9 T ds ro (.code c9_28 :: k) H Q = Run Cx 9 T ds ro (.code c9_29 :: .inBlock 1 :: k) H Q := run_block
def o9_40 : List AO := [{ dst := (some 37), op := .binOp .add 3 (.tmp 23) (.const (.int .i64 1)) 3, ty := 3, guard := none },
  { dst := (some 23), op := .move (.tmp 37), ty := 3, guard := none }]
def c9_40 : AC := .region o9_40 []
theorem n9_40 : Run Cx 9 T ds ro (.code c9_40 :: k) H Q = RunOps Cx 9 T ds ro o9_40 k H Q := run_region
def c9_27 : AC := .seq c9_28 c9_40
theorem n9_27 : Run Cx 9 T ds ro (.code c9_27 :: k) H Q = Run Cx 9 T ds ro (.code c9_28 :: .code c9_40 :: k) H Q := run_seq
def c9_23 : AC := .seq c9_24 c9_27
theorem n9_23 : Run Cx 9 T ds ro (.code c9_23 :: k) H Q = Run Cx 9 T ds ro (.code c9_24 :: .code c9_27 :: k) H Q := run_seq
def c9_21 : AC := .seq c9_22 c9_23
theorem n9_21 : Run Cx 9 T ds ro (.code c9_21 :: k) H Q = Run Cx 9 T ds ro (.code c9_22 :: .code c9_23 :: k) H Q := run_seq
def c9_20 : AC := .loop c9_21
theorem n9_20 : Run Cx 9 T ds ro (.code c9_20 :: k) H Q = Run Cx 9 T ds ro (.inLoop c9_21 :: k) H Q := run_loop'
def c9_19 : AC := .block 0 c9_20
theorem n9_19 : Run Cx 9 T ds ro (.code c9_19 :: k) H Q = Run Cx 9 T ds ro (.code c9_20 :: .inBlock 0 :: k) H Q := run_block
def c9_17 : AC := .seq c9_18 c9_19
theorem n9_17 : Run Cx 9 T ds ro (.code c9_17 :: k) H Q = Run Cx 9 T ds ro (.code c9_18 :: .code c9_19 :: k) H Q := run_seq
def o9_43 : List AO := [{ dst := (some 38), op := .move (.tmp 4), ty := 54, guard := none },
  { dst := (some 39), op := .call { callee := (.value (.func 23)), args := #[(.tmp 38)], argTypes := #[54] }, ty := 4, guard := none },
  { dst := (some 40), op := .unOp .not 4 (.tmp 39), ty := 4, guard := none }]
def c9_43 : AC := .region o9_43 []
theorem n9_43 : Run Cx 9 T ds ro (.code c9_43 :: k) H Q = RunOps Cx 9 T ds ro o9_43 k H Q := run_region
def o9_46 : List AO := [{ dst := (some 2), op := .assign (.const (.slice none 0 0)), ty := 22, guard := none },
  { dst := (some 3), op := .assign (.const (.int .i64 6)), ty := 27, guard := none }]
def c9_46 : AC := .region o9_46 []
theorem n9_46 : Run Cx 9 T ds ro (.code c9_46 :: k) H Q = RunOps Cx 9 T ds ro o9_46 k H Q := run_region
def c9_47 : AC := .ret
theorem n9_47 : Run Cx 9 T [] none (.code c9_47 :: k) H Q = RunRes Cx T H Q (resOf Cx 9) := run_ret
def c9_45 : AC := .seq c9_46 c9_47
theorem n9_45 : Run Cx 9 T ds ro (.code c9_45 :: k) H Q = Run Cx 9 T ds ro (.code c9_46 :: .code c9_47 :: k) H Q := run_seq
def c9_48 : AC := .skip
theorem n9_48 : Run Cx 9 T ds ro (.code c9_48 :: k) H Q = Run Cx 9 T ds ro (k) H Q := run_skip
def c9_44 : AC := .cond (.tmp 40) c9_45 c9_48
theorem n9_44 : Run Cx 9 T ds ro (.code c9_44 :: k) H Q = RunCond Cx 9 T ds ro (.tmp 40) (ev T (.tmp 40)) c9_45 c9_48 k H Q := run_condC
def c9_42 : AC := .seq c9_43 c9_44
theorem n9_42 : Run Cx 9 T ds ro (.code c9_42 :: k) H Q = Run Cx 9 T ds ro (.code c9_43 :: .code c9_44 :: k) H Q := run_seq
def o9_50 : List AO := [{ dst := (some 41), op := .move (.tmp 7), ty := 22, guard := none },
  { dst := (some 2), op := .assign (.tmp 41), ty := 22, guard := none },
  { dst := (some 3), op := .assign (.const (.int .i64 0)), ty := 27, guard := none }]
def c9_50 : AC := .region o9_50 []
theorem n9_50 : Run Cx 9 T ds ro (.code c9_50 :: k) H Q = RunOps Cx 9 T ds ro o9_50 k H Q := run_region
def c9_51 : AC := .ret
theorem n9_51 : Run Cx 9 T [] none (.code c9_51 :: k) H Q = RunRes Cx T H Q (resOf Cx 9) := run_ret
def c9_49 : AC := .seq c9_50 c9_51
theorem n9_49 : Run Cx 9 T ds ro (.code c9_49 :: k) H Q = Run Cx 9 T ds ro (.code c9_50 :: .code c9_51 :: k) H Q := run_seq
def c9_41 : AC := .seq c9_42 c9_49
theorem n9_41 : Run Cx 9 T ds ro (.code c9_41 :: k) H Q = Run Cx 9 T ds ro (.code c9_42 :: .code c9_49 :: k) H Q := run_seq
def c9_16 : AC := .seq c9_17 c9_41
theorem n9_16 : Run Cx 9 T ds ro (.code c9_16 :: k) H Q = Run Cx 9 T ds ro (.code c9_17 :: .code c9_41 :: k) H Q := run_seq
def c9_14 : AC := .seq c9_15 c9_16
theorem n9_14 : Run Cx 9 T ds ro (.code c9_14 :: k) H Q = Run Cx 9 T ds ro (.code c9_15 :: .code c9_16 :: k) H Q := run_seq
def c9_6 : AC := .seq c9_7 c9_14
theorem n9_6 : Run Cx 9 T ds ro (.code c9_6 :: k) H Q = Run Cx 9 T ds ro (.code c9_7 :: .code c9_14 :: k) H Q := run_seq
def c9_4 : AC := .seq c9_5 c9_6
theorem n9_4 : Run Cx 9 T ds ro (.code c9_4 :: k) H Q = Run Cx 9 T ds ro (.code c9_5 :: .code c9_6 :: k) H Q := run_seq
def c9_2 : AC := .seq c9_3 c9_4
theorem n9_2 : Run Cx 9 T ds ro (.code c9_2 :: k) H Q = Run Cx 9 T ds ro (.code c9_3 :: .code c9_4 :: k) H Q := run_seq
def c9_0 : AC := .seq c9_1 c9_2
theorem n9_0 : Run Cx 9 T ds ro (.code c9_0 :: k) H Q = Run Cx 9 T ds ro (.code c9_1 :: .code c9_2 :: k) H Q := run_seq
theorem body9 : bodyOf Cx 9 = some c9_0 := by kernel_rfl
theorem res9 : resOf Cx 9 = some [.tmp 2, .tmp 3] := by kernel_rfl
theorem pure9 : Cx.pure 9 = true := by kernel_rfl
-- RULES 9: n9_0, n9_1, n9_2, n9_3, n9_4, n9_5, n9_6, n9_7, n9_8, n9_9, n9_10, n9_11, n9_12, n9_13, n9_14, n9_15, n9_16, n9_17, n9_18, n9_19, n9_20, n9_21, n9_22, n9_23, n9_24, n9_25, n9_26, n9_27, n9_28, n9_29, n9_30, n9_31, n9_32, n9_33, n9_34, n9_35, n9_36, n9_37, n9_38, n9_39, n9_40, n9_41, n9_42, n9_43, n9_44, n9_45, n9_46, n9_47, n9_48, n9_49, n9_50, n9_51
def o10_1 : List AO := [{ dst := (some 4), op := .assign (.const (.bool false)), ty := 4, guard := none }]
def c10_1 : AC := .region o10_1 []
theorem n10_1 : Run Cx 10 T ds ro (.code c10_1 :: k) H Q = RunOps Cx 10 T ds ro o10_1 k H Q := run_region
def o10_4 : List AO := [{ dst := (some 6), op := .move (.tmp 0), ty := 22, guard := none },
  { dst := (some 7), op := .call { callee := (.builtin .len), args := #[(.tmp 6)], argTypes := #[22] }, ty := 3, guard := none },
  { dst := (some 8), op := .move (.tmp 1), ty := 22, guard := none },
  { dst := (some 9), op := .call { callee := (.builtin .len), args := #[(.tmp 8)], argTypes := #[22] }, ty := 3, guard := none },
  { dst := (some 10), op := .binOp .neq 3 (.tmp 7) (.tmp 9) 3, ty := 4, guard := none }]
def c10_4 : AC := .region o10_4 []
theorem n10_4 : Run Cx 10 T ds ro (.code c10_4 :: k) H Q = RunOps Cx 10 T ds ro o10_4 k H Q := run_region
def o10_7 : List AO := [{ dst := (some 4), op := .assign (.const (.bool false)), ty := 4, guard := none }]
def c10_7 : AC := .region o10_7 []
theorem n10_7 : Run Cx 10 T ds ro (.code c10_7 :: k) H Q = RunOps Cx 10 T ds ro o10_7 k H Q := run_region
def c10_8 : AC := .ret
theorem n10_8 : Run Cx 10 T [] none (.code c10_8 :: k) H Q = RunRes Cx T H Q (resOf Cx 10) := run_ret
def c10_6 : AC := .seq c10_7 c10_8
theorem n10_6 : Run Cx 10 T ds ro (.code c10_6 :: k) H Q = Run Cx 10 T ds ro (.code c10_7 :: .code c10_8 :: k) H Q := run_seq
def c10_9 : AC := .skip
theorem n10_9 : Run Cx 10 T ds ro (.code c10_9 :: k) H Q = Run Cx 10 T ds ro (k) H Q := run_skip
def c10_5 : AC := .cond (.tmp 10) c10_6 c10_9
theorem n10_5 : Run Cx 10 T ds ro (.code c10_5 :: k) H Q = RunCond Cx 10 T ds ro (.tmp 10) (ev T (.tmp 10)) c10_6 c10_9 k H Q := run_condC
def c10_3 : AC := .seq c10_4 c10_5
theorem n10_3 : Run Cx 10 T ds ro (.code c10_3 :: k) H Q = Run Cx 10 T ds ro (.code c10_4 :: .code c10_5 :: k) H Q := run_seq
def o10_12 : List AO := [{ dst := (some 5), op := .assign (.const (.int .i64 0)), ty := 3, guard := none }]
def c10_12 : AC := .region o10_12 []
theorem n10_12 : Run Cx 10 T ds ro (.code c10_12 :: k) H Q = RunOps Cx 10 T ds ro o10_12 k H Q := run_region
def o10_17 : List AO := [{ dst := (some 11), op := .move (.tmp 5), ty := 3, guard := none },
  { dst := (some 12), op := .move (.tmp 0), ty := 22, guard := none },
  { dst := (some 13), op := .call { callee := (.builtin .len), args := #[(.tmp 12)], argTypes := #[22] }, ty := 3, guard := none },
  { dst := (some 14), op := .binOp .lss 3 (.tmp 11) (.tmp 13) 3, ty := 4, guard := none }]
def c10_17 : AC := .region o10_17 []
theorem n10_17 : Run Cx 10 T ds ro (.code c10_17 :: k) H Q = RunOps Cx 10 T ds ro o10_17 k H Q := run_region
def c10_19 : AC := .skip
theorem n10_19 : Run Cx 10 T ds ro (.code c10_19 :: k) H Q = Run Cx 10 T ds ro (k) H Q := run_skip
def c10_20 : AC := .exit 0
theorem n10_20 : Run Cx 10 T ds ro (.code c10_20 :: k) H Q = RunExit Cx 10 T ds ro 0 k k H Q := run_exit_start
def c10_18 : AC := .cond (.tmp 14) c10_19 c10_20
theorem n10_18 : Run Cx 10 T ds ro (.code c10_18 :: k) H Q = RunCond Cx 10 T ds ro (.tmp 14) (ev T (.tmp 14)) c10_19 c10_20 k H Q := run_condC
def c10_16 : AC := .seq c10_17 c10_18
theorem n10_16 : Run Cx 10 T ds ro (.code c10_16 :: k) H Q = Run Cx 10 T ds ro (.code c10_17 :: .code c10_18 :: k) H Q := run_seq
def o10_24 : List AO := [{ dst := (some 17), op := .move (.tmp 0), ty := 22, guard := none },
  { dst := (some 18), op := .move (.tmp 5), ty := 3, guard := none },
  { dst := (some 19), op := .indexAddr 22 (.tmp 17) (.tmp 18), ty := 0, guard := none },
  { dst := (some 20), op := .load 38 (.tmp 19), ty := 38, guard := none },
  { dst := (some 21), op := .move (.tmp 1), ty := 22, guard := none },
  { dst := (some 22), op := .move (.tmp 5), ty := 3, guard := none },
  { dst := (some 23), op := .indexAddr 22 (.tmp 21) (.tmp 22), ty := 0, guard := none },
  { dst := (some 24), op := .load 38 (.tmp 23), ty := 38, guard := none },
  { dst := (some 25), op := .binOp .neq 38 (.tmp 20) (.tmp 24) 38, ty := 4, guard := none }]
def c10_24 : AC := .region o10_24 []
theorem n10_24 : Run Cx 10 T ds ro (.code c10_24 :: k) H Q = RunOps Cx 10 T ds ro o10_24 k H Q := run_region
def o10_27 : List AO := [{ dst := (some 4), op := .assign (.const (.bool false)), ty := 4, guard := none }]
def c10_27 : AC := .region o10_27 []
theorem n10_27 : Run Cx 10 T ds ro (.code c10_27 :: k) H Q = RunOps Cx 10 T ds ro o10_27 k H Q := run_region
def c10_28 : AC := .ret
theorem n10_28 : Run Cx 10 T [] none (.code c10_28 :: k) H Q = RunRes Cx T H Q (resOf Cx 10) := run_ret
def c10_26 : AC := .seq c10_27 c10_28
theorem n10_26 : Run Cx 10 T ds ro (.code c10_26 :: k) H Q = Run Cx 10 T ds ro (.code c10_27 :: .code c10_28 :: k) H Q := run_seq
def c10_29 : AC := .skip
theorem n10_29 : Run Cx 10 T ds ro (.code c10_29 :: k) H Q = Run Cx 10 T ds ro (k) H Q := run_skip
def c10_25 : AC := .cond (.tmp 25) c10_26 c10_29
theorem n10_25 : Run Cx 10 T ds ro (.code c10_25 :: k) H Q = RunCond Cx 10 T ds ro (.tmp 25) (ev T (.tmp 25)) c10_26 c10_29 k H Q := run_condC
def c10_23 : AC := .seq c10_24 c10_25
theorem n10_23 : Run Cx 10 T ds ro (.code c10_23 :: k) H Q = Run Cx 10 T ds ro (.code c10_24 :: .code c10_25 :: k) H Q := run_seq
def c10_22 : AC := .block 1 c10_23
theorem n10_22 : Run Cx 10 T ds ro (.code c10_22 :: k) H Q = Run Cx 10 T ds ro (.code c10_23 :: .inBlock 1 :: k) H Q := run_block
def o10_30 : List AO := [{ dst := (some 15), op := .move (.tmp 5), ty := 3, guard := none },
  { dst := (some 16), op := .binOp .add 3 (.tmp 15) (.const (.int .i64 1)) 3, ty := 3, guard := none },
  { dst := (some 5), op := .assign (.tmp 16), ty := 3, guard := none }]
def c10_30 : AC := .region o10_30 []
theorem n10_30 : Run Cx 10 T ds ro (.code c10_30 :: k) H Q = RunOps Cx 10 T ds ro o10_30 k H Q := run_region
def c10_21 : AC := .seq c10_22 c10_30
theorem n10_21 : Run Cx 10 T ds ro (.code c10_21 :: k) H Q = Run Cx 10 T ds ro (.code c10_22 :: .code c10_30 :: k) H Q := run_seq
def c10_15 : AC := .seq c10_16 c10_21
theorem n10_15 : Run Cx 10 T ds ro (.code c10_15 :: k) H Q = Run Cx 10 T ds ro (.code c10_16 :: .code c10_21 :: k) H Q := run_seq
def c10_14 : AC := .loop c10_15
theorem n10_14 : Run Cx 10 T ds ro (.code c10_14 :: k) H Q = Run Cx 10 T ds ro (.inLoop c10_15 :: k) H Q := run_loop'
def c10_13 : AC := .block 0 c10_14
theorem n10_13 : Run Cx 10 T ds ro (.code c10_13 :: k) H Q = Run Cx 10 T ds ro (.code c10_14 :: .inBlock 0 :: k) H Q := run_block
def c10_11 : AC := .seq c10_12 c10_13
theorem n10_11 : Run Cx 10 T ds ro (.code c10_11 :: k) H Q = Run Cx 10 T ds ro (.code c10_12 :: .code c10_13 :: k) H Q := run_seq
def o10_32 : List AO := [{ dst := (some 4), op := .assign (.const (.bool true)), ty := 4, guard := none }]
def c10_32 : AC := .region o10_32 []
theorem n10_32 : Run Cx 10 T ds ro (.code c10_32 :: k) H Q = RunOps Cx 10 T ds ro o10_32 k H Q := run_region
def c10_33 : AC := .ret
theorem n10_33 : Run Cx 10 T [] none (.code c10_33 :: k) H Q = RunRes Cx T H Q (resOf Cx 10) := run_ret
def c10_31 : AC := .seq c10_32 c10_33
theorem n10_31 : Run Cx 10 T ds ro (.code c10_31 :: k) H Q = Run Cx 10 T ds ro (.code c10_32 :: .code c10_33 :: k) H Q := run_seq
def c10_10 : AC := .seq c10_11 c10_31
theorem n10_10 : Run Cx 10 T ds ro (.code c10_10 :: k) H Q = Run Cx 10 T ds ro (.code c10_11 :: .code c10_31 :: k) H Q := run_seq
def c10_2 : AC := .seq c10_3 c10_10
theorem n10_2 : Run Cx 10 T ds ro (.code c10_2 :: k) H Q = Run Cx 10 T ds ro (.code c10_3 :: .code c10_10 :: k) H Q := run_seq
def c10_0 : AC := .seq c10_1 c10_2
theorem n10_0 : Run Cx 10 T ds ro (.code c10_0 :: k) H Q = Run Cx 10 T ds ro (.code c10_1 :: .code c10_2 :: k) H Q := run_seq
theorem body10 : bodyOf Cx 10 = some c10_0 := by kernel_rfl
theorem res10 : resOf Cx 10 = some [.tmp 4] := by kernel_rfl
theorem pure10 : Cx.pure 10 = true := by kernel_rfl
-- RULES 10: n10_0, n10_1, n10_2, n10_3, n10_4, n10_5, n10_6, n10_7, n10_8, n10_9, n10_10, n10_11, n10_12, n10_13, n10_14, n10_15, n10_16, n10_17, n10_18, n10_19, n10_20, n10_21, n10_22, n10_23, n10_24, n10_25, n10_26, n10_27, n10_28, n10_29, n10_30, n10_31, n10_32, n10_33
def o12_1 : List AO := [{ dst := (some 4), op := .assign (.const (.int .i64 0)), ty := 3, guard := none },
  { dst := (some 5), op := .assign (.const .nilIface), ty := 44, guard := none }]
def c12_1 : AC := .region o12_1 []
theorem n12_1 : Run Cx 12 T ds ro (.code c12_1 :: k) H Q = RunOps Cx 12 T ds ro o12_1 k H Q := run_region
def o12_3 : List AO := [{ dst := (some 6), op := .move (.tmp 0), ty := 39, guard := none },
  { dst := (some 7), op := .call { callee := (.value (.func 27)), args := #[(.tmp 6)], argTypes := #[39] }, ty := 0, guard := none }]
def c12_3 : AC := .region o12_3 []
theorem n12_3 : Run Cx 12 T ds ro (.code c12_3 :: k) H Q = RunOps Cx 12 T ds ro o12_3 k H Q := run_region
def o12_5 : List AO := [{ dst := (some 8), op := .move (.tmp 0), ty := 39, guard := none },
  { dst := (some 9), op := .move (.tmp 0), ty := 39, guard := none },
  { dst := (some 10), op := .nilCheck (.tmp 9), ty := 0, guard := none },
  { dst := (some 11), op := .fieldAddr 42 (.tmp 10) 1, ty := 0, guard := none },
  { dst := (some 12), op := .load 40 (.tmp 11), ty := 40, guard := none },
  { dst := (some 13), op := .move (.tmp 1), ty := 9, guard := none },
  { dst := (some 14), op := .call { callee := (.builtin .append), args := #[(.tmp 12), (.tmp 13)], argTypes := #[40, 9] }, ty := 40, guard := none },
  { dst := (some 15), op := .nilCheck (.tmp 8), ty := 0, guard := none },
  { dst := (some 16), op := .fieldAddr 42 (.tmp 15) 1, ty := 0, guard := none },
  { dst := none, op := .store 40 (.tmp 16) (.tmp 14), ty := 0, guard := none }]
def c12_5 : AC := .region o12_5 []
theorem n12_5 : Run Cx 12 T ds ro (.code c12_5 :: k) H Q = RunOps Cx 12 T ds ro o12_5 k H Q := run_region
def o12_7 : List AO := [{ dst := (some 17), op := .move (.tmp 1), ty := 9, guard := none },
  { dst := (some 18), op := .call { callee := (.builtin .len), args := #[(.tmp 17)], argTypes := #[9] }, ty := 3, guard := none },
  { dst := (some 4), op := .assign (.tmp 18), ty := 3, guard := none },
  { dst := (some 5), op := .assign (.const .nilIface), ty := 44, guard := none }]
def c12_7 : AC := .region o12_7 []
theorem n12_7 : Run Cx 12 T ds ro (.code c12_7 :: k) H Q = RunOps Cx 12 T ds ro o12_7 k H Q := run_region
def c12_8 : AC := .ret
theorem n12_8 : Run Cx 12 T [] none (.code c12_8 :: k) H Q = RunRes Cx T H Q (resOf Cx 12) := run_ret
def c12_6 : AC := .seq c12_7 c12_8
theorem n12_6 : Run Cx 12 T ds ro (.code c12_6 :: k) H Q = Run Cx 12 T ds ro (.code c12_7 :: .code c12_8 :: k) H Q := run_seq
def c12_4 : AC := .seq c12_5 c12_6
theorem n12_4 : Run Cx 12 T ds ro (.code c12_4 :: k) H Q = Run Cx 12 T ds ro (.code c12_5 :: .code c12_6 :: k) H Q := run_seq
def c12_2 : AC := .seq c12_3 c12_4
theorem n12_2 : Run Cx 12 T ds ro (.code c12_2 :: k) H Q = Run Cx 12 T ds ro (.code c12_3 :: .code c12_4 :: k) H Q := run_seq
def c12_0 : AC := .seq c12_1 c12_2
theorem n12_0 : Run Cx 12 T ds ro (.code c12_0 :: k) H Q = Run Cx 12 T ds ro (.code c12_1 :: .code c12_2 :: k) H Q := run_seq
theorem body12 : bodyOf Cx 12 = some c12_0 := by kernel_rfl
theorem res12 : resOf Cx 12 = some [.tmp 4, .tmp 5] := by kernel_rfl
theorem pure12 : Cx.pure 12 = false := by kernel_rfl
-- RULES 12: n12_0, n12_1, n12_2, n12_3, n12_4, n12_5, n12_6, n12_7, n12_8
def o13_1 : List AO := [{ dst := (some 2), op := .assign (.const (.string ⟨#[]⟩)), ty := 9, guard := none }]
def c13_1 : AC := .region o13_1 []
theorem n13_1 : Run Cx 13 T ds ro (.code c13_1 :: k) H Q = RunOps Cx 13 T ds ro o13_1 k H Q := run_region
def o13_4 : List AO := [{ dst := (some 4), op := .move (.tmp 0), ty := 3, guard := none },
  { dst := (some 5), op := .binOp .lss 3 (.tmp 4) (.const (.int .i64 0)) 3, ty := 4, guard := none },
  { dst := (some 6), op := .move (.tmp 5), ty := 4, guard := none },
  { dst := (some 7), op := .move (.tmp 0), ty := 3, guard := (some (6, false)) },
  { dst := (some 8), op := .binOp .gtr 3 (.tmp 7) (.const (.int .i64 9007199254740991)) 3, ty := 4, guard := (some (6, false)) },
  { dst := (some 9), op := .pick (.tmp 6) (.const (.bool true)) (.tmp 8), ty := 4, guard := none }]
def c13_4 : AC := .region o13_4 []
theorem n13_4 : Run Cx 13 T ds ro (.code c13_4 :: k) H Q = RunOps Cx 13 T ds ro o13_4 k H Q := run_region
def o13_7 : List AO := [{ dst := (some 2), op := .assign (.const (.string ⟨#[]⟩)), ty := 9, guard := none }]
def c13_7 : AC := .region o13_7 []
theorem n13_7 : Run Cx 13 T ds ro (.code c13_7 :: k) H Q = RunOps Cx 13 T ds ro o13_7 k H Q := run_region
def c13_8 : AC := .ret
theorem n13_8 : Run Cx 13 T [] none (.code c13_8 :: k) H Q = RunRes Cx T H Q (resOf Cx 13) := run_ret
def c13_6 : AC := .seq c13_7 c13_8
theorem n13_6 : Run Cx 13 T ds ro (.code c13_6 :: k) H Q = Run Cx 13 T ds ro (.code c13_7 :: .code c13_8 :: k) H Q := run_seq
def c13_9 : AC := .skip
theorem n13_9 : Run Cx 13 T ds ro (.code c13_9 :: k) H Q = Run Cx 13 T ds ro (k) H Q := run_skip
def c13_5 : AC := .cond (.tmp 9) c13_6 c13_9
theorem n13_5 : Run Cx 13 T ds ro (.code c13_5 :: k) H Q = RunCond Cx 13 T ds ro (.tmp 9) (ev T (.tmp 9)) c13_6 c13_9 k H Q := run_condC
def c13_3 : AC := .seq c13_4 c13_5
theorem n13_3 : Run Cx 13 T ds ro (.code c13_3 :: k) H Q = Run Cx 13 T ds ro (.code c13_4 :: .code c13_5 :: k) H Q := run_seq
def o13_11 : List AO := [{ dst := (some 3), op := .assign (.const (.slice none 0 0)), ty := 40, guard := none }]
def c13_11 : AC := .region o13_11 []
theorem n13_11 : Run Cx 13 T ds ro (.code c13_11 :: k) H Q = RunOps Cx 13 T ds ro o13_11 k H Q := run_region
def o13_17 : List AO := [{ dst := (some 10), op := .move (.tmp 0), ty := 3, guard := none },
  { dst := (some 11), op := .binOp .geq 3 (.tmp 10) (.const (.int .i64 128)) 3, ty := 4, guard := none }]
def c13_17 : AC := .region o13_17 []
theorem n13_17 : Run Cx 13 T ds ro (.code c13_17 :: k) H Q = RunOps Cx 13 T ds ro o13_17 k H Q := run_region
def c13_19 : AC := .skip
theorem n13_19 : Run Cx 13 T ds ro (.code c13_19 :: k) H Q = Run Cx 13 T ds ro (k) H Q := run_skip
def c13_20 : AC := .exit 0
theorem n13_20 : Run Cx 13 T ds ro (.code c13_20 :: k) H Q = RunExit Cx 13 T ds ro 0 k k H Q := run_exit_start
def c13_18 : AC := .cond (.tmp 11) c13_19 c13_20
theorem n13_18 : Run Cx 13 T ds ro (.code c13_18 :: k) H Q = RunCond Cx 13 T ds ro (.tmp 11) (ev T (.tmp 11)) c13_19 c13_20 k H Q := run_condC
def c13_16 : AC := .seq c13_17 c13_18
theorem n13_16 : Run Cx 13 T ds ro (.code c13_16 :: k) H Q = Run Cx 13 T ds ro (.code c13_17 :: .code c13_18 :: k) H Q := run_seq
def o13_23 : List AO := [{ dst := (some 12), op := .move (.tmp 3), ty := 40, guard := none },
  { dst := (some 13), op := .move (.tmp 0), ty := 3, guard := none },
  { dst := (some 14), op := .binOp .rem 3 (.tmp 13) (.const (.int .i64 128)) 3, ty := 3, guard := none },
  { dst := (some 15), op := .binOp .add 3 (.tmp 14) (.const (.int .i64 128)) 3, ty := 3, guard := none },
  { dst := (some 16), op := .convert 3 5 (.tmp 15), ty := 5, guard := none },
  { dst := (some 17), op := .buildSlice 40 1 #[(0, (.tmp 16))], ty := 40, guard := none },
  { dst := (some 18), op := .call { callee := (.builtin .append), args := #[(.tmp 12), (.tmp 17)], argTypes := #[40, 40] }, ty := 40, guard := none },
  { dst := (some 3), op := .assign (.tmp 18), ty := 40, guard := none }]
def c13_23 : AC := .region o13_23 []
theorem n13_23 : Run Cx 13 T ds ro (.code c13_23 :: k) H Q = RunOps Cx 13 T ds ro o13_23 k H Q := run_region
def o13_24 : List AO := [{ dst := (some 19), op := .move (.tmp 0), ty := 3, guard := none },
  { dst := (some 20), op := .binOp .quo 3 (.tmp 19) (.const (.int .i64 128)) 3, ty := 3, guard := none },
  { dst := (some 0), op := .assign (.tmp 20), ty := 3, guard := none }]
def c13_24 : AC := .region o13_24 []
theorem n13_24 : Run Cx 13 T ds ro (.code c13_24 :: k) H Q = RunOps Cx 13 T ds ro o13_24 k H Q := run_region
def c13_22 : AC := .seq c13_23 c13_24
theorem n13_22 : Run Cx 13 T ds ro (.code c13_22 :: k) H Q = Run Cx 13 T ds ro (.code c13_23 :: .code c13_24 :: k) H Q := run_seq
def c13_21 : AC := .block 1 c13_22
theorem n13_21 : Run Cx 13 T ds ro (.code c13_21 :: k) H Q = Run Cx 13 T ds ro (.code c13_22 :: .inBlock 1 :: k) H Q := run_block
def c13_15 : AC := .seq c13_16 c13_21
theorem n13_15 : Run Cx 13 T ds ro (.code c13_15 :: k) H Q = Run Cx 13 T ds ro (.code c13_16 :: .code c13_21 :: k) H Q := run_seq
def c13_14 : AC := .loop c13_15
theorem n13_14 : Run Cx 13 T ds ro (.code c13_14 :: k) H Q = Run Cx 13 T ds ro (.inLoop c13_15 :: k) H Q := run_loop'
def c13_13 : AC := .block 0 c13_14
theorem n13_13 : Run Cx 13 T ds ro (.code c13_13 :: k) H Q = Run Cx 13 T ds ro (.code c13_14 :: .inBlock 0 :: k) H Q := run_block
def o13_26 : List AO := [{ dst := (some 21), op := .move (.tmp 3), ty := 40, guard := none },
  { dst := (some 22), op := .move (.tmp 0), ty := 3, guard := none },
  { dst := (some 23), op := .convert 3 5 (.tmp 22), ty := 5, guard := none },
  { dst := (some 24), op := .buildSlice 40 1 #[(0, (.tmp 23))], ty := 40, guard := none },
  { dst := (some 25), op := .call { callee := (.builtin .append), args := #[(.tmp 21), (.tmp 24)], argTypes := #[40, 40] }, ty := 40, guard := none },
  { dst := (some 26), op := .convert 40 9 (.tmp 25), ty := 9, guard := none },
  { dst := (some 2), op := .assign (.tmp 26), ty := 9, guard := none }]
def c13_26 : AC := .region o13_26 []
theorem n13_26 : Run Cx 13 T ds ro (.code c13_26 :: k) H Q = RunOps Cx 13 T ds ro o13_26 k H Q := run_region
def c13_27 : AC := .ret
theorem n13_27 : Run Cx 13 T [] none (.code c13_27 :: k) H Q = RunRes Cx T H Q (resOf Cx 13) := run_ret
def c13_25 : AC := .seq c13_26 c13_27
theorem n13_25 : Run Cx 13 T ds ro (.code c13_25 :: k) H Q = Run Cx 13 T ds ro (.code c13_26 :: .code c13_27 :: k) H Q := run_seq
def c13_12 : AC := .seq c13_13 c13_25
theorem n13_12 : Run Cx 13 T ds ro (.code c13_12 :: k) H Q = Run Cx 13 T ds ro (.code c13_13 :: .code c13_25 :: k) H Q := run_seq
def c13_10 : AC := .seq c13_11 c13_12
theorem n13_10 : Run Cx 13 T ds ro (.code c13_10 :: k) H Q = Run Cx 13 T ds ro (.code c13_11 :: .code c13_12 :: k) H Q := run_seq
def c13_2 : AC := .seq c13_3 c13_10
theorem n13_2 : Run Cx 13 T ds ro (.code c13_2 :: k) H Q = Run Cx 13 T ds ro (.code c13_3 :: .code c13_10 :: k) H Q := run_seq
def c13_0 : AC := .seq c13_1 c13_2
theorem n13_0 : Run Cx 13 T ds ro (.code c13_0 :: k) H Q = Run Cx 13 T ds ro (.code c13_1 :: .code c13_2 :: k) H Q := run_seq
theorem body13 : bodyOf Cx 13 = some c13_0 := by kernel_rfl
theorem res13 : resOf Cx 13 = some [.tmp 2] := by kernel_rfl
theorem pure13 : Cx.pure 13 = true := by kernel_rfl
-- RULES 13: n13_0, n13_1, n13_2, n13_3, n13_4, n13_5, n13_6, n13_7, n13_8, n13_9, n13_10, n13_11, n13_12, n13_13, n13_14, n13_15, n13_16, n13_17, n13_18, n13_19, n13_20, n13_21, n13_22, n13_23, n13_24, n13_25, n13_26, n13_27
def o14_1 : List AO := [{ dst := (some 2), op := .assign (.const (.string ⟨#[]⟩)), ty := 9, guard := none }]
def c14_1 : AC := .region o14_1 []
theorem n14_1 : Run Cx 14 T ds ro (.code c14_1 :: k) H Q = RunOps Cx 14 T ds ro o14_1 k H Q := run_region
def o14_3 : List AO := [{ dst := (some 3), op := .move (.tmp 0), ty := 9, guard := none },
  { dst := (some 4), op := .call { callee := (.builtin .len), args := #[(.tmp 3)], argTypes := #[9] }, ty := 3, guard := none },
  { dst := (some 5), op := .call { callee := (.value (.func 13)), args := #[(.tmp 4)], argTypes := #[3] }, ty := 9, guard := none },
  { dst := (some 6), op := .move (.tmp 0), ty := 9, guard := none },
  { dst := (some 7), op := .binOp .add 9 (.tmp 5) (.tmp 6) 9, ty := 9, guard := none },
  { dst := (some 2), op := .assign (.tmp 7), ty := 9, guard := none }]
def c14_3 : AC := .region o14_3 []
theorem n14_3 : Run Cx 14 T ds ro (.code c14_3 :: k) H Q = RunOps Cx 14 T ds ro o14_3 k H Q := run_region
def c14_4 : AC := .ret
theorem n14_4 : Run Cx 14 T [] none (.code c14_4 :: k) H Q = RunRes Cx T H Q (resOf Cx 14) := run_ret
def c14_2 : AC := .seq c14_3 c14_4
theorem n14_2 : Run Cx 14 T ds ro (.code c14_2 :: k) H Q = Run Cx 14 T ds ro (.code c14_3 :: .code c14_4 :: k) H Q := run_seq
def c14_0 : AC := .seq c14_1 c14_2
theorem n14_0 : Run Cx 14 T ds ro (.code c14_0 :: k) H Q = Run Cx 14 T ds ro (.code c14_1 :: .code c14_2 :: k) H Q := run_seq
theorem body14 : bodyOf Cx 14 = some c14_0 := by kernel_rfl
theorem res14 : resOf Cx 14 = some [.tmp 2] := by kernel_rfl
theorem pure14 : Cx.pure 14 = true := by kernel_rfl
-- RULES 14: n14_0, n14_1, n14_2, n14_3, n14_4
def o15_1 : List AO := [{ dst := (some 1), op := .box 36 (.tmp 0), ty := 0, guard := none },
  { dst := (some 2), op := .assign (.const (.string ⟨#[]⟩)), ty := 9, guard := none }]
def c15_1 : AC := .region o15_1 []
theorem n15_1 : Run Cx 15 T ds ro (.code c15_1 :: k) H Q = RunOps Cx 15 T ds ro o15_1 k H Q := run_region
def o15_4 : List AO := [{ dst := (some 5), op := .load 36 (.tmp 1), ty := 36, guard := none },
  { dst := (some 6), op := .call { callee := (.value (.func 19)), args := #[(.tmp 5)], argTypes := #[36] }, ty := 4, guard := none },
  { dst := (some 7), op := .unOp .not 4 (.tmp 6), ty := 4, guard := none }]
def c15_4 : AC := .region o15_4 []
theorem n15_4 : Run Cx 15 T ds ro (.code c15_4 :: k) H Q = RunOps Cx 15 T ds ro o15_4 k H Q := run_region
def o15_7 : List AO := [{ dst := (some 2), op := .assign (.const (.string ⟨#[]⟩)), ty := 9, guard := none }]
def c15_7 : AC := .region o15_7 []
theorem n15_7 : Run Cx 15 T ds ro (.code c15_7 :: k) H Q = RunOps Cx 15 T ds ro o15_7 k H Q := run_region
def c15_8 : AC := .ret
theorem n15_8 : Run Cx 15 T [] none (.code c15_8 :: k) H Q = RunRes Cx T H Q (resOf Cx 15) := run_ret
def c15_6 : AC := .seq c15_7 c15_8
theorem n15_6 : Run Cx 15 T ds ro (.code c15_6 :: k) H Q = Run Cx 15 T ds ro (.code c15_7 :: .code c15_8 :: k) H Q := run_seq
def c15_9 : AC := .skip
theorem n15_9 : Run Cx 15 T ds ro (.code c15_9 :: k) H Q = Run Cx 15 T ds ro (k) H Q := run_skip
def c15_5 : AC := .cond (.tmp 7) c15_6 c15_9
theorem n15_5 : Run Cx 15 T ds ro (.code c15_5 :: k) H Q = RunCond Cx 15 T ds ro (.tmp 7) (ev T (.tmp 7)) c15_6 c15_9 k H Q := run_condC
def c15_3 : AC := .seq c15_4 c15_5
theorem n15_3 : Run Cx 15 T ds ro (.code c15_3 :: k) H Q = Run Cx 15 T ds ro (.code c15_4 :: .code c15_5 :: k) H Q := run_seq
def o15_11 : List AO := [{ dst := (some 8), op := .fieldAddr 36 (.tmp 1) 0, ty := 0, guard := none },
  { dst := (some 9), op := .load 3 (.tmp 8), ty := 3, guard := none },
  { dst := (some 10), op := .call { callee := (.value (.func 13)), args := #[(.tmp 9)], argTypes := #[3] }, ty := 9, guard := none },
  { dst := (some 3), op := .assign (.tmp 10), ty := 9, guard := none }]
def c15_11 : AC := .region o15_11 []
theorem n15_11 : Run Cx 15 T ds ro (.code c15_11 :: k) H Q = RunOps Cx 15 T ds ro o15_11 k H Q := run_region
def o15_14 : List AO := [{ dst := (some 11), op := .fieldAddr 36 (.tmp 1) 0, ty := 0, guard := none },
  { dst := (some 12), op := .load 3 (.tmp 11), ty := 3, guard := none }]
def c15_14 : AC := .region o15_14 []
theorem n15_14 : Run Cx 15 T ds ro (.code c15_14 :: k) H Q = RunOps Cx 15 T ds ro o15_14 k H Q := run_region
def o15_17 : List AO := [{ dst := (some 14), op := .binOp .eql 3 (.tmp 12) (.const (.int .i64 0)) 3, ty := 4, guard := none },
  { dst := (some 13), op := .assign (.tmp 14), ty := 4, guard := none }]
def c15_17 : AC := .region o15_17 []
theorem n15_17 : Run Cx 15 T ds ro (.code c15_17 :: k) H Q = RunOps Cx 15 T ds ro o15_17 k H Q := run_region
def o15_20 : List AO := [{ dst := (some 15), op := .fieldAddr 36 (.tmp 1) 1, ty := 0, guard := none },
  { dst := (some 16), op := .load 3 (.tmp 15), ty := 3, guard := none },
  { dst := (some 17), op := .binOp .rem 3 (.tmp 16) (.const (.int .i64 134217728)) 3, ty := 3, guard := none },
  { dst := (some 18), op := .binOp .add 3 (.tmp 17) (.const (.int .i64 134217728)) 3, ty := 3, guard := none },
  { dst := (some 19), op := .binOp .rem 3 (.tmp 18) (.const (.int .i64 134217728)) 3, ty := 3, guard := none },
  { dst := (some 4), op := .assign (.tmp 19), ty := 3, guard := none }]
def c15_20 : AC := .region o15_20 []
theorem n15_20 : Run Cx 15 T ds ro (.code c15_20 :: k) H Q = RunOps Cx 15 T ds ro o15_20 k H Q := run_region
def o15_22 : List AO := [{ dst := (some 20), op := .move (.tmp 3), ty := 9, guard := none },
  { dst := (some 21), op := .fieldAddr 36 (.tmp 1) 1, ty := 0, guard := none },
  { dst := (some 22), op := .load 3 (.tmp 21), ty := 3, guard := none },
  { dst := (some 23), op := .move (.tmp 4), ty := 3, guard := none },
  { dst := (some 24), op := .binOp .sub 3 (.tmp 22) (.tmp 23) 3, ty := 3, guard := none },
  { dst := (some 25), op := .binOp .quo 3 (.tmp 24) (.const (.int .i64 134217728)) 3, ty := 3, guard := none },
  { dst := (some 26), op := .call { callee := (.value (.func 28)), args := #[(.tmp 25)], argTypes := #[3] }, ty := 9, guard := none },
  { dst := (some 27), op := .binOp .add 9 (.tmp 20) (.tmp 26) 9, ty := 9, guard := none },
  { dst := (some 28), op := .move (.tmp 4), ty := 3, guard := none },
  { dst := (some 29), op := .call { callee := (.value (.func 13)), args := #[(.tmp 28)], argTypes := #[3] }, ty := 9, guard := none },
  { dst := (some 30), op := .binOp .add 9 (.tmp 27) (.tmp 29) 9, ty := 9, guard := none },
  { dst := (some 2), op := .assign (.tmp 30), ty := 9, guard := none }]
def c15_22 : AC := .region o15_22 []
theorem n15_22 : Run Cx 15 T ds ro (.code c15_22 :: k) H Q = RunOps Cx 15 T ds ro o15_22 k H Q := run_region
def c15_23 : AC := .ret
theorem n15_23 : Run Cx 15 T [] none (.code c15_23 :: k) H Q = RunRes Cx T H Q (resOf Cx 15) := run_ret
def c15_21 : AC := .seq c15_22 c15_23
theorem n15_21 : Run Cx 15 T ds ro (.code c15_21 :: k) H Q = Run Cx 15 T ds ro (.code c15_22 :: .code c15_23 :: k) H Q := run_seq
def c15_19 : AC := .seq c15_20 c15_21
theorem n15_19 : Run Cx 15 T ds ro (.code c15_19 :: k) H Q = Run Cx 15 T ds ro (.code c15_20 :: .code c15_21 :: k) H Q := run_seq
def o15_25 : List AO := [{ dst := (some 32), op := .binOp .eql 3 (.tmp 12) (.const (.int .i64 1)) 3, ty := 4, guard := none },
  { dst := (some 31), op := .assign (.tmp 32), ty := 4, guard := none }]
def c15_25 : AC := .region o15_25 []
theorem n15_25 : Run Cx 15 T ds ro (.code c15_25 :: k) H Q = RunOps Cx 15 T ds ro o15_25 k H Q := run_region
def o15_28 : List AO := [{ dst := (some 33), op := .move (.tmp 3), ty := 9, guard := none },
  { dst := (some 34), op := .fieldAddr 36 (.tmp 1) 2, ty := 0, guard := none },
  { dst := (some 35), op := .load 9 (.tmp 34), ty := 9, guard := none },
  { dst := (some 36), op := .call { callee := (.value (.func 14)), args := #[(.tmp 35)], argTypes := #[9] }, ty := 9, guard := none },
  { dst := (some 37), op := .binOp .add 9 (.tmp 33) (.tmp 36) 9, ty := 9, guard := none },
  { dst := (some 2), op := .assign (.tmp 37), ty := 9, guard := none }]
def c15_28 : AC := .region o15_28 []
theorem n15_28 : Run Cx 15 T ds ro (.code c15_28 :: k) H Q = RunOps Cx 15 T ds ro o15_28 k H Q := run_region
def c15_29 : AC := .ret
theorem n15_29 : Run Cx 15 T [] none (.code c15_29 :: k) H Q = RunRes Cx T H Q (resOf Cx 15) := run_ret
def c15_27 : AC := .seq c15_28 c15_29
theorem n15_27 : Run Cx 15 T ds ro (.code c15_27 :: k) H Q = Run Cx 15 T ds ro (.code c15_28 :: .code c15_29 :: k) H Q := run_seq
def c15_30 : AC := .skip
theorem n15_30 : Run Cx 15 T ds ro (.code c15_30 :: k) H Q = Run Cx 15 T ds ro (k) H Q := run_skip
def c15_26 : AC := .cond (.tmp 31) c15_27 c15_30
theorem n15_26 : Run Cx 15 T ds ro (.code c15_26 :: k) H Q = RunCond Cx 15 T ds ro (.tmp 31) (ev T (.tmp 31)) c15_27 c15_30 k H Q := run_condC
def c15_24 : AC := .seq c15_25 c15_26
theorem n15_24 : Run Cx 15 T ds ro (.code c15_24 :: k) H Q = Run Cx 15 T ds ro (.code c15_25 :: .code c15_26 :: k) H Q := run_seq
def c15_18 : AC := .cond (.tmp 13) c15_19 c15_24
theorem n15_18 : Run Cx 15 T ds ro (.code c15_18 :: k) H Q = RunCond Cx 15 T ds ro (.tmp 13) (ev T (.tmp 13)) c15_19 c15_24 k H Q := run_condC
def c15_16 : AC := .seq c15_17 c15_18
theorem n15_16 : Run Cx 15 T ds ro (.code c15_16 :: k) H Q = Run Cx 15 T ds ro (.code c15_17 :: .code c15_18 :: k) H Q := run_seq
def c15_15 : AC := .block 0 c15_16
theorem n15_15 : Run Cx 15 T ds ro (.code c15_15 :: k) H Q = Run Cx 15 T ds ro (.code c15_16 :: .inBlock 0 :: k) H Q := run_block
def c15_13 : AC := .seq c15_14 c15_15
theorem n15_13 : Run Cx 15 T ds ro (.code c15_13 :: k) H Q = Run Cx 15 T ds ro (.code c15_14 :: .code c15_15 :: k) H Q := run_seq
def o15_32 : List AO := [{ dst := (some 38), op := .move (.tmp 3), ty := 9, guard := none },
  { dst := (some 39), op := .fieldAddr 36 (.tmp 1) 3, ty := 0, guard := none },
  { dst := (some 40), op := .fieldAddr 34 (.tmp 39) 0, ty := 0, guard := none },
  { dst := (some 41), op := .load 3 (.tmp 40), ty := 3, guard := none },
  { dst := (some 42), op := .call { callee := (.value (.func 28)), args := #[(.tmp 41)], argTypes := #[3] }, ty := 9, guard := none },
  { dst := (some 43), op := .binOp .add 9 (.tmp 38) (.tmp 42) 9, ty := 9, guard := none },
  { dst := (some 44), op := .fieldAddr 36 (.tmp 1) 3, ty := 0, guard := none },
  { dst := (some 45), op := .fieldAddr 34 (.tmp 44) 1, ty := 0, guard := none },
  { dst := (some 46), op := .load 3 (.tmp 45), ty := 3, guard := none },
  { dst := (some 47), op := .call { callee := (.value (.func 28)), args := #[(.tmp 46)], argTypes := #[3] }, ty := 9, guard := none },
  { dst := (some 48), op := .binOp .add 9 (.tmp 43) (.tmp 47) 9, ty := 9, guard := none },
  { dst := (some 2), op := .assign (.tmp 48), ty := 9, guard := none }]
def c15_32 : AC := .region o15_32 []
theorem n15_32 : Run Cx 15 T ds ro (.code c15_32 :: k) H Q = RunOps Cx 15 T ds ro o15_32 k H Q := run_region
def c15_33 : AC := .ret
theorem n15_33 : Run Cx 15 T [] none (.code c15_33 :: k) H Q = RunRes Cx T H Q (resOf Cx 15) := run_ret
def c15_31 : AC := .seq c15_32 c15_33
theorem n15_31 : Run Cx 15 T ds ro (.code c15_31 :: k) H Q = Run Cx 15 T ds ro (.code c15_32 :: .code c15_33 :: k) H Q := run_seq
def c15_12 : AC := .seq c15_13 c15_31
theorem n15_12 : Run Cx 15 T ds ro (.code c15_12 :: k) H Q = Run Cx 15 T ds ro (.code c15_13 :: .code c15_31 :: k) H Q := run_seq
def c15_10 : AC := .seq c15_11 c15_12
theorem n15_10 : Run Cx 15 T ds ro (.code c15_10 :: k) H Q = Run Cx 15 T ds ro (.code c15_11 :: .code c15_12 :: k) H Q := run_seq
def c15_2 : AC := .seq c15_3 c15_10
theorem n15_2 : Run Cx 15 T ds ro (.code c15_2 :: k) H Q = Run Cx 15 T ds ro (.code c15_3 :: .code c15_10 :: k) H Q := run_seq
def c15_0 : AC := .seq c15_1 c15_2
theorem n15_0 : Run Cx 15 T ds ro (.code c15_0 :: k) H Q = Run Cx 15 T ds ro (.code c15_1 :: .code c15_2 :: k) H Q := run_seq
theorem body15 : bodyOf Cx 15 = some c15_0 := by kernel_rfl
theorem res15 : resOf Cx 15 = some [.tmp 2] := by kernel_rfl
theorem pure15 : Cx.pure 15 = true := by kernel_rfl
-- RULES 15: n15_0, n15_1, n15_2, n15_3, n15_4, n15_5, n15_6, n15_7, n15_8, n15_9, n15_10, n15_11, n15_12, n15_13, n15_14, n15_15, n15_16, n15_17, n15_18, n15_19, n15_20, n15_21, n15_22, n15_23, n15_24, n15_25, n15_26, n15_27, n15_28, n15_29, n15_30, n15_31, n15_32, n15_33
def o17_1 : List AO := [{ dst := (some 4), op := .assign (.const (.bool false)), ty := 4, guard := none }]
def c17_1 : AC := .region o17_1 []
theorem n17_1 : Run Cx 17 T ds ro (.code c17_1 :: k) H Q = RunOps Cx 17 T ds ro o17_1 k H Q := run_region
def o17_3 : List AO := [{ dst := (some 5), op := .move (.tmp 0), ty := 22, guard := none },
  { dst := (some 6), op := .move (.tmp 1), ty := 53, guard := none },
  { dst := (some 7), op := .call { callee := (.value (.func 29)), args := #[(.tmp 5), (.tmp 6)], argTypes := #[22, 53] }, ty := 3, guard := none },
  { dst := (some 8), op := .binOp .geq 3 (.tmp 7) (.const (.int .i64 0)) 3, ty := 4, guard := none },
  { dst := (some 4), op := .assign (.tmp 8), ty := 4, guard := none }]
def c17_3 : AC := .region o17_3 []
theorem n17_3 : Run Cx 17 T ds ro (.code c17_3 :: k) H Q = RunOps Cx 17 T ds ro o17_3 k H Q := run_region
def c17_4 : AC := .ret
theorem n17_4 : Run Cx 17 T [] none (.code c17_4 :: k) H Q = RunRes Cx T H Q (resOf Cx 17) := run_ret
def c17_2 : AC := .seq c17_3 c17_4
theorem n17_2 : Run Cx 17 T ds ro (.code c17_2 :: k) H Q = Run Cx 17 T ds ro (.code c17_3 :: .code c17_4 :: k) H Q := run_seq
def c17_0 : AC := .seq c17_1 c17_2
theorem n17_0 : Run Cx 17 T ds ro (.code c17_0 :: k) H Q = Run Cx 17 T ds ro (.code c17_1 :: .code c17_2 :: k) H Q := run_seq
theorem body17 : bodyOf Cx 17 = some c17_0 := by kernel_rfl
theorem res17 : resOf Cx 17 = some [.tmp 4] := by kernel_rfl
theorem pure17 : Cx.pure 17 = false := by kernel_rfl
-- RULES 17: n17_0, n17_1, n17_2, n17_3, n17_4
def o18_1 : List AO := [{ dst := (some 1), op := .box 38 (.tmp 0), ty := 0, guard := none },
  { dst := (some 2), op := .assign (.const (.bool false)), ty := 4, guard := none }]
def c18_1 : AC := .region o18_1 []
theorem n18_1 : Run Cx 18 T ds ro (.code c18_1 :: k) H Q = RunOps Cx 18 T ds ro o18_1 k H Q := run_region
def o18_3 : List AO := [{ dst := (some 3), op := .fieldAddr 38 (.tmp 1) 0, ty := 0, guard := none },
  { dst := (some 4), op := .load 9 (.tmp 3), ty := 9, guard := none },
  { dst := (some 5), op := .call { callee := (.builtin .len), args := #[(.tmp 4)], argTypes := #[9] }, ty := 3, guard := none },
  { dst := (some 6), op := .binOp .gtr 3 (.tmp 5) (.const (.int .i64 64)) 3, ty := 4, guard := none },
  { dst := (some 7), op := .move (.tmp 6), ty := 4, guard := none },
  { dst := (some 8), op := .fieldAddr 38 (.tmp 1) 1, ty := 0, guard := (some (7, false)) },
  { dst := (some 9), op := .load 36 (.tmp 8), ty := 36, guard := (some (7, false)) },
  { dst := (some 10), op := .call { callee := (.value (.func 19)), args := #[(.tmp 9)], argTypes := #[36] }, ty := 4, guard := (some (7, false)) },
  { dst := (some 11), op := .unOp .not 4 (.tmp 10), ty := 4, guard := (some (7, false)) },
  { dst := (some 12), op := .pick (.tmp 7) (.const (.bool true)) (.tmp 11), ty := 4, guard := none },
  { dst := (some 2), op := .assign (.tmp 12), ty := 4, guard := none }]
def c18_3 : AC := .region o18_3 []
theorem n18_3 : Run Cx 18 T ds ro (.code c18_3 :: k) H Q = RunOps Cx 18 T ds ro o18_3 k H Q := run_region
def c18_4 : AC := .ret
theorem n18_4 : Run Cx 18 T [] none (.code c18_4 :: k) H Q = RunRes Cx T H Q (resOf Cx 18) := run_ret
def c18_2 : AC := .seq c18_3 c18_4
theorem n18_2 : Run Cx 18 T ds ro (.code c18_2 :: k) H Q = Run Cx 18 T ds ro (.code c18_3 :: .code c18_4 :: k) H Q := run_seq
def c18_0 : AC := .seq c18_1 c18_2
theorem n18_0 : Run Cx 18 T ds ro (.code c18_0 :: k) H Q = Run Cx 18 T ds ro (.code c18_1 :: .code c18_2 :: k) H Q := run_seq
theorem body18 : bodyOf Cx 18 = some c18_0 := by kernel_rfl
theorem res18 : resOf Cx 18 = some [.tmp 2] := by kernel_rfl
theorem pure18 : Cx.pure 18 = true := by kernel_rfl
-- RULES 18: n18_0, n18_1, n18_2, n18_3, n18_4
def o19_1 : List AO := [{ dst := (some 1), op := .box 36 (.tmp 0), ty := 0, guard := none },
  { dst := (some 2), op := .assign (.const (.bool false)), ty := 4, guard := none }]
def c19_1 : AC := .region o19_1 []
theorem n19_1 : Run Cx 19 T ds ro (.code c19_1 :: k) H Q = RunOps Cx 19 T ds ro o19_1 k H Q := run_region
def o19_3 : List AO := [{ dst := (some 6), op := .fieldAddr 36 (.tmp 1) 1, ty := 0, guard := none },
  { dst := (some 7), op := .load 3 (.tmp 6), ty := 3, guard := none },
  { dst := (some 8), op := .binOp .neq 3 (.tmp 7) (.const (.int .i64 0)) 3, ty := 4, guard := none },
  { dst := (some 9), op := .fieldAddr 36 (.tmp 1) 2, ty := 0, guard := none },
  { dst := (some 10), op := .load 9 (.tmp 9), ty := 9, guard := none },
  { dst := (some 11), op := .binOp .neq 9 (.tmp 10) (.const (.string ⟨#[]⟩)) 9, ty := 4, guard := none },
  { dst := (some 12), op := .fieldAddr 36 (.tmp 1) 3, ty := 0, guard := none },
  { dst := (some 13), op := .load 34 (.tmp 12), ty := 34, guard := none },
  { dst := (some 14), op := .build 34 #[], ty := 34, guard := none },
  { dst := (some 15), op := .binOp .neq 34 (.tmp 13) (.tmp 14) 34, ty := 4, guard := none },
  { dst := (some 3), op := .assign (.tmp 8), ty := 4, guard := none },
  { dst := (some 4), op := .assign (.tmp 11), ty := 4, guard := none },
  { dst := (some 5), op := .assign (.tmp 15), ty := 4, guard := none }]
def c19_3 : AC := .region o19_3 []
theorem n19_3 : Run Cx 19 T ds ro (.code c19_3 :: k) H Q = RunOps Cx 19 T ds ro o19_3 k H Q := run_region
def o19_6 : List AO := [{ dst := (some 16), op := .fieldAddr 36 (.tmp 1) 0, ty := 0, guard := none },
  { dst := (some 17), op := .load 3 (.tmp 16), ty := 3, guard := none }]
def c19_6 : AC := .region o19_6 []
theorem n19_6 : Run Cx 19 T ds ro (.code c19_6 :: k) H Q = RunOps Cx 19 T ds ro o19_6 k H Q := run_region
def o19_9 : List AO := [{ dst := (some 19), op := .binOp .eql 3 (.tmp 17) (.const (.int .i64 0)) 3, ty := 4, guard := none },
  { dst := (some 18), op := .assign (.tmp 19), ty := 4, guard := none }]
def c19_9 : AC := .region o19_9 []
theorem n19_9 : Run Cx 19 T ds ro (.code c19_9 :: k) H Q = RunOps Cx 19 T ds ro o19_9 k H Q := run_region
def o19_12 : List AO := [{ dst := (some 20), op := .fieldAddr 36 (.tmp 1) 1, ty := 0, guard := none },
  { dst := (some 21), op := .load 3 (.tmp 20), ty := 3, guard := none },
  { dst := (some 22), op := .binOp .geq 3 (.tmp 21) (.const (.int .i64 (-9007199254740992))) 3, ty := 4, guard := none },
  { dst := (some 23), op := .move (.tmp 22), ty := 4, guard := none },
  { dst := (some 24), op := .fieldAddr 36 (.tmp 1) 1, ty := 0, guard := (some (23, true)) },
  { dst := (some 25), op := .load 3 (.tmp 24), ty := 3, guard := (some (23, true)) },
  { dst := (some 26), op := .binOp .leq 3 (.tmp 25) (.const (.int .i64 9007199254740992)) 3, ty := 4, guard := (some (23, true)) },
  { dst := (some 27), op := .pick (.tmp 23) (.tmp 26) (.const (.bool false)), ty := 4, guard := none },
  { dst := (some 28), op := .move (.tmp 27), ty := 4, guard := none },
  { dst := (some 29), op := .move (.tmp 4), ty := 4, guard := (some (28, true)) },
  { dst := (some 30), op := .unOp .not 4 (.tmp 29), ty := 4, guard := (some (28, true)) },
  { dst := (some 31), op := .pick (.tmp 28) (.tmp 30) (.const (.bool false)), ty := 4, guard := none },
  { dst := (some 32), op := .move (.tmp 31), ty := 4, guard := none },
  { dst := (some 33), op := .move (.tmp 5), ty := 4, guard := (some (32, true)) },
  { dst := (some 34), op := .unOp .not 4 (.tmp 33), ty := 4, guard := (some (32, true)) },
  { dst := (some 35), op := .pick (.tmp 32) (.tmp 34) (.const (.bool false)), ty := 4, guard := none },
  { dst := (some 2), op := .assign (.tmp 35), ty := 4, guard := none }]
def c19_12 : AC := .region o19_12 []
theorem n19_12 : Run Cx 19 T ds ro (.code c19_12 :: k) H Q = RunOps Cx 19 T ds ro o19_12 k H Q := run_region
def c19_13 : AC := .ret
theorem n19_13 : Run Cx 19 T [] none (.code c19_13 :: k) H Q = RunRes Cx T H Q (resOf Cx 19) := run_ret
def c19_11 : AC := .seq c19_12 c19_13
theorem n19_11 : Run Cx 19 T ds ro (.code c19_11 :: k) H Q = Run Cx 19 T ds ro (.code c19_12 :: .code c19_13 :: k) H Q := run_seq
def o19_15 : List AO := [{ dst := (some 37), op := .binOp .eql 3 (.tmp 17) (.const (.int .i64 1)) 3, ty := 4, guard := none },
  { dst := (some 36), op := .assign (.tmp 37), ty := 4, guard := none }]
def c19_15 : AC := .region o19_15 []
theorem n19_15 : Run Cx 19 T ds ro (.code c19_15 :: k) H Q = RunOps Cx 19 T ds ro o19_15 k H Q := run_region
def o19_18 : List AO := [{ dst := (some 38), op := .fieldAddr 36 (.tmp 1) 2, ty := 0, guard := none },
  { dst := (some 39), op := .load 9 (.tmp 38), ty := 9, guard := none },
  { dst := (some 40), op := .call { callee := (.builtin .len), args := #[(.tmp 39)], argTypes := #[9] }, ty := 3, guard := none },
  { dst := (some 41), op := .binOp .leq 3 (.tmp 40) (.const (.int .i64 4096)) 3, ty := 4, guard := none },
  { dst := (some 42), op := .move (.tmp 41), ty := 4, guard := none },
  { dst := (some 43), op := .move (.tmp 3), ty := 4, guard := (some (42, true)) },
  { dst := (some 44), op := .unOp .not 4 (.tmp 43), ty := 4, guard := (some (42, true)) },
  { dst := (some 45), op := .pick (.tmp 42) (.tmp 44) (.const (.bool false)), ty := 4, guard := none },
  { dst := (some 46), op := .move (.tmp 45), ty := 4, guard := none },
  { dst := (some 47), op := .move (.tmp 5), ty := 4, guard := (some (46, true)) },
  { dst := (some 48), op := .unOp .not 4 (.tmp 47), ty := 4, guard := (some (46, true)) },
  { dst := (some 49), op := .pick (.tmp 46) (.tmp 48) (.const (.bool false)), ty := 4, guard := none },
  { dst := (some 2), op := .assign (.tmp 49), ty := 4, guard := none }]
def c19_18 : AC := .region o19_18 []
theorem n19_18 : Run Cx 19 T ds ro (.code c19_18 :: k) H Q = RunOps Cx 19 T ds ro o19_18 k H Q := run_region
def c19_19 : AC := .ret
theorem n19_19 : Run Cx 19 T [] none (.code c19_19 :: k) H Q = RunRes Cx T H Q (resOf Cx 19) := run_ret
def c19_17 : AC := .seq c19_18 c19_19
theorem n19_17 : Run Cx 19 T ds ro (.code c19_17 :: k) H Q = Run Cx 19 T ds ro (.code c19_18 :: .code c19_19 :: k) H Q := run_seq
def o19_21 : List AO := [{ dst := (some 51), op := .binOp .eql 3 (.tmp 17) (.const (.int .i64 2)) 3, ty := 4, guard := none },
  { dst := (some 50), op := .assign (.tmp 51), ty := 4, guard := none }]
def c19_21 : AC := .region o19_21 []
theorem n19_21 : Run Cx 19 T ds ro (.code c19_21 :: k) H Q = RunOps Cx 19 T ds ro o19_21 k H Q := run_region
def o19_24 : List AO := [{ dst := (some 52), op := .fieldAddr 36 (.tmp 1) 3, ty := 0, guard := none },
  { dst := (some 53), op := .load 34 (.tmp 52), ty := 34, guard := none },
  { dst := (some 54), op := .call { callee := (.value (.func 30)), args := #[(.tmp 53)], argTypes := #[34] }, ty := 4, guard := none },
  { dst := (some 55), op := .move (.tmp 54), ty := 4, guard := none },
  { dst := (some 56), op := .move (.tmp 3), ty := 4, guard := (some (55, true)) },
  { dst := (some 57), op := .unOp .not 4 (.tmp 56), ty := 4, guard := (some (55, true)) },
  { dst := (some 58), op := .pick (.tmp 55) (.tmp 57) (.const (.bool false)), ty := 4, guard := none },
  { dst := (some 59), op := .move (.tmp 58), ty := 4, guard := none },
  { dst := (some 60), op := .move (.tmp 4), ty := 4, guard := (some (59, true)) },
  { dst := (some 61), op := .unOp .not 4 (.tmp 60), ty := 4, guard := (some (59, true)) },
  { dst := (some 62), op := .pick (.tmp 59) (.tmp 61) (.const (.bool false)), ty := 4, guard := none },
  { dst := (some 2), op := .assign (.tmp 62), ty := 4, guard := none }]
def c19_24 : AC := .region o19_24 []
theorem n19_24 : Run Cx 19 T ds ro (.code c19_24 :: k) H Q = RunOps Cx 19 T ds ro o19_24 k H Q := run_region
def c19_25 : AC := .ret
theorem n19_25 : Run Cx 19 T [] none (.code c19_25 :: k) H Q = RunRes Cx T H Q (resOf Cx 19) := run_ret
def c19_23 : AC := .seq c19_24 c19_25
theorem n19_23 : Run Cx 19 T ds ro (.code c19_23 :: k) H Q = Run Cx 19 T ds ro (.code c19_24 :: .code c19_25 :: k) H Q := run_seq
def c19_26 : AC := .skip
theorem n19_26 : Run Cx 19 T ds ro (.code c19_26 :: k) H Q = Run Cx 19 T ds ro (k) H Q := run_skip
def c19_22 : AC := .cond (.tmp 50) c19_23 c19_26
theorem n19_22 : Run Cx 19 T ds ro (.code c19_22 :: k) H Q = RunCond Cx 19 T ds ro (.tmp 50) (ev T (.tmp 50)) c19_23 c19_26 k H Q := run_condC
def c19_20 : AC := .seq c19_21 c19_22
theorem n19_20 : Run Cx 19 T ds ro (.code c19_20 :: k) H Q = Run Cx 19 T ds ro (.code c19_21 :: .code c19_22 :: k) H Q := run_seq
def c19_16 : AC := .cond (.tmp 36) c19_17 c19_20
theorem n19_16 : Run Cx 19 T ds ro (.code c19_16 :: k) H Q = RunCond Cx 19 T ds ro (.tmp 36) (ev T (.tmp 36)) c19_17 c19_20 k H Q := run_condC
def c19_14 : AC := .seq c19_15 c19_16
theorem n19_14 : Run Cx 19 T ds ro (.code c19_14 :: k) H Q = Run Cx 19 T ds ro (.code c19_15 :: .code c19_16 :: k) H Q := run_seq
def c19_10 : AC := .cond (.tmp 18) c19_11 c19_14
theorem n19_10 : Run Cx 19 T ds ro (.code c19_10 :: k) H Q = RunCond Cx 19 T ds ro (.tmp 18) (ev T (.tmp 18)) c19_11 c19_14 k H Q := run_condC
def c19_8 : AC := .seq c19_9 c19_10
theorem n19_8 : Run Cx 19 T ds ro (.code c19_8 :: k) H Q = Run Cx 19 T ds ro (.code c19_9 :: .code c19_10 :: k) H Q := run_seq
def c19_7 : AC := .block 0 c19_8
theorem n19_7 : Run Cx 19 T ds ro (.code c19_7 :: k) H Q = Run Cx 19 T ds ro (.code c19_8 :: .inBlock 0 :: k) H Q := run_block
def c19_5 : AC := .seq c19_6 c19_7
theorem n19_5 : Run Cx 19 T ds ro (.code c19_5 :: k) H Q = Run Cx 19 T ds ro (.code c19_6 :: .code c19_7 :: k) H Q := run_seq
def o19_28 : List AO := [{ dst := (some 2), op := .assign (.const (.bool false)), ty := 4, guard := none }]
def c19_28 : AC := .region o19_28 []
theorem n19_28 : Run Cx 19 T ds ro (.code c19_28 :: k) H Q = RunOps Cx 19 T ds ro o19_28 k H Q := run_region
def c19_29 : AC := .ret
theorem n19_29 : Run Cx 19 T [] none (.code c19_29 :: k) H Q = RunRes Cx T H Q (resOf Cx 19) := run_ret
def c19_27 : AC := .seq c19_28 c19_29
theorem n19_27 : Run Cx 19 T ds ro (.code c19_27 :: k) H Q = Run Cx 19 T ds ro (.code c19_28 :: .code c19_29 :: k) H Q := run_seq
def c19_4 : AC := .seq c19_5 c19_27
theorem n19_4 : Run Cx 19 T ds ro (.code c19_4 :: k) H Q = Run Cx 19 T ds ro (.code c19_5 :: .code c19_27 :: k) H Q := run_seq
def c19_2 : AC := .seq c19_3 c19_4
theorem n19_2 : Run Cx 19 T ds ro (.code c19_2 :: k) H Q = Run Cx 19 T ds ro (.code c19_3 :: .code c19_4 :: k) H Q := run_seq
def c19_0 : AC := .seq c19_1 c19_2
theorem n19_0 : Run Cx 19 T ds ro (.code c19_0 :: k) H Q = Run Cx 19 T ds ro (.code c19_1 :: .code c19_2 :: k) H Q := run_seq
theorem body19 : bodyOf Cx 19 = some c19_0 := by kernel_rfl
theorem res19 : resOf Cx 19 = some [.tmp 2] := by kernel_rfl
theorem pure19 : Cx.pure 19 = true := by kernel_rfl
-- RULES 19: n19_0, n19_1, n19_2, n19_3, n19_4, n19_5, n19_6, n19_7, n19_8, n19_9, n19_10, n19_11, n19_12, n19_13, n19_14, n19_15, n19_16, n19_17, n19_18, n19_19, n19_20, n19_21, n19_22, n19_23, n19_24, n19_25, n19_26, n19_27, n19_28, n19_29
def o20_1 : List AO := [{ dst := (some 2), op := .assign (.const (.pointer none)), ty := 54, guard := none }]
def c20_1 : AC := .region o20_1 []
theorem n20_1 : Run Cx 20 T ds ro (.code c20_1 :: k) H Q = RunOps Cx 20 T ds ro o20_1 k H Q := run_region
def o20_3 : List AO := [{ dst := (some 3), op := .move (.tmp 0), ty := 9, guard := none },
  { dst := (some 4), op := .build 66 #[(0, (.tmp 3))], ty := 66, guard := none },
  { dst := (some 5), op := .box 66 (.tmp 4), ty := 54, guard := none },
  { dst := (some 2), op := .assign (.tmp 5), ty := 54, guard := none }]
def c20_3 : AC := .region o20_3 []
theorem n20_3 : Run Cx 20 T ds ro (.code c20_3 :: k) H Q = RunOps Cx 20 T ds ro o20_3 k H Q := run_region
def c20_4 : AC := .ret
theorem n20_4 : Run Cx 20 T [] none (.code c20_4 :: k) H Q = RunRes Cx T H Q (resOf Cx 20) := run_ret
def c20_2 : AC := .seq c20_3 c20_4
theorem n20_2 : Run Cx 20 T ds ro (.code c20_2 :: k) H Q = Run Cx 20 T ds ro (.code c20_3 :: .code c20_4 :: k) H Q := run_seq
def c20_0 : AC := .seq c20_1 c20_2
theorem n20_0 : Run Cx 20 T ds ro (.code c20_0 :: k) H Q = Run Cx 20 T ds ro (.code c20_1 :: .code c20_2 :: k) H Q := run_seq
theorem body20 : bodyOf Cx 20 = some c20_0 := by kernel_rfl
theorem res20 : resOf Cx 20 = some [.tmp 2] := by kernel_rfl
theorem pure20 : Cx.pure 20 = false := by kernel_rfl
-- RULES 20: n20_0, n20_1, n20_2, n20_3, n20_4
def o21_1 : List AO := [{ dst := (some 4), op := .assign (.const (.int .i64 0)), ty := 3, guard := none },
  { dst := (some 5), op := .assign (.const (.int .i64 0)), ty := 27, guard := none }]
def c21_1 : AC := .region o21_1 []
theorem n21_1 : Run Cx 21 T ds ro (.code c21_1 :: k) H Q = RunOps Cx 21 T ds ro o21_1 k H Q := run_region
def o21_3 : List AO := [{ dst := (some 10), op := .move (.tmp 0), ty := 54, guard := none },
  { dst := (some 11), op := .call { callee := (.value (.func 31)), args := #[(.tmp 10)], argTypes := #[54] }, ty := 67, guard := none },
  { dst := (some 9), op := .move (.tmp 11), ty := 67, guard := none },
  { dst := (some 12), op := .extract (.tmp 9) 0, ty := 3, guard := none },
  { dst := (some 13), op := .extract (.tmp 9) 1, ty := 3, guard := none },
  { dst := (some 14), op := .extract (.tmp 9) 2, ty := 27, guard := none },
  { dst := (some 6), op := .assign (.tmp 12), ty := 3, guard := none },
  { dst := (some 7), op := .assign (.tmp 13), ty := 3, guard := none },
  { dst := (some 8), op := .assign (.tmp 14), ty := 27, guard := none }]
def c21_3 : AC := .region o21_3 []
theorem n21_3 : Run Cx 21 T ds ro (.code c21_3 :: k) H Q = RunOps Cx 21 T ds ro o21_3 k H Q := run_region
def o21_7 : List AO := [{ dst := (some 16), op := .move (.tmp 8), ty := 27, guard := none },
  { dst := (some 17), op := .binOp .neq 27 (.tmp 16) (.const (.int .i64 0)) 27, ty := 4, guard := none },
  { dst := (some 15), op := .assign (.tmp 17), ty := 4, guard := none }]
def c21_7 : AC := .region o21_7 []
theorem n21_7 : Run Cx 21 T ds ro (.code c21_7 :: k) H Q = RunOps Cx 21 T ds ro o21_7 k H Q := run_region
def o21_10 : List AO := [{ dst := (some 18), op := .move (.tmp 8), ty := 27, guard := none },
  { dst := (some 4), op := .assign (.const (.int .i64 0)), ty := 3, guard := none },
  { dst := (some 5), op := .assign (.tmp 18), ty := 27, guard := none }]
def c21_10 : AC := .region o21_10 []
theorem n21_10 : Run Cx 21 T ds ro (.code c21_10 :: k) H Q = RunOps Cx 21 T ds ro o21_10 k H Q := run_region
def c21_11 : AC := .ret
theorem n21_11 : Run Cx 21 T [] none (.code c21_11 :: k) H Q = RunRes Cx T H Q (resOf Cx 21) := run_ret
def c21_9 : AC := .seq c21_10 c21_11
theorem n21_9 : Run Cx 21 T ds ro (.code c21_9 :: k) H Q = Run Cx 21 T ds ro (.code c21_10 :: .code c21_11 :: k) H Q := run_seq
def o21_13 : List AO := [{ dst := (some 20), op := .move (.tmp 6), ty := 3, guard := none },
  { dst := (some 21), op := .move (.tmp 1), ty := 3, guard := none },
  { dst := (some 22), op := .binOp .gtr 3 (.tmp 20) (.tmp 21) 3, ty := 4, guard := none },
  { dst := (some 19), op := .assign (.tmp 22), ty := 4, guard := none }]
def c21_13 : AC := .region o21_13 []
theorem n21_13 : Run Cx 21 T ds ro (.code c21_13 :: k) H Q = RunOps Cx 21 T ds ro o21_13 k H Q := run_region
def o21_16 : List AO := [{ dst := (some 4), op := .assign (.const (.int .i64 0)), ty := 3, guard := none },
  { dst := (some 5), op := .assign (.const (.int .i64 3)), ty := 27, guard := none }]
def c21_16 : AC := .region o21_16 []
theorem n21_16 : Run Cx 21 T ds ro (.code c21_16 :: k) H Q = RunOps Cx 21 T ds ro o21_16 k H Q := run_region
def c21_17 : AC := .ret
theorem n21_17 : Run Cx 21 T [] none (.code c21_17 :: k) H Q = RunRes Cx T H Q (resOf Cx 21) := run_ret
def c21_15 : AC := .seq c21_16 c21_17
theorem n21_15 : Run Cx 21 T ds ro (.code c21_15 :: k) H Q = Run Cx 21 T ds ro (.code c21_16 :: .code c21_17 :: k) H Q := run_seq
def c21_18 : AC := .skip
theorem n21_18 : Run Cx 21 T ds ro (.code c21_18 :: k) H Q = Run Cx 21 T ds ro (k) H Q := run_skip
def c21_14 : AC := .cond (.tmp 19) c21_15 c21_18
theorem n21_14 : Run Cx 21 T ds ro (.code c21_14 :: k) H Q = RunCond Cx 21 T ds ro (.tmp 19) (ev T (.tmp 19)) c21_15 c21_18 k H Q := run_condC
def c21_12 : AC := .seq c21_13 c21_14
theorem n21_12 : Run Cx 21 T ds ro (.code c21_12 :: k) H Q = Run Cx 21 T ds ro (.code c21_13 :: .code c21_14 :: k) H Q := run_seq
def c21_8 : AC := .cond (.tmp 15) c21_9 c21_12
theorem n21_8 : Run Cx 21 T ds ro (.code c21_8 :: k) H Q = RunCond Cx 21 T ds ro (.tmp 15) (ev T (.tmp 15)) c21_9 c21_12 k H Q := run_condC
def c21_6 : AC := .seq c21_7 c21_8
theorem n21_6 : Run Cx 21 T ds ro (.code c21_6 :: k) H Q = Run Cx 21 T ds ro (.code c21_7 :: .code c21_8 :: k) H Q := run_seq
def c21_5 : AC := .block 0 c21_6
theorem n21_5 : Run Cx 21 T ds ro (.code c21_5 :: k) H Q = Run Cx 21 T ds ro (.code c21_6 :: .inBlock 0 :: k) H Q := run_block
def o21_20 : List AO := [{ dst := (some 23), op := .move (.tmp 0), ty := 54, guard := none },
  { dst := (some 24), op := .nilCheck (.tmp 23), ty := 0, guard := none },
  { dst := (some 25), op := .fieldAddr 66 (.tmp 24) 1, ty := 0, guard := none },
  { dst := (some 26), op := .load 3 (.tmp 25), ty := 3, guard := none },
  { dst := (some 27), op := .move (.tmp 7), ty := 3, guard := none },
  { dst := (some 28), op := .binOp .add 3 (.tmp 26) (.tmp 27) 3, ty := 3, guard := none },
  { dst := (some 29), op := .nilCheck (.tmp 23), ty := 0, guard := none },
  { dst := (some 30), op := .fieldAddr 66 (.tmp 29) 1, ty := 0, guard := none },
  { dst := none, op := .store 3 (.tmp 30) (.tmp 28), ty := 0, guard := none }]
def c21_20 : AC := .region o21_20 []
theorem n21_20 : Run Cx 21 T ds ro (.code c21_20 :: k) H Q = RunOps Cx 21 T ds ro o21_20 k H Q := run_region
def o21_22 : List AO := [{ dst := (some 31), op := .move (.tmp 6), ty := 3, guard := none },
  { dst := (some 4), op := .assign (.tmp 31), ty := 3, guard := none },
  { dst := (some 5), op := .assign (.const (.int .i64 0)), ty := 27, guard := none }]
def c21_22 : AC := .region o21_22 []
theorem n21_22 : Run Cx 21 T ds ro (.code c21_22 :: k) H Q = RunOps Cx 21 T ds ro o21_22 k H Q := run_region
def c21_23 : AC := .ret
theorem n21_23 : Run Cx 21 T [] none (.code c21_23 :: k) H Q = RunRes Cx T H Q (resOf Cx 21) := run_ret
def c21_21 : AC := .seq c21_22 c21_23
theorem n21_21 : Run Cx 21 T ds ro (.code c21_21 :: k) H Q = Run Cx 21 T ds ro (.code c21_22 :: .code c21_23 :: k) H Q := run_seq
def c21_19 : AC := .seq c21_20 c21_21
theorem n21_19 : Run Cx 21 T ds ro (.code c21_19 :: k) H Q = Run Cx 21 T ds ro (.code c21_20 :: .code c21_21 :: k) H Q := run_seq
def c21_4 : AC := .seq c21_5 c21_19
theorem n21_4 : Run Cx 21 T ds ro (.code c21_4 :: k) H Q = Run Cx 21 T ds ro (.code c21_5 :: .code c21_19 :: k) H Q := run_seq
def c21_2 : AC := .seq c21_3 c21_4
theorem n21_2 : Run Cx 21 T ds ro (.code c21_2 :: k) H Q = Run Cx 21 T ds ro (.code c21_3 :: .code c21_4 :: k) H Q := run_seq
def c21_0 : AC := .seq c21_1 c21_2
theorem n21_0 : Run Cx 21 T ds ro (.code c21_0 :: k) H Q = Run Cx 21 T ds ro (.code c21_1 :: .code c21_2 :: k) H Q := run_seq
theorem body21 : bodyOf Cx 21 = some c21_0 := by kernel_rfl
theorem res21 : resOf Cx 21 = some [.tmp 4, .tmp 5] := by kernel_rfl
theorem pure21 : Cx.pure 21 = false := by kernel_rfl
-- RULES 21: n21_0, n21_1, n21_2, n21_3, n21_4, n21_5, n21_6, n21_7, n21_8, n21_9, n21_10, n21_11, n21_12, n21_13, n21_14, n21_15, n21_16, n21_17, n21_18, n21_19, n21_20, n21_21, n21_22, n21_23
def o22_1 : List AO := [{ dst := (some 2), op := .alloc 38, ty := 0, guard := none },
  { dst := (some 3), op := .assign (.const (.int .i64 0)), ty := 27, guard := none }]
def c22_1 : AC := .region o22_1 []
theorem n22_1 : Run Cx 22 T ds ro (.code c22_1 :: k) H Q = RunOps Cx 22 T ds ro o22_1 k H Q := run_region
def o22_3 : List AO := [{ dst := (some 8), op := .move (.tmp 0), ty := 54, guard := none },
  { dst := (some 9), op := .call { callee := (.value (.func 32)), args := #[(.tmp 8), (.const (.int .i64 64))], argTypes := #[54, 3] }, ty := 69, guard := none },
  { dst := (some 7), op := .move (.tmp 9), ty := 69, guard := none },
  { dst := (some 10), op := .extract (.tmp 7) 0, ty := 9, guard := none },
  { dst := (some 11), op := .extract (.tmp 7) 1, ty := 27, guard := none },
  { dst := (some 4), op := .assign (.tmp 10), ty := 9, guard := none },
  { dst := (some 5), op := .assign (.tmp 11), ty := 27, guard := none }]
def c22_3 : AC := .region o22_3 []
theorem n22_3 : Run Cx 22 T ds ro (.code c22_3 :: k) H Q = RunOps Cx 22 T ds ro o22_3 k H Q := run_region
def o22_6 : List AO := [{ dst := (some 12), op := .move (.tmp 5), ty := 27, guard := none },
  { dst := (some 13), op := .binOp .neq 27 (.tmp 12) (.const (.int .i64 0)) 27, ty := 4, guard := none }]
def c22_6 : AC := .region o22_6 []
theorem n22_6 : Run Cx 22 T ds ro (.code c22_6 :: k) H Q = RunOps Cx 22 T ds ro o22_6 k H Q := run_region
def o22_9 : List AO := [{ dst := (some 14), op := .build 38 #[], ty := 38, guard := none },
  { dst := (some 15), op := .move (.tmp 5), ty := 27, guard := none },
  { dst := none, op := .store 38 (.tmp 2) (.tmp 14), ty := 0, guard := none },
  { dst := (some 3), op := .assign (.tmp 15), ty := 27, guard := none }]
def c22_9 : AC := .region o22_9 []
theorem n22_9 : Run Cx 22 T ds ro (.code c22_9 :: k) H Q = RunOps Cx 22 T ds ro o22_9 k H Q := run_region
def c22_10 : AC := .ret
theorem n22_10 : Run Cx 22 T [] none (.code c22_10 :: k) H Q = RunRes Cx T H Q (resOf Cx 22) := run_ret
def c22_8 : AC := .seq c22_9 c22_10
theorem n22_8 : Run Cx 22 T ds ro (.code c22_8 :: k) H Q = Run Cx 22 T ds ro (.code c22_9 :: .code c22_10 :: k) H Q := run_seq
def c22_11 : AC := .skip
theorem n22_11 : Run Cx 22 T ds ro (.code c22_11 :: k) H Q = Run Cx 22 T ds ro (k) H Q := run_skip
def c22_7 : AC := .cond (.tmp 13) c22_8 c22_11
theorem n22_7 : Run Cx 22 T ds ro (.code c22_7 :: k) H Q = RunCond Cx 22 T ds ro (.tmp 13) (ev T (.tmp 13)) c22_8 c22_11 k H Q := run_condC
def c22_5 : AC := .seq c22_6 c22_7
theorem n22_5 : Run Cx 22 T ds ro (.code c22_5 :: k) H Q = Run Cx 22 T ds ro (.code c22_6 :: .code c22_7 :: k) H Q := run_seq
def o22_13 : List AO := [{ dst := (some 17), op := .move (.tmp 0), ty := 54, guard := none },
  { dst := (some 18), op := .call { callee := (.value (.func 33)), args := #[(.tmp 17)], argTypes := #[54] }, ty := 71, guard := none },
  { dst := (some 16), op := .move (.tmp 18), ty := 71, guard := none },
  { dst := (some 19), op := .extract (.tmp 16) 0, ty := 36, guard := none },
  { dst := (some 20), op := .extract (.tmp 16) 1, ty := 27, guard := none },
  { dst := (some 6), op := .alloc 36, ty := 0, guard := none },
  { dst := none, op := .store 36 (.tmp 6) (.tmp 19), ty := 0, guard := none },
  { dst := (some 5), op := .assign (.tmp 20), ty := 27, guard := none }]
def c22_13 : AC := .region o22_13 []
theorem n22_13 : Run Cx 22 T ds ro (.code c22_13 :: k) H Q = RunOps Cx 22 T ds ro o22_13 k H Q := run_region
def o22_15 : List AO := [{ dst := (some 21), op := .move (.tmp 4), ty := 9, guard := none },
  { dst := (some 22), op := .load 36 (.tmp 6), ty := 36, guard := none },
  { dst := (some 23), op := .build 38 #[(0, (.tmp 21)), (1, (.tmp 22))], ty := 38, guard := none },
  { dst := (some 24), op := .move (.tmp 5), ty := 27, guard := none },
  { dst := none, op := .store 38 (.tmp 2) (.tmp 23), ty := 0, guard := none },
  { dst := (some 3), op := .assign (.tmp 24), ty := 27, guard := none }]
def c22_15 : AC := .region o22_15 []
theorem n22_15 : Run Cx 22 T ds ro (.code c22_15 :: k) H Q = RunOps Cx 22 T ds ro o22_15 k H Q := run_region
def c22_16 : AC := .ret
theorem n22_16 : Run Cx 22 T [] none (.code c22_16 :: k) H Q = RunRes Cx T H Q (resOf Cx 22) := run_ret
def c22_14 : AC := .seq c22_15 c22_16
theorem n22_14 : Run Cx 22 T ds ro (.code c22_14 :: k) H Q = Run Cx 22 T ds ro (.code c22_15 :: .code c22_16 :: k) H Q := run_seq
def c22_12 : AC := .seq c22_13 c22_14
theorem n22_12 : Run Cx 22 T ds ro (.code c22_12 :: k) H Q = Run Cx 22 T ds ro (.code c22_13 :: .code c22_14 :: k) H Q := run_seq
def c22_4 : AC := .seq c22_5 c22_12
theorem n22_4 : Run Cx 22 T ds ro (.code c22_4 :: k) H Q = Run Cx 22 T ds ro (.code c22_5 :: .code c22_12 :: k) H Q := run_seq
def c22_2 : AC := .seq c22_3 c22_4
theorem n22_2 : Run Cx 22 T ds ro (.code c22_2 :: k) H Q = Run Cx 22 T ds ro (.code c22_3 :: .code c22_4 :: k) H Q := run_seq
def c22_0 : AC := .seq c22_1 c22_2
theorem n22_0 : Run Cx 22 T ds ro (.code c22_0 :: k) H Q = Run Cx 22 T ds ro (.code c22_1 :: .code c22_2 :: k) H Q := run_seq
theorem body22 : bodyOf Cx 22 = some c22_0 := by kernel_rfl
theorem res22 : resOf Cx 22 = some [.cell 2 38, .tmp 3] := by kernel_rfl
theorem pure22 : Cx.pure 22 = false := by kernel_rfl
-- RULES 22: n22_0, n22_1, n22_2, n22_3, n22_4, n22_5, n22_6, n22_7, n22_8, n22_9, n22_10, n22_11, n22_12, n22_13, n22_14, n22_15, n22_16
def o23_1 : List AO := [{ dst := (some 2), op := .assign (.const (.bool false)), ty := 4, guard := none }]
def c23_1 : AC := .region o23_1 []
theorem n23_1 : Run Cx 23 T ds ro (.code c23_1 :: k) H Q = RunOps Cx 23 T ds ro o23_1 k H Q := run_region
def o23_3 : List AO := [{ dst := (some 3), op := .move (.tmp 0), ty := 54, guard := none },
  { dst := (some 4), op := .call { callee := (.value (.func 34)), args := #[(.tmp 3)], argTypes := #[54] }, ty := 3, guard := none },
  { dst := (some 5), op := .binOp .eql 3 (.tmp 4) (.const (.int .i64 0)) 3, ty := 4, guard := none },
  { dst := (some 2), op := .assign (.tmp 5), ty := 4, guard := none }]
def c23_3 : AC := .region o23_3 []
theorem n23_3 : Run Cx 23 T ds ro (.code c23_3 :: k) H Q = RunOps Cx 23 T ds ro o23_3 k H Q := run_region
def c23_4 : AC := .ret
theorem n23_4 : Run Cx 23 T [] none (.code c23_4 :: k) H Q = RunRes Cx T H Q (resOf Cx 23) := run_ret
def c23_2 : AC := .seq c23_3 c23_4
theorem n23_2 : Run Cx 23 T ds ro (.code c23_2 :: k) H Q = Run Cx 23 T ds ro (.code c23_3 :: .code c23_4 :: k) H Q := run_seq
def c23_0 : AC := .seq c23_1 c23_2
theorem n23_0 : Run Cx 23 T ds ro (.code c23_0 :: k) H Q = Run Cx 23 T ds ro (.code c23_1 :: .code c23_2 :: k) H Q := run_seq
theorem body23 : bodyOf Cx 23 = some c23_0 := by kernel_rfl
theorem res23 : resOf Cx 23 = some [.tmp 2] := by kernel_rfl
theorem pure23 : Cx.pure 23 = false := by kernel_rfl
-- RULES 23: n23_0, n23_1, n23_2, n23_3, n23_4
def o28_1 : List AO := [{ dst := (some 2), op := .assign (.const (.string ⟨#[]⟩)), ty := 9, guard := none }]
def c28_1 : AC := .region o28_1 []
theorem n28_1 : Run Cx 28 T ds ro (.code c28_1 :: k) H Q = RunOps Cx 28 T ds ro o28_1 k H Q := run_region
def o28_5 : List AO := [{ dst := (some 4), op := .move (.tmp 0), ty := 3, guard := none },
  { dst := (some 5), op := .binOp .lss 3 (.tmp 4) (.const (.int .i64 (-4503599627370496))) 3, ty := 4, guard := none },
  { dst := (some 6), op := .move (.tmp 5), ty := 4, guard := none },
  { dst := (some 7), op := .move (.tmp 0), ty := 3, guard := (some (6, false)) },
  { dst := (some 8), op := .binOp .geq 3 (.tmp 7) (.const (.int .i64 4503599627370496)) 3, ty := 4, guard := (some (6, false)) },
  { dst := (some 9), op := .pick (.tmp 6) (.const (.bool true)) (.tmp 8), ty := 4, guard := none },
  { dst := (some 3), op := .assign (.tmp 9), ty := 4, guard := none }]
def c28_5 : AC := .region o28_5 []
theorem n28_5 : Run Cx 28 T ds ro (.code c28_5 :: k) H Q = RunOps Cx 28 T ds ro o28_5 k H Q := run_region
def o28_8 : List AO := [{ dst := (some 2), op := .assign (.const (.string ⟨#[]⟩)), ty := 9, guard := none }]
def c28_8 : AC := .region o28_8 []
theorem n28_8 : Run Cx 28 T ds ro (.code c28_8 :: k) H Q = RunOps Cx 28 T ds ro o28_8 k H Q := run_region
def c28_9 : AC := .ret
theorem n28_9 : Run Cx 28 T [] none (.code c28_9 :: k) H Q = RunRes Cx T H Q (resOf Cx 28) := run_ret
def c28_7 : AC := .seq c28_8 c28_9
theorem n28_7 : Run Cx 28 T ds ro (.code c28_7 :: k) H Q = Run Cx 28 T ds ro (.code c28_8 :: .code c28_9 :: k) H Q := run_seq
def o28_11 : List AO := [{ dst := (some 11), op := .move (.tmp 0), ty := 3, guard := none },
  { dst := (some 12), op := .binOp .lss 3 (.tmp 11) (.const (.int .i64 0)) 3, ty := 4, guard := none },
  { dst := (some 10), op := .assign (.tmp 12), ty := 4, guard := none }]
def c28_11 : AC := .region o28_11 []
theorem n28_11 : Run Cx 28 T ds ro (.code c28_11 :: k) H Q = RunOps Cx 28 T ds ro o28_11 k H Q := run_region
def o28_14 : List AO := [{ dst := (some 13), op := .move (.tmp 0), ty := 3, guard := none },
  { dst := (some 14), op := .binOp .mul 3 (.const (.int .i64 (-2))) (.tmp 13) 3, ty := 3, guard := none },
  { dst := (some 15), op := .binOp .sub 3 (.tmp 14) (.const (.int .i64 1)) 3, ty := 3, guard := none },
  { dst := (some 16), op := .call { callee := (.value (.func 13)), args := #[(.tmp 15)], argTypes := #[3] }, ty := 9, guard := none },
  { dst := (some 2), op := .assign (.tmp 16), ty := 9, guard := none }]
def c28_14 : AC := .region o28_14 []
theorem n28_14 : Run Cx 28 T ds ro (.code c28_14 :: k) H Q = RunOps Cx 28 T ds ro o28_14 k H Q := run_region
def c28_15 : AC := .ret
theorem n28_15 : Run Cx 28 T [] none (.code c28_15 :: k) H Q = RunRes Cx T H Q (resOf Cx 28) := run_ret
def c28_13 : AC := .seq c28_14 c28_15
theorem n28_13 : Run Cx 28 T ds ro (.code c28_13 :: k) H Q = Run Cx 28 T ds ro (.code c28_14 :: .code c28_15 :: k) H Q := run_seq
def c28_16 : AC := .skip
theorem n28_16 : Run Cx 28 T ds ro (.code c28_16 :: k) H Q = Run Cx 28 T ds ro (k) H Q := run_skip
def c28_12 : AC := .cond (.tmp 10) c28_13 c28_16
theorem n28_12 : Run Cx 28 T ds ro (.code c28_12 :: k) H Q = RunCond Cx 28 T ds ro (.tmp 10) (ev T (.tmp 10)) c28_13 c28_16 k H Q := run_condC
def c28_10 : AC := .seq c28_11 c28_12
theorem n28_10 : Run Cx 28 T ds ro (.code c28_10 :: k) H Q = Run Cx 28 T ds ro (.code c28_11 :: .code c28_12 :: k) H Q := run_seq
def c28_6 : AC := .cond (.tmp 3) c28_7 c28_10
theorem n28_6 : Run Cx 28 T ds ro (.code c28_6 :: k) H Q = RunCond Cx 28 T ds ro (.tmp 3) (ev T (.tmp 3)) c28_7 c28_10 k H Q := run_condC
def c28_4 : AC := .seq c28_5 c28_6
theorem n28_4 : Run Cx 28 T ds ro (.code c28_4 :: k) H Q = Run Cx 28 T ds ro (.code c28_5 :: .code c28_6 :: k) H Q := run_seq
def c28_3 : AC := .block 0 c28_4
theorem n28_3 : Run Cx 28 T ds ro (.code c28_3 :: k) H Q = Run Cx 28 T ds ro (.code c28_4 :: .inBlock 0 :: k) H Q := run_block
def o28_18 : List AO := [{ dst := (some 17), op := .move (.tmp 0), ty := 3, guard := none },
  { dst := (some 18), op := .binOp .mul 3 (.const (.int .i64 2)) (.tmp 17) 3, ty := 3, guard := none },
  { dst := (some 19), op := .call { callee := (.value (.func 13)), args := #[(.tmp 18)], argTypes := #[3] }, ty := 9, guard := none },
  { dst := (some 2), op := .assign (.tmp 19), ty := 9, guard := none }]
def c28_18 : AC := .region o28_18 []
theorem n28_18 : Run Cx 28 T ds ro (.code c28_18 :: k) H Q = RunOps Cx 28 T ds ro o28_18 k H Q := run_region
def c28_19 : AC := .ret
theorem n28_19 : Run Cx 28 T [] none (.code c28_19 :: k) H Q = RunRes Cx T H Q (resOf Cx 28) := run_ret
def c28_17 : AC := .seq c28_18 c28_19
theorem n28_17 : Run Cx 28 T ds ro (.code c28_17 :: k) H Q = Run Cx 28 T ds ro (.code c28_18 :: .code c28_19 :: k) H Q := run_seq
def c28_2 : AC := .seq c28_3 c28_17
theorem n28_2 : Run Cx 28 T ds ro (.code c28_2 :: k) H Q = Run Cx 28 T ds ro (.code c28_3 :: .code c28_17 :: k) H Q := run_seq
def c28_0 : AC := .seq c28_1 c28_2
theorem n28_0 : Run Cx 28 T ds ro (.code c28_0 :: k) H Q = Run Cx 28 T ds ro (.code c28_1 :: .code c28_2 :: k) H Q := run_seq
theorem body28 : bodyOf Cx 28 = some c28_0 := by kernel_rfl
theorem res28 : resOf Cx 28 = some [.tmp 2] := by kernel_rfl
theorem pure28 : Cx.pure 28 = true := by kernel_rfl
-- RULES 28: n28_0, n28_1, n28_2, n28_3, n28_4, n28_5, n28_6, n28_7, n28_8, n28_9, n28_10, n28_11, n28_12, n28_13, n28_14, n28_15, n28_16, n28_17, n28_18, n28_19
def o29_1 : List AO := [{ dst := (some 4), op := .assign (.const (.int .i64 0)), ty := 3, guard := none }]
def c29_1 : AC := .region o29_1 []
theorem n29_1 : Run Cx 29 T ds ro (.code c29_1 :: k) H Q = RunOps Cx 29 T ds ro o29_1 k H Q := run_region
def o29_4 : List AO := [{ dst := (some 6), op := .move (.tmp 0), ty := 22, guard := none },
  { dst := (some 7), op := .call { callee := (.builtin .len), args := #[(.tmp 6)], argTypes := #[22] }, ty := 3, guard := none },
  { dst := (some 8), op := .move (.const (.int .i64 0)), ty := 3, guard := none }]
def c29_4 : AC := .region o29_4 []
theorem n29_4 : Run Cx 29 T ds ro (.code c29_4 :: k) H Q = RunOps Cx 29 T ds ro o29_4 k H Q := run_region
def o29_8 : List AO := [{ dst := (some 9), op := .binOp .lss 3 (.tmp 8) (.tmp 7) 3, ty := 0, guard := none }]
def c29_8 : AC := .region o29_8 []
theorem n29_8 : Run Cx 29 T ds ro (.code c29_8 :: k) H Q = RunOps Cx 29 T ds ro o29_8 k H Q := run_region
def c29_11 : AC := .skip
theorem n29_11 : Run Cx 29 T ds ro (.code c29_11 :: k) H Q = Run Cx 29 T ds ro (k) H Q := run_skip
def c29_12 : AC := .exit 0
theorem n29_12 : Run Cx 29 T ds ro (.code c29_12 :: k) H Q = RunExit Cx 29 T ds ro 0 k k H Q := run_exit_start
def c29_10 : AC := .cond (.tmp 9) c29_11 c29_12
theorem n29_10 : Run Cx 29 T ds ro (.code c29_10 :: k) H Q = RunCond Cx 29 T ds ro (.tmp 9) (ev T (.tmp 9)) c29_11 c29_12 k H Q := run_condC
def o29_16 : List AO := [{ dst := (some 10), op := .move (.tmp 8), ty := 3, guard := none },
  { dst := (some 5), op := .assign (.tmp 10), ty := 3, guard := none }]
def c29_16 : AC := .region o29_16 []
theorem n29_16 : Run Cx 29 T ds ro (.code c29_16 :: k) H Q = RunOps Cx 29 T ds ro o29_16 k H Q := run_region
def o29_18 : List AO := [{ dst := (some 11), op := .move (.tmp 1), ty := 53, guard := none },
  { dst := (some 12), op := .move (.tmp 0), ty := 22, guard := none },
  { dst := (some 13), op := .move (.tmp 5), ty := 3, guard := none },
  { dst := (some 14), op := .indexAddr 22 (.tmp 12) (.tmp 13), ty := 0, guard := none },
  { dst := (some 15), op := .load 38 (.tmp 14), ty := 38, guard := none },
  { dst := (some 16), op := .call { callee := (.value (.tmp 11)), args := #[(.tmp 15)], argTypes := #[38] }, ty := 4, guard := none }]
def c29_18 : AC := .region o29_18 []
theorem n29_18 : Run Cx 29 T ds ro (.code c29_18 :: k) H Q = RunOps Cx 29 T ds ro o29_18 k H Q := run_region
def o29_21 : List AO := [{ dst := (some 17), op := .move (.tmp 5), ty := 3, guard := none },
  { dst := (some 4), op := .assign (.tmp 17), ty := 3, guard := none }]
def c29_21 : AC := .region o29_21 []
theorem n29_21 : Run Cx 29 T ds ro (.code c29_21 :: k) H Q = RunOps Cx 29 T ds ro o29_21 k H Q := run_region
def c29_22 : AC := .ret
theorem n29_22 : Run Cx 29 T [] none (.code c29_22 :: k) H Q = RunRes Cx T H Q (resOf Cx 29) := run_ret
def c29_20 : AC := .seq c29_21 c29_22
theorem n29_20 : Run Cx 29 T ds ro (.code c29_20 :: k) H Q = Run Cx 29 T ds ro (.code c29_21 :: .code c29_22 :: k) H Q := run_seq
def c29_23 : AC := .skip
theorem n29_23 : Run Cx 29 T ds ro (.code c29_23 :: k) H Q = Run Cx 29 T ds ro (k) H Q := run_skip
def c29_19 : AC := .cond (.tmp 16) c29_20 c29_23
theorem n29_19 : Run Cx 29 T ds ro (.code c29_19 :: k) H Q = RunCond Cx 29 T ds ro (.tmp 16) (ev T (.tmp 16)) c29_20 c29_23 k H Q := run_condC
def c29_17 : AC := .seq c29_18 c29_19
theorem n29_17 : Run Cx 29 T ds ro (.code c29_17 :: k) H Q = Run Cx 29 T ds ro (.code c29_18 :: .code c29_19 :: k) H Q := run_seq
def c29_15 : AC := .seq c29_16 c29_17
theorem n29_15 : Run Cx 29 T ds ro (.code c29_15 :: k) H Q = Run Cx 29 T ds ro (.code c29_16 :: .code c29_17 :: k) H Q := run_seq
def c29_14 : AC := .block 1 c29_15
theorem n29_14 : Run Cx 29 T ds ro (.code c29_14 :: k) H Q = Run Cx 29 T ds ro (.code c29_15 :: .inBlock 1 :: k) H Q := run_block
def o29_24 : List AO := [{ dst := (some 18), op := .binOp .add 3 (.tmp 8) (.const (.int .i64 1)) 3, ty := 3, guard := none },
  { dst := (some 8), op := .move (.tmp 18), ty := 3, guard := none }]
def c29_24 : AC := .region o29_24 []
theorem n29_24 : Run Cx 29 T ds ro (.code c29_24 :: k) H Q = RunOps Cx 29 T ds ro o29_24 k H Q := run_region
def c29_13 : AC := .seq c29_14 c29_24
theorem n29_13 : Run Cx 29 T ds ro (.code c29_13 :: k) H Q = Run Cx 29 T ds ro (.code c29_14 :: .code c29_24 :: k) H Q := run_seq
def c29_9 : AC := .seq c29_10 c29_13
theorem n29_9 : Run Cx 29 T ds ro (.code c29_9 :: k) H Q = Run Cx 29 T ds ro (.code c29_10 :: .code c29_13 :: k) H Q := run_seq
def c29_7 : AC := .seq c29_8 c29_9
theorem n29_7 : Run Cx 29 T ds ro (.code c29_7 :: k) H Q = Run Cx 29 T ds ro (.code c29_8 :: .code c29_9 :: k) H Q := run_seq
def c29_6 : AC := .loop c29_7
theorem n29_6 : Run Cx 29 T ds ro (.code c29_6 :: k) H Q = Run Cx 29 T ds ro (.inLoop c29_7 :: k) H Q := run_loop'
def c29_5 : AC := .block 0 c29_6
theorem n29_5 : Run Cx 29 T ds ro (.code c29_5 :: k) H Q = Run Cx 29 T ds ro (.code c29_6 :: .inBlock 0 :: k) H Q := run_block
def c29_3 : AC := .seq c29_4 c29_5
theorem n29_3 : Run Cx 29 T ds ro (.code c29_3 :: k) H Q = Run Cx 29 T ds ro (.code c29_4 :: .code c29_5 :: k) H Q := run_seq
def o29_26 : List AO := [{ dst := (some 4), op := .assign (.const (.int .i64 (-1))), ty := 3, guard := none }]
def c29_26 : AC := .region o29_26 []
theorem n29_26 : Run Cx 29 T ds ro (.code c29_26 :: k) H Q = RunOps Cx 29 T ds ro o29_26 k H Q := run_region
def c29_27 : AC := .ret
theorem n29_27 : Run Cx 29 T [] none (.code c29_27 :: k) H Q = RunRes Cx T H Q (resOf Cx 29) := run_ret
def c29_25 : AC := .seq c29_26 c29_27
theorem n29_25 : Run Cx 29 T ds ro (.code c29_25 :: k) H Q = Run Cx 29 T ds ro (.code c29_26 :: .code c29_27 :: k) H Q := run_seq
def c29_2 : AC := .seq c29_3 c29_25
theorem n29_2 : Run Cx 29 T ds ro (.code c29_2 :: k) H Q = Run Cx 29 T ds ro (.code c29_3 :: .code c29_25 :: k) H Q := run_seq
def c29_0 : AC := .seq c29_1 c29_2
theorem n29_0 : Run Cx 29 T ds ro (.code c29_0 :: k) H Q = Run Cx 29 T ds ro (.code c29_1 :: .code c29_2 :: k) H Q := run_seq
theorem body29 : bodyOf Cx 29 = some c29_0 := by kernel_rfl
theorem res29 : resOf Cx 29 = some [.tmp 4] := by kernel_rfl
theorem pure29 : Cx.pure 29 = false := by kernel_rfl
-- RULES 29: n29_0, n29_1, n29_2, n29_3, n29_4, n29_5, n29_6, n29_7, n29_8, n29_9, n29_10, n29_11, n29_12, n29_13, n29_14, n29_15, n29_16, n29_17, n29_18, n29_19, n29_20, n29_21, n29_22, n29_23, n29_24, n29_25, n29_26, n29_27
def o30_1 : List AO := [{ dst := (some 1), op := .box 34 (.tmp 0), ty := 0, guard := none },
  { dst := (some 2), op := .assign (.const (.bool false)), ty := 4, guard := none }]
def c30_1 : AC := .region o30_1 []
theorem n30_1 : Run Cx 30 T ds ro (.code c30_1 :: k) H Q = RunOps Cx 30 T ds ro o30_1 k H Q := run_region
def o30_3 : List AO := [{ dst := (some 3), op := .fieldAddr 34 (.tmp 1) 0, ty := 0, guard := none },
  { dst := (some 4), op := .load 3 (.tmp 3), ty := 3, guard := none },
  { dst := (some 5), op := .call { callee := (.value (.func 38)), args := #[(.tmp 4)], argTypes := #[3] }, ty := 4, guard := none },
  { dst := (some 6), op := .move (.tmp 5), ty := 4, guard := none },
  { dst := (some 7), op := .fieldAddr 34 (.tmp 1) 1, ty := 0, guard := (some (6, true)) },
  { dst := (some 8), op := .load 3 (.tmp 7), ty := 3, guard := (some (6, true)) },
  { dst := (some 9), op := .call { callee := (.value (.func 38)), args := #[(.tmp 8)], argTypes := #[3] }, ty := 4, guard := (some (6, true)) },
  { dst := (some 10), op := .pick (.tmp 6) (.tmp 9) (.const (.bool false)), ty := 4, guard := none },
  { dst := (some 2), op := .assign (.tmp 10), ty := 4, guard := none }]
def c30_3 : AC := .region o30_3 []
theorem n30_3 : Run Cx 30 T ds ro (.code c30_3 :: k) H Q = RunOps Cx 30 T ds ro o30_3 k H Q := run_region
def c30_4 : AC := .ret
theorem n30_4 : Run Cx 30 T [] none (.code c30_4 :: k) H Q = RunRes Cx T H Q (resOf Cx 30) := run_ret
def c30_2 : AC := .seq c30_3 c30_4
theorem n30_2 : Run Cx 30 T ds ro (.code c30_2 :: k) H Q = Run Cx 30 T ds ro (.code c30_3 :: .code c30_4 :: k) H Q := run_seq
def c30_0 : AC := .seq c30_1 c30_2
theorem n30_0 : Run Cx 30 T ds ro (.code c30_0 :: k) H Q = Run Cx 30 T ds ro (.code c30_1 :: .code c30_2 :: k) H Q := run_seq
theorem body30 : bodyOf Cx 30 = some c30_0 := by kernel_rfl
theorem res30 : resOf Cx 30 = some [.tmp 2] := by kernel_rfl
theorem pure30 : Cx.pure 30 = true := by kernel_rfl
-- RULES 30: n30_0, n30_1, n30_2, n30_3, n30_4
def o31_1 : List AO := [{ dst := (some 2), op := .assign (.const (.int .i64 0)), ty := 3, guard := none },
  { dst := (some 3), op := .assign (.const (.int .i64 0)), ty := 3, guard := none },
  { dst := (some 4), op := .assign (.const (.int .i64 0)), ty := 27, guard := none }]
def c31_1 : AC := .region o31_1 []
theorem n31_1 : Run Cx 31 T ds ro (.code c31_1 :: k) H Q = RunOps Cx 31 T ds ro o31_1 k H Q := run_region
def o31_4 : List AO := [{ dst := (some 5), op := .assign (.const (.int .i64 0)), ty := 3, guard := none },
  { dst := (some 6), op := .assign (.const (.int .i64 0)), ty := 3, guard := none },
  { dst := (some 7), op := .assign (.const (.int .i64 0)), ty := 3, guard := none }]
def c31_4 : AC := .region o31_4 []
theorem n31_4 : Run Cx 31 T ds ro (.code c31_4 :: k) H Q = RunOps Cx 31 T ds ro o31_4 k H Q := run_region
def c31_6 : AC := .label 0
theorem n31_6 : Run Cx 31 T ds ro (.code c31_6 :: k) H Q = Run Cx 31 T ds ro (k) H Q := run_label
def o31_9 : List AO := [{ dst := (some 9), op := .move (.tmp 6), ty := 3, guard := none },
  { dst := (some 10), op := .move (.tmp 0), ty := 54, guard := none },
  { dst := (some 11), op := .call { callee := (.value (.func 34)), args := #[(.tmp 10)], argTypes := #[54] }, ty := 3, guard := none },
  { dst := (some 12), op := .binOp .geq 3 (.tmp 9) (.tmp 11) 3, ty := 4, guard := none }]
def c31_9 : AC := .region o31_9 []
theorem n31_9 : Run Cx 31 T ds ro (.code c31_9 :: k) H Q = RunOps Cx 31 T ds ro o31_9 k H Q := run_region
def o31_12 : List AO := [{ dst := (some 2), op := .assign (.const (.int .i64 0)), ty := 3, guard := none },
  { dst := (some 3), op := .assign (.const (.int .i64 0)), ty := 3, guard := none },
  { dst := (some 4), op := .assign (.const (.int .i64 2)), ty := 27, guard := none }]
def c31_12 : AC := .region o31_12 []
theorem n31_12 : Run Cx 31 T ds ro (.code c31_12 :: k) H Q = RunOps Cx 31 T ds ro o31_12 k H Q := run_region
def c31_13 : AC := .ret
theorem n31_13 : Run Cx 31 T [] none (.code c31_13 :: k) H Q = RunRes Cx T H Q (resOf Cx 31) := run_ret
def c31_11 : AC := .seq c31_12 c31_13
theorem n31_11 : Run Cx 31 T ds ro (.code c31_11 :: k) H Q = Run Cx 31 T ds ro (.code c31_12 :: .code c31_13 :: k) H Q := run_seq
def c31_14 : AC := .skip
theorem n31_14 : Run Cx 31 T ds ro (.code c31_14 :: k) H Q = Run Cx 31 T ds ro (k) H Q := run_skip
def c31_10 : AC := .cond (.tmp 12) c31_11 c31_14
theorem n31_10 : Run Cx 31 T ds ro (.code c31_10 :: k) H Q = RunCond Cx 31 T ds ro (.tmp 12) (ev T (.tmp 12)) c31_11 c31_14 k H Q := run_condC
def c31_8 : AC := .seq c31_9 c31_10
theorem n31_8 : Run Cx 31 T ds ro (.code c31_8 :: k) H Q = Run Cx 31 T ds ro (.code c31_9 :: .code c31_10 :: k) H Q := run_seq
def o31_16 : List AO := [{ dst := (some 13), op := .move (.tmp 0), ty := 54, guard := none },
  { dst := (some 14), op := .nilCheck (.tmp 13), ty := 0, guard := none },
  { dst := (some 15), op := .fieldAddr 66 (.tmp 14) 0, ty := 0, guard := none },
  { dst := (some 16), op := .load 9 (.tmp 15), ty := 9, guard := none },
  { dst := (some 17), op := .move (.tmp 0), ty := 54, guard := none },
  { dst := (some 18), op := .nilCheck (.tmp 17), ty := 0, guard := none },
  { dst := (some 19), op := .fieldAddr 66 (.tmp 18) 1, ty := 0, guard := none },
  { dst := (some 20), op := .load 3 (.tmp 19), ty := 3, guard := none },
  { dst := (some 21), op := .move (.tmp 6), ty := 3, guard := none },
  { dst := (some 22), op := .binOp .add 3 (.tmp 20) (.tmp 21) 3, ty := 3, guard := none },
  { dst := (some 23), op := .index 9 (.tmp 16) (.tmp 22), ty := 5, guard := none },
  { dst := (some 24), op := .convert 5 3 (.tmp 23), ty := 3, guard := none },
  { dst := (some 8), op := .assign (.tmp 24), ty := 3, guard := none }]
def c31_16 : AC := .region o31_16 []
theorem n31_16 : Run Cx 31 T ds ro (.code c31_16 :: k) H Q = RunOps Cx 31 T ds ro o31_16 k H Q := run_region
def o31_18 : List AO := [{ dst := (some 25), op := .move (.tmp 5), ty := 3, guard := none },
  { dst := (some 26), op := .move (.tmp 8), ty := 3, guard := none },
  { dst := (some 27), op := .binOp .rem 3 (.tmp 26) (.const (.int .i64 128)) 3, ty := 3, guard := none },
  { dst := (some 28), op := .move (.tmp 7), ty := 3, guard := none },
  { dst := (some 29), op := .binOp .shl 3 (.tmp 27) (.tmp 28) 3, ty := 3, guard := none },
  { dst := (some 30), op := .binOp .add 3 (.tmp 25) (.tmp 29) 3, ty := 3, guard := none },
  { dst := (some 5), op := .assign (.tmp 30), ty := 3, guard := none }]
def c31_18 : AC := .region o31_18 []
theorem n31_18 : Run Cx 31 T ds ro (.code c31_18 :: k) H Q = RunOps Cx 31 T ds ro o31_18 k H Q := run_region
def o31_20 : List AO := [{ dst := (some 31), op := .move (.tmp 6), ty := 3, guard := none },
  { dst := (some 32), op := .binOp .add 3 (.tmp 31) (.const (.int .i64 1)) 3, ty := 3, guard := none },
  { dst := (some 33), op := .move (.tmp 7), ty := 3, guard := none },
  { dst := (some 34), op := .binOp .add 3 (.tmp 33) (.const (.int .i64 7)) 3, ty := 3, guard := none },
  { dst := (some 6), op := .assign (.tmp 32), ty := 3, guard := none },
  { dst := (some 7), op := .assign (.tmp 34), ty := 3, guard := none }]
def c31_20 : AC := .region o31_20 []
theorem n31_20 : Run Cx 31 T ds ro (.code c31_20 :: k) H Q = RunOps Cx 31 T ds ro o31_20 k H Q := run_region
def o31_23 : List AO := [{ dst := (some 35), op := .move (.tmp 8), ty := 3, guard := none },
  { dst := (some 36), op := .binOp .geq 3 (.tmp 35) (.const (.int .i64 128)) 3, ty := 4, guard := none },
  { dst := (some 37), op := .move (.tmp 36), ty := 4, guard := none },
  { dst := (some 38), op := .move (.tmp 6), ty := 3, guard := (some (37, true)) },
  { dst := (some 39), op := .binOp .lss 3 (.tmp 38) (.const (.int .i64 8)) 3, ty := 4, guard := (some (37, true)) },
  { dst := (some 40), op := .pick (.tmp 37) (.tmp 39) (.const (.bool false)), ty := 4, guard := none }]
def c31_23 : AC := .region o31_23 []
theorem n31_23 : Run Cx 31 T ds ro (.code c31_23 :: k) H Q = RunOps Cx 31 T ds ro o31_23 k H Q := run_region
def c31_25 : AC := .goto 0
def c31_26 : AC := .skip
theorem n31_26 : Run Cx 31 T ds ro (.code c31_26 :: k) H Q = Run Cx 31 T ds ro (k) H Q := run_skip
def c31_24 : AC := .cond (.tmp 40) c31_25 c31_26
theorem n31_24 : Run Cx 31 T ds ro (.code c31_24 :: k) H Q = RunCond Cx 31 T ds ro (.tmp 40) (ev T (.tmp 40)) c31_25 c31_26 k H Q := run_condC
def c31_22 : AC := .seq c31_23 c31_24
theorem n31_22 : Run Cx 31 T ds ro (.code c31_22 :: k) H Q = Run Cx 31 T ds ro (.code c31_23 :: .code c31_24 :: k) H Q := run_seq
def o31_29 : List AO := [{ dst := (some 41), op := .move (.tmp 8), ty := 3, guard := none },
  { dst := (some 42), op := .binOp .geq 3 (.tmp 41) (.const (.int .i64 128)) 3, ty := 4, guard := none },
  { dst := (some 43), op := .move (.tmp 42), ty := 4, guard := none },
  { dst := (some 44), op := .move (.tmp 8), ty := 3, guard := (some (43, false)) },
  { dst := (some 45), op := .binOp .eql 3 (.tmp 44) (.const (.int .i64 0)) 3, ty := 4, guard := (some (43, false)) },
  { dst := (some 46), op := .move (.tmp 45), ty := 4, guard := (some (43, false)) },
  { dst := (some 47), op := .move (.tmp 6), ty := 3, guard := (some (46, true)) },
  { dst := (some 48), op := .binOp .gtr 3 (.tmp 47) (.const (.int .i64 1)) 3, ty := 4, guard := (some (46, true)) },
  { dst := (some 49), op := .pick (.tmp 46) (.tmp 48) (.const (.bool false)), ty := 4, guard := (some (43, false)) },
  { dst := (some 50), op := .pick (.tmp 43) (.const (.bool true)) (.tmp 49), ty := 4, guard := none },
  { dst := (some 51), op := .move (.tmp 50), ty := 4, guard := none },
  { dst := (some 52), op := .move (.tmp 5), ty := 3, guard := (some (51, false)) },
  { dst := (some 53), op := .binOp .gtr 3 (.tmp 52) (.const (.int .i64 9007199254740991)) 3, ty := 4, guard := (some (51, false)) },
  { dst := (some 54), op := .pick (.tmp 51) (.const (.bool true)) (.tmp 53), ty := 4, guard := none }]
def c31_29 : AC := .region o31_29 []
theorem n31_29 : Run Cx 31 T ds ro (.code c31_29 :: k) H Q = RunOps Cx 31 T ds ro o31_29 k H Q := run_region
def o31_32 : List AO := [{ dst := (some 2), op := .assign (.const (.int .i64 0)), ty := 3, guard := none },
  { dst := (some 3), op := .assign (.const (.int .i64 0)), ty := 3, guard := none },
  { dst := (some 4), op := .assign (.const (.int .i64 6)), ty := 27, guard := none }]
def c31_32 : AC := .region o31_32 []
theorem n31_32 : Run Cx 31 T ds ro (.code c31_32 :: k) H Q = RunOps Cx 31 T ds ro o31_32 k H Q := run_region
def c31_33 : AC := .ret
theorem n31_33 : Run Cx 31 T [] none (.code c31_33 :: k) H Q = RunRes Cx T H Q (resOf Cx 31) := run_ret
def c31_31 : AC := .seq c31_32 c31_33
theorem n31_31 : Run Cx 31 T ds ro (.code c31_31 :: k) H Q = Run Cx 31 T ds ro (.code c31_32 :: .code c31_33 :: k) H Q := run_seq
def c31_34 : AC := .skip
theorem n31_34 : Run Cx 31 T ds ro (.code c31_34 :: k) H Q = Run Cx 31 T ds ro (k) H Q := run_skip
def c31_30 : AC := .cond (.tmp 54) c31_31 c31_34
theorem n31_30 : Run Cx 31 T ds ro (.code c31_30 :: k) H Q = RunCond Cx 31 T ds ro (.tmp 54) (ev T (.tmp 54)) c31_31 c31_34 k H Q := run_condC
def c31_28 : AC := .seq c31_29 c31_30
theorem n31_28 : Run Cx 31 T ds ro (.code c31_28 :: k) H Q = Run Cx 31 T ds ro (.code c31_29 :: .code c31_30 :: k) H Q := run_seq
def o31_36 : List AO := [{ dst := (some 55), op := .move (.tmp 5), ty := 3, guard := none },
  { dst := (some 56), op := .move (.tmp 6), ty := 3, guard := none },
  { dst := (some 2), op := .assign (.tmp 55), ty := 3, guard := none },
  { dst := (some 3), op := .assign (.tmp 56), ty := 3, guard := none },
  { dst := (some 4), op := .assign (.const (.int .i64 0)), ty := 27, guard := none }]
def c31_36 : AC := .region o31_36 []
theorem n31_36 : Run Cx 31 T ds ro (.code c31_36 :: k) H Q = RunOps Cx 31 T ds ro o31_36 k H Q := run_region
def c31_37 : AC := .ret
theorem n31_37 : Run Cx 31 T [] none (.code c31_37 :: k) H Q = RunRes Cx T H Q (resOf Cx 31) := run_ret
def c31_35 : AC := .seq c31_36 c31_37
theorem n31_35 : Run Cx 31 T ds ro (.code c31_35 :: k) H Q = Run Cx 31 T ds ro (.code c31_36 :: .code c31_37 :: k) H Q := run_seq
def c31_27 : AC := .seq c31_28 c31_35
theorem n31_27 : Run Cx 31 T ds ro (.code c31_27 :: k) H Q = Run Cx 31 T ds ro (.code c31_28 :: .code c31_35 :: k) H Q := run_seq
def c31_21 : AC := .seq c31_22 c31_27
theorem n31_21 : Run Cx 31 T ds ro (.code c31_21 :: k) H Q = Run Cx 31 T ds ro (.code c31_22 :: .code c31_27 :: k) H Q := run_seq
def c31_19 : AC := .seq c31_20 c31_21
theorem n31_19 : Run Cx 31 T ds ro (.code c31_19 :: k) H Q = Run Cx 31 T ds ro (.code c31_20 :: .code c31_21 :: k) H Q := run_seq
def c31_17 : AC := .seq c31_18 c31_19
theorem n31_17 : Run Cx 31 T ds ro (.code c31_17 :: k) H Q = Run Cx 31 T ds ro (.code c31_18 :: .code c31_19 :: k) H Q := run_seq
def c31_15 : AC := .seq c31_16 c31_17
theorem n31_15 : Run Cx 31 T ds ro (.code c31_15 :: k) H Q = Run Cx 31 T ds ro (.code c31_16 :: .code c31_17 :: k) H Q := run_seq
def c31_7 : AC := .seq c31_8 c31_15
theorem n31_7 : Run Cx 31 T ds ro (.code c31_7 :: k) H Q = Run Cx 31 T ds ro (.code c31_8 :: .code c31_15 :: k) H Q := run_seq
def c31_5 : AC := .seq c31_6 c31_7
theorem n31_5 : Run Cx 31 T ds ro (.code c31_5 :: k) H Q = Run Cx 31 T ds ro (.code c31_6 :: .code c31_7 :: k) H Q := run_seq
def c31_3 : AC := .seq c31_4 c31_5
theorem n31_3 : Run Cx 31 T ds ro (.code c31_3 :: k) H Q = Run Cx 31 T ds ro (.code c31_4 :: .code c31_5 :: k) H Q := run_seq
def c31_2 : AC := .scope c31_3
theorem n31_2 : Run Cx 31 T ds ro (.code c31_2 :: k) H Q = Run Cx 31 T ds ro (.code c31_3 :: .inScope c31_3 :: k) H Q := run_scope
def c31_0 : AC := .seq c31_1 c31_2
theorem n31_0 : Run Cx 31 T ds ro (.code c31_0 :: k) H Q = Run Cx 31 T ds ro (.code c31_1 :: .code c31_2 :: k) H Q := run_seq
theorem body31 : bodyOf Cx 31 = some c31_0 := by kernel_rfl
theorem res31 : resOf Cx 31 = some [.tmp 2, .tmp 3, .tmp 4] := by kernel_rfl
theorem pure31 : Cx.pure 31 = false := by kernel_rfl
-- RULES 31: n31_0, n31_1, n31_2, n31_3, n31_4, n31_5, n31_6, n31_7, n31_8, n31_9, n31_10, n31_11, n31_12, n31_13, n31_14, n31_15, n31_16, n31_17, n31_18, n31_19, n31_20, n31_21, n31_22, n31_23, n31_24, n31_25, n31_26, n31_27, n31_28, n31_29, n31_30, n31_31, n31_32, n31_33, n31_34, n31_35, n31_36, n31_37
def o32_1 : List AO := [{ dst := (some 4), op := .assign (.const (.string ⟨#[]⟩)), ty := 9, guard := none },
  { dst := (some 5), op := .assign (.const (.int .i64 0)), ty := 27, guard := none }]
def c32_1 : AC := .region o32_1 []
theorem n32_1 : Run Cx 32 T ds ro (.code c32_1 :: k) H Q = RunOps Cx 32 T ds ro o32_1 k H Q := run_region
def o32_3 : List AO := [{ dst := (some 11), op := .move (.tmp 0), ty := 54, guard := none },
  { dst := (some 12), op := .call { callee := (.value (.func 31)), args := #[(.tmp 11)], argTypes := #[54] }, ty := 67, guard := none },
  { dst := (some 10), op := .move (.tmp 12), ty := 67, guard := none },
  { dst := (some 13), op := .extract (.tmp 10) 0, ty := 3, guard := none },
  { dst := (some 14), op := .extract (.tmp 10) 1, ty := 3, guard := none },
  { dst := (some 15), op := .extract (.tmp 10) 2, ty := 27, guard := none },
  { dst := (some 6), op := .assign (.tmp 13), ty := 3, guard := none },
  { dst := (some 7), op := .assign (.tmp 14), ty := 3, guard := none },
  { dst := (some 8), op := .assign (.tmp 15), ty := 27, guard := none }]
def c32_3 : AC := .region o32_3 []
theorem n32_3 : Run Cx 32 T ds ro (.code c32_3 :: k) H Q = RunOps Cx 32 T ds ro o32_3 k H Q := run_region
def o32_7 : List AO := [{ dst := (some 17), op := .move (.tmp 8), ty := 27, guard := none },
  { dst := (some 18), op := .binOp .neq 27 (.tmp 17) (.const (.int .i64 0)) 27, ty := 4, guard := none },
  { dst := (some 16), op := .assign (.tmp 18), ty := 4, guard := none }]
def c32_7 : AC := .region o32_7 []
theorem n32_7 : Run Cx 32 T ds ro (.code c32_7 :: k) H Q = RunOps Cx 32 T ds ro o32_7 k H Q := run_region
def o32_10 : List AO := [{ dst := (some 19), op := .move (.tmp 8), ty := 27, guard := none },
  { dst := (some 4), op := .assign (.const (.string ⟨#[]⟩)), ty := 9, guard := none },
  { dst := (some 5), op := .assign (.tmp 19), ty := 27, guard := none }]
def c32_10 : AC := .region o32_10 []
theorem n32_10 : Run Cx 32 T ds ro (.code c32_10 :: k) H Q = RunOps Cx 32 T ds ro o32_10 k H Q := run_region
def c32_11 : AC := .ret
theorem n32_11 : Run Cx 32 T [] none (.code c32_11 :: k) H Q = RunRes Cx T H Q (resOf Cx 32) := run_ret
def c32_9 : AC := .seq c32_10 c32_11
theorem n32_9 : Run Cx 32 T ds ro (.code c32_9 :: k) H Q = Run Cx 32 T ds ro (.code c32_10 :: .code c32_11 :: k) H Q := run_seq
def o32_13 : List AO := [{ dst := (some 21), op := .move (.tmp 6), ty := 3, guard := none },
  { dst := (some 22), op := .move (.tmp 1), ty := 3, guard := none },
  { dst := (some 23), op := .binOp .gtr 3 (.tmp 21) (.tmp 22) 3, ty := 4, guard := none },
  { dst := (some 20), op := .assign (.tmp 23), ty := 4, guard := none }]
def c32_13 : AC := .region o32_13 []
theorem n32_13 : Run Cx 32 T ds ro (.code c32_13 :: k) H Q = RunOps Cx 32 T ds ro o32_13 k H Q := run_region
def o32_16 : List AO := [{ dst := (some 4), op := .assign (.const (.string ⟨#[]⟩)), ty := 9, guard := none },
  { dst := (some 5), op := .assign (.const (.int .i64 3)), ty := 27, guard := none }]
def c32_16 : AC := .region o32_16 []
theorem n32_16 : Run Cx 32 T ds ro (.code c32_16 :: k) H Q = RunOps Cx 32 T ds ro o32_16 k H Q := run_region
def c32_17 : AC := .ret
theorem n32_17 : Run Cx 32 T [] none (.code c32_17 :: k) H Q = RunRes Cx T H Q (resOf Cx 32) := run_ret
def c32_15 : AC := .seq c32_16 c32_17
theorem n32_15 : Run Cx 32 T ds ro (.code c32_15 :: k) H Q = Run Cx 32 T ds ro (.code c32_16 :: .code c32_17 :: k) H Q := run_seq
def o32_19 : List AO := [{ dst := (some 25), op := .move (.tmp 6), ty := 3, guard := none },
  { dst := (some 26), op := .move (.tmp 0), ty := 54, guard := none },
  { dst := (some 27), op := .call { callee := (.value (.func 34)), args := #[(.tmp 26)], argTypes := #[54] }, ty := 3, guard := none },
  { dst := (some 28), op := .move (.tmp 7), ty := 3, guard := none },
  { dst := (some 29), op := .binOp .sub 3 (.tmp 27) (.tmp 28) 3, ty := 3, guard := none },
  { dst := (some 30), op := .binOp .gtr 3 (.tmp 25) (.tmp 29) 3, ty := 4, guard := none },
  { dst := (some 24), op := .assign (.tmp 30), ty := 4, guard := none }]
def c32_19 : AC := .region o32_19 []
theorem n32_19 : Run Cx 32 T ds ro (.code c32_19 :: k) H Q = RunOps Cx 32 T ds ro o32_19 k H Q := run_region
def o32_22 : List AO := [{ dst := (some 4), op := .assign (.const (.string ⟨#[]⟩)), ty := 9, guard := none },
  { dst := (some 5), op := .assign (.const (.int .i64 2)), ty := 27, guard := none }]
def c32_22 : AC := .region o32_22 []
theorem n32_22 : Run Cx 32 T ds ro (.code c32_22 :: k) H Q = RunOps Cx 32 T ds ro o32_22 k H Q := run_region
def c32_23 : AC := .ret
theorem n32_23 : Run Cx 32 T [] none (.code c32_23 :: k) H Q = RunRes Cx T H Q (resOf Cx 32) := run_ret
def c32_21 : AC := .seq c32_22 c32_23
theorem n32_21 : Run Cx 32 T ds ro (.code c32_21 :: k) H Q = Run Cx 32 T ds ro (.code c32_22 :: .code c32_23 :: k) H Q := run_seq
def c32_24 : AC := .skip
theorem n32_24 : Run Cx 32 T ds ro (.code c32_24 :: k) H Q = Run Cx 32 T ds ro (k) H Q := run_skip
def c32_20 : AC := .cond (.tmp 24) c32_21 c32_24
theorem n32_20 : Run Cx 32 T ds ro (.code c32_20 :: k) H Q = RunCond Cx 32 T ds ro (.tmp 24) (ev T (.tmp 24)) c32_21 c32_24 k H Q := run_condC
def c32_18 : AC := .seq c32_19 c32_20
theorem n32_18 : Run Cx 32 T ds ro (.code c32_18 :: k) H Q = Run Cx 32 T ds ro (.code c32_19 :: .code c32_20 :: k) H Q := run_seq
def c32_14 : AC := .cond (.tmp 20) c32_15 c32_18
theorem n32_14 : Run Cx 32 T ds ro (.code c32_14 :: k) H Q = RunCond Cx 32 T ds ro (.tmp 20) (ev T (.tmp 20)) c32_15 c32_18 k H Q := run_condC
def c32_12 : AC := .seq c32_13 c32_14
theorem n32_12 : Run Cx 32 T ds ro (.code c32_12 :: k) H Q = Run Cx 32 T ds ro (.code c32_13 :: .code c32_14 :: k) H Q := run_seq
def c32_8 : AC := .cond (.tmp 16) c32_9 c32_12
theorem n32_8 : Run Cx 32 T ds ro (.code c32_8 :: k) H Q = RunCond Cx 32 T ds ro (.tmp 16) (ev T (.tmp 16)) c32_9 c32_12 k H Q := run_condC
def c32_6 : AC := .seq c32_7 c32_8
theorem n32_6 : Run Cx 32 T ds ro (.code c32_6 :: k) H Q = Run Cx 32 T ds ro (.code c32_7 :: .code c32_8 :: k) H Q := run_seq
def c32_5 : AC := .block 0 c32_6
theorem n32_5 : Run Cx 32 T ds ro (.code c32_5 :: k) H Q = Run Cx 32 T ds ro (.code c32_6 :: .inBlock 0 :: k) H Q := run_block
def o32_26 : List AO := [{ dst := (some 31), op := .move (.tmp 0), ty := 54, guard := none },
  { dst := (some 32), op := .nilCheck (.tmp 31), ty := 0, guard := none },
  { dst := (some 33), op := .fieldAddr 66 (.tmp 32) 1, ty := 0, guard := none },
  { dst := (some 34), op := .load 3 (.tmp 33), ty := 3, guard := none },
  { dst := (some 35), op := .move (.tmp 7), ty := 3, guard := none },
  { dst := (some 36), op := .binOp .add 3 (.tmp 34) (.tmp 35) 3, ty := 3, guard := none },
  { dst := (some 9), op := .assign (.tmp 36), ty := 3, guard := none }]
def c32_26 : AC := .region o32_26 []
theorem n32_26 : Run Cx 32 T ds ro (.code c32_26 :: k) H Q = RunOps Cx 32 T ds ro o32_26 k H Q := run_region
def o32_28 : List AO := [{ dst := (some 37), op := .move (.tmp 0), ty := 54, guard := none },
  { dst := (some 38), op := .move (.tmp 9), ty := 3, guard := none },
  { dst := (some 39), op := .move (.tmp 6), ty := 3, guard := none },
  { dst := (some 40), op := .binOp .add 3 (.tmp 38) (.tmp 39) 3, ty := 3, guard := none },
  { dst := (some 41), op := .nilCheck (.tmp 37), ty := 0, guard := none },
  { dst := (some 42), op := .fieldAddr 66 (.tmp 41) 1, ty := 0, guard := none },
  { dst := none, op := .store 3 (.tmp 42) (.tmp 40), ty := 0, guard := none }]
def c32_28 : AC := .region o32_28 []
theorem n32_28 : Run Cx 32 T ds ro (.code c32_28 :: k) H Q = RunOps Cx 32 T ds ro o32_28 k H Q := run_region
def o32_30 : List AO := [{ dst := (some 43), op := .move (.tmp 0), ty := 54, guard := none },
  { dst := (some 44), op := .nilCheck (.tmp 43), ty := 0, guard := none },
  { dst := (some 45), op := .fieldAddr 66 (.tmp 44) 0, ty := 0, guard := none },
  { dst := (some 46), op := .load 9 (.tmp 45), ty := 9, guard := none },
  { dst := (some 47), op := .move (.tmp 9), ty := 3, guard := none },
  { dst := (some 48), op := .move (.tmp 0), ty := 54, guard := none },
  { dst := (some 49), op := .nilCheck (.tmp 48), ty := 0, guard := none },
  { dst := (some 50), op := .fieldAddr 66 (.tmp 49) 1, ty := 0, guard := none },
  { dst := (some 51), op := .load 3 (.tmp 50), ty := 3, guard := none },
  { dst := (some 52), op := .slice 9 (.tmp 46) (some (.tmp 47)) (some (.tmp 51)) none, ty := 9, guard := none },
  { dst := (some 4), op := .assign (.tmp 52), ty := 9, guard := none },
  { dst := (some 5), op := .assign (.const (.int .i64 0)), ty := 27, guard := none }]
def c32_30 : AC := .region o32_30 []
theorem n32_30 : Run Cx 32 T ds ro (.code c32_30 :: k) H Q = RunOps Cx 32 T ds ro o32_30 k H Q := run_region
def c32_31 : AC := .ret
theorem n32_31 : Run Cx 32 T [] none (.code c32_31 :: k) H Q = RunRes Cx T H Q (resOf Cx 32) := run_ret
def c32_29 : AC := .seq c32_30 c32_31
theorem n32_29 : Run Cx 32 T ds ro (.code c32_29 :: k) H Q = Run Cx 32 T ds ro (.code c32_30 :: .code c32_31 :: k) H Q := run_seq
def c32_27 : AC := .seq c32_28 c32_29
theorem n32_27 : Run Cx 32 T ds ro (.code c32_27 :: k) H Q = Run Cx 32 T ds ro (.code c32_28 :: .code c32_29 :: k) H Q := run_seq
def c32_25 : AC := .seq c32_26 c32_27
theorem n32_25 : Run Cx 32 T ds ro (.code c32_25 :: k) H Q = Run Cx 32 T ds ro (.code c32_26 :: .code c32_27 :: k) H Q := run_seq
def c32_4 : AC := .seq c32_5 c32_25
theorem n32_4 : Run Cx 32 T ds ro (.code c32_4 :: k) H Q = Run Cx 32 T ds ro (.code c32_5 :: .code c32_25 :: k) H Q := run_seq
def c32_2 : AC := .seq c32_3 c32_4
theorem n32_2 : Run Cx 32 T ds ro (.code c32_2 :: k) H Q = Run Cx 32 T ds ro (.code c32_3 :: .code c32_4 :: k) H Q := run_seq
def c32_0 : AC := .seq c32_1 c32_2
theorem n32_0 : Run Cx 32 T ds ro (.code c32_0 :: k) H Q = Run Cx 32 T ds ro (.code c32_1 :: .code c32_2 :: k) H Q := run_seq
theorem body32 : bodyOf Cx 32 = some c32_0 := by kernel_rfl
theorem res32 : resOf Cx 32 = some [.tmp 4, .tmp 5] := by kernel_rfl
theorem pure32 : Cx.pure 32 = false := by kernel_rfl
-- RULES 32: n32_0, n32_1, n32_2, n32_3, n32_4, n32_5, n32_6, n32_7, n32_8, n32_9, n32_10, n32_11, n32_12, n32_13, n32_14, n32_15, n32_16, n32_17, n32_18, n32_19, n32_20, n32_21, n32_22, n32_23, n32_24, n32_25, n32_26, n32_27, n32_28, n32_29, n32_30, n32_31
def o33_1 : List AO := [{ dst := (some 2), op := .alloc 36, ty := 0, guard := none },
  { dst := (some 3), op := .assign (.const (.int .i64 0)), ty := 27, guard := none }]
def c33_1 : AC := .region o33_1 []
theorem n33_1 : Run Cx 33 T ds ro (.code c33_1 :: k) H Q = RunOps Cx 33 T ds ro o33_1 k H Q := run_region
def o33_3 : List AO := [{ dst := (some 11), op := .move (.tmp 0), ty := 54, guard := none },
  { dst := (some 12), op := .call { callee := (.value (.func 39)), args := #[(.tmp 11)], argTypes := #[54] }, ty := 56, guard := none },
  { dst := (some 10), op := .move (.tmp 12), ty := 56, guard := none },
  { dst := (some 13), op := .extract (.tmp 10) 0, ty := 3, guard := none },
  { dst := (some 14), op := .extract (.tmp 10) 1, ty := 27, guard := none },
  { dst := (some 4), op := .assign (.tmp 13), ty := 3, guard := none },
  { dst := (some 5), op := .assign (.tmp 14), ty := 27, guard := none }]
def c33_3 : AC := .region o33_3 []
theorem n33_3 : Run Cx 33 T ds ro (.code c33_3 :: k) H Q = RunOps Cx 33 T ds ro o33_3 k H Q := run_region
def o33_6 : List AO := [{ dst := (some 15), op := .move (.tmp 5), ty := 27, guard := none },
  { dst := (some 16), op := .binOp .neq 27 (.tmp 15) (.const (.int .i64 0)) 27, ty := 4, guard := none }]
def c33_6 : AC := .region o33_6 []
theorem n33_6 : Run Cx 33 T ds ro (.code c33_6 :: k) H Q = RunOps Cx 33 T ds ro o33_6 k H Q := run_region
def o33_9 : List AO := [{ dst := (some 17), op := .build 36 #[], ty := 36, guard := none },
  { dst := (some 18), op := .move (.tmp 5), ty := 27, guard := none },
  { dst := none, op := .store 36 (.tmp 2) (.tmp 17), ty := 0, guard := none },
  { dst := (some 3), op := .assign (.tmp 18), ty := 27, guard := none }]
def c33_9 : AC := .region o33_9 []
theorem n33_9 : Run Cx 33 T ds ro (.code c33_9 :: k) H Q = RunOps Cx 33 T ds ro o33_9 k H Q := run_region
def c33_10 : AC := .ret
theorem n33_10 : Run Cx 33 T [] none (.code c33_10 :: k) H Q = RunRes Cx T H Q (resOf Cx 33) := run_ret
def c33_8 : AC := .seq c33_9 c33_10
theorem n33_8 : Run Cx 33 T ds ro (.code c33_8 :: k) H Q = Run Cx 33 T ds ro (.code c33_9 :: .code c33_10 :: k) H Q := run_seq
def c33_11 : AC := .skip
theorem n33_11 : Run Cx 33 T ds ro (.code c33_11 :: k) H Q = Run Cx 33 T ds ro (k) H Q := run_skip
def c33_7 : AC := .cond (.tmp 16) c33_8 c33_11
theorem n33_7 : Run Cx 33 T ds ro (.code c33_7 :: k) H Q = RunCond Cx 33 T ds ro (.tmp 16) (ev T (.tmp 16)) c33_8 c33_11 k H Q := run_condC
def c33_5 : AC := .seq c33_6 c33_7
theorem n33_5 : Run Cx 33 T ds ro (.code c33_5 :: k) H Q = Run Cx 33 T ds ro (.code c33_6 :: .code c33_7 :: k) H Q := run_seq
def o33_13 : List AO := [{ dst := (some 19), op := .move (.tmp 4), ty := 3, guard := none },
  { dst := (some 20), op := .build 36 #[(0, (.tmp 19))], ty := 36, guard := none },
  { dst := (some 6), op := .alloc 36, ty := 0, guard := none },
  { dst := none, op := .store 36 (.tmp 6) (.tmp 20), ty := 0, guard := none }]
def c33_13 : AC := .region o33_13 []
theorem n33_13 : Run Cx 33 T ds ro (.code c33_13 :: k) H Q = RunOps Cx 33 T ds ro o33_13 k H Q := run_region
def o33_16 : List AO := [{ dst := (some 21), op := .move (.tmp 4), ty := 3, guard := none }]
def c33_16 : AC := .region o33_16 []
theorem n33_16 : Run Cx 33 T ds ro (.code c33_16 :: k) H Q = RunOps Cx 33 T ds ro o33_16 k H Q := run_region
def o33_19 : List AO := [{ dst := (some 23), op := .binOp .eql 3 (.tmp 21) (.const (.int .i64 0)) 3, ty := 4, guard := none },
  { dst := (some 22), op := .assign (.tmp 23), ty := 4, guard := none }]
def c33_19 : AC := .region o33_19 []
theorem n33_19 : Run Cx 33 T ds ro (.code c33_19 :: k) H Q = RunOps Cx 33 T ds ro o33_19 k H Q := run_region
def o33_22 : List AO := [{ dst := (some 25), op := .move (.tmp 0), ty := 54, guard := none },
  { dst := (some 26), op := .makeFunc (.func 41) #[(.tmp 25)] #[], ty := 79, guard := none },
  { dst := (some 27), op := .move (.tmp 0), ty := 54, guard := none },
  { dst := (some 28), op := .makeFunc (.func 39) #[(.tmp 27)] #[], ty := 79, guard := none },
  { dst := (some 29), op := .call { callee := (.value (.func 40)), args := #[(.tmp 26), (.tmp 28)], argTypes := #[79, 79] }, ty := 67, guard := none },
  { dst := (some 24), op := .move (.tmp 29), ty := 67, guard := none },
  { dst := (some 30), op := .extract (.tmp 24) 0, ty := 3, guard := none },
  { dst := (some 31), op := .extract (.tmp 24) 1, ty := 3, guard := none },
  { dst := (some 32), op := .extract (.tmp 24) 2, ty := 27, guard := none },
  { dst := (some 7), op := .assign (.tmp 30), ty := 3, guard := none },
  { dst := (some 8), op := .assign (.tmp 31), ty := 3, guard := none },
  { dst := (some 9), op := .assign (.tmp 32), ty := 27, guard := none }]
def c33_22 : AC := .region o33_22 []
theorem n33_22 : Run Cx 33 T ds ro (.code c33_22 :: k) H Q = RunOps Cx 33 T ds ro o33_22 k H Q := run_region
def o33_25 : List AO := [{ dst := (some 33), op := .move (.tmp 9), ty := 27, guard := none },
  { dst := (some 34), op := .binOp .eql 27 (.tmp 33) (.const (.int .i64 0)) 27, ty := 4, guard := none },
  { dst := (some 35), op := .move (.tmp 34), ty := 4, guard := none },
  { dst := (some 36), op := .move (.tmp 8), ty := 3, guard := (some (35, true)) },
  { dst := (some 37), op := .binOp .geq 3 (.tmp 36) (.const (.int .i64 134217728)) 3, ty := 4, guard := (some (35, true)) },
  { dst := (some 38), op := .move (.tmp 37), ty := 4, guard := (some (35, true)) },
  { dst := (some 39), op := .move (.tmp 7), ty := 3, guard := (some (38, false)) },
  { dst := (some 40), op := .binOp .lss 3 (.tmp 39) (.const (.int .i64 (-134217728))) 3, ty := 4, guard := (some (38, false)) },
  { dst := (some 41), op := .pick (.tmp 38) (.const (.bool true)) (.tmp 40), ty := 4, guard := (some (35, true)) },
  { dst := (some 42), op := .move (.tmp 41), ty := 4, guard := (some (35, true)) },
  { dst := (some 43), op := .move (.tmp 7), ty := 3, guard := (some (42, false)) },
  { dst := (some 44), op := .binOp .gtr 3 (.tmp 43) (.const (.int .i64 134217728)) 3, ty := 4, guard := (some (42, false)) },
  { dst := (some 45), op := .pick (.tmp 42) (.const (.bool true)) (.tmp 44), ty := 4, guard := (some (35, true)) },
  { dst := (some 46), op := .pick (.tmp 35) (.tmp 45) (.const (.bool false)), ty := 4, guard := none }]
def c33_25 : AC := .region o33_25 []
theorem n33_25 : Run Cx 33 T ds ro (.code c33_25 :: k) H Q = RunOps Cx 33 T ds ro o33_25 k H Q := run_region
def o33_27 : List AO := [{ dst := (some 9), op := .assign (.const (.int .i64 6)), ty := 27, guard := none }]
def c33_27 : AC := .region o33_27 []
theorem n33_27 : Run Cx 33 T ds ro (.code c33_27 :: k) H Q = RunOps Cx 33 T ds ro o33_27 k H Q := run_region
def c33_28 : AC := .skip
theorem n33_28 : Run Cx 33 T ds ro (.code c33_28 :: k) H Q = Run Cx 33 T ds ro (k) H Q := run_skip
def c33_26 : AC := .cond (.tmp 46) c33_27 c33_28
theorem n33_26 : Run Cx 33 T ds ro (.code c33_26 :: k) H Q = RunCond Cx 33 T ds ro (.tmp 46) (ev T (.tmp 46)) c33_27 c33_28 k H Q := run_condC
def c33_24 : AC := .seq c33_25 c33_26
theorem n33_24 : Run Cx 33 T ds ro (.code c33_24 :: k) H Q = Run Cx 33 T ds ro (.code c33_25 :: .code c33_26 :: k) H Q := run_seq
def o33_29 : List AO := [{ dst := (some 47), op := .move (.tmp 7), ty := 3, guard := none },
  { dst := (some 48), op := .binOp .mul 3 (.tmp 47) (.const (.int .i64 134217728)) 3, ty := 3, guard := none },
  { dst := (some 49), op := .move (.tmp 8), ty := 3, guard := none },
  { dst := (some 50), op := .binOp .add 3 (.tmp 48) (.tmp 49) 3, ty := 3, guard := none },
  { dst := (some 51), op := .move (.tmp 9), ty := 27, guard := none },
  { dst := (some 52), op := .fieldAddr 36 (.tmp 6) 1, ty := 0, guard := none },
  { dst := none, op := .store 3 (.tmp 52) (.tmp 50), ty := 0, guard := none },
  { dst := (some 5), op := .assign (.tmp 51), ty := 27, guard := none }]
def c33_29 : AC := .region o33_29 []
theorem n33_29 : Run Cx 33 T ds ro (.code c33_29 :: k) H Q = RunOps Cx 33 T ds ro o33_29 k H Q := run_region
def c33_23 : AC := .seq c33_24 c33_29
theorem n33_23 : Run Cx 33 T ds ro (.code c33_23 :: k) H Q = Run Cx 33 T ds ro (.code c33_24 :: .code c33_29 :: k) H Q := run_seq
def c33_21 : AC := .seq c33_22 c33_23
theorem n33_21 : Run Cx 33 T ds ro (.code c33_21 :: k) H Q = Run Cx 33 T ds ro (.code c33_22 :: .code c33_23 :: k) H Q := run_seq
def o33_31 : List AO := [{ dst := (some 54), op := .binOp .eql 3 (.tmp 21) (.const (.int .i64 1)) 3, ty := 4, guard := none },
  { dst := (some 53), op := .assign (.tmp 54), ty := 4, guard := none }]
def c33_31 : AC := .region o33_31 []
theorem n33_31 : Run Cx 33 T ds ro (.code c33_31 :: k) H Q = RunOps Cx 33 T ds ro o33_31 k H Q := run_region
def o33_33 : List AO := [{ dst := (some 56), op := .move (.tmp 0), ty := 54, guard := none },
  { dst := (some 57), op := .call { callee := (.value (.func 32)), args := #[(.tmp 56), (.const (.int .i64 4096))], argTypes := #[54, 3] }, ty := 69, guard := none },
  { dst := (some 55), op := .move (.tmp 57), ty := 69, guard := none },
  { dst := (some 58), op := .extract (.tmp 55) 0, ty := 9, guard := none },
  { dst := (some 59), op := .extract (.tmp 55) 1, ty := 27, guard := none },
  { dst := (some 60), op := .fieldAddr 36 (.tmp 6) 2, ty := 0, guard := none },
  { dst := none, op := .store 9 (.tmp 60) (.tmp 58), ty := 0, guard := none },
  { dst := (some 5), op := .assign (.tmp 59), ty := 27, guard := none }]
def c33_33 : AC := .region o33_33 []
theorem n33_33 : Run Cx 33 T ds ro (.code c33_33 :: k) H Q = RunOps Cx 33 T ds ro o33_33 k H Q := run_region
def o33_35 : List AO := [{ dst := (some 62), op := .binOp .eql 3 (.tmp 21) (.const (.int .i64 2)) 3, ty := 4, guard := none },
  { dst := (some 61), op := .assign (.tmp 62), ty := 4, guard := none }]
def c33_35 : AC := .region o33_35 []
theorem n33_35 : Run Cx 33 T ds ro (.code c33_35 :: k) H Q = RunOps Cx 33 T ds ro o33_35 k H Q := run_region
def o33_37 : List AO := [{ dst := (some 64), op := .move (.tmp 0), ty := 54, guard := none },
  { dst := (some 65), op := .makeFunc (.func 41) #[(.tmp 64)] #[], ty := 79, guard := none },
  { dst := (some 66), op := .move (.tmp 0), ty := 54, guard := none },
  { dst := (some 67), op := .makeFunc (.func 41) #[(.tmp 66)] #[], ty := 79, guard := none },
  { dst := (some 68), op := .call { callee := (.value (.func 40)), args := #[(.tmp 65), (.tmp 67)], argTypes := #[79, 79] }, ty := 67, guard := none },
  { dst := (some 63), op := .move (.tmp 68), ty := 67, guard := none },
  { dst := (some 69), op := .extract (.tmp 63) 0, ty := 3, guard := none },
  { dst := (some 70), op := .extract (.tmp 63) 1, ty := 3, guard := none },
  { dst := (some 71), op := .extract (.tmp 63) 2, ty := 27, guard := none },
  { dst := (some 72), op := .fieldAddr 36 (.tmp 6) 3, ty := 0, guard := none },
  { dst := (some 73), op := .fieldAddr 34 (.tmp 72) 0, ty := 0, guard := none },
  { dst := none, op := .store 3 (.tmp 73) (.tmp 69), ty := 0, guard := none },
  { dst := (some 74), op := .fieldAddr 36 (.tmp 6) 3, ty := 0, guard := none },
  { dst := (some 75), op := .fieldAddr 34 (.tmp 74) 1, ty := 0, guard := none },
  { dst := none, op := .store 3 (.tmp 75) (.tmp 70), ty := 0, guard := none },
  { dst := (some 5), op := .assign (.tmp 71), ty := 27, guard := none }]
def c33_37 : AC := .region o33_37 []
theorem n33_37 : Run Cx 33 T ds ro (.code c33_37 :: k) H Q = RunOps Cx 33 T ds ro o33_37 k H Q := run_region
def c33_38 : AC := .skip
theorem n33_38 : Run Cx 33 T ds ro (.code c33_38 :: k) H Q = Run Cx 33 T ds ro (k) H Q := run_skip
def c33_36 : AC := .cond (.tmp 61) c33_37 c33_38
theorem n33_36 : Run Cx 33 T ds ro (.code c33_36 :: k) H Q = RunCond Cx 33 T ds ro (.tmp 61) (ev T (.tmp 61)) c33_37 c33_38 k H Q := run_condC
def c33_34 : AC := .seq c33_35 c33_36
theorem n33_34 : Run Cx 33 T ds ro (.code c33_34 :: k) H Q = Run Cx 33 T ds ro (.code c33_35 :: .code c33_36 :: k) H Q := run_seq
def c33_32 : AC := .cond (.tmp 53) c33_33 c33_34
theorem n33_32 : Run Cx 33 T ds ro (.code c33_32 :: k) H Q = RunCond Cx 33 T ds ro (.tmp 53) (ev T (.tmp 53)) c33_33 c33_34 k H Q := run_condC
def c33_30 : AC := .seq c33_31 c33_32
theorem n33_30 : Run Cx 33 T ds ro (.code c33_30 :: k) H Q = Run Cx 33 T ds ro (.code c33_31 :: .code c33_32 :: k) H Q := run_seq
def c33_20 : AC := .cond (.tmp 22) c33_21 c33_30
theorem n33_20 : Run Cx 33 T ds ro (.code c33_20 :: k) H Q = RunCond Cx 33 T ds ro (.tmp 22) (ev T (.tmp 22)) c33_21 c33_30 k H Q := run_condC
def c33_18 : AC := .seq c33_19 c33_20
theorem n33_18 : Run Cx 33 T ds ro (.code c33_18 :: k) H Q = Run Cx 33 T ds ro (.code c33_19 :: .code c33_20 :: k) H Q := run_seq
def c33_17 : AC := .block 0 c33_18
theorem n33_17 : Run Cx 33 T ds ro (.code c33_17 :: k) H Q = Run Cx 33 T ds ro (.code c33_18 :: .inBlock 0 :: k) H Q := run_block
def c33_15 : AC := .seq c33_16 c33_17
theorem n33_15 : Run Cx 33 T ds ro (.code c33_15 :: k) H Q = Run Cx 33 T ds ro (.code c33_16 :: .code c33_17 :: k) H Q := run_seq
def o33_42 : List AO := [{ dst := (some 77), op := .move (.tmp 5), ty := 27, guard := none },
  { dst := (some 78), op := .binOp .neq 27 (.tmp 77) (.const (.int .i64 0)) 27, ty := 4, guard := none },
  { dst := (some 76), op := .assign (.tmp 78), ty := 4, guard := none }]
def c33_42 : AC := .region o33_42 []
theorem n33_42 : Run Cx 33 T ds ro (.code c33_42 :: k) H Q = RunOps Cx 33 T ds ro o33_42 k H Q := run_region
def o33_45 : List AO := [{ dst := (some 79), op := .build 36 #[], ty := 36, guard := none },
  { dst := (some 80), op := .move (.tmp 5), ty := 27, guard := none },
  { dst := none, op := .store 36 (.tmp 2) (.tmp 79), ty := 0, guard := none },
  { dst := (some 3), op := .assign (.tmp 80), ty := 27, guard := none }]
def c33_45 : AC := .region o33_45 []
theorem n33_45 : Run Cx 33 T ds ro (.code c33_45 :: k) H Q = RunOps Cx 33 T ds ro o33_45 k H Q := run_region
def c33_46 : AC := .ret
theorem n33_46 : Run Cx 33 T [] none (.code c33_46 :: k) H Q = RunRes Cx T H Q (resOf Cx 33) := run_ret
def c33_44 : AC := .seq c33_45 c33_46
theorem n33_44 : Run Cx 33 T ds ro (.code c33_44 :: k) H Q = Run Cx 33 T ds ro (.code c33_45 :: .code c33_46 :: k) H Q := run_seq
def o33_48 : List AO := [{ dst := (some 82), op := .load 36 (.tmp 6), ty := 36, guard := none },
  { dst := (some 83), op := .call { callee := (.value (.func 19)), args := #[(.tmp 82)], argTypes := #[36] }, ty := 4, guard := none },
  { dst := (some 84), op := .unOp .not 4 (.tmp 83), ty := 4, guard := none },
  { dst := (some 81), op := .assign (.tmp 84), ty := 4, guard := none }]
def c33_48 : AC := .region o33_48 []
theorem n33_48 : Run Cx 33 T ds ro (.code c33_48 :: k) H Q = RunOps Cx 33 T ds ro o33_48 k H Q := run_region
def o33_51 : List AO := [{ dst := (some 85), op := .build 36 #[], ty := 36, guard := none },
  { dst := none, op := .store 36 (.tmp 2) (.tmp 85), ty := 0, guard := none },
  { dst := (some 3), op := .assign (.const (.int .i64 6)), ty := 27, guard := none }]
def c33_51 : AC := .region o33_51 []
theorem n33_51 : Run Cx 33 T ds ro (.code c33_51 :: k) H Q = RunOps Cx 33 T ds ro o33_51 k H Q := run_region
def c33_52 : AC := .ret
theorem n33_52 : Run Cx 33 T [] none (.code c33_52 :: k) H Q = RunRes Cx T H Q (resOf Cx 33) := run_ret
def c33_50 : AC := .seq c33_51 c33_52
theorem n33_50 : Run Cx 33 T ds ro (.code c33_50 :: k) H Q = Run Cx 33 T ds ro (.code c33_51 :: .code c33_52 :: k) H Q := run_seq
def c33_53 : AC := .skip
theorem n33_53 : Run Cx 33 T ds ro (.code c33_53 :: k) H Q = Run Cx 33 T ds ro (k) H Q := run_skip
def c33_49 : AC := .cond (.tmp 81) c33_50 c33_53
theorem n33_49 : Run Cx 33 T ds ro (.code c33_49 :: k) H Q = RunCond Cx 33 T ds ro (.tmp 81) (ev T (.tmp 81)) c33_50 c33_53 k H Q := run_condC
def c33_47 : AC := .seq c33_48 c33_49
theorem n33_47 : Run Cx 33 T ds ro (.code c33_47 :: k) H Q = Run Cx 33 T ds ro (.code c33_48 :: .code c33_49 :: k) H Q := run_seq
def c33_43 : AC := .cond (.tmp 76) c33_44 c33_47
theorem n33_43 : Run Cx 33 T ds ro (.code c33_43 :: k) H Q = RunCond Cx 33 T ds ro (.tmp 76) (ev T (.tmp 76)) c33_44 c33_47 k H Q := run_condC
def c33_41 : AC := .seq c33_42 c33_43
theorem n33_41 : Run Cx 33 T ds ro (.code c33_41 :: k) H Q = Run Cx 33 T ds ro (.code c33_42 :: .code c33_43 :: k) H Q := run_seq
def c33_40 : AC := .block 1 c33_41
theorem n33_40 : Run Cx 33 T ds ro (.code c33_40 :: k) H Q = Run Cx 33 T ds ro (.code c33_41 :: .inBlock 1 :: k) H Q := run_block
def o33_55 : List AO := [{ dst := (some 86), op := .load 36 (.tmp 6), ty := 36, guard := none },
  { dst := none, op := .store 36 (.tmp 2) (.tmp 86), ty := 0, guard := none },
  { dst := (some 3), op := .assign (.const (.int .i64 0)), ty := 27, guard := none }]
def c33_55 : AC := .region o33_55 []
theorem n33_55 : Run Cx 33 T ds ro (.code c33_55 :: k) H Q = RunOps Cx 33 T ds ro o33_55 k H Q := run_region
def c33_56 : AC := .ret
theorem n33_56 : Run Cx 33 T [] none (.code c33_56 :: k) H Q = RunRes Cx T H Q (resOf Cx 33) := run_ret
def c33_54 : AC := .seq c33_55 c33_56
theorem n33_54 : Run Cx 33 T ds ro (.code c33_54 :: k) H Q = Run Cx 33 T ds ro (.code c33_55 :: .code c33_56 :: k) H Q := run_seq
def c33_39 : AC := .seq c33_40 c33_54
theorem n33_39 : Run Cx 33 T ds ro (.code c33_39 :: k) H Q = Run Cx 33 T ds ro (.code c33_40 :: .code c33_54 :: k) H Q := run_seq
def c33_14 : AC := .seq c33_15 c33_39
theorem n33_14 : Run Cx 33 T ds ro (.code c33_14 :: k) H Q = Run Cx 33 T ds ro (.code c33_15 :: .code c33_39 :: k) H Q := run_seq
def c33_12 : AC := .seq c33_13 c33_14
theorem n33_12 : Run Cx 33 T ds ro (.code c33_12 :: k) H Q = Run Cx 33 T ds ro (.code c33_13 :: .code c33_14 :: k) H Q := run_seq
def c33_4 : AC := .seq c33_5 c33_12
theorem n33_4 : Run Cx 33 T ds ro (.code c33_4 :: k) H Q = Run Cx 33 T ds ro (.code c33_5 :: .code c33_12 :: k) H Q := run_seq
def c33_2 : AC := .seq c33_3 c33_4
theorem n33_2 : Run Cx 33 T ds ro (.code c33_2 :: k) H Q = Run Cx 33 T ds ro (.code c33_3 :: .code c33_4 :: k) H Q := run_seq
def c33_0 : AC := .seq c33_1 c33_2
theorem n33_0 : Run Cx 33 T ds ro (.code c33_0 :: k) H Q = Run Cx 33 T ds ro (.code c33_1 :: .code c33_2 :: k) H Q := run_seq
theorem body33 : bodyOf Cx 33 = some c33_0 := by kernel_rfl
theorem res33 : resOf Cx 33 = some [.cell 2 36, .tmp 3] := by kernel_rfl
theorem pure33 : Cx.pure 33 = false := by kernel_rfl
-- RULES 33: n33_0, n33_1, n33_2, n33_3, n33_4, n33_5, n33_6, n33_7, n33_8, n33_9, n33_10, n33_11, n33_12, n33_13, n33_14, n33_15, n33_16, n33_17, n33_18, n33_19, n33_20, n33_21, n33_22, n33_23, n33_24, n33_25, n33_26, n33_27, n33_28, n33_29, n33_30, n33_31, n33_32, n33_33, n33_34, n33_35, n33_36, n33_37, n33_38, n33_39, n33_40, n33_41, n33_42, n33_43, n33_44, n33_45, n33_46, n33_47, n33_48, n33_49, n33_50, n33_51, n33_52, n33_53, n33_54, n33_55, n33_56
def o34_1 : List AO := [{ dst := (some 2), op := .assign (.const (.int .i64 0)), ty := 3, guard := none }]
def c34_1 : AC := .region o34_1 []
theorem n34_1 : Run Cx 34 T ds ro (.code c34_1 :: k) H Q = RunOps Cx 34 T ds ro o34_1 k H Q := run_region
def o34_4 : List AO := [{ dst := (some 3), op := .move (.tmp 0), ty := 54, guard := none },
  { dst := (some 4), op := .binOp .eql 54 (.tmp 3) (.const (.pointer none)) 54, ty := 4, guard := none }]
def c34_4 : AC := .region o34_4 []
theorem n34_4 : Run Cx 34 T ds ro (.code c34_4 :: k) H Q = RunOps Cx 34 T ds ro o34_4 k H Q := run_region
def o34_7 : List AO := [{ dst := (some 2), op := .assign (.const (.int .i64 0)), ty := 3, guard := none }]
def c34_7 : AC := .region o34_7 []
theorem n34_7 : Run Cx 34 T ds ro (.code c34_7 :: k) H Q = RunOps Cx 34 T ds ro o34_7 k H Q := run_region
def c34_8 : AC := .ret
theorem n34_8 : Run Cx 34 T [] none (.code c34_8 :: k) H Q = RunRes Cx T H Q (resOf Cx 34) := run_ret
def c34_6 : AC := .seq c34_7 c34_8
theorem n34_6 : Run Cx 34 T ds ro (.code c34_6 :: k) H Q = Run Cx 34 T ds ro (.code c34_7 :: .code c34_8 :: k) H Q := run_seq
def c34_9 : AC := .skip
theorem n34_9 : Run Cx 34 T ds ro (.code c34_9 :: k) H Q = Run Cx 34 T ds ro (k) H Q := run_skip
def c34_5 : AC := .cond (.tmp 4) c34_6 c34_9
theorem n34_5 : Run Cx 34 T ds ro (.code c34_5 :: k) H Q = RunCond Cx 34 T ds ro (.tmp 4) (ev T (.tmp 4)) c34_6 c34_9 k H Q := run_condC
def c34_3 : AC := .seq c34_4 c34_5
theorem n34_3 : Run Cx 34 T ds ro (.code c34_3 :: k) H Q = Run Cx 34 T ds ro (.code c34_4 :: .code c34_5 :: k) H Q := run_seq
def o34_11 : List AO := [{ dst := (some 5), op := .move (.tmp 0), ty := 54, guard := none },
  { dst := (some 6), op := .nilCheck (.tmp 5), ty := 0, guard := none },
  { dst := (some 7), op := .fieldAddr 66 (.tmp 6) 0, ty := 0, guard := none },
  { dst := (some 8), op := .load 9 (.tmp 7), ty := 9, guard := none },
  { dst := (some 9), op := .call { callee := (.builtin .len), args := #[(.tmp 8)], argTypes := #[9] }, ty := 3, guard := none },
  { dst := (some 10), op := .move (.tmp 0), ty := 54, guard := none },
  { dst := (some 11), op := .nilCheck (.tmp 10), ty := 0, guard := none },
  { dst := (some 12), op := .fieldAddr 66 (.tmp 11) 1, ty := 0, guard := none },
  { dst := (some 13), op := .load 3 (.tmp 12), ty := 3, guard := none },
  { dst := (some 14), op := .binOp .sub 3 (.tmp 9) (.tmp 13) 3, ty := 3, guard := none },
  { dst := (some 2), op := .assign (.tmp 14), ty := 3, guard := none }]
def c34_11 : AC := .region o34_11 []
theorem n34_11 : Run Cx 34 T ds ro (.code c34_11 :: k) H Q = RunOps Cx 34 T ds ro o34_11 k H Q := run_region
def c34_12 : AC := .ret
theorem n34_12 : Run Cx 34 T [] none (.code c34_12 :: k) H Q = RunRes Cx T H Q (resOf Cx 34) := run_ret
def c34_10 : AC := .seq c34_11 c34_12
theorem n34_10 : Run Cx 34 T ds ro (.code c34_10 :: k) H Q = Run Cx 34 T ds ro (.code c34_11 :: .code c34_12 :: k) H Q := run_seq
def c34_2 : AC := .seq c34_3 c34_10
theorem n34_2 : Run Cx 34 T ds ro (.code c34_2 :: k) H Q = Run Cx 34 T ds ro (.code c34_3 :: .code c34_10 :: k) H Q := run_seq
def c34_0 : AC := .seq c34_1 c34_2
theorem n34_0 : Run Cx 34 T ds ro (.code c34_0 :: k) H Q = Run Cx 34 T ds ro (.code c34_1 :: .code c34_2 :: k) H Q := run_seq
theorem body34 : bodyOf Cx 34 = some c34_0 := by kernel_rfl
theorem res34 : resOf Cx 34 = some [.tmp 2] := by kernel_rfl
theorem pure34 : Cx.pure 34 = false := by kernel_rfl
-- RULES 34: n34_0, n34_1, n34_2, n34_3, n34_4, n34_5, n34_6, n34_7, n34_8, n34_9, n34_10, n34_11, n34_12
def o38_1 : List AO := [{ dst := (some 2), op := .assign (.const (.bool false)), ty := 4, guard := none }]
def c38_1 : AC := .region o38_1 []
theorem n38_1 : Run Cx 38 T ds ro (.code c38_1 :: k) H Q = RunOps Cx 38 T ds ro o38_1 k H Q := run_region
def o38_3 : List AO := [{ dst := (some 3), op := .move (.tmp 0), ty := 3, guard := none },
  { dst := (some 4), op := .binOp .geq 3 (.tmp 3) (.const (.int .i64 (-16777216))) 3, ty := 4, guard := none },
  { dst := (some 5), op := .move (.tmp 4), ty := 4, guard := none },
  { dst := (some 6), op := .move (.tmp 0), ty := 3, guard := (some (5, true)) },
  { dst := (some 7), op := .binOp .leq 3 (.tmp 6) (.const (.int .i64 16777216)) 3, ty := 4, guard := (some (5, true)) },
  { dst := (some 8), op := .pick (.tmp 5) (.tmp 7) (.const (.bool false)), ty := 4, guard := none },
  { dst := (some 2), op := .assign (.tmp 8), ty := 4, guard := none }]
def c38_3 : AC := .region o38_3 []
theorem n38_3 : Run Cx 38 T ds ro (.code c38_3 :: k) H Q = RunOps Cx 38 T ds ro o38_3 k H Q := run_region
def c38_4 : AC := .ret
theorem n38_4 : Run Cx 38 T [] none (.code c38_4 :: k) H Q = RunRes Cx T H Q (resOf Cx 38) := run_ret
def c38_2 : AC := .seq c38_3 c38_4
theorem n38_2 : Run Cx 38 T ds ro (.code c38_2 :: k) H Q = Run Cx 38 T ds ro (.code c38_3 :: .code c38_4 :: k) H Q := run_seq
def c38_0 : AC := .seq c38_1 c38_2
theorem n38_0 : Run Cx 38 T ds ro (.code c38_0 :: k) H Q = Run Cx 38 T ds ro (.code c38_1 :: .code c38_2 :: k) H Q := run_seq
theorem body38 : bodyOf Cx 38 = some c38_0 := by kernel_rfl
theorem res38 : resOf Cx 38 = some [.tmp 2] := by kernel_rfl
theorem pure38 : Cx.pure 38 = true := by kernel_rfl
-- RULES 38: n38_0, n38_1, n38_2, n38_3, n38_4
def o39_1 : List AO := [{ dst := (some 2), op := .assign (.const (.int .i64 0)), ty := 3, guard := none },
  { dst := (some 3), op := .assign (.const (.int .i64 0)), ty := 27, guard := none }]
def c39_1 : AC := .region o39_1 []
theorem n39_1 : Run Cx 39 T ds ro (.code c39_1 :: k) H Q = RunOps Cx 39 T ds ro o39_1 k H Q := run_region
def o39_3 : List AO := [{ dst := (some 8), op := .move (.tmp 0), ty := 54, guard := none },
  { dst := (some 9), op := .call { callee := (.value (.func 31)), args := #[(.tmp 8)], argTypes := #[54] }, ty := 67, guard := none },
  { dst := (some 7), op := .move (.tmp 9), ty := 67, guard := none },
  { dst := (some 10), op := .extract (.tmp 7) 0, ty := 3, guard := none },
  { dst := (some 11), op := .extract (.tmp 7) 1, ty := 3, guard := none },
  { dst := (some 12), op := .extract (.tmp 7) 2, ty := 27, guard := none },
  { dst := (some 4), op := .assign (.tmp 10), ty := 3, guard := none },
  { dst := (some 5), op := .assign (.tmp 11), ty := 3, guard := none },
  { dst := (some 6), op := .assign (.tmp 12), ty := 27, guard := none }]
def c39_3 : AC := .region o39_3 []
theorem n39_3 : Run Cx 39 T ds ro (.code c39_3 :: k) H Q = RunOps Cx 39 T ds ro o39_3 k H Q := run_region
def o39_6 : List AO := [{ dst := (some 13), op := .move (.tmp 6), ty := 27, guard := none },
  { dst := (some 14), op := .binOp .neq 27 (.tmp 13) (.const (.int .i64 0)) 27, ty := 4, guard := none }]
def c39_6 : AC := .region o39_6 []
theorem n39_6 : Run Cx 39 T ds ro (.code c39_6 :: k) H Q = RunOps Cx 39 T ds ro o39_6 k H Q := run_region
def o39_9 : List AO := [{ dst := (some 15), op := .move (.tmp 6), ty := 27, guard := none },
  { dst := (some 2), op := .assign (.const (.int .i64 0)), ty := 3, guard := none },
  { dst := (some 3), op := .assign (.tmp 15), ty := 27, guard := none }]
def c39_9 : AC := .region o39_9 []
theorem n39_9 : Run Cx 39 T ds ro (.code c39_9 :: k) H Q = RunOps Cx 39 T ds ro o39_9 k H Q := run_region
def c39_10 : AC := .ret
theorem n39_10 : Run Cx 39 T [] none (.code c39_10 :: k) H Q = RunRes Cx T H Q (resOf Cx 39) := run_ret
def c39_8 : AC := .seq c39_9 c39_10
theorem n39_8 : Run Cx 39 T ds ro (.code c39_8 :: k) H Q = Run Cx 39 T ds ro (.code c39_9 :: .code c39_10 :: k) H Q := run_seq
def c39_11 : AC := .skip
theorem n39_11 : Run Cx 39 T ds ro (.code c39_11 :: k) H Q = Run Cx 39 T ds ro (k) H Q := run_skip
def c39_7 : AC := .cond (.tmp 14) c39_8 c39_11
theorem n39_7 : Run Cx 39 T ds ro (.code c39_7 :: k) H Q = RunCond Cx 39 T ds ro (.tmp 14) (ev T (.tmp 14)) c39_8 c39_11 k H Q := run_condC
def c39_5 : AC := .seq c39_6 c39_7
theorem n39_5 : Run Cx 39 T ds ro (.code c39_5 :: k) H Q = Run Cx 39 T ds ro (.code c39_6 :: .code c39_7 :: k) H Q := run_seq
def o39_13 : List AO := [{ dst := (some 16), op := .move (.tmp 0), ty := 54, guard := none },
  { dst := (some 17), op := .nilCheck (.tmp 16), ty := 0, guard := none },
  { dst := (some 18), op := .fieldAddr 66 (.tmp 17) 1, ty := 0, guard := none },
  { dst := (some 19), op := .load 3 (.tmp 18), ty := 3, guard := none },
  { dst := (some 20), op := .move (.tmp 5), ty := 3, guard := none },
  { dst := (some 21), op := .binOp .add 3 (.tmp 19) (.tmp 20) 3, ty := 3, guard := none },
  { dst := (some 22), op := .nilCheck (.tmp 16), ty := 0, guard := none },
  { dst := (some 23), op := .fieldAddr 66 (.tmp 22) 1, ty := 0, guard := none },
  { dst := none, op := .store 3 (.tmp 23) (.tmp 21), ty := 0, guard := none }]
def c39_13 : AC := .region o39_13 []
theorem n39_13 : Run Cx 39 T ds ro (.code c39_13 :: k) H Q = RunOps Cx 39 T ds ro o39_13 k H Q := run_region
def o39_15 : List AO := [{ dst := (some 24), op := .move (.tmp 4), ty := 3, guard := none },
  { dst := (some 2), op := .assign (.tmp 24), ty := 3, guard := none },
  { dst := (some 3), op := .assign (.const (.int .i64 0)), ty := 27, guard := none }]
def c39_15 : AC := .region o39_15 []
theorem n39_15 : Run Cx 39 T ds ro (.code c39_15 :: k) H Q = RunOps Cx 39 T ds ro o39_15 k H Q := run_region
def c39_16 : AC := .ret
theorem n39_16 : Run Cx 39 T [] none (.code c39_16 :: k) H Q = RunRes Cx T H Q (resOf Cx 39) := run_ret
def c39_14 : AC := .seq c39_15 c39_16
theorem n39_14 : Run Cx 39 T ds ro (.code c39_14 :: k) H Q = Run Cx 39 T ds ro (.code c39_15 :: .code c39_16 :: k) H Q := run_seq
def c39_12 : AC := .seq c39_13 c39_14
theorem n39_12 : Run Cx 39 T ds ro (.code c39_12 :: k) H Q = Run Cx 39 T ds ro (.code c39_13 :: .code c39_14 :: k) H Q := run_seq
def c39_4 : AC := .seq c39_5 c39_12
theorem n39_4 : Run Cx 39 T ds ro (.code c39_4 :: k) H Q = Run Cx 39 T ds ro (.code c39_5 :: .code c39_12 :: k) H Q := run_seq
def c39_2 : AC := .seq c39_3 c39_4
theorem n39_2 : Run Cx 39 T ds ro (.code c39_2 :: k) H Q = Run Cx 39 T ds ro (.code c39_3 :: .code c39_4 :: k) H Q := run_seq
def c39_0 : AC := .seq c39_1 c39_2
theorem n39_0 : Run Cx 39 T ds ro (.code c39_0 :: k) H Q = Run Cx 39 T ds ro (.code c39_1 :: .code c39_2 :: k) H Q := run_seq
theorem body39 : bodyOf Cx 39 = some c39_0 := by kernel_rfl
theorem res39 : resOf Cx 39 = some [.tmp 2, .tmp 3] := by kernel_rfl
theorem pure39 : Cx.pure 39 = false := by kernel_rfl
-- RULES 39: n39_0, n39_1, n39_2, n39_3, n39_4, n39_5, n39_6, n39_7, n39_8, n39_9, n39_10, n39_11, n39_12, n39_13, n39_14, n39_15, n39_16
def o40_1 : List AO := [{ dst := (some 4), op := .assign (.const (.int .i64 0)), ty := 3, guard := none },
  { dst := (some 5), op := .assign (.const (.int .i64 0)), ty := 3, guard := none },
  { dst := (some 6), op := .assign (.const (.int .i64 0)), ty := 27, guard := none }]
def c40_1 : AC := .region o40_1 []
theorem n40_1 : Run Cx 40 T ds ro (.code c40_1 :: k) H Q = RunOps Cx 40 T ds ro o40_1 k H Q := run_region
def o40_3 : List AO := [{ dst := (some 11), op := .move (.tmp 0), ty := 79, guard := none },
  { dst := (some 12), op := .call { callee := (.value (.tmp 11)), args := #[], argTypes := #[] }, ty := 56, guard := none },
  { dst := (some 10), op := .move (.tmp 12), ty := 56, guard := none },
  { dst := (some 13), op := .extract (.tmp 10) 0, ty := 3, guard := none },
  { dst := (some 14), op := .extract (.tmp 10) 1, ty := 27, guard := none },
  { dst := (some 7), op := .assign (.tmp 13), ty := 3, guard := none },
  { dst := (some 8), op := .assign (.tmp 14), ty := 27, guard := none }]
def c40_3 : AC := .region o40_3 []
theorem n40_3 : Run Cx 40 T ds ro (.code c40_3 :: k) H Q = RunOps Cx 40 T ds ro o40_3 k H Q := run_region
def o40_6 : List AO := [{ dst := (some 15), op := .move (.tmp 8), ty := 27, guard := none },
  { dst := (some 16), op := .binOp .neq 27 (.tmp 15) (.const (.int .i64 0)) 27, ty := 4, guard := none }]
def c40_6 : AC := .region o40_6 []
theorem n40_6 : Run Cx 40 T ds ro (.code c40_6 :: k) H Q = RunOps Cx 40 T ds ro o40_6 k H Q := run_region
def o40_9 : List AO := [{ dst := (some 17), op := .move (.tmp 8), ty := 27, guard := none },
  { dst := (some 4), op := .assign (.const (.int .i64 0)), ty := 3, guard := none },
  { dst := (some 5), op := .assign (.const (.int .i64 0)), ty := 3, guard := none },
  { dst := (some 6), op := .assign (.tmp 17), ty := 27, guard := none }]
def c40_9 : AC := .region o40_9 []
theorem n40_9 : Run Cx 40 T ds ro (.code c40_9 :: k) H Q = RunOps Cx 40 T ds ro o40_9 k H Q := run_region
def c40_10 : AC := .ret
theorem n40_10 : Run Cx 40 T [] none (.code c40_10 :: k) H Q = RunRes Cx T H Q (resOf Cx 40) := run_ret
def c40_8 : AC := .seq c40_9 c40_10
theorem n40_8 : Run Cx 40 T ds ro (.code c40_8 :: k) H Q = Run Cx 40 T ds ro (.code c40_9 :: .code c40_10 :: k) H Q := run_seq
def c40_11 : AC := .skip
theorem n40_11 : Run Cx 40 T ds ro (.code c40_11 :: k) H Q = Run Cx 40 T ds ro (k) H Q := run_skip
def c40_7 : AC := .cond (.tmp 16) c40_8 c40_11
theorem n40_7 : Run Cx 40 T ds ro (.code c40_7 :: k) H Q = RunCond Cx 40 T ds ro (.tmp 16) (ev T (.tmp 16)) c40_8 c40_11 k H Q := run_condC
def c40_5 : AC := .seq c40_6 c40_7
theorem n40_5 : Run Cx 40 T ds ro (.code c40_5 :: k) H Q = Run Cx 40 T ds ro (.code c40_6 :: .code c40_7 :: k) H Q := run_seq
def o40_13 : List AO := [{ dst := (some 19), op := .move (.tmp 1), ty := 79, guard := none },
  { dst := (some 20), op := .call { callee := (.value (.tmp 19)), args := #[], argTypes := #[] }, ty := 56, guard := none },
  { dst := (some 18), op := .move (.tmp 20), ty := 56, guard := none },
  { dst := (some 21), op := .extract (.tmp 18) 0, ty := 3, guard := none },
  { dst := (some 22), op := .extract (.tmp 18) 1, ty := 27, guard := none },
  { dst := (some 9), op := .assign (.tmp 21), ty := 3, guard := none },
  { dst := (some 8), op := .assign (.tmp 22), ty := 27, guard := none }]
def c40_13 : AC := .region o40_13 []
theorem n40_13 : Run Cx 40 T ds ro (.code c40_13 :: k) H Q = RunOps Cx 40 T ds ro o40_13 k H Q := run_region
def o40_15 : List AO := [{ dst := (some 23), op := .move (.tmp 7), ty := 3, guard := none },
  { dst := (some 24), op := .move (.tmp 9), ty := 3, guard := none },
  { dst := (some 25), op := .move (.tmp 8), ty := 27, guard := none },
  { dst := (some 4), op := .assign (.tmp 23), ty := 3, guard := none },
  { dst := (some 5), op := .assign (.tmp 24), ty := 3, guard := none },
  { dst := (some 6), op := .assign (.tmp 25), ty := 27, guard := none }]
def c40_15 : AC := .region o40_15 []
theorem n40_15 : Run Cx 40 T ds ro (.code c40_15 :: k) H Q = RunOps Cx 40 T ds ro o40_15 k H Q := run_region
def c40_16 : AC := .ret
theorem n40_16 : Run Cx 40 T [] none (.code c40_16 :: k) H Q = RunRes Cx T H Q (resOf Cx 40) := run_ret
def c40_14 : AC := .seq c40_15 c40_16
theorem n40_14 : Run Cx 40 T ds ro (.code c40_14 :: k) H Q = Run Cx 40 T ds ro (.code c40_15 :: .code c40_16 :: k) H Q := run_seq
def c40_12 : AC := .seq c40_13 c40_14
theorem n40_12 : Run Cx 40 T ds ro (.code c40_12 :: k) H Q = Run Cx 40 T ds ro (.code c40_13 :: .code c40_14 :: k) H Q := run_seq
def c40_4 : AC := .seq c40_5 c40_12
theorem n40_4 : Run Cx 40 T ds ro (.code c40_4 :: k) H Q = Run Cx 40 T ds ro (.code c40_5 :: .code c40_12 :: k) H Q := run_seq
def c40_2 : AC := .seq c40_3 c40_4
theorem n40_2 : Run Cx 40 T ds ro (.code c40_2 :: k) H Q = Run Cx 40 T ds ro (.code c40_3 :: .code c40_4 :: k) H Q := run_seq
def c40_0 : AC := .seq c40_1 c40_2
theorem n40_0 : Run Cx 40 T ds ro (.code c40_0 :: k) H Q = Run Cx 40 T ds ro (.code c40_1 :: .code c40_2 :: k) H Q := run_seq
theorem body40 : bodyOf Cx 40 = some c40_0 := by kernel_rfl
theorem res40 : resOf Cx 40 = some [.tmp 4, .tmp 5, .tmp 6] := by kernel_rfl
theorem pure40 : Cx.pure 40 = false := by kernel_rfl
-- RULES 40: n40_0, n40_1, n40_2, n40_3, n40_4, n40_5, n40_6, n40_7, n40_8, n40_9, n40_10, n40_11, n40_12, n40_13, n40_14, n40_15, n40_16
def o41_1 : List AO := [{ dst := (some 2), op := .assign (.const (.int .i64 0)), ty := 3, guard := none },
  { dst := (some 3), op := .assign (.const (.int .i64 0)), ty := 27, guard := none }]
def c41_1 : AC := .region o41_1 []
theorem n41_1 : Run Cx 41 T ds ro (.code c41_1 :: k) H Q = RunOps Cx 41 T ds ro o41_1 k H Q := run_region
def o41_3 : List AO := [{ dst := (some 7), op := .move (.tmp 0), ty := 54, guard := none },
  { dst := (some 8), op := .call { callee := (.value (.func 39)), args := #[(.tmp 7)], argTypes := #[54] }, ty := 56, guard := none },
  { dst := (some 6), op := .move (.tmp 8), ty := 56, guard := none },
  { dst := (some 9), op := .extract (.tmp 6) 0, ty := 3, guard := none },
  { dst := (some 10), op := .extract (.tmp 6) 1, ty := 27, guard := none },
  { dst := (some 4), op := .assign (.tmp 9), ty := 3, guard := none },
  { dst := (some 5), op := .assign (.tmp 10), ty := 27, guard := none }]
def c41_3 : AC := .region o41_3 []
theorem n41_3 : Run Cx 41 T ds ro (.code c41_3 :: k) H Q = RunOps Cx 41 T ds ro o41_3 k H Q := run_region
def o41_6 : List AO := [{ dst := (some 11), op := .move (.tmp 4), ty := 3, guard := none },
  { dst := (some 12), op := .binOp .rem 3 (.tmp 11) (.const (.int .i64 2)) 3, ty := 3, guard := none },
  { dst := (some 13), op := .binOp .eql 3 (.tmp 12) (.const (.int .i64 1)) 3, ty := 4, guard := none }]
def c41_6 : AC := .region o41_6 []
theorem n41_6 : Run Cx 41 T ds ro (.code c41_6 :: k) H Q = RunOps Cx 41 T ds ro o41_6 k H Q := run_region
def o41_9 : List AO := [{ dst := (some 14), op := .move (.tmp 4), ty := 3, guard := none },
  { dst := (some 15), op := .binOp .add 3 (.tmp 14) (.const (.int .i64 1)) 3, ty := 3, guard := none },
  { dst := (some 16), op := .unOp .neg 3 (.tmp 15), ty := 3, guard := none },
  { dst := (some 17), op := .binOp .quo 3 (.tmp 16) (.const (.int .i64 2)) 3, ty := 3, guard := none },
  { dst := (some 18), op := .move (.tmp 5), ty := 27, guard := none },
  { dst := (some 2), op := .assign (.tmp 17), ty := 3, guard := none },
  { dst := (some 3), op := .assign (.tmp 18), ty := 27, guard := none }]
def c41_9 : AC := .region o41_9 []
theorem n41_9 : Run Cx 41 T ds ro (.code c41_9 :: k) H Q = RunOps Cx 41 T ds ro o41_9 k H Q := run_region
def c41_10 : AC := .ret
theorem n41_10 : Run Cx 41 T [] none (.code c41_10 :: k) H Q = RunRes Cx T H Q (resOf Cx 41) := run_ret
def c41_8 : AC := .seq c41_9 c41_10
theorem n41_8 : Run Cx 41 T ds ro (.code c41_8 :: k) H Q = Run Cx 41 T ds ro (.code c41_9 :: .code c41_10 :: k) H Q := run_seq
def c41_11 : AC := .skip
theorem n41_11 : Run Cx 41 T ds ro (.code c41_11 :: k) H Q = Run Cx 41 T ds ro (k) H Q := run_skip
def c41_7 : AC := .cond (.tmp 13) c41_8 c41_11
theorem n41_7 : Run Cx 41 T ds ro (.code c41_7 :: k) H Q = RunCond Cx 41 T ds ro (.tmp 13) (ev T (.tmp 13)) c41_8 c41_11 k H Q := run_condC
def c41_5 : AC := .seq c41_6 c41_7
theorem n41_5 : Run Cx 41 T ds ro (.code c41_5 :: k) H Q = Run Cx 41 T ds ro (.code c41_6 :: .code c41_7 :: k) H Q := run_seq
def o41_13 : List AO := [{ dst := (some 19), op := .move (.tmp 4), ty := 3, guard := none },
  { dst := (some 20), op := .binOp .quo 3 (.tmp 19) (.const (.int .i64 2)) 3, ty := 3, guard := none },
  { dst := (some 21), op := .move (.tmp 5), ty := 27, guard := none },
  { dst := (some 2), op := .assign (.tmp 20), ty := 3, guard := none },
  { dst := (some 3), op := .assign (.tmp 21), ty := 27, guard := none }]
def c41_13 : AC := .region o41_13 []
theorem n41_13 : Run Cx 41 T ds ro (.code c41_13 :: k) H Q = RunOps Cx 41 T ds ro o41_13 k H Q := run_region
def c41_14 : AC := .ret
theorem n41_14 : Run Cx 41 T [] none (.code c41_14 :: k) H Q = RunRes Cx T H Q (resOf Cx 41) := run_ret
def c41_12 : AC := .seq c41_13 c41_14
theorem n41_12 : Run Cx 41 T ds ro (.code c41_12 :: k) H Q = Run Cx 41 T ds ro (.code c41_13 :: .code c41_14 :: k) H Q := run_seq
def c41_4 : AC := .seq c41_5 c41_12
theorem n41_4 : Run Cx 41 T ds ro (.code c41_4 :: k) H Q = Run Cx 41 T ds ro (.code c41_5 :: .code c41_12 :: k) H Q := run_seq
def c41_2 : AC := .seq c41_3 c41_4
theorem n41_2 : Run Cx 41 T ds ro (.code c41_2 :: k) H Q = Run Cx 41 T ds ro (.code c41_3 :: .code c41_4 :: k) H Q := run_seq
def c41_0 : AC := .seq c41_1 c41_2
theorem n41_0 : Run Cx 41 T ds ro (.code c41_0 :: k) H Q = Run Cx 41 T ds ro (.code c41_1 :: .code c41_2 :: k) H Q := run_seq
theorem body41 : bodyOf Cx 41 = some c41_0 := by kernel_rfl
theorem res41 : resOf Cx 41 = some [.tmp 2, .tmp 3] := by kernel_rfl
theorem pure41 : Cx.pure 41 = false := by kernel_rfl
-- RULES 41: n41_0, n41_1, n41_2, n41_3, n41_4, n41_5, n41_6, n41_7, n41_8, n41_9, n41_10, n41_11, n41_12, n41_13, n41_14
end
end Go.Proofs.Ytgallgjldfabfaa.G
