import Derived.Test.YtbfjkomlnpolmaaGF1
namespace Go.Proofs.Ytbfjkomlnpolmaa.G
open Go.BX
section
variable {T : Nat → AV} {ds : List ADef} {ro : Option Nat} {k : List AItem} {H : AHeap} {Q : AV → AHeap → Prop}
def o37_1 : List AO := [{ dst := (some 1), op := .box 38 (.tmp 0), ty := 0, guard := none },
  { dst := (some 2), op := .assign (.const (.bool false)), ty := 4, guard := none }]
def c37_1 : AC := .region o37_1 []
theorem n37_1 : Run Cx 37 T ds ro (.code c37_1 :: k) H Q = RunOps Cx 37 T ds ro o37_1 k H Q := run_region
def o37_3 : List AO := [{ dst := (some 3), op := .fieldAddr 38 (.tmp 1) 0, ty := 0, guard := none },
  { dst := (some 4), op := .load 3 (.tmp 3), ty := 3, guard := none },
  { dst := (some 5), op := .binOp .geq 3 (.tmp 4) (.const (.int .i64 (-16777216))) 3, ty := 4, guard := none },
  { dst := (some 6), op := .move (.tmp 5), ty := 4, guard := none },
  { dst := (some 7), op := .fieldAddr 38 (.tmp 1) 0, ty := 0, guard := (some (6, true)) },
  { dst := (some 8), op := .load 3 (.tmp 7), ty := 3, guard := (some (6, true)) },
  { dst := (some 9), op := .binOp .leq 3 (.tmp 8) (.const (.int .i64 16777216)) 3, ty := 4, guard := (some (6, true)) },
  { dst := (some 10), op := .pick (.tmp 6) (.tmp 9) (.const (.bool false)), ty := 4, guard := none },
  { dst := (some 11), op := .move (.tmp 10), ty := 4, guard := none },
  { dst := (some 12), op := .fieldAddr 38 (.tmp 1) 1, ty := 0, guard := (some (11, true)) },
  { dst := (some 13), op := .load 3 (.tmp 12), ty := 3, guard := (some (11, true)) },
  { dst := (some 14), op := .binOp .geq 3 (.tmp 13) (.const (.int .i64 (-16777216))) 3, ty := 4, guard := (some (11, true)) },
  { dst := (some 15), op := .pick (.tmp 11) (.tmp 14) (.const (.bool false)), ty := 4, guard := none },
  { dst := (some 16), op := .move (.tmp 15), ty := 4, guard := none },
  { dst := (some 17), op := .fieldAddr 38 (.tmp 1) 1, ty := 0, guard := (some (16, true)) },
  { dst := (some 18), op := .load 3 (.tmp 17), ty := 3, guard := (some (16, true)) },
  { dst := (some 19), op := .binOp .leq 3 (.tmp 18) (.const (.int .i64 16777216)) 3, ty := 4, guard := (some (16, true)) },
  { dst := (some 20), op := .pick (.tmp 16) (.tmp 19) (.const (.bool false)), ty := 4, guard := none },
  { dst := (some 2), op := .assign (.tmp 20), ty := 4, guard := none }]
def c37_3 : AC := .region o37_3 []
theorem n37_3 : Run Cx 37 T ds ro (.code c37_3 :: k) H Q = RunOps Cx 37 T ds ro o37_3 k H Q := run_region
def c37_4 : AC := .ret
theorem n37_4 : Run Cx 37 T [] none (.code c37_4 :: k) H Q = RunRes Cx T H Q (resOf Cx 37) := run_ret
def c37_2 : AC := .seq c37_3 c37_4
theorem n37_2 : Run Cx 37 T ds ro (.code c37_2 :: k) H Q = Run Cx 37 T ds ro (.code c37_3 :: .code c37_4 :: k) H Q := run_seq
def c37_0 : AC := .seq c37_1 c37_2
theorem n37_0 : Run Cx 37 T ds ro (.code c37_0 :: k) H Q = Run Cx 37 T ds ro (.code c37_1 :: .code c37_2 :: k) H Q := run_seq
theorem body37 : bodyOf Cx 37 = some c37_0 := by kernel_rfl
theorem res37 : resOf Cx 37 = some [.tmp 2] := by kernel_rfl
theorem pure37 : Cx.pure 37 = true := by kernel_rfl
-- RULES 37: n37_0, n37_1, n37_2, n37_3, n37_4
def o38_1 : List AO := [{ dst := (some 7), op := .build 72 #[(1, (.func 39))], ty := 72, guard := none },
  { dst := (some 8), op := .box 72 (.tmp 7), ty := 66, guard := none },
  { dst := (some 3), op := .assign (.tmp 8), ty := 66, guard := none }]
def c38_1 : AC := .region o38_1 []
theorem n38_1 : Run Cx 38 T ds ro (.code c38_1 :: k) H Q = RunOps Cx 38 T ds ro o38_1 k H Q := run_region
def o38_4 : List AO := [{ dst := (some 9), op := .load 29 (.tmp 1), ty := 29, guard := none },
  { dst := (some 10), op := .call { callee := (.builtin .len), args := #[(.tmp 9)], argTypes := #[29] }, ty := 3, guard := none },
  { dst := (some 11), op := .move (.const (.int .i64 0)), ty := 3, guard := none }]
def c38_4 : AC := .region o38_4 []
theorem n38_4 : Run Cx 38 T ds ro (.code c38_4 :: k) H Q = RunOps Cx 38 T ds ro o38_4 k H Q := run_region
def o38_8 : List AO := [{ dst := (some 12), op := .binOp .lss 3 (.tmp 11) (.tmp 10) 3, ty := 0, guard := none }]
def c38_8 : AC := .region o38_8 []
theorem n38_8 : Run Cx 38 T ds ro (.code c38_8 :: k) H Q = RunOps Cx 38 T ds ro o38_8 k H Q := run_region
def c38_11 : AC := .skip
theorem n38_11 : Run Cx 38 T ds ro (.code c38_11 :: k) H Q = Run Cx 38 T ds ro (k) H Q := run_skip
def c38_12 : AC := .exit 0
theorem n38_12 : Run Cx 38 T ds ro (.code c38_12 :: k) H Q = RunExit Cx 38 T ds ro 0 k k H Q := run_exit_start
def c38_10 : AC := .cond (.tmp 12) c38_11 c38_12
theorem n38_10 : Run Cx 38 T ds ro (.code c38_10 :: k) H Q = RunCond Cx 38 T ds ro (.tmp 12) (ev T (.tmp 12)) c38_11 c38_12 k H Q := run_condC
def o38_16 : List AO := [{ dst := (some 13), op := .move (.tmp 11), ty := 3, guard := none },
  { dst := (some 14), op := .indexAddr 29 (.tmp 9) (.tmp 11), ty := 0, guard := none },
  { dst := (some 15), op := .load 22 (.tmp 14), ty := 22, guard := none },
  { dst := (some 4), op := .assign (.tmp 13), ty := 3, guard := none },
  { dst := (some 5), op := .assign (.tmp 15), ty := 22, guard := none }]
def c38_16 : AC := .region o38_16 []
theorem n38_16 : Run Cx 38 T ds ro (.code c38_16 :: k) H Q = RunOps Cx 38 T ds ro o38_16 k H Q := run_region
def o38_18 : List AO := [{ dst := (some 16), op := .move (.tmp 5), ty := 22, guard := none },
  { dst := (some 17), op := .call { callee := (.builtin .len), args := #[(.tmp 16)], argTypes := #[22] }, ty := 3, guard := none },
  { dst := (some 18), op := .binOp .gtr 3 (.tmp 17) (.const (.int .i64 0)) 3, ty := 4, guard := none }]
def c38_18 : AC := .region o38_18 []
theorem n38_18 : Run Cx 38 T ds ro (.code c38_18 :: k) H Q = RunOps Cx 38 T ds ro o38_18 k H Q := run_region
def o38_20 : List AO := [{ dst := (some 19), op := .move (.tmp 3), ty := 66, guard := none },
  { dst := (some 20), op := .move (.tmp 5), ty := 22, guard := none },
  { dst := (some 21), op := .move (.tmp 4), ty := 3, guard := none },
  { dst := (some 22), op := .build 68 #[(0, (.tmp 20)), (1, (.const (.int .i64 0))), (2, (.tmp 21))], ty := 68, guard := none },
  { dst := (some 23), op := .call { callee := (.value (.func 40)), args := #[(.tmp 19), (.tmp 22)], argTypes := #[66, 68] }, ty := 0, guard := none }]
def c38_20 : AC := .region o38_20 []
theorem n38_20 : Run Cx 38 T ds ro (.code c38_20 :: k) H Q = RunOps Cx 38 T ds ro o38_20 k H Q := run_region
def c38_21 : AC := .skip
theorem n38_21 : Run Cx 38 T ds ro (.code c38_21 :: k) H Q = Run Cx 38 T ds ro (k) H Q := run_skip
def c38_19 : AC := .cond (.tmp 18) c38_20 c38_21
theorem n38_19 : Run Cx 38 T ds ro (.code c38_19 :: k) H Q = RunCond Cx 38 T ds ro (.tmp 18) (ev T (.tmp 18)) c38_20 c38_21 k H Q := run_condC
def c38_17 : AC := .seq c38_18 c38_19
theorem n38_17 : Run Cx 38 T ds ro (.code c38_17 :: k) H Q = Run Cx 38 T ds ro (.code c38_18 :: .code c38_19 :: k) H Q := run_seq
def c38_15 : AC := .seq c38_16 c38_17
theorem n38_15 : Run Cx 38 T ds ro (.code c38_15 :: k) H Q = Run Cx 38 T ds ro (.code c38_16 :: .code c38_17 :: k) H Q := run_seq
def c38_14 : AC := .block 1 c38_15
theorem n38_14 : Run Cx 38 T ds ro (.code c38_14 :: k) H Q = Run Cx 38 T ds ro (.code c38_15 :: .inBlock 1 :: k) H Q := run_block
def o38_22 : List AO := [{ dst := (some 24), op := .binOp .add 3 (.tmp 11) (.const (.int .i64 1)) 3, ty := 3, guard := none },
  { dst := (some 11), op := .move (.tmp 24), ty := 3, guard := none }]
def c38_22 : AC := .region o38_22 []
theorem n38_22 : Run Cx 38 T ds ro (.code c38_22 :: k) H Q = RunOps Cx 38 T ds ro o38_22 k H Q := run_region
def c38_13 : AC := .seq c38_14 c38_22
theorem n38_13 : Run Cx 38 T ds ro (.code c38_13 :: k) H Q = Run Cx 38 T ds ro (.code c38_14 :: .code c38_22 :: k) H Q := run_seq
def c38_9 : AC := .seq c38_10 c38_13
theorem n38_9 : Run Cx 38 T ds ro (.code c38_9 :: k) H Q = Run Cx 38 T ds ro (.code c38_10 :: .code c38_13 :: k) H Q := run_seq
def c38_7 : AC := .seq c38_8 c38_9
theorem n38_7 : Run Cx 38 T ds ro (.code c38_7 :: k) H Q = Run Cx 38 T ds ro (.code c38_8 :: .code c38_9 :: k) H Q := run_seq
def c38_6 : AC := .loop c38_7
theorem n38_6 : Run Cx 38 T ds ro (.code c38_6 :: k) H Q = Run Cx 38 T ds ro (.inLoop c38_7 :: k) H Q := run_loop'
def c38_5 : AC := .block 0 c38_6
theorem n38_5 : Run Cx 38 T ds ro (.code c38_5 :: k) H Q = Run Cx 38 T ds ro (.code c38_6 :: .inBlock 0 :: k) H Q := run_block
def c38_3 : AC := .seq c38_4 c38_5
theorem n38_3 : Run Cx 38 T ds ro (.code c38_3 :: k) H Q = Run Cx 38 T ds ro (.code c38_4 :: .code c38_5 :: k) H Q := run_seq
def o38_27 : List AO := [{ dst := (some 25), op := .move (.tmp 3), ty := 66, guard := none },
  { dst := (some 26), op := .nilCheck (.tmp 25), ty := 0, guard := none },
  { dst := (some 27), op := .fieldAddr 72 (.tmp 26) 0, ty := 0, guard := none },
  { dst := (some 28), op := .load 70 (.tmp 27), ty := 70, guard := none },
  { dst := (some 29), op := .call { callee := (.builtin .len), args := #[(.tmp 28)], argTypes := #[70] }, ty := 3, guard := none },
  { dst := (some 30), op := .binOp .gtr 3 (.tmp 29) (.const (.int .i64 0)) 3, ty := 4, guard := none }]
def c38_27 : AC := .region o38_27 []
theorem n38_27 : Run Cx 38 T ds ro (.code c38_27 :: k) H Q = RunOps Cx 38 T ds ro o38_27 k H Q := run_region
def c38_29 : AC := .skip
theorem n38_29 : Run Cx 38 T ds ro (.code c38_29 :: k) H Q = Run Cx 38 T ds ro (k) H Q := run_skip
def c38_30 : AC := .exit 2
theorem n38_30 : Run Cx 38 T ds ro (.code c38_30 :: k) H Q = RunExit Cx 38 T ds ro 2 k k H Q := run_exit_start
def c38_28 : AC := .cond (.tmp 30) c38_29 c38_30
theorem n38_28 : Run Cx 38 T ds ro (.code c38_28 :: k) H Q = RunCond Cx 38 T ds ro (.tmp 30) (ev T (.tmp 30)) c38_29 c38_30 k H Q := run_condC
def c38_26 : AC := .seq c38_27 c38_28
theorem n38_26 : Run Cx 38 T ds ro (.code c38_26 :: k) H Q = Run Cx 38 T ds ro (.code c38_27 :: .code c38_28 :: k) H Q := run_seq
def o38_33 : List AO := [{ dst := (some 31), op := .move (.tmp 3), ty := 66, guard := none },
  { dst := (some 32), op := .call { callee := (.value (.func 41)), args := #[(.tmp 31)], argTypes := #[66] }, ty := 68, guard := none },
  { dst := (some 6), op := .alloc 68, ty := 0, guard := none },
  { dst := none, op := .store 68 (.tmp 6) (.tmp 32), ty := 0, guard := none }]
def c38_33 : AC := .region o38_33 []
theorem n38_33 : Run Cx 38 T ds ro (.code c38_33 :: k) H Q = RunOps Cx 38 T ds ro o38_33 k H Q := run_region
def o38_36 : List AO := [{ dst := (some 33), op := .move (.tmp 0), ty := 50, guard := none },
  { dst := (some 34), op := .fieldAddr 68 (.tmp 6) 0, ty := 0, guard := none },
  { dst := (some 35), op := .load 22 (.tmp 34), ty := 22, guard := none },
  { dst := (some 36), op := .fieldAddr 68 (.tmp 6) 1, ty := 0, guard := none },
  { dst := (some 37), op := .load 3 (.tmp 36), ty := 3, guard := none },
  { dst := (some 38), op := .indexAddr 22 (.tmp 35) (.tmp 37), ty := 0, guard := none },
  { dst := (some 39), op := .load 42 (.tmp 38), ty := 42, guard := none },
  { dst := (some 40), op := .call { callee := (.value (.tmp 33)), args := #[(.tmp 39)], argTypes := #[42] }, ty := 4, guard := none },
  { dst := (some 41), op := .unOp .not 4 (.tmp 40), ty := 4, guard := none }]
def c38_36 : AC := .region o38_36 []
theorem n38_36 : Run Cx 38 T ds ro (.code c38_36 :: k) H Q = RunOps Cx 38 T ds ro o38_36 k H Q := run_region
def c38_38 : AC := .ret
theorem n38_38 : Run Cx 38 T [] none (.code c38_38 :: k) H Q = RunRes Cx T H Q (resOf Cx 38) := run_ret
def c38_39 : AC := .skip
theorem n38_39 : Run Cx 38 T ds ro (.code c38_39 :: k) H Q = Run Cx 38 T ds ro (k) H Q := run_skip
def c38_37 : AC := .cond (.tmp 41) c38_38 c38_39
theorem n38_37 : Run Cx 38 T ds ro (.code c38_37 :: k) H Q = RunCond Cx 38 T ds ro (.tmp 41) (ev T (.tmp 41)) c38_38 c38_39 k H Q := run_condC
def c38_35 : AC := .seq c38_36 c38_37
theorem n38_35 : Run Cx 38 T ds ro (.code c38_35 :: k) H Q = Run Cx 38 T ds ro (.code c38_36 :: .code c38_37 :: k) H Q := run_seq
def o38_41 : List AO := [{ dst := (some 42), op := .fieldAddr 68 (.tmp 6) 1, ty := 0, guard := none },
  { dst := (some 43), op := .load 3 (.tmp 42), ty := 3, guard := none },
  { dst := (some 44), op := .binOp .add 3 (.tmp 43) (.const (.int .i64 1)) 3, ty := 3, guard := none },
  { dst := (some 45), op := .fieldAddr 68 (.tmp 6) 1, ty := 0, guard := none },
  { dst := none, op := .store 3 (.tmp 45) (.tmp 44), ty := 0, guard := none }]
def c38_41 : AC := .region o38_41 []
theorem n38_41 : Run Cx 38 T ds ro (.code c38_41 :: k) H Q = RunOps Cx 38 T ds ro o38_41 k H Q := run_region
def o38_43 : List AO := [{ dst := (some 46), op := .fieldAddr 68 (.tmp 6) 1, ty := 0, guard := none },
  { dst := (some 47), op := .load 3 (.tmp 46), ty := 3, guard := none },
  { dst := (some 48), op := .fieldAddr 68 (.tmp 6) 0, ty := 0, guard := none },
  { dst := (some 49), op := .load 22 (.tmp 48), ty := 22, guard := none },
  { dst := (some 50), op := .call { callee := (.builtin .len), args := #[(.tmp 49)], argTypes := #[22] }, ty := 3, guard := none },
  { dst := (some 51), op := .binOp .lss 3 (.tmp 47) (.tmp 50) 3, ty := 4, guard := none }]
def c38_43 : AC := .region o38_43 []
theorem n38_43 : Run Cx 38 T ds ro (.code c38_43 :: k) H Q = RunOps Cx 38 T ds ro o38_43 k H Q := run_region
def o38_45 : List AO := [{ dst := (some 52), op := .move (.tmp 3), ty := 66, guard := none },
  { dst := (some 53), op := .load 68 (.tmp 6), ty := 68, guard := none },
  { dst := (some 54), op := .call { callee := (.value (.func 40)), args := #[(.tmp 52), (.tmp 53)], argTypes := #[66, 68] }, ty := 0, guard := none }]
def c38_45 : AC := .region o38_45 []
theorem n38_45 : Run Cx 38 T ds ro (.code c38_45 :: k) H Q = RunOps Cx 38 T ds ro o38_45 k H Q := run_region
def c38_46 : AC := .skip
theorem n38_46 : Run Cx 38 T ds ro (.code c38_46 :: k) H Q = Run Cx 38 T ds ro (k) H Q := run_skip
def c38_44 : AC := .cond (.tmp 51) c38_45 c38_46
theorem n38_44 : Run Cx 38 T ds ro (.code c38_44 :: k) H Q = RunCond Cx 38 T ds ro (.tmp 51) (ev T (.tmp 51)) c38_45 c38_46 k H Q := run_condC
def c38_42 : AC := .seq c38_43 c38_44
theorem n38_42 : Run Cx 38 T ds ro (.code c38_42 :: k) H Q = Run Cx 38 T ds ro (.code c38_43 :: .code c38_44 :: k) H Q := run_seq
def c38_40 : AC := .seq c38_41 c38_42
theorem n38_40 : Run Cx 38 T ds ro (.code c38_40 :: k) H Q = Run Cx 38 T ds ro (.code c38_41 :: .code c38_42 :: k) H Q := run_seq
def c38_34 : AC := .seq c38_35 c38_40
theorem n38_34 : Run Cx 38 T ds ro (.code c38_34 :: k) H Q = Run Cx 38 T ds ro (.code c38_35 :: .code c38_40 :: k) H Q := run_seq
def c38_32 : AC := .seq c38_33 c38_34
theorem n38_32 : Run Cx 38 T ds ro (.code c38_32 :: k) H Q = Run Cx 38 T ds ro (.code c38_33 :: .code c38_34 :: k) H Q := run_seq
def c38_31 : AC := .block 3 c38_32
theorem n38_31 : Run Cx 38 T ds ro (.code c38_31 :: k) H Q = Run Cx 38 T ds ro (.code c38_32 :: .inBlock 3 :: k) H Q := run_block
def c38_25 : AC := .seq c38_26 c38_31
theorem n38_25 : Run Cx 38 T ds ro (.code c38_25 :: k) H Q = Run Cx 38 T ds ro (.code c38_26 :: .code c38_31 :: k) H Q := run_seq
def c38_24 : AC := .loop c38_25
theorem n38_24 : Run Cx 38 T ds ro (.code c38_24 :: k) H Q = Run Cx 38 T ds ro (.inLoop c38_25 :: k) H Q := run_loop'
def c38_23 : AC := .block 2 c38_24
theorem n38_23 : Run Cx 38 T ds ro (.code c38_23 :: k) H Q = Run Cx 38 T ds ro (.code c38_24 :: .inBlock 2 :: k) H Q := run_block
def c38_2 : AC := .seq c38_3 c38_23
theorem n38_2 : Run Cx 38 T ds ro (.code c38_2 :: k) H Q = Run Cx 38 T ds ro (.code c38_3 :: .code c38_23 :: k) H Q := run_seq
def c38_0 : AC := .seq c38_1 c38_2
theorem n38_0 : Run Cx 38 T ds ro (.code c38_0 :: k) H Q = Run Cx 38 T ds ro (.code c38_1 :: .code c38_2 :: k) H Q := run_seq
theorem body38 : bodyOf Cx 38 = some c38_0 := by kernel_rfl
theorem res38 : resOf Cx 38 = some [] := by kernel_rfl
theorem pure38 : Cx.pure 38 = false := by kernel_rfl
-- RULES 38: n38_0, n38_1, n38_2, n38_3, n38_4, n38_5, n38_6, n38_7, n38_8, n38_9, n38_10, n38_11, n38_12, n38_13, n38_14, n38_15, n38_16, n38_17, n38_18, n38_19, n38_20, n38_21, n38_22, n38_23, n38_24, n38_25, n38_26, n38_27, n38_28, n38_29, n38_30, n38_31, n38_32, n38_33, n38_34, n38_35, n38_36, n38_37, n38_38, n38_39, n38_40, n38_41, n38_42, n38_43, n38_44, n38_45, n38_46
def o39_1 : List AO := [{ dst := (some 2), op := .box 68 (.tmp 0), ty := 0, guard := none },
  { dst := (some 3), op := .box 68 (.tmp 1), ty := 0, guard := none },
  { dst := (some 4), op := .assign (.const (.bool false)), ty := 4, guard := none }]
def c39_1 : AC := .region o39_1 []
theorem n39_1 : Run Cx 39 T ds ro (.code c39_1 :: k) H Q = RunOps Cx 39 T ds ro o39_1 k H Q := run_region
def o39_3 : List AO := [{ dst := (some 7), op := .fieldAddr 68 (.tmp 2) 0, ty := 0, guard := none },
  { dst := (some 8), op := .load 22 (.tmp 7), ty := 22, guard := none },
  { dst := (some 9), op := .fieldAddr 68 (.tmp 2) 1, ty := 0, guard := none },
  { dst := (some 10), op := .load 3 (.tmp 9), ty := 3, guard := none },
  { dst := (some 11), op := .indexAddr 22 (.tmp 8) (.tmp 10), ty := 0, guard := none },
  { dst := (some 12), op := .fieldAddr 42 (.tmp 11) 0, ty := 0, guard := none },
  { dst := (some 13), op := .load 9 (.tmp 12), ty := 9, guard := none },
  { dst := (some 14), op := .fieldAddr 68 (.tmp 3) 0, ty := 0, guard := none },
  { dst := (some 15), op := .load 22 (.tmp 14), ty := 22, guard := none },
  { dst := (some 16), op := .fieldAddr 68 (.tmp 3) 1, ty := 0, guard := none },
  { dst := (some 17), op := .load 3 (.tmp 16), ty := 3, guard := none },
  { dst := (some 18), op := .indexAddr 22 (.tmp 15) (.tmp 17), ty := 0, guard := none },
  { dst := (some 19), op := .fieldAddr 42 (.tmp 18) 0, ty := 0, guard := none },
  { dst := (some 20), op := .load 9 (.tmp 19), ty := 9, guard := none },
  { dst := (some 5), op := .assign (.tmp 13), ty := 9, guard := none },
  { dst := (some 6), op := .assign (.tmp 20), ty := 9, guard := none }]
def c39_3 : AC := .region o39_3 []
theorem n39_3 : Run Cx 39 T ds ro (.code c39_3 :: k) H Q = RunOps Cx 39 T ds ro o39_3 k H Q := run_region
def o39_5 : List AO := [{ dst := (some 21), op := .move (.tmp 5), ty := 9, guard := none },
  { dst := (some 22), op := .move (.tmp 6), ty := 9, guard := none },
  { dst := (some 23), op := .binOp .lss 9 (.tmp 21) (.tmp 22) 9, ty := 4, guard := none },
  { dst := (some 24), op := .move (.tmp 23), ty := 4, guard := none },
  { dst := (some 25), op := .move (.tmp 5), ty := 9, guard := (some (24, false)) },
  { dst := (some 26), op := .move (.tmp 6), ty := 9, guard := (some (24, false)) },
  { dst := (some 27), op := .binOp .eql 9 (.tmp 25) (.tmp 26) 9, ty := 4, guard := (some (24, false)) },
  { dst := (some 28), op := .move (.tmp 27), ty := 4, guard := (some (24, false)) },
  { dst := (some 29), op := .fieldAddr 68 (.tmp 2) 2, ty := 0, guard := (some (28, true)) },
  { dst := (some 30), op := .load 3 (.tmp 29), ty := 3, guard := (some (28, true)) },
  { dst := (some 31), op := .fieldAddr 68 (.tmp 3) 2, ty := 0, guard := (some (28, true)) },
  { dst := (some 32), op := .load 3 (.tmp 31), ty := 3, guard := (some (28, true)) },
  { dst := (some 33), op := .binOp .lss 3 (.tmp 30) (.tmp 32) 3, ty := 4, guard := (some (28, true)) },
  { dst := (some 34), op := .pick (.tmp 28) (.tmp 33) (.const (.bool false)), ty := 4, guard := (some (24, false)) },
  { dst := (some 35), op := .pick (.tmp 24) (.const (.bool true)) (.tmp 34), ty := 4, guard := none },
  { dst := (some 4), op := .assign (.tmp 35), ty := 4, guard := none }]
def c39_5 : AC := .region o39_5 []
theorem n39_5 : Run Cx 39 T ds ro (.code c39_5 :: k) H Q = RunOps Cx 39 T ds ro o39_5 k H Q := run_region
def c39_6 : AC := .ret
theorem n39_6 : Run Cx 39 T [] none (.code c39_6 :: k) H Q = RunRes Cx T H Q (resOf Cx 39) := run_ret
def c39_4 : AC := .seq c39_5 c39_6
theorem n39_4 : Run Cx 39 T ds ro (.code c39_4 :: k) H Q = Run Cx 39 T ds ro (.code c39_5 :: .code c39_6 :: k) H Q := run_seq
def c39_2 : AC := .seq c39_3 c39_4
theorem n39_2 : Run Cx 39 T ds ro (.code c39_2 :: k) H Q = Run Cx 39 T ds ro (.code c39_3 :: .code c39_4 :: k) H Q := run_seq
def c39_0 : AC := .seq c39_1 c39_2
theorem n39_0 : Run Cx 39 T ds ro (.code c39_0 :: k) H Q = Run Cx 39 T ds ro (.code c39_1 :: .code c39_2 :: k) H Q := run_seq
theorem body39 : bodyOf Cx 39 = some c39_0 := by kernel_rfl
theorem res39 : resOf Cx 39 = some [.tmp 4] := by kernel_rfl
theorem pure39 : Cx.pure 39 = true := by kernel_rfl
-- RULES 39: n39_0, n39_1, n39_2, n39_3, n39_4, n39_5, n39_6
def o40_1 : List AO := [{ dst := (some 3), op := .box 68 (.tmp 1), ty := 0, guard := none }]
def c40_1 : AC := .region o40_1 []
theorem n40_1 : Run Cx 40 T ds ro (.code c40_1 :: k) H Q = RunOps Cx 40 T ds ro o40_1 k H Q := run_region
def o40_3 : List AO := [{ dst := (some 5), op := .move (.tmp 0), ty := 66, guard := none },
  { dst := (some 6), op := .move (.tmp 0), ty := 66, guard := none },
  { dst := (some 7), op := .nilCheck (.tmp 6), ty := 0, guard := none },
  { dst := (some 8), op := .fieldAddr 72 (.tmp 7) 0, ty := 0, guard := none },
  { dst := (some 9), op := .load 70 (.tmp 8), ty := 70, guard := none },
  { dst := (some 10), op := .load 68 (.tmp 3), ty := 68, guard := none },
  { dst := (some 11), op := .buildSlice 70 1 #[(0, (.tmp 10))], ty := 70, guard := none },
  { dst := (some 12), op := .call { callee := (.builtin .append), args := #[(.tmp 9), (.tmp 11)], argTypes := #[70, 70] }, ty := 70, guard := none },
  { dst := (some 13), op := .nilCheck (.tmp 5), ty := 0, guard := none },
  { dst := (some 14), op := .fieldAddr 72 (.tmp 13) 0, ty := 0, guard := none },
  { dst := none, op := .store 70 (.tmp 14) (.tmp 12), ty := 0, guard := none }]
def c40_3 : AC := .region o40_3 []
theorem n40_3 : Run Cx 40 T ds ro (.code c40_3 :: k) H Q = RunOps Cx 40 T ds ro o40_3 k H Q := run_region
def o40_5 : List AO := [{ dst := (some 15), op := .move (.tmp 0), ty := 66, guard := none },
  { dst := (some 16), op := .nilCheck (.tmp 15), ty := 0, guard := none },
  { dst := (some 17), op := .fieldAddr 72 (.tmp 16) 0, ty := 0, guard := none },
  { dst := (some 18), op := .load 70 (.tmp 17), ty := 70, guard := none },
  { dst := (some 19), op := .call { callee := (.builtin .len), args := #[(.tmp 18)], argTypes := #[70] }, ty := 3, guard := none },
  { dst := (some 20), op := .binOp .sub 3 (.tmp 19) (.const (.int .i64 1)) 3, ty := 3, guard := none },
  { dst := (some 4), op := .assign (.tmp 20), ty := 3, guard := none }]
def c40_5 : AC := .region o40_5 []
theorem n40_5 : Run Cx 40 T ds ro (.code c40_5 :: k) H Q = RunOps Cx 40 T ds ro o40_5 k H Q := run_region
def o40_10 : List AO := [{ dst := (some 21), op := .move (.tmp 4), ty := 3, guard := none },
  { dst := (some 22), op := .binOp .gtr 3 (.tmp 21) (.const (.int .i64 0)) 3, ty := 4, guard := none },
  { dst := (some 23), op := .move (.tmp 22), ty := 4, guard := none },
  { dst := (some 24), op := .move (.tmp 0), ty := 66, guard := (some (23, true)) },
  { dst := (some 25), op := .nilCheck (.tmp 24), ty := 0, guard := (some (23, true)) },
  { dst := (some 26), op := .fieldAddr 72 (.tmp 25) 1, ty := 0, guard := (some (23, true)) },
  { dst := (some 27), op := .load 69 (.tmp 26), ty := 69, guard := (some (23, true)) },
  { dst := (some 28), op := .move (.tmp 0), ty := 66, guard := (some (23, true)) },
  { dst := (some 29), op := .nilCheck (.tmp 28), ty := 0, guard := (some (23, true)) },
  { dst := (some 30), op := .fieldAddr 72 (.tmp 29) 0, ty := 0, guard := (some (23, true)) },
  { dst := (some 31), op := .load 70 (.tmp 30), ty := 70, guard := (some (23, true)) },
  { dst := (some 32), op := .move (.tmp 4), ty := 3, guard := (some (23, true)) },
  { dst := (some 33), op := .indexAddr 70 (.tmp 31) (.tmp 32), ty := 0, guard := (some (23, true)) },
  { dst := (some 34), op := .load 68 (.tmp 33), ty := 68, guard := (some (23, true)) },
  { dst := (some 35), op := .move (.tmp 0), ty := 66, guard := (some (23, true)) },
  { dst := (some 36), op := .nilCheck (.tmp 35), ty := 0, guard := (some (23, true)) },
  { dst := (some 37), op := .fieldAddr 72 (.tmp 36) 0, ty := 0, guard := (some (23, true)) },
  { dst := (some 38), op := .load 70 (.tmp 37), ty := 70, guard := (some (23, true)) },
  { dst := (some 39), op := .move (.tmp 4), ty := 3, guard := (some (23, true)) },
  { dst := (some 40), op := .binOp .sub 3 (.tmp 39) (.const (.int .i64 1)) 3, ty := 3, guard := (some (23, true)) },
  { dst := (some 41), op := .binOp .quo 3 (.tmp 40) (.const (.int .i64 2)) 3, ty := 3, guard := (some (23, true)) },
  { dst := (some 42), op := .indexAddr 70 (.tmp 38) (.tmp 41), ty := 0, guard := (some (23, true)) },
  { dst := (some 43), op := .load 68 (.tmp 42), ty := 68, guard := (some (23, true)) },
  { dst := (some 44), op := .call { callee := (.value (.tmp 27)), args := #[(.tmp 34), (.tmp 43)], argTypes := #[68, 68] }, ty := 4, guard := (some (23, true)) },
  { dst := (some 45), op := .pick (.tmp 23) (.tmp 44) (.const (.bool false)), ty := 4, guard := none }]
def c40_10 : AC := .region o40_10 []
theorem n40_10 : Run Cx 40 T ds ro (.code c40_10 :: k) H Q = RunOps Cx 40 T ds ro o40_10 k H Q := run_region
def c40_12 : AC := .skip
theorem n40_12 : Run Cx 40 T ds ro (.code c40_12 :: k) H Q = Run Cx 40 T ds ro (k) H Q := run_skip
def c40_13 : AC := .exit 0
theorem n40_13 : Run Cx 40 T ds ro (.code c40_13 :: k) H Q = RunExit Cx 40 T ds ro 0 k k H Q := run_exit_start
def c40_11 : AC := .cond (.tmp 45) c40_12 c40_13
theorem n40_11 : Run Cx 40 T ds ro (.code c40_11 :: k) H Q = RunCond Cx 40 T ds ro (.tmp 45) (ev T (.tmp 45)) c40_12 c40_13 k H Q := run_condC
def c40_9 : AC := .seq c40_10 c40_11
theorem n40_9 : Run Cx 40 T ds ro (.code c40_9 :: k) H Q = Run Cx 40 T ds ro (.code c40_10 :: .code c40_11 :: k) H Q := run_seq
def o40_16 : List AO := [{ dst := (some 49), op := .move (.tmp 0), ty := 66, guard := none },
  { dst := (some 50), op := .nilCheck (.tmp 49), ty := 0, guard := none },
  { dst := (some 51), op := .fieldAddr 72 (.tmp 50) 0, ty := 0, guard := none },
  { dst := (some 52), op := .load 70 (.tmp 51), ty := 70, guard := none },
  { dst := (some 53), op := .move (.tmp 4), ty := 3, guard := none },
  { dst := (some 54), op := .move (.tmp 0), ty := 66, guard := none },
  { dst := (some 55), op := .nilCheck (.tmp 54), ty := 0, guard := none },
  { dst := (some 56), op := .fieldAddr 72 (.tmp 55) 0, ty := 0, guard := none },
  { dst := (some 57), op := .load 70 (.tmp 56), ty := 70, guard := none },
  { dst := (some 58), op := .move (.tmp 4), ty := 3, guard := none },
  { dst := (some 59), op := .binOp .sub 3 (.tmp 58) (.const (.int .i64 1)) 3, ty := 3, guard := none },
  { dst := (some 60), op := .binOp .quo 3 (.tmp 59) (.const (.int .i64 2)) 3, ty := 3, guard := none },
  { dst := (some 61), op := .move (.tmp 0), ty := 66, guard := none },
  { dst := (some 62), op := .nilCheck (.tmp 61), ty := 0, guard := none },
  { dst := (some 63), op := .fieldAddr 72 (.tmp 62) 0, ty := 0, guard := none },
  { dst := (some 64), op := .load 70 (.tmp 63), ty := 70, guard := none },
  { dst := (some 65), op := .move (.tmp 4), ty := 3, guard := none },
  { dst := (some 66), op := .binOp .sub 3 (.tmp 65) (.const (.int .i64 1)) 3, ty := 3, guard := none },
  { dst := (some 67), op := .binOp .quo 3 (.tmp 66) (.const (.int .i64 2)) 3, ty := 3, guard := none },
  { dst := (some 68), op := .indexAddr 70 (.tmp 64) (.tmp 67), ty := 0, guard := none },
  { dst := (some 69), op := .load 68 (.tmp 68), ty := 68, guard := none },
  { dst := (some 70), op := .move (.tmp 0), ty := 66, guard := none },
  { dst := (some 71), op := .nilCheck (.tmp 70), ty := 0, guard := none },
  { dst := (some 72), op := .fieldAddr 72 (.tmp 71) 0, ty := 0, guard := none },
  { dst := (some 73), op := .load 70 (.tmp 72), ty := 70, guard := none },
  { dst := (some 74), op := .move (.tmp 4), ty := 3, guard := none },
  { dst := (some 75), op := .indexAddr 70 (.tmp 73) (.tmp 74), ty := 0, guard := none },
  { dst := (some 76), op := .load 68 (.tmp 75), ty := 68, guard := none },
  { dst := (some 77), op := .indexAddr 70 (.tmp 52) (.tmp 53), ty := 0, guard := none },
  { dst := none, op := .store 68 (.tmp 77) (.tmp 69), ty := 0, guard := none },
  { dst := (some 78), op := .indexAddr 70 (.tmp 57) (.tmp 60), ty := 0, guard := none },
  { dst := none, op := .store 68 (.tmp 78) (.tmp 76), ty := 0, guard := none }]
def c40_16 : AC := .region o40_16 []
theorem n40_16 : Run Cx 40 T ds ro (.code c40_16 :: k) H Q = RunOps Cx 40 T ds ro o40_16 k H Q := run_region
def c40_15 : AC := .block 1 c40_16
theorem n40_15 : Run Cx 40 T ds ro (.code c40_15 :: k) H Q = Run Cx 40 T ds ro (.code c40_16 :: .inBlock 1 :: k) H Q := run_block
def o40_17 : List AO := [{ dst := (some 46), op := .move (.tmp 4), ty := 3, guard := none },
  { dst := (some 47), op := .binOp .sub 3 (.tmp 46) (.const (.int .i64 1)) 3, ty := 3, guard := none },
  { dst := (some 48), op := .binOp .quo 3 (.tmp 47) (.const (.int .i64 2)) 3, ty := 3, guard := none },
  { dst := (some 4), op := .assign (.tmp 48), ty := 3, guard := none }]
def c40_17 : AC := .region o40_17 []
theorem n40_17 : Run Cx 40 T ds ro (.code c40_17 :: k) H Q = RunOps Cx 40 T ds ro o40_17 k H Q := run_region
def c40_14 : AC := .seq c40_15 c40_17
theorem n40_14 : Run Cx 40 T ds ro (.code c40_14 :: k) H Q = Run Cx 40 T ds ro (.code c40_15 :: .code c40_17 :: k) H Q := run_seq
def c40_8 : AC := .seq c40_9 c40_14
theorem n40_8 : Run Cx 40 T ds ro (.code c40_8 :: k) H Q = Run Cx 40 T ds ro (.code c40_9 :: .code c40_14 :: k) H Q := run_seq
def c40_7 : AC := .loop c40_8
theorem n40_7 : Run Cx 40 T ds ro (.code c40_7 :: k) H Q = Run Cx 40 T ds ro (.inLoop c40_8 :: k) H Q := run_loop'
def c40_6 : AC := .block 0 c40_7
theorem n40_6 : Run Cx 40 T ds ro (.code c40_6 :: k) H Q = Run Cx 40 T ds ro (.code c40_7 :: .inBlock 0 :: k) H Q := run_block
def c40_4 : AC := .seq c40_5 c40_6
theorem n40_4 : Run Cx 40 T ds ro (.code c40_4 :: k) H Q = Run Cx 40 T ds ro (.code c40_5 :: .code c40_6 :: k) H Q := run_seq
def c40_2 : AC := .seq c40_3 c40_4
theorem n40_2 : Run Cx 40 T ds ro (.code c40_2 :: k) H Q = Run Cx 40 T ds ro (.code c40_3 :: .code c40_4 :: k) H Q := run_seq
def c40_0 : AC := .seq c40_1 c40_2
theorem n40_0 : Run Cx 40 T ds ro (.code c40_0 :: k) H Q = Run Cx 40 T ds ro (.code c40_1 :: .code c40_2 :: k) H Q := run_seq
theorem body40 : bodyOf Cx 40 = some c40_0 := by kernel_rfl
theorem res40 : resOf Cx 40 = some [] := by kernel_rfl
theorem pure40 : Cx.pure 40 = false := by kernel_rfl
-- RULES 40: n40_0, n40_1, n40_2, n40_3, n40_4, n40_5, n40_6, n40_7, n40_8, n40_9, n40_10, n40_11, n40_12, n40_13, n40_14, n40_15, n40_16, n40_17
def o41_1 : List AO := [{ dst := (some 2), op := .alloc 68, ty := 0, guard := none }]
def c41_1 : AC := .region o41_1 []
theorem n41_1 : Run Cx 41 T ds ro (.code c41_1 :: k) H Q = RunOps Cx 41 T ds ro o41_1 k H Q := run_region
def o41_4 : List AO := [{ dst := (some 7), op := .move (.tmp 0), ty := 66, guard := none },
  { dst := (some 8), op := .nilCheck (.tmp 7), ty := 0, guard := none },
  { dst := (some 9), op := .fieldAddr 72 (.tmp 8) 0, ty := 0, guard := none },
  { dst := (some 10), op := .load 70 (.tmp 9), ty := 70, guard := none },
  { dst := (some 11), op := .indexAddr 70 (.tmp 10) (.const (.int .i64 0)), ty := 0, guard := none },
  { dst := (some 12), op := .load 68 (.tmp 11), ty := 68, guard := none },
  { dst := (some 3), op := .alloc 68, ty := 0, guard := none },
  { dst := none, op := .store 68 (.tmp 3) (.tmp 12), ty := 0, guard := none }]
def c41_4 : AC := .region o41_4 []
theorem n41_4 : Run Cx 41 T ds ro (.code c41_4 :: k) H Q = RunOps Cx 41 T ds ro o41_4 k H Q := run_region
def o41_6 : List AO := [{ dst := (some 13), op := .move (.tmp 0), ty := 66, guard := none },
  { dst := (some 14), op := .nilCheck (.tmp 13), ty := 0, guard := none },
  { dst := (some 15), op := .fieldAddr 72 (.tmp 14) 0, ty := 0, guard := none },
  { dst := (some 16), op := .load 70 (.tmp 15), ty := 70, guard := none },
  { dst := (some 17), op := .call { callee := (.builtin .len), args := #[(.tmp 16)], argTypes := #[70] }, ty := 3, guard := none },
  { dst := (some 18), op := .binOp .sub 3 (.tmp 17) (.const (.int .i64 1)) 3, ty := 3, guard := none },
  { dst := (some 4), op := .assign (.tmp 18), ty := 3, guard := none }]
def c41_6 : AC := .region o41_6 []
theorem n41_6 : Run Cx 41 T ds ro (.code c41_6 :: k) H Q = RunOps Cx 41 T ds ro o41_6 k H Q := run_region
def o41_8 : List AO := [{ dst := (some 19), op := .move (.tmp 0), ty := 66, guard := none },
  { dst := (some 20), op := .nilCheck (.tmp 19), ty := 0, guard := none },
  { dst := (some 21), op := .fieldAddr 72 (.tmp 20) 0, ty := 0, guard := none },
  { dst := (some 22), op := .load 70 (.tmp 21), ty := 70, guard := none },
  { dst := (some 23), op := .move (.tmp 0), ty := 66, guard := none },
  { dst := (some 24), op := .nilCheck (.tmp 23), ty := 0, guard := none },
  { dst := (some 25), op := .fieldAddr 72 (.tmp 24) 0, ty := 0, guard := none },
  { dst := (some 26), op := .load 70 (.tmp 25), ty := 70, guard := none },
  { dst := (some 27), op := .move (.tmp 4), ty := 3, guard := none },
  { dst := (some 28), op := .indexAddr 70 (.tmp 26) (.tmp 27), ty := 0, guard := none },
  { dst := (some 29), op := .load 68 (.tmp 28), ty := 68, guard := none },
  { dst := (some 30), op := .indexAddr 70 (.tmp 22) (.const (.int .i64 0)), ty := 0, guard := none },
  { dst := none, op := .store 68 (.tmp 30) (.tmp 29), ty := 0, guard := none }]
def c41_8 : AC := .region o41_8 []
theorem n41_8 : Run Cx 41 T ds ro (.code c41_8 :: k) H Q = RunOps Cx 41 T ds ro o41_8 k H Q := run_region
def o41_10 : List AO := [{ dst := (some 31), op := .move (.tmp 0), ty := 66, guard := none },
  { dst := (some 32), op := .move (.tmp 0), ty := 66, guard := none },
  { dst := (some 33), op := .nilCheck (.tmp 32), ty := 0, guard := none },
  { dst := (some 34), op := .fieldAddr 72 (.tmp 33) 0, ty := 0, guard := none },
  { dst := (some 35), op := .load 70 (.tmp 34), ty := 70, guard := none },
  { dst := (some 36), op := .move (.tmp 4), ty := 3, guard := none },
  { dst := (some 37), op := .slice 70 (.tmp 35) none (some (.tmp 36)) none, ty := 70, guard := none },
  { dst := (some 38), op := .nilCheck (.tmp 31), ty := 0, guard := none },
  { dst := (some 39), op := .fieldAddr 72 (.tmp 38) 0, ty := 0, guard := none },
  { dst := none, op := .store 70 (.tmp 39) (.tmp 37), ty := 0, guard := none }]
def c41_10 : AC := .region o41_10 []
theorem n41_10 : Run Cx 41 T ds ro (.code c41_10 :: k) H Q = RunOps Cx 41 T ds ro o41_10 k H Q := run_region
def o41_12 : List AO := [{ dst := (some 5), op := .assign (.const (.int .i64 0)), ty := 3, guard := none }]
def c41_12 : AC := .region o41_12 []
theorem n41_12 : Run Cx 41 T ds ro (.code c41_12 :: k) H Q = RunOps Cx 41 T ds ro o41_12 k H Q := run_region
def c41_14 : AC := .label 0
theorem n41_14 : Run Cx 41 T ds ro (.code c41_14 :: k) H Q = Run Cx 41 T ds ro (k) H Q := run_label
def o41_16 : List AO := [{ dst := (some 40), op := .move (.tmp 5), ty := 3, guard := none },
  { dst := (some 41), op := .binOp .mul 3 (.const (.int .i64 2)) (.tmp 40) 3, ty := 3, guard := none },
  { dst := (some 42), op := .binOp .add 3 (.tmp 41) (.const (.int .i64 1)) 3, ty := 3, guard := none },
  { dst := (some 6), op := .assign (.tmp 42), ty := 3, guard := none }]
def c41_16 : AC := .region o41_16 []
theorem n41_16 : Run Cx 41 T ds ro (.code c41_16 :: k) H Q = RunOps Cx 41 T ds ro o41_16 k H Q := run_region
def o41_19 : List AO := [{ dst := (some 43), op := .move (.tmp 6), ty := 3, guard := none },
  { dst := (some 44), op := .move (.tmp 4), ty := 3, guard := none },
  { dst := (some 45), op := .binOp .lss 3 (.tmp 43) (.tmp 44) 3, ty := 4, guard := none }]
def c41_19 : AC := .region o41_19 []
theorem n41_19 : Run Cx 41 T ds ro (.code c41_19 :: k) H Q = RunOps Cx 41 T ds ro o41_19 k H Q := run_region
def o41_23 : List AO := [{ dst := (some 46), op := .move (.tmp 6), ty := 3, guard := none },
  { dst := (some 47), op := .binOp .add 3 (.tmp 46) (.const (.int .i64 1)) 3, ty := 3, guard := none },
  { dst := (some 48), op := .move (.tmp 4), ty := 3, guard := none },
  { dst := (some 49), op := .binOp .lss 3 (.tmp 47) (.tmp 48) 3, ty := 4, guard := none },
  { dst := (some 50), op := .move (.tmp 49), ty := 4, guard := none },
  { dst := (some 51), op := .move (.tmp 0), ty := 66, guard := (some (50, true)) },
  { dst := (some 52), op := .nilCheck (.tmp 51), ty := 0, guard := (some (50, true)) },
  { dst := (some 53), op := .fieldAddr 72 (.tmp 52) 1, ty := 0, guard := (some (50, true)) },
  { dst := (some 54), op := .load 69 (.tmp 53), ty := 69, guard := (some (50, true)) },
  { dst := (some 55), op := .move (.tmp 0), ty := 66, guard := (some (50, true)) },
  { dst := (some 56), op := .nilCheck (.tmp 55), ty := 0, guard := (some (50, true)) },
  { dst := (some 57), op := .fieldAddr 72 (.tmp 56) 0, ty := 0, guard := (some (50, true)) },
  { dst := (some 58), op := .load 70 (.tmp 57), ty := 70, guard := (some (50, true)) },
  { dst := (some 59), op := .move (.tmp 6), ty := 3, guard := (some (50, true)) },
  { dst := (some 60), op := .binOp .add 3 (.tmp 59) (.const (.int .i64 1)) 3, ty := 3, guard := (some (50, true)) },
  { dst := (some 61), op := .indexAddr 70 (.tmp 58) (.tmp 60), ty := 0, guard := (some (50, true)) },
  { dst := (some 62), op := .load 68 (.tmp 61), ty := 68, guard := (some (50, true)) },
  { dst := (some 63), op := .move (.tmp 0), ty := 66, guard := (some (50, true)) },
  { dst := (some 64), op := .nilCheck (.tmp 63), ty := 0, guard := (some (50, true)) },
  { dst := (some 65), op := .fieldAddr 72 (.tmp 64) 0, ty := 0, guard := (some (50, true)) },
  { dst := (some 66), op := .load 70 (.tmp 65), ty := 70, guard := (some (50, true)) },
  { dst := (some 67), op := .move (.tmp 6), ty := 3, guard := (some (50, true)) },
  { dst := (some 68), op := .indexAddr 70 (.tmp 66) (.tmp 67), ty := 0, guard := (some (50, true)) },
  { dst := (some 69), op := .load 68 (.tmp 68), ty := 68, guard := (some (50, true)) },
  { dst := (some 70), op := .call { callee := (.value (.tmp 54)), args := #[(.tmp 62), (.tmp 69)], argTypes := #[68, 68] }, ty := 4, guard := (some (50, true)) },
  { dst := (some 71), op := .pick (.tmp 50) (.tmp 70) (.const (.bool false)), ty := 4, guard := none }]
def c41_23 : AC := .region o41_23 []
theorem n41_23 : Run Cx 41 T ds ro (.code c41_23 :: k) H Q = RunOps Cx 41 T ds ro o41_23 k H Q := run_region
def o41_25 : List AO := [{ dst := (some 72), op := .move (.tmp 6), ty := 3, guard := none },
  { dst := (some 73), op := .binOp .add 3 (.tmp 72) (.const (.int .i64 1)) 3, ty := 3, guard := none },
  { dst := (some 6), op := .assign (.tmp 73), ty := 3, guard := none }]
def c41_25 : AC := .region o41_25 []
theorem n41_25 : Run Cx 41 T ds ro (.code c41_25 :: k) H Q = RunOps Cx 41 T ds ro o41_25 k H Q := run_region
def c41_26 : AC := .skip
theorem n41_26 : Run Cx 41 T ds ro (.code c41_26 :: k) H Q = Run Cx 41 T ds ro (k) H Q := run_skip
def c41_24 : AC := .cond (.tmp 71) c41_25 c41_26
theorem n41_24 : Run Cx 41 T ds ro (.code c41_24 :: k) H Q = RunCond Cx 41 T ds ro (.tmp 71) (ev T (.tmp 71)) c41_25 c41_26 k H Q := run_condC
def c41_22 : AC := .seq c41_23 c41_24
theorem n41_22 : Run Cx 41 T ds ro (.code c41_22 :: k) H Q = Run Cx 41 T ds ro (.code c41_23 :: .code c41_24 :: k) H Q := run_seq
def o41_28 : List AO := [{ dst := (some 74), op := .move (.tmp 0), ty := 66, guard := none },
  { dst := (some 75), op := .nilCheck (.tmp 74), ty := 0, guard := none },
  { dst := (some 76), op := .fieldAddr 72 (.tmp 75) 1, ty := 0, guard := none },
  { dst := (some 77), op := .load 69 (.tmp 76), ty := 69, guard := none },
  { dst := (some 78), op := .move (.tmp 0), ty := 66, guard := none },
  { dst := (some 79), op := .nilCheck (.tmp 78), ty := 0, guard := none },
  { dst := (some 80), op := .fieldAddr 72 (.tmp 79) 0, ty := 0, guard := none },
  { dst := (some 81), op := .load 70 (.tmp 80), ty := 70, guard := none },
  { dst := (some 82), op := .move (.tmp 6), ty := 3, guard := none },
  { dst := (some 83), op := .indexAddr 70 (.tmp 81) (.tmp 82), ty := 0, guard := none },
  { dst := (some 84), op := .load 68 (.tmp 83), ty := 68, guard := none },
  { dst := (some 85), op := .move (.tmp 0), ty := 66, guard := none },
  { dst := (some 86), op := .nilCheck (.tmp 85), ty := 0, guard := none },
  { dst := (some 87), op := .fieldAddr 72 (.tmp 86) 0, ty := 0, guard := none },
  { dst := (some 88), op := .load 70 (.tmp 87), ty := 70, guard := none },
  { dst := (some 89), op := .move (.tmp 5), ty := 3, guard := none },
  { dst := (some 90), op := .indexAddr 70 (.tmp 88) (.tmp 89), ty := 0, guard := none },
  { dst := (some 91), op := .load 68 (.tmp 90), ty := 68, guard := none },
  { dst := (some 92), op := .call { callee := (.value (.tmp 77)), args := #[(.tmp 84), (.tmp 91)], argTypes := #[68, 68] }, ty := 4, guard := none }]
def c41_28 : AC := .region o41_28 []
theorem n41_28 : Run Cx 41 T ds ro (.code c41_28 :: k) H Q = RunOps Cx 41 T ds ro o41_28 k H Q := run_region
def o41_31 : List AO := [{ dst := (some 93), op := .move (.tmp 0), ty := 66, guard := none },
  { dst := (some 94), op := .nilCheck (.tmp 93), ty := 0, guard := none },
  { dst := (some 95), op := .fieldAddr 72 (.tmp 94) 0, ty := 0, guard := none },
  { dst := (some 96), op := .load 70 (.tmp 95), ty := 70, guard := none },
  { dst := (some 97), op := .move (.tmp 5), ty := 3, guard := none },
  { dst := (some 98), op := .move (.tmp 0), ty := 66, guard := none },
  { dst := (some 99), op := .nilCheck (.tmp 98), ty := 0, guard := none },
  { dst := (some 100), op := .fieldAddr 72 (.tmp 99) 0, ty := 0, guard := none },
  { dst := (some 101), op := .load 70 (.tmp 100), ty := 70, guard := none },
  { dst := (some 102), op := .move (.tmp 6), ty := 3, guard := none },
  { dst := (some 103), op := .move (.tmp 0), ty := 66, guard := none },
  { dst := (some 104), op := .nilCheck (.tmp 103), ty := 0, guard := none },
  { dst := (some 105), op := .fieldAddr 72 (.tmp 104) 0, ty := 0, guard := none },
  { dst := (some 106), op := .load 70 (.tmp 105), ty := 70, guard := none },
  { dst := (some 107), op := .move (.tmp 6), ty := 3, guard := none },
  { dst := (some 108), op := .indexAddr 70 (.tmp 106) (.tmp 107), ty := 0, guard := none },
  { dst := (some 109), op := .load 68 (.tmp 108), ty := 68, guard := none },
  { dst := (some 110), op := .move (.tmp 0), ty := 66, guard := none },
  { dst := (some 111), op := .nilCheck (.tmp 110), ty := 0, guard := none },
  { dst := (some 112), op := .fieldAddr 72 (.tmp 111) 0, ty := 0, guard := none },
  { dst := (some 113), op := .load 70 (.tmp 112), ty := 70, guard := none },
  { dst := (some 114), op := .move (.tmp 5), ty := 3, guard := none },
  { dst := (some 115), op := .indexAddr 70 (.tmp 113) (.tmp 114), ty := 0, guard := none },
  { dst := (some 116), op := .load 68 (.tmp 115), ty := 68, guard := none },
  { dst := (some 117), op := .indexAddr 70 (.tmp 96) (.tmp 97), ty := 0, guard := none },
  { dst := none, op := .store 68 (.tmp 117) (.tmp 109), ty := 0, guard := none },
  { dst := (some 118), op := .indexAddr 70 (.tmp 101) (.tmp 102), ty := 0, guard := none },
  { dst := none, op := .store 68 (.tmp 118) (.tmp 116), ty := 0, guard := none }]
def c41_31 : AC := .region o41_31 []
theorem n41_31 : Run Cx 41 T ds ro (.code c41_31 :: k) H Q = RunOps Cx 41 T ds ro o41_31 k H Q := run_region
def o41_33 : List AO := [{ dst := (some 119), op := .move (.tmp 6), ty := 3, guard := none },
  { dst := (some 5), op := .assign (.tmp 119), ty := 3, guard := none }]
def c41_33 : AC := .region o41_33 []
theorem n41_33 : Run Cx 41 T ds ro (.code c41_33 :: k) H Q = RunOps Cx 41 T ds ro o41_33 k H Q := run_region
def c41_34 : AC := .goto 0
def c41_32 : AC := .seq c41_33 c41_34
theorem n41_32 : Run Cx 41 T ds ro (.code c41_32 :: k) H Q = Run Cx 41 T ds ro (.code c41_33 :: .code c41_34 :: k) H Q := run_seq
def c41_30 : AC := .seq c41_31 c41_32
theorem n41_30 : Run Cx 41 T ds ro (.code c41_30 :: k) H Q = Run Cx 41 T ds ro (.code c41_31 :: .code c41_32 :: k) H Q := run_seq
def c41_35 : AC := .skip
theorem n41_35 : Run Cx 41 T ds ro (.code c41_35 :: k) H Q = Run Cx 41 T ds ro (k) H Q := run_skip
def c41_29 : AC := .cond (.tmp 92) c41_30 c41_35
theorem n41_29 : Run Cx 41 T ds ro (.code c41_29 :: k) H Q = RunCond Cx 41 T ds ro (.tmp 92) (ev T (.tmp 92)) c41_30 c41_35 k H Q := run_condC
def c41_27 : AC := .seq c41_28 c41_29
theorem n41_27 : Run Cx 41 T ds ro (.code c41_27 :: k) H Q = Run Cx 41 T ds ro (.code c41_28 :: .code c41_29 :: k) H Q := run_seq
def c41_21 : AC := .seq c41_22 c41_27
theorem n41_21 : Run Cx 41 T ds ro (.code c41_21 :: k) H Q = Run Cx 41 T ds ro (.code c41_22 :: .code c41_27 :: k) H Q := run_seq
def c41_36 : AC := .skip
theorem n41_36 : Run Cx 41 T ds ro (.code c41_36 :: k) H Q = Run Cx 41 T ds ro (k) H Q := run_skip
def c41_20 : AC := .cond (.tmp 45) c41_21 c41_36
theorem n41_20 : Run Cx 41 T ds ro (.code c41_20 :: k) H Q = RunCond Cx 41 T ds ro (.tmp 45) (ev T (.tmp 45)) c41_21 c41_36 k H Q := run_condC
def c41_18 : AC := .seq c41_19 c41_20
theorem n41_18 : Run Cx 41 T ds ro (.code c41_18 :: k) H Q = Run Cx 41 T ds ro (.code c41_19 :: .code c41_20 :: k) H Q := run_seq
def o41_38 : List AO := [{ dst := (some 120), op := .load 68 (.tmp 3), ty := 68, guard := none },
  { dst := none, op := .store 68 (.tmp 2) (.tmp 120), ty := 0, guard := none }]
def c41_38 : AC := .region o41_38 []
theorem n41_38 : Run Cx 41 T ds ro (.code c41_38 :: k) H Q = RunOps Cx 41 T ds ro o41_38 k H Q := run_region
def c41_39 : AC := .ret
theorem n41_39 : Run Cx 41 T [] none (.code c41_39 :: k) H Q = RunRes Cx T H Q (resOf Cx 41) := run_ret
def c41_37 : AC := .seq c41_38 c41_39
theorem n41_37 : Run Cx 41 T ds ro (.code c41_37 :: k) H Q = Run Cx 41 T ds ro (.code c41_38 :: .code c41_39 :: k) H Q := run_seq
def c41_17 : AC := .seq c41_18 c41_37
theorem n41_17 : Run Cx 41 T ds ro (.code c41_17 :: k) H Q = Run Cx 41 T ds ro (.code c41_18 :: .code c41_37 :: k) H Q := run_seq
def c41_15 : AC := .seq c41_16 c41_17
theorem n41_15 : Run Cx 41 T ds ro (.code c41_15 :: k) H Q = Run Cx 41 T ds ro (.code c41_16 :: .code c41_17 :: k) H Q := run_seq
def c41_13 : AC := .seq c41_14 c41_15
theorem n41_13 : Run Cx 41 T ds ro (.code c41_13 :: k) H Q = Run Cx 41 T ds ro (.code c41_14 :: .code c41_15 :: k) H Q := run_seq
def c41_11 : AC := .seq c41_12 c41_13
theorem n41_11 : Run Cx 41 T ds ro (.code c41_11 :: k) H Q = Run Cx 41 T ds ro (.code c41_12 :: .code c41_13 :: k) H Q := run_seq
def c41_9 : AC := .seq c41_10 c41_11
theorem n41_9 : Run Cx 41 T ds ro (.code c41_9 :: k) H Q = Run Cx 41 T ds ro (.code c41_10 :: .code c41_11 :: k) H Q := run_seq
def c41_7 : AC := .seq c41_8 c41_9
theorem n41_7 : Run Cx 41 T ds ro (.code c41_7 :: k) H Q = Run Cx 41 T ds ro (.code c41_8 :: .code c41_9 :: k) H Q := run_seq
def c41_5 : AC := .seq c41_6 c41_7
theorem n41_5 : Run Cx 41 T ds ro (.code c41_5 :: k) H Q = Run Cx 41 T ds ro (.code c41_6 :: .code c41_7 :: k) H Q := run_seq
def c41_3 : AC := .seq c41_4 c41_5
theorem n41_3 : Run Cx 41 T ds ro (.code c41_3 :: k) H Q = Run Cx 41 T ds ro (.code c41_4 :: .code c41_5 :: k) H Q := run_seq
def c41_2 : AC := .scope c41_3
theorem n41_2 : Run Cx 41 T ds ro (.code c41_2 :: k) H Q = Run Cx 41 T ds ro (.code c41_3 :: .inScope c41_3 :: k) H Q := run_scope
def c41_0 : AC := .seq c41_1 c41_2
theorem n41_0 : Run Cx 41 T ds ro (.code c41_0 :: k) H Q = Run Cx 41 T ds ro (.code c41_1 :: .code c41_2 :: k) H Q := run_seq
theorem body41 : bodyOf Cx 41 = some c41_0 := by kernel_rfl
theorem res41 : resOf Cx 41 = some [.cell 2 68] := by kernel_rfl
theorem pure41 : Cx.pure 41 = false := by kernel_rfl
-- RULES 41: n41_0, n41_1, n41_2, n41_3, n41_4, n41_5, n41_6, n41_7, n41_8, n41_9, n41_10, n41_11, n41_12, n41_13, n41_14, n41_15, n41_16, n41_17, n41_18, n41_19, n41_20, n41_21, n41_22, n41_23, n41_24, n41_25, n41_26, n41_27, n41_28, n41_29, n41_30, n41_31, n41_32, n41_33, n41_34, n41_35, n41_36, n41_37, n41_38, n41_39
def o42_1 : List AO := [{ dst := (some 4), op := .assign (.const (.int .i64 0)), ty := 3, guard := none }]
def c42_1 : AC := .region o42_1 []
theorem n42_1 : Run Cx 42 T ds ro (.code c42_1 :: k) H Q = RunOps Cx 42 T ds ro o42_1 k H Q := run_region
def o42_4 : List AO := [{ dst := (some 6), op := .move (.tmp 0), ty := 29, guard := none },
  { dst := (some 7), op := .call { callee := (.builtin .len), args := #[(.tmp 6)], argTypes := #[29] }, ty := 3, guard := none },
  { dst := (some 8), op := .move (.const (.int .i64 0)), ty := 3, guard := none }]
def c42_4 : AC := .region o42_4 []
theorem n42_4 : Run Cx 42 T ds ro (.code c42_4 :: k) H Q = RunOps Cx 42 T ds ro o42_4 k H Q := run_region
def o42_8 : List AO := [{ dst := (some 9), op := .binOp .lss 3 (.tmp 8) (.tmp 7) 3, ty := 0, guard := none }]
def c42_8 : AC := .region o42_8 []
theorem n42_8 : Run Cx 42 T ds ro (.code c42_8 :: k) H Q = RunOps Cx 42 T ds ro o42_8 k H Q := run_region
def c42_11 : AC := .skip
theorem n42_11 : Run Cx 42 T ds ro (.code c42_11 :: k) H Q = Run Cx 42 T ds ro (k) H Q := run_skip
def c42_12 : AC := .exit 0
theorem n42_12 : Run Cx 42 T ds ro (.code c42_12 :: k) H Q = RunExit Cx 42 T ds ro 0 k k H Q := run_exit_start
def c42_10 : AC := .cond (.tmp 9) c42_11 c42_12
theorem n42_10 : Run Cx 42 T ds ro (.code c42_10 :: k) H Q = RunCond Cx 42 T ds ro (.tmp 9) (ev T (.tmp 9)) c42_11 c42_12 k H Q := run_condC
def o42_16 : List AO := [{ dst := (some 10), op := .move (.tmp 8), ty := 3, guard := none },
  { dst := (some 5), op := .assign (.tmp 10), ty := 3, guard := none }]
def c42_16 : AC := .region o42_16 []
theorem n42_16 : Run Cx 42 T ds ro (.code c42_16 :: k) H Q = RunOps Cx 42 T ds ro o42_16 k H Q := run_region
def o42_18 : List AO := [{ dst := (some 11), op := .move (.tmp 1), ty := 25, guard := none },
  { dst := (some 12), op := .move (.tmp 0), ty := 29, guard := none },
  { dst := (some 13), op := .move (.tmp 5), ty := 3, guard := none },
  { dst := (some 14), op := .indexAddr 29 (.tmp 12) (.tmp 13), ty := 0, guard := none },
  { dst := (some 15), op := .load 22 (.tmp 14), ty := 22, guard := none },
  { dst := (some 16), op := .call { callee := (.value (.tmp 11)), args := #[(.tmp 15)], argTypes := #[22] }, ty := 4, guard := none }]
def c42_18 : AC := .region o42_18 []
theorem n42_18 : Run Cx 42 T ds ro (.code c42_18 :: k) H Q = RunOps Cx 42 T ds ro o42_18 k H Q := run_region
def o42_21 : List AO := [{ dst := (some 17), op := .move (.tmp 5), ty := 3, guard := none },
  { dst := (some 4), op := .assign (.tmp 17), ty := 3, guard := none }]
def c42_21 : AC := .region o42_21 []
theorem n42_21 : Run Cx 42 T ds ro (.code c42_21 :: k) H Q = RunOps Cx 42 T ds ro o42_21 k H Q := run_region
def c42_22 : AC := .ret
theorem n42_22 : Run Cx 42 T [] none (.code c42_22 :: k) H Q = RunRes Cx T H Q (resOf Cx 42) := run_ret
def c42_20 : AC := .seq c42_21 c42_22
theorem n42_20 : Run Cx 42 T ds ro (.code c42_20 :: k) H Q = Run Cx 42 T ds ro (.code c42_21 :: .code c42_22 :: k) H Q := run_seq
def c42_23 : AC := .skip
theorem n42_23 : Run Cx 42 T ds ro (.code c42_23 :: k) H Q = Run Cx 42 T ds ro (k) H Q := run_skip
def c42_19 : AC := .cond (.tmp 16) c42_20 c42_23
theorem n42_19 : Run Cx 42 T ds ro (.code c42_19 :: k) H Q = RunCond Cx 42 T ds ro (.tmp 16) (ev T (.tmp 16)) c42_20 c42_23 k H Q := run_condC
def c42_17 : AC := .seq c42_18 c42_19
theorem n42_17 : Run Cx 42 T ds ro (.code c42_17 :: k) H Q = Run Cx 42 T ds ro (.code c42_18 :: .code c42_19 :: k) H Q := run_seq
def c42_15 : AC := .seq c42_16 c42_17
theorem n42_15 : Run Cx 42 T ds ro (.code c42_15 :: k) H Q = Run Cx 42 T ds ro (.code c42_16 :: .code c42_17 :: k) H Q := run_seq
def c42_14 : AC := .block 1 c42_15
theorem n42_14 : Run Cx 42 T ds ro (.code c42_14 :: k) H Q = Run Cx 42 T ds ro (.code c42_15 :: .inBlock 1 :: k) H Q := run_block
def o42_24 : List AO := [{ dst := (some 18), op := .binOp .add 3 (.tmp 8) (.const (.int .i64 1)) 3, ty := 3, guard := none },
  { dst := (some 8), op := .move (.tmp 18), ty := 3, guard := none }]
def c42_24 : AC := .region o42_24 []
theorem n42_24 : Run Cx 42 T ds ro (.code c42_24 :: k) H Q = RunOps Cx 42 T ds ro o42_24 k H Q := run_region
def c42_13 : AC := .seq c42_14 c42_24
theorem n42_13 : Run Cx 42 T ds ro (.code c42_13 :: k) H Q = Run Cx 42 T ds ro (.code c42_14 :: .code c42_24 :: k) H Q := run_seq
def c42_9 : AC := .seq c42_10 c42_13
theorem n42_9 : Run Cx 42 T ds ro (.code c42_9 :: k) H Q = Run Cx 42 T ds ro (.code c42_10 :: .code c42_13 :: k) H Q := run_seq
def c42_7 : AC := .seq c42_8 c42_9
theorem n42_7 : Run Cx 42 T ds ro (.code c42_7 :: k) H Q = Run Cx 42 T ds ro (.code c42_8 :: .code c42_9 :: k) H Q := run_seq
def c42_6 : AC := .loop c42_7
theorem n42_6 : Run Cx 42 T ds ro (.code c42_6 :: k) H Q = Run Cx 42 T ds ro (.inLoop c42_7 :: k) H Q := run_loop'
def c42_5 : AC := .block 0 c42_6
theorem n42_5 : Run Cx 42 T ds ro (.code c42_5 :: k) H Q = Run Cx 42 T ds ro (.code c42_6 :: .inBlock 0 :: k) H Q := run_block
def c42_3 : AC := .seq c42_4 c42_5
theorem n42_3 : Run Cx 42 T ds ro (.code c42_3 :: k) H Q = Run Cx 42 T ds ro (.code c42_4 :: .code c42_5 :: k) H Q := run_seq
def o42_26 : List AO := [{ dst := (some 4), op := .assign (.const (.int .i64 (-1))), ty := 3, guard := none }]
def c42_26 : AC := .region o42_26 []
theorem n42_26 : Run Cx 42 T ds ro (.code c42_26 :: k) H Q = RunOps Cx 42 T ds ro o42_26 k H Q := run_region
def c42_27 : AC := .ret
theorem n42_27 : Run Cx 42 T [] none (.code c42_27 :: k) H Q = RunRes Cx T H Q (resOf Cx 42) := run_ret
def c42_25 : AC := .seq c42_26 c42_27
theorem n42_25 : Run Cx 42 T ds ro (.code c42_25 :: k) H Q = Run Cx 42 T ds ro (.code c42_26 :: .code c42_27 :: k) H Q := run_seq
def c42_2 : AC := .seq c42_3 c42_25
theorem n42_2 : Run Cx 42 T ds ro (.code c42_2 :: k) H Q = Run Cx 42 T ds ro (.code c42_3 :: .code c42_25 :: k) H Q := run_seq
def c42_0 : AC := .seq c42_1 c42_2
theorem n42_0 : Run Cx 42 T ds ro (.code c42_0 :: k) H Q = Run Cx 42 T ds ro (.code c42_1 :: .code c42_2 :: k) H Q := run_seq
theorem body42 : bodyOf Cx 42 = some c42_0 := by kernel_rfl
theorem res42 : resOf Cx 42 = some [.tmp 4] := by kernel_rfl
theorem pure42 : Cx.pure 42 = false := by kernel_rfl
-- RULES 42: n42_0, n42_1, n42_2, n42_3, n42_4, n42_5, n42_6, n42_7, n42_8, n42_9, n42_10, n42_11, n42_12, n42_13, n42_14, n42_15, n42_16, n42_17, n42_18, n42_19, n42_20, n42_21, n42_22, n42_23, n42_24, n42_25, n42_26, n42_27
def o43_1 : List AO := [{ dst := (some 6), op := .assign (.const (.int .i64 20)), ty := 3, guard := none }]
def c43_1 : AC := .region o43_1 []
theorem n43_1 : Run Cx 43 T ds ro (.code c43_1 :: k) H Q = RunOps Cx 43 T ds ro o43_1 k H Q := run_region
def o43_3 : List AO := [{ dst := (some 10), op := .move (.tmp 6), ty := 3, guard := none },
  { dst := (some 7), op := .assign (.const (.int .i64 0)), ty := 3, guard := none },
  { dst := (some 8), op := .assign (.tmp 10), ty := 3, guard := none }]
def c43_3 : AC := .region o43_3 []
theorem n43_3 : Run Cx 43 T ds ro (.code c43_3 :: k) H Q = RunOps Cx 43 T ds ro o43_3 k H Q := run_region
def o43_9 : List AO := [{ dst := (some 11), op := .move (.tmp 8), ty := 3, guard := none },
  { dst := (some 12), op := .move (.tmp 1), ty := 3, guard := none },
  { dst := (some 13), op := .binOp .leq 3 (.tmp 11) (.tmp 12) 3, ty := 4, guard := none }]
def c43_9 : AC := .region o43_9 []
theorem n43_9 : Run Cx 43 T ds ro (.code c43_9 :: k) H Q = RunOps Cx 43 T ds ro o43_9 k H Q := run_region
def c43_11 : AC := .skip
theorem n43_11 : Run Cx 43 T ds ro (.code c43_11 :: k) H Q = Run Cx 43 T ds ro (k) H Q := run_skip
def c43_12 : AC := .exit 0
theorem n43_12 : Run Cx 43 T ds ro (.code c43_12 :: k) H Q = RunExit Cx 43 T ds ro 0 k k H Q := run_exit_start
def c43_10 : AC := .cond (.tmp 13) c43_11 c43_12
theorem n43_10 : Run Cx 43 T ds ro (.code c43_10 :: k) H Q = RunCond Cx 43 T ds ro (.tmp 13) (ev T (.tmp 13)) c43_11 c43_12 k H Q := run_condC
def c43_8 : AC := .seq c43_9 c43_10
theorem n43_8 : Run Cx 43 T ds ro (.code c43_8 :: k) H Q = Run Cx 43 T ds ro (.code c43_9 :: .code c43_10 :: k) H Q := run_seq
def o43_15 : List AO := [{ dst := (some 14), op := .move (.tmp 0), ty := 22, guard := none },
  { dst := (some 15), op := .move (.tmp 7), ty := 3, guard := none },
  { dst := (some 16), op := .move (.tmp 8), ty := 3, guard := none },
  { dst := (some 17), op := .move (.tmp 2), ty := 59, guard := none },
  { dst := (some 18), op := .call { callee := (.value (.func 46)), args := #[(.tmp 14), (.tmp 15), (.tmp 16), (.tmp 17)], argTypes := #[22, 3, 3, 59] }, ty := 0, guard := none }]
def c43_15 : AC := .region o43_15 []
theorem n43_15 : Run Cx 43 T ds ro (.code c43_15 :: k) H Q = RunOps Cx 43 T ds ro o43_15 k H Q := run_region
def o43_17 : List AO := [{ dst := (some 19), op := .move (.tmp 8), ty := 3, guard := none },
  { dst := (some 7), op := .assign (.tmp 19), ty := 3, guard := none }]
def c43_17 : AC := .region o43_17 []
theorem n43_17 : Run Cx 43 T ds ro (.code c43_17 :: k) H Q = RunOps Cx 43 T ds ro o43_17 k H Q := run_region
def o43_18 : List AO := [{ dst := (some 20), op := .move (.tmp 8), ty := 3, guard := none },
  { dst := (some 21), op := .move (.tmp 6), ty := 3, guard := none },
  { dst := (some 22), op := .binOp .add 3 (.tmp 20) (.tmp 21) 3, ty := 3, guard := none },
  { dst := (some 8), op := .assign (.tmp 22), ty := 3, guard := none }]
def c43_18 : AC := .region o43_18 []
theorem n43_18 : Run Cx 43 T ds ro (.code c43_18 :: k) H Q = RunOps Cx 43 T ds ro o43_18 k H Q := run_region
def c43_16 : AC := .seq c43_17 c43_18
theorem n43_16 : Run Cx 43 T ds ro (.code c43_16 :: k) H Q = Run Cx 43 T ds ro (.code c43_17 :: .code c43_18 :: k) H Q := run_seq
def c43_14 : AC := .seq c43_15 c43_16
theorem n43_14 : Run Cx 43 T ds ro (.code c43_14 :: k) H Q = Run Cx 43 T ds ro (.code c43_15 :: .code c43_16 :: k) H Q := run_seq
def c43_13 : AC := .block 1 c43_14
theorem n43_13 : Run Cx 43 T ds ro (.code c43_13 :: k) H Q = Run Cx 43 T ds ro (.code c43_14 :: .inBlock 1 :: k) H Q := run_block
def c43_7 : AC := .seq c43_8 c43_13
theorem n43_7 : Run Cx 43 T ds ro (.code c43_7 :: k) H Q = Run Cx 43 T ds ro (.code c43_8 :: .code c43_13 :: k) H Q := run_seq
def c43_6 : AC := .loop c43_7
theorem n43_6 : Run Cx 43 T ds ro (.code c43_6 :: k) H Q = Run Cx 43 T ds ro (.inLoop c43_7 :: k) H Q := run_loop'
def c43_5 : AC := .block 0 c43_6
theorem n43_5 : Run Cx 43 T ds ro (.code c43_5 :: k) H Q = Run Cx 43 T ds ro (.code c43_6 :: .inBlock 0 :: k) H Q := run_block
def o43_20 : List AO := [{ dst := (some 23), op := .move (.tmp 0), ty := 22, guard := none },
  { dst := (some 24), op := .move (.tmp 7), ty := 3, guard := none },
  { dst := (some 25), op := .move (.tmp 1), ty := 3, guard := none },
  { dst := (some 26), op := .move (.tmp 2), ty := 59, guard := none },
  { dst := (some 27), op := .call { callee := (.value (.func 46)), args := #[(.tmp 23), (.tmp 24), (.tmp 25), (.tmp 26)], argTypes := #[22, 3, 3, 59] }, ty := 0, guard := none }]
def c43_20 : AC := .region o43_20 []
theorem n43_20 : Run Cx 43 T ds ro (.code c43_20 :: k) H Q = RunOps Cx 43 T ds ro o43_20 k H Q := run_region
def o43_25 : List AO := [{ dst := (some 28), op := .move (.tmp 6), ty := 3, guard := none },
  { dst := (some 29), op := .move (.tmp 1), ty := 3, guard := none },
  { dst := (some 30), op := .binOp .lss 3 (.tmp 28) (.tmp 29) 3, ty := 4, guard := none }]
def c43_25 : AC := .region o43_25 []
theorem n43_25 : Run Cx 43 T ds ro (.code c43_25 :: k) H Q = RunOps Cx 43 T ds ro o43_25 k H Q := run_region
def c43_27 : AC := .skip
theorem n43_27 : Run Cx 43 T ds ro (.code c43_27 :: k) H Q = Run Cx 43 T ds ro (k) H Q := run_skip
def c43_28 : AC := .exit 2
theorem n43_28 : Run Cx 43 T ds ro (.code c43_28 :: k) H Q = RunExit Cx 43 T ds ro 2 k k H Q := run_exit_start
def c43_26 : AC := .cond (.tmp 30) c43_27 c43_28
theorem n43_26 : Run Cx 43 T ds ro (.code c43_26 :: k) H Q = RunCond Cx 43 T ds ro (.tmp 30) (ev T (.tmp 30)) c43_27 c43_28 k H Q := run_condC
def c43_24 : AC := .seq c43_25 c43_26
theorem n43_24 : Run Cx 43 T ds ro (.code c43_24 :: k) H Q = Run Cx 43 T ds ro (.code c43_25 :: .code c43_26 :: k) H Q := run_seq
def o43_31 : List AO := [{ dst := (some 31), op := .move (.tmp 6), ty := 3, guard := none },
  { dst := (some 32), op := .binOp .mul 3 (.const (.int .i64 2)) (.tmp 31) 3, ty := 3, guard := none },
  { dst := (some 7), op := .assign (.const (.int .i64 0)), ty := 3, guard := none },
  { dst := (some 8), op := .assign (.tmp 32), ty := 3, guard := none }]
def c43_31 : AC := .region o43_31 []
theorem n43_31 : Run Cx 43 T ds ro (.code c43_31 :: k) H Q = RunOps Cx 43 T ds ro o43_31 k H Q := run_region
def o43_37 : List AO := [{ dst := (some 33), op := .move (.tmp 8), ty := 3, guard := none },
  { dst := (some 34), op := .move (.tmp 1), ty := 3, guard := none },
  { dst := (some 35), op := .binOp .leq 3 (.tmp 33) (.tmp 34) 3, ty := 4, guard := none }]
def c43_37 : AC := .region o43_37 []
theorem n43_37 : Run Cx 43 T ds ro (.code c43_37 :: k) H Q = RunOps Cx 43 T ds ro o43_37 k H Q := run_region
def c43_39 : AC := .skip
theorem n43_39 : Run Cx 43 T ds ro (.code c43_39 :: k) H Q = Run Cx 43 T ds ro (k) H Q := run_skip
def c43_40 : AC := .exit 4
theorem n43_40 : Run Cx 43 T ds ro (.code c43_40 :: k) H Q = RunExit Cx 43 T ds ro 4 k k H Q := run_exit_start
def c43_38 : AC := .cond (.tmp 35) c43_39 c43_40
theorem n43_38 : Run Cx 43 T ds ro (.code c43_38 :: k) H Q = RunCond Cx 43 T ds ro (.tmp 35) (ev T (.tmp 35)) c43_39 c43_40 k H Q := run_condC
def c43_36 : AC := .seq c43_37 c43_38
theorem n43_36 : Run Cx 43 T ds ro (.code c43_36 :: k) H Q = Run Cx 43 T ds ro (.code c43_37 :: .code c43_38 :: k) H Q := run_seq
def o43_43 : List AO := [{ dst := (some 36), op := .move (.tmp 0), ty := 22, guard := none },
  { dst := (some 37), op := .move (.tmp 7), ty := 3, guard := none },
  { dst := (some 38), op := .move (.tmp 7), ty := 3, guard := none },
  { dst := (some 39), op := .move (.tmp 6), ty := 3, guard := none },
  { dst := (some 40), op := .binOp .add 3 (.tmp 38) (.tmp 39) 3, ty := 3, guard := none },
  { dst := (some 41), op := .move (.tmp 8), ty := 3, guard := none },
  { dst := (some 42), op := .move (.tmp 2), ty := 59, guard := none },
  { dst := (some 43), op := .call { callee := (.value (.func 47)), args := #[(.tmp 36), (.tmp 37), (.tmp 40), (.tmp 41), (.tmp 42)], argTypes := #[22, 3, 3, 3, 59] }, ty := 0, guard := none }]
def c43_43 : AC := .region o43_43 []
theorem n43_43 : Run Cx 43 T ds ro (.code c43_43 :: k) H Q = RunOps Cx 43 T ds ro o43_43 k H Q := run_region
def o43_45 : List AO := [{ dst := (some 44), op := .move (.tmp 8), ty := 3, guard := none },
  { dst := (some 7), op := .assign (.tmp 44), ty := 3, guard := none }]
def c43_45 : AC := .region o43_45 []
theorem n43_45 : Run Cx 43 T ds ro (.code c43_45 :: k) H Q = RunOps Cx 43 T ds ro o43_45 k H Q := run_region
def o43_46 : List AO := [{ dst := (some 45), op := .move (.tmp 8), ty := 3, guard := none },
  { dst := (some 46), op := .move (.tmp 6), ty := 3, guard := none },
  { dst := (some 47), op := .binOp .mul 3 (.const (.int .i64 2)) (.tmp 46) 3, ty := 3, guard := none },
  { dst := (some 48), op := .binOp .add 3 (.tmp 45) (.tmp 47) 3, ty := 3, guard := none },
  { dst := (some 8), op := .assign (.tmp 48), ty := 3, guard := none }]
def c43_46 : AC := .region o43_46 []
theorem n43_46 : Run Cx 43 T ds ro (.code c43_46 :: k) H Q = RunOps Cx 43 T ds ro o43_46 k H Q := run_region
def c43_44 : AC := .seq c43_45 c43_46
theorem n43_44 : Run Cx 43 T ds ro (.code c43_44 :: k) H Q = Run Cx 43 T ds ro (.code c43_45 :: .code c43_46 :: k) H Q := run_seq
def c43_42 : AC := .seq c43_43 c43_44
theorem n43_42 : Run Cx 43 T ds ro (.code c43_42 :: k) H Q = Run Cx 43 T ds ro (.code c43_43 :: .code c43_44 :: k) H Q := run_seq
def c43_41 : AC := .block 5 c43_42
theorem n43_41 : Run Cx 43 T ds ro (.code c43_41 :: k) H Q = Run Cx 43 T ds ro (.code c43_42 :: .inBlock 5 :: k) H Q := run_block
def c43_35 : AC := .seq c43_36 c43_41
theorem n43_35 : Run Cx 43 T ds ro (.code c43_35 :: k) H Q = Run Cx 43 T ds ro (.code c43_36 :: .code c43_41 :: k) H Q := run_seq
def c43_34 : AC := .loop c43_35
theorem n43_34 : Run Cx 43 T ds ro (.code c43_34 :: k) H Q = Run Cx 43 T ds ro (.inLoop c43_35 :: k) H Q := run_loop'
def c43_33 : AC := .block 4 c43_34
theorem n43_33 : Run Cx 43 T ds ro (.code c43_33 :: k) H Q = Run Cx 43 T ds ro (.code c43_34 :: .inBlock 4 :: k) H Q := run_block
def o43_49 : List AO := [{ dst := (some 49), op := .move (.tmp 7), ty := 3, guard := none },
  { dst := (some 50), op := .move (.tmp 6), ty := 3, guard := none },
  { dst := (some 51), op := .binOp .add 3 (.tmp 49) (.tmp 50) 3, ty := 3, guard := none },
  { dst := (some 9), op := .assign (.tmp 51), ty := 3, guard := none }]
def c43_49 : AC := .region o43_49 []
theorem n43_49 : Run Cx 43 T ds ro (.code c43_49 :: k) H Q = RunOps Cx 43 T ds ro o43_49 k H Q := run_region
def o43_51 : List AO := [{ dst := (some 52), op := .move (.tmp 9), ty := 3, guard := none },
  { dst := (some 53), op := .move (.tmp 1), ty := 3, guard := none },
  { dst := (some 54), op := .binOp .lss 3 (.tmp 52) (.tmp 53) 3, ty := 4, guard := none }]
def c43_51 : AC := .region o43_51 []
theorem n43_51 : Run Cx 43 T ds ro (.code c43_51 :: k) H Q = RunOps Cx 43 T ds ro o43_51 k H Q := run_region
def o43_53 : List AO := [{ dst := (some 55), op := .move (.tmp 0), ty := 22, guard := none },
  { dst := (some 56), op := .move (.tmp 7), ty := 3, guard := none },
  { dst := (some 57), op := .move (.tmp 9), ty := 3, guard := none },
  { dst := (some 58), op := .move (.tmp 1), ty := 3, guard := none },
  { dst := (some 59), op := .move (.tmp 2), ty := 59, guard := none },
  { dst := (some 60), op := .call { callee := (.value (.func 47)), args := #[(.tmp 55), (.tmp 56), (.tmp 57), (.tmp 58), (.tmp 59)], argTypes := #[22, 3, 3, 3, 59] }, ty := 0, guard := none }]
def c43_53 : AC := .region o43_53 []
theorem n43_53 : Run Cx 43 T ds ro (.code c43_53 :: k) H Q = RunOps Cx 43 T ds ro o43_53 k H Q := run_region
def c43_54 : AC := .skip
theorem n43_54 : Run Cx 43 T ds ro (.code c43_54 :: k) H Q = Run Cx 43 T ds ro (k) H Q := run_skip
def c43_52 : AC := .cond (.tmp 54) c43_53 c43_54
theorem n43_52 : Run Cx 43 T ds ro (.code c43_52 :: k) H Q = RunCond Cx 43 T ds ro (.tmp 54) (ev T (.tmp 54)) c43_53 c43_54 k H Q := run_condC
def c43_50 : AC := .seq c43_51 c43_52
theorem n43_50 : Run Cx 43 T ds ro (.code c43_50 :: k) H Q = Run Cx 43 T ds ro (.code c43_51 :: .code c43_52 :: k) H Q := run_seq
def c43_48 : AC := .seq c43_49 c43_50
theorem n43_48 : Run Cx 43 T ds ro (.code c43_48 :: k) H Q = Run Cx 43 T ds ro (.code c43_49 :: .code c43_50 :: k) H Q := run_seq
def o43_55 : List AO := [{ dst := (some 61), op := .move (.tmp 6), ty := 3, guard := none },
  { dst := (some 62), op := .binOp .mul 3 (.tmp 61) (.const (.int .i64 2)) 3, ty := 3, guard := none },
  { dst := (some 6), op := .assign (.tmp 62), ty := 3, guard := none }]
def c43_55 : AC := .region o43_55 []
theorem n43_55 : Run Cx 43 T ds ro (.code c43_55 :: k) H Q = RunOps Cx 43 T ds ro o43_55 k H Q := run_region
def c43_47 : AC := .seq c43_48 c43_55
theorem n43_47 : Run Cx 43 T ds ro (.code c43_47 :: k) H Q = Run Cx 43 T ds ro (.code c43_48 :: .code c43_55 :: k) H Q := run_seq
def c43_32 : AC := .seq c43_33 c43_47
theorem n43_32 : Run Cx 43 T ds ro (.code c43_32 :: k) H Q = Run Cx 43 T ds ro (.code c43_33 :: .code c43_47 :: k) H Q := run_seq
def c43_30 : AC := .seq c43_31 c43_32
theorem n43_30 : Run Cx 43 T ds ro (.code c43_30 :: k) H Q = Run Cx 43 T ds ro (.code c43_31 :: .code c43_32 :: k) H Q := run_seq
def c43_29 : AC := .block 3 c43_30
theorem n43_29 : Run Cx 43 T ds ro (.code c43_29 :: k) H Q = Run Cx 43 T ds ro (.code c43_30 :: .inBlock 3 :: k) H Q := run_block
def c43_23 : AC := .seq c43_24 c43_29
theorem n43_23 : Run Cx 43 T ds ro (.code c43_23 :: k) H Q = Run Cx 43 T ds ro (.code c43_24 :: .code c43_29 :: k) H Q := run_seq
def c43_22 : AC := .loop c43_23
theorem n43_22 : Run Cx 43 T ds ro (.code c43_22 :: k) H Q = Run Cx 43 T ds ro (.inLoop c43_23 :: k) H Q := run_loop'
def c43_21 : AC := .block 2 c43_22
theorem n43_21 : Run Cx 43 T ds ro (.code c43_21 :: k) H Q = Run Cx 43 T ds ro (.code c43_22 :: .inBlock 2 :: k) H Q := run_block
def c43_19 : AC := .seq c43_20 c43_21
theorem n43_19 : Run Cx 43 T ds ro (.code c43_19 :: k) H Q = Run Cx 43 T ds ro (.code c43_20 :: .code c43_21 :: k) H Q := run_seq
def c43_4 : AC := .seq c43_5 c43_19
theorem n43_4 : Run Cx 43 T ds ro (.code c43_4 :: k) H Q = Run Cx 43 T ds ro (.code c43_5 :: .code c43_19 :: k) H Q := run_seq
def c43_2 : AC := .seq c43_3 c43_4
theorem n43_2 : Run Cx 43 T ds ro (.code c43_2 :: k) H Q = Run Cx 43 T ds ro (.code c43_3 :: .code c43_4 :: k) H Q := run_seq
def c43_0 : AC := .seq c43_1 c43_2
theorem n43_0 : Run Cx 43 T ds ro (.code c43_0 :: k) H Q = Run Cx 43 T ds ro (.code c43_1 :: .code c43_2 :: k) H Q := run_seq
theorem body43 : bodyOf Cx 43 = some c43_0 := by kernel_rfl
theorem res43 : resOf Cx 43 = some [] := by kernel_rfl
theorem pure43 : Cx.pure 43 = false := by kernel_rfl
-- RULES 43: n43_0, n43_1, n43_2, n43_3, n43_4, n43_5, n43_6, n43_7, n43_8, n43_9, n43_10, n43_11, n43_12, n43_13, n43_14, n43_15, n43_16, n43_17, n43_18, n43_19, n43_20, n43_21, n43_22, n43_23, n43_24, n43_25, n43_26, n43_27, n43_28, n43_29, n43_30, n43_31, n43_32, n43_33, n43_34, n43_35, n43_36, n43_37, n43_38, n43_39, n43_40, n43_41, n43_42, n43_43, n43_44, n43_45, n43_46, n43_47, n43_48, n43_49, n43_50, n43_51, n43_52, n43_53, n43_54, n43_55
def o44_1 : List AO := [{ dst := (some 2), op := .assign (.const (.bool false)), ty := 4, guard := none }]
def c44_1 : AC := .region o44_1 []
theorem n44_1 : Run Cx 44 T ds ro (.code c44_1 :: k) H Q = RunOps Cx 44 T ds ro o44_1 k H Q := run_region
def o44_3 : List AO := [{ dst := (some 3), op := .move (.tmp 0), ty := 3, guard := none },
  { dst := (some 4), op := .binOp .geq 3 (.tmp 3) (.const (.int .i64 (-16777216))) 3, ty := 4, guard := none },
  { dst := (some 5), op := .move (.tmp 4), ty := 4, guard := none },
  { dst := (some 6), op := .move (.tmp 0), ty := 3, guard := (some (5, true)) },
  { dst := (some 7), op := .binOp .leq 3 (.tmp 6) (.const (.int .i64 16777216)) 3, ty := 4, guard := (some (5, true)) },
  { dst := (some 8), op := .pick (.tmp 5) (.tmp 7) (.const (.bool false)), ty := 4, guard := none },
  { dst := (some 2), op := .assign (.tmp 8), ty := 4, guard := none }]
def c44_3 : AC := .region o44_3 []
theorem n44_3 : Run Cx 44 T ds ro (.code c44_3 :: k) H Q = RunOps Cx 44 T ds ro o44_3 k H Q := run_region
def c44_4 : AC := .ret
theorem n44_4 : Run Cx 44 T [] none (.code c44_4 :: k) H Q = RunRes Cx T H Q (resOf Cx 44) := run_ret
def c44_2 : AC := .seq c44_3 c44_4
theorem n44_2 : Run Cx 44 T ds ro (.code c44_2 :: k) H Q = Run Cx 44 T ds ro (.code c44_3 :: .code c44_4 :: k) H Q := run_seq
def c44_0 : AC := .seq c44_1 c44_2
theorem n44_0 : Run Cx 44 T ds ro (.code c44_0 :: k) H Q = Run Cx 44 T ds ro (.code c44_1 :: .code c44_2 :: k) H Q := run_seq
theorem body44 : bodyOf Cx 44 = some c44_0 := by kernel_rfl
theorem res44 : resOf Cx 44 = some [.tmp 2] := by kernel_rfl
theorem pure44 : Cx.pure 44 = true := by kernel_rfl
-- RULES 44: n44_0, n44_1, n44_2, n44_3, n44_4
def o45_1 : List AO := [{ dst := (some 2), op := .assign (.const (.bool false)), ty := 4, guard := none }]
def c45_1 : AC := .region o45_1 []
theorem n45_1 : Run Cx 45 T ds ro (.code c45_1 :: k) H Q = RunOps Cx 45 T ds ro o45_1 k H Q := run_region
def o45_3 : List AO := [{ dst := (some 3), op := .move (.tmp 0), ty := 9, guard := none },
  { dst := (some 4), op := .move (.tmp 0), ty := 9, guard := none },
  { dst := (some 5), op := .binOp .neq 9 (.tmp 3) (.tmp 4) 9, ty := 4, guard := none },
  { dst := (some 2), op := .assign (.tmp 5), ty := 4, guard := none }]
def c45_3 : AC := .region o45_3 []
theorem n45_3 : Run Cx 45 T ds ro (.code c45_3 :: k) H Q = RunOps Cx 45 T ds ro o45_3 k H Q := run_region
def c45_4 : AC := .ret
theorem n45_4 : Run Cx 45 T [] none (.code c45_4 :: k) H Q = RunRes Cx T H Q (resOf Cx 45) := run_ret
def c45_2 : AC := .seq c45_3 c45_4
theorem n45_2 : Run Cx 45 T ds ro (.code c45_2 :: k) H Q = Run Cx 45 T ds ro (.code c45_3 :: .code c45_4 :: k) H Q := run_seq
def c45_0 : AC := .seq c45_1 c45_2
theorem n45_0 : Run Cx 45 T ds ro (.code c45_0 :: k) H Q = Run Cx 45 T ds ro (.code c45_1 :: .code c45_2 :: k) H Q := run_seq
theorem body45 : bodyOf Cx 45 = some c45_0 := by kernel_rfl
theorem res45 : resOf Cx 45 = some [.tmp 2] := by kernel_rfl
theorem pure45 : Cx.pure 45 = true := by kernel_rfl
-- RULES 45: n45_0, n45_1, n45_2, n45_3, n45_4
def o46_1 : List AO := [{ dst := (some 10), op := .move (.tmp 1), ty := 3, guard := none },
  { dst := (some 11), op := .binOp .add 3 (.tmp 10) (.const (.int .i64 1)) 3, ty := 3, guard := none },
  { dst := (some 8), op := .assign (.tmp 11), ty := 3, guard := none }]
def c46_1 : AC := .region o46_1 []
theorem n46_1 : Run Cx 46 T ds ro (.code c46_1 :: k) H Q = RunOps Cx 46 T ds ro o46_1 k H Q := run_region
def o46_6 : List AO := [{ dst := (some 12), op := .move (.tmp 8), ty := 3, guard := none },
  { dst := (some 13), op := .move (.tmp 2), ty := 3, guard := none },
  { dst := (some 14), op := .binOp .lss 3 (.tmp 12) (.tmp 13) 3, ty := 4, guard := none }]
def c46_6 : AC := .region o46_6 []
theorem n46_6 : Run Cx 46 T ds ro (.code c46_6 :: k) H Q = RunOps Cx 46 T ds ro o46_6 k H Q := run_region
def c46_8 : AC := .skip
theorem n46_8 : Run Cx 46 T ds ro (.code c46_8 :: k) H Q = Run Cx 46 T ds ro (k) H Q := run_skip
def c46_9 : AC := .exit 0
theorem n46_9 : Run Cx 46 T ds ro (.code c46_9 :: k) H Q = RunExit Cx 46 T ds ro 0 k k H Q := run_exit_start
def c46_7 : AC := .cond (.tmp 14) c46_8 c46_9
theorem n46_7 : Run Cx 46 T ds ro (.code c46_7 :: k) H Q = RunCond Cx 46 T ds ro (.tmp 14) (ev T (.tmp 14)) c46_8 c46_9 k H Q := run_condC
def c46_5 : AC := .seq c46_6 c46_7
theorem n46_5 : Run Cx 46 T ds ro (.code c46_5 :: k) H Q = Run Cx 46 T ds ro (.code c46_6 :: .code c46_7 :: k) H Q := run_seq
def o46_13 : List AO := [{ dst := (some 17), op := .move (.tmp 8), ty := 3, guard := none },
  { dst := (some 9), op := .assign (.tmp 17), ty := 3, guard := none }]
def c46_13 : AC := .region o46_13 []
theorem n46_13 : Run Cx 46 T ds ro (.code c46_13 :: k) H Q = RunOps Cx 46 T ds ro o46_13 k H Q := run_region
def o46_18 : List AO := [{ dst := (some 18), op := .move (.tmp 9), ty := 3, guard := none },
  { dst := (some 19), op := .move (.tmp 1), ty := 3, guard := none },
  { dst := (some 20), op := .binOp .gtr 3 (.tmp 18) (.tmp 19) 3, ty := 4, guard := none },
  { dst := (some 21), op := .move (.tmp 20), ty := 4, guard := none },
  { dst := (some 22), op := .move (.tmp 3), ty := 59, guard := (some (21, true)) },
  { dst := (some 23), op := .move (.tmp 0), ty := 22, guard := (some (21, true)) },
  { dst := (some 24), op := .move (.tmp 9), ty := 3, guard := (some (21, true)) },
  { dst := (some 25), op := .indexAddr 22 (.tmp 23) (.tmp 24), ty := 0, guard := (some (21, true)) },
  { dst := (some 26), op := .load 42 (.tmp 25), ty := 42, guard := (some (21, true)) },
  { dst := (some 27), op := .move (.tmp 0), ty := 22, guard := (some (21, true)) },
  { dst := (some 28), op := .move (.tmp 9), ty := 3, guard := (some (21, true)) },
  { dst := (some 29), op := .binOp .sub 3 (.tmp 28) (.const (.int .i64 1)) 3, ty := 3, guard := (some (21, true)) },
  { dst := (some 30), op := .indexAddr 22 (.tmp 27) (.tmp 29), ty := 0, guard := (some (21, true)) },
  { dst := (some 31), op := .load 42 (.tmp 30), ty := 42, guard := (some (21, true)) },
  { dst := (some 32), op := .call { callee := (.value (.tmp 22)), args := #[(.tmp 26), (.tmp 31)], argTypes := #[42, 42] }, ty := 3, guard := (some (21, true)) },
  { dst := (some 33), op := .binOp .lss 3 (.tmp 32) (.const (.int .i64 0)) 3, ty := 4, guard := (some (21, true)) },
  { dst := (some 34), op := .pick (.tmp 21) (.tmp 33) (.const (.bool false)), ty := 4, guard := none }]
def c46_18 : AC := .region o46_18 []
theorem n46_18 : Run Cx 46 T ds ro (.code c46_18 :: k) H Q = RunOps Cx 46 T ds ro o46_18 k H Q := run_region
def c46_20 : AC := .skip
theorem n46_20 : Run Cx 46 T ds ro (.code c46_20 :: k) H Q = Run Cx 46 T ds ro (k) H Q := run_skip
def c46_21 : AC := .exit 2
theorem n46_21 : Run Cx 46 T ds ro (.code c46_21 :: k) H Q = RunExit Cx 46 T ds ro 2 k k H Q := run_exit_start
def c46_19 : AC := .cond (.tmp 34) c46_20 c46_21
theorem n46_19 : Run Cx 46 T ds ro (.code c46_19 :: k) H Q = RunCond Cx 46 T ds ro (.tmp 34) (ev T (.tmp 34)) c46_20 c46_21 k H Q := run_condC
def c46_17 : AC := .seq c46_18 c46_19
theorem n46_17 : Run Cx 46 T ds ro (.code c46_17 :: k) H Q = Run Cx 46 T ds ro (.code c46_18 :: .code c46_19 :: k) H Q := run_seq
def o46_24 : List AO := [{ dst := (some 37), op := .move (.tmp 0), ty := 22, guard := none },
  { dst := (some 38), op := .move (.tmp 9), ty := 3, guard := none },
  { dst := (some 39), op := .move (.tmp 0), ty := 22, guard := none },
  { dst := (some 40), op := .move (.tmp 9), ty := 3, guard := none },
  { dst := (some 41), op := .binOp .sub 3 (.tmp 40) (.const (.int .i64 1)) 3, ty := 3, guard := none },
  { dst := (some 42), op := .move (.tmp 0), ty := 22, guard := none },
  { dst := (some 43), op := .move (.tmp 9), ty := 3, guard := none },
  { dst := (some 44), op := .binOp .sub 3 (.tmp 43) (.const (.int .i64 1)) 3, ty := 3, guard := none },
  { dst := (some 45), op := .indexAddr 22 (.tmp 42) (.tmp 44), ty := 0, guard := none },
  { dst := (some 46), op := .load 42 (.tmp 45), ty := 42, guard := none },
  { dst := (some 47), op := .move (.tmp 0), ty := 22, guard := none },
  { dst := (some 48), op := .move (.tmp 9), ty := 3, guard := none },
  { dst := (some 49), op := .indexAddr 22 (.tmp 47) (.tmp 48), ty := 0, guard := none },
  { dst := (some 50), op := .load 42 (.tmp 49), ty := 42, guard := none },
  { dst := (some 51), op := .indexAddr 22 (.tmp 37) (.tmp 38), ty := 0, guard := none },
  { dst := none, op := .store 42 (.tmp 51) (.tmp 46), ty := 0, guard := none },
  { dst := (some 52), op := .indexAddr 22 (.tmp 39) (.tmp 41), ty := 0, guard := none },
  { dst := none, op := .store 42 (.tmp 52) (.tmp 50), ty := 0, guard := none }]
def c46_24 : AC := .region o46_24 []
theorem n46_24 : Run Cx 46 T ds ro (.code c46_24 :: k) H Q = RunOps Cx 46 T ds ro o46_24 k H Q := run_region
def c46_23 : AC := .block 3 c46_24
theorem n46_23 : Run Cx 46 T ds ro (.code c46_23 :: k) H Q = Run Cx 46 T ds ro (.code c46_24 :: .inBlock 3 :: k) H Q := run_block
def o46_25 : List AO := [{ dst := (some 35), op := .move (.tmp 9), ty := 3, guard := none },
  { dst := (some 36), op := .binOp .sub 3 (.tmp 35) (.const (.int .i64 1)) 3, ty := 3, guard := none },
  { dst := (some 9), op := .assign (.tmp 36), ty := 3, guard := none }]
def c46_25 : AC := .region o46_25 []
theorem n46_25 : Run Cx 46 T ds ro (.code c46_25 :: k) H Q = RunOps Cx 46 T ds ro o46_25 k H Q := run_region
def c46_22 : AC := .seq c46_23 c46_25
theorem n46_22 : Run Cx 46 T ds ro (.code c46_22 :: k) H Q = Run Cx 46 T ds ro (.code c46_23 :: .code c46_25 :: k) H Q := run_seq
def c46_16 : AC := .seq c46_17 c46_22
theorem n46_16 : Run Cx 46 T ds ro (.code c46_16 :: k) H Q = Run Cx 46 T ds ro (.code c46_17 :: .code c46_22 :: k) H Q := run_seq
def c46_15 : AC := .loop c46_16
theorem n46_15 : Run Cx 46 T ds ro (.code c46_15 :: k) H Q = Run Cx 46 T ds ro (.inLoop c46_16 :: k) H Q := run_loop'
def c46_14 : AC := .block 2 c46_15
theorem n46_14 : Run Cx 46 T ds ro (.code c46_14 :: k) H Q = Run Cx 46 T ds ro (.code c46_15 :: .inBlock 2 :: k) H Q := run_block
def c46_12 : AC := .seq c46_13 c46_14
theorem n46_12 : Run Cx 46 T ds ro (.code c46_12 :: k) H Q = Run Cx 46 T ds ro (.code c46_13 :: .code c46_14 :: k) H Q := run_seq
def c46_11 : AC := .block 1 c46_12
theorem n46_11 : Run Cx 46 T ds ro (.code c46_11 :: k) H Q = Run Cx 46 T ds ro (.code c46_12 :: .inBlock 1 :: k) H Q := run_block
def o46_26 : List AO := [{ dst := (some 15), op := .move (.tmp 8), ty := 3, guard := none },
  { dst := (some 16), op := .binOp .add 3 (.tmp 15) (.const (.int .i64 1)) 3, ty := 3, guard := none },
  { dst := (some 8), op := .assign (.tmp 16), ty := 3, guard := none }]
def c46_26 : AC := .region o46_26 []
theorem n46_26 : Run Cx 46 T ds ro (.code c46_26 :: k) H Q = RunOps Cx 46 T ds ro o46_26 k H Q := run_region
def c46_10 : AC := .seq c46_11 c46_26
theorem n46_10 : Run Cx 46 T ds ro (.code c46_10 :: k) H Q = Run Cx 46 T ds ro (.code c46_11 :: .code c46_26 :: k) H Q := run_seq
def c46_4 : AC := .seq c46_5 c46_10
theorem n46_4 : Run Cx 46 T ds ro (.code c46_4 :: k) H Q = Run Cx 46 T ds ro (.code c46_5 :: .code c46_10 :: k) H Q := run_seq
def c46_3 : AC := .loop c46_4
theorem n46_3 : Run Cx 46 T ds ro (.code c46_3 :: k) H Q = Run Cx 46 T ds ro (.inLoop c46_4 :: k) H Q := run_loop'
def c46_2 : AC := .block 0 c46_3
theorem n46_2 : Run Cx 46 T ds ro (.code c46_2 :: k) H Q = Run Cx 46 T ds ro (.code c46_3 :: .inBlock 0 :: k) H Q := run_block
def c46_0 : AC := .seq c46_1 c46_2
theorem n46_0 : Run Cx 46 T ds ro (.code c46_0 :: k) H Q = Run Cx 46 T ds ro (.code c46_1 :: .code c46_2 :: k) H Q := run_seq
theorem body46 : bodyOf Cx 46 = some c46_0 := by kernel_rfl
theorem res46 : resOf Cx 46 = some [] := by kernel_rfl
theorem pure46 : Cx.pure 46 = false := by kernel_rfl
-- RULES 46: n46_0, n46_1, n46_2, n46_3, n46_4, n46_5, n46_6, n46_7, n46_8, n46_9, n46_10, n46_11, n46_12, n46_13, n46_14, n46_15, n46_16, n46_17, n46_18, n46_19, n46_20, n46_21, n46_22, n46_23, n46_24, n46_25, n46_26
def o47_2 : List AO := [{ dst := (some 25), op := .move (.tmp 2), ty := 3, guard := none },
  { dst := (some 26), op := .move (.tmp 1), ty := 3, guard := none },
  { dst := (some 27), op := .binOp .sub 3 (.tmp 25) (.tmp 26) 3, ty := 3, guard := none },
  { dst := (some 28), op := .binOp .eql 3 (.tmp 27) (.const (.int .i64 1)) 3, ty := 4, guard := none }]
def c47_2 : AC := .region o47_2 []
theorem n47_2 : Run Cx 47 T ds ro (.code c47_2 :: k) H Q = RunOps Cx 47 T ds ro o47_2 k H Q := run_region
def o47_5 : List AO := [{ dst := (some 29), op := .move (.tmp 2), ty := 3, guard := none },
  { dst := (some 10), op := .assign (.tmp 29), ty := 3, guard := none }]
def c47_5 : AC := .region o47_5 []
theorem n47_5 : Run Cx 47 T ds ro (.code c47_5 :: k) H Q = RunOps Cx 47 T ds ro o47_5 k H Q := run_region
def o47_7 : List AO := [{ dst := (some 30), op := .move (.tmp 3), ty := 3, guard := none },
  { dst := (some 11), op := .assign (.tmp 30), ty := 3, guard := none }]
def c47_7 : AC := .region o47_7 []
theorem n47_7 : Run Cx 47 T ds ro (.code c47_7 :: k) H Q = RunOps Cx 47 T ds ro o47_7 k H Q := run_region
def o47_13 : List AO := [{ dst := (some 31), op := .move (.tmp 10), ty := 3, guard := none },
  { dst := (some 32), op := .move (.tmp 11), ty := 3, guard := none },
  { dst := (some 33), op := .binOp .lss 3 (.tmp 31) (.tmp 32) 3, ty := 4, guard := none }]
def c47_13 : AC := .region o47_13 []
theorem n47_13 : Run Cx 47 T ds ro (.code c47_13 :: k) H Q = RunOps Cx 47 T ds ro o47_13 k H Q := run_region
def c47_15 : AC := .skip
theorem n47_15 : Run Cx 47 T ds ro (.code c47_15 :: k) H Q = Run Cx 47 T ds ro (k) H Q := run_skip
def c47_16 : AC := .exit 0
theorem n47_16 : Run Cx 47 T ds ro (.code c47_16 :: k) H Q = RunExit Cx 47 T ds ro 0 k k H Q := run_exit_start
def c47_14 : AC := .cond (.tmp 33) c47_15 c47_16
theorem n47_14 : Run Cx 47 T ds ro (.code c47_14 :: k) H Q = RunCond Cx 47 T ds ro (.tmp 33) (ev T (.tmp 33)) c47_15 c47_16 k H Q := run_condC
def c47_12 : AC := .seq c47_13 c47_14
theorem n47_12 : Run Cx 47 T ds ro (.code c47_12 :: k) H Q = Run Cx 47 T ds ro (.code c47_13 :: .code c47_14 :: k) H Q := run_seq
def o47_19 : List AO := [{ dst := (some 34), op := .move (.tmp 10), ty := 3, guard := none },
  { dst := (some 35), op := .move (.tmp 11), ty := 3, guard := none },
  { dst := (some 36), op := .binOp .add 3 (.tmp 34) (.tmp 35) 3, ty := 3, guard := none },
  { dst := (some 37), op := .convert 3 81 (.tmp 36), ty := 81, guard := none },
  { dst := (some 38), op := .binOp .shr 81 (.tmp 37) (.const (.int .u64 1)) 81, ty := 81, guard := none },
  { dst := (some 39), op := .convert 81 3 (.tmp 38), ty := 3, guard := none },
  { dst := (some 12), op := .assign (.tmp 39), ty := 3, guard := none }]
def c47_19 : AC := .region o47_19 []
theorem n47_19 : Run Cx 47 T ds ro (.code c47_19 :: k) H Q = RunOps Cx 47 T ds ro o47_19 k H Q := run_region
def o47_21 : List AO := [{ dst := (some 40), op := .move (.tmp 4), ty := 59, guard := none },
  { dst := (some 41), op := .move (.tmp 0), ty := 22, guard := none },
  { dst := (some 42), op := .move (.tmp 12), ty := 3, guard := none },
  { dst := (some 43), op := .indexAddr 22 (.tmp 41) (.tmp 42), ty := 0, guard := none },
  { dst := (some 44), op := .load 42 (.tmp 43), ty := 42, guard := none },
  { dst := (some 45), op := .move (.tmp 0), ty := 22, guard := none },
  { dst := (some 46), op := .move (.tmp 1), ty := 3, guard := none },
  { dst := (some 47), op := .indexAddr 22 (.tmp 45) (.tmp 46), ty := 0, guard := none },
  { dst := (some 48), op := .load 42 (.tmp 47), ty := 42, guard := none },
  { dst := (some 49), op := .call { callee := (.value (.tmp 40)), args := #[(.tmp 44), (.tmp 48)], argTypes := #[42, 42] }, ty := 3, guard := none },
  { dst := (some 50), op := .binOp .lss 3 (.tmp 49) (.const (.int .i64 0)) 3, ty := 4, guard := none }]
def c47_21 : AC := .region o47_21 []
theorem n47_21 : Run Cx 47 T ds ro (.code c47_21 :: k) H Q = RunOps Cx 47 T ds ro o47_21 k H Q := run_region
def o47_23 : List AO := [{ dst := (some 51), op := .move (.tmp 12), ty := 3, guard := none },
  { dst := (some 52), op := .binOp .add 3 (.tmp 51) (.const (.int .i64 1)) 3, ty := 3, guard := none },
  { dst := (some 10), op := .assign (.tmp 52), ty := 3, guard := none }]
def c47_23 : AC := .region o47_23 []
theorem n47_23 : Run Cx 47 T ds ro (.code c47_23 :: k) H Q = RunOps Cx 47 T ds ro o47_23 k H Q := run_region
def o47_24 : List AO := [{ dst := (some 53), op := .move (.tmp 12), ty := 3, guard := none },
  { dst := (some 11), op := .assign (.tmp 53), ty := 3, guard := none }]
def c47_24 : AC := .region o47_24 []
theorem n47_24 : Run Cx 47 T ds ro (.code c47_24 :: k) H Q = RunOps Cx 47 T ds ro o47_24 k H Q := run_region
def c47_22 : AC := .cond (.tmp 50) c47_23 c47_24
theorem n47_22 : Run Cx 47 T ds ro (.code c47_22 :: k) H Q = RunCond Cx 47 T ds ro (.tmp 50) (ev T (.tmp 50)) c47_23 c47_24 k H Q := run_condC
def c47_20 : AC := .seq c47_21 c47_22
theorem n47_20 : Run Cx 47 T ds ro (.code c47_20 :: k) H Q = Run Cx 47 T ds ro (.code c47_21 :: .code c47_22 :: k) H Q := run_seq
def c47_18 : AC := .seq c47_19 c47_20
theorem n47_18 : Run Cx 47 T ds ro (.code c47_18 :: k) H Q = Run Cx 47 T ds ro (.code c47_19 :: .code c47_20 :: k) H Q := run_seq
def c47_17 : AC := .block 1 c47_18
theorem n47_17 : Run Cx 47 T ds ro (.code c47_17 :: k) H Q = Run Cx 47 T ds ro (.code c47_18 :: .inBlock 1 :: k) H Q := run_block
def c47_11 : AC := .seq c47_12 c47_17
theorem n47_11 : Run Cx 47 T ds ro (.code c47_11 :: k) H Q = Run Cx 47 T ds ro (.code c47_12 :: .code c47_17 :: k) H Q := run_seq
def c47_10 : AC := .loop c47_11
theorem n47_10 : Run Cx 47 T ds ro (.code c47_10 :: k) H Q = Run Cx 47 T ds ro (.inLoop c47_11 :: k) H Q := run_loop'
def c47_9 : AC := .block 0 c47_10
theorem n47_9 : Run Cx 47 T ds ro (.code c47_9 :: k) H Q = Run Cx 47 T ds ro (.code c47_10 :: .inBlock 0 :: k) H Q := run_block
def o47_27 : List AO := [{ dst := (some 54), op := .move (.tmp 1), ty := 3, guard := none },
  { dst := (some 13), op := .assign (.tmp 54), ty := 3, guard := none }]
def c47_27 : AC := .region o47_27 []
theorem n47_27 : Run Cx 47 T ds ro (.code c47_27 :: k) H Q = RunOps Cx 47 T ds ro o47_27 k H Q := run_region
def o47_32 : List AO := [{ dst := (some 55), op := .move (.tmp 13), ty := 3, guard := none },
  { dst := (some 56), op := .move (.tmp 10), ty := 3, guard := none },
  { dst := (some 57), op := .binOp .sub 3 (.tmp 56) (.const (.int .i64 1)) 3, ty := 3, guard := none },
  { dst := (some 58), op := .binOp .lss 3 (.tmp 55) (.tmp 57) 3, ty := 4, guard := none }]
def c47_32 : AC := .region o47_32 []
theorem n47_32 : Run Cx 47 T ds ro (.code c47_32 :: k) H Q = RunOps Cx 47 T ds ro o47_32 k H Q := run_region
def c47_34 : AC := .skip
theorem n47_34 : Run Cx 47 T ds ro (.code c47_34 :: k) H Q = Run Cx 47 T ds ro (k) H Q := run_skip
def c47_35 : AC := .exit 2
theorem n47_35 : Run Cx 47 T ds ro (.code c47_35 :: k) H Q = RunExit Cx 47 T ds ro 2 k k H Q := run_exit_start
def c47_33 : AC := .cond (.tmp 58) c47_34 c47_35
theorem n47_33 : Run Cx 47 T ds ro (.code c47_33 :: k) H Q = RunCond Cx 47 T ds ro (.tmp 58) (ev T (.tmp 58)) c47_34 c47_35 k H Q := run_condC
def c47_31 : AC := .seq c47_32 c47_33
theorem n47_31 : Run Cx 47 T ds ro (.code c47_31 :: k) H Q = Run Cx 47 T ds ro (.code c47_32 :: .code c47_33 :: k) H Q := run_seq
def o47_38 : List AO := [{ dst := (some 61), op := .move (.tmp 0), ty := 22, guard := none },
  { dst := (some 62), op := .move (.tmp 13), ty := 3, guard := none },
  { dst := (some 63), op := .move (.tmp 0), ty := 22, guard := none },
  { dst := (some 64), op := .move (.tmp 13), ty := 3, guard := none },
  { dst := (some 65), op := .binOp .add 3 (.tmp 64) (.const (.int .i64 1)) 3, ty := 3, guard := none },
  { dst := (some 66), op := .move (.tmp 0), ty := 22, guard := none },
  { dst := (some 67), op := .move (.tmp 13), ty := 3, guard := none },
  { dst := (some 68), op := .binOp .add 3 (.tmp 67) (.const (.int .i64 1)) 3, ty := 3, guard := none },
  { dst := (some 69), op := .indexAddr 22 (.tmp 66) (.tmp 68), ty := 0, guard := none },
  { dst := (some 70), op := .load 42 (.tmp 69), ty := 42, guard := none },
  { dst := (some 71), op := .move (.tmp 0), ty := 22, guard := none },
  { dst := (some 72), op := .move (.tmp 13), ty := 3, guard := none },
  { dst := (some 73), op := .indexAddr 22 (.tmp 71) (.tmp 72), ty := 0, guard := none },
  { dst := (some 74), op := .load 42 (.tmp 73), ty := 42, guard := none },
  { dst := (some 75), op := .indexAddr 22 (.tmp 61) (.tmp 62), ty := 0, guard := none },
  { dst := none, op := .store 42 (.tmp 75) (.tmp 70), ty := 0, guard := none },
  { dst := (some 76), op := .indexAddr 22 (.tmp 63) (.tmp 65), ty := 0, guard := none },
  { dst := none, op := .store 42 (.tmp 76) (.tmp 74), ty := 0, guard := none }]
def c47_38 : AC := .region o47_38 []
theorem n47_38 : Run Cx 47 T ds ro (.code c47_38 :: k) H Q = RunOps Cx 47 T ds ro o47_38 k H Q := run_region
def c47_37 : AC := .block 3 c47_38
theorem n47_37 : Run Cx 47 T ds ro (.code c47_37 :: k) H Q = Run Cx 47 T ds ro (.code c47_38 :: .inBlock 3 :: k) H Q := run_block
def o47_39 : List AO := [{ dst := (some 59), op := .move (.tmp 13), ty := 3, guard := none },
  { dst := (some 60), op := .binOp .add 3 (.tmp 59) (.const (.int .i64 1)) 3, ty := 3, guard := none },
  { dst := (some 13), op := .assign (.tmp 60), ty := 3, guard := none }]
def c47_39 : AC := .region o47_39 []
theorem n47_39 : Run Cx 47 T ds ro (.code c47_39 :: k) H Q = RunOps Cx 47 T ds ro o47_39 k H Q := run_region
def c47_36 : AC := .seq c47_37 c47_39
theorem n47_36 : Run Cx 47 T ds ro (.code c47_36 :: k) H Q = Run Cx 47 T ds ro (.code c47_37 :: .code c47_39 :: k) H Q := run_seq
def c47_30 : AC := .seq c47_31 c47_36
theorem n47_30 : Run Cx 47 T ds ro (.code c47_30 :: k) H Q = Run Cx 47 T ds ro (.code c47_31 :: .code c47_36 :: k) H Q := run_seq
def c47_29 : AC := .loop c47_30
theorem n47_29 : Run Cx 47 T ds ro (.code c47_29 :: k) H Q = Run Cx 47 T ds ro (.inLoop c47_30 :: k) H Q := run_loop'
def c47_28 : AC := .block 2 c47_29
theorem n47_28 : Run Cx 47 T ds ro (.code c47_28 :: k) H Q = Run Cx 47 T ds ro (.code c47_29 :: .inBlock 2 :: k) H Q := run_block
def c47_26 : AC := .seq c47_27 c47_28
theorem n47_26 : Run Cx 47 T ds ro (.code c47_26 :: k) H Q = Run Cx 47 T ds ro (.code c47_27 :: .code c47_28 :: k) H Q := run_seq
def c47_40 : AC := .ret
theorem n47_40 : Run Cx 47 T [] none (.code c47_40 :: k) H Q = RunRes Cx T H Q (resOf Cx 47) := run_ret
def c47_25 : AC := .seq c47_26 c47_40
theorem n47_25 : Run Cx 47 T ds ro (.code c47_25 :: k) H Q = Run Cx 47 T ds ro (.code c47_26 :: .code c47_40 :: k) H Q := run_seq
def c47_8 : AC := .seq c47_9 c47_25
theorem n47_8 : Run Cx 47 T ds ro (.code c47_8 :: k) H Q = Run Cx 47 T ds ro (.code c47_9 :: .code c47_25 :: k) H Q := run_seq
def c47_6 : AC := .seq c47_7 c47_8
theorem n47_6 : Run Cx 47 T ds ro (.code c47_6 :: k) H Q = Run Cx 47 T ds ro (.code c47_7 :: .code c47_8 :: k) H Q := run_seq
def c47_4 : AC := .seq c47_5 c47_6
theorem n47_4 : Run Cx 47 T ds ro (.code c47_4 :: k) H Q = Run Cx 47 T ds ro (.code c47_5 :: .code c47_6 :: k) H Q := run_seq
def c47_41 : AC := .skip
theorem n47_41 : Run Cx 47 T ds ro (.code c47_41 :: k) H Q = Run Cx 47 T ds ro (k) H Q := run_skip
def c47_3 : AC := .cond (.tmp 28) c47_4 c47_41
theorem n47_3 : Run Cx 47 T ds ro (.code c47_3 :: k) H Q = RunCond Cx 47 T ds ro (.tmp 28) (ev T (.tmp 28)) c47_4 c47_41 k H Q := run_condC
def c47_1 : AC := .seq c47_2 c47_3
theorem n47_1 : Run Cx 47 T ds ro (.code c47_1 :: k) H Q = Run Cx 47 T ds ro (.code c47_2 :: .code c47_3 :: k) H Q := run_seq
def o47_44 : List AO := [{ dst := (some 77), op := .move (.tmp 3), ty := 3, guard := none },
  { dst := (some 78), op := .move (.tmp 2), ty := 3, guard := none },
  { dst := (some 79), op := .binOp .sub 3 (.tmp 77) (.tmp 78) 3, ty := 3, guard := none },
  { dst := (some 80), op := .binOp .eql 3 (.tmp 79) (.const (.int .i64 1)) 3, ty := 4, guard := none }]
def c47_44 : AC := .region o47_44 []
theorem n47_44 : Run Cx 47 T ds ro (.code c47_44 :: k) H Q = RunOps Cx 47 T ds ro o47_44 k H Q := run_region
def o47_47 : List AO := [{ dst := (some 81), op := .move (.tmp 1), ty := 3, guard := none },
  { dst := (some 14), op := .assign (.tmp 81), ty := 3, guard := none }]
def c47_47 : AC := .region o47_47 []
theorem n47_47 : Run Cx 47 T ds ro (.code c47_47 :: k) H Q = RunOps Cx 47 T ds ro o47_47 k H Q := run_region
def o47_49 : List AO := [{ dst := (some 82), op := .move (.tmp 2), ty := 3, guard := none },
  { dst := (some 15), op := .assign (.tmp 82), ty := 3, guard := none }]
def c47_49 : AC := .region o47_49 []
theorem n47_49 : Run Cx 47 T ds ro (.code c47_49 :: k) H Q = RunOps Cx 47 T ds ro o47_49 k H Q := run_region
def o47_55 : List AO := [{ dst := (some 83), op := .move (.tmp 14), ty := 3, guard := none },
  { dst := (some 84), op := .move (.tmp 15), ty := 3, guard := none },
  { dst := (some 85), op := .binOp .lss 3 (.tmp 83) (.tmp 84) 3, ty := 4, guard := none }]
def c47_55 : AC := .region o47_55 []
theorem n47_55 : Run Cx 47 T ds ro (.code c47_55 :: k) H Q = RunOps Cx 47 T ds ro o47_55 k H Q := run_region
def c47_57 : AC := .skip
theorem n47_57 : Run Cx 47 T ds ro (.code c47_57 :: k) H Q = Run Cx 47 T ds ro (k) H Q := run_skip
def c47_58 : AC := .exit 4
theorem n47_58 : Run Cx 47 T ds ro (.code c47_58 :: k) H Q = RunExit Cx 47 T ds ro 4 k k H Q := run_exit_start
def c47_56 : AC := .cond (.tmp 85) c47_57 c47_58
theorem n47_56 : Run Cx 47 T ds ro (.code c47_56 :: k) H Q = RunCond Cx 47 T ds ro (.tmp 85) (ev T (.tmp 85)) c47_57 c47_58 k H Q := run_condC
def c47_54 : AC := .seq c47_55 c47_56
theorem n47_54 : Run Cx 47 T ds ro (.code c47_54 :: k) H Q = Run Cx 47 T ds ro (.code c47_55 :: .code c47_56 :: k) H Q := run_seq
def o47_61 : List AO := [{ dst := (some 86), op := .move (.tmp 14), ty := 3, guard := none },
  { dst := (some 87), op := .move (.tmp 15), ty := 3, guard := none },
  { dst := (some 88), op := .binOp .add 3 (.tmp 86) (.tmp 87) 3, ty := 3, guard := none },
  { dst := (some 89), op := .convert 3 81 (.tmp 88), ty := 81, guard := none },
  { dst := (some 90), op := .binOp .shr 81 (.tmp 89) (.const (.int .u64 1)) 81, ty := 81, guard := none },
  { dst := (some 91), op := .convert 81 3 (.tmp 90), ty := 3, guard := none },
  { dst := (some 16), op := .assign (.tmp 91), ty := 3, guard := none }]
def c47_61 : AC := .region o47_61 []
theorem n47_61 : Run Cx 47 T ds ro (.code c47_61 :: k) H Q = RunOps Cx 47 T ds ro o47_61 k H Q := run_region
def o47_63 : List AO := [{ dst := (some 92), op := .move (.tmp 4), ty := 59, guard := none },
  { dst := (some 93), op := .move (.tmp 0), ty := 22, guard := none },
  { dst := (some 94), op := .move (.tmp 2), ty := 3, guard := none },
  { dst := (some 95), op := .indexAddr 22 (.tmp 93) (.tmp 94), ty := 0, guard := none },
  { dst := (some 96), op := .load 42 (.tmp 95), ty := 42, guard := none },
  { dst := (some 97), op := .move (.tmp 0), ty := 22, guard := none },
  { dst := (some 98), op := .move (.tmp 16), ty := 3, guard := none },
  { dst := (some 99), op := .indexAddr 22 (.tmp 97) (.tmp 98), ty := 0, guard := none },
  { dst := (some 100), op := .load 42 (.tmp 99), ty := 42, guard := none },
  { dst := (some 101), op := .call { callee := (.value (.tmp 92)), args := #[(.tmp 96), (.tmp 100)], argTypes := #[42, 42] }, ty := 3, guard := none },
  { dst := (some 102), op := .binOp .lss 3 (.tmp 101) (.const (.int .i64 0)) 3, ty := 4, guard := none },
  { dst := (some 103), op := .unOp .not 4 (.tmp 102), ty := 4, guard := none }]
def c47_63 : AC := .region o47_63 []
theorem n47_63 : Run Cx 47 T ds ro (.code c47_63 :: k) H Q = RunOps Cx 47 T ds ro o47_63 k H Q := run_region
def o47_65 : List AO := [{ dst := (some 104), op := .move (.tmp 16), ty := 3, guard := none },
  { dst := (some 105), op := .binOp .add 3 (.tmp 104) (.const (.int .i64 1)) 3, ty := 3, guard := none },
  { dst := (some 14), op := .assign (.tmp 105), ty := 3, guard := none }]
def c47_65 : AC := .region o47_65 []
theorem n47_65 : Run Cx 47 T ds ro (.code c47_65 :: k) H Q = RunOps Cx 47 T ds ro o47_65 k H Q := run_region
def o47_66 : List AO := [{ dst := (some 106), op := .move (.tmp 16), ty := 3, guard := none },
  { dst := (some 15), op := .assign (.tmp 106), ty := 3, guard := none }]
def c47_66 : AC := .region o47_66 []
theorem n47_66 : Run Cx 47 T ds ro (.code c47_66 :: k) H Q = RunOps Cx 47 T ds ro o47_66 k H Q := run_region
def c47_64 : AC := .cond (.tmp 103) c47_65 c47_66
theorem n47_64 : Run Cx 47 T ds ro (.code c47_64 :: k) H Q = RunCond Cx 47 T ds ro (.tmp 103) (ev T (.tmp 103)) c47_65 c47_66 k H Q := run_condC
def c47_62 : AC := .seq c47_63 c47_64
theorem n47_62 : Run Cx 47 T ds ro (.code c47_62 :: k) H Q = Run Cx 47 T ds ro (.code c47_63 :: .code c47_64 :: k) H Q := run_seq
def c47_60 : AC := .seq c47_61 c47_62
theorem n47_60 : Run Cx 47 T ds ro (.code c47_60 :: k) H Q = Run Cx 47 T ds ro (.code c47_61 :: .code c47_62 :: k) H Q := run_seq
def c47_59 : AC := .block 5 c47_60
theorem n47_59 : Run Cx 47 T ds ro (.code c47_59 :: k) H Q = Run Cx 47 T ds ro (.code c47_60 :: .inBlock 5 :: k) H Q := run_block
def c47_53 : AC := .seq c47_54 c47_59
theorem n47_53 : Run Cx 47 T ds ro (.code c47_53 :: k) H Q = Run Cx 47 T ds ro (.code c47_54 :: .code c47_59 :: k) H Q := run_seq
def c47_52 : AC := .loop c47_53
theorem n47_52 : Run Cx 47 T ds ro (.code c47_52 :: k) H Q = Run Cx 47 T ds ro (.inLoop c47_53 :: k) H Q := run_loop'
def c47_51 : AC := .block 4 c47_52
theorem n47_51 : Run Cx 47 T ds ro (.code c47_51 :: k) H Q = Run Cx 47 T ds ro (.code c47_52 :: .inBlock 4 :: k) H Q := run_block
def o47_69 : List AO := [{ dst := (some 107), op := .move (.tmp 2), ty := 3, guard := none },
  { dst := (some 17), op := .assign (.tmp 107), ty := 3, guard := none }]
def c47_69 : AC := .region o47_69 []
theorem n47_69 : Run Cx 47 T ds ro (.code c47_69 :: k) H Q = RunOps Cx 47 T ds ro o47_69 k H Q := run_region
def o47_74 : List AO := [{ dst := (some 108), op := .move (.tmp 17), ty := 3, guard := none },
  { dst := (some 109), op := .move (.tmp 14), ty := 3, guard := none },
  { dst := (some 110), op := .binOp .gtr 3 (.tmp 108) (.tmp 109) 3, ty := 4, guard := none }]
def c47_74 : AC := .region o47_74 []
theorem n47_74 : Run Cx 47 T ds ro (.code c47_74 :: k) H Q = RunOps Cx 47 T ds ro o47_74 k H Q := run_region
def c47_76 : AC := .skip
theorem n47_76 : Run Cx 47 T ds ro (.code c47_76 :: k) H Q = Run Cx 47 T ds ro (k) H Q := run_skip
def c47_77 : AC := .exit 6
theorem n47_77 : Run Cx 47 T ds ro (.code c47_77 :: k) H Q = RunExit Cx 47 T ds ro 6 k k H Q := run_exit_start
def c47_75 : AC := .cond (.tmp 110) c47_76 c47_77
theorem n47_75 : Run Cx 47 T ds ro (.code c47_75 :: k) H Q = RunCond Cx 47 T ds ro (.tmp 110) (ev T (.tmp 110)) c47_76 c47_77 k H Q := run_condC
def c47_73 : AC := .seq c47_74 c47_75
theorem n47_73 : Run Cx 47 T ds ro (.code c47_73 :: k) H Q = Run Cx 47 T ds ro (.code c47_74 :: .code c47_75 :: k) H Q := run_seq
def o47_80 : List AO := [{ dst := (some 113), op := .move (.tmp 0), ty := 22, guard := none },
  { dst := (some 114), op := .move (.tmp 17), ty := 3, guard := none },
  { dst := (some 115), op := .move (.tmp 0), ty := 22, guard := none },
  { dst := (some 116), op := .move (.tmp 17), ty := 3, guard := none },
  { dst := (some 117), op := .binOp .sub 3 (.tmp 116) (.const (.int .i64 1)) 3, ty := 3, guard := none },
  { dst := (some 118), op := .move (.tmp 0), ty := 22, guard := none },
  { dst := (some 119), op := .move (.tmp 17), ty := 3, guard := none },
  { dst := (some 120), op := .binOp .sub 3 (.tmp 119) (.const (.int .i64 1)) 3, ty := 3, guard := none },
  { dst := (some 121), op := .indexAddr 22 (.tmp 118) (.tmp 120), ty := 0, guard := none },
  { dst := (some 122), op := .load 42 (.tmp 121), ty := 42, guard := none },
  { dst := (some 123), op := .move (.tmp 0), ty := 22, guard := none },
  { dst := (some 124), op := .move (.tmp 17), ty := 3, guard := none },
  { dst := (some 125), op := .indexAddr 22 (.tmp 123) (.tmp 124), ty := 0, guard := none },
  { dst := (some 126), op := .load 42 (.tmp 125), ty := 42, guard := none },
  { dst := (some 127), op := .indexAddr 22 (.tmp 113) (.tmp 114), ty := 0, guard := none },
  { dst := none, op := .store 42 (.tmp 127) (.tmp 122), ty := 0, guard := none },
  { dst := (some 128), op := .indexAddr 22 (.tmp 115) (.tmp 117), ty := 0, guard := none },
  { dst := none, op := .store 42 (.tmp 128) (.tmp 126), ty := 0, guard := none }]
def c47_80 : AC := .region o47_80 []
theorem n47_80 : Run Cx 47 T ds ro (.code c47_80 :: k) H Q = RunOps Cx 47 T ds ro o47_80 k H Q := run_region
def c47_79 : AC := .block 7 c47_80
theorem n47_79 : Run Cx 47 T ds ro (.code c47_79 :: k) H Q = Run Cx 47 T ds ro (.code c47_80 :: .inBlock 7 :: k) H Q := run_block
def o47_81 : List AO := [{ dst := (some 111), op := .move (.tmp 17), ty := 3, guard := none },
  { dst := (some 112), op := .binOp .sub 3 (.tmp 111) (.const (.int .i64 1)) 3, ty := 3, guard := none },
  { dst := (some 17), op := .assign (.tmp 112), ty := 3, guard := none }]
def c47_81 : AC := .region o47_81 []
theorem n47_81 : Run Cx 47 T ds ro (.code c47_81 :: k) H Q = RunOps Cx 47 T ds ro o47_81 k H Q := run_region
def c47_78 : AC := .seq c47_79 c47_81
theorem n47_78 : Run Cx 47 T ds ro (.code c47_78 :: k) H Q = Run Cx 47 T ds ro (.code c47_79 :: .code c47_81 :: k) H Q := run_seq
def c47_72 : AC := .seq c47_73 c47_78
theorem n47_72 : Run Cx 47 T ds ro (.code c47_72 :: k) H Q = Run Cx 47 T ds ro (.code c47_73 :: .code c47_78 :: k) H Q := run_seq
def c47_71 : AC := .loop c47_72
theorem n47_71 : Run Cx 47 T ds ro (.code c47_71 :: k) H Q = Run Cx 47 T ds ro (.inLoop c47_72 :: k) H Q := run_loop'
def c47_70 : AC := .block 6 c47_71
theorem n47_70 : Run Cx 47 T ds ro (.code c47_70 :: k) H Q = Run Cx 47 T ds ro (.code c47_71 :: .inBlock 6 :: k) H Q := run_block
def c47_68 : AC := .seq c47_69 c47_70
theorem n47_68 : Run Cx 47 T ds ro (.code c47_68 :: k) H Q = Run Cx 47 T ds ro (.code c47_69 :: .code c47_70 :: k) H Q := run_seq
def c47_82 : AC := .ret
theorem n47_82 : Run Cx 47 T [] none (.code c47_82 :: k) H Q = RunRes Cx T H Q (resOf Cx 47) := run_ret
def c47_67 : AC := .seq c47_68 c47_82
theorem n47_67 : Run Cx 47 T ds ro (.code c47_67 :: k) H Q = Run Cx 47 T ds ro (.code c47_68 :: .code c47_82 :: k) H Q := run_seq
def c47_50 : AC := .seq c47_51 c47_67
theorem n47_50 : Run Cx 47 T ds ro (.code c47_50 :: k) H Q = Run Cx 47 T ds ro (.code c47_51 :: .code c47_67 :: k) H Q := run_seq
def c47_48 : AC := .seq c47_49 c47_50
theorem n47_48 : Run Cx 47 T ds ro (.code c47_48 :: k) H Q = Run Cx 47 T ds ro (.code c47_49 :: .code c47_50 :: k) H Q := run_seq
def c47_46 : AC := .seq c47_47 c47_48
theorem n47_46 : Run Cx 47 T ds ro (.code c47_46 :: k) H Q = Run Cx 47 T ds ro (.code c47_47 :: .code c47_48 :: k) H Q := run_seq
def c47_83 : AC := .skip
theorem n47_83 : Run Cx 47 T ds ro (.code c47_83 :: k) H Q = Run Cx 47 T ds ro (k) H Q := run_skip
def c47_45 : AC := .cond (.tmp 80) c47_46 c47_83
theorem n47_45 : Run Cx 47 T ds ro (.code c47_45 :: k) H Q = RunCond Cx 47 T ds ro (.tmp 80) (ev T (.tmp 80)) c47_46 c47_83 k H Q := run_condC
def c47_43 : AC := .seq c47_44 c47_45
theorem n47_43 : Run Cx 47 T ds ro (.code c47_43 :: k) H Q = Run Cx 47 T ds ro (.code c47_44 :: .code c47_45 :: k) H Q := run_seq
def o47_85 : List AO := [{ dst := (some 129), op := .move (.tmp 1), ty := 3, guard := none },
  { dst := (some 130), op := .move (.tmp 3), ty := 3, guard := none },
  { dst := (some 131), op := .binOp .add 3 (.tmp 129) (.tmp 130) 3, ty := 3, guard := none },
  { dst := (some 132), op := .convert 3 81 (.tmp 131), ty := 81, guard := none },
  { dst := (some 133), op := .binOp .shr 81 (.tmp 132) (.const (.int .u64 1)) 81, ty := 81, guard := none },
  { dst := (some 134), op := .convert 81 3 (.tmp 133), ty := 3, guard := none },
  { dst := (some 18), op := .assign (.tmp 134), ty := 3, guard := none }]
def c47_85 : AC := .region o47_85 []
theorem n47_85 : Run Cx 47 T ds ro (.code c47_85 :: k) H Q = RunOps Cx 47 T ds ro o47_85 k H Q := run_region
def o47_87 : List AO := [{ dst := (some 135), op := .move (.tmp 18), ty := 3, guard := none },
  { dst := (some 136), op := .move (.tmp 2), ty := 3, guard := none },
  { dst := (some 137), op := .binOp .add 3 (.tmp 135) (.tmp 136) 3, ty := 3, guard := none },
  { dst := (some 19), op := .assign (.tmp 137), ty := 3, guard := none }]
def c47_87 : AC := .region o47_87 []
theorem n47_87 : Run Cx 47 T ds ro (.code c47_87 :: k) H Q = RunOps Cx 47 T ds ro o47_87 k H Q := run_region
def o47_89 : List AO := [{ dst := (some 20), op := .assign (.const (.int .i64 0)), ty := 3, guard := none },
  { dst := (some 21), op := .assign (.const (.int .i64 0)), ty := 3, guard := none }]
def c47_89 : AC := .region o47_89 []
theorem n47_89 : Run Cx 47 T ds ro (.code c47_89 :: k) H Q = RunOps Cx 47 T ds ro o47_89 k H Q := run_region
def o47_92 : List AO := [{ dst := (some 138), op := .move (.tmp 2), ty := 3, guard := none },
  { dst := (some 139), op := .move (.tmp 18), ty := 3, guard := none },
  { dst := (some 140), op := .binOp .gtr 3 (.tmp 138) (.tmp 139) 3, ty := 4, guard := none }]
def c47_92 : AC := .region o47_92 []
theorem n47_92 : Run Cx 47 T ds ro (.code c47_92 :: k) H Q = RunOps Cx 47 T ds ro o47_92 k H Q := run_region
def o47_95 : List AO := [{ dst := (some 141), op := .move (.tmp 19), ty := 3, guard := none },
  { dst := (some 142), op := .move (.tmp 3), ty := 3, guard := none },
  { dst := (some 143), op := .binOp .sub 3 (.tmp 141) (.tmp 142) 3, ty := 3, guard := none },
  { dst := (some 20), op := .assign (.tmp 143), ty := 3, guard := none }]
def c47_95 : AC := .region o47_95 []
theorem n47_95 : Run Cx 47 T ds ro (.code c47_95 :: k) H Q = RunOps Cx 47 T ds ro o47_95 k H Q := run_region
def o47_96 : List AO := [{ dst := (some 144), op := .move (.tmp 18), ty := 3, guard := none },
  { dst := (some 21), op := .assign (.tmp 144), ty := 3, guard := none }]
def c47_96 : AC := .region o47_96 []
theorem n47_96 : Run Cx 47 T ds ro (.code c47_96 :: k) H Q = RunOps Cx 47 T ds ro o47_96 k H Q := run_region
def c47_94 : AC := .seq c47_95 c47_96
theorem n47_94 : Run Cx 47 T ds ro (.code c47_94 :: k) H Q = Run Cx 47 T ds ro (.code c47_95 :: .code c47_96 :: k) H Q := run_seq
def o47_98 : List AO := [{ dst := (some 145), op := .move (.tmp 1), ty := 3, guard := none },
  { dst := (some 20), op := .assign (.tmp 145), ty := 3, guard := none }]
def c47_98 : AC := .region o47_98 []
theorem n47_98 : Run Cx 47 T ds ro (.code c47_98 :: k) H Q = RunOps Cx 47 T ds ro o47_98 k H Q := run_region
def o47_99 : List AO := [{ dst := (some 146), op := .move (.tmp 2), ty := 3, guard := none },
  { dst := (some 21), op := .assign (.tmp 146), ty := 3, guard := none }]
def c47_99 : AC := .region o47_99 []
theorem n47_99 : Run Cx 47 T ds ro (.code c47_99 :: k) H Q = RunOps Cx 47 T ds ro o47_99 k H Q := run_region
def c47_97 : AC := .seq c47_98 c47_99
theorem n47_97 : Run Cx 47 T ds ro (.code c47_97 :: k) H Q = Run Cx 47 T ds ro (.code c47_98 :: .code c47_99 :: k) H Q := run_seq
def c47_93 : AC := .cond (.tmp 140) c47_94 c47_97
theorem n47_93 : Run Cx 47 T ds ro (.code c47_93 :: k) H Q = RunCond Cx 47 T ds ro (.tmp 140) (ev T (.tmp 140)) c47_94 c47_97 k H Q := run_condC
def c47_91 : AC := .seq c47_92 c47_93
theorem n47_91 : Run Cx 47 T ds ro (.code c47_91 :: k) H Q = Run Cx 47 T ds ro (.code c47_92 :: .code c47_93 :: k) H Q := run_seq
def o47_101 : List AO := [{ dst := (some 147), op := .move (.tmp 19), ty := 3, guard := none },
  { dst := (some 148), op := .binOp .sub 3 (.tmp 147) (.const (.int .i64 1)) 3, ty := 3, guard := none },
  { dst := (some 22), op := .assign (.tmp 148), ty := 3, guard := none }]
def c47_101 : AC := .region o47_101 []
theorem n47_101 : Run Cx 47 T ds ro (.code c47_101 :: k) H Q = RunOps Cx 47 T ds ro o47_101 k H Q := run_region
def o47_107 : List AO := [{ dst := (some 149), op := .move (.tmp 20), ty := 3, guard := none },
  { dst := (some 150), op := .move (.tmp 21), ty := 3, guard := none },
  { dst := (some 151), op := .binOp .lss 3 (.tmp 149) (.tmp 150) 3, ty := 4, guard := none }]
def c47_107 : AC := .region o47_107 []
theorem n47_107 : Run Cx 47 T ds ro (.code c47_107 :: k) H Q = RunOps Cx 47 T ds ro o47_107 k H Q := run_region
def c47_109 : AC := .skip
theorem n47_109 : Run Cx 47 T ds ro (.code c47_109 :: k) H Q = Run Cx 47 T ds ro (k) H Q := run_skip
def c47_110 : AC := .exit 8
theorem n47_110 : Run Cx 47 T ds ro (.code c47_110 :: k) H Q = RunExit Cx 47 T ds ro 8 k k H Q := run_exit_start
def c47_108 : AC := .cond (.tmp 151) c47_109 c47_110
theorem n47_108 : Run Cx 47 T ds ro (.code c47_108 :: k) H Q = RunCond Cx 47 T ds ro (.tmp 151) (ev T (.tmp 151)) c47_109 c47_110 k H Q := run_condC
def c47_106 : AC := .seq c47_107 c47_108
theorem n47_106 : Run Cx 47 T ds ro (.code c47_106 :: k) H Q = Run Cx 47 T ds ro (.code c47_107 :: .code c47_108 :: k) H Q := run_seq
def o47_113 : List AO := [{ dst := (some 152), op := .move (.tmp 20), ty := 3, guard := none },
  { dst := (some 153), op := .move (.tmp 21), ty := 3, guard := none },
  { dst := (some 154), op := .binOp .add 3 (.tmp 152) (.tmp 153) 3, ty := 3, guard := none },
  { dst := (some 155), op := .convert 3 81 (.tmp 154), ty := 81, guard := none },
  { dst := (some 156), op := .binOp .shr 81 (.tmp 155) (.const (.int .u64 1)) 81, ty := 81, guard := none },
  { dst := (some 157), op := .convert 81 3 (.tmp 156), ty := 3, guard := none },
  { dst := (some 23), op := .assign (.tmp 157), ty := 3, guard := none }]
def c47_113 : AC := .region o47_113 []
theorem n47_113 : Run Cx 47 T ds ro (.code c47_113 :: k) H Q = RunOps Cx 47 T ds ro o47_113 k H Q := run_region
def o47_115 : List AO := [{ dst := (some 158), op := .move (.tmp 4), ty := 59, guard := none },
  { dst := (some 159), op := .move (.tmp 0), ty := 22, guard := none },
  { dst := (some 160), op := .move (.tmp 22), ty := 3, guard := none },
  { dst := (some 161), op := .move (.tmp 23), ty := 3, guard := none },
  { dst := (some 162), op := .binOp .sub 3 (.tmp 160) (.tmp 161) 3, ty := 3, guard := none },
  { dst := (some 163), op := .indexAddr 22 (.tmp 159) (.tmp 162), ty := 0, guard := none },
  { dst := (some 164), op := .load 42 (.tmp 163), ty := 42, guard := none },
  { dst := (some 165), op := .move (.tmp 0), ty := 22, guard := none },
  { dst := (some 166), op := .move (.tmp 23), ty := 3, guard := none },
  { dst := (some 167), op := .indexAddr 22 (.tmp 165) (.tmp 166), ty := 0, guard := none },
  { dst := (some 168), op := .load 42 (.tmp 167), ty := 42, guard := none },
  { dst := (some 169), op := .call { callee := (.value (.tmp 158)), args := #[(.tmp 164), (.tmp 168)], argTypes := #[42, 42] }, ty := 3, guard := none },
  { dst := (some 170), op := .binOp .lss 3 (.tmp 169) (.const (.int .i64 0)) 3, ty := 4, guard := none },
  { dst := (some 171), op := .unOp .not 4 (.tmp 170), ty := 4, guard := none }]
def c47_115 : AC := .region o47_115 []
theorem n47_115 : Run Cx 47 T ds ro (.code c47_115 :: k) H Q = RunOps Cx 47 T ds ro o47_115 k H Q := run_region
def o47_117 : List AO := [{ dst := (some 172), op := .move (.tmp 23), ty := 3, guard := none },
  { dst := (some 173), op := .binOp .add 3 (.tmp 172) (.const (.int .i64 1)) 3, ty := 3, guard := none },
  { dst := (some 20), op := .assign (.tmp 173), ty := 3, guard := none }]
def c47_117 : AC := .region o47_117 []
theorem n47_117 : Run Cx 47 T ds ro (.code c47_117 :: k) H Q = RunOps Cx 47 T ds ro o47_117 k H Q := run_region
def o47_118 : List AO := [{ dst := (some 174), op := .move (.tmp 23), ty := 3, guard := none },
  { dst := (some 21), op := .assign (.tmp 174), ty := 3, guard := none }]
def c47_118 : AC := .region o47_118 []
theorem n47_118 : Run Cx 47 T ds ro (.code c47_118 :: k) H Q = RunOps Cx 47 T ds ro o47_118 k H Q := run_region
def c47_116 : AC := .cond (.tmp 171) c47_117 c47_118
theorem n47_116 : Run Cx 47 T ds ro (.code c47_116 :: k) H Q = RunCond Cx 47 T ds ro (.tmp 171) (ev T (.tmp 171)) c47_117 c47_118 k H Q := run_condC
def c47_114 : AC := .seq c47_115 c47_116
theorem n47_114 : Run Cx 47 T ds ro (.code c47_114 :: k) H Q = Run Cx 47 T ds ro (.code c47_115 :: .code c47_116 :: k) H Q := run_seq
def c47_112 : AC := .seq c47_113 c47_114
theorem n47_112 : Run Cx 47 T ds ro (.code c47_112 :: k) H Q = Run Cx 47 T ds ro (.code c47_113 :: .code c47_114 :: k) H Q := run_seq
def c47_111 : AC := .block 9 c47_112
theorem n47_111 : Run Cx 47 T ds ro (.code c47_111 :: k) H Q = Run Cx 47 T ds ro (.code c47_112 :: .inBlock 9 :: k) H Q := run_block
def c47_105 : AC := .seq c47_106 c47_111
theorem n47_105 : Run Cx 47 T ds ro (.code c47_105 :: k) H Q = Run Cx 47 T ds ro (.code c47_106 :: .code c47_111 :: k) H Q := run_seq
def c47_104 : AC := .loop c47_105
theorem n47_104 : Run Cx 47 T ds ro (.code c47_104 :: k) H Q = Run Cx 47 T ds ro (.inLoop c47_105 :: k) H Q := run_loop'
def c47_103 : AC := .block 8 c47_104
theorem n47_103 : Run Cx 47 T ds ro (.code c47_103 :: k) H Q = Run Cx 47 T ds ro (.code c47_104 :: .inBlock 8 :: k) H Q := run_block
def o47_120 : List AO := [{ dst := (some 175), op := .move (.tmp 19), ty := 3, guard := none },
  { dst := (some 176), op := .move (.tmp 20), ty := 3, guard := none },
  { dst := (some 177), op := .binOp .sub 3 (.tmp 175) (.tmp 176) 3, ty := 3, guard := none },
  { dst := (some 24), op := .assign (.tmp 177), ty := 3, guard := none }]
def c47_120 : AC := .region o47_120 []
theorem n47_120 : Run Cx 47 T ds ro (.code c47_120 :: k) H Q = RunOps Cx 47 T ds ro o47_120 k H Q := run_region
def o47_123 : List AO := [{ dst := (some 178), op := .move (.tmp 20), ty := 3, guard := none },
  { dst := (some 179), op := .move (.tmp 2), ty := 3, guard := none },
  { dst := (some 180), op := .binOp .lss 3 (.tmp 178) (.tmp 179) 3, ty := 4, guard := none },
  { dst := (some 181), op := .move (.tmp 180), ty := 4, guard := none },
  { dst := (some 182), op := .move (.tmp 2), ty := 3, guard := (some (181, true)) },
  { dst := (some 183), op := .move (.tmp 24), ty := 3, guard := (some (181, true)) },
  { dst := (some 184), op := .binOp .lss 3 (.tmp 182) (.tmp 183) 3, ty := 4, guard := (some (181, true)) },
  { dst := (some 185), op := .pick (.tmp 181) (.tmp 184) (.const (.bool false)), ty := 4, guard := none }]
def c47_123 : AC := .region o47_123 []
theorem n47_123 : Run Cx 47 T ds ro (.code c47_123 :: k) H Q = RunOps Cx 47 T ds ro o47_123 k H Q := run_region
def o47_125 : List AO := [{ dst := (some 186), op := .move (.tmp 0), ty := 22, guard := none },
  { dst := (some 187), op := .move (.tmp 20), ty := 3, guard := none },
  { dst := (some 188), op := .move (.tmp 2), ty := 3, guard := none },
  { dst := (some 189), op := .move (.tmp 24), ty := 3, guard := none },
  { dst := (some 190), op := .move (.tmp 4), ty := 59, guard := none },
  { dst := (some 191), op := .call { callee := (.value (.func 48)), args := #[(.tmp 186), (.tmp 187), (.tmp 188), (.tmp 189), (.tmp 190)], argTypes := #[22, 3, 3, 3, 59] }, ty := 0, guard := none }]
def c47_125 : AC := .region o47_125 []
theorem n47_125 : Run Cx 47 T ds ro (.code c47_125 :: k) H Q = RunOps Cx 47 T ds ro o47_125 k H Q := run_region
def c47_126 : AC := .skip
theorem n47_126 : Run Cx 47 T ds ro (.code c47_126 :: k) H Q = Run Cx 47 T ds ro (k) H Q := run_skip
def c47_124 : AC := .cond (.tmp 185) c47_125 c47_126
theorem n47_124 : Run Cx 47 T ds ro (.code c47_124 :: k) H Q = RunCond Cx 47 T ds ro (.tmp 185) (ev T (.tmp 185)) c47_125 c47_126 k H Q := run_condC
def c47_122 : AC := .seq c47_123 c47_124
theorem n47_122 : Run Cx 47 T ds ro (.code c47_122 :: k) H Q = Run Cx 47 T ds ro (.code c47_123 :: .code c47_124 :: k) H Q := run_seq
def o47_129 : List AO := [{ dst := (some 192), op := .move (.tmp 1), ty := 3, guard := none },
  { dst := (some 193), op := .move (.tmp 20), ty := 3, guard := none },
  { dst := (some 194), op := .binOp .lss 3 (.tmp 192) (.tmp 193) 3, ty := 4, guard := none },
  { dst := (some 195), op := .move (.tmp 194), ty := 4, guard := none },
  { dst := (some 196), op := .move (.tmp 20), ty := 3, guard := (some (195, true)) },
  { dst := (some 197), op := .move (.tmp 18), ty := 3, guard := (some (195, true)) },
  { dst := (some 198), op := .binOp .lss 3 (.tmp 196) (.tmp 197) 3, ty := 4, guard := (some (195, true)) },
  { dst := (some 199), op := .pick (.tmp 195) (.tmp 198) (.const (.bool false)), ty := 4, guard := none }]
def c47_129 : AC := .region o47_129 []
theorem n47_129 : Run Cx 47 T ds ro (.code c47_129 :: k) H Q = RunOps Cx 47 T ds ro o47_129 k H Q := run_region
def o47_131 : List AO := [{ dst := (some 200), op := .move (.tmp 0), ty := 22, guard := none },
  { dst := (some 201), op := .move (.tmp 1), ty := 3, guard := none },
  { dst := (some 202), op := .move (.tmp 20), ty := 3, guard := none },
  { dst := (some 203), op := .move (.tmp 18), ty := 3, guard := none },
  { dst := (some 204), op := .move (.tmp 4), ty := 59, guard := none },
  { dst := (some 205), op := .call { callee := (.value (.func 47)), args := #[(.tmp 200), (.tmp 201), (.tmp 202), (.tmp 203), (.tmp 204)], argTypes := #[22, 3, 3, 3, 59] }, ty := 0, guard := none }]
def c47_131 : AC := .region o47_131 []
theorem n47_131 : Run Cx 47 T ds ro (.code c47_131 :: k) H Q = RunOps Cx 47 T ds ro o47_131 k H Q := run_region
def c47_132 : AC := .skip
theorem n47_132 : Run Cx 47 T ds ro (.code c47_132 :: k) H Q = Run Cx 47 T ds ro (k) H Q := run_skip
def c47_130 : AC := .cond (.tmp 199) c47_131 c47_132
theorem n47_130 : Run Cx 47 T ds ro (.code c47_130 :: k) H Q = RunCond Cx 47 T ds ro (.tmp 199) (ev T (.tmp 199)) c47_131 c47_132 k H Q := run_condC
def c47_128 : AC := .seq c47_129 c47_130
theorem n47_128 : Run Cx 47 T ds ro (.code c47_128 :: k) H Q = Run Cx 47 T ds ro (.code c47_129 :: .code c47_130 :: k) H Q := run_seq
def o47_134 : List AO := [{ dst := (some 206), op := .move (.tmp 18), ty := 3, guard := none },
  { dst := (some 207), op := .move (.tmp 24), ty := 3, guard := none },
  { dst := (some 208), op := .binOp .lss 3 (.tmp 206) (.tmp 207) 3, ty := 4, guard := none },
  { dst := (some 209), op := .move (.tmp 208), ty := 4, guard := none },
  { dst := (some 210), op := .move (.tmp 24), ty := 3, guard := (some (209, true)) },
  { dst := (some 211), op := .move (.tmp 3), ty := 3, guard := (some (209, true)) },
  { dst := (some 212), op := .binOp .lss 3 (.tmp 210) (.tmp 211) 3, ty := 4, guard := (some (209, true)) },
  { dst := (some 213), op := .pick (.tmp 209) (.tmp 212) (.const (.bool false)), ty := 4, guard := none }]
def c47_134 : AC := .region o47_134 []
theorem n47_134 : Run Cx 47 T ds ro (.code c47_134 :: k) H Q = RunOps Cx 47 T ds ro o47_134 k H Q := run_region
def o47_136 : List AO := [{ dst := (some 214), op := .move (.tmp 0), ty := 22, guard := none },
  { dst := (some 215), op := .move (.tmp 18), ty := 3, guard := none },
  { dst := (some 216), op := .move (.tmp 24), ty := 3, guard := none },
  { dst := (some 217), op := .move (.tmp 3), ty := 3, guard := none },
  { dst := (some 218), op := .move (.tmp 4), ty := 59, guard := none },
  { dst := (some 219), op := .call { callee := (.value (.func 47)), args := #[(.tmp 214), (.tmp 215), (.tmp 216), (.tmp 217), (.tmp 218)], argTypes := #[22, 3, 3, 3, 59] }, ty := 0, guard := none }]
def c47_136 : AC := .region o47_136 []
theorem n47_136 : Run Cx 47 T ds ro (.code c47_136 :: k) H Q = RunOps Cx 47 T ds ro o47_136 k H Q := run_region
def c47_137 : AC := .skip
theorem n47_137 : Run Cx 47 T ds ro (.code c47_137 :: k) H Q = Run Cx 47 T ds ro (k) H Q := run_skip
def c47_135 : AC := .cond (.tmp 213) c47_136 c47_137
theorem n47_135 : Run Cx 47 T ds ro (.code c47_135 :: k) H Q = RunCond Cx 47 T ds ro (.tmp 213) (ev T (.tmp 213)) c47_136 c47_137 k H Q := run_condC
def c47_133 : AC := .seq c47_134 c47_135
theorem n47_133 : Run Cx 47 T ds ro (.code c47_133 :: k) H Q = Run Cx 47 T ds ro (.code c47_134 :: .code c47_135 :: k) H Q := run_seq
def c47_127 : AC := .seq c47_128 c47_133
theorem n47_127 : Run Cx 47 T ds ro (.code c47_127 :: k) H Q = Run Cx 47 T ds ro (.code c47_128 :: .code c47_133 :: k) H Q := run_seq
def c47_121 : AC := .seq c47_122 c47_127
theorem n47_121 : Run Cx 47 T ds ro (.code c47_121 :: k) H Q = Run Cx 47 T ds ro (.code c47_122 :: .code c47_127 :: k) H Q := run_seq
def c47_119 : AC := .seq c47_120 c47_121
theorem n47_119 : Run Cx 47 T ds ro (.code c47_119 :: k) H Q = Run Cx 47 T ds ro (.code c47_120 :: .code c47_121 :: k) H Q := run_seq
def c47_102 : AC := .seq c47_103 c47_119
theorem n47_102 : Run Cx 47 T ds ro (.code c47_102 :: k) H Q = Run Cx 47 T ds ro (.code c47_103 :: .code c47_119 :: k) H Q := run_seq
def c47_100 : AC := .seq c47_101 c47_102
theorem n47_100 : Run Cx 47 T ds ro (.code c47_100 :: k) H Q = Run Cx 47 T ds ro (.code c47_101 :: .code c47_102 :: k) H Q := run_seq
def c47_90 : AC := .seq c47_91 c47_100
theorem n47_90 : Run Cx 47 T ds ro (.code c47_90 :: k) H Q = Run Cx 47 T ds ro (.code c47_91 :: .code c47_100 :: k) H Q := run_seq
def c47_88 : AC := .seq c47_89 c47_90
theorem n47_88 : Run Cx 47 T ds ro (.code c47_88 :: k) H Q = Run Cx 47 T ds ro (.code c47_89 :: .code c47_90 :: k) H Q := run_seq
def c47_86 : AC := .seq c47_87 c47_88
theorem n47_86 : Run Cx 47 T ds ro (.code c47_86 :: k) H Q = Run Cx 47 T ds ro (.code c47_87 :: .code c47_88 :: k) H Q := run_seq
def c47_84 : AC := .seq c47_85 c47_86
theorem n47_84 : Run Cx 47 T ds ro (.code c47_84 :: k) H Q = Run Cx 47 T ds ro (.code c47_85 :: .code c47_86 :: k) H Q := run_seq
def c47_42 : AC := .seq c47_43 c47_84
theorem n47_42 : Run Cx 47 T ds ro (.code c47_42 :: k) H Q = Run Cx 47 T ds ro (.code c47_43 :: .code c47_84 :: k) H Q := run_seq
def c47_0 : AC := .seq c47_1 c47_42
theorem n47_0 : Run Cx 47 T ds ro (.code c47_0 :: k) H Q = Run Cx 47 T ds ro (.code c47_1 :: .code c47_42 :: k) H Q := run_seq
theorem body47 : bodyOf Cx 47 = some c47_0 := by kernel_rfl
theorem res47 : resOf Cx 47 = some [] := by kernel_rfl
theorem pure47 : Cx.pure 47 = false := by kernel_rfl
-- RULES 47: n47_0, n47_1, n47_2, n47_3, n47_4, n47_5, n47_6, n47_7, n47_8, n47_9, n47_10, n47_11, n47_12, n47_13, n47_14, n47_15, n47_16, n47_17, n47_18, n47_19, n47_20, n47_21, n47_22, n47_23, n47_24, n47_25, n47_26, n47_27, n47_28, n47_29, n47_30, n47_31, n47_32, n47_33, n47_34, n47_35, n47_36, n47_37, n47_38, n47_39, n47_40, n47_41, n47_42, n47_43, n47_44, n47_45, n47_46, n47_47, n47_48, n47_49, n47_50, n47_51, n47_52, n47_53, n47_54, n47_55, n47_56, n47_57, n47_58, n47_59, n47_60, n47_61, n47_62, n47_63, n47_64, n47_65, n47_66, n47_67, n47_68, n47_69, n47_70, n47_71, n47_72, n47_73, n47_74, n47_75, n47_76, n47_77, n47_78, n47_79, n47_80, n47_81, n47_82, n47_83, n47_84, n47_85, n47_86, n47_87, n47_88, n47_89, n47_90, n47_91, n47_92, n47_93, n47_94, n47_95, n47_96, n47_97, n47_98, n47_99, n47_100, n47_101, n47_102, n47_103, n47_104, n47_105, n47_106, n47_107, n47_108, n47_109, n47_110, n47_111, n47_112, n47_113, n47_114, n47_115, n47_116, n47_117, n47_118, n47_119, n47_120, n47_121, n47_122, n47_123, n47_124, n47_125, n47_126, n47_127, n47_128, n47_129, n47_130, n47_131, n47_132, n47_133, n47_134, n47_135, n47_136, n47_137
def o48_1 : List AO := [{ dst := (some 12), op := .move (.tmp 2), ty := 3, guard := none },
  { dst := (some 13), op := .move (.tmp 1), ty := 3, guard := none },
  { dst := (some 14), op := .binOp .sub 3 (.tmp 12) (.tmp 13) 3, ty := 3, guard := none },
  { dst := (some 10), op := .assign (.tmp 14), ty := 3, guard := none }]
def c48_1 : AC := .region o48_1 []
theorem n48_1 : Run Cx 48 T ds ro (.code c48_1 :: k) H Q = RunOps Cx 48 T ds ro o48_1 k H Q := run_region
def o48_3 : List AO := [{ dst := (some 15), op := .move (.tmp 3), ty := 3, guard := none },
  { dst := (some 16), op := .move (.tmp 2), ty := 3, guard := none },
  { dst := (some 17), op := .binOp .sub 3 (.tmp 15) (.tmp 16) 3, ty := 3, guard := none },
  { dst := (some 11), op := .assign (.tmp 17), ty := 3, guard := none }]
def c48_3 : AC := .region o48_3 []
theorem n48_3 : Run Cx 48 T ds ro (.code c48_3 :: k) H Q = RunOps Cx 48 T ds ro o48_3 k H Q := run_region
def o48_9 : List AO := [{ dst := (some 18), op := .move (.tmp 10), ty := 3, guard := none },
  { dst := (some 19), op := .move (.tmp 11), ty := 3, guard := none },
  { dst := (some 20), op := .binOp .neq 3 (.tmp 18) (.tmp 19) 3, ty := 4, guard := none }]
def c48_9 : AC := .region o48_9 []
theorem n48_9 : Run Cx 48 T ds ro (.code c48_9 :: k) H Q = RunOps Cx 48 T ds ro o48_9 k H Q := run_region
def c48_11 : AC := .skip
theorem n48_11 : Run Cx 48 T ds ro (.code c48_11 :: k) H Q = Run Cx 48 T ds ro (k) H Q := run_skip
def c48_12 : AC := .exit 0
theorem n48_12 : Run Cx 48 T ds ro (.code c48_12 :: k) H Q = RunExit Cx 48 T ds ro 0 k k H Q := run_exit_start
def c48_10 : AC := .cond (.tmp 20) c48_11 c48_12
theorem n48_10 : Run Cx 48 T ds ro (.code c48_10 :: k) H Q = RunCond Cx 48 T ds ro (.tmp 20) (ev T (.tmp 20)) c48_11 c48_12 k H Q := run_condC
def c48_8 : AC := .seq c48_9 c48_10
theorem n48_8 : Run Cx 48 T ds ro (.code c48_8 :: k) H Q = Run Cx 48 T ds ro (.code c48_9 :: .code c48_10 :: k) H Q := run_seq
def o48_15 : List AO := [{ dst := (some 21), op := .move (.tmp 10), ty := 3, guard := none },
  { dst := (some 22), op := .move (.tmp 11), ty := 3, guard := none },
  { dst := (some 23), op := .binOp .gtr 3 (.tmp 21) (.tmp 22) 3, ty := 4, guard := none }]
def c48_15 : AC := .region o48_15 []
theorem n48_15 : Run Cx 48 T ds ro (.code c48_15 :: k) H Q = RunOps Cx 48 T ds ro o48_15 k H Q := run_region
def o48_18 : List AO := [{ dst := (some 24), op := .move (.tmp 0), ty := 22, guard := none },
  { dst := (some 25), op := .move (.tmp 2), ty := 3, guard := none },
  { dst := (some 26), op := .move (.tmp 10), ty := 3, guard := none },
  { dst := (some 27), op := .binOp .sub 3 (.tmp 25) (.tmp 26) 3, ty := 3, guard := none },
  { dst := (some 28), op := .move (.tmp 2), ty := 3, guard := none },
  { dst := (some 29), op := .move (.tmp 11), ty := 3, guard := none },
  { dst := (some 30), op := .move (.tmp 4), ty := 59, guard := none },
  { dst := (some 31), op := .call { callee := (.value (.func 49)), args := #[(.tmp 24), (.tmp 27), (.tmp 28), (.tmp 29), (.tmp 30)], argTypes := #[22, 3, 3, 3, 59] }, ty := 0, guard := none }]
def c48_18 : AC := .region o48_18 []
theorem n48_18 : Run Cx 48 T ds ro (.code c48_18 :: k) H Q = RunOps Cx 48 T ds ro o48_18 k H Q := run_region
def o48_19 : List AO := [{ dst := (some 32), op := .move (.tmp 10), ty := 3, guard := none },
  { dst := (some 33), op := .move (.tmp 11), ty := 3, guard := none },
  { dst := (some 34), op := .binOp .sub 3 (.tmp 32) (.tmp 33) 3, ty := 3, guard := none },
  { dst := (some 10), op := .assign (.tmp 34), ty := 3, guard := none }]
def c48_19 : AC := .region o48_19 []
theorem n48_19 : Run Cx 48 T ds ro (.code c48_19 :: k) H Q = RunOps Cx 48 T ds ro o48_19 k H Q := run_region
def c48_17 : AC := .seq c48_18 c48_19
theorem n48_17 : Run Cx 48 T ds ro (.code c48_17 :: k) H Q = Run Cx 48 T ds ro (.code c48_18 :: .code c48_19 :: k) H Q := run_seq
def o48_21 : List AO := [{ dst := (some 35), op := .move (.tmp 0), ty := 22, guard := none },
  { dst := (some 36), op := .move (.tmp 2), ty := 3, guard := none },
  { dst := (some 37), op := .move (.tmp 10), ty := 3, guard := none },
  { dst := (some 38), op := .binOp .sub 3 (.tmp 36) (.tmp 37) 3, ty := 3, guard := none },
  { dst := (some 39), op := .move (.tmp 2), ty := 3, guard := none },
  { dst := (some 40), op := .move (.tmp 11), ty := 3, guard := none },
  { dst := (some 41), op := .binOp .add 3 (.tmp 39) (.tmp 40) 3, ty := 3, guard := none },
  { dst := (some 42), op := .move (.tmp 10), ty := 3, guard := none },
  { dst := (some 43), op := .binOp .sub 3 (.tmp 41) (.tmp 42) 3, ty := 3, guard := none },
  { dst := (some 44), op := .move (.tmp 10), ty := 3, guard := none },
  { dst := (some 45), op := .move (.tmp 4), ty := 59, guard := none },
  { dst := (some 46), op := .call { callee := (.value (.func 49)), args := #[(.tmp 35), (.tmp 38), (.tmp 43), (.tmp 44), (.tmp 45)], argTypes := #[22, 3, 3, 3, 59] }, ty := 0, guard := none }]
def c48_21 : AC := .region o48_21 []
theorem n48_21 : Run Cx 48 T ds ro (.code c48_21 :: k) H Q = RunOps Cx 48 T ds ro o48_21 k H Q := run_region
def o48_22 : List AO := [{ dst := (some 47), op := .move (.tmp 11), ty := 3, guard := none },
  { dst := (some 48), op := .move (.tmp 10), ty := 3, guard := none },
  { dst := (some 49), op := .binOp .sub 3 (.tmp 47) (.tmp 48) 3, ty := 3, guard := none },
  { dst := (some 11), op := .assign (.tmp 49), ty := 3, guard := none }]
def c48_22 : AC := .region o48_22 []
theorem n48_22 : Run Cx 48 T ds ro (.code c48_22 :: k) H Q = RunOps Cx 48 T ds ro o48_22 k H Q := run_region
def c48_20 : AC := .seq c48_21 c48_22
theorem n48_20 : Run Cx 48 T ds ro (.code c48_20 :: k) H Q = Run Cx 48 T ds ro (.code c48_21 :: .code c48_22 :: k) H Q := run_seq
def c48_16 : AC := .cond (.tmp 23) c48_17 c48_20
theorem n48_16 : Run Cx 48 T ds ro (.code c48_16 :: k) H Q = RunCond Cx 48 T ds ro (.tmp 23) (ev T (.tmp 23)) c48_17 c48_20 k H Q := run_condC
def c48_14 : AC := .seq c48_15 c48_16
theorem n48_14 : Run Cx 48 T ds ro (.code c48_14 :: k) H Q = Run Cx 48 T ds ro (.code c48_15 :: .code c48_16 :: k) H Q := run_seq
def c48_13 : AC := .block 1 c48_14
theorem n48_13 : Run Cx 48 T ds ro (.code c48_13 :: k) H Q = Run Cx 48 T ds ro (.code c48_14 :: .inBlock 1 :: k) H Q := run_block
def c48_7 : AC := .seq c48_8 c48_13
theorem n48_7 : Run Cx 48 T ds ro (.code c48_7 :: k) H Q = Run Cx 48 T ds ro (.code c48_8 :: .code c48_13 :: k) H Q := run_seq
def c48_6 : AC := .loop c48_7
theorem n48_6 : Run Cx 48 T ds ro (.code c48_6 :: k) H Q = Run Cx 48 T ds ro (.inLoop c48_7 :: k) H Q := run_loop'
def c48_5 : AC := .block 0 c48_6
theorem n48_5 : Run Cx 48 T ds ro (.code c48_5 :: k) H Q = Run Cx 48 T ds ro (.code c48_6 :: .inBlock 0 :: k) H Q := run_block
def o48_23 : List AO := [{ dst := (some 50), op := .move (.tmp 0), ty := 22, guard := none },
  { dst := (some 51), op := .move (.tmp 2), ty := 3, guard := none },
  { dst := (some 52), op := .move (.tmp 10), ty := 3, guard := none },
  { dst := (some 53), op := .binOp .sub 3 (.tmp 51) (.tmp 52) 3, ty := 3, guard := none },
  { dst := (some 54), op := .move (.tmp 2), ty := 3, guard := none },
  { dst := (some 55), op := .move (.tmp 10), ty := 3, guard := none },
  { dst := (some 56), op := .move (.tmp 4), ty := 59, guard := none },
  { dst := (some 57), op := .call { callee := (.value (.func 49)), args := #[(.tmp 50), (.tmp 53), (.tmp 54), (.tmp 55), (.tmp 56)], argTypes := #[22, 3, 3, 3, 59] }, ty := 0, guard := none }]
def c48_23 : AC := .region o48_23 []
theorem n48_23 : Run Cx 48 T ds ro (.code c48_23 :: k) H Q = RunOps Cx 48 T ds ro o48_23 k H Q := run_region
def c48_4 : AC := .seq c48_5 c48_23
theorem n48_4 : Run Cx 48 T ds ro (.code c48_4 :: k) H Q = Run Cx 48 T ds ro (.code c48_5 :: .code c48_23 :: k) H Q := run_seq
def c48_2 : AC := .seq c48_3 c48_4
theorem n48_2 : Run Cx 48 T ds ro (.code c48_2 :: k) H Q = Run Cx 48 T ds ro (.code c48_3 :: .code c48_4 :: k) H Q := run_seq
def c48_0 : AC := .seq c48_1 c48_2
theorem n48_0 : Run Cx 48 T ds ro (.code c48_0 :: k) H Q = Run Cx 48 T ds ro (.code c48_1 :: .code c48_2 :: k) H Q := run_seq
theorem body48 : bodyOf Cx 48 = some c48_0 := by kernel_rfl
theorem res48 : resOf Cx 48 = some [] := by kernel_rfl
theorem pure48 : Cx.pure 48 = false := by kernel_rfl
-- RULES 48: n48_0, n48_1, n48_2, n48_3, n48_4, n48_5, n48_6, n48_7, n48_8, n48_9, n48_10, n48_11, n48_12, n48_13, n48_14, n48_15, n48_16, n48_17, n48_18, n48_19, n48_20, n48_21, n48_22, n48_23
def o49_1 : List AO := [{ dst := (some 10), op := .assign (.const (.int .i64 0)), ty := 3, guard := none }]
def c49_1 : AC := .region o49_1 []
theorem n49_1 : Run Cx 49 T ds ro (.code c49_1 :: k) H Q = RunOps Cx 49 T ds ro o49_1 k H Q := run_region
def o49_6 : List AO := [{ dst := (some 11), op := .move (.tmp 10), ty := 3, guard := none },
  { dst := (some 12), op := .move (.tmp 3), ty := 3, guard := none },
  { dst := (some 13), op := .binOp .lss 3 (.tmp 11) (.tmp 12) 3, ty := 4, guard := none }]
def c49_6 : AC := .region o49_6 []
theorem n49_6 : Run Cx 49 T ds ro (.code c49_6 :: k) H Q = RunOps Cx 49 T ds ro o49_6 k H Q := run_region
def c49_8 : AC := .skip
theorem n49_8 : Run Cx 49 T ds ro (.code c49_8 :: k) H Q = Run Cx 49 T ds ro (k) H Q := run_skip
def c49_9 : AC := .exit 0
theorem n49_9 : Run Cx 49 T ds ro (.code c49_9 :: k) H Q = RunExit Cx 49 T ds ro 0 k k H Q := run_exit_start
def c49_7 : AC := .cond (.tmp 13) c49_8 c49_9
theorem n49_7 : Run Cx 49 T ds ro (.code c49_7 :: k) H Q = RunCond Cx 49 T ds ro (.tmp 13) (ev T (.tmp 13)) c49_8 c49_9 k H Q := run_condC
def c49_5 : AC := .seq c49_6 c49_7
theorem n49_5 : Run Cx 49 T ds ro (.code c49_5 :: k) H Q = Run Cx 49 T ds ro (.code c49_6 :: .code c49_7 :: k) H Q := run_seq
def o49_12 : List AO := [{ dst := (some 16), op := .move (.tmp 0), ty := 22, guard := none },
  { dst := (some 17), op := .move (.tmp 1), ty := 3, guard := none },
  { dst := (some 18), op := .move (.tmp 10), ty := 3, guard := none },
  { dst := (some 19), op := .binOp .add 3 (.tmp 17) (.tmp 18) 3, ty := 3, guard := none },
  { dst := (some 20), op := .move (.tmp 0), ty := 22, guard := none },
  { dst := (some 21), op := .move (.tmp 2), ty := 3, guard := none },
  { dst := (some 22), op := .move (.tmp 10), ty := 3, guard := none },
  { dst := (some 23), op := .binOp .add 3 (.tmp 21) (.tmp 22) 3, ty := 3, guard := none },
  { dst := (some 24), op := .move (.tmp 0), ty := 22, guard := none },
  { dst := (some 25), op := .move (.tmp 2), ty := 3, guard := none },
  { dst := (some 26), op := .move (.tmp 10), ty := 3, guard := none },
  { dst := (some 27), op := .binOp .add 3 (.tmp 25) (.tmp 26) 3, ty := 3, guard := none },
  { dst := (some 28), op := .indexAddr 22 (.tmp 24) (.tmp 27), ty := 0, guard := none },
  { dst := (some 29), op := .load 42 (.tmp 28), ty := 42, guard := none },
  { dst := (some 30), op := .move (.tmp 0), ty := 22, guard := none },
  { dst := (some 31), op := .move (.tmp 1), ty := 3, guard := none },
  { dst := (some 32), op := .move (.tmp 10), ty := 3, guard := none },
  { dst := (some 33), op := .binOp .add 3 (.tmp 31) (.tmp 32) 3, ty := 3, guard := none },
  { dst := (some 34), op := .indexAddr 22 (.tmp 30) (.tmp 33), ty := 0, guard := none },
  { dst := (some 35), op := .load 42 (.tmp 34), ty := 42, guard := none },
  { dst := (some 36), op := .indexAddr 22 (.tmp 16) (.tmp 19), ty := 0, guard := none },
  { dst := none, op := .store 42 (.tmp 36) (.tmp 29), ty := 0, guard := none },
  { dst := (some 37), op := .indexAddr 22 (.tmp 20) (.tmp 23), ty := 0, guard := none },
  { dst := none, op := .store 42 (.tmp 37) (.tmp 35), ty := 0, guard := none }]
def c49_12 : AC := .region o49_12 []
theorem n49_12 : Run Cx 49 T ds ro (.code c49_12 :: k) H Q = RunOps Cx 49 T ds ro o49_12 k H Q := run_region
def c49_11 : AC := .block 1 c49_12
theorem n49_11 : Run Cx 49 T ds ro (.code c49_11 :: k) H Q = Run Cx 49 T ds ro (.code c49_12 :: .inBlock 1 :: k) H Q := run_block
def o49_13 : List AO := [{ dst := (some 14), op := .move (.tmp 10), ty := 3, guard := none },
  { dst := (some 15), op := .binOp .add 3 (.tmp 14) (.const (.int .i64 1)) 3, ty := 3, guard := none },
  { dst := (some 10), op := .assign (.tmp 15), ty := 3, guard := none }]
def c49_13 : AC := .region o49_13 []
theorem n49_13 : Run Cx 49 T ds ro (.code c49_13 :: k) H Q = RunOps Cx 49 T ds ro o49_13 k H Q := run_region
def c49_10 : AC := .seq c49_11 c49_13
theorem n49_10 : Run Cx 49 T ds ro (.code c49_10 :: k) H Q = Run Cx 49 T ds ro (.code c49_11 :: .code c49_13 :: k) H Q := run_seq
def c49_4 : AC := .seq c49_5 c49_10
theorem n49_4 : Run Cx 49 T ds ro (.code c49_4 :: k) H Q = Run Cx 49 T ds ro (.code c49_5 :: .code c49_10 :: k) H Q := run_seq
def c49_3 : AC := .loop c49_4
theorem n49_3 : Run Cx 49 T ds ro (.code c49_3 :: k) H Q = Run Cx 49 T ds ro (.inLoop c49_4 :: k) H Q := run_loop'
def c49_2 : AC := .block 0 c49_3
theorem n49_2 : Run Cx 49 T ds ro (.code c49_2 :: k) H Q = Run Cx 49 T ds ro (.code c49_3 :: .inBlock 0 :: k) H Q := run_block
def c49_0 : AC := .seq c49_1 c49_2
theorem n49_0 : Run Cx 49 T ds ro (.code c49_0 :: k) H Q = Run Cx 49 T ds ro (.code c49_1 :: .code c49_2 :: k) H Q := run_seq
theorem body49 : bodyOf Cx 49 = some c49_0 := by kernel_rfl
theorem res49 : resOf Cx 49 = some [] := by kernel_rfl
theorem pure49 : Cx.pure 49 = false := by kernel_rfl
-- RULES 49: n49_0, n49_1, n49_2, n49_3, n49_4, n49_5, n49_6, n49_7, n49_8, n49_9, n49_10, n49_11, n49_12, n49_13
end
end Go.Proofs.Ytbfjkomlnpolmaa.G
