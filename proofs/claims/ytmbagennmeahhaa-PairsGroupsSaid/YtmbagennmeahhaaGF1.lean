import Derived.Test.YtmbagennmeahhaaG0
namespace Go.Proofs.Ytmbagennmeahhaa.G
open Go.BX
section
variable {T : Nat → AV} {ds : List ADef} {ro : Option Nat} {k : List AItem} {H : AHeap} {Q : AV → AHeap → Prop}
def o3_1 : List AO := [{ dst := (some 3), op := .box 28 (.tmp 1), ty := 0, guard := none },
  { dst := (some 4), op := .assign (.const (.bool false)), ty := 4, guard := none }]
def c3_1 : AC := .region o3_1 []
theorem n3_1 : Run Cx 3 T ds ro (.code c3_1 :: k) H Q = RunOps Cx 3 T ds ro o3_1 k H Q := run_region
def o3_4 : List AO := [{ dst := (some 9), op := .call { callee := (.value (.func 6)), args := #[], argTypes := #[] }, ty := 4, guard := none },
  { dst := (some 10), op := .unOp .not 4 (.tmp 9), ty := 4, guard := none },
  { dst := (some 11), op := .move (.tmp 10), ty := 4, guard := none },
  { dst := (some 12), op := .move (.tmp 0), ty := 22, guard := (some (11, false)) },
  { dst := (some 13), op := .call { callee := (.value (.func 7)), args := #[(.tmp 12)], argTypes := #[22] }, ty := 3, guard := (some (11, false)) },
  { dst := (some 14), op := .binOp .eql 3 (.tmp 13) (.const (.int .i64 0)) 3, ty := 4, guard := (some (11, false)) },
  { dst := (some 15), op := .pick (.tmp 11) (.const (.bool true)) (.tmp 14), ty := 4, guard := none }]
def c3_4 : AC := .region o3_4 []
theorem n3_4 : Run Cx 3 T ds ro (.code c3_4 :: k) H Q = RunOps Cx 3 T ds ro o3_4 k H Q := run_region
def o3_7 : List AO := [{ dst := (some 16), op := .call { callee := (.value (.func 6)), args := #[], argTypes := #[] }, ty := 4, guard := none },
  { dst := (some 4), op := .assign (.tmp 16), ty := 4, guard := none }]
def c3_7 : AC := .region o3_7 []
theorem n3_7 : Run Cx 3 T ds ro (.code c3_7 :: k) H Q = RunOps Cx 3 T ds ro o3_7 k H Q := run_region
def c3_8 : AC := .ret
theorem n3_8 : Run Cx 3 T [] none (.code c3_8 :: k) H Q = RunRes Cx T H Q (resOf Cx 3) := run_ret
def c3_6 : AC := .seq c3_7 c3_8
theorem n3_6 : Run Cx 3 T ds ro (.code c3_6 :: k) H Q = Run Cx 3 T ds ro (.code c3_7 :: .code c3_8 :: k) H Q := run_seq
def c3_9 : AC := .skip
theorem n3_9 : Run Cx 3 T ds ro (.code c3_9 :: k) H Q = Run Cx 3 T ds ro (k) H Q := run_skip
def c3_5 : AC := .cond (.tmp 15) c3_6 c3_9
theorem n3_5 : Run Cx 3 T ds ro (.code c3_5 :: k) H Q = RunCond Cx 3 T ds ro (.tmp 15) (ev T (.tmp 15)) c3_6 c3_9 k H Q := run_condC
def c3_3 : AC := .seq c3_4 c3_5
theorem n3_3 : Run Cx 3 T ds ro (.code c3_3 :: k) H Q = Run Cx 3 T ds ro (.code c3_4 :: .code c3_5 :: k) H Q := run_seq
def o3_11 : List AO := [{ dst := (some 17), op := .move (.tmp 0), ty := 22, guard := none },
  { dst := (some 18), op := .call { callee := (.value (.func 8)), args := #[(.tmp 17)], argTypes := #[22] }, ty := 22, guard := none },
  { dst := (some 5), op := .assign (.tmp 18), ty := 22, guard := none }]
def c3_11 : AC := .region o3_11 []
theorem n3_11 : Run Cx 3 T ds ro (.code c3_11 :: k) H Q = RunOps Cx 3 T ds ro o3_11 k H Q := run_region
def o3_13 : List AO := [{ dst := (some 6), op := .assign (.const (.int .i64 0)), ty := 3, guard := none },
  { dst := (some 7), op := .assign (.const (.int .i64 0)), ty := 3, guard := none }]
def c3_13 : AC := .region o3_13 []
theorem n3_13 : Run Cx 3 T ds ro (.code c3_13 :: k) H Q = RunOps Cx 3 T ds ro o3_13 k H Q := run_region
def o3_16 : List AO := [{ dst := (some 8), op := .assign (.const (.int .i64 0)), ty := 3, guard := none }]
def c3_16 : AC := .region o3_16 []
theorem n3_16 : Run Cx 3 T ds ro (.code c3_16 :: k) H Q = RunOps Cx 3 T ds ro o3_16 k H Q := run_region
def o3_21 : List AO := [{ dst := (some 19), op := .move (.tmp 8), ty := 3, guard := none },
  { dst := (some 20), op := .move (.tmp 0), ty := 22, guard := none },
  { dst := (some 21), op := .call { callee := (.builtin .len), args := #[(.tmp 20)], argTypes := #[22] }, ty := 3, guard := none },
  { dst := (some 22), op := .binOp .lss 3 (.tmp 19) (.tmp 21) 3, ty := 4, guard := none }]
def c3_21 : AC := .region o3_21 []
theorem n3_21 : Run Cx 3 T ds ro (.code c3_21 :: k) H Q = RunOps Cx 3 T ds ro o3_21 k H Q := run_region
def c3_23 : AC := .skip
theorem n3_23 : Run Cx 3 T ds ro (.code c3_23 :: k) H Q = Run Cx 3 T ds ro (k) H Q := run_skip
def c3_24 : AC := .exit 0
theorem n3_24 : Run Cx 3 T ds ro (.code c3_24 :: k) H Q = RunExit Cx 3 T ds ro 0 k k H Q := run_exit_start
def c3_22 : AC := .cond (.tmp 22) c3_23 c3_24
theorem n3_22 : Run Cx 3 T ds ro (.code c3_22 :: k) H Q = RunCond Cx 3 T ds ro (.tmp 22) (ev T (.tmp 22)) c3_23 c3_24 k H Q := run_condC
def c3_20 : AC := .seq c3_21 c3_22
theorem n3_20 : Run Cx 3 T ds ro (.code c3_20 :: k) H Q = Run Cx 3 T ds ro (.code c3_21 :: .code c3_22 :: k) H Q := run_seq
def o3_29 : List AO := [{ dst := (some 25), op := .move (.tmp 0), ty := 22, guard := none },
  { dst := (some 26), op := .move (.tmp 8), ty := 3, guard := none },
  { dst := (some 27), op := .indexAddr 22 (.tmp 25) (.tmp 26), ty := 0, guard := none },
  { dst := (some 28), op := .load 28 (.tmp 27), ty := 28, guard := none },
  { dst := (some 29), op := .load 28 (.tmp 3), ty := 28, guard := none },
  { dst := (some 30), op := .binOp .eql 28 (.tmp 28) (.tmp 29) 28, ty := 4, guard := none }]
def c3_29 : AC := .region o3_29 []
theorem n3_29 : Run Cx 3 T ds ro (.code c3_29 :: k) H Q = RunOps Cx 3 T ds ro o3_29 k H Q := run_region
def o3_31 : List AO := [{ dst := (some 31), op := .move (.tmp 6), ty := 3, guard := none },
  { dst := (some 32), op := .binOp .add 3 (.tmp 31) (.const (.int .i64 1)) 3, ty := 3, guard := none },
  { dst := (some 6), op := .assign (.tmp 32), ty := 3, guard := none }]
def c3_31 : AC := .region o3_31 []
theorem n3_31 : Run Cx 3 T ds ro (.code c3_31 :: k) H Q = RunOps Cx 3 T ds ro o3_31 k H Q := run_region
def c3_32 : AC := .skip
theorem n3_32 : Run Cx 3 T ds ro (.code c3_32 :: k) H Q = Run Cx 3 T ds ro (k) H Q := run_skip
def c3_30 : AC := .cond (.tmp 30) c3_31 c3_32
theorem n3_30 : Run Cx 3 T ds ro (.code c3_30 :: k) H Q = RunCond Cx 3 T ds ro (.tmp 30) (ev T (.tmp 30)) c3_31 c3_32 k H Q := run_condC
def c3_28 : AC := .seq c3_29 c3_30
theorem n3_28 : Run Cx 3 T ds ro (.code c3_28 :: k) H Q = Run Cx 3 T ds ro (.code c3_29 :: .code c3_30 :: k) H Q := run_seq
def o3_34 : List AO := [{ dst := (some 33), op := .move (.tmp 5), ty := 22, guard := none },
  { dst := (some 34), op := .move (.tmp 8), ty := 3, guard := none },
  { dst := (some 35), op := .indexAddr 22 (.tmp 33) (.tmp 34), ty := 0, guard := none },
  { dst := (some 36), op := .load 28 (.tmp 35), ty := 28, guard := none },
  { dst := (some 37), op := .load 28 (.tmp 3), ty := 28, guard := none },
  { dst := (some 38), op := .binOp .eql 28 (.tmp 36) (.tmp 37) 28, ty := 4, guard := none }]
def c3_34 : AC := .region o3_34 []
theorem n3_34 : Run Cx 3 T ds ro (.code c3_34 :: k) H Q = RunOps Cx 3 T ds ro o3_34 k H Q := run_region
def o3_36 : List AO := [{ dst := (some 39), op := .move (.tmp 7), ty := 3, guard := none },
  { dst := (some 40), op := .binOp .add 3 (.tmp 39) (.const (.int .i64 1)) 3, ty := 3, guard := none },
  { dst := (some 7), op := .assign (.tmp 40), ty := 3, guard := none }]
def c3_36 : AC := .region o3_36 []
theorem n3_36 : Run Cx 3 T ds ro (.code c3_36 :: k) H Q = RunOps Cx 3 T ds ro o3_36 k H Q := run_region
def c3_37 : AC := .skip
theorem n3_37 : Run Cx 3 T ds ro (.code c3_37 :: k) H Q = Run Cx 3 T ds ro (k) H Q := run_skip
def c3_35 : AC := .cond (.tmp 38) c3_36 c3_37
theorem n3_35 : Run Cx 3 T ds ro (.code c3_35 :: k) H Q = RunCond Cx 3 T ds ro (.tmp 38) (ev T (.tmp 38)) c3_36 c3_37 k H Q := run_condC
def c3_33 : AC := .seq c3_34 c3_35
theorem n3_33 : Run Cx 3 T ds ro (.code c3_33 :: k) H Q = Run Cx 3 T ds ro (.code c3_34 :: .code c3_35 :: k) H Q := run_seq
def c3_27 : AC := .seq c3_28 c3_33
theorem n3_27 : Run Cx 3 T ds ro (.code c3_27 :: k) H Q = Run Cx 3 T ds ro (.code c3_28 :: .code c3_33 :: k) H Q := run_seq
def c3_26 : AC := .block 1 c3_27
theorem n3_26 : Run Cx 3 T ds ro (.code c3_26 :: k) H Q = Run Cx 3 T ds ro (.code c3_27 :: .inBlock 1 :: k) H Q := run_block
def o3_38 : List AO := [{ dst := (some 23), op := .move (.tmp 8), ty := 3, guard := none },
  { dst := (some 24), op := .binOp .add 3 (.tmp 23) (.const (.int .i64 1)) 3, ty := 3, guard := none },
  { dst := (some 8), op := .assign (.tmp 24), ty := 3, guard := none }]
def c3_38 : AC := .region o3_38 []
theorem n3_38 : Run Cx 3 T ds ro (.code c3_38 :: k) H Q = RunOps Cx 3 T ds ro o3_38 k H Q := run_region
def c3_25 : AC := .seq c3_26 c3_38
theorem n3_25 : Run Cx 3 T ds ro (.code c3_25 :: k) H Q = Run Cx 3 T ds ro (.code c3_26 :: .code c3_38 :: k) H Q := run_seq
def c3_19 : AC := .seq c3_20 c3_25
theorem n3_19 : Run Cx 3 T ds ro (.code c3_19 :: k) H Q = Run Cx 3 T ds ro (.code c3_20 :: .code c3_25 :: k) H Q := run_seq
def c3_18 : AC := .loop c3_19
theorem n3_18 : Run Cx 3 T ds ro (.code c3_18 :: k) H Q = Run Cx 3 T ds ro (.inLoop c3_19 :: k) H Q := run_loop'
def c3_17 : AC := .block 0 c3_18
theorem n3_17 : Run Cx 3 T ds ro (.code c3_17 :: k) H Q = Run Cx 3 T ds ro (.code c3_18 :: .inBlock 0 :: k) H Q := run_block
def c3_15 : AC := .seq c3_16 c3_17
theorem n3_15 : Run Cx 3 T ds ro (.code c3_15 :: k) H Q = Run Cx 3 T ds ro (.code c3_16 :: .code c3_17 :: k) H Q := run_seq
def o3_40 : List AO := [{ dst := (some 41), op := .move (.tmp 6), ty := 3, guard := none },
  { dst := (some 42), op := .move (.tmp 7), ty := 3, guard := none },
  { dst := (some 43), op := .binOp .eql 3 (.tmp 41) (.tmp 42) 3, ty := 4, guard := none },
  { dst := (some 44), op := .move (.tmp 43), ty := 4, guard := none },
  { dst := (some 45), op := .move (.tmp 5), ty := 22, guard := (some (44, true)) },
  { dst := (some 46), op := .call { callee := (.builtin .len), args := #[(.tmp 45)], argTypes := #[22] }, ty := 3, guard := (some (44, true)) },
  { dst := (some 47), op := .move (.tmp 0), ty := 22, guard := (some (44, true)) },
  { dst := (some 48), op := .call { callee := (.builtin .len), args := #[(.tmp 47)], argTypes := #[22] }, ty := 3, guard := (some (44, true)) },
  { dst := (some 49), op := .binOp .eql 3 (.tmp 46) (.tmp 48) 3, ty := 4, guard := (some (44, true)) },
  { dst := (some 50), op := .pick (.tmp 44) (.tmp 49) (.const (.bool false)), ty := 4, guard := none },
  { dst := (some 51), op := .move (.tmp 50), ty := 4, guard := none },
  { dst := (some 52), op := .move (.tmp 5), ty := 22, guard := (some (51, true)) },
  { dst := (some 53), op := .call { callee := (.value (.func 8)), args := #[(.tmp 52)], argTypes := #[22] }, ty := 22, guard := (some (51, true)) },
  { dst := (some 54), op := .move (.tmp 5), ty := 22, guard := (some (51, true)) },
  { dst := (some 55), op := .call { callee := (.value (.func 9)), args := #[(.tmp 53), (.tmp 54)], argTypes := #[22, 22] }, ty := 4, guard := (some (51, true)) },
  { dst := (some 56), op := .pick (.tmp 51) (.tmp 55) (.const (.bool false)), ty := 4, guard := none },
  { dst := (some 4), op := .assign (.tmp 56), ty := 4, guard := none }]
def c3_40 : AC := .region o3_40 []
theorem n3_40 : Run Cx 3 T ds ro (.code c3_40 :: k) H Q = RunOps Cx 3 T ds ro o3_40 k H Q := run_region
def c3_41 : AC := .ret
theorem n3_41 : Run Cx 3 T [] none (.code c3_41 :: k) H Q = RunRes Cx T H Q (resOf Cx 3) := run_ret
def c3_39 : AC := .seq c3_40 c3_41
theorem n3_39 : Run Cx 3 T ds ro (.code c3_39 :: k) H Q = Run Cx 3 T ds ro (.code c3_40 :: .code c3_41 :: k) H Q := run_seq
def c3_14 : AC := .seq c3_15 c3_39
theorem n3_14 : Run Cx 3 T ds ro (.code c3_14 :: k) H Q = Run Cx 3 T ds ro (.code c3_15 :: .code c3_39 :: k) H Q := run_seq
def c3_12 : AC := .seq c3_13 c3_14
theorem n3_12 : Run Cx 3 T ds ro (.code c3_12 :: k) H Q = Run Cx 3 T ds ro (.code c3_13 :: .code c3_14 :: k) H Q := run_seq
def c3_10 : AC := .seq c3_11 c3_12
theorem n3_10 : Run Cx 3 T ds ro (.code c3_10 :: k) H Q = Run Cx 3 T ds ro (.code c3_11 :: .code c3_12 :: k) H Q := run_seq
def c3_2 : AC := .seq c3_3 c3_10
theorem n3_2 : Run Cx 3 T ds ro (.code c3_2 :: k) H Q = Run Cx 3 T ds ro (.code c3_3 :: .code c3_10 :: k) H Q := run_seq
def c3_0 : AC := .seq c3_1 c3_2
theorem n3_0 : Run Cx 3 T ds ro (.code c3_0 :: k) H Q = Run Cx 3 T ds ro (.code c3_1 :: .code c3_2 :: k) H Q := run_seq
theorem body3 : bodyOf Cx 3 = some c3_0 := by kernel_rfl
theorem res3 : resOf Cx 3 = some [.tmp 4] := by kernel_rfl
theorem pure3 : Cx.pure 3 = true := by kernel_rfl
-- RULES 3: n3_0, n3_1, n3_2, n3_3, n3_4, n3_5, n3_6, n3_7, n3_8, n3_9, n3_10, n3_11, n3_12, n3_13, n3_14, n3_15, n3_16, n3_17, n3_18, n3_19, n3_20, n3_21, n3_22, n3_23, n3_24, n3_25, n3_26, n3_27, n3_28, n3_29, n3_30, n3_31, n3_32, n3_33, n3_34, n3_35, n3_36, n3_37, n3_38, n3_39, n3_40, n3_41
def o4_1 : List AO := [{ dst := (some 3), op := .box 5 (.tmp 1), ty := 0, guard := none },
  { dst := (some 4), op := .alloc 4, ty := 0, guard := none }]
def c4_1 : AC := .region o4_1 []
theorem n4_1 : Run Cx 4 T ds ro (.code c4_1 :: k) H Q = RunOps Cx 4 T ds ro o4_1 k H Q := run_region
def o4_4 : List AO := [{ dst := (some 11), op := .call { callee := (.value (.func 6)), args := #[], argTypes := #[] }, ty := 4, guard := none },
  { dst := (some 12), op := .unOp .not 4 (.tmp 11), ty := 4, guard := none },
  { dst := (some 13), op := .move (.tmp 12), ty := 4, guard := none },
  { dst := (some 14), op := .move (.tmp 0), ty := 22, guard := (some (13, false)) },
  { dst := (some 15), op := .call { callee := (.value (.func 7)), args := #[(.tmp 14)], argTypes := #[22] }, ty := 3, guard := (some (13, false)) },
  { dst := (some 16), op := .binOp .eql 3 (.tmp 15) (.const (.int .i64 0)) 3, ty := 4, guard := (some (13, false)) },
  { dst := (some 17), op := .pick (.tmp 13) (.const (.bool true)) (.tmp 16), ty := 4, guard := none }]
def c4_4 : AC := .region o4_4 []
theorem n4_4 : Run Cx 4 T ds ro (.code c4_4 :: k) H Q = RunOps Cx 4 T ds ro o4_4 k H Q := run_region
def o4_7 : List AO := [{ dst := (some 18), op := .call { callee := (.value (.func 6)), args := #[], argTypes := #[] }, ty := 4, guard := none },
  { dst := none, op := .store 4 (.tmp 4) (.tmp 18), ty := 0, guard := none }]
def c4_7 : AC := .region o4_7 []
theorem n4_7 : Run Cx 4 T ds ro (.code c4_7 :: k) H Q = RunOps Cx 4 T ds ro o4_7 k H Q := run_region
def c4_8 : AC := .ret
theorem n4_8 : Run Cx 4 T [] none (.code c4_8 :: k) H Q = RunRes Cx T H Q (resOf Cx 4) := run_ret
def c4_6 : AC := .seq c4_7 c4_8
theorem n4_6 : Run Cx 4 T ds ro (.code c4_6 :: k) H Q = Run Cx 4 T ds ro (.code c4_7 :: .code c4_8 :: k) H Q := run_seq
def c4_9 : AC := .skip
theorem n4_9 : Run Cx 4 T ds ro (.code c4_9 :: k) H Q = Run Cx 4 T ds ro (k) H Q := run_skip
def c4_5 : AC := .cond (.tmp 17) c4_6 c4_9
theorem n4_5 : Run Cx 4 T ds ro (.code c4_5 :: k) H Q = RunCond Cx 4 T ds ro (.tmp 17) (ev T (.tmp 17)) c4_6 c4_9 k H Q := run_condC
def c4_3 : AC := .seq c4_4 c4_5
theorem n4_3 : Run Cx 4 T ds ro (.code c4_3 :: k) H Q = Run Cx 4 T ds ro (.code c4_4 :: .code c4_5 :: k) H Q := run_seq
def o4_11 : List AO := [{ dst := (some 19), op := .move (.tmp 0), ty := 22, guard := none },
  { dst := (some 20), op := .call { callee := (.value (.func 10)), args := #[(.tmp 19)], argTypes := #[22] }, ty := 22, guard := none },
  { dst := (some 5), op := .alloc 22, ty := 0, guard := none },
  { dst := none, op := .store 22 (.tmp 5) (.tmp 20), ty := 0, guard := none }]
def c4_11 : AC := .region o4_11 []
theorem n4_11 : Run Cx 4 T ds ro (.code c4_11 :: k) H Q = RunOps Cx 4 T ds ro o4_11 k H Q := run_region
def o4_13 : List AO := [{ dst := (some 6), op := .alloc 3, ty := 0, guard := none },
  { dst := (some 7), op := .alloc 3, ty := 0, guard := none },
  { dst := none, op := .store 3 (.tmp 6) (.const (.int .i64 0)), ty := 0, guard := none },
  { dst := none, op := .store 3 (.tmp 7) (.const (.int .i64 0)), ty := 0, guard := none }]
def c4_13 : AC := .region o4_13 []
theorem n4_13 : Run Cx 4 T ds ro (.code c4_13 :: k) H Q = RunOps Cx 4 T ds ro o4_13 k H Q := run_region
def o4_16 : List AO := [{ dst := (some 21), op := .move (.tmp 0), ty := 22, guard := none },
  { dst := (some 22), op := .call { callee := (.value (.func 11)), args := #[(.tmp 21)], argTypes := #[22] }, ty := 35, guard := none }]
def c4_16 : AC := .region o4_16 []
theorem n4_16 : Run Cx 4 T ds ro (.code c4_16 :: k) H Q = RunOps Cx 4 T ds ro o4_16 k H Q := run_region
def o4_20 : List AO := [{ dst := (some 8), op := .assign (.tmp 23), ty := 9, guard := none }]
def c4_20 : AC := .region o4_20 []
theorem n4_20 : Run Cx 4 T ds ro (.code c4_20 :: k) H Q = RunOps Cx 4 T ds ro o4_20 k H Q := run_region
def o4_21 : List AO := [{ dst := (some 9), op := .assign (.tmp 24), ty := 37, guard := none }]
def c4_21 : AC := .region o4_21 []
theorem n4_21 : Run Cx 4 T ds ro (.code c4_21 :: k) H Q = RunOps Cx 4 T ds ro o4_21 k H Q := run_region
def c4_19 : AC := .seq c4_20 c4_21
theorem n4_19 : Run Cx 4 T ds ro (.code c4_19 :: k) H Q = Run Cx 4 T ds ro (.code c4_20 :: .code c4_21 :: k) H Q := run_seq
def o4_25 : List AO := [{ dst := (some 25), op := .move (.tmp 9), ty := 37, guard := none },
  { dst := (some 26), op := .call { callee := (.builtin .len), args := #[(.tmp 25)], argTypes := #[37] }, ty := 3, guard := none },
  { dst := (some 27), op := .binOp .eql 3 (.tmp 26) (.const (.int .i64 0)) 3, ty := 4, guard := none },
  { dst := (some 28), op := .move (.tmp 27), ty := 4, guard := none },
  { dst := (some 29), op := .load 3 (.tmp 6), ty := 3, guard := (some (28, false)) },
  { dst := (some 30), op := .move (.tmp 9), ty := 37, guard := (some (28, false)) },
  { dst := (some 31), op := .call { callee := (.builtin .len), args := #[(.tmp 30)], argTypes := #[37] }, ty := 3, guard := (some (28, false)) },
  { dst := (some 32), op := .binOp .add 3 (.tmp 29) (.tmp 31) 3, ty := 3, guard := (some (28, false)) },
  { dst := (some 33), op := .load 22 (.tmp 5), ty := 22, guard := (some (28, false)) },
  { dst := (some 34), op := .call { callee := (.builtin .len), args := #[(.tmp 33)], argTypes := #[22] }, ty := 3, guard := (some (28, false)) },
  { dst := (some 35), op := .binOp .gtr 3 (.tmp 32) (.tmp 34) 3, ty := 4, guard := (some (28, false)) },
  { dst := (some 36), op := .pick (.tmp 28) (.const (.bool true)) (.tmp 35), ty := 4, guard := none },
  { dst := (some 37), op := .move (.tmp 36), ty := 4, guard := none },
  { dst := (some 38), op := .load 3 (.tmp 6), ty := 3, guard := (some (37, false)) },
  { dst := (some 39), op := .binOp .gtr 3 (.tmp 38) (.const (.int .i64 0)) 3, ty := 4, guard := (some (37, false)) },
  { dst := (some 40), op := .move (.tmp 39), ty := 4, guard := (some (37, false)) },
  { dst := (some 41), op := .load 22 (.tmp 5), ty := 22, guard := (some (40, true)) },
  { dst := (some 42), op := .load 3 (.tmp 6), ty := 3, guard := (some (40, true)) },
  { dst := (some 43), op := .binOp .sub 3 (.tmp 42) (.const (.int .i64 1)) 3, ty := 3, guard := (some (40, true)) },
  { dst := (some 44), op := .indexAddr 22 (.tmp 41) (.tmp 43), ty := 0, guard := (some (40, true)) },
  { dst := (some 45), op := .fieldAddr 28 (.tmp 44) 0, ty := 0, guard := (some (40, true)) },
  { dst := (some 46), op := .load 9 (.tmp 45), ty := 9, guard := (some (40, true)) },
  { dst := (some 47), op := .move (.tmp 8), ty := 9, guard := (some (40, true)) },
  { dst := (some 48), op := .binOp .eql 9 (.tmp 46) (.tmp 47) 9, ty := 4, guard := (some (40, true)) },
  { dst := (some 49), op := .pick (.tmp 40) (.tmp 48) (.const (.bool false)), ty := 4, guard := (some (37, false)) },
  { dst := (some 50), op := .pick (.tmp 37) (.const (.bool true)) (.tmp 49), ty := 4, guard := none }]
def c4_25 : AC := .region o4_25 []
theorem n4_25 : Run Cx 4 T ds ro (.code c4_25 :: k) H Q = RunOps Cx 4 T ds ro o4_25 k H Q := run_region
def o4_28 : List AO := [{ dst := none, op := .store 4 (.tmp 4) (.const (.bool false)), ty := 0, guard := none }]
def c4_28 : AC := .region o4_28 []
theorem n4_28 : Run Cx 4 T ds ro (.code c4_28 :: k) H Q = RunOps Cx 4 T ds ro o4_28 k H Q := run_region
def c4_29 : AC := .ret
theorem n4_29 : Run Cx 4 T [] none (.code c4_29 :: k) H Q = RunRes Cx T H Q (resOf Cx 4) := run_ret
def c4_27 : AC := .seq c4_28 c4_29
theorem n4_27 : Run Cx 4 T ds ro (.code c4_27 :: k) H Q = Run Cx 4 T ds ro (.code c4_28 :: .code c4_29 :: k) H Q := run_seq
def c4_30 : AC := .skip
theorem n4_30 : Run Cx 4 T ds ro (.code c4_30 :: k) H Q = Run Cx 4 T ds ro (k) H Q := run_skip
def c4_26 : AC := .cond (.tmp 50) c4_27 c4_30
theorem n4_26 : Run Cx 4 T ds ro (.code c4_26 :: k) H Q = RunCond Cx 4 T ds ro (.tmp 50) (ev T (.tmp 50)) c4_27 c4_30 k H Q := run_condC
def c4_24 : AC := .seq c4_25 c4_26
theorem n4_24 : Run Cx 4 T ds ro (.code c4_24 :: k) H Q = Run Cx 4 T ds ro (.code c4_25 :: .code c4_26 :: k) H Q := run_seq
def o4_33 : List AO := [{ dst := (some 10), op := .assign (.const (.int .i64 0)), ty := 3, guard := none }]
def c4_33 : AC := .region o4_33 []
theorem n4_33 : Run Cx 4 T ds ro (.code c4_33 :: k) H Q = RunOps Cx 4 T ds ro o4_33 k H Q := run_region
def o4_38 : List AO := [{ dst := (some 51), op := .move (.tmp 10), ty := 3, guard := none },
  { dst := (some 52), op := .move (.tmp 9), ty := 37, guard := none },
  { dst := (some 53), op := .call { callee := (.builtin .len), args := #[(.tmp 52)], argTypes := #[37] }, ty := 3, guard := none },
  { dst := (some 54), op := .binOp .lss 3 (.tmp 51) (.tmp 53) 3, ty := 4, guard := none }]
def c4_38 : AC := .region o4_38 []
theorem n4_38 : Run Cx 4 T ds ro (.code c4_38 :: k) H Q = RunOps Cx 4 T ds ro o4_38 k H Q := run_region
def c4_40 : AC := .skip
theorem n4_40 : Run Cx 4 T ds ro (.code c4_40 :: k) H Q = Run Cx 4 T ds ro (k) H Q := run_skip
def c4_41 : AC := .exit 2
theorem n4_41 : Run Cx 4 T ds ro (.code c4_41 :: k) H Q = RunExit Cx 4 T ds ro 2 k k H Q := run_exit_start
def c4_39 : AC := .cond (.tmp 54) c4_40 c4_41
theorem n4_39 : Run Cx 4 T ds ro (.code c4_39 :: k) H Q = RunCond Cx 4 T ds ro (.tmp 54) (ev T (.tmp 54)) c4_40 c4_41 k H Q := run_condC
def c4_37 : AC := .seq c4_38 c4_39
theorem n4_37 : Run Cx 4 T ds ro (.code c4_37 :: k) H Q = Run Cx 4 T ds ro (.code c4_38 :: .code c4_39 :: k) H Q := run_seq
def o4_45 : List AO := [{ dst := (some 57), op := .load 22 (.tmp 5), ty := 22, guard := none },
  { dst := (some 58), op := .load 3 (.tmp 6), ty := 3, guard := none },
  { dst := (some 59), op := .move (.tmp 10), ty := 3, guard := none },
  { dst := (some 60), op := .binOp .add 3 (.tmp 58) (.tmp 59) 3, ty := 3, guard := none },
  { dst := (some 61), op := .indexAddr 22 (.tmp 57) (.tmp 60), ty := 0, guard := none },
  { dst := (some 62), op := .fieldAddr 28 (.tmp 61) 0, ty := 0, guard := none },
  { dst := (some 63), op := .load 9 (.tmp 62), ty := 9, guard := none },
  { dst := (some 64), op := .move (.tmp 8), ty := 9, guard := none },
  { dst := (some 65), op := .binOp .neq 9 (.tmp 63) (.tmp 64) 9, ty := 4, guard := none },
  { dst := (some 66), op := .move (.tmp 65), ty := 4, guard := none },
  { dst := (some 67), op := .load 22 (.tmp 5), ty := 22, guard := (some (66, false)) },
  { dst := (some 68), op := .load 3 (.tmp 6), ty := 3, guard := (some (66, false)) },
  { dst := (some 69), op := .move (.tmp 10), ty := 3, guard := (some (66, false)) },
  { dst := (some 70), op := .binOp .add 3 (.tmp 68) (.tmp 69) 3, ty := 3, guard := (some (66, false)) },
  { dst := (some 71), op := .indexAddr 22 (.tmp 67) (.tmp 70), ty := 0, guard := (some (66, false)) },
  { dst := (some 72), op := .fieldAddr 28 (.tmp 71) 1, ty := 0, guard := (some (66, false)) },
  { dst := (some 73), op := .load 26 (.tmp 72), ty := 26, guard := (some (66, false)) },
  { dst := (some 74), op := .move (.tmp 9), ty := 37, guard := (some (66, false)) },
  { dst := (some 75), op := .move (.tmp 10), ty := 3, guard := (some (66, false)) },
  { dst := (some 76), op := .indexAddr 37 (.tmp 74) (.tmp 75), ty := 0, guard := (some (66, false)) },
  { dst := (some 77), op := .load 26 (.tmp 76), ty := 26, guard := (some (66, false)) },
  { dst := (some 78), op := .binOp .neq 26 (.tmp 73) (.tmp 77) 26, ty := 4, guard := (some (66, false)) },
  { dst := (some 79), op := .pick (.tmp 66) (.const (.bool true)) (.tmp 78), ty := 4, guard := none }]
def c4_45 : AC := .region o4_45 []
theorem n4_45 : Run Cx 4 T ds ro (.code c4_45 :: k) H Q = RunOps Cx 4 T ds ro o4_45 k H Q := run_region
def o4_48 : List AO := [{ dst := none, op := .store 4 (.tmp 4) (.const (.bool false)), ty := 0, guard := none }]
def c4_48 : AC := .region o4_48 []
theorem n4_48 : Run Cx 4 T ds ro (.code c4_48 :: k) H Q = RunOps Cx 4 T ds ro o4_48 k H Q := run_region
def c4_49 : AC := .ret
theorem n4_49 : Run Cx 4 T [] none (.code c4_49 :: k) H Q = RunRes Cx T H Q (resOf Cx 4) := run_ret
def c4_47 : AC := .seq c4_48 c4_49
theorem n4_47 : Run Cx 4 T ds ro (.code c4_47 :: k) H Q = Run Cx 4 T ds ro (.code c4_48 :: .code c4_49 :: k) H Q := run_seq
def c4_50 : AC := .skip
theorem n4_50 : Run Cx 4 T ds ro (.code c4_50 :: k) H Q = Run Cx 4 T ds ro (k) H Q := run_skip
def c4_46 : AC := .cond (.tmp 79) c4_47 c4_50
theorem n4_46 : Run Cx 4 T ds ro (.code c4_46 :: k) H Q = RunCond Cx 4 T ds ro (.tmp 79) (ev T (.tmp 79)) c4_47 c4_50 k H Q := run_condC
def c4_44 : AC := .seq c4_45 c4_46
theorem n4_44 : Run Cx 4 T ds ro (.code c4_44 :: k) H Q = Run Cx 4 T ds ro (.code c4_45 :: .code c4_46 :: k) H Q := run_seq
def c4_43 : AC := .block 3 c4_44
theorem n4_43 : Run Cx 4 T ds ro (.code c4_43 :: k) H Q = Run Cx 4 T ds ro (.code c4_44 :: .inBlock 3 :: k) H Q := run_block
def o4_51 : List AO := [{ dst := (some 55), op := .move (.tmp 10), ty := 3, guard := none },
  { dst := (some 56), op := .binOp .add 3 (.tmp 55) (.const (.int .i64 1)) 3, ty := 3, guard := none },
  { dst := (some 10), op := .assign (.tmp 56), ty := 3, guard := none }]
def c4_51 : AC := .region o4_51 []
theorem n4_51 : Run Cx 4 T ds ro (.code c4_51 :: k) H Q = RunOps Cx 4 T ds ro o4_51 k H Q := run_region
def c4_42 : AC := .seq c4_43 c4_51
theorem n4_42 : Run Cx 4 T ds ro (.code c4_42 :: k) H Q = Run Cx 4 T ds ro (.code c4_43 :: .code c4_51 :: k) H Q := run_seq
def c4_36 : AC := .seq c4_37 c4_42
theorem n4_36 : Run Cx 4 T ds ro (.code c4_36 :: k) H Q = Run Cx 4 T ds ro (.code c4_37 :: .code c4_42 :: k) H Q := run_seq
def c4_35 : AC := .loop c4_36
theorem n4_35 : Run Cx 4 T ds ro (.code c4_35 :: k) H Q = Run Cx 4 T ds ro (.inLoop c4_36 :: k) H Q := run_loop'
def c4_34 : AC := .block 2 c4_35
theorem n4_34 : Run Cx 4 T ds ro (.code c4_34 :: k) H Q = Run Cx 4 T ds ro (.code c4_35 :: .inBlock 2 :: k) H Q := run_block
def c4_32 : AC := .seq c4_33 c4_34
theorem n4_32 : Run Cx 4 T ds ro (.code c4_32 :: k) H Q = Run Cx 4 T ds ro (.code c4_33 :: .code c4_34 :: k) H Q := run_seq
def o4_53 : List AO := [{ dst := (some 80), op := .load 3 (.tmp 6), ty := 3, guard := none },
  { dst := (some 81), op := .move (.tmp 9), ty := 37, guard := none },
  { dst := (some 82), op := .call { callee := (.builtin .len), args := #[(.tmp 81)], argTypes := #[37] }, ty := 3, guard := none },
  { dst := (some 83), op := .binOp .add 3 (.tmp 80) (.tmp 82) 3, ty := 3, guard := none },
  { dst := none, op := .store 3 (.tmp 6) (.tmp 83), ty := 0, guard := none }]
def c4_53 : AC := .region o4_53 []
theorem n4_53 : Run Cx 4 T ds ro (.code c4_53 :: k) H Q = RunOps Cx 4 T ds ro o4_53 k H Q := run_region
def o4_55 : List AO := [{ dst := (some 84), op := .load 3 (.tmp 7), ty := 3, guard := none },
  { dst := (some 85), op := .binOp .add 3 (.tmp 84) (.const (.int .i64 1)) 3, ty := 3, guard := none },
  { dst := none, op := .store 3 (.tmp 7) (.tmp 85), ty := 0, guard := none }]
def c4_55 : AC := .region o4_55 []
theorem n4_55 : Run Cx 4 T ds ro (.code c4_55 :: k) H Q = RunOps Cx 4 T ds ro o4_55 k H Q := run_region
def o4_57 : List AO := [{ dst := (some 86), op := .load 3 (.tmp 7), ty := 3, guard := none },
  { dst := (some 87), op := .load 5 (.tmp 3), ty := 5, guard := none },
  { dst := (some 88), op := .convert 5 3 (.tmp 87), ty := 3, guard := none },
  { dst := (some 89), op := .binOp .eql 3 (.tmp 86) (.tmp 88) 3, ty := 4, guard := none }]
def c4_57 : AC := .region o4_57 []
theorem n4_57 : Run Cx 4 T ds ro (.code c4_57 :: k) H Q = RunOps Cx 4 T ds ro o4_57 k H Q := run_region
def o4_60 : List AO := [{ dst := none, op := .store 4 (.tmp 4) (.const (.bool true)), ty := 0, guard := none }]
def c4_60 : AC := .region o4_60 []
theorem n4_60 : Run Cx 4 T ds ro (.code c4_60 :: k) H Q = RunOps Cx 4 T ds ro o4_60 k H Q := run_region
def c4_61 : AC := .ret
theorem n4_61 : Run Cx 4 T [] none (.code c4_61 :: k) H Q = RunRes Cx T H Q (resOf Cx 4) := run_ret
def c4_59 : AC := .seq c4_60 c4_61
theorem n4_59 : Run Cx 4 T ds ro (.code c4_59 :: k) H Q = Run Cx 4 T ds ro (.code c4_60 :: .code c4_61 :: k) H Q := run_seq
def c4_62 : AC := .skip
theorem n4_62 : Run Cx 4 T ds ro (.code c4_62 :: k) H Q = Run Cx 4 T ds ro (k) H Q := run_skip
def c4_58 : AC := .cond (.tmp 89) c4_59 c4_62
theorem n4_58 : Run Cx 4 T ds ro (.code c4_58 :: k) H Q = RunCond Cx 4 T ds ro (.tmp 89) (ev T (.tmp 89)) c4_59 c4_62 k H Q := run_condC
def c4_56 : AC := .seq c4_57 c4_58
theorem n4_56 : Run Cx 4 T ds ro (.code c4_56 :: k) H Q = Run Cx 4 T ds ro (.code c4_57 :: .code c4_58 :: k) H Q := run_seq
def c4_54 : AC := .seq c4_55 c4_56
theorem n4_54 : Run Cx 4 T ds ro (.code c4_54 :: k) H Q = Run Cx 4 T ds ro (.code c4_55 :: .code c4_56 :: k) H Q := run_seq
def c4_52 : AC := .seq c4_53 c4_54
theorem n4_52 : Run Cx 4 T ds ro (.code c4_52 :: k) H Q = Run Cx 4 T ds ro (.code c4_53 :: .code c4_54 :: k) H Q := run_seq
def c4_31 : AC := .seq c4_32 c4_52
theorem n4_31 : Run Cx 4 T ds ro (.code c4_31 :: k) H Q = Run Cx 4 T ds ro (.code c4_32 :: .code c4_52 :: k) H Q := run_seq
def c4_23 : AC := .seq c4_24 c4_31
theorem n4_23 : Run Cx 4 T ds ro (.code c4_23 :: k) H Q = Run Cx 4 T ds ro (.code c4_24 :: .code c4_31 :: k) H Q := run_seq
def c4_22 : AC := .block 1 c4_23
theorem n4_22 : Run Cx 4 T ds ro (.code c4_22 :: k) H Q = Run Cx 4 T ds ro (.code c4_23 :: .inBlock 1 :: k) H Q := run_block
def c4_18 : AC := .rangeFunc (.tmp 22) [23, 24] c4_19 c4_22
def c4_17 : AC := .block 0 c4_18
theorem n4_17 : Run Cx 4 T ds ro (.code c4_17 :: k) H Q = Run Cx 4 T ds ro (.code c4_18 :: .inBlock 0 :: k) H Q := run_block
def c4_15 : AC := .seq c4_16 c4_17
theorem n4_15 : Run Cx 4 T ds ro (.code c4_15 :: k) H Q = Run Cx 4 T ds ro (.code c4_16 :: .code c4_17 :: k) H Q := run_seq
def o4_64 : List AO := [{ dst := (some 90), op := .load 3 (.tmp 6), ty := 3, guard := none },
  { dst := (some 91), op := .load 22 (.tmp 5), ty := 22, guard := none },
  { dst := (some 92), op := .call { callee := (.builtin .len), args := #[(.tmp 91)], argTypes := #[22] }, ty := 3, guard := none },
  { dst := (some 93), op := .binOp .eql 3 (.tmp 90) (.tmp 92) 3, ty := 4, guard := none },
  { dst := none, op := .store 4 (.tmp 4) (.tmp 93), ty := 0, guard := none }]
def c4_64 : AC := .region o4_64 []
theorem n4_64 : Run Cx 4 T ds ro (.code c4_64 :: k) H Q = RunOps Cx 4 T ds ro o4_64 k H Q := run_region
def c4_65 : AC := .ret
theorem n4_65 : Run Cx 4 T [] none (.code c4_65 :: k) H Q = RunRes Cx T H Q (resOf Cx 4) := run_ret
def c4_63 : AC := .seq c4_64 c4_65
theorem n4_63 : Run Cx 4 T ds ro (.code c4_63 :: k) H Q = Run Cx 4 T ds ro (.code c4_64 :: .code c4_65 :: k) H Q := run_seq
def c4_14 : AC := .seq c4_15 c4_63
theorem n4_14 : Run Cx 4 T ds ro (.code c4_14 :: k) H Q = Run Cx 4 T ds ro (.code c4_15 :: .code c4_63 :: k) H Q := run_seq
def c4_12 : AC := .seq c4_13 c4_14
theorem n4_12 : Run Cx 4 T ds ro (.code c4_12 :: k) H Q = Run Cx 4 T ds ro (.code c4_13 :: .code c4_14 :: k) H Q := run_seq
def c4_10 : AC := .seq c4_11 c4_12
theorem n4_10 : Run Cx 4 T ds ro (.code c4_10 :: k) H Q = Run Cx 4 T ds ro (.code c4_11 :: .code c4_12 :: k) H Q := run_seq
def c4_2 : AC := .seq c4_3 c4_10
theorem n4_2 : Run Cx 4 T ds ro (.code c4_2 :: k) H Q = Run Cx 4 T ds ro (.code c4_3 :: .code c4_10 :: k) H Q := run_seq
def c4_0 : AC := .seq c4_1 c4_2
theorem n4_0 : Run Cx 4 T ds ro (.code c4_0 :: k) H Q = Run Cx 4 T ds ro (.code c4_1 :: .code c4_2 :: k) H Q := run_seq
theorem body4 : bodyOf Cx 4 = some c4_0 := by kernel_rfl
theorem res4 : resOf Cx 4 = some [.cell 4 4] := by kernel_rfl
theorem pure4 : Cx.pure 4 = true := by kernel_rfl
-- RULES 4: n4_0, n4_1, n4_2, n4_3, n4_4, n4_5, n4_6, n4_7, n4_8, n4_9, n4_10, n4_11, n4_12, n4_13, n4_14, n4_15, n4_16, n4_17, n4_18, n4_19, n4_20, n4_21, n4_22, n4_23, n4_24, n4_25, n4_26, n4_27, n4_28, n4_29, n4_30, n4_31, n4_32, n4_33, n4_34, n4_35, n4_36, n4_37, n4_38, n4_39, n4_40, n4_41, n4_42, n4_43, n4_44, n4_45, n4_46, n4_47, n4_48, n4_49, n4_50, n4_51, n4_52, n4_53, n4_54, n4_55, n4_56, n4_57, n4_58, n4_59, n4_60, n4_61, n4_62, n4_63, n4_64, n4_65
def o5_1 : List AO := [{ dst := (some 6), op := .assign (.const (.bool false)), ty := 4, guard := none }]
def c5_1 : AC := .region o5_1 []
theorem n5_1 : Run Cx 5 T ds ro (.code c5_1 :: k) H Q = RunOps Cx 5 T ds ro o5_1 k H Q := run_region
def o5_4 : List AO := [{ dst := (some 11), op := .call { callee := (.value (.func 6)), args := #[], argTypes := #[] }, ty := 4, guard := none },
  { dst := (some 12), op := .unOp .not 4 (.tmp 11), ty := 4, guard := none },
  { dst := (some 13), op := .move (.tmp 12), ty := 4, guard := none },
  { dst := (some 14), op := .move (.tmp 0), ty := 22, guard := (some (13, false)) },
  { dst := (some 15), op := .call { callee := (.value (.func 7)), args := #[(.tmp 14)], argTypes := #[22] }, ty := 3, guard := (some (13, false)) },
  { dst := (some 16), op := .binOp .eql 3 (.tmp 15) (.const (.int .i64 0)) 3, ty := 4, guard := (some (13, false)) },
  { dst := (some 17), op := .pick (.tmp 13) (.const (.bool true)) (.tmp 16), ty := 4, guard := none },
  { dst := (some 18), op := .move (.tmp 17), ty := 4, guard := none },
  { dst := (some 19), op := .move (.tmp 1), ty := 22, guard := (some (18, false)) },
  { dst := (some 20), op := .call { callee := (.value (.func 7)), args := #[(.tmp 19)], argTypes := #[22] }, ty := 3, guard := (some (18, false)) },
  { dst := (some 21), op := .binOp .eql 3 (.tmp 20) (.const (.int .i64 0)) 3, ty := 4, guard := (some (18, false)) },
  { dst := (some 22), op := .pick (.tmp 18) (.const (.bool true)) (.tmp 21), ty := 4, guard := none },
  { dst := (some 23), op := .move (.tmp 22), ty := 4, guard := none },
  { dst := (some 24), op := .move (.tmp 2), ty := 22, guard := (some (23, false)) },
  { dst := (some 25), op := .call { callee := (.value (.func 7)), args := #[(.tmp 24)], argTypes := #[22] }, ty := 3, guard := (some (23, false)) },
  { dst := (some 26), op := .binOp .eql 3 (.tmp 25) (.const (.int .i64 0)) 3, ty := 4, guard := (some (23, false)) },
  { dst := (some 27), op := .pick (.tmp 23) (.const (.bool true)) (.tmp 26), ty := 4, guard := none }]
def c5_4 : AC := .region o5_4 []
theorem n5_4 : Run Cx 5 T ds ro (.code c5_4 :: k) H Q = RunOps Cx 5 T ds ro o5_4 k H Q := run_region
def o5_7 : List AO := [{ dst := (some 28), op := .call { callee := (.value (.func 6)), args := #[], argTypes := #[] }, ty := 4, guard := none },
  { dst := (some 6), op := .assign (.tmp 28), ty := 4, guard := none }]
def c5_7 : AC := .region o5_7 []
theorem n5_7 : Run Cx 5 T ds ro (.code c5_7 :: k) H Q = RunOps Cx 5 T ds ro o5_7 k H Q := run_region
def c5_8 : AC := .ret
theorem n5_8 : Run Cx 5 T [] none (.code c5_8 :: k) H Q = RunRes Cx T H Q (resOf Cx 5) := run_ret
def c5_6 : AC := .seq c5_7 c5_8
theorem n5_6 : Run Cx 5 T ds ro (.code c5_6 :: k) H Q = Run Cx 5 T ds ro (.code c5_7 :: .code c5_8 :: k) H Q := run_seq
def c5_9 : AC := .skip
theorem n5_9 : Run Cx 5 T ds ro (.code c5_9 :: k) H Q = Run Cx 5 T ds ro (k) H Q := run_skip
def c5_5 : AC := .cond (.tmp 27) c5_6 c5_9
theorem n5_5 : Run Cx 5 T ds ro (.code c5_5 :: k) H Q = RunCond Cx 5 T ds ro (.tmp 27) (ev T (.tmp 27)) c5_6 c5_9 k H Q := run_condC
def c5_3 : AC := .seq c5_4 c5_5
theorem n5_3 : Run Cx 5 T ds ro (.code c5_3 :: k) H Q = Run Cx 5 T ds ro (.code c5_4 :: .code c5_5 :: k) H Q := run_seq
def o5_11 : List AO := [{ dst := (some 7), op := .assign (.const (.slice none 0 0)), ty := 22, guard := none }]
def c5_11 : AC := .region o5_11 []
theorem n5_11 : Run Cx 5 T ds ro (.code c5_11 :: k) H Q = RunOps Cx 5 T ds ro o5_11 k H Q := run_region
def o5_13 : List AO := [{ dst := (some 29), op := .move (.tmp 7), ty := 22, guard := none },
  { dst := (some 30), op := .move (.tmp 0), ty := 22, guard := none },
  { dst := (some 31), op := .call { callee := (.builtin .append), args := #[(.tmp 29), (.tmp 30)], argTypes := #[22, 22] }, ty := 22, guard := none },
  { dst := (some 32), op := .move (.tmp 1), ty := 22, guard := none },
  { dst := (some 33), op := .call { callee := (.builtin .append), args := #[(.tmp 31), (.tmp 32)], argTypes := #[22, 22] }, ty := 22, guard := none },
  { dst := (some 34), op := .move (.tmp 2), ty := 22, guard := none },
  { dst := (some 35), op := .call { callee := (.builtin .append), args := #[(.tmp 33), (.tmp 34)], argTypes := #[22, 22] }, ty := 22, guard := none },
  { dst := (some 7), op := .assign (.tmp 35), ty := 22, guard := none }]
def c5_13 : AC := .region o5_13 []
theorem n5_13 : Run Cx 5 T ds ro (.code c5_13 :: k) H Q = RunOps Cx 5 T ds ro o5_13 k H Q := run_region
def o5_15 : List AO := [{ dst := (some 36), op := .move (.tmp 7), ty := 22, guard := none },
  { dst := (some 37), op := .call { callee := (.value (.func 8)), args := #[(.tmp 36)], argTypes := #[22] }, ty := 22, guard := none },
  { dst := (some 8), op := .assign (.tmp 37), ty := 22, guard := none }]
def c5_15 : AC := .region o5_15 []
theorem n5_15 : Run Cx 5 T ds ro (.code c5_15 :: k) H Q = RunOps Cx 5 T ds ro o5_15 k H Q := run_region
def o5_17 : List AO := [{ dst := (some 38), op := .move (.tmp 0), ty := 22, guard := none },
  { dst := (some 39), op := .call { callee := (.value (.func 8)), args := #[(.tmp 38)], argTypes := #[22] }, ty := 22, guard := none },
  { dst := (some 40), op := .move (.tmp 1), ty := 22, guard := none },
  { dst := (some 41), op := .call { callee := (.value (.func 8)), args := #[(.tmp 40)], argTypes := #[22] }, ty := 22, guard := none },
  { dst := (some 42), op := .move (.tmp 2), ty := 22, guard := none },
  { dst := (some 43), op := .call { callee := (.value (.func 8)), args := #[(.tmp 42)], argTypes := #[22] }, ty := 22, guard := none },
  { dst := (some 44), op := .buildSlice 45 3 #[(0, (.tmp 39)), (1, (.tmp 41)), (2, (.tmp 43))], ty := 45, guard := none },
  { dst := (some 45), op := .call { callee := (.value (.func 12)), args := #[(.tmp 44)], argTypes := #[45] }, ty := 22, guard := none },
  { dst := (some 9), op := .assign (.tmp 45), ty := 22, guard := none }]
def c5_17 : AC := .region o5_17 []
theorem n5_17 : Run Cx 5 T ds ro (.code c5_17 :: k) H Q = RunOps Cx 5 T ds ro o5_17 k H Q := run_region
def o5_19 : List AO := [{ dst := (some 46), op := .move (.tmp 0), ty := 22, guard := none },
  { dst := (some 47), op := .move (.tmp 1), ty := 22, guard := none },
  { dst := (some 48), op := .buildSlice 45 2 #[(0, (.tmp 46)), (1, (.tmp 47))], ty := 45, guard := none },
  { dst := (some 49), op := .call { callee := (.value (.func 12)), args := #[(.tmp 48)], argTypes := #[45] }, ty := 22, guard := none },
  { dst := (some 50), op := .move (.tmp 2), ty := 22, guard := none },
  { dst := (some 51), op := .buildSlice 45 2 #[(0, (.tmp 49)), (1, (.tmp 50))], ty := 45, guard := none },
  { dst := (some 52), op := .call { callee := (.value (.func 12)), args := #[(.tmp 51)], argTypes := #[45] }, ty := 22, guard := none },
  { dst := (some 10), op := .assign (.tmp 52), ty := 22, guard := none }]
def c5_19 : AC := .region o5_19 []
theorem n5_19 : Run Cx 5 T ds ro (.code c5_19 :: k) H Q = RunOps Cx 5 T ds ro o5_19 k H Q := run_region
def o5_21 : List AO := [{ dst := (some 53), op := .move (.tmp 8), ty := 22, guard := none },
  { dst := (some 54), op := .move (.tmp 9), ty := 22, guard := none },
  { dst := (some 55), op := .call { callee := (.value (.func 9)), args := #[(.tmp 53), (.tmp 54)], argTypes := #[22, 22] }, ty := 4, guard := none },
  { dst := (some 56), op := .move (.tmp 55), ty := 4, guard := none },
  { dst := (some 57), op := .move (.tmp 8), ty := 22, guard := (some (56, true)) },
  { dst := (some 58), op := .move (.tmp 10), ty := 22, guard := (some (56, true)) },
  { dst := (some 59), op := .call { callee := (.value (.func 9)), args := #[(.tmp 57), (.tmp 58)], argTypes := #[22, 22] }, ty := 4, guard := (some (56, true)) },
  { dst := (some 60), op := .pick (.tmp 56) (.tmp 59) (.const (.bool false)), ty := 4, guard := none },
  { dst := (some 61), op := .move (.tmp 60), ty := 4, guard := none },
  { dst := (some 62), op := .move (.tmp 8), ty := 22, guard := (some (61, true)) },
  { dst := (some 63), op := .call { callee := (.value (.func 13)), args := #[(.tmp 62)], argTypes := #[22] }, ty := 4, guard := (some (61, true)) },
  { dst := (some 64), op := .pick (.tmp 61) (.tmp 63) (.const (.bool false)), ty := 4, guard := none },
  { dst := (some 65), op := .move (.tmp 64), ty := 4, guard := none },
  { dst := (some 66), op := .move (.tmp 8), ty := 22, guard := (some (65, true)) },
  { dst := (some 67), op := .call { callee := (.builtin .len), args := #[(.tmp 66)], argTypes := #[22] }, ty := 3, guard := (some (65, true)) },
  { dst := (some 68), op := .move (.tmp 7), ty := 22, guard := (some (65, true)) },
  { dst := (some 69), op := .call { callee := (.builtin .len), args := #[(.tmp 68)], argTypes := #[22] }, ty := 3, guard := (some (65, true)) },
  { dst := (some 70), op := .binOp .eql 3 (.tmp 67) (.tmp 69) 3, ty := 4, guard := (some (65, true)) },
  { dst := (some 71), op := .pick (.tmp 65) (.tmp 70) (.const (.bool false)), ty := 4, guard := none },
  { dst := (some 72), op := .move (.tmp 71), ty := 4, guard := none },
  { dst := (some 73), op := .move (.tmp 7), ty := 22, guard := (some (72, true)) },
  { dst := (some 74), op := .call { callee := (.value (.func 13)), args := #[(.tmp 73)], argTypes := #[22] }, ty := 4, guard := (some (72, true)) },
  { dst := (some 75), op := .unOp .not 4 (.tmp 74), ty := 4, guard := (some (72, true)) },
  { dst := (some 76), op := .move (.tmp 75), ty := 4, guard := (some (72, true)) },
  { dst := (some 77), op := .move (.tmp 8), ty := 22, guard := (some (76, false)) },
  { dst := (some 78), op := .move (.tmp 7), ty := 22, guard := (some (76, false)) },
  { dst := (some 79), op := .call { callee := (.value (.func 9)), args := #[(.tmp 77), (.tmp 78)], argTypes := #[22, 22] }, ty := 4, guard := (some (76, false)) },
  { dst := (some 80), op := .pick (.tmp 76) (.const (.bool true)) (.tmp 79), ty := 4, guard := (some (72, true)) },
  { dst := (some 81), op := .pick (.tmp 72) (.tmp 80) (.const (.bool false)), ty := 4, guard := none },
  { dst := (some 6), op := .assign (.tmp 81), ty := 4, guard := none }]
def c5_21 : AC := .region o5_21 []
theorem n5_21 : Run Cx 5 T ds ro (.code c5_21 :: k) H Q = RunOps Cx 5 T ds ro o5_21 k H Q := run_region
def c5_22 : AC := .ret
theorem n5_22 : Run Cx 5 T [] none (.code c5_22 :: k) H Q = RunRes Cx T H Q (resOf Cx 5) := run_ret
def c5_20 : AC := .seq c5_21 c5_22
theorem n5_20 : Run Cx 5 T ds ro (.code c5_20 :: k) H Q = Run Cx 5 T ds ro (.code c5_21 :: .code c5_22 :: k) H Q := run_seq
def c5_18 : AC := .seq c5_19 c5_20
theorem n5_18 : Run Cx 5 T ds ro (.code c5_18 :: k) H Q = Run Cx 5 T ds ro (.code c5_19 :: .code c5_20 :: k) H Q := run_seq
def c5_16 : AC := .seq c5_17 c5_18
theorem n5_16 : Run Cx 5 T ds ro (.code c5_16 :: k) H Q = Run Cx 5 T ds ro (.code c5_17 :: .code c5_18 :: k) H Q := run_seq
def c5_14 : AC := .seq c5_15 c5_16
theorem n5_14 : Run Cx 5 T ds ro (.code c5_14 :: k) H Q = Run Cx 5 T ds ro (.code c5_15 :: .code c5_16 :: k) H Q := run_seq
def c5_12 : AC := .seq c5_13 c5_14
theorem n5_12 : Run Cx 5 T ds ro (.code c5_12 :: k) H Q = Run Cx 5 T ds ro (.code c5_13 :: .code c5_14 :: k) H Q := run_seq
def c5_10 : AC := .seq c5_11 c5_12
theorem n5_10 : Run Cx 5 T ds ro (.code c5_10 :: k) H Q = Run Cx 5 T ds ro (.code c5_11 :: .code c5_12 :: k) H Q := run_seq
def c5_2 : AC := .seq c5_3 c5_10
theorem n5_2 : Run Cx 5 T ds ro (.code c5_2 :: k) H Q = Run Cx 5 T ds ro (.code c5_3 :: .code c5_10 :: k) H Q := run_seq
def c5_0 : AC := .seq c5_1 c5_2
theorem n5_0 : Run Cx 5 T ds ro (.code c5_0 :: k) H Q = Run Cx 5 T ds ro (.code c5_1 :: .code c5_2 :: k) H Q := run_seq
theorem body5 : bodyOf Cx 5 = some c5_0 := by kernel_rfl
theorem res5 : resOf Cx 5 = some [.tmp 6] := by kernel_rfl
theorem pure5 : Cx.pure 5 = true := by kernel_rfl
-- RULES 5: n5_0, n5_1, n5_2, n5_3, n5_4, n5_5, n5_6, n5_7, n5_8, n5_9, n5_10, n5_11, n5_12, n5_13, n5_14, n5_15, n5_16, n5_17, n5_18, n5_19, n5_20, n5_21, n5_22
def o6_1 : List AO := [{ dst := (some 0), op := .assign (.const (.bool false)), ty := 4, guard := none }]
def c6_1 : AC := .region o6_1 []
theorem n6_1 : Run Cx 6 T ds ro (.code c6_1 :: k) H Q = RunOps Cx 6 T ds ro o6_1 k H Q := run_region
def o6_3 : List AO := [{ dst := (some 2), op := .build 26 #[(1, (.const (.int .i64 1)))], ty := 26, guard := none },
  { dst := (some 3), op := .build 28 #[(0, (.const (.string ⟨#[98]⟩))), (1, (.tmp 2))], ty := 28, guard := none },
  { dst := (some 4), op := .build 26 #[(1, (.const (.int .i64 2)))], ty := 26, guard := none },
  { dst := (some 5), op := .build 28 #[(0, (.const (.string ⟨#[97]⟩))), (1, (.tmp 4))], ty := 28, guard := none },
  { dst := (some 6), op := .build 28 #[(0, (.const (.string ⟨#[98]⟩)))], ty := 28, guard := none },
  { dst := (some 7), op := .buildSlice 22 3 #[(0, (.tmp 3)), (1, (.tmp 5)), (2, (.tmp 6))], ty := 22, guard := none },
  { dst := (some 8), op := .call { callee := (.value (.func 8)), args := #[(.tmp 7)], argTypes := #[22] }, ty := 22, guard := none },
  { dst := (some 1), op := .assign (.tmp 8), ty := 22, guard := none }]
def c6_3 : AC := .region o6_3 []
theorem n6_3 : Run Cx 6 T ds ro (.code c6_3 :: k) H Q = RunOps Cx 6 T ds ro o6_3 k H Q := run_region
def o6_5 : List AO := [{ dst := (some 9), op := .move (.tmp 1), ty := 22, guard := none },
  { dst := (some 10), op := .call { callee := (.builtin .len), args := #[(.tmp 9)], argTypes := #[22] }, ty := 3, guard := none },
  { dst := (some 11), op := .binOp .eql 3 (.tmp 10) (.const (.int .i64 3)) 3, ty := 4, guard := none },
  { dst := (some 12), op := .move (.tmp 11), ty := 4, guard := none },
  { dst := (some 13), op := .move (.tmp 1), ty := 22, guard := (some (12, true)) },
  { dst := (some 14), op := .indexAddr 22 (.tmp 13) (.const (.int .i64 0)), ty := 0, guard := (some (12, true)) },
  { dst := (some 15), op := .fieldAddr 28 (.tmp 14) 0, ty := 0, guard := (some (12, true)) },
  { dst := (some 16), op := .load 9 (.tmp 15), ty := 9, guard := (some (12, true)) },
  { dst := (some 17), op := .binOp .eql 9 (.tmp 16) (.const (.string ⟨#[97]⟩)) 9, ty := 4, guard := (some (12, true)) },
  { dst := (some 18), op := .pick (.tmp 12) (.tmp 17) (.const (.bool false)), ty := 4, guard := none },
  { dst := (some 19), op := .move (.tmp 18), ty := 4, guard := none },
  { dst := (some 20), op := .move (.tmp 1), ty := 22, guard := (some (19, true)) },
  { dst := (some 21), op := .indexAddr 22 (.tmp 20) (.const (.int .i64 1)), ty := 0, guard := (some (19, true)) },
  { dst := (some 22), op := .fieldAddr 28 (.tmp 21) 1, ty := 0, guard := (some (19, true)) },
  { dst := (some 23), op := .fieldAddr 26 (.tmp 22) 1, ty := 0, guard := (some (19, true)) },
  { dst := (some 24), op := .load 3 (.tmp 23), ty := 3, guard := (some (19, true)) },
  { dst := (some 25), op := .binOp .eql 3 (.tmp 24) (.const (.int .i64 1)) 3, ty := 4, guard := (some (19, true)) },
  { dst := (some 26), op := .pick (.tmp 19) (.tmp 25) (.const (.bool false)), ty := 4, guard := none },
  { dst := (some 27), op := .move (.tmp 26), ty := 4, guard := none },
  { dst := (some 28), op := .move (.tmp 1), ty := 22, guard := (some (27, true)) },
  { dst := (some 29), op := .indexAddr 22 (.tmp 28) (.const (.int .i64 2)), ty := 0, guard := (some (27, true)) },
  { dst := (some 30), op := .fieldAddr 28 (.tmp 29) 1, ty := 0, guard := (some (27, true)) },
  { dst := (some 31), op := .fieldAddr 26 (.tmp 30) 1, ty := 0, guard := (some (27, true)) },
  { dst := (some 32), op := .load 3 (.tmp 31), ty := 3, guard := (some (27, true)) },
  { dst := (some 33), op := .binOp .eql 3 (.tmp 32) (.const (.int .i64 0)) 3, ty := 4, guard := (some (27, true)) },
  { dst := (some 34), op := .pick (.tmp 27) (.tmp 33) (.const (.bool false)), ty := 4, guard := none },
  { dst := (some 0), op := .assign (.tmp 34), ty := 4, guard := none }]
def c6_5 : AC := .region o6_5 []
theorem n6_5 : Run Cx 6 T ds ro (.code c6_5 :: k) H Q = RunOps Cx 6 T ds ro o6_5 k H Q := run_region
def c6_6 : AC := .ret
theorem n6_6 : Run Cx 6 T [] none (.code c6_6 :: k) H Q = RunRes Cx T H Q (resOf Cx 6) := run_ret
def c6_4 : AC := .seq c6_5 c6_6
theorem n6_4 : Run Cx 6 T ds ro (.code c6_4 :: k) H Q = Run Cx 6 T ds ro (.code c6_5 :: .code c6_6 :: k) H Q := run_seq
def c6_2 : AC := .seq c6_3 c6_4
theorem n6_2 : Run Cx 6 T ds ro (.code c6_2 :: k) H Q = Run Cx 6 T ds ro (.code c6_3 :: .code c6_4 :: k) H Q := run_seq
def c6_0 : AC := .seq c6_1 c6_2
theorem n6_0 : Run Cx 6 T ds ro (.code c6_0 :: k) H Q = Run Cx 6 T ds ro (.code c6_1 :: .code c6_2 :: k) H Q := run_seq
theorem body6 : bodyOf Cx 6 = some c6_0 := by kernel_rfl
theorem res6 : resOf Cx 6 = some [.tmp 0] := by kernel_rfl
theorem pure6 : Cx.pure 6 = true := by kernel_rfl
-- RULES 6: n6_0, n6_1, n6_2, n6_3, n6_4, n6_5, n6_6
def o7_1 : List AO := [{ dst := (some 2), op := .assign (.const (.int .i64 0)), ty := 3, guard := none }]
def c7_1 : AC := .region o7_1 []
theorem n7_1 : Run Cx 7 T ds ro (.code c7_1 :: k) H Q = RunOps Cx 7 T ds ro o7_1 k H Q := run_region
def o7_3 : List AO := [{ dst := (some 3), op := .assign (.const (.int .i64 0)), ty := 3, guard := none }]
def c7_3 : AC := .region o7_3 []
theorem n7_3 : Run Cx 7 T ds ro (.code c7_3 :: k) H Q = RunOps Cx 7 T ds ro o7_3 k H Q := run_region
def o7_6 : List AO := [{ dst := (some 4), op := .assign (.const (.int .i64 0)), ty := 3, guard := none }]
def c7_6 : AC := .region o7_6 []
theorem n7_6 : Run Cx 7 T ds ro (.code c7_6 :: k) H Q = RunOps Cx 7 T ds ro o7_6 k H Q := run_region
def o7_11 : List AO := [{ dst := (some 5), op := .move (.tmp 4), ty := 3, guard := none },
  { dst := (some 6), op := .move (.tmp 0), ty := 22, guard := none },
  { dst := (some 7), op := .call { callee := (.builtin .len), args := #[(.tmp 6)], argTypes := #[22] }, ty := 3, guard := none },
  { dst := (some 8), op := .binOp .lss 3 (.tmp 5) (.tmp 7) 3, ty := 4, guard := none },
  { dst := (some 9), op := .move (.tmp 8), ty := 4, guard := none },
  { dst := (some 10), op := .move (.tmp 4), ty := 3, guard := (some (9, true)) },
  { dst := (some 11), op := .binOp .leq 3 (.tmp 10) (.const (.int .i64 100)) 3, ty := 4, guard := (some (9, true)) },
  { dst := (some 12), op := .pick (.tmp 9) (.tmp 11) (.const (.bool false)), ty := 4, guard := none }]
def c7_11 : AC := .region o7_11 []
theorem n7_11 : Run Cx 7 T ds ro (.code c7_11 :: k) H Q = RunOps Cx 7 T ds ro o7_11 k H Q := run_region
def c7_13 : AC := .skip
theorem n7_13 : Run Cx 7 T ds ro (.code c7_13 :: k) H Q = Run Cx 7 T ds ro (k) H Q := run_skip
def c7_14 : AC := .exit 0
theorem n7_14 : Run Cx 7 T ds ro (.code c7_14 :: k) H Q = RunExit Cx 7 T ds ro 0 k k H Q := run_exit_start
def c7_12 : AC := .cond (.tmp 12) c7_13 c7_14
theorem n7_12 : Run Cx 7 T ds ro (.code c7_12 :: k) H Q = RunCond Cx 7 T ds ro (.tmp 12) (ev T (.tmp 12)) c7_13 c7_14 k H Q := run_condC
def c7_10 : AC := .seq c7_11 c7_12
theorem n7_10 : Run Cx 7 T ds ro (.code c7_10 :: k) H Q = Run Cx 7 T ds ro (.code c7_11 :: .code c7_12 :: k) H Q := run_seq
def o7_17 : List AO := [{ dst := (some 15), op := .move (.tmp 3), ty := 3, guard := none },
  { dst := (some 16), op := .move (.tmp 0), ty := 22, guard := none },
  { dst := (some 17), op := .move (.tmp 4), ty := 3, guard := none },
  { dst := (some 18), op := .indexAddr 22 (.tmp 16) (.tmp 17), ty := 0, guard := none },
  { dst := (some 19), op := .fieldAddr 28 (.tmp 18) 0, ty := 0, guard := none },
  { dst := (some 20), op := .load 9 (.tmp 19), ty := 9, guard := none },
  { dst := (some 21), op := .call { callee := (.builtin .len), args := #[(.tmp 20)], argTypes := #[9] }, ty := 3, guard := none },
  { dst := (some 22), op := .call { callee := (.builtin .min), args := #[(.tmp 21), (.const (.int .i64 100000))], argTypes := #[3, 3] }, ty := 3, guard := none },
  { dst := (some 23), op := .binOp .add 3 (.tmp 15) (.tmp 22) 3, ty := 3, guard := none },
  { dst := (some 24), op := .move (.tmp 0), ty := 22, guard := none },
  { dst := (some 25), op := .move (.tmp 4), ty := 3, guard := none },
  { dst := (some 26), op := .indexAddr 22 (.tmp 24) (.tmp 25), ty := 0, guard := none },
  { dst := (some 27), op := .fieldAddr 28 (.tmp 26) 1, ty := 0, guard := none },
  { dst := (some 28), op := .fieldAddr 26 (.tmp 27) 2, ty := 0, guard := none },
  { dst := (some 29), op := .load 9 (.tmp 28), ty := 9, guard := none },
  { dst := (some 30), op := .call { callee := (.builtin .len), args := #[(.tmp 29)], argTypes := #[9] }, ty := 3, guard := none },
  { dst := (some 31), op := .call { callee := (.builtin .min), args := #[(.tmp 30), (.const (.int .i64 100000))], argTypes := #[3, 3] }, ty := 3, guard := none },
  { dst := (some 32), op := .binOp .add 3 (.tmp 23) (.tmp 31) 3, ty := 3, guard := none },
  { dst := (some 3), op := .assign (.tmp 32), ty := 3, guard := none }]
def c7_17 : AC := .region o7_17 []
theorem n7_17 : Run Cx 7 T ds ro (.code c7_17 :: k) H Q = RunOps Cx 7 T ds ro o7_17 k H Q := run_region
def c7_16 : AC := .block 1 c7_17
theorem n7_16 : Run Cx 7 T ds ro (.code c7_16 :: k) H Q = Run Cx 7 T ds ro (.code c7_17 :: .inBlock 1 :: k) H Q := run_block
def o7_18 : List AO := [{ dst := (some 13), op := .move (.tmp 4), ty := 3, guard := none },
  { dst := (some 14), op := .binOp .add 3 (.tmp 13) (.const (.int .i64 1)) 3, ty := 3, guard := none },
  { dst := (some 4), op := .assign (.tmp 14), ty := 3, guard := none }]
def c7_18 : AC := .region o7_18 []
theorem n7_18 : Run Cx 7 T ds ro (.code c7_18 :: k) H Q = RunOps Cx 7 T ds ro o7_18 k H Q := run_region
def c7_15 : AC := .seq c7_16 c7_18
theorem n7_15 : Run Cx 7 T ds ro (.code c7_15 :: k) H Q = Run Cx 7 T ds ro (.code c7_16 :: .code c7_18 :: k) H Q := run_seq
def c7_9 : AC := .seq c7_10 c7_15
theorem n7_9 : Run Cx 7 T ds ro (.code c7_9 :: k) H Q = Run Cx 7 T ds ro (.code c7_10 :: .code c7_15 :: k) H Q := run_seq
def c7_8 : AC := .loop c7_9
theorem n7_8 : Run Cx 7 T ds ro (.code c7_8 :: k) H Q = Run Cx 7 T ds ro (.inLoop c7_9 :: k) H Q := run_loop'
def c7_7 : AC := .block 0 c7_8
theorem n7_7 : Run Cx 7 T ds ro (.code c7_7 :: k) H Q = Run Cx 7 T ds ro (.code c7_8 :: .inBlock 0 :: k) H Q := run_block
def c7_5 : AC := .seq c7_6 c7_7
theorem n7_5 : Run Cx 7 T ds ro (.code c7_5 :: k) H Q = Run Cx 7 T ds ro (.code c7_6 :: .code c7_7 :: k) H Q := run_seq
def o7_21 : List AO := [{ dst := (some 33), op := .move (.tmp 0), ty := 22, guard := none },
  { dst := (some 34), op := .call { callee := (.builtin .len), args := #[(.tmp 33)], argTypes := #[22] }, ty := 3, guard := none },
  { dst := (some 35), op := .binOp .gtr 3 (.tmp 34) (.const (.int .i64 100)) 3, ty := 4, guard := none },
  { dst := (some 36), op := .move (.tmp 35), ty := 4, guard := none },
  { dst := (some 37), op := .move (.tmp 3), ty := 3, guard := (some (36, false)) },
  { dst := (some 38), op := .binOp .gtr 3 (.tmp 37) (.const (.int .i64 10000)) 3, ty := 4, guard := (some (36, false)) },
  { dst := (some 39), op := .pick (.tmp 36) (.const (.bool true)) (.tmp 38), ty := 4, guard := none }]
def c7_21 : AC := .region o7_21 []
theorem n7_21 : Run Cx 7 T ds ro (.code c7_21 :: k) H Q = RunOps Cx 7 T ds ro o7_21 k H Q := run_region
def o7_24 : List AO := [{ dst := (some 2), op := .assign (.const (.int .i64 0)), ty := 3, guard := none }]
def c7_24 : AC := .region o7_24 []
theorem n7_24 : Run Cx 7 T ds ro (.code c7_24 :: k) H Q = RunOps Cx 7 T ds ro o7_24 k H Q := run_region
def c7_25 : AC := .ret
theorem n7_25 : Run Cx 7 T [] none (.code c7_25 :: k) H Q = RunRes Cx T H Q (resOf Cx 7) := run_ret
def c7_23 : AC := .seq c7_24 c7_25
theorem n7_23 : Run Cx 7 T ds ro (.code c7_23 :: k) H Q = Run Cx 7 T ds ro (.code c7_24 :: .code c7_25 :: k) H Q := run_seq
def c7_26 : AC := .skip
theorem n7_26 : Run Cx 7 T ds ro (.code c7_26 :: k) H Q = Run Cx 7 T ds ro (k) H Q := run_skip
def c7_22 : AC := .cond (.tmp 39) c7_23 c7_26
theorem n7_22 : Run Cx 7 T ds ro (.code c7_22 :: k) H Q = RunCond Cx 7 T ds ro (.tmp 39) (ev T (.tmp 39)) c7_23 c7_26 k H Q := run_condC
def c7_20 : AC := .seq c7_21 c7_22
theorem n7_20 : Run Cx 7 T ds ro (.code c7_20 :: k) H Q = Run Cx 7 T ds ro (.code c7_21 :: .code c7_22 :: k) H Q := run_seq
def o7_28 : List AO := [{ dst := (some 2), op := .assign (.const (.int .i64 1)), ty := 3, guard := none }]
def c7_28 : AC := .region o7_28 []
theorem n7_28 : Run Cx 7 T ds ro (.code c7_28 :: k) H Q = RunOps Cx 7 T ds ro o7_28 k H Q := run_region
def c7_29 : AC := .ret
theorem n7_29 : Run Cx 7 T [] none (.code c7_29 :: k) H Q = RunRes Cx T H Q (resOf Cx 7) := run_ret
def c7_27 : AC := .seq c7_28 c7_29
theorem n7_27 : Run Cx 7 T ds ro (.code c7_27 :: k) H Q = Run Cx 7 T ds ro (.code c7_28 :: .code c7_29 :: k) H Q := run_seq
def c7_19 : AC := .seq c7_20 c7_27
theorem n7_19 : Run Cx 7 T ds ro (.code c7_19 :: k) H Q = Run Cx 7 T ds ro (.code c7_20 :: .code c7_27 :: k) H Q := run_seq
def c7_4 : AC := .seq c7_5 c7_19
theorem n7_4 : Run Cx 7 T ds ro (.code c7_4 :: k) H Q = Run Cx 7 T ds ro (.code c7_5 :: .code c7_19 :: k) H Q := run_seq
def c7_2 : AC := .seq c7_3 c7_4
theorem n7_2 : Run Cx 7 T ds ro (.code c7_2 :: k) H Q = Run Cx 7 T ds ro (.code c7_3 :: .code c7_4 :: k) H Q := run_seq
def c7_0 : AC := .seq c7_1 c7_2
theorem n7_0 : Run Cx 7 T ds ro (.code c7_0 :: k) H Q = Run Cx 7 T ds ro (.code c7_1 :: .code c7_2 :: k) H Q := run_seq
theorem body7 : bodyOf Cx 7 = some c7_0 := by kernel_rfl
theorem res7 : resOf Cx 7 = some [.tmp 2] := by kernel_rfl
theorem pure7 : Cx.pure 7 = true := by kernel_rfl
-- RULES 7: n7_0, n7_1, n7_2, n7_3, n7_4, n7_5, n7_6, n7_7, n7_8, n7_9, n7_10, n7_11, n7_12, n7_13, n7_14, n7_15, n7_16, n7_17, n7_18, n7_19, n7_20, n7_21, n7_22, n7_23, n7_24, n7_25, n7_26, n7_27, n7_28, n7_29
def o8_1 : List AO := [{ dst := (some 2), op := .assign (.const (.slice none 0 0)), ty := 22, guard := none }]
def c8_1 : AC := .region o8_1 []
theorem n8_1 : Run Cx 8 T ds ro (.code c8_1 :: k) H Q = RunOps Cx 8 T ds ro o8_1 k H Q := run_region
def o8_3 : List AO := [{ dst := (some 4), op := .move (.tmp 0), ty := 22, guard := none },
  { dst := (some 5), op := .call { callee := (.value (.func 14)), args := #[(.tmp 4)], argTypes := #[22] }, ty := 22, guard := none },
  { dst := (some 3), op := .assign (.tmp 5), ty := 22, guard := none }]
def c8_3 : AC := .region o8_3 []
theorem n8_3 : Run Cx 8 T ds ro (.code c8_3 :: k) H Q = RunOps Cx 8 T ds ro o8_3 k H Q := run_region
def o8_5 : List AO := [{ dst := (some 6), op := .move (.tmp 3), ty := 22, guard := none },
  { dst := (some 7), op := .call { callee := (.value (.func 15)), args := #[(.tmp 6), (.func 16)], argTypes := #[22, 43] }, ty := 0, guard := none }]
def c8_5 : AC := .region o8_5 []
theorem n8_5 : Run Cx 8 T ds ro (.code c8_5 :: k) H Q = RunOps Cx 8 T ds ro o8_5 k H Q := run_region
def o8_7 : List AO := [{ dst := (some 8), op := .move (.tmp 3), ty := 22, guard := none },
  { dst := (some 2), op := .assign (.tmp 8), ty := 22, guard := none }]
def c8_7 : AC := .region o8_7 []
theorem n8_7 : Run Cx 8 T ds ro (.code c8_7 :: k) H Q = RunOps Cx 8 T ds ro o8_7 k H Q := run_region
def c8_8 : AC := .ret
theorem n8_8 : Run Cx 8 T [] none (.code c8_8 :: k) H Q = RunRes Cx T H Q (resOf Cx 8) := run_ret
def c8_6 : AC := .seq c8_7 c8_8
theorem n8_6 : Run Cx 8 T ds ro (.code c8_6 :: k) H Q = Run Cx 8 T ds ro (.code c8_7 :: .code c8_8 :: k) H Q := run_seq
def c8_4 : AC := .seq c8_5 c8_6
theorem n8_4 : Run Cx 8 T ds ro (.code c8_4 :: k) H Q = Run Cx 8 T ds ro (.code c8_5 :: .code c8_6 :: k) H Q := run_seq
def c8_2 : AC := .seq c8_3 c8_4
theorem n8_2 : Run Cx 8 T ds ro (.code c8_2 :: k) H Q = Run Cx 8 T ds ro (.code c8_3 :: .code c8_4 :: k) H Q := run_seq
def c8_0 : AC := .seq c8_1 c8_2
theorem n8_0 : Run Cx 8 T ds ro (.code c8_0 :: k) H Q = Run Cx 8 T ds ro (.code c8_1 :: .code c8_2 :: k) H Q := run_seq
theorem body8 : bodyOf Cx 8 = some c8_0 := by kernel_rfl
theorem res8 : resOf Cx 8 = some [.tmp 2] := by kernel_rfl
theorem pure8 : Cx.pure 8 = true := by kernel_rfl
-- RULES 8: n8_0, n8_1, n8_2, n8_3, n8_4, n8_5, n8_6, n8_7, n8_8
def o9_1 : List AO := [{ dst := (some 4), op := .assign (.const (.bool false)), ty := 4, guard := none }]
def c9_1 : AC := .region o9_1 []
theorem n9_1 : Run Cx 9 T ds ro (.code c9_1 :: k) H Q = RunOps Cx 9 T ds ro o9_1 k H Q := run_region
def o9_4 : List AO := [{ dst := (some 6), op := .move (.tmp 0), ty := 22, guard := none },
  { dst := (some 7), op := .call { callee := (.builtin .len), args := #[(.tmp 6)], argTypes := #[22] }, ty := 3, guard := none },
  { dst := (some 8), op := .move (.tmp 1), ty := 22, guard := none },
  { dst := (some 9), op := .call { callee := (.builtin .len), args := #[(.tmp 8)], argTypes := #[22] }, ty := 3, guard := none },
  { dst := (some 10), op := .binOp .neq 3 (.tmp 7) (.tmp 9) 3, ty := 4, guard := none }]
def c9_4 : AC := .region o9_4 []
theorem n9_4 : Run Cx 9 T ds ro (.code c9_4 :: k) H Q = RunOps Cx 9 T ds ro o9_4 k H Q := run_region
def o9_7 : List AO := [{ dst := (some 4), op := .assign (.const (.bool false)), ty := 4, guard := none }]
def c9_7 : AC := .region o9_7 []
theorem n9_7 : Run Cx 9 T ds ro (.code c9_7 :: k) H Q = RunOps Cx 9 T ds ro o9_7 k H Q := run_region
def c9_8 : AC := .ret
theorem n9_8 : Run Cx 9 T [] none (.code c9_8 :: k) H Q = RunRes Cx T H Q (resOf Cx 9) := run_ret
def c9_6 : AC := .seq c9_7 c9_8
theorem n9_6 : Run Cx 9 T ds ro (.code c9_6 :: k) H Q = Run Cx 9 T ds ro (.code c9_7 :: .code c9_8 :: k) H Q := run_seq
def c9_9 : AC := .skip
theorem n9_9 : Run Cx 9 T ds ro (.code c9_9 :: k) H Q = Run Cx 9 T ds ro (k) H Q := run_skip
def c9_5 : AC := .cond (.tmp 10) c9_6 c9_9
theorem n9_5 : Run Cx 9 T ds ro (.code c9_5 :: k) H Q = RunCond Cx 9 T ds ro (.tmp 10) (ev T (.tmp 10)) c9_6 c9_9 k H Q := run_condC
def c9_3 : AC := .seq c9_4 c9_5
theorem n9_3 : Run Cx 9 T ds ro (.code c9_3 :: k) H Q = Run Cx 9 T ds ro (.code c9_4 :: .code c9_5 :: k) H Q := run_seq
def o9_12 : List AO := [{ dst := (some 5), op := .assign (.const (.int .i64 0)), ty := 3, guard := none }]
def c9_12 : AC := .region o9_12 []
theorem n9_12 : Run Cx 9 T ds ro (.code c9_12 :: k) H Q = RunOps Cx 9 T ds ro o9_12 k H Q := run_region
def o9_17 : List AO := [{ dst := (some 11), op := .move (.tmp 5), ty := 3, guard := none },
  { dst := (some 12), op := .move (.tmp 0), ty := 22, guard := none },
  { dst := (some 13), op := .call { callee := (.builtin .len), args := #[(.tmp 12)], argTypes := #[22] }, ty := 3, guard := none },
  { dst := (some 14), op := .binOp .lss 3 (.tmp 11) (.tmp 13) 3, ty := 4, guard := none }]
def c9_17 : AC := .region o9_17 []
theorem n9_17 : Run Cx 9 T ds ro (.code c9_17 :: k) H Q = RunOps Cx 9 T ds ro o9_17 k H Q := run_region
def c9_19 : AC := .skip
theorem n9_19 : Run Cx 9 T ds ro (.code c9_19 :: k) H Q = Run Cx 9 T ds ro (k) H Q := run_skip
def c9_20 : AC := .exit 0
theorem n9_20 : Run Cx 9 T ds ro (.code c9_20 :: k) H Q = RunExit Cx 9 T ds ro 0 k k H Q := run_exit_start
def c9_18 : AC := .cond (.tmp 14) c9_19 c9_20
theorem n9_18 : Run Cx 9 T ds ro (.code c9_18 :: k) H Q = RunCond Cx 9 T ds ro (.tmp 14) (ev T (.tmp 14)) c9_19 c9_20 k H Q := run_condC
def c9_16 : AC := .seq c9_17 c9_18
theorem n9_16 : Run Cx 9 T ds ro (.code c9_16 :: k) H Q = Run Cx 9 T ds ro (.code c9_17 :: .code c9_18 :: k) H Q := run_seq
def o9_24 : List AO := [{ dst := (some 17), op := .move (.tmp 0), ty := 22, guard := none },
  { dst := (some 18), op := .move (.tmp 5), ty := 3, guard := none },
  { dst := (some 19), op := .indexAddr 22 (.tmp 17) (.tmp 18), ty := 0, guard := none },
  { dst := (some 20), op := .load 28 (.tmp 19), ty := 28, guard := none },
  { dst := (some 21), op := .move (.tmp 1), ty := 22, guard := none },
  { dst := (some 22), op := .move (.tmp 5), ty := 3, guard := none },
  { dst := (some 23), op := .indexAddr 22 (.tmp 21) (.tmp 22), ty := 0, guard := none },
  { dst := (some 24), op := .load 28 (.tmp 23), ty := 28, guard := none },
  { dst := (some 25), op := .binOp .neq 28 (.tmp 20) (.tmp 24) 28, ty := 4, guard := none }]
def c9_24 : AC := .region o9_24 []
theorem n9_24 : Run Cx 9 T ds ro (.code c9_24 :: k) H Q = RunOps Cx 9 T ds ro o9_24 k H Q := run_region
def o9_27 : List AO := [{ dst := (some 4), op := .assign (.const (.bool false)), ty := 4, guard := none }]
def c9_27 : AC := .region o9_27 []
theorem n9_27 : Run Cx 9 T ds ro (.code c9_27 :: k) H Q = RunOps Cx 9 T ds ro o9_27 k H Q := run_region
def c9_28 : AC := .ret
theorem n9_28 : Run Cx 9 T [] none (.code c9_28 :: k) H Q = RunRes Cx T H Q (resOf Cx 9) := run_ret
def c9_26 : AC := .seq c9_27 c9_28
theorem n9_26 : Run Cx 9 T ds ro (.code c9_26 :: k) H Q = Run Cx 9 T ds ro (.code c9_27 :: .code c9_28 :: k) H Q := run_seq
def c9_29 : AC := .skip
theorem n9_29 : Run Cx 9 T ds ro (.code c9_29 :: k) H Q = Run Cx 9 T ds ro (k) H Q := run_skip
def c9_25 : AC := .cond (.tmp 25) c9_26 c9_29
theorem n9_25 : Run Cx 9 T ds ro (.code c9_25 :: k) H Q = RunCond Cx 9 T ds ro (.tmp 25) (ev T (.tmp 25)) c9_26 c9_29 k H Q := run_condC
def c9_23 : AC := .seq c9_24 c9_25
theorem n9_23 : Run Cx 9 T ds ro (.code c9_23 :: k) H Q = Run Cx 9 T ds ro (.code c9_24 :: .code c9_25 :: k) H Q := run_seq
def c9_22 : AC := .block 1 c9_23
theorem n9_22 : Run Cx 9 T ds ro (.code c9_22 :: k) H Q = Run Cx 9 T ds ro (.code c9_23 :: .inBlock 1 :: k) H Q := run_block
def o9_30 : List AO := [{ dst := (some 15), op := .move (.tmp 5), ty := 3, guard := none },
  { dst := (some 16), op := .binOp .add 3 (.tmp 15) (.const (.int .i64 1)) 3, ty := 3, guard := none },
  { dst := (some 5), op := .assign (.tmp 16), ty := 3, guard := none }]
def c9_30 : AC := .region o9_30 []
theorem n9_30 : Run Cx 9 T ds ro (.code c9_30 :: k) H Q = RunOps Cx 9 T ds ro o9_30 k H Q := run_region
def c9_21 : AC := .seq c9_22 c9_30
theorem n9_21 : Run Cx 9 T ds ro (.code c9_21 :: k) H Q = Run Cx 9 T ds ro (.code c9_22 :: .code c9_30 :: k) H Q := run_seq
def c9_15 : AC := .seq c9_16 c9_21
theorem n9_15 : Run Cx 9 T ds ro (.code c9_15 :: k) H Q = Run Cx 9 T ds ro (.code c9_16 :: .code c9_21 :: k) H Q := run_seq
def c9_14 : AC := .loop c9_15
theorem n9_14 : Run Cx 9 T ds ro (.code c9_14 :: k) H Q = Run Cx 9 T ds ro (.inLoop c9_15 :: k) H Q := run_loop'
def c9_13 : AC := .block 0 c9_14
theorem n9_13 : Run Cx 9 T ds ro (.code c9_13 :: k) H Q = Run Cx 9 T ds ro (.code c9_14 :: .inBlock 0 :: k) H Q := run_block
def c9_11 : AC := .seq c9_12 c9_13
theorem n9_11 : Run Cx 9 T ds ro (.code c9_11 :: k) H Q = Run Cx 9 T ds ro (.code c9_12 :: .code c9_13 :: k) H Q := run_seq
def o9_32 : List AO := [{ dst := (some 4), op := .assign (.const (.bool true)), ty := 4, guard := none }]
def c9_32 : AC := .region o9_32 []
theorem n9_32 : Run Cx 9 T ds ro (.code c9_32 :: k) H Q = RunOps Cx 9 T ds ro o9_32 k H Q := run_region
def c9_33 : AC := .ret
theorem n9_33 : Run Cx 9 T [] none (.code c9_33 :: k) H Q = RunRes Cx T H Q (resOf Cx 9) := run_ret
def c9_31 : AC := .seq c9_32 c9_33
theorem n9_31 : Run Cx 9 T ds ro (.code c9_31 :: k) H Q = Run Cx 9 T ds ro (.code c9_32 :: .code c9_33 :: k) H Q := run_seq
def c9_10 : AC := .seq c9_11 c9_31
theorem n9_10 : Run Cx 9 T ds ro (.code c9_10 :: k) H Q = Run Cx 9 T ds ro (.code c9_11 :: .code c9_31 :: k) H Q := run_seq
def c9_2 : AC := .seq c9_3 c9_10
theorem n9_2 : Run Cx 9 T ds ro (.code c9_2 :: k) H Q = Run Cx 9 T ds ro (.code c9_3 :: .code c9_10 :: k) H Q := run_seq
def c9_0 : AC := .seq c9_1 c9_2
theorem n9_0 : Run Cx 9 T ds ro (.code c9_0 :: k) H Q = Run Cx 9 T ds ro (.code c9_1 :: .code c9_2 :: k) H Q := run_seq
theorem body9 : bodyOf Cx 9 = some c9_0 := by kernel_rfl
theorem res9 : resOf Cx 9 = some [.tmp 4] := by kernel_rfl
theorem pure9 : Cx.pure 9 = true := by kernel_rfl
-- RULES 9: n9_0, n9_1, n9_2, n9_3, n9_4, n9_5, n9_6, n9_7, n9_8, n9_9, n9_10, n9_11, n9_12, n9_13, n9_14, n9_15, n9_16, n9_17, n9_18, n9_19, n9_20, n9_21, n9_22, n9_23, n9_24, n9_25, n9_26, n9_27, n9_28, n9_29, n9_30, n9_31, n9_32, n9_33
def o10_1 : List AO := [{ dst := (some 2), op := .assign (.const (.slice none 0 0)), ty := 22, guard := none }]
def c10_1 : AC := .region o10_1 []
theorem n10_1 : Run Cx 10 T ds ro (.code c10_1 :: k) H Q = RunOps Cx 10 T ds ro o10_1 k H Q := run_region
def o10_3 : List AO := [{ dst := (some 3), op := .assign (.const (.slice none 0 0)), ty := 22, guard := none }]
def c10_3 : AC := .region o10_3 []
theorem n10_3 : Run Cx 10 T ds ro (.code c10_3 :: k) H Q = RunOps Cx 10 T ds ro o10_3 k H Q := run_region
def o10_6 : List AO := [{ dst := (some 4), op := .assign (.const (.int .i64 0)), ty := 3, guard := none }]
def c10_6 : AC := .region o10_6 []
theorem n10_6 : Run Cx 10 T ds ro (.code c10_6 :: k) H Q = RunOps Cx 10 T ds ro o10_6 k H Q := run_region
def o10_11 : List AO := [{ dst := (some 7), op := .move (.tmp 4), ty := 3, guard := none },
  { dst := (some 8), op := .move (.tmp 0), ty := 22, guard := none },
  { dst := (some 9), op := .call { callee := (.builtin .len), args := #[(.tmp 8)], argTypes := #[22] }, ty := 3, guard := none },
  { dst := (some 10), op := .binOp .lss 3 (.tmp 7) (.tmp 9) 3, ty := 4, guard := none }]
def c10_11 : AC := .region o10_11 []
theorem n10_11 : Run Cx 10 T ds ro (.code c10_11 :: k) H Q = RunOps Cx 10 T ds ro o10_11 k H Q := run_region
def c10_13 : AC := .skip
theorem n10_13 : Run Cx 10 T ds ro (.code c10_13 :: k) H Q = Run Cx 10 T ds ro (k) H Q := run_skip
def c10_14 : AC := .exit 0
theorem n10_14 : Run Cx 10 T ds ro (.code c10_14 :: k) H Q = RunExit Cx 10 T ds ro 0 k k H Q := run_exit_start
def c10_12 : AC := .cond (.tmp 10) c10_13 c10_14
theorem n10_12 : Run Cx 10 T ds ro (.code c10_12 :: k) H Q = RunCond Cx 10 T ds ro (.tmp 10) (ev T (.tmp 10)) c10_13 c10_14 k H Q := run_condC
def c10_10 : AC := .seq c10_11 c10_12
theorem n10_10 : Run Cx 10 T ds ro (.code c10_10 :: k) H Q = Run Cx 10 T ds ro (.code c10_11 :: .code c10_12 :: k) H Q := run_seq
def o10_18 : List AO := [{ dst := (some 13), op := .move (.tmp 3), ty := 22, guard := none },
  { dst := (some 14), op := .call { callee := (.builtin .len), args := #[(.tmp 13)], argTypes := #[22] }, ty := 3, guard := none },
  { dst := (some 5), op := .assign (.tmp 14), ty := 3, guard := none }]
def c10_18 : AC := .region o10_18 []
theorem n10_18 : Run Cx 10 T ds ro (.code c10_18 :: k) H Q = RunOps Cx 10 T ds ro o10_18 k H Q := run_region
def o10_24 : List AO := [{ dst := (some 15), op := .move (.tmp 5), ty := 3, guard := none },
  { dst := (some 16), op := .binOp .gtr 3 (.tmp 15) (.const (.int .i64 0)) 3, ty := 4, guard := none },
  { dst := (some 17), op := .move (.tmp 16), ty := 4, guard := none },
  { dst := (some 18), op := .move (.tmp 3), ty := 22, guard := (some (17, true)) },
  { dst := (some 19), op := .move (.tmp 5), ty := 3, guard := (some (17, true)) },
  { dst := (some 20), op := .binOp .sub 3 (.tmp 19) (.const (.int .i64 1)) 3, ty := 3, guard := (some (17, true)) },
  { dst := (some 21), op := .indexAddr 22 (.tmp 18) (.tmp 20), ty := 0, guard := (some (17, true)) },
  { dst := (some 22), op := .fieldAddr 28 (.tmp 21) 0, ty := 0, guard := (some (17, true)) },
  { dst := (some 23), op := .load 9 (.tmp 22), ty := 9, guard := (some (17, true)) },
  { dst := (some 24), op := .move (.tmp 0), ty := 22, guard := (some (17, true)) },
  { dst := (some 25), op := .move (.tmp 4), ty := 3, guard := (some (17, true)) },
  { dst := (some 26), op := .indexAddr 22 (.tmp 24) (.tmp 25), ty := 0, guard := (some (17, true)) },
  { dst := (some 27), op := .fieldAddr 28 (.tmp 26) 0, ty := 0, guard := (some (17, true)) },
  { dst := (some 28), op := .load 9 (.tmp 27), ty := 9, guard := (some (17, true)) },
  { dst := (some 29), op := .binOp .gtr 9 (.tmp 23) (.tmp 28) 9, ty := 4, guard := (some (17, true)) },
  { dst := (some 30), op := .pick (.tmp 17) (.tmp 29) (.const (.bool false)), ty := 4, guard := none }]
def c10_24 : AC := .region o10_24 []
theorem n10_24 : Run Cx 10 T ds ro (.code c10_24 :: k) H Q = RunOps Cx 10 T ds ro o10_24 k H Q := run_region
def c10_26 : AC := .skip
theorem n10_26 : Run Cx 10 T ds ro (.code c10_26 :: k) H Q = Run Cx 10 T ds ro (k) H Q := run_skip
def c10_27 : AC := .exit 2
theorem n10_27 : Run Cx 10 T ds ro (.code c10_27 :: k) H Q = RunExit Cx 10 T ds ro 2 k k H Q := run_exit_start
def c10_25 : AC := .cond (.tmp 30) c10_26 c10_27
theorem n10_25 : Run Cx 10 T ds ro (.code c10_25 :: k) H Q = RunCond Cx 10 T ds ro (.tmp 30) (ev T (.tmp 30)) c10_26 c10_27 k H Q := run_condC
def c10_23 : AC := .seq c10_24 c10_25
theorem n10_23 : Run Cx 10 T ds ro (.code c10_23 :: k) H Q = Run Cx 10 T ds ro (.code c10_24 :: .code c10_25 :: k) H Q := run_seq
def o10_29 : List AO := [{ dst := (some 31), op := .move (.tmp 5), ty := 3, guard := none },
  { dst := (some 32), op := .binOp .sub 3 (.tmp 31) (.const (.int .i64 1)) 3, ty := 3, guard := none },
  { dst := (some 5), op := .assign (.tmp 32), ty := 3, guard := none }]
def c10_29 : AC := .region o10_29 []
theorem n10_29 : Run Cx 10 T ds ro (.code c10_29 :: k) H Q = RunOps Cx 10 T ds ro o10_29 k H Q := run_region
def c10_28 : AC := .block 3 c10_29
theorem n10_28 : Run Cx 10 T ds ro (.code c10_28 :: k) H Q = Run Cx 10 T ds ro (.code c10_29 :: .inBlock 3 :: k) H Q := run_block
def c10_22 : AC := .seq c10_23 c10_28
theorem n10_22 : Run Cx 10 T ds ro (.code c10_22 :: k) H Q = Run Cx 10 T ds ro (.code c10_23 :: .code c10_28 :: k) H Q := run_seq
def c10_21 : AC := .loop c10_22
theorem n10_21 : Run Cx 10 T ds ro (.code c10_21 :: k) H Q = Run Cx 10 T ds ro (.inLoop c10_22 :: k) H Q := run_loop'
def c10_20 : AC := .block 2 c10_21
theorem n10_20 : Run Cx 10 T ds ro (.code c10_20 :: k) H Q = Run Cx 10 T ds ro (.code c10_21 :: .inBlock 2 :: k) H Q := run_block
def o10_31 : List AO := [{ dst := (some 33), op := .move (.tmp 3), ty := 22, guard := none },
  { dst := (some 34), op := .move (.tmp 0), ty := 22, guard := none },
  { dst := (some 35), op := .move (.tmp 4), ty := 3, guard := none },
  { dst := (some 36), op := .indexAddr 22 (.tmp 34) (.tmp 35), ty := 0, guard := none },
  { dst := (some 37), op := .load 28 (.tmp 36), ty := 28, guard := none },
  { dst := (some 38), op := .buildSlice 22 1 #[(0, (.tmp 37))], ty := 22, guard := none },
  { dst := (some 39), op := .call { callee := (.builtin .append), args := #[(.tmp 33), (.tmp 38)], argTypes := #[22, 22] }, ty := 22, guard := none },
  { dst := (some 3), op := .assign (.tmp 39), ty := 22, guard := none }]
def c10_31 : AC := .region o10_31 []
theorem n10_31 : Run Cx 10 T ds ro (.code c10_31 :: k) H Q = RunOps Cx 10 T ds ro o10_31 k H Q := run_region
def o10_34 : List AO := [{ dst := (some 40), op := .move (.tmp 3), ty := 22, guard := none },
  { dst := (some 41), op := .call { callee := (.builtin .len), args := #[(.tmp 40)], argTypes := #[22] }, ty := 3, guard := none },
  { dst := (some 42), op := .binOp .sub 3 (.tmp 41) (.const (.int .i64 1)) 3, ty := 3, guard := none },
  { dst := (some 6), op := .assign (.tmp 42), ty := 3, guard := none }]
def c10_34 : AC := .region o10_34 []
theorem n10_34 : Run Cx 10 T ds ro (.code c10_34 :: k) H Q = RunOps Cx 10 T ds ro o10_34 k H Q := run_region
def o10_39 : List AO := [{ dst := (some 43), op := .move (.tmp 6), ty := 3, guard := none },
  { dst := (some 44), op := .move (.tmp 5), ty := 3, guard := none },
  { dst := (some 45), op := .binOp .gtr 3 (.tmp 43) (.tmp 44) 3, ty := 4, guard := none }]
def c10_39 : AC := .region o10_39 []
theorem n10_39 : Run Cx 10 T ds ro (.code c10_39 :: k) H Q = RunOps Cx 10 T ds ro o10_39 k H Q := run_region
def c10_41 : AC := .skip
theorem n10_41 : Run Cx 10 T ds ro (.code c10_41 :: k) H Q = Run Cx 10 T ds ro (k) H Q := run_skip
def c10_42 : AC := .exit 4
theorem n10_42 : Run Cx 10 T ds ro (.code c10_42 :: k) H Q = RunExit Cx 10 T ds ro 4 k k H Q := run_exit_start
def c10_40 : AC := .cond (.tmp 45) c10_41 c10_42
theorem n10_40 : Run Cx 10 T ds ro (.code c10_40 :: k) H Q = RunCond Cx 10 T ds ro (.tmp 45) (ev T (.tmp 45)) c10_41 c10_42 k H Q := run_condC
def c10_38 : AC := .seq c10_39 c10_40
theorem n10_38 : Run Cx 10 T ds ro (.code c10_38 :: k) H Q = Run Cx 10 T ds ro (.code c10_39 :: .code c10_40 :: k) H Q := run_seq
def o10_45 : List AO := [{ dst := (some 48), op := .move (.tmp 3), ty := 22, guard := none },
  { dst := (some 49), op := .move (.tmp 6), ty := 3, guard := none },
  { dst := (some 50), op := .move (.tmp 3), ty := 22, guard := none },
  { dst := (some 51), op := .move (.tmp 6), ty := 3, guard := none },
  { dst := (some 52), op := .binOp .sub 3 (.tmp 51) (.const (.int .i64 1)) 3, ty := 3, guard := none },
  { dst := (some 53), op := .indexAddr 22 (.tmp 50) (.tmp 52), ty := 0, guard := none },
  { dst := (some 54), op := .load 28 (.tmp 53), ty := 28, guard := none },
  { dst := (some 55), op := .indexAddr 22 (.tmp 48) (.tmp 49), ty := 0, guard := none },
  { dst := none, op := .store 28 (.tmp 55) (.tmp 54), ty := 0, guard := none }]
def c10_45 : AC := .region o10_45 []
theorem n10_45 : Run Cx 10 T ds ro (.code c10_45 :: k) H Q = RunOps Cx 10 T ds ro o10_45 k H Q := run_region
def c10_44 : AC := .block 5 c10_45
theorem n10_44 : Run Cx 10 T ds ro (.code c10_44 :: k) H Q = Run Cx 10 T ds ro (.code c10_45 :: .inBlock 5 :: k) H Q := run_block
def o10_46 : List AO := [{ dst := (some 46), op := .move (.tmp 6), ty := 3, guard := none },
  { dst := (some 47), op := .binOp .sub 3 (.tmp 46) (.const (.int .i64 1)) 3, ty := 3, guard := none },
  { dst := (some 6), op := .assign (.tmp 47), ty := 3, guard := none }]
def c10_46 : AC := .region o10_46 []
theorem n10_46 : Run Cx 10 T ds ro (.code c10_46 :: k) H Q = RunOps Cx 10 T ds ro o10_46 k H Q := run_region
def c10_43 : AC := .seq c10_44 c10_46
theorem n10_43 : Run Cx 10 T ds ro (.code c10_43 :: k) H Q = Run Cx 10 T ds ro (.code c10_44 :: .code c10_46 :: k) H Q := run_seq
def c10_37 : AC := .seq c10_38 c10_43
theorem n10_37 : Run Cx 10 T ds ro (.code c10_37 :: k) H Q = Run Cx 10 T ds ro (.code c10_38 :: .code c10_43 :: k) H Q := run_seq
def c10_36 : AC := .loop c10_37
theorem n10_36 : Run Cx 10 T ds ro (.code c10_36 :: k) H Q = Run Cx 10 T ds ro (.inLoop c10_37 :: k) H Q := run_loop'
def c10_35 : AC := .block 4 c10_36
theorem n10_35 : Run Cx 10 T ds ro (.code c10_35 :: k) H Q = Run Cx 10 T ds ro (.code c10_36 :: .inBlock 4 :: k) H Q := run_block
def c10_33 : AC := .seq c10_34 c10_35
theorem n10_33 : Run Cx 10 T ds ro (.code c10_33 :: k) H Q = Run Cx 10 T ds ro (.code c10_34 :: .code c10_35 :: k) H Q := run_seq
def o10_47 : List AO := [{ dst := (some 56), op := .move (.tmp 3), ty := 22, guard := none },
  { dst := (some 57), op := .move (.tmp 5), ty := 3, guard := none },
  { dst := (some 58), op := .move (.tmp 0), ty := 22, guard := none },
  { dst := (some 59), op := .move (.tmp 4), ty := 3, guard := none },
  { dst := (some 60), op := .indexAddr 22 (.tmp 58) (.tmp 59), ty := 0, guard := none },
  { dst := (some 61), op := .load 28 (.tmp 60), ty := 28, guard := none },
  { dst := (some 62), op := .indexAddr 22 (.tmp 56) (.tmp 57), ty := 0, guard := none },
  { dst := none, op := .store 28 (.tmp 62) (.tmp 61), ty := 0, guard := none }]
def c10_47 : AC := .region o10_47 []
theorem n10_47 : Run Cx 10 T ds ro (.code c10_47 :: k) H Q = RunOps Cx 10 T ds ro o10_47 k H Q := run_region
def c10_32 : AC := .seq c10_33 c10_47
theorem n10_32 : Run Cx 10 T ds ro (.code c10_32 :: k) H Q = Run Cx 10 T ds ro (.code c10_33 :: .code c10_47 :: k) H Q := run_seq
def c10_30 : AC := .seq c10_31 c10_32
theorem n10_30 : Run Cx 10 T ds ro (.code c10_30 :: k) H Q = Run Cx 10 T ds ro (.code c10_31 :: .code c10_32 :: k) H Q := run_seq
def c10_19 : AC := .seq c10_20 c10_30
theorem n10_19 : Run Cx 10 T ds ro (.code c10_19 :: k) H Q = Run Cx 10 T ds ro (.code c10_20 :: .code c10_30 :: k) H Q := run_seq
def c10_17 : AC := .seq c10_18 c10_19
theorem n10_17 : Run Cx 10 T ds ro (.code c10_17 :: k) H Q = Run Cx 10 T ds ro (.code c10_18 :: .code c10_19 :: k) H Q := run_seq
def c10_16 : AC := .block 1 c10_17
theorem n10_16 : Run Cx 10 T ds ro (.code c10_16 :: k) H Q = Run Cx 10 T ds ro (.code c10_17 :: .inBlock 1 :: k) H Q := run_block
def o10_48 : List AO := [{ dst := (some 11), op := .move (.tmp 4), ty := 3, guard := none },
  { dst := (some 12), op := .binOp .add 3 (.tmp 11) (.const (.int .i64 1)) 3, ty := 3, guard := none },
  { dst := (some 4), op := .assign (.tmp 12), ty := 3, guard := none }]
def c10_48 : AC := .region o10_48 []
theorem n10_48 : Run Cx 10 T ds ro (.code c10_48 :: k) H Q = RunOps Cx 10 T ds ro o10_48 k H Q := run_region
def c10_15 : AC := .seq c10_16 c10_48
theorem n10_15 : Run Cx 10 T ds ro (.code c10_15 :: k) H Q = Run Cx 10 T ds ro (.code c10_16 :: .code c10_48 :: k) H Q := run_seq
def c10_9 : AC := .seq c10_10 c10_15
theorem n10_9 : Run Cx 10 T ds ro (.code c10_9 :: k) H Q = Run Cx 10 T ds ro (.code c10_10 :: .code c10_15 :: k) H Q := run_seq
def c10_8 : AC := .loop c10_9
theorem n10_8 : Run Cx 10 T ds ro (.code c10_8 :: k) H Q = Run Cx 10 T ds ro (.inLoop c10_9 :: k) H Q := run_loop'
def c10_7 : AC := .block 0 c10_8
theorem n10_7 : Run Cx 10 T ds ro (.code c10_7 :: k) H Q = Run Cx 10 T ds ro (.code c10_8 :: .inBlock 0 :: k) H Q := run_block
def c10_5 : AC := .seq c10_6 c10_7
theorem n10_5 : Run Cx 10 T ds ro (.code c10_5 :: k) H Q = Run Cx 10 T ds ro (.code c10_6 :: .code c10_7 :: k) H Q := run_seq
def o10_50 : List AO := [{ dst := (some 63), op := .move (.tmp 3), ty := 22, guard := none },
  { dst := (some 2), op := .assign (.tmp 63), ty := 22, guard := none }]
def c10_50 : AC := .region o10_50 []
theorem n10_50 : Run Cx 10 T ds ro (.code c10_50 :: k) H Q = RunOps Cx 10 T ds ro o10_50 k H Q := run_region
def c10_51 : AC := .ret
theorem n10_51 : Run Cx 10 T [] none (.code c10_51 :: k) H Q = RunRes Cx T H Q (resOf Cx 10) := run_ret
def c10_49 : AC := .seq c10_50 c10_51
theorem n10_49 : Run Cx 10 T ds ro (.code c10_49 :: k) H Q = Run Cx 10 T ds ro (.code c10_50 :: .code c10_51 :: k) H Q := run_seq
def c10_4 : AC := .seq c10_5 c10_49
theorem n10_4 : Run Cx 10 T ds ro (.code c10_4 :: k) H Q = Run Cx 10 T ds ro (.code c10_5 :: .code c10_49 :: k) H Q := run_seq
def c10_2 : AC := .seq c10_3 c10_4
theorem n10_2 : Run Cx 10 T ds ro (.code c10_2 :: k) H Q = Run Cx 10 T ds ro (.code c10_3 :: .code c10_4 :: k) H Q := run_seq
def c10_0 : AC := .seq c10_1 c10_2
theorem n10_0 : Run Cx 10 T ds ro (.code c10_0 :: k) H Q = Run Cx 10 T ds ro (.code c10_1 :: .code c10_2 :: k) H Q := run_seq
theorem body10 : bodyOf Cx 10 = some c10_0 := by kernel_rfl
theorem res10 : resOf Cx 10 = some [.tmp 2] := by kernel_rfl
theorem pure10 : Cx.pure 10 = true := by kernel_rfl
-- RULES 10: n10_0, n10_1, n10_2, n10_3, n10_4, n10_5, n10_6, n10_7, n10_8, n10_9, n10_10, n10_11, n10_12, n10_13, n10_14, n10_15, n10_16, n10_17, n10_18, n10_19, n10_20, n10_21, n10_22, n10_23, n10_24, n10_25, n10_26, n10_27, n10_28, n10_29, n10_30, n10_31, n10_32, n10_33, n10_34, n10_35, n10_36, n10_37, n10_38, n10_39, n10_40, n10_41, n10_42, n10_43, n10_44, n10_45, n10_46, n10_47, n10_48, n10_49, n10_50, n10_51
def o11_1 : List AO := [{ dst := (some 1), op := .box 22 (.tmp 0), ty := 0, guard := none },
  { dst := (some 2), op := .assign (.const .nilFunc), ty := 35, guard := none }]
def c11_1 : AC := .region o11_1 []
theorem n11_1 : Run Cx 11 T ds ro (.code c11_1 :: k) H Q = RunOps Cx 11 T ds ro o11_1 k H Q := run_region
def o11_3 : List AO := [{ dst := (some 3), op := .makeFunc (.func 17) #[] #[(.tmp 1)], ty := 34, guard := none },
  { dst := (some 2), op := .assign (.tmp 3), ty := 35, guard := none }]
def c11_3 : AC := .region o11_3 []
theorem n11_3 : Run Cx 11 T ds ro (.code c11_3 :: k) H Q = RunOps Cx 11 T ds ro o11_3 k H Q := run_region
def c11_4 : AC := .ret
theorem n11_4 : Run Cx 11 T [] none (.code c11_4 :: k) H Q = RunRes Cx T H Q (resOf Cx 11) := run_ret
def c11_2 : AC := .seq c11_3 c11_4
theorem n11_2 : Run Cx 11 T ds ro (.code c11_2 :: k) H Q = Run Cx 11 T ds ro (.code c11_3 :: .code c11_4 :: k) H Q := run_seq
def c11_0 : AC := .seq c11_1 c11_2
theorem n11_0 : Run Cx 11 T ds ro (.code c11_0 :: k) H Q = Run Cx 11 T ds ro (.code c11_1 :: .code c11_2 :: k) H Q := run_seq
theorem body11 : bodyOf Cx 11 = some c11_0 := by kernel_rfl
theorem res11 : resOf Cx 11 = some [.tmp 2] := by kernel_rfl
theorem pure11 : Cx.pure 11 = false := by kernel_rfl
-- RULES 11: n11_0, n11_1, n11_2, n11_3, n11_4
def o12_1 : List AO := [{ dst := (some 2), op := .assign (.const (.slice none 0 0)), ty := 22, guard := none }]
def c12_1 : AC := .region o12_1 []
theorem n12_1 : Run Cx 12 T ds ro (.code c12_1 :: k) H Q = RunOps Cx 12 T ds ro o12_1 k H Q := run_region
def o12_3 : List AO := [{ dst := (some 3), op := .move (.tmp 0), ty := 45, guard := none },
  { dst := (some 4), op := .call { callee := (.value (.func 18)), args := #[(.tmp 3)], argTypes := #[45] }, ty := 22, guard := none },
  { dst := (some 5), op := .call { callee := (.value (.func 8)), args := #[(.tmp 4)], argTypes := #[22] }, ty := 22, guard := none },
  { dst := (some 2), op := .assign (.tmp 5), ty := 22, guard := none }]
def c12_3 : AC := .region o12_3 []
theorem n12_3 : Run Cx 12 T ds ro (.code c12_3 :: k) H Q = RunOps Cx 12 T ds ro o12_3 k H Q := run_region
def c12_4 : AC := .ret
theorem n12_4 : Run Cx 12 T [] none (.code c12_4 :: k) H Q = RunRes Cx T H Q (resOf Cx 12) := run_ret
def c12_2 : AC := .seq c12_3 c12_4
theorem n12_2 : Run Cx 12 T ds ro (.code c12_2 :: k) H Q = Run Cx 12 T ds ro (.code c12_3 :: .code c12_4 :: k) H Q := run_seq
def c12_0 : AC := .seq c12_1 c12_2
theorem n12_0 : Run Cx 12 T ds ro (.code c12_0 :: k) H Q = Run Cx 12 T ds ro (.code c12_1 :: .code c12_2 :: k) H Q := run_seq
theorem body12 : bodyOf Cx 12 = some c12_0 := by kernel_rfl
theorem res12 : resOf Cx 12 = some [.tmp 2] := by kernel_rfl
theorem pure12 : Cx.pure 12 = false := by kernel_rfl
-- RULES 12: n12_0, n12_1, n12_2, n12_3, n12_4
def o13_1 : List AO := [{ dst := (some 2), op := .assign (.const (.bool false)), ty := 4, guard := none }]
def c13_1 : AC := .region o13_1 []
theorem n13_1 : Run Cx 13 T ds ro (.code c13_1 :: k) H Q = RunOps Cx 13 T ds ro o13_1 k H Q := run_region
def o13_3 : List AO := [{ dst := (some 3), op := .move (.tmp 0), ty := 22, guard := none },
  { dst := (some 4), op := .call { callee := (.value (.func 19)), args := #[(.tmp 3), (.func 16)], argTypes := #[22, 43] }, ty := 4, guard := none },
  { dst := (some 2), op := .assign (.tmp 4), ty := 4, guard := none }]
def c13_3 : AC := .region o13_3 []
theorem n13_3 : Run Cx 13 T ds ro (.code c13_3 :: k) H Q = RunOps Cx 13 T ds ro o13_3 k H Q := run_region
def c13_4 : AC := .ret
theorem n13_4 : Run Cx 13 T [] none (.code c13_4 :: k) H Q = RunRes Cx T H Q (resOf Cx 13) := run_ret
def c13_2 : AC := .seq c13_3 c13_4
theorem n13_2 : Run Cx 13 T ds ro (.code c13_2 :: k) H Q = Run Cx 13 T ds ro (.code c13_3 :: .code c13_4 :: k) H Q := run_seq
def c13_0 : AC := .seq c13_1 c13_2
theorem n13_0 : Run Cx 13 T ds ro (.code c13_0 :: k) H Q = Run Cx 13 T ds ro (.code c13_1 :: .code c13_2 :: k) H Q := run_seq
theorem body13 : bodyOf Cx 13 = some c13_0 := by kernel_rfl
theorem res13 : resOf Cx 13 = some [.tmp 2] := by kernel_rfl
theorem pure13 : Cx.pure 13 = true := by kernel_rfl
-- RULES 13: n13_0, n13_1, n13_2, n13_3, n13_4
def o14_1 : List AO := [{ dst := (some 2), op := .assign (.const (.slice none 0 0)), ty := 22, guard := none }]
def c14_1 : AC := .region o14_1 []
theorem n14_1 : Run Cx 14 T ds ro (.code c14_1 :: k) H Q = RunOps Cx 14 T ds ro o14_1 k H Q := run_region
def o14_4 : List AO := [{ dst := (some 3), op := .move (.tmp 0), ty := 22, guard := none },
  { dst := (some 4), op := .binOp .eql 22 (.tmp 3) (.const (.slice none 0 0)) 22, ty := 4, guard := none }]
def c14_4 : AC := .region o14_4 []
theorem n14_4 : Run Cx 14 T ds ro (.code c14_4 :: k) H Q = RunOps Cx 14 T ds ro o14_4 k H Q := run_region
def o14_7 : List AO := [{ dst := (some 2), op := .assign (.const (.slice none 0 0)), ty := 22, guard := none }]
def c14_7 : AC := .region o14_7 []
theorem n14_7 : Run Cx 14 T ds ro (.code c14_7 :: k) H Q = RunOps Cx 14 T ds ro o14_7 k H Q := run_region
def c14_8 : AC := .ret
theorem n14_8 : Run Cx 14 T [] none (.code c14_8 :: k) H Q = RunRes Cx T H Q (resOf Cx 14) := run_ret
def c14_6 : AC := .seq c14_7 c14_8
theorem n14_6 : Run Cx 14 T ds ro (.code c14_6 :: k) H Q = Run Cx 14 T ds ro (.code c14_7 :: .code c14_8 :: k) H Q := run_seq
def c14_9 : AC := .skip
theorem n14_9 : Run Cx 14 T ds ro (.code c14_9 :: k) H Q = Run Cx 14 T ds ro (k) H Q := run_skip
def c14_5 : AC := .cond (.tmp 4) c14_6 c14_9
theorem n14_5 : Run Cx 14 T ds ro (.code c14_5 :: k) H Q = RunCond Cx 14 T ds ro (.tmp 4) (ev T (.tmp 4)) c14_6 c14_9 k H Q := run_condC
def c14_3 : AC := .seq c14_4 c14_5
theorem n14_3 : Run Cx 14 T ds ro (.code c14_3 :: k) H Q = Run Cx 14 T ds ro (.code c14_4 :: .code c14_5 :: k) H Q := run_seq
def o14_11 : List AO := [{ dst := (some 5), op := .buildSlice 22 0 #[], ty := 22, guard := none },
  { dst := (some 6), op := .move (.tmp 0), ty := 22, guard := none },
  { dst := (some 7), op := .call { callee := (.builtin .append), args := #[(.tmp 5), (.tmp 6)], argTypes := #[22, 22] }, ty := 22, guard := none },
  { dst := (some 2), op := .assign (.tmp 7), ty := 22, guard := none }]
def c14_11 : AC := .region o14_11 []
theorem n14_11 : Run Cx 14 T ds ro (.code c14_11 :: k) H Q = RunOps Cx 14 T ds ro o14_11 k H Q := run_region
def c14_12 : AC := .ret
theorem n14_12 : Run Cx 14 T [] none (.code c14_12 :: k) H Q = RunRes Cx T H Q (resOf Cx 14) := run_ret
def c14_10 : AC := .seq c14_11 c14_12
theorem n14_10 : Run Cx 14 T ds ro (.code c14_10 :: k) H Q = Run Cx 14 T ds ro (.code c14_11 :: .code c14_12 :: k) H Q := run_seq
def c14_2 : AC := .seq c14_3 c14_10
theorem n14_2 : Run Cx 14 T ds ro (.code c14_2 :: k) H Q = Run Cx 14 T ds ro (.code c14_3 :: .code c14_10 :: k) H Q := run_seq
def c14_0 : AC := .seq c14_1 c14_2
theorem n14_0 : Run Cx 14 T ds ro (.code c14_0 :: k) H Q = Run Cx 14 T ds ro (.code c14_1 :: .code c14_2 :: k) H Q := run_seq
theorem body14 : bodyOf Cx 14 = some c14_0 := by kernel_rfl
theorem res14 : resOf Cx 14 = some [.tmp 2] := by kernel_rfl
theorem pure14 : Cx.pure 14 = false := by kernel_rfl
-- RULES 14: n14_0, n14_1, n14_2, n14_3, n14_4, n14_5, n14_6, n14_7, n14_8, n14_9, n14_10, n14_11, n14_12
def o15_0 : List AO := [{ dst := (some 4), op := .move (.tmp 0), ty := 22, guard := none },
  { dst := (some 5), op := .move (.tmp 0), ty := 22, guard := none },
  { dst := (some 6), op := .call { callee := (.builtin .len), args := #[(.tmp 5)], argTypes := #[22] }, ty := 3, guard := none },
  { dst := (some 7), op := .move (.tmp 1), ty := 43, guard := none },
  { dst := (some 8), op := .call { callee := (.value (.func 20)), args := #[(.tmp 4), (.tmp 6), (.tmp 7)], argTypes := #[22, 3, 43] }, ty := 0, guard := none }]
def c15_0 : AC := .region o15_0 []
theorem n15_0 : Run Cx 15 T ds ro (.code c15_0 :: k) H Q = RunOps Cx 15 T ds ro o15_0 k H Q := run_region
theorem body15 : bodyOf Cx 15 = some c15_0 := by kernel_rfl
theorem res15 : resOf Cx 15 = some [] := by kernel_rfl
theorem pure15 : Cx.pure 15 = false := by kernel_rfl
-- RULES 15: n15_0
def o16_1 : List AO := [{ dst := (some 2), op := .box 28 (.tmp 0), ty := 0, guard := none },
  { dst := (some 3), op := .box 28 (.tmp 1), ty := 0, guard := none },
  { dst := (some 4), op := .assign (.const (.int .i64 0)), ty := 3, guard := none }]
def c16_1 : AC := .region o16_1 []
theorem n16_1 : Run Cx 16 T ds ro (.code c16_1 :: k) H Q = RunOps Cx 16 T ds ro o16_1 k H Q := run_region
def o16_3 : List AO := [{ dst := (some 5), op := .fieldAddr 28 (.tmp 2) 0, ty := 0, guard := none },
  { dst := (some 6), op := .load 9 (.tmp 5), ty := 9, guard := none },
  { dst := (some 7), op := .fieldAddr 28 (.tmp 3) 0, ty := 0, guard := none },
  { dst := (some 8), op := .load 9 (.tmp 7), ty := 9, guard := none },
  { dst := (some 9), op := .call { callee := (.value (.func 21)), args := #[(.tmp 6), (.tmp 8)], argTypes := #[9, 9] }, ty := 3, guard := none },
  { dst := (some 4), op := .assign (.tmp 9), ty := 3, guard := none }]
def c16_3 : AC := .region o16_3 []
theorem n16_3 : Run Cx 16 T ds ro (.code c16_3 :: k) H Q = RunOps Cx 16 T ds ro o16_3 k H Q := run_region
def c16_4 : AC := .ret
theorem n16_4 : Run Cx 16 T [] none (.code c16_4 :: k) H Q = RunRes Cx T H Q (resOf Cx 16) := run_ret
def c16_2 : AC := .seq c16_3 c16_4
theorem n16_2 : Run Cx 16 T ds ro (.code c16_2 :: k) H Q = Run Cx 16 T ds ro (.code c16_3 :: .code c16_4 :: k) H Q := run_seq
def c16_0 : AC := .seq c16_1 c16_2
theorem n16_0 : Run Cx 16 T ds ro (.code c16_0 :: k) H Q = Run Cx 16 T ds ro (.code c16_1 :: .code c16_2 :: k) H Q := run_seq
theorem body16 : bodyOf Cx 16 = some c16_0 := by kernel_rfl
theorem res16 : resOf Cx 16 = some [.tmp 4] := by kernel_rfl
theorem pure16 : Cx.pure 16 = true := by kernel_rfl
-- RULES 16: n16_0, n16_1, n16_2, n16_3, n16_4
def o17_1 : List AO := [{ dst := (some 3), op := .assign (.const (.slice none 0 0)), ty := 37, guard := none }]
def c17_1 : AC := .region o17_1 []
theorem n17_1 : Run Cx 17 T ds ro (.code c17_1 :: k) H Q = RunOps Cx 17 T ds ro o17_1 k H Q := run_region
def o17_3 : List AO := [{ dst := (some 4), op := .assign (.const (.string ⟨#[]⟩)), ty := 9, guard := none }]
def c17_3 : AC := .region o17_3 []
theorem n17_3 : Run Cx 17 T ds ro (.code c17_3 :: k) H Q = RunOps Cx 17 T ds ro o17_3 k H Q := run_region
def o17_6 : List AO := [{ dst := (some 7), op := .load 22 (.tmp 1), ty := 22, guard := none },
  { dst := (some 8), op := .call { callee := (.value (.func 8)), args := #[(.tmp 7)], argTypes := #[22] }, ty := 22, guard := none },
  { dst := (some 9), op := .call { callee := (.builtin .len), args := #[(.tmp 8)], argTypes := #[22] }, ty := 3, guard := none },
  { dst := (some 10), op := .move (.const (.int .i64 0)), ty := 3, guard := none }]
def c17_6 : AC := .region o17_6 []
theorem n17_6 : Run Cx 17 T ds ro (.code c17_6 :: k) H Q = RunOps Cx 17 T ds ro o17_6 k H Q := run_region
def o17_10 : List AO := [{ dst := (some 11), op := .binOp .lss 3 (.tmp 10) (.tmp 9) 3, ty := 0, guard := none }]
def c17_10 : AC := .region o17_10 []
theorem n17_10 : Run Cx 17 T ds ro (.code c17_10 :: k) H Q = RunOps Cx 17 T ds ro o17_10 k H Q := run_region
def c17_13 : AC := .skip
theorem n17_13 : Run Cx 17 T ds ro (.code c17_13 :: k) H Q = Run Cx 17 T ds ro (k) H Q := run_skip
def c17_14 : AC := .exit 0
theorem n17_14 : Run Cx 17 T ds ro (.code c17_14 :: k) H Q = RunExit Cx 17 T ds ro 0 k k H Q := run_exit_start
def c17_12 : AC := .cond (.tmp 11) c17_13 c17_14
theorem n17_12 : Run Cx 17 T ds ro (.code c17_12 :: k) H Q = RunCond Cx 17 T ds ro (.tmp 11) (ev T (.tmp 11)) c17_13 c17_14 k H Q := run_condC
def o17_18 : List AO := [{ dst := (some 12), op := .move (.tmp 10), ty := 3, guard := none },
  { dst := (some 13), op := .indexAddr 22 (.tmp 8) (.tmp 10), ty := 0, guard := none },
  { dst := (some 14), op := .load 28 (.tmp 13), ty := 28, guard := none },
  { dst := (some 6), op := .alloc 28, ty := 0, guard := none },
  { dst := (some 5), op := .assign (.tmp 12), ty := 3, guard := none },
  { dst := none, op := .store 28 (.tmp 6) (.tmp 14), ty := 0, guard := none }]
def c17_18 : AC := .region o17_18 []
theorem n17_18 : Run Cx 17 T ds ro (.code c17_18 :: k) H Q = RunOps Cx 17 T ds ro o17_18 k H Q := run_region
def o17_21 : List AO := [{ dst := (some 15), op := .move (.tmp 5), ty := 3, guard := none },
  { dst := (some 16), op := .binOp .gtr 3 (.tmp 15) (.const (.int .i64 0)) 3, ty := 4, guard := none },
  { dst := (some 17), op := .move (.tmp 16), ty := 4, guard := none },
  { dst := (some 18), op := .fieldAddr 28 (.tmp 6) 0, ty := 0, guard := (some (17, true)) },
  { dst := (some 19), op := .load 9 (.tmp 18), ty := 9, guard := (some (17, true)) },
  { dst := (some 20), op := .move (.tmp 4), ty := 9, guard := (some (17, true)) },
  { dst := (some 21), op := .binOp .neq 9 (.tmp 19) (.tmp 20) 9, ty := 4, guard := (some (17, true)) },
  { dst := (some 22), op := .pick (.tmp 17) (.tmp 21) (.const (.bool false)), ty := 4, guard := none }]
def c17_21 : AC := .region o17_21 []
theorem n17_21 : Run Cx 17 T ds ro (.code c17_21 :: k) H Q = RunOps Cx 17 T ds ro o17_21 k H Q := run_region
def o17_25 : List AO := [{ dst := (some 23), op := .move (.tmp 0), ty := 44, guard := none },
  { dst := (some 24), op := .move (.tmp 4), ty := 9, guard := none },
  { dst := (some 25), op := .move (.tmp 3), ty := 37, guard := none },
  { dst := (some 26), op := .call { callee := (.value (.tmp 23)), args := #[(.tmp 24), (.tmp 25)], argTypes := #[9, 37] }, ty := 4, guard := none },
  { dst := (some 27), op := .unOp .not 4 (.tmp 26), ty := 4, guard := none }]
def c17_25 : AC := .region o17_25 []
theorem n17_25 : Run Cx 17 T ds ro (.code c17_25 :: k) H Q = RunOps Cx 17 T ds ro o17_25 k H Q := run_region
def c17_27 : AC := .ret
theorem n17_27 : Run Cx 17 T [] none (.code c17_27 :: k) H Q = RunRes Cx T H Q (resOf Cx 17) := run_ret
def c17_28 : AC := .skip
theorem n17_28 : Run Cx 17 T ds ro (.code c17_28 :: k) H Q = Run Cx 17 T ds ro (k) H Q := run_skip
def c17_26 : AC := .cond (.tmp 27) c17_27 c17_28
theorem n17_26 : Run Cx 17 T ds ro (.code c17_26 :: k) H Q = RunCond Cx 17 T ds ro (.tmp 27) (ev T (.tmp 27)) c17_27 c17_28 k H Q := run_condC
def c17_24 : AC := .seq c17_25 c17_26
theorem n17_24 : Run Cx 17 T ds ro (.code c17_24 :: k) H Q = Run Cx 17 T ds ro (.code c17_25 :: .code c17_26 :: k) H Q := run_seq
def o17_29 : List AO := [{ dst := (some 3), op := .assign (.const (.slice none 0 0)), ty := 37, guard := none }]
def c17_29 : AC := .region o17_29 []
theorem n17_29 : Run Cx 17 T ds ro (.code c17_29 :: k) H Q = RunOps Cx 17 T ds ro o17_29 k H Q := run_region
def c17_23 : AC := .seq c17_24 c17_29
theorem n17_23 : Run Cx 17 T ds ro (.code c17_23 :: k) H Q = Run Cx 17 T ds ro (.code c17_24 :: .code c17_29 :: k) H Q := run_seq
def c17_30 : AC := .skip
theorem n17_30 : Run Cx 17 T ds ro (.code c17_30 :: k) H Q = Run Cx 17 T ds ro (k) H Q := run_skip
def c17_22 : AC := .cond (.tmp 22) c17_23 c17_30
theorem n17_22 : Run Cx 17 T ds ro (.code c17_22 :: k) H Q = RunCond Cx 17 T ds ro (.tmp 22) (ev T (.tmp 22)) c17_23 c17_30 k H Q := run_condC
def c17_20 : AC := .seq c17_21 c17_22
theorem n17_20 : Run Cx 17 T ds ro (.code c17_20 :: k) H Q = Run Cx 17 T ds ro (.code c17_21 :: .code c17_22 :: k) H Q := run_seq
def o17_31 : List AO := [{ dst := (some 28), op := .fieldAddr 28 (.tmp 6) 0, ty := 0, guard := none },
  { dst := (some 29), op := .load 9 (.tmp 28), ty := 9, guard := none },
  { dst := (some 30), op := .move (.tmp 3), ty := 37, guard := none },
  { dst := (some 31), op := .fieldAddr 28 (.tmp 6) 1, ty := 0, guard := none },
  { dst := (some 32), op := .load 26 (.tmp 31), ty := 26, guard := none },
  { dst := (some 33), op := .buildSlice 37 1 #[(0, (.tmp 32))], ty := 37, guard := none },
  { dst := (some 34), op := .call { callee := (.builtin .append), args := #[(.tmp 30), (.tmp 33)], argTypes := #[37, 37] }, ty := 37, guard := none },
  { dst := (some 4), op := .assign (.tmp 29), ty := 9, guard := none },
  { dst := (some 3), op := .assign (.tmp 34), ty := 37, guard := none }]
def c17_31 : AC := .region o17_31 [[], [], [], [], [], [], [28], [], []]
theorem n17_31 : Run Cx 17 T ds ro (.code c17_31 :: k) H Q = (Dyn Cx ro o17_31 [[], [], [], [], [], [], [28], [], []] T ds H ∧ RunOps Cx 17 T ds ro o17_31 k H Q) := run_regionD
def c17_19 : AC := .seq c17_20 c17_31
theorem n17_19 : Run Cx 17 T ds ro (.code c17_19 :: k) H Q = Run Cx 17 T ds ro (.code c17_20 :: .code c17_31 :: k) H Q := run_seq
def c17_17 : AC := .seq c17_18 c17_19
theorem n17_17 : Run Cx 17 T ds ro (.code c17_17 :: k) H Q = Run Cx 17 T ds ro (.code c17_18 :: .code c17_19 :: k) H Q := run_seq
def c17_16 : AC := .block 1 c17_17
theorem n17_16 : Run Cx 17 T ds ro (.code c17_16 :: k) H Q = Run Cx 17 T ds ro (.code c17_17 :: .inBlock 1 :: k) H Q := run_block
def o17_32 : List AO := [{ dst := (some 35), op := .binOp .add 3 (.tmp 10) (.const (.int .i64 1)) 3, ty := 3, guard := none },
  { dst := (some 10), op := .move (.tmp 35), ty := 3, guard := none }]
def c17_32 : AC := .region o17_32 []
theorem n17_32 : Run Cx 17 T ds ro (.code c17_32 :: k) H Q = RunOps Cx 17 T ds ro o17_32 k H Q := run_region
def c17_15 : AC := .seq c17_16 c17_32
theorem n17_15 : Run Cx 17 T ds ro (.code c17_15 :: k) H Q = Run Cx 17 T ds ro (.code c17_16 :: .code c17_32 :: k) H Q := run_seq
def c17_11 : AC := .seq c17_12 c17_15
theorem n17_11 : Run Cx 17 T ds ro (.code c17_11 :: k) H Q = Run Cx 17 T ds ro (.code c17_12 :: .code c17_15 :: k) H Q := run_seq
def c17_9 : AC := .seq c17_10 c17_11
theorem n17_9 : Run Cx 17 T ds ro (.code c17_9 :: k) H Q = Run Cx 17 T ds ro (.code c17_10 :: .code c17_11 :: k) H Q := run_seq
def c17_8 : AC := .loop c17_9
theorem n17_8 : Run Cx 17 T ds ro (.code c17_8 :: k) H Q = Run Cx 17 T ds ro (.inLoop c17_9 :: k) H Q := run_loop'
def c17_7 : AC := .block 0 c17_8
theorem n17_7 : Run Cx 17 T ds ro (.code c17_7 :: k) H Q = Run Cx 17 T ds ro (.code c17_8 :: .inBlock 0 :: k) H Q := run_block
def c17_5 : AC := .seq c17_6 c17_7
theorem n17_5 : Run Cx 17 T ds ro (.code c17_5 :: k) H Q = Run Cx 17 T ds ro (.code c17_6 :: .code c17_7 :: k) H Q := run_seq
def o17_34 : List AO := [{ dst := (some 36), op := .move (.tmp 3), ty := 37, guard := none },
  { dst := (some 37), op := .call { callee := (.builtin .len), args := #[(.tmp 36)], argTypes := #[37] }, ty := 3, guard := none },
  { dst := (some 38), op := .binOp .gtr 3 (.tmp 37) (.const (.int .i64 0)) 3, ty := 4, guard := none }]
def c17_34 : AC := .region o17_34 []
theorem n17_34 : Run Cx 17 T ds ro (.code c17_34 :: k) H Q = RunOps Cx 17 T ds ro o17_34 k H Q := run_region
def o17_36 : List AO := [{ dst := (some 39), op := .move (.tmp 0), ty := 44, guard := none },
  { dst := (some 40), op := .move (.tmp 4), ty := 9, guard := none },
  { dst := (some 41), op := .move (.tmp 3), ty := 37, guard := none },
  { dst := (some 42), op := .call { callee := (.value (.tmp 39)), args := #[(.tmp 40), (.tmp 41)], argTypes := #[9, 37] }, ty := 4, guard := none }]
def c17_36 : AC := .region o17_36 []
theorem n17_36 : Run Cx 17 T ds ro (.code c17_36 :: k) H Q = RunOps Cx 17 T ds ro o17_36 k H Q := run_region
def c17_37 : AC := .skip
theorem n17_37 : Run Cx 17 T ds ro (.code c17_37 :: k) H Q = Run Cx 17 T ds ro (k) H Q := run_skip
def c17_35 : AC := .cond (.tmp 38) c17_36 c17_37
theorem n17_35 : Run Cx 17 T ds ro (.code c17_35 :: k) H Q = RunCond Cx 17 T ds ro (.tmp 38) (ev T (.tmp 38)) c17_36 c17_37 k H Q := run_condC
def c17_33 : AC := .seq c17_34 c17_35
theorem n17_33 : Run Cx 17 T ds ro (.code c17_33 :: k) H Q = Run Cx 17 T ds ro (.code c17_34 :: .code c17_35 :: k) H Q := run_seq
def c17_4 : AC := .seq c17_5 c17_33
theorem n17_4 : Run Cx 17 T ds ro (.code c17_4 :: k) H Q = Run Cx 17 T ds ro (.code c17_5 :: .code c17_33 :: k) H Q := run_seq
def c17_2 : AC := .seq c17_3 c17_4
theorem n17_2 : Run Cx 17 T ds ro (.code c17_2 :: k) H Q = Run Cx 17 T ds ro (.code c17_3 :: .code c17_4 :: k) H Q := run_seq
def c17_0 : AC := .seq c17_1 c17_2
theorem n17_0 : Run Cx 17 T ds ro (.code c17_0 :: k) H Q = Run Cx 17 T ds ro (.code c17_1 :: .code c17_2 :: k) H Q := run_seq
theorem body17 : bodyOf Cx 17 = some c17_0 := by kernel_rfl
theorem res17 : resOf Cx 17 = some [] := by kernel_rfl
theorem pure17 : Cx.pure 17 = false := by kernel_rfl
-- RULES 17: n17_0, n17_1, n17_2, n17_3, n17_4, n17_5, n17_6, n17_7, n17_8, n17_9, n17_10, n17_11, n17_12, n17_13, n17_14, n17_15, n17_16, n17_17, n17_18, n17_19, n17_20, n17_21, n17_22, n17_23, n17_24, n17_25, n17_26, n17_27, n17_28, n17_29, n17_30, n17_31, n17_32, n17_33, n17_34, n17_35, n17_36, n17_37
def o18_1 : List AO := [{ dst := (some 2), op := .assign (.const (.slice none 0 0)), ty := 22, guard := none }]
def c18_1 : AC := .region o18_1 []
theorem n18_1 : Run Cx 18 T ds ro (.code c18_1 :: k) H Q = RunOps Cx 18 T ds ro o18_1 k H Q := run_region
def o18_3 : List AO := [{ dst := (some 3), op := .assign (.const (.int .i64 0)), ty := 3, guard := none }]
def c18_3 : AC := .region o18_3 []
theorem n18_3 : Run Cx 18 T ds ro (.code c18_3 :: k) H Q = RunOps Cx 18 T ds ro o18_3 k H Q := run_region
def o18_6 : List AO := [{ dst := (some 9), op := .move (.tmp 0), ty := 45, guard := none },
  { dst := (some 10), op := .call { callee := (.builtin .len), args := #[(.tmp 9)], argTypes := #[45] }, ty := 3, guard := none },
  { dst := (some 11), op := .move (.const (.int .i64 0)), ty := 3, guard := none }]
def c18_6 : AC := .region o18_6 []
theorem n18_6 : Run Cx 18 T ds ro (.code c18_6 :: k) H Q = RunOps Cx 18 T ds ro o18_6 k H Q := run_region
def o18_10 : List AO := [{ dst := (some 12), op := .binOp .lss 3 (.tmp 11) (.tmp 10) 3, ty := 0, guard := none }]
def c18_10 : AC := .region o18_10 []
theorem n18_10 : Run Cx 18 T ds ro (.code c18_10 :: k) H Q = RunOps Cx 18 T ds ro o18_10 k H Q := run_region
def c18_13 : AC := .skip
theorem n18_13 : Run Cx 18 T ds ro (.code c18_13 :: k) H Q = Run Cx 18 T ds ro (k) H Q := run_skip
def c18_14 : AC := .exit 0
theorem n18_14 : Run Cx 18 T ds ro (.code c18_14 :: k) H Q = RunExit Cx 18 T ds ro 0 k k H Q := run_exit_start
def c18_12 : AC := .cond (.tmp 12) c18_13 c18_14
theorem n18_12 : Run Cx 18 T ds ro (.code c18_12 :: k) H Q = RunCond Cx 18 T ds ro (.tmp 12) (ev T (.tmp 12)) c18_13 c18_14 k H Q := run_condC
def o18_18 : List AO := [{ dst := (some 13), op := .indexAddr 45 (.tmp 9) (.tmp 11), ty := 0, guard := none },
  { dst := (some 14), op := .load 22 (.tmp 13), ty := 22, guard := none },
  { dst := (some 5), op := .assign (.tmp 14), ty := 22, guard := none }]
def c18_18 : AC := .region o18_18 []
theorem n18_18 : Run Cx 18 T ds ro (.code c18_18 :: k) H Q = RunOps Cx 18 T ds ro o18_18 k H Q := run_region
def o18_20 : List AO := [{ dst := (some 15), op := .move (.tmp 3), ty := 3, guard := none },
  { dst := (some 16), op := .move (.tmp 5), ty := 22, guard := none },
  { dst := (some 17), op := .call { callee := (.builtin .len), args := #[(.tmp 16)], argTypes := #[22] }, ty := 3, guard := none },
  { dst := (some 18), op := .binOp .add 3 (.tmp 15) (.tmp 17) 3, ty := 3, guard := none },
  { dst := (some 3), op := .assign (.tmp 18), ty := 3, guard := none }]
def c18_20 : AC := .region o18_20 []
theorem n18_20 : Run Cx 18 T ds ro (.code c18_20 :: k) H Q = RunOps Cx 18 T ds ro o18_20 k H Q := run_region
def o18_22 : List AO := [{ dst := (some 19), op := .move (.tmp 3), ty := 3, guard := none },
  { dst := (some 20), op := .binOp .lss 3 (.tmp 19) (.const (.int .i64 0)) 3, ty := 4, guard := none }]
def c18_22 : AC := .region o18_22 []
theorem n18_22 : Run Cx 18 T ds ro (.code c18_22 :: k) H Q = RunOps Cx 18 T ds ro o18_22 k H Q := run_region
def o18_24 : List AO := [{ dst := (some 21), op := .makeInterface 9 (.const (.string ⟨#[108, 101, 110, 32, 111, 117, 116, 32, 111, 102, 32, 114, 97, 110, 103, 101]⟩)), ty := 20, guard := none },
  { dst := none, op := .panic (.tmp 21), ty := 0, guard := none }]
def c18_24 : AC := .region o18_24 []
theorem n18_24 : Run Cx 18 T ds ro (.code c18_24 :: k) H Q = RunOps Cx 18 T ds ro o18_24 k H Q := run_region
def c18_25 : AC := .skip
theorem n18_25 : Run Cx 18 T ds ro (.code c18_25 :: k) H Q = Run Cx 18 T ds ro (k) H Q := run_skip
def c18_23 : AC := .cond (.tmp 20) c18_24 c18_25
theorem n18_23 : Run Cx 18 T ds ro (.code c18_23 :: k) H Q = RunCond Cx 18 T ds ro (.tmp 20) (ev T (.tmp 20)) c18_24 c18_25 k H Q := run_condC
def c18_21 : AC := .seq c18_22 c18_23
theorem n18_21 : Run Cx 18 T ds ro (.code c18_21 :: k) H Q = Run Cx 18 T ds ro (.code c18_22 :: .code c18_23 :: k) H Q := run_seq
def c18_19 : AC := .seq c18_20 c18_21
theorem n18_19 : Run Cx 18 T ds ro (.code c18_19 :: k) H Q = Run Cx 18 T ds ro (.code c18_20 :: .code c18_21 :: k) H Q := run_seq
def c18_17 : AC := .seq c18_18 c18_19
theorem n18_17 : Run Cx 18 T ds ro (.code c18_17 :: k) H Q = Run Cx 18 T ds ro (.code c18_18 :: .code c18_19 :: k) H Q := run_seq
def c18_16 : AC := .block 1 c18_17
theorem n18_16 : Run Cx 18 T ds ro (.code c18_16 :: k) H Q = Run Cx 18 T ds ro (.code c18_17 :: .inBlock 1 :: k) H Q := run_block
def o18_26 : List AO := [{ dst := (some 22), op := .binOp .add 3 (.tmp 11) (.const (.int .i64 1)) 3, ty := 3, guard := none },
  { dst := (some 11), op := .move (.tmp 22), ty := 3, guard := none }]
def c18_26 : AC := .region o18_26 []
theorem n18_26 : Run Cx 18 T ds ro (.code c18_26 :: k) H Q = RunOps Cx 18 T ds ro o18_26 k H Q := run_region
def c18_15 : AC := .seq c18_16 c18_26
theorem n18_15 : Run Cx 18 T ds ro (.code c18_15 :: k) H Q = Run Cx 18 T ds ro (.code c18_16 :: .code c18_26 :: k) H Q := run_seq
def c18_11 : AC := .seq c18_12 c18_15
theorem n18_11 : Run Cx 18 T ds ro (.code c18_11 :: k) H Q = Run Cx 18 T ds ro (.code c18_12 :: .code c18_15 :: k) H Q := run_seq
def c18_9 : AC := .seq c18_10 c18_11
theorem n18_9 : Run Cx 18 T ds ro (.code c18_9 :: k) H Q = Run Cx 18 T ds ro (.code c18_10 :: .code c18_11 :: k) H Q := run_seq
def c18_8 : AC := .loop c18_9
theorem n18_8 : Run Cx 18 T ds ro (.code c18_8 :: k) H Q = Run Cx 18 T ds ro (.inLoop c18_9 :: k) H Q := run_loop'
def c18_7 : AC := .block 0 c18_8
theorem n18_7 : Run Cx 18 T ds ro (.code c18_7 :: k) H Q = Run Cx 18 T ds ro (.code c18_8 :: .inBlock 0 :: k) H Q := run_block
def c18_5 : AC := .seq c18_6 c18_7
theorem n18_5 : Run Cx 18 T ds ro (.code c18_5 :: k) H Q = Run Cx 18 T ds ro (.code c18_6 :: .code c18_7 :: k) H Q := run_seq
def o18_28 : List AO := [{ dst := (some 23), op := .move (.tmp 3), ty := 3, guard := none },
  { dst := (some 24), op := .call { callee := (.value (.func 22)), args := #[(.const (.slice none 0 0)), (.tmp 23)], argTypes := #[22, 3] }, ty := 22, guard := none },
  { dst := (some 6), op := .assign (.tmp 24), ty := 22, guard := none }]
def c18_28 : AC := .region o18_28 []
theorem n18_28 : Run Cx 18 T ds ro (.code c18_28 :: k) H Q = RunOps Cx 18 T ds ro o18_28 k H Q := run_region
def o18_31 : List AO := [{ dst := (some 25), op := .move (.tmp 0), ty := 45, guard := none },
  { dst := (some 26), op := .call { callee := (.builtin .len), args := #[(.tmp 25)], argTypes := #[45] }, ty := 3, guard := none },
  { dst := (some 27), op := .move (.const (.int .i64 0)), ty := 3, guard := none }]
def c18_31 : AC := .region o18_31 []
theorem n18_31 : Run Cx 18 T ds ro (.code c18_31 :: k) H Q = RunOps Cx 18 T ds ro o18_31 k H Q := run_region
def o18_35 : List AO := [{ dst := (some 28), op := .binOp .lss 3 (.tmp 27) (.tmp 26) 3, ty := 0, guard := none }]
def c18_35 : AC := .region o18_35 []
theorem n18_35 : Run Cx 18 T ds ro (.code c18_35 :: k) H Q = RunOps Cx 18 T ds ro o18_35 k H Q := run_region
def c18_38 : AC := .skip
theorem n18_38 : Run Cx 18 T ds ro (.code c18_38 :: k) H Q = Run Cx 18 T ds ro (k) H Q := run_skip
def c18_39 : AC := .exit 2
theorem n18_39 : Run Cx 18 T ds ro (.code c18_39 :: k) H Q = RunExit Cx 18 T ds ro 2 k k H Q := run_exit_start
def c18_37 : AC := .cond (.tmp 28) c18_38 c18_39
theorem n18_37 : Run Cx 18 T ds ro (.code c18_37 :: k) H Q = RunCond Cx 18 T ds ro (.tmp 28) (ev T (.tmp 28)) c18_38 c18_39 k H Q := run_condC
def o18_43 : List AO := [{ dst := (some 29), op := .indexAddr 45 (.tmp 25) (.tmp 27), ty := 0, guard := none },
  { dst := (some 30), op := .load 22 (.tmp 29), ty := 22, guard := none },
  { dst := (some 8), op := .assign (.tmp 30), ty := 22, guard := none }]
def c18_43 : AC := .region o18_43 []
theorem n18_43 : Run Cx 18 T ds ro (.code c18_43 :: k) H Q = RunOps Cx 18 T ds ro o18_43 k H Q := run_region
def o18_44 : List AO := [{ dst := (some 31), op := .move (.tmp 6), ty := 22, guard := none },
  { dst := (some 32), op := .move (.tmp 8), ty := 22, guard := none },
  { dst := (some 33), op := .call { callee := (.builtin .append), args := #[(.tmp 31), (.tmp 32)], argTypes := #[22, 22] }, ty := 22, guard := none },
  { dst := (some 6), op := .assign (.tmp 33), ty := 22, guard := none }]
def c18_44 : AC := .region o18_44 []
theorem n18_44 : Run Cx 18 T ds ro (.code c18_44 :: k) H Q = RunOps Cx 18 T ds ro o18_44 k H Q := run_region
def c18_42 : AC := .seq c18_43 c18_44
theorem n18_42 : Run Cx 18 T ds ro (.code c18_42 :: k) H Q = Run Cx 18 T ds ro (.code c18_43 :: .code c18_44 :: k) H Q := run_seq
def c18_41 : AC := .block 3 c18_42
theorem n18_41 : Run Cx 18 T ds ro (.code c18_41 :: k) H Q = Run Cx 18 T ds ro (.code c18_42 :: .inBlock 3 :: k) H Q := run_block
def o18_45 : List AO := [{ dst := (some 34), op := .binOp .add 3 (.tmp 27) (.const (.int .i64 1)) 3, ty := 3, guard := none },
  { dst := (some 27), op := .move (.tmp 34), ty := 3, guard := none }]
def c18_45 : AC := .region o18_45 []
theorem n18_45 : Run Cx 18 T ds ro (.code c18_45 :: k) H Q = RunOps Cx 18 T ds ro o18_45 k H Q := run_region
def c18_40 : AC := .seq c18_41 c18_45
theorem n18_40 : Run Cx 18 T ds ro (.code c18_40 :: k) H Q = Run Cx 18 T ds ro (.code c18_41 :: .code c18_45 :: k) H Q := run_seq
def c18_36 : AC := .seq c18_37 c18_40
theorem n18_36 : Run Cx 18 T ds ro (.code c18_36 :: k) H Q = Run Cx 18 T ds ro (.code c18_37 :: .code c18_40 :: k) H Q := run_seq
def c18_34 : AC := .seq c18_35 c18_36
theorem n18_34 : Run Cx 18 T ds ro (.code c18_34 :: k) H Q = Run Cx 18 T ds ro (.code c18_35 :: .code c18_36 :: k) H Q := run_seq
def c18_33 : AC := .loop c18_34
theorem n18_33 : Run Cx 18 T ds ro (.code c18_33 :: k) H Q = Run Cx 18 T ds ro (.inLoop c18_34 :: k) H Q := run_loop'
def c18_32 : AC := .block 2 c18_33
theorem n18_32 : Run Cx 18 T ds ro (.code c18_32 :: k) H Q = Run Cx 18 T ds ro (.code c18_33 :: .inBlock 2 :: k) H Q := run_block
def c18_30 : AC := .seq c18_31 c18_32
theorem n18_30 : Run Cx 18 T ds ro (.code c18_30 :: k) H Q = Run Cx 18 T ds ro (.code c18_31 :: .code c18_32 :: k) H Q := run_seq
def o18_47 : List AO := [{ dst := (some 35), op := .move (.tmp 6), ty := 22, guard := none },
  { dst := (some 2), op := .assign (.tmp 35), ty := 22, guard := none }]
def c18_47 : AC := .region o18_47 []
theorem n18_47 : Run Cx 18 T ds ro (.code c18_47 :: k) H Q = RunOps Cx 18 T ds ro o18_47 k H Q := run_region
def c18_48 : AC := .ret
theorem n18_48 : Run Cx 18 T [] none (.code c18_48 :: k) H Q = RunRes Cx T H Q (resOf Cx 18) := run_ret
def c18_46 : AC := .seq c18_47 c18_48
theorem n18_46 : Run Cx 18 T ds ro (.code c18_46 :: k) H Q = Run Cx 18 T ds ro (.code c18_47 :: .code c18_48 :: k) H Q := run_seq
def c18_29 : AC := .seq c18_30 c18_46
theorem n18_29 : Run Cx 18 T ds ro (.code c18_29 :: k) H Q = Run Cx 18 T ds ro (.code c18_30 :: .code c18_46 :: k) H Q := run_seq
def c18_27 : AC := .seq c18_28 c18_29
theorem n18_27 : Run Cx 18 T ds ro (.code c18_27 :: k) H Q = Run Cx 18 T ds ro (.code c18_28 :: .code c18_29 :: k) H Q := run_seq
def c18_4 : AC := .seq c18_5 c18_27
theorem n18_4 : Run Cx 18 T ds ro (.code c18_4 :: k) H Q = Run Cx 18 T ds ro (.code c18_5 :: .code c18_27 :: k) H Q := run_seq
def c18_2 : AC := .seq c18_3 c18_4
theorem n18_2 : Run Cx 18 T ds ro (.code c18_2 :: k) H Q = Run Cx 18 T ds ro (.code c18_3 :: .code c18_4 :: k) H Q := run_seq
def c18_0 : AC := .seq c18_1 c18_2
theorem n18_0 : Run Cx 18 T ds ro (.code c18_0 :: k) H Q = Run Cx 18 T ds ro (.code c18_1 :: .code c18_2 :: k) H Q := run_seq
theorem body18 : bodyOf Cx 18 = some c18_0 := by kernel_rfl
theorem res18 : resOf Cx 18 = some [.tmp 2] := by kernel_rfl
theorem pure18 : Cx.pure 18 = false := by kernel_rfl
-- RULES 18: n18_0, n18_1, n18_2, n18_3, n18_4, n18_5, n18_6, n18_7, n18_8, n18_9, n18_10, n18_11, n18_12, n18_13, n18_14, n18_15, n18_16, n18_17, n18_18, n18_19, n18_20, n18_21, n18_22, n18_23, n18_24, n18_25, n18_26, n18_27, n18_28, n18_29, n18_30, n18_31, n18_32, n18_33, n18_34, n18_35, n18_36, n18_37, n18_38, n18_39, n18_40, n18_41, n18_42, n18_43, n18_44, n18_45, n18_46, n18_47, n18_48
def o19_1 : List AO := [{ dst := (some 4), op := .assign (.const (.bool false)), ty := 4, guard := none }]
def c19_1 : AC := .region o19_1 []
theorem n19_1 : Run Cx 19 T ds ro (.code c19_1 :: k) H Q = RunOps Cx 19 T ds ro o19_1 k H Q := run_region
def o19_4 : List AO := [{ dst := (some 6), op := .move (.tmp 0), ty := 22, guard := none },
  { dst := (some 7), op := .call { callee := (.builtin .len), args := #[(.tmp 6)], argTypes := #[22] }, ty := 3, guard := none },
  { dst := (some 8), op := .binOp .sub 3 (.tmp 7) (.const (.int .i64 1)) 3, ty := 3, guard := none },
  { dst := (some 5), op := .assign (.tmp 8), ty := 3, guard := none }]
def c19_4 : AC := .region o19_4 []
theorem n19_4 : Run Cx 19 T ds ro (.code c19_4 :: k) H Q = RunOps Cx 19 T ds ro o19_4 k H Q := run_region
def o19_9 : List AO := [{ dst := (some 9), op := .move (.tmp 5), ty := 3, guard := none },
  { dst := (some 10), op := .binOp .gtr 3 (.tmp 9) (.const (.int .i64 0)) 3, ty := 4, guard := none }]
def c19_9 : AC := .region o19_9 []
theorem n19_9 : Run Cx 19 T ds ro (.code c19_9 :: k) H Q = RunOps Cx 19 T ds ro o19_9 k H Q := run_region
def c19_11 : AC := .skip
theorem n19_11 : Run Cx 19 T ds ro (.code c19_11 :: k) H Q = Run Cx 19 T ds ro (k) H Q := run_skip
def c19_12 : AC := .exit 0
theorem n19_12 : Run Cx 19 T ds ro (.code c19_12 :: k) H Q = RunExit Cx 19 T ds ro 0 k k H Q := run_exit_start
def c19_10 : AC := .cond (.tmp 10) c19_11 c19_12
theorem n19_10 : Run Cx 19 T ds ro (.code c19_10 :: k) H Q = RunCond Cx 19 T ds ro (.tmp 10) (ev T (.tmp 10)) c19_11 c19_12 k H Q := run_condC
def c19_8 : AC := .seq c19_9 c19_10
theorem n19_8 : Run Cx 19 T ds ro (.code c19_8 :: k) H Q = Run Cx 19 T ds ro (.code c19_9 :: .code c19_10 :: k) H Q := run_seq
def o19_16 : List AO := [{ dst := (some 13), op := .move (.tmp 1), ty := 43, guard := none },
  { dst := (some 14), op := .move (.tmp 0), ty := 22, guard := none },
  { dst := (some 15), op := .move (.tmp 5), ty := 3, guard := none },
  { dst := (some 16), op := .indexAddr 22 (.tmp 14) (.tmp 15), ty := 0, guard := none },
  { dst := (some 17), op := .load 28 (.tmp 16), ty := 28, guard := none },
  { dst := (some 18), op := .move (.tmp 0), ty := 22, guard := none },
  { dst := (some 19), op := .move (.tmp 5), ty := 3, guard := none },
  { dst := (some 20), op := .binOp .sub 3 (.tmp 19) (.const (.int .i64 1)) 3, ty := 3, guard := none },
  { dst := (some 21), op := .indexAddr 22 (.tmp 18) (.tmp 20), ty := 0, guard := none },
  { dst := (some 22), op := .load 28 (.tmp 21), ty := 28, guard := none },
  { dst := (some 23), op := .call { callee := (.value (.tmp 13)), args := #[(.tmp 17), (.tmp 22)], argTypes := #[28, 28] }, ty := 3, guard := none },
  { dst := (some 24), op := .binOp .lss 3 (.tmp 23) (.const (.int .i64 0)) 3, ty := 4, guard := none }]
def c19_16 : AC := .region o19_16 []
theorem n19_16 : Run Cx 19 T ds ro (.code c19_16 :: k) H Q = RunOps Cx 19 T ds ro o19_16 k H Q := run_region
def o19_19 : List AO := [{ dst := (some 4), op := .assign (.const (.bool false)), ty := 4, guard := none }]
def c19_19 : AC := .region o19_19 []
theorem n19_19 : Run Cx 19 T ds ro (.code c19_19 :: k) H Q = RunOps Cx 19 T ds ro o19_19 k H Q := run_region
def c19_20 : AC := .ret
theorem n19_20 : Run Cx 19 T [] none (.code c19_20 :: k) H Q = RunRes Cx T H Q (resOf Cx 19) := run_ret
def c19_18 : AC := .seq c19_19 c19_20
theorem n19_18 : Run Cx 19 T ds ro (.code c19_18 :: k) H Q = Run Cx 19 T ds ro (.code c19_19 :: .code c19_20 :: k) H Q := run_seq
def c19_21 : AC := .skip
theorem n19_21 : Run Cx 19 T ds ro (.code c19_21 :: k) H Q = Run Cx 19 T ds ro (k) H Q := run_skip
def c19_17 : AC := .cond (.tmp 24) c19_18 c19_21
theorem n19_17 : Run Cx 19 T ds ro (.code c19_17 :: k) H Q = RunCond Cx 19 T ds ro (.tmp 24) (ev T (.tmp 24)) c19_18 c19_21 k H Q := run_condC
def c19_15 : AC := .seq c19_16 c19_17
theorem n19_15 : Run Cx 19 T ds ro (.code c19_15 :: k) H Q = Run Cx 19 T ds ro (.code c19_16 :: .code c19_17 :: k) H Q := run_seq
def c19_14 : AC := .block 1 c19_15
theorem n19_14 : Run Cx 19 T ds ro (.code c19_14 :: k) H Q = Run Cx 19 T ds ro (.code c19_15 :: .inBlock 1 :: k) H Q := run_block
def o19_22 : List AO := [{ dst := (some 11), op := .move (.tmp 5), ty := 3, guard := none },
  { dst := (some 12), op := .binOp .sub 3 (.tmp 11) (.const (.int .i64 1)) 3, ty := 3, guard := none },
  { dst := (some 5), op := .assign (.tmp 12), ty := 3, guard := none }]
def c19_22 : AC := .region o19_22 []
theorem n19_22 : Run Cx 19 T ds ro (.code c19_22 :: k) H Q = RunOps Cx 19 T ds ro o19_22 k H Q := run_region
def c19_13 : AC := .seq c19_14 c19_22
theorem n19_13 : Run Cx 19 T ds ro (.code c19_13 :: k) H Q = Run Cx 19 T ds ro (.code c19_14 :: .code c19_22 :: k) H Q := run_seq
def c19_7 : AC := .seq c19_8 c19_13
theorem n19_7 : Run Cx 19 T ds ro (.code c19_7 :: k) H Q = Run Cx 19 T ds ro (.code c19_8 :: .code c19_13 :: k) H Q := run_seq
def c19_6 : AC := .loop c19_7
theorem n19_6 : Run Cx 19 T ds ro (.code c19_6 :: k) H Q = Run Cx 19 T ds ro (.inLoop c19_7 :: k) H Q := run_loop'
def c19_5 : AC := .block 0 c19_6
theorem n19_5 : Run Cx 19 T ds ro (.code c19_5 :: k) H Q = Run Cx 19 T ds ro (.code c19_6 :: .inBlock 0 :: k) H Q := run_block
def c19_3 : AC := .seq c19_4 c19_5
theorem n19_3 : Run Cx 19 T ds ro (.code c19_3 :: k) H Q = Run Cx 19 T ds ro (.code c19_4 :: .code c19_5 :: k) H Q := run_seq
def o19_24 : List AO := [{ dst := (some 4), op := .assign (.const (.bool true)), ty := 4, guard := none }]
def c19_24 : AC := .region o19_24 []
theorem n19_24 : Run Cx 19 T ds ro (.code c19_24 :: k) H Q = RunOps Cx 19 T ds ro o19_24 k H Q := run_region
def c19_25 : AC := .ret
theorem n19_25 : Run Cx 19 T [] none (.code c19_25 :: k) H Q = RunRes Cx T H Q (resOf Cx 19) := run_ret
def c19_23 : AC := .seq c19_24 c19_25
theorem n19_23 : Run Cx 19 T ds ro (.code c19_23 :: k) H Q = Run Cx 19 T ds ro (.code c19_24 :: .code c19_25 :: k) H Q := run_seq
def c19_2 : AC := .seq c19_3 c19_23
theorem n19_2 : Run Cx 19 T ds ro (.code c19_2 :: k) H Q = Run Cx 19 T ds ro (.code c19_3 :: .code c19_23 :: k) H Q := run_seq
def c19_0 : AC := .seq c19_1 c19_2
theorem n19_0 : Run Cx 19 T ds ro (.code c19_0 :: k) H Q = Run Cx 19 T ds ro (.code c19_1 :: .code c19_2 :: k) H Q := run_seq
theorem body19 : bodyOf Cx 19 = some c19_0 := by kernel_rfl
theorem res19 : resOf Cx 19 = some [.tmp 4] := by kernel_rfl
theorem pure19 : Cx.pure 19 = false := by kernel_rfl
-- RULES 19: n19_0, n19_1, n19_2, n19_3, n19_4, n19_5, n19_6, n19_7, n19_8, n19_9, n19_10, n19_11, n19_12, n19_13, n19_14, n19_15, n19_16, n19_17, n19_18, n19_19, n19_20, n19_21, n19_22, n19_23, n19_24, n19_25
def o20_1 : List AO := [{ dst := (some 6), op := .assign (.const (.int .i64 20)), ty := 3, guard := none }]
def c20_1 : AC := .region o20_1 []
theorem n20_1 : Run Cx 20 T ds ro (.code c20_1 :: k) H Q = RunOps Cx 20 T ds ro o20_1 k H Q := run_region
def o20_3 : List AO := [{ dst := (some 10), op := .move (.tmp 6), ty := 3, guard := none },
  { dst := (some 7), op := .assign (.const (.int .i64 0)), ty := 3, guard := none },
  { dst := (some 8), op := .assign (.tmp 10), ty := 3, guard := none }]
def c20_3 : AC := .region o20_3 []
theorem n20_3 : Run Cx 20 T ds ro (.code c20_3 :: k) H Q = RunOps Cx 20 T ds ro o20_3 k H Q := run_region
def o20_9 : List AO := [{ dst := (some 11), op := .move (.tmp 8), ty := 3, guard := none },
  { dst := (some 12), op := .move (.tmp 1), ty := 3, guard := none },
  { dst := (some 13), op := .binOp .leq 3 (.tmp 11) (.tmp 12) 3, ty := 4, guard := none }]
def c20_9 : AC := .region o20_9 []
theorem n20_9 : Run Cx 20 T ds ro (.code c20_9 :: k) H Q = RunOps Cx 20 T ds ro o20_9 k H Q := run_region
def c20_11 : AC := .skip
theorem n20_11 : Run Cx 20 T ds ro (.code c20_11 :: k) H Q = Run Cx 20 T ds ro (k) H Q := run_skip
def c20_12 : AC := .exit 0
theorem n20_12 : Run Cx 20 T ds ro (.code c20_12 :: k) H Q = RunExit Cx 20 T ds ro 0 k k H Q := run_exit_start
def c20_10 : AC := .cond (.tmp 13) c20_11 c20_12
theorem n20_10 : Run Cx 20 T ds ro (.code c20_10 :: k) H Q = RunCond Cx 20 T ds ro (.tmp 13) (ev T (.tmp 13)) c20_11 c20_12 k H Q := run_condC
def c20_8 : AC := .seq c20_9 c20_10
theorem n20_8 : Run Cx 20 T ds ro (.code c20_8 :: k) H Q = Run Cx 20 T ds ro (.code c20_9 :: .code c20_10 :: k) H Q := run_seq
def o20_15 : List AO := [{ dst := (some 14), op := .move (.tmp 0), ty := 22, guard := none },
  { dst := (some 15), op := .move (.tmp 7), ty := 3, guard := none },
  { dst := (some 16), op := .move (.tmp 8), ty := 3, guard := none },
  { dst := (some 17), op := .move (.tmp 2), ty := 43, guard := none },
  { dst := (some 18), op := .call { callee := (.value (.func 23)), args := #[(.tmp 14), (.tmp 15), (.tmp 16), (.tmp 17)], argTypes := #[22, 3, 3, 43] }, ty := 0, guard := none }]
def c20_15 : AC := .region o20_15 []
theorem n20_15 : Run Cx 20 T ds ro (.code c20_15 :: k) H Q = RunOps Cx 20 T ds ro o20_15 k H Q := run_region
def o20_17 : List AO := [{ dst := (some 19), op := .move (.tmp 8), ty := 3, guard := none },
  { dst := (some 7), op := .assign (.tmp 19), ty := 3, guard := none }]
def c20_17 : AC := .region o20_17 []
theorem n20_17 : Run Cx 20 T ds ro (.code c20_17 :: k) H Q = RunOps Cx 20 T ds ro o20_17 k H Q := run_region
def o20_18 : List AO := [{ dst := (some 20), op := .move (.tmp 8), ty := 3, guard := none },
  { dst := (some 21), op := .move (.tmp 6), ty := 3, guard := none },
  { dst := (some 22), op := .binOp .add 3 (.tmp 20) (.tmp 21) 3, ty := 3, guard := none },
  { dst := (some 8), op := .assign (.tmp 22), ty := 3, guard := none }]
def c20_18 : AC := .region o20_18 []
theorem n20_18 : Run Cx 20 T ds ro (.code c20_18 :: k) H Q = RunOps Cx 20 T ds ro o20_18 k H Q := run_region
def c20_16 : AC := .seq c20_17 c20_18
theorem n20_16 : Run Cx 20 T ds ro (.code c20_16 :: k) H Q = Run Cx 20 T ds ro (.code c20_17 :: .code c20_18 :: k) H Q := run_seq
def c20_14 : AC := .seq c20_15 c20_16
theorem n20_14 : Run Cx 20 T ds ro (.code c20_14 :: k) H Q = Run Cx 20 T ds ro (.code c20_15 :: .code c20_16 :: k) H Q := run_seq
def c20_13 : AC := .block 1 c20_14
theorem n20_13 : Run Cx 20 T ds ro (.code c20_13 :: k) H Q = Run Cx 20 T ds ro (.code c20_14 :: .inBlock 1 :: k) H Q := run_block
def c20_7 : AC := .seq c20_8 c20_13
theorem n20_7 : Run Cx 20 T ds ro (.code c20_7 :: k) H Q = Run Cx 20 T ds ro (.code c20_8 :: .code c20_13 :: k) H Q := run_seq
def c20_6 : AC := .loop c20_7
theorem n20_6 : Run Cx 20 T ds ro (.code c20_6 :: k) H Q = Run Cx 20 T ds ro (.inLoop c20_7 :: k) H Q := run_loop'
def c20_5 : AC := .block 0 c20_6
theorem n20_5 : Run Cx 20 T ds ro (.code c20_5 :: k) H Q = Run Cx 20 T ds ro (.code c20_6 :: .inBlock 0 :: k) H Q := run_block
def o20_20 : List AO := [{ dst := (some 23), op := .move (.tmp 0), ty := 22, guard := none },
  { dst := (some 24), op := .move (.tmp 7), ty := 3, guard := none },
  { dst := (some 25), op := .move (.tmp 1), ty := 3, guard := none },
  { dst := (some 26), op := .move (.tmp 2), ty := 43, guard := none },
  { dst := (some 27), op := .call { callee := (.value (.func 23)), args := #[(.tmp 23), (.tmp 24), (.tmp 25), (.tmp 26)], argTypes := #[22, 3, 3, 43] }, ty := 0, guard := none }]
def c20_20 : AC := .region o20_20 []
theorem n20_20 : Run Cx 20 T ds ro (.code c20_20 :: k) H Q = RunOps Cx 20 T ds ro o20_20 k H Q := run_region
def o20_25 : List AO := [{ dst := (some 28), op := .move (.tmp 6), ty := 3, guard := none },
  { dst := (some 29), op := .move (.tmp 1), ty := 3, guard := none },
  { dst := (some 30), op := .binOp .lss 3 (.tmp 28) (.tmp 29) 3, ty := 4, guard := none }]
def c20_25 : AC := .region o20_25 []
theorem n20_25 : Run Cx 20 T ds ro (.code c20_25 :: k) H Q = RunOps Cx 20 T ds ro o20_25 k H Q := run_region
def c20_27 : AC := .skip
theorem n20_27 : Run Cx 20 T ds ro (.code c20_27 :: k) H Q = Run Cx 20 T ds ro (k) H Q := run_skip
def c20_28 : AC := .exit 2
theorem n20_28 : Run Cx 20 T ds ro (.code c20_28 :: k) H Q = RunExit Cx 20 T ds ro 2 k k H Q := run_exit_start
def c20_26 : AC := .cond (.tmp 30) c20_27 c20_28
theorem n20_26 : Run Cx 20 T ds ro (.code c20_26 :: k) H Q = RunCond Cx 20 T ds ro (.tmp 30) (ev T (.tmp 30)) c20_27 c20_28 k H Q := run_condC
def c20_24 : AC := .seq c20_25 c20_26
theorem n20_24 : Run Cx 20 T ds ro (.code c20_24 :: k) H Q = Run Cx 20 T ds ro (.code c20_25 :: .code c20_26 :: k) H Q := run_seq
def o20_31 : List AO := [{ dst := (some 31), op := .move (.tmp 6), ty := 3, guard := none },
  { dst := (some 32), op := .binOp .mul 3 (.const (.int .i64 2)) (.tmp 31) 3, ty := 3, guard := none },
  { dst := (some 7), op := .assign (.const (.int .i64 0)), ty := 3, guard := none },
  { dst := (some 8), op := .assign (.tmp 32), ty := 3, guard := none }]
def c20_31 : AC := .region o20_31 []
theorem n20_31 : Run Cx 20 T ds ro (.code c20_31 :: k) H Q = RunOps Cx 20 T ds ro o20_31 k H Q := run_region
def o20_37 : List AO := [{ dst := (some 33), op := .move (.tmp 8), ty := 3, guard := none },
  { dst := (some 34), op := .move (.tmp 1), ty := 3, guard := none },
  { dst := (some 35), op := .binOp .leq 3 (.tmp 33) (.tmp 34) 3, ty := 4, guard := none }]
def c20_37 : AC := .region o20_37 []
theorem n20_37 : Run Cx 20 T ds ro (.code c20_37 :: k) H Q = RunOps Cx 20 T ds ro o20_37 k H Q := run_region
def c20_39 : AC := .skip
theorem n20_39 : Run Cx 20 T ds ro (.code c20_39 :: k) H Q = Run Cx 20 T ds ro (k) H Q := run_skip
def c20_40 : AC := .exit 4
theorem n20_40 : Run Cx 20 T ds ro (.code c20_40 :: k) H Q = RunExit Cx 20 T ds ro 4 k k H Q := run_exit_start
def c20_38 : AC := .cond (.tmp 35) c20_39 c20_40
theorem n20_38 : Run Cx 20 T ds ro (.code c20_38 :: k) H Q = RunCond Cx 20 T ds ro (.tmp 35) (ev T (.tmp 35)) c20_39 c20_40 k H Q := run_condC
def c20_36 : AC := .seq c20_37 c20_38
theorem n20_36 : Run Cx 20 T ds ro (.code c20_36 :: k) H Q = Run Cx 20 T ds ro (.code c20_37 :: .code c20_38 :: k) H Q := run_seq
def o20_43 : List AO := [{ dst := (some 36), op := .move (.tmp 0), ty := 22, guard := none },
  { dst := (some 37), op := .move (.tmp 7), ty := 3, guard := none },
  { dst := (some 38), op := .move (.tmp 7), ty := 3, guard := none },
  { dst := (some 39), op := .move (.tmp 6), ty := 3, guard := none },
  { dst := (some 40), op := .binOp .add 3 (.tmp 38) (.tmp 39) 3, ty := 3, guard := none },
  { dst := (some 41), op := .move (.tmp 8), ty := 3, guard := none },
  { dst := (some 42), op := .move (.tmp 2), ty := 43, guard := none },
  { dst := (some 43), op := .call { callee := (.value (.func 24)), args := #[(.tmp 36), (.tmp 37), (.tmp 40), (.tmp 41), (.tmp 42)], argTypes := #[22, 3, 3, 3, 43] }, ty := 0, guard := none }]
def c20_43 : AC := .region o20_43 []
theorem n20_43 : Run Cx 20 T ds ro (.code c20_43 :: k) H Q = RunOps Cx 20 T ds ro o20_43 k H Q := run_region
def o20_45 : List AO := [{ dst := (some 44), op := .move (.tmp 8), ty := 3, guard := none },
  { dst := (some 7), op := .assign (.tmp 44), ty := 3, guard := none }]
def c20_45 : AC := .region o20_45 []
theorem n20_45 : Run Cx 20 T ds ro (.code c20_45 :: k) H Q = RunOps Cx 20 T ds ro o20_45 k H Q := run_region
def o20_46 : List AO := [{ dst := (some 45), op := .move (.tmp 8), ty := 3, guard := none },
  { dst := (some 46), op := .move (.tmp 6), ty := 3, guard := none },
  { dst := (some 47), op := .binOp .mul 3 (.const (.int .i64 2)) (.tmp 46) 3, ty := 3, guard := none },
  { dst := (some 48), op := .binOp .add 3 (.tmp 45) (.tmp 47) 3, ty := 3, guard := none },
  { dst := (some 8), op := .assign (.tmp 48), ty := 3, guard := none }]
def c20_46 : AC := .region o20_46 []
theorem n20_46 : Run Cx 20 T ds ro (.code c20_46 :: k) H Q = RunOps Cx 20 T ds ro o20_46 k H Q := run_region
def c20_44 : AC := .seq c20_45 c20_46
theorem n20_44 : Run Cx 20 T ds ro (.code c20_44 :: k) H Q = Run Cx 20 T ds ro (.code c20_45 :: .code c20_46 :: k) H Q := run_seq
def c20_42 : AC := .seq c20_43 c20_44
theorem n20_42 : Run Cx 20 T ds ro (.code c20_42 :: k) H Q = Run Cx 20 T ds ro (.code c20_43 :: .code c20_44 :: k) H Q := run_seq
def c20_41 : AC := .block 5 c20_42
theorem n20_41 : Run Cx 20 T ds ro (.code c20_41 :: k) H Q = Run Cx 20 T ds ro (.code c20_42 :: .inBlock 5 :: k) H Q := run_block
def c20_35 : AC := .seq c20_36 c20_41
theorem n20_35 : Run Cx 20 T ds ro (.code c20_35 :: k) H Q = Run Cx 20 T ds ro (.code c20_36 :: .code c20_41 :: k) H Q := run_seq
def c20_34 : AC := .loop c20_35
theorem n20_34 : Run Cx 20 T ds ro (.code c20_34 :: k) H Q = Run Cx 20 T ds ro (.inLoop c20_35 :: k) H Q := run_loop'
def c20_33 : AC := .block 4 c20_34
theorem n20_33 : Run Cx 20 T ds ro (.code c20_33 :: k) H Q = Run Cx 20 T ds ro (.code c20_34 :: .inBlock 4 :: k) H Q := run_block
def o20_49 : List AO := [{ dst := (some 49), op := .move (.tmp 7), ty := 3, guard := none },
  { dst := (some 50), op := .move (.tmp 6), ty := 3, guard := none },
  { dst := (some 51), op := .binOp .add 3 (.tmp 49) (.tmp 50) 3, ty := 3, guard := none },
  { dst := (some 9), op := .assign (.tmp 51), ty := 3, guard := none }]
def c20_49 : AC := .region o20_49 []
theorem n20_49 : Run Cx 20 T ds ro (.code c20_49 :: k) H Q = RunOps Cx 20 T ds ro o20_49 k H Q := run_region
def o20_51 : List AO := [{ dst := (some 52), op := .move (.tmp 9), ty := 3, guard := none },
  { dst := (some 53), op := .move (.tmp 1), ty := 3, guard := none },
  { dst := (some 54), op := .binOp .lss 3 (.tmp 52) (.tmp 53) 3, ty := 4, guard := none }]
def c20_51 : AC := .region o20_51 []
theorem n20_51 : Run Cx 20 T ds ro (.code c20_51 :: k) H Q = RunOps Cx 20 T ds ro o20_51 k H Q := run_region
def o20_53 : List AO := [{ dst := (some 55), op := .move (.tmp 0), ty := 22, guard := none },
  { dst := (some 56), op := .move (.tmp 7), ty := 3, guard := none },
  { dst := (some 57), op := .move (.tmp 9), ty := 3, guard := none },
  { dst := (some 58), op := .move (.tmp 1), ty := 3, guard := none },
  { dst := (some 59), op := .move (.tmp 2), ty := 43, guard := none },
  { dst := (some 60), op := .call { callee := (.value (.func 24)), args := #[(.tmp 55), (.tmp 56), (.tmp 57), (.tmp 58), (.tmp 59)], argTypes := #[22, 3, 3, 3, 43] }, ty := 0, guard := none }]
def c20_53 : AC := .region o20_53 []
theorem n20_53 : Run Cx 20 T ds ro (.code c20_53 :: k) H Q = RunOps Cx 20 T ds ro o20_53 k H Q := run_region
def c20_54 : AC := .skip
theorem n20_54 : Run Cx 20 T ds ro (.code c20_54 :: k) H Q = Run Cx 20 T ds ro (k) H Q := run_skip
def c20_52 : AC := .cond (.tmp 54) c20_53 c20_54
theorem n20_52 : Run Cx 20 T ds ro (.code c20_52 :: k) H Q = RunCond Cx 20 T ds ro (.tmp 54) (ev T (.tmp 54)) c20_53 c20_54 k H Q := run_condC
def c20_50 : AC := .seq c20_51 c20_52
theorem n20_50 : Run Cx 20 T ds ro (.code c20_50 :: k) H Q = Run Cx 20 T ds ro (.code c20_51 :: .code c20_52 :: k) H Q := run_seq
def c20_48 : AC := .seq c20_49 c20_50
theorem n20_48 : Run Cx 20 T ds ro (.code c20_48 :: k) H Q = Run Cx 20 T ds ro (.code c20_49 :: .code c20_50 :: k) H Q := run_seq
def o20_55 : List AO := [{ dst := (some 61), op := .move (.tmp 6), ty := 3, guard := none },
  { dst := (some 62), op := .binOp .mul 3 (.tmp 61) (.const (.int .i64 2)) 3, ty := 3, guard := none },
  { dst := (some 6), op := .assign (.tmp 62), ty := 3, guard := none }]
def c20_55 : AC := .region o20_55 []
theorem n20_55 : Run Cx 20 T ds ro (.code c20_55 :: k) H Q = RunOps Cx 20 T ds ro o20_55 k H Q := run_region
def c20_47 : AC := .seq c20_48 c20_55
theorem n20_47 : Run Cx 20 T ds ro (.code c20_47 :: k) H Q = Run Cx 20 T ds ro (.code c20_48 :: .code c20_55 :: k) H Q := run_seq
def c20_32 : AC := .seq c20_33 c20_47
theorem n20_32 : Run Cx 20 T ds ro (.code c20_32 :: k) H Q = Run Cx 20 T ds ro (.code c20_33 :: .code c20_47 :: k) H Q := run_seq
def c20_30 : AC := .seq c20_31 c20_32
theorem n20_30 : Run Cx 20 T ds ro (.code c20_30 :: k) H Q = Run Cx 20 T ds ro (.code c20_31 :: .code c20_32 :: k) H Q := run_seq
def c20_29 : AC := .block 3 c20_30
theorem n20_29 : Run Cx 20 T ds ro (.code c20_29 :: k) H Q = Run Cx 20 T ds ro (.code c20_30 :: .inBlock 3 :: k) H Q := run_block
def c20_23 : AC := .seq c20_24 c20_29
theorem n20_23 : Run Cx 20 T ds ro (.code c20_23 :: k) H Q = Run Cx 20 T ds ro (.code c20_24 :: .code c20_29 :: k) H Q := run_seq
def c20_22 : AC := .loop c20_23
theorem n20_22 : Run Cx 20 T ds ro (.code c20_22 :: k) H Q = Run Cx 20 T ds ro (.inLoop c20_23 :: k) H Q := run_loop'
def c20_21 : AC := .block 2 c20_22
theorem n20_21 : Run Cx 20 T ds ro (.code c20_21 :: k) H Q = Run Cx 20 T ds ro (.code c20_22 :: .inBlock 2 :: k) H Q := run_block
def c20_19 : AC := .seq c20_20 c20_21
theorem n20_19 : Run Cx 20 T ds ro (.code c20_19 :: k) H Q = Run Cx 20 T ds ro (.code c20_20 :: .code c20_21 :: k) H Q := run_seq
def c20_4 : AC := .seq c20_5 c20_19
theorem n20_4 : Run Cx 20 T ds ro (.code c20_4 :: k) H Q = Run Cx 20 T ds ro (.code c20_5 :: .code c20_19 :: k) H Q := run_seq
def c20_2 : AC := .seq c20_3 c20_4
theorem n20_2 : Run Cx 20 T ds ro (.code c20_2 :: k) H Q = Run Cx 20 T ds ro (.code c20_3 :: .code c20_4 :: k) H Q := run_seq
def c20_0 : AC := .seq c20_1 c20_2
theorem n20_0 : Run Cx 20 T ds ro (.code c20_0 :: k) H Q = Run Cx 20 T ds ro (.code c20_1 :: .code c20_2 :: k) H Q := run_seq
theorem body20 : bodyOf Cx 20 = some c20_0 := by kernel_rfl
theorem res20 : resOf Cx 20 = some [] := by kernel_rfl
theorem pure20 : Cx.pure 20 = false := by kernel_rfl
-- RULES 20: n20_0, n20_1, n20_2, n20_3, n20_4, n20_5, n20_6, n20_7, n20_8, n20_9, n20_10, n20_11, n20_12, n20_13, n20_14, n20_15, n20_16, n20_17, n20_18, n20_19, n20_20, n20_21, n20_22, n20_23, n20_24, n20_25, n20_26, n20_27, n20_28, n20_29, n20_30, n20_31, n20_32, n20_33, n20_34, n20_35, n20_36, n20_37, n20_38, n20_39, n20_40, n20_41, n20_42, n20_43, n20_44, n20_45, n20_46, n20_47, n20_48, n20_49, n20_50, n20_51, n20_52, n20_53, n20_54, n20_55
def o21_1 : List AO := [{ dst := (some 4), op := .assign (.const (.int .i64 0)), ty := 3, guard := none }]
def c21_1 : AC := .region o21_1 []
theorem n21_1 : Run Cx 21 T ds ro (.code c21_1 :: k) H Q = RunOps Cx 21 T ds ro o21_1 k H Q := run_region
def o21_3 : List AO := [{ dst := (some 7), op := .move (.tmp 0), ty := 9, guard := none },
  { dst := (some 8), op := .call { callee := (.value (.func 25)), args := #[(.tmp 7)], argTypes := #[9] }, ty := 4, guard := none },
  { dst := (some 5), op := .assign (.tmp 8), ty := 4, guard := none }]
def c21_3 : AC := .region o21_3 []
theorem n21_3 : Run Cx 21 T ds ro (.code c21_3 :: k) H Q = RunOps Cx 21 T ds ro o21_3 k H Q := run_region
def o21_5 : List AO := [{ dst := (some 9), op := .move (.tmp 1), ty := 9, guard := none },
  { dst := (some 10), op := .call { callee := (.value (.func 25)), args := #[(.tmp 9)], argTypes := #[9] }, ty := 4, guard := none },
  { dst := (some 6), op := .assign (.tmp 10), ty := 4, guard := none }]
def c21_5 : AC := .region o21_5 []
theorem n21_5 : Run Cx 21 T ds ro (.code c21_5 :: k) H Q = RunOps Cx 21 T ds ro o21_5 k H Q := run_region
def o21_8 : List AO := [{ dst := (some 11), op := .move (.tmp 5), ty := 4, guard := none }]
def c21_8 : AC := .region o21_8 []
theorem n21_8 : Run Cx 21 T ds ro (.code c21_8 :: k) H Q = RunOps Cx 21 T ds ro o21_8 k H Q := run_region
def o21_12 : List AO := [{ dst := (some 12), op := .move (.tmp 6), ty := 4, guard := none }]
def c21_12 : AC := .region o21_12 []
theorem n21_12 : Run Cx 21 T ds ro (.code c21_12 :: k) H Q = RunOps Cx 21 T ds ro o21_12 k H Q := run_region
def o21_15 : List AO := [{ dst := (some 4), op := .assign (.const (.int .i64 0)), ty := 3, guard := none }]
def c21_15 : AC := .region o21_15 []
theorem n21_15 : Run Cx 21 T ds ro (.code c21_15 :: k) H Q = RunOps Cx 21 T ds ro o21_15 k H Q := run_region
def c21_16 : AC := .ret
theorem n21_16 : Run Cx 21 T [] none (.code c21_16 :: k) H Q = RunRes Cx T H Q (resOf Cx 21) := run_ret
def c21_14 : AC := .seq c21_15 c21_16
theorem n21_14 : Run Cx 21 T ds ro (.code c21_14 :: k) H Q = Run Cx 21 T ds ro (.code c21_15 :: .code c21_16 :: k) H Q := run_seq
def c21_17 : AC := .skip
theorem n21_17 : Run Cx 21 T ds ro (.code c21_17 :: k) H Q = Run Cx 21 T ds ro (k) H Q := run_skip
def c21_13 : AC := .cond (.tmp 12) c21_14 c21_17
theorem n21_13 : Run Cx 21 T ds ro (.code c21_13 :: k) H Q = RunCond Cx 21 T ds ro (.tmp 12) (ev T (.tmp 12)) c21_14 c21_17 k H Q := run_condC
def c21_11 : AC := .seq c21_12 c21_13
theorem n21_11 : Run Cx 21 T ds ro (.code c21_11 :: k) H Q = Run Cx 21 T ds ro (.code c21_12 :: .code c21_13 :: k) H Q := run_seq
def o21_19 : List AO := [{ dst := (some 4), op := .assign (.const (.int .i64 (-1))), ty := 3, guard := none }]
def c21_19 : AC := .region o21_19 []
theorem n21_19 : Run Cx 21 T ds ro (.code c21_19 :: k) H Q = RunOps Cx 21 T ds ro o21_19 k H Q := run_region
def c21_20 : AC := .ret
theorem n21_20 : Run Cx 21 T [] none (.code c21_20 :: k) H Q = RunRes Cx T H Q (resOf Cx 21) := run_ret
def c21_18 : AC := .seq c21_19 c21_20
theorem n21_18 : Run Cx 21 T ds ro (.code c21_18 :: k) H Q = Run Cx 21 T ds ro (.code c21_19 :: .code c21_20 :: k) H Q := run_seq
def c21_10 : AC := .seq c21_11 c21_18
theorem n21_10 : Run Cx 21 T ds ro (.code c21_10 :: k) H Q = Run Cx 21 T ds ro (.code c21_11 :: .code c21_18 :: k) H Q := run_seq
def c21_21 : AC := .skip
theorem n21_21 : Run Cx 21 T ds ro (.code c21_21 :: k) H Q = Run Cx 21 T ds ro (k) H Q := run_skip
def c21_9 : AC := .cond (.tmp 11) c21_10 c21_21
theorem n21_9 : Run Cx 21 T ds ro (.code c21_9 :: k) H Q = RunCond Cx 21 T ds ro (.tmp 11) (ev T (.tmp 11)) c21_10 c21_21 k H Q := run_condC
def c21_7 : AC := .seq c21_8 c21_9
theorem n21_7 : Run Cx 21 T ds ro (.code c21_7 :: k) H Q = Run Cx 21 T ds ro (.code c21_8 :: .code c21_9 :: k) H Q := run_seq
def o21_24 : List AO := [{ dst := (some 13), op := .move (.tmp 6), ty := 4, guard := none }]
def c21_24 : AC := .region o21_24 []
theorem n21_24 : Run Cx 21 T ds ro (.code c21_24 :: k) H Q = RunOps Cx 21 T ds ro o21_24 k H Q := run_region
def o21_27 : List AO := [{ dst := (some 4), op := .assign (.const (.int .i64 1)), ty := 3, guard := none }]
def c21_27 : AC := .region o21_27 []
theorem n21_27 : Run Cx 21 T ds ro (.code c21_27 :: k) H Q = RunOps Cx 21 T ds ro o21_27 k H Q := run_region
def c21_28 : AC := .ret
theorem n21_28 : Run Cx 21 T [] none (.code c21_28 :: k) H Q = RunRes Cx T H Q (resOf Cx 21) := run_ret
def c21_26 : AC := .seq c21_27 c21_28
theorem n21_26 : Run Cx 21 T ds ro (.code c21_26 :: k) H Q = Run Cx 21 T ds ro (.code c21_27 :: .code c21_28 :: k) H Q := run_seq
def c21_29 : AC := .skip
theorem n21_29 : Run Cx 21 T ds ro (.code c21_29 :: k) H Q = Run Cx 21 T ds ro (k) H Q := run_skip
def c21_25 : AC := .cond (.tmp 13) c21_26 c21_29
theorem n21_25 : Run Cx 21 T ds ro (.code c21_25 :: k) H Q = RunCond Cx 21 T ds ro (.tmp 13) (ev T (.tmp 13)) c21_26 c21_29 k H Q := run_condC
def c21_23 : AC := .seq c21_24 c21_25
theorem n21_23 : Run Cx 21 T ds ro (.code c21_23 :: k) H Q = Run Cx 21 T ds ro (.code c21_24 :: .code c21_25 :: k) H Q := run_seq
def o21_32 : List AO := [{ dst := (some 14), op := .move (.tmp 0), ty := 9, guard := none },
  { dst := (some 15), op := .move (.tmp 1), ty := 9, guard := none },
  { dst := (some 16), op := .binOp .lss 9 (.tmp 14) (.tmp 15) 9, ty := 4, guard := none }]
def c21_32 : AC := .region o21_32 []
theorem n21_32 : Run Cx 21 T ds ro (.code c21_32 :: k) H Q = RunOps Cx 21 T ds ro o21_32 k H Q := run_region
def o21_35 : List AO := [{ dst := (some 4), op := .assign (.const (.int .i64 (-1))), ty := 3, guard := none }]
def c21_35 : AC := .region o21_35 []
theorem n21_35 : Run Cx 21 T ds ro (.code c21_35 :: k) H Q = RunOps Cx 21 T ds ro o21_35 k H Q := run_region
def c21_36 : AC := .ret
theorem n21_36 : Run Cx 21 T [] none (.code c21_36 :: k) H Q = RunRes Cx T H Q (resOf Cx 21) := run_ret
def c21_34 : AC := .seq c21_35 c21_36
theorem n21_34 : Run Cx 21 T ds ro (.code c21_34 :: k) H Q = Run Cx 21 T ds ro (.code c21_35 :: .code c21_36 :: k) H Q := run_seq
def c21_37 : AC := .skip
theorem n21_37 : Run Cx 21 T ds ro (.code c21_37 :: k) H Q = Run Cx 21 T ds ro (k) H Q := run_skip
def c21_33 : AC := .cond (.tmp 16) c21_34 c21_37
theorem n21_33 : Run Cx 21 T ds ro (.code c21_33 :: k) H Q = RunCond Cx 21 T ds ro (.tmp 16) (ev T (.tmp 16)) c21_34 c21_37 k H Q := run_condC
def c21_31 : AC := .seq c21_32 c21_33
theorem n21_31 : Run Cx 21 T ds ro (.code c21_31 :: k) H Q = Run Cx 21 T ds ro (.code c21_32 :: .code c21_33 :: k) H Q := run_seq
def o21_40 : List AO := [{ dst := (some 17), op := .move (.tmp 0), ty := 9, guard := none },
  { dst := (some 18), op := .move (.tmp 1), ty := 9, guard := none },
  { dst := (some 19), op := .binOp .gtr 9 (.tmp 17) (.tmp 18) 9, ty := 4, guard := none }]
def c21_40 : AC := .region o21_40 []
theorem n21_40 : Run Cx 21 T ds ro (.code c21_40 :: k) H Q = RunOps Cx 21 T ds ro o21_40 k H Q := run_region
def o21_43 : List AO := [{ dst := (some 4), op := .assign (.const (.int .i64 1)), ty := 3, guard := none }]
def c21_43 : AC := .region o21_43 []
theorem n21_43 : Run Cx 21 T ds ro (.code c21_43 :: k) H Q = RunOps Cx 21 T ds ro o21_43 k H Q := run_region
def c21_44 : AC := .ret
theorem n21_44 : Run Cx 21 T [] none (.code c21_44 :: k) H Q = RunRes Cx T H Q (resOf Cx 21) := run_ret
def c21_42 : AC := .seq c21_43 c21_44
theorem n21_42 : Run Cx 21 T ds ro (.code c21_42 :: k) H Q = Run Cx 21 T ds ro (.code c21_43 :: .code c21_44 :: k) H Q := run_seq
def c21_45 : AC := .skip
theorem n21_45 : Run Cx 21 T ds ro (.code c21_45 :: k) H Q = Run Cx 21 T ds ro (k) H Q := run_skip
def c21_41 : AC := .cond (.tmp 19) c21_42 c21_45
theorem n21_41 : Run Cx 21 T ds ro (.code c21_41 :: k) H Q = RunCond Cx 21 T ds ro (.tmp 19) (ev T (.tmp 19)) c21_42 c21_45 k H Q := run_condC
def c21_39 : AC := .seq c21_40 c21_41
theorem n21_39 : Run Cx 21 T ds ro (.code c21_39 :: k) H Q = Run Cx 21 T ds ro (.code c21_40 :: .code c21_41 :: k) H Q := run_seq
def o21_47 : List AO := [{ dst := (some 4), op := .assign (.const (.int .i64 0)), ty := 3, guard := none }]
def c21_47 : AC := .region o21_47 []
theorem n21_47 : Run Cx 21 T ds ro (.code c21_47 :: k) H Q = RunOps Cx 21 T ds ro o21_47 k H Q := run_region
def c21_48 : AC := .ret
theorem n21_48 : Run Cx 21 T [] none (.code c21_48 :: k) H Q = RunRes Cx T H Q (resOf Cx 21) := run_ret
def c21_46 : AC := .seq c21_47 c21_48
theorem n21_46 : Run Cx 21 T ds ro (.code c21_46 :: k) H Q = Run Cx 21 T ds ro (.code c21_47 :: .code c21_48 :: k) H Q := run_seq
def c21_38 : AC := .seq c21_39 c21_46
theorem n21_38 : Run Cx 21 T ds ro (.code c21_38 :: k) H Q = Run Cx 21 T ds ro (.code c21_39 :: .code c21_46 :: k) H Q := run_seq
def c21_30 : AC := .seq c21_31 c21_38
theorem n21_30 : Run Cx 21 T ds ro (.code c21_30 :: k) H Q = Run Cx 21 T ds ro (.code c21_31 :: .code c21_38 :: k) H Q := run_seq
def c21_22 : AC := .seq c21_23 c21_30
theorem n21_22 : Run Cx 21 T ds ro (.code c21_22 :: k) H Q = Run Cx 21 T ds ro (.code c21_23 :: .code c21_30 :: k) H Q := run_seq
def c21_6 : AC := .seq c21_7 c21_22
theorem n21_6 : Run Cx 21 T ds ro (.code c21_6 :: k) H Q = Run Cx 21 T ds ro (.code c21_7 :: .code c21_22 :: k) H Q := run_seq
def c21_4 : AC := .seq c21_5 c21_6
theorem n21_4 : Run Cx 21 T ds ro (.code c21_4 :: k) H Q = Run Cx 21 T ds ro (.code c21_5 :: .code c21_6 :: k) H Q := run_seq
def c21_2 : AC := .seq c21_3 c21_4
theorem n21_2 : Run Cx 21 T ds ro (.code c21_2 :: k) H Q = Run Cx 21 T ds ro (.code c21_3 :: .code c21_4 :: k) H Q := run_seq
def c21_0 : AC := .seq c21_1 c21_2
theorem n21_0 : Run Cx 21 T ds ro (.code c21_0 :: k) H Q = Run Cx 21 T ds ro (.code c21_1 :: .code c21_2 :: k) H Q := run_seq
theorem body21 : bodyOf Cx 21 = some c21_0 := by kernel_rfl
theorem res21 : resOf Cx 21 = some [.tmp 4] := by kernel_rfl
theorem pure21 : Cx.pure 21 = true := by kernel_rfl
-- RULES 21: n21_0, n21_1, n21_2, n21_3, n21_4, n21_5, n21_6, n21_7, n21_8, n21_9, n21_10, n21_11, n21_12, n21_13, n21_14, n21_15, n21_16, n21_17, n21_18, n21_19, n21_20, n21_21, n21_22, n21_23, n21_24, n21_25, n21_26, n21_27, n21_28, n21_29, n21_30, n21_31, n21_32, n21_33, n21_34, n21_35, n21_36, n21_37, n21_38, n21_39, n21_40, n21_41, n21_42, n21_43, n21_44, n21_45, n21_46, n21_47, n21_48
def o22_1 : List AO := [{ dst := (some 4), op := .assign (.const (.slice none 0 0)), ty := 22, guard := none }]
def c22_1 : AC := .region o22_1 []
theorem n22_1 : Run Cx 22 T ds ro (.code c22_1 :: k) H Q = RunOps Cx 22 T ds ro o22_1 k H Q := run_region
def o22_4 : List AO := [{ dst := (some 5), op := .move (.tmp 1), ty := 3, guard := none },
  { dst := (some 6), op := .binOp .lss 3 (.tmp 5) (.const (.int .i64 0)) 3, ty := 4, guard := none }]
def c22_4 : AC := .region o22_4 []
theorem n22_4 : Run Cx 22 T ds ro (.code c22_4 :: k) H Q = RunOps Cx 22 T ds ro o22_4 k H Q := run_region
def o22_6 : List AO := [{ dst := (some 7), op := .makeInterface 9 (.const (.string ⟨#[99, 97, 110, 110, 111, 116, 32, 98, 101, 32, 110, 101, 103, 97, 116, 105, 118, 101]⟩)), ty := 20, guard := none },
  { dst := none, op := .panic (.tmp 7), ty := 0, guard := none }]
def c22_6 : AC := .region o22_6 []
theorem n22_6 : Run Cx 22 T ds ro (.code c22_6 :: k) H Q = RunOps Cx 22 T ds ro o22_6 k H Q := run_region
def c22_7 : AC := .skip
theorem n22_7 : Run Cx 22 T ds ro (.code c22_7 :: k) H Q = Run Cx 22 T ds ro (k) H Q := run_skip
def c22_5 : AC := .cond (.tmp 6) c22_6 c22_7
theorem n22_5 : Run Cx 22 T ds ro (.code c22_5 :: k) H Q = RunCond Cx 22 T ds ro (.tmp 6) (ev T (.tmp 6)) c22_6 c22_7 k H Q := run_condC
def c22_3 : AC := .seq c22_4 c22_5
theorem n22_3 : Run Cx 22 T ds ro (.code c22_3 :: k) H Q = Run Cx 22 T ds ro (.code c22_4 :: .code c22_5 :: k) H Q := run_seq
def o22_10 : List AO := [{ dst := (some 8), op := .move (.tmp 1), ty := 3, guard := none },
  { dst := (some 9), op := .move (.tmp 0), ty := 22, guard := none },
  { dst := (some 10), op := .call { callee := (.builtin .cap), args := #[(.tmp 9)], argTypes := #[22] }, ty := 3, guard := none },
  { dst := (some 11), op := .move (.tmp 0), ty := 22, guard := none },
  { dst := (some 12), op := .call { callee := (.builtin .len), args := #[(.tmp 11)], argTypes := #[22] }, ty := 3, guard := none },
  { dst := (some 13), op := .binOp .sub 3 (.tmp 10) (.tmp 12) 3, ty := 3, guard := none },
  { dst := (some 14), op := .binOp .sub 3 (.tmp 8) (.tmp 13) 3, ty := 3, guard := none },
  { dst := (some 1), op := .assign (.tmp 14), ty := 3, guard := none }]
def c22_10 : AC := .region o22_10 []
theorem n22_10 : Run Cx 22 T ds ro (.code c22_10 :: k) H Q = RunOps Cx 22 T ds ro o22_10 k H Q := run_region
def o22_12 : List AO := [{ dst := (some 15), op := .move (.tmp 1), ty := 3, guard := none },
  { dst := (some 16), op := .binOp .gtr 3 (.tmp 15) (.const (.int .i64 0)) 3, ty := 4, guard := none }]
def c22_12 : AC := .region o22_12 []
theorem n22_12 : Run Cx 22 T ds ro (.code c22_12 :: k) H Q = RunOps Cx 22 T ds ro o22_12 k H Q := run_region
def o22_14 : List AO := [{ dst := (some 17), op := .move (.tmp 0), ty := 22, guard := none },
  { dst := (some 18), op := .move (.tmp 0), ty := 22, guard := none },
  { dst := (some 19), op := .call { callee := (.builtin .cap), args := #[(.tmp 18)], argTypes := #[22] }, ty := 3, guard := none },
  { dst := (some 20), op := .slice 22 (.tmp 17) none (some (.tmp 19)) none, ty := 22, guard := none },
  { dst := (some 21), op := .move (.tmp 1), ty := 3, guard := none },
  { dst := (some 22), op := .call { callee := (.builtin .append), args := #[(.tmp 20), (.tmp 21)], argTypes := #[22, 3] }, ty := 22, guard := none },
  { dst := (some 23), op := .move (.tmp 0), ty := 22, guard := none },
  { dst := (some 24), op := .call { callee := (.builtin .len), args := #[(.tmp 23)], argTypes := #[22] }, ty := 3, guard := none },
  { dst := (some 25), op := .slice 22 (.tmp 22) none (some (.tmp 24)) none, ty := 22, guard := none },
  { dst := (some 0), op := .assign (.tmp 25), ty := 22, guard := none }]
def c22_14 : AC := .region o22_14 []
theorem n22_14 : Run Cx 22 T ds ro (.code c22_14 :: k) H Q = RunOps Cx 22 T ds ro o22_14 k H Q := run_region
def c22_15 : AC := .skip
theorem n22_15 : Run Cx 22 T ds ro (.code c22_15 :: k) H Q = Run Cx 22 T ds ro (k) H Q := run_skip
def c22_13 : AC := .cond (.tmp 16) c22_14 c22_15
theorem n22_13 : Run Cx 22 T ds ro (.code c22_13 :: k) H Q = RunCond Cx 22 T ds ro (.tmp 16) (ev T (.tmp 16)) c22_14 c22_15 k H Q := run_condC
def c22_11 : AC := .seq c22_12 c22_13
theorem n22_11 : Run Cx 22 T ds ro (.code c22_11 :: k) H Q = Run Cx 22 T ds ro (.code c22_12 :: .code c22_13 :: k) H Q := run_seq
def c22_9 : AC := .seq c22_10 c22_11
theorem n22_9 : Run Cx 22 T ds ro (.code c22_9 :: k) H Q = Run Cx 22 T ds ro (.code c22_10 :: .code c22_11 :: k) H Q := run_seq
def o22_17 : List AO := [{ dst := (some 26), op := .move (.tmp 0), ty := 22, guard := none },
  { dst := (some 4), op := .assign (.tmp 26), ty := 22, guard := none }]
def c22_17 : AC := .region o22_17 []
theorem n22_17 : Run Cx 22 T ds ro (.code c22_17 :: k) H Q = RunOps Cx 22 T ds ro o22_17 k H Q := run_region
def c22_18 : AC := .ret
theorem n22_18 : Run Cx 22 T [] none (.code c22_18 :: k) H Q = RunRes Cx T H Q (resOf Cx 22) := run_ret
def c22_16 : AC := .seq c22_17 c22_18
theorem n22_16 : Run Cx 22 T ds ro (.code c22_16 :: k) H Q = Run Cx 22 T ds ro (.code c22_17 :: .code c22_18 :: k) H Q := run_seq
def c22_8 : AC := .seq c22_9 c22_16
theorem n22_8 : Run Cx 22 T ds ro (.code c22_8 :: k) H Q = Run Cx 22 T ds ro (.code c22_9 :: .code c22_16 :: k) H Q := run_seq
def c22_2 : AC := .seq c22_3 c22_8
theorem n22_2 : Run Cx 22 T ds ro (.code c22_2 :: k) H Q = Run Cx 22 T ds ro (.code c22_3 :: .code c22_8 :: k) H Q := run_seq
def c22_0 : AC := .seq c22_1 c22_2
theorem n22_0 : Run Cx 22 T ds ro (.code c22_0 :: k) H Q = Run Cx 22 T ds ro (.code c22_1 :: .code c22_2 :: k) H Q := run_seq
theorem body22 : bodyOf Cx 22 = some c22_0 := by kernel_rfl
theorem res22 : resOf Cx 22 = some [.tmp 4] := by kernel_rfl
theorem pure22 : Cx.pure 22 = false := by kernel_rfl
-- RULES 22: n22_0, n22_1, n22_2, n22_3, n22_4, n22_5, n22_6, n22_7, n22_8, n22_9, n22_10, n22_11, n22_12, n22_13, n22_14, n22_15, n22_16, n22_17, n22_18
def o23_1 : List AO := [{ dst := (some 10), op := .move (.tmp 1), ty := 3, guard := none },
  { dst := (some 11), op := .binOp .add 3 (.tmp 10) (.const (.int .i64 1)) 3, ty := 3, guard := none },
  { dst := (some 8), op := .assign (.tmp 11), ty := 3, guard := none }]
def c23_1 : AC := .region o23_1 []
theorem n23_1 : Run Cx 23 T ds ro (.code c23_1 :: k) H Q = RunOps Cx 23 T ds ro o23_1 k H Q := run_region
def o23_6 : List AO := [{ dst := (some 12), op := .move (.tmp 8), ty := 3, guard := none },
  { dst := (some 13), op := .move (.tmp 2), ty := 3, guard := none },
  { dst := (some 14), op := .binOp .lss 3 (.tmp 12) (.tmp 13) 3, ty := 4, guard := none }]
def c23_6 : AC := .region o23_6 []
theorem n23_6 : Run Cx 23 T ds ro (.code c23_6 :: k) H Q = RunOps Cx 23 T ds ro o23_6 k H Q := run_region
def c23_8 : AC := .skip
theorem n23_8 : Run Cx 23 T ds ro (.code c23_8 :: k) H Q = Run Cx 23 T ds ro (k) H Q := run_skip
def c23_9 : AC := .exit 0
theorem n23_9 : Run Cx 23 T ds ro (.code c23_9 :: k) H Q = RunExit Cx 23 T ds ro 0 k k H Q := run_exit_start
def c23_7 : AC := .cond (.tmp 14) c23_8 c23_9
theorem n23_7 : Run Cx 23 T ds ro (.code c23_7 :: k) H Q = RunCond Cx 23 T ds ro (.tmp 14) (ev T (.tmp 14)) c23_8 c23_9 k H Q := run_condC
def c23_5 : AC := .seq c23_6 c23_7
theorem n23_5 : Run Cx 23 T ds ro (.code c23_5 :: k) H Q = Run Cx 23 T ds ro (.code c23_6 :: .code c23_7 :: k) H Q := run_seq
def o23_13 : List AO := [{ dst := (some 17), op := .move (.tmp 8), ty := 3, guard := none },
  { dst := (some 9), op := .assign (.tmp 17), ty := 3, guard := none }]
def c23_13 : AC := .region o23_13 []
theorem n23_13 : Run Cx 23 T ds ro (.code c23_13 :: k) H Q = RunOps Cx 23 T ds ro o23_13 k H Q := run_region
def o23_18 : List AO := [{ dst := (some 18), op := .move (.tmp 9), ty := 3, guard := none },
  { dst := (some 19), op := .move (.tmp 1), ty := 3, guard := none },
  { dst := (some 20), op := .binOp .gtr 3 (.tmp 18) (.tmp 19) 3, ty := 4, guard := none },
  { dst := (some 21), op := .move (.tmp 20), ty := 4, guard := none },
  { dst := (some 22), op := .move (.tmp 3), ty := 43, guard := (some (21, true)) },
  { dst := (some 23), op := .move (.tmp 0), ty := 22, guard := (some (21, true)) },
  { dst := (some 24), op := .move (.tmp 9), ty := 3, guard := (some (21, true)) },
  { dst := (some 25), op := .indexAddr 22 (.tmp 23) (.tmp 24), ty := 0, guard := (some (21, true)) },
  { dst := (some 26), op := .load 28 (.tmp 25), ty := 28, guard := (some (21, true)) },
  { dst := (some 27), op := .move (.tmp 0), ty := 22, guard := (some (21, true)) },
  { dst := (some 28), op := .move (.tmp 9), ty := 3, guard := (some (21, true)) },
  { dst := (some 29), op := .binOp .sub 3 (.tmp 28) (.const (.int .i64 1)) 3, ty := 3, guard := (some (21, true)) },
  { dst := (some 30), op := .indexAddr 22 (.tmp 27) (.tmp 29), ty := 0, guard := (some (21, true)) },
  { dst := (some 31), op := .load 28 (.tmp 30), ty := 28, guard := (some (21, true)) },
  { dst := (some 32), op := .call { callee := (.value (.tmp 22)), args := #[(.tmp 26), (.tmp 31)], argTypes := #[28, 28] }, ty := 3, guard := (some (21, true)) },
  { dst := (some 33), op := .binOp .lss 3 (.tmp 32) (.const (.int .i64 0)) 3, ty := 4, guard := (some (21, true)) },
  { dst := (some 34), op := .pick (.tmp 21) (.tmp 33) (.const (.bool false)), ty := 4, guard := none }]
def c23_18 : AC := .region o23_18 []
theorem n23_18 : Run Cx 23 T ds ro (.code c23_18 :: k) H Q = RunOps Cx 23 T ds ro o23_18 k H Q := run_region
def c23_20 : AC := .skip
theorem n23_20 : Run Cx 23 T ds ro (.code c23_20 :: k) H Q = Run Cx 23 T ds ro (k) H Q := run_skip
def c23_21 : AC := .exit 2
theorem n23_21 : Run Cx 23 T ds ro (.code c23_21 :: k) H Q = RunExit Cx 23 T ds ro 2 k k H Q := run_exit_start
def c23_19 : AC := .cond (.tmp 34) c23_20 c23_21
theorem n23_19 : Run Cx 23 T ds ro (.code c23_19 :: k) H Q = RunCond Cx 23 T ds ro (.tmp 34) (ev T (.tmp 34)) c23_20 c23_21 k H Q := run_condC
def c23_17 : AC := .seq c23_18 c23_19
theorem n23_17 : Run Cx 23 T ds ro (.code c23_17 :: k) H Q = Run Cx 23 T ds ro (.code c23_18 :: .code c23_19 :: k) H Q := run_seq
def o23_24 : List AO := [{ dst := (some 37), op := .move (.tmp 0), ty := 22, guard := none },
  { dst := (some 38), op := .move (.tmp 9), ty := 3, guard := none },
  { dst := (some 39), op := .move (.tmp 0), ty := 22, guard := none },
  { dst := (some 40), op := .move (.tmp 9), ty := 3, guard := none },
  { dst := (some 41), op := .binOp .sub 3 (.tmp 40) (.const (.int .i64 1)) 3, ty := 3, guard := none },
  { dst := (some 42), op := .move (.tmp 0), ty := 22, guard := none },
  { dst := (some 43), op := .move (.tmp 9), ty := 3, guard := none },
  { dst := (some 44), op := .binOp .sub 3 (.tmp 43) (.const (.int .i64 1)) 3, ty := 3, guard := none },
  { dst := (some 45), op := .indexAddr 22 (.tmp 42) (.tmp 44), ty := 0, guard := none },
  { dst := (some 46), op := .load 28 (.tmp 45), ty := 28, guard := none },
  { dst := (some 47), op := .move (.tmp 0), ty := 22, guard := none },
  { dst := (some 48), op := .move (.tmp 9), ty := 3, guard := none },
  { dst := (some 49), op := .indexAddr 22 (.tmp 47) (.tmp 48), ty := 0, guard := none },
  { dst := (some 50), op := .load 28 (.tmp 49), ty := 28, guard := none },
  { dst := (some 51), op := .indexAddr 22 (.tmp 37) (.tmp 38), ty := 0, guard := none },
  { dst := none, op := .store 28 (.tmp 51) (.tmp 46), ty := 0, guard := none },
  { dst := (some 52), op := .indexAddr 22 (.tmp 39) (.tmp 41), ty := 0, guard := none },
  { dst := none, op := .store 28 (.tmp 52) (.tmp 50), ty := 0, guard := none }]
def c23_24 : AC := .region o23_24 []
theorem n23_24 : Run Cx 23 T ds ro (.code c23_24 :: k) H Q = RunOps Cx 23 T ds ro o23_24 k H Q := run_region
def c23_23 : AC := .block 3 c23_24
theorem n23_23 : Run Cx 23 T ds ro (.code c23_23 :: k) H Q = Run Cx 23 T ds ro (.code c23_24 :: .inBlock 3 :: k) H Q := run_block
def o23_25 : List AO := [{ dst := (some 35), op := .move (.tmp 9), ty := 3, guard := none },
  { dst := (some 36), op := .binOp .sub 3 (.tmp 35) (.const (.int .i64 1)) 3, ty := 3, guard := none },
  { dst := (some 9), op := .assign (.tmp 36), ty := 3, guard := none }]
def c23_25 : AC := .region o23_25 []
theorem n23_25 : Run Cx 23 T ds ro (.code c23_25 :: k) H Q = RunOps Cx 23 T ds ro o23_25 k H Q := run_region
def c23_22 : AC := .seq c23_23 c23_25
theorem n23_22 : Run Cx 23 T ds ro (.code c23_22 :: k) H Q = Run Cx 23 T ds ro (.code c23_23 :: .code c23_25 :: k) H Q := run_seq
def c23_16 : AC := .seq c23_17 c23_22
theorem n23_16 : Run Cx 23 T ds ro (.code c23_16 :: k) H Q = Run Cx 23 T ds ro (.code c23_17 :: .code c23_22 :: k) H Q := run_seq
def c23_15 : AC := .loop c23_16
theorem n23_15 : Run Cx 23 T ds ro (.code c23_15 :: k) H Q = Run Cx 23 T ds ro (.inLoop c23_16 :: k) H Q := run_loop'
def c23_14 : AC := .block 2 c23_15
theorem n23_14 : Run Cx 23 T ds ro (.code c23_14 :: k) H Q = Run Cx 23 T ds ro (.code c23_15 :: .inBlock 2 :: k) H Q := run_block
def c23_12 : AC := .seq c23_13 c23_14
theorem n23_12 : Run Cx 23 T ds ro (.code c23_12 :: k) H Q = Run Cx 23 T ds ro (.code c23_13 :: .code c23_14 :: k) H Q := run_seq
def c23_11 : AC := .block 1 c23_12
theorem n23_11 : Run Cx 23 T ds ro (.code c23_11 :: k) H Q = Run Cx 23 T ds ro (.code c23_12 :: .inBlock 1 :: k) H Q := run_block
def o23_26 : List AO := [{ dst := (some 15), op := .move (.tmp 8), ty := 3, guard := none },
  { dst := (some 16), op := .binOp .add 3 (.tmp 15) (.const (.int .i64 1)) 3, ty := 3, guard := none },
  { dst := (some 8), op := .assign (.tmp 16), ty := 3, guard := none }]
def c23_26 : AC := .region o23_26 []
theorem n23_26 : Run Cx 23 T ds ro (.code c23_26 :: k) H Q = RunOps Cx 23 T ds ro o23_26 k H Q := run_region
def c23_10 : AC := .seq c23_11 c23_26
theorem n23_10 : Run Cx 23 T ds ro (.code c23_10 :: k) H Q = Run Cx 23 T ds ro (.code c23_11 :: .code c23_26 :: k) H Q := run_seq
def c23_4 : AC := .seq c23_5 c23_10
theorem n23_4 : Run Cx 23 T ds ro (.code c23_4 :: k) H Q = Run Cx 23 T ds ro (.code c23_5 :: .code c23_10 :: k) H Q := run_seq
def c23_3 : AC := .loop c23_4
theorem n23_3 : Run Cx 23 T ds ro (.code c23_3 :: k) H Q = Run Cx 23 T ds ro (.inLoop c23_4 :: k) H Q := run_loop'
def c23_2 : AC := .block 0 c23_3
theorem n23_2 : Run Cx 23 T ds ro (.code c23_2 :: k) H Q = Run Cx 23 T ds ro (.code c23_3 :: .inBlock 0 :: k) H Q := run_block
def c23_0 : AC := .seq c23_1 c23_2
theorem n23_0 : Run Cx 23 T ds ro (.code c23_0 :: k) H Q = Run Cx 23 T ds ro (.code c23_1 :: .code c23_2 :: k) H Q := run_seq
theorem body23 : bodyOf Cx 23 = some c23_0 := by kernel_rfl
theorem res23 : resOf Cx 23 = some [] := by kernel_rfl
theorem pure23 : Cx.pure 23 = false := by kernel_rfl
-- RULES 23: n23_0, n23_1, n23_2, n23_3, n23_4, n23_5, n23_6, n23_7, n23_8, n23_9, n23_10, n23_11, n23_12, n23_13, n23_14, n23_15, n23_16, n23_17, n23_18, n23_19, n23_20, n23_21, n23_22, n23_23, n23_24, n23_25, n23_26
def o24_2 : List AO := [{ dst := (some 25), op := .move (.tmp 2), ty := 3, guard := none },
  { dst := (some 26), op := .move (.tmp 1), ty := 3, guard := none },
  { dst := (some 27), op := .binOp .sub 3 (.tmp 25) (.tmp 26) 3, ty := 3, guard := none },
  { dst := (some 28), op := .binOp .eql 3 (.tmp 27) (.const (.int .i64 1)) 3, ty := 4, guard := none }]
def c24_2 : AC := .region o24_2 []
theorem n24_2 : Run Cx 24 T ds ro (.code c24_2 :: k) H Q = RunOps Cx 24 T ds ro o24_2 k H Q := run_region
def o24_5 : List AO := [{ dst := (some 29), op := .move (.tmp 2), ty := 3, guard := none },
  { dst := (some 10), op := .assign (.tmp 29), ty := 3, guard := none }]
def c24_5 : AC := .region o24_5 []
theorem n24_5 : Run Cx 24 T ds ro (.code c24_5 :: k) H Q = RunOps Cx 24 T ds ro o24_5 k H Q := run_region
def o24_7 : List AO := [{ dst := (some 30), op := .move (.tmp 3), ty := 3, guard := none },
  { dst := (some 11), op := .assign (.tmp 30), ty := 3, guard := none }]
def c24_7 : AC := .region o24_7 []
theorem n24_7 : Run Cx 24 T ds ro (.code c24_7 :: k) H Q = RunOps Cx 24 T ds ro o24_7 k H Q := run_region
def o24_13 : List AO := [{ dst := (some 31), op := .move (.tmp 10), ty := 3, guard := none },
  { dst := (some 32), op := .move (.tmp 11), ty := 3, guard := none },
  { dst := (some 33), op := .binOp .lss 3 (.tmp 31) (.tmp 32) 3, ty := 4, guard := none }]
def c24_13 : AC := .region o24_13 []
theorem n24_13 : Run Cx 24 T ds ro (.code c24_13 :: k) H Q = RunOps Cx 24 T ds ro o24_13 k H Q := run_region
def c24_15 : AC := .skip
theorem n24_15 : Run Cx 24 T ds ro (.code c24_15 :: k) H Q = Run Cx 24 T ds ro (k) H Q := run_skip
def c24_16 : AC := .exit 0
theorem n24_16 : Run Cx 24 T ds ro (.code c24_16 :: k) H Q = RunExit Cx 24 T ds ro 0 k k H Q := run_exit_start
def c24_14 : AC := .cond (.tmp 33) c24_15 c24_16
theorem n24_14 : Run Cx 24 T ds ro (.code c24_14 :: k) H Q = RunCond Cx 24 T ds ro (.tmp 33) (ev T (.tmp 33)) c24_15 c24_16 k H Q := run_condC
def c24_12 : AC := .seq c24_13 c24_14
theorem n24_12 : Run Cx 24 T ds ro (.code c24_12 :: k) H Q = Run Cx 24 T ds ro (.code c24_13 :: .code c24_14 :: k) H Q := run_seq
def o24_19 : List AO := [{ dst := (some 34), op := .move (.tmp 10), ty := 3, guard := none },
  { dst := (some 35), op := .move (.tmp 11), ty := 3, guard := none },
  { dst := (some 36), op := .binOp .add 3 (.tmp 34) (.tmp 35) 3, ty := 3, guard := none },
  { dst := (some 37), op := .convert 3 53 (.tmp 36), ty := 53, guard := none },
  { dst := (some 38), op := .binOp .shr 53 (.tmp 37) (.const (.int .u64 1)) 53, ty := 53, guard := none },
  { dst := (some 39), op := .convert 53 3 (.tmp 38), ty := 3, guard := none },
  { dst := (some 12), op := .assign (.tmp 39), ty := 3, guard := none }]
def c24_19 : AC := .region o24_19 []
theorem n24_19 : Run Cx 24 T ds ro (.code c24_19 :: k) H Q = RunOps Cx 24 T ds ro o24_19 k H Q := run_region
def o24_21 : List AO := [{ dst := (some 40), op := .move (.tmp 4), ty := 43, guard := none },
  { dst := (some 41), op := .move (.tmp 0), ty := 22, guard := none },
  { dst := (some 42), op := .move (.tmp 12), ty := 3, guard := none },
  { dst := (some 43), op := .indexAddr 22 (.tmp 41) (.tmp 42), ty := 0, guard := none },
  { dst := (some 44), op := .load 28 (.tmp 43), ty := 28, guard := none },
  { dst := (some 45), op := .move (.tmp 0), ty := 22, guard := none },
  { dst := (some 46), op := .move (.tmp 1), ty := 3, guard := none },
  { dst := (some 47), op := .indexAddr 22 (.tmp 45) (.tmp 46), ty := 0, guard := none },
  { dst := (some 48), op := .load 28 (.tmp 47), ty := 28, guard := none },
  { dst := (some 49), op := .call { callee := (.value (.tmp 40)), args := #[(.tmp 44), (.tmp 48)], argTypes := #[28, 28] }, ty := 3, guard := none },
  { dst := (some 50), op := .binOp .lss 3 (.tmp 49) (.const (.int .i64 0)) 3, ty := 4, guard := none }]
def c24_21 : AC := .region o24_21 []
theorem n24_21 : Run Cx 24 T ds ro (.code c24_21 :: k) H Q = RunOps Cx 24 T ds ro o24_21 k H Q := run_region
def o24_23 : List AO := [{ dst := (some 51), op := .move (.tmp 12), ty := 3, guard := none },
  { dst := (some 52), op := .binOp .add 3 (.tmp 51) (.const (.int .i64 1)) 3, ty := 3, guard := none },
  { dst := (some 10), op := .assign (.tmp 52), ty := 3, guard := none }]
def c24_23 : AC := .region o24_23 []
theorem n24_23 : Run Cx 24 T ds ro (.code c24_23 :: k) H Q = RunOps Cx 24 T ds ro o24_23 k H Q := run_region
def o24_24 : List AO := [{ dst := (some 53), op := .move (.tmp 12), ty := 3, guard := none },
  { dst := (some 11), op := .assign (.tmp 53), ty := 3, guard := none }]
def c24_24 : AC := .region o24_24 []
theorem n24_24 : Run Cx 24 T ds ro (.code c24_24 :: k) H Q = RunOps Cx 24 T ds ro o24_24 k H Q := run_region
def c24_22 : AC := .cond (.tmp 50) c24_23 c24_24
theorem n24_22 : Run Cx 24 T ds ro (.code c24_22 :: k) H Q = RunCond Cx 24 T ds ro (.tmp 50) (ev T (.tmp 50)) c24_23 c24_24 k H Q := run_condC
def c24_20 : AC := .seq c24_21 c24_22
theorem n24_20 : Run Cx 24 T ds ro (.code c24_20 :: k) H Q = Run Cx 24 T ds ro (.code c24_21 :: .code c24_22 :: k) H Q := run_seq
def c24_18 : AC := .seq c24_19 c24_20
theorem n24_18 : Run Cx 24 T ds ro (.code c24_18 :: k) H Q = Run Cx 24 T ds ro (.code c24_19 :: .code c24_20 :: k) H Q := run_seq
def c24_17 : AC := .block 1 c24_18
theorem n24_17 : Run Cx 24 T ds ro (.code c24_17 :: k) H Q = Run Cx 24 T ds ro (.code c24_18 :: .inBlock 1 :: k) H Q := run_block
def c24_11 : AC := .seq c24_12 c24_17
theorem n24_11 : Run Cx 24 T ds ro (.code c24_11 :: k) H Q = Run Cx 24 T ds ro (.code c24_12 :: .code c24_17 :: k) H Q := run_seq
def c24_10 : AC := .loop c24_11
theorem n24_10 : Run Cx 24 T ds ro (.code c24_10 :: k) H Q = Run Cx 24 T ds ro (.inLoop c24_11 :: k) H Q := run_loop'
def c24_9 : AC := .block 0 c24_10
theorem n24_9 : Run Cx 24 T ds ro (.code c24_9 :: k) H Q = Run Cx 24 T ds ro (.code c24_10 :: .inBlock 0 :: k) H Q := run_block
def o24_27 : List AO := [{ dst := (some 54), op := .move (.tmp 1), ty := 3, guard := none },
  { dst := (some 13), op := .assign (.tmp 54), ty := 3, guard := none }]
def c24_27 : AC := .region o24_27 []
theorem n24_27 : Run Cx 24 T ds ro (.code c24_27 :: k) H Q = RunOps Cx 24 T ds ro o24_27 k H Q := run_region
def o24_32 : List AO := [{ dst := (some 55), op := .move (.tmp 13), ty := 3, guard := none },
  { dst := (some 56), op := .move (.tmp 10), ty := 3, guard := none },
  { dst := (some 57), op := .binOp .sub 3 (.tmp 56) (.const (.int .i64 1)) 3, ty := 3, guard := none },
  { dst := (some 58), op := .binOp .lss 3 (.tmp 55) (.tmp 57) 3, ty := 4, guard := none }]
def c24_32 : AC := .region o24_32 []
theorem n24_32 : Run Cx 24 T ds ro (.code c24_32 :: k) H Q = RunOps Cx 24 T ds ro o24_32 k H Q := run_region
def c24_34 : AC := .skip
theorem n24_34 : Run Cx 24 T ds ro (.code c24_34 :: k) H Q = Run Cx 24 T ds ro (k) H Q := run_skip
def c24_35 : AC := .exit 2
theorem n24_35 : Run Cx 24 T ds ro (.code c24_35 :: k) H Q = RunExit Cx 24 T ds ro 2 k k H Q := run_exit_start
def c24_33 : AC := .cond (.tmp 58) c24_34 c24_35
theorem n24_33 : Run Cx 24 T ds ro (.code c24_33 :: k) H Q = RunCond Cx 24 T ds ro (.tmp 58) (ev T (.tmp 58)) c24_34 c24_35 k H Q := run_condC
def c24_31 : AC := .seq c24_32 c24_33
theorem n24_31 : Run Cx 24 T ds ro (.code c24_31 :: k) H Q = Run Cx 24 T ds ro (.code c24_32 :: .code c24_33 :: k) H Q := run_seq
def o24_38 : List AO := [{ dst := (some 61), op := .move (.tmp 0), ty := 22, guard := none },
  { dst := (some 62), op := .move (.tmp 13), ty := 3, guard := none },
  { dst := (some 63), op := .move (.tmp 0), ty := 22, guard := none },
  { dst := (some 64), op := .move (.tmp 13), ty := 3, guard := none },
  { dst := (some 65), op := .binOp .add 3 (.tmp 64) (.const (.int .i64 1)) 3, ty := 3, guard := none },
  { dst := (some 66), op := .move (.tmp 0), ty := 22, guard := none },
  { dst := (some 67), op := .move (.tmp 13), ty := 3, guard := none },
  { dst := (some 68), op := .binOp .add 3 (.tmp 67) (.const (.int .i64 1)) 3, ty := 3, guard := none },
  { dst := (some 69), op := .indexAddr 22 (.tmp 66) (.tmp 68), ty := 0, guard := none },
  { dst := (some 70), op := .load 28 (.tmp 69), ty := 28, guard := none },
  { dst := (some 71), op := .move (.tmp 0), ty := 22, guard := none },
  { dst := (some 72), op := .move (.tmp 13), ty := 3, guard := none },
  { dst := (some 73), op := .indexAddr 22 (.tmp 71) (.tmp 72), ty := 0, guard := none },
  { dst := (some 74), op := .load 28 (.tmp 73), ty := 28, guard := none },
  { dst := (some 75), op := .indexAddr 22 (.tmp 61) (.tmp 62), ty := 0, guard := none },
  { dst := none, op := .store 28 (.tmp 75) (.tmp 70), ty := 0, guard := none },
  { dst := (some 76), op := .indexAddr 22 (.tmp 63) (.tmp 65), ty := 0, guard := none },
  { dst := none, op := .store 28 (.tmp 76) (.tmp 74), ty := 0, guard := none }]
def c24_38 : AC := .region o24_38 []
theorem n24_38 : Run Cx 24 T ds ro (.code c24_38 :: k) H Q = RunOps Cx 24 T ds ro o24_38 k H Q := run_region
def c24_37 : AC := .block 3 c24_38
theorem n24_37 : Run Cx 24 T ds ro (.code c24_37 :: k) H Q = Run Cx 24 T ds ro (.code c24_38 :: .inBlock 3 :: k) H Q := run_block
def o24_39 : List AO := [{ dst := (some 59), op := .move (.tmp 13), ty := 3, guard := none },
  { dst := (some 60), op := .binOp .add 3 (.tmp 59) (.const (.int .i64 1)) 3, ty := 3, guard := none },
  { dst := (some 13), op := .assign (.tmp 60), ty := 3, guard := none }]
def c24_39 : AC := .region o24_39 []
theorem n24_39 : Run Cx 24 T ds ro (.code c24_39 :: k) H Q = RunOps Cx 24 T ds ro o24_39 k H Q := run_region
def c24_36 : AC := .seq c24_37 c24_39
theorem n24_36 : Run Cx 24 T ds ro (.code c24_36 :: k) H Q = Run Cx 24 T ds ro (.code c24_37 :: .code c24_39 :: k) H Q := run_seq
def c24_30 : AC := .seq c24_31 c24_36
theorem n24_30 : Run Cx 24 T ds ro (.code c24_30 :: k) H Q = Run Cx 24 T ds ro (.code c24_31 :: .code c24_36 :: k) H Q := run_seq
def c24_29 : AC := .loop c24_30
theorem n24_29 : Run Cx 24 T ds ro (.code c24_29 :: k) H Q = Run Cx 24 T ds ro (.inLoop c24_30 :: k) H Q := run_loop'
def c24_28 : AC := .block 2 c24_29
theorem n24_28 : Run Cx 24 T ds ro (.code c24_28 :: k) H Q = Run Cx 24 T ds ro (.code c24_29 :: .inBlock 2 :: k) H Q := run_block
def c24_26 : AC := .seq c24_27 c24_28
theorem n24_26 : Run Cx 24 T ds ro (.code c24_26 :: k) H Q = Run Cx 24 T ds ro (.code c24_27 :: .code c24_28 :: k) H Q := run_seq
def c24_40 : AC := .ret
theorem n24_40 : Run Cx 24 T [] none (.code c24_40 :: k) H Q = RunRes Cx T H Q (resOf Cx 24) := run_ret
def c24_25 : AC := .seq c24_26 c24_40
theorem n24_25 : Run Cx 24 T ds ro (.code c24_25 :: k) H Q = Run Cx 24 T ds ro (.code c24_26 :: .code c24_40 :: k) H Q := run_seq
def c24_8 : AC := .seq c24_9 c24_25
theorem n24_8 : Run Cx 24 T ds ro (.code c24_8 :: k) H Q = Run Cx 24 T ds ro (.code c24_9 :: .code c24_25 :: k) H Q := run_seq
def c24_6 : AC := .seq c24_7 c24_8
theorem n24_6 : Run Cx 24 T ds ro (.code c24_6 :: k) H Q = Run Cx 24 T ds ro (.code c24_7 :: .code c24_8 :: k) H Q := run_seq
def c24_4 : AC := .seq c24_5 c24_6
theorem n24_4 : Run Cx 24 T ds ro (.code c24_4 :: k) H Q = Run Cx 24 T ds ro (.code c24_5 :: .code c24_6 :: k) H Q := run_seq
def c24_41 : AC := .skip
theorem n24_41 : Run Cx 24 T ds ro (.code c24_41 :: k) H Q = Run Cx 24 T ds ro (k) H Q := run_skip
def c24_3 : AC := .cond (.tmp 28) c24_4 c24_41
theorem n24_3 : Run Cx 24 T ds ro (.code c24_3 :: k) H Q = RunCond Cx 24 T ds ro (.tmp 28) (ev T (.tmp 28)) c24_4 c24_41 k H Q := run_condC
def c24_1 : AC := .seq c24_2 c24_3
theorem n24_1 : Run Cx 24 T ds ro (.code c24_1 :: k) H Q = Run Cx 24 T ds ro (.code c24_2 :: .code c24_3 :: k) H Q := run_seq
def o24_44 : List AO := [{ dst := (some 77), op := .move (.tmp 3), ty := 3, guard := none },
  { dst := (some 78), op := .move (.tmp 2), ty := 3, guard := none },
  { dst := (some 79), op := .binOp .sub 3 (.tmp 77) (.tmp 78) 3, ty := 3, guard := none },
  { dst := (some 80), op := .binOp .eql 3 (.tmp 79) (.const (.int .i64 1)) 3, ty := 4, guard := none }]
def c24_44 : AC := .region o24_44 []
theorem n24_44 : Run Cx 24 T ds ro (.code c24_44 :: k) H Q = RunOps Cx 24 T ds ro o24_44 k H Q := run_region
def o24_47 : List AO := [{ dst := (some 81), op := .move (.tmp 1), ty := 3, guard := none },
  { dst := (some 14), op := .assign (.tmp 81), ty := 3, guard := none }]
def c24_47 : AC := .region o24_47 []
theorem n24_47 : Run Cx 24 T ds ro (.code c24_47 :: k) H Q = RunOps Cx 24 T ds ro o24_47 k H Q := run_region
def o24_49 : List AO := [{ dst := (some 82), op := .move (.tmp 2), ty := 3, guard := none },
  { dst := (some 15), op := .assign (.tmp 82), ty := 3, guard := none }]
def c24_49 : AC := .region o24_49 []
theorem n24_49 : Run Cx 24 T ds ro (.code c24_49 :: k) H Q = RunOps Cx 24 T ds ro o24_49 k H Q := run_region
def o24_55 : List AO := [{ dst := (some 83), op := .move (.tmp 14), ty := 3, guard := none },
  { dst := (some 84), op := .move (.tmp 15), ty := 3, guard := none },
  { dst := (some 85), op := .binOp .lss 3 (.tmp 83) (.tmp 84) 3, ty := 4, guard := none }]
def c24_55 : AC := .region o24_55 []
theorem n24_55 : Run Cx 24 T ds ro (.code c24_55 :: k) H Q = RunOps Cx 24 T ds ro o24_55 k H Q := run_region
def c24_57 : AC := .skip
theorem n24_57 : Run Cx 24 T ds ro (.code c24_57 :: k) H Q = Run Cx 24 T ds ro (k) H Q := run_skip
def c24_58 : AC := .exit 4
theorem n24_58 : Run Cx 24 T ds ro (.code c24_58 :: k) H Q = RunExit Cx 24 T ds ro 4 k k H Q := run_exit_start
def c24_56 : AC := .cond (.tmp 85) c24_57 c24_58
theorem n24_56 : Run Cx 24 T ds ro (.code c24_56 :: k) H Q = RunCond Cx 24 T ds ro (.tmp 85) (ev T (.tmp 85)) c24_57 c24_58 k H Q := run_condC
def c24_54 : AC := .seq c24_55 c24_56
theorem n24_54 : Run Cx 24 T ds ro (.code c24_54 :: k) H Q = Run Cx 24 T ds ro (.code c24_55 :: .code c24_56 :: k) H Q := run_seq
def o24_61 : List AO := [{ dst := (some 86), op := .move (.tmp 14), ty := 3, guard := none },
  { dst := (some 87), op := .move (.tmp 15), ty := 3, guard := none },
  { dst := (some 88), op := .binOp .add 3 (.tmp 86) (.tmp 87) 3, ty := 3, guard := none },
  { dst := (some 89), op := .convert 3 53 (.tmp 88), ty := 53, guard := none },
  { dst := (some 90), op := .binOp .shr 53 (.tmp 89) (.const (.int .u64 1)) 53, ty := 53, guard := none },
  { dst := (some 91), op := .convert 53 3 (.tmp 90), ty := 3, guard := none },
  { dst := (some 16), op := .assign (.tmp 91), ty := 3, guard := none }]
def c24_61 : AC := .region o24_61 []
theorem n24_61 : Run Cx 24 T ds ro (.code c24_61 :: k) H Q = RunOps Cx 24 T ds ro o24_61 k H Q := run_region
def o24_63 : List AO := [{ dst := (some 92), op := .move (.tmp 4), ty := 43, guard := none },
  { dst := (some 93), op := .move (.tmp 0), ty := 22, guard := none },
  { dst := (some 94), op := .move (.tmp 2), ty := 3, guard := none },
  { dst := (some 95), op := .indexAddr 22 (.tmp 93) (.tmp 94), ty := 0, guard := none },
  { dst := (some 96), op := .load 28 (.tmp 95), ty := 28, guard := none },
  { dst := (some 97), op := .move (.tmp 0), ty := 22, guard := none },
  { dst := (some 98), op := .move (.tmp 16), ty := 3, guard := none },
  { dst := (some 99), op := .indexAddr 22 (.tmp 97) (.tmp 98), ty := 0, guard := none },
  { dst := (some 100), op := .load 28 (.tmp 99), ty := 28, guard := none },
  { dst := (some 101), op := .call { callee := (.value (.tmp 92)), args := #[(.tmp 96), (.tmp 100)], argTypes := #[28, 28] }, ty := 3, guard := none },
  { dst := (some 102), op := .binOp .lss 3 (.tmp 101) (.const (.int .i64 0)) 3, ty := 4, guard := none },
  { dst := (some 103), op := .unOp .not 4 (.tmp 102), ty := 4, guard := none }]
def c24_63 : AC := .region o24_63 []
theorem n24_63 : Run Cx 24 T ds ro (.code c24_63 :: k) H Q = RunOps Cx 24 T ds ro o24_63 k H Q := run_region
def o24_65 : List AO := [{ dst := (some 104), op := .move (.tmp 16), ty := 3, guard := none },
  { dst := (some 105), op := .binOp .add 3 (.tmp 104) (.const (.int .i64 1)) 3, ty := 3, guard := none },
  { dst := (some 14), op := .assign (.tmp 105), ty := 3, guard := none }]
def c24_65 : AC := .region o24_65 []
theorem n24_65 : Run Cx 24 T ds ro (.code c24_65 :: k) H Q = RunOps Cx 24 T ds ro o24_65 k H Q := run_region
def o24_66 : List AO := [{ dst := (some 106), op := .move (.tmp 16), ty := 3, guard := none },
  { dst := (some 15), op := .assign (.tmp 106), ty := 3, guard := none }]
def c24_66 : AC := .region o24_66 []
theorem n24_66 : Run Cx 24 T ds ro (.code c24_66 :: k) H Q = RunOps Cx 24 T ds ro o24_66 k H Q := run_region
def c24_64 : AC := .cond (.tmp 103) c24_65 c24_66
theorem n24_64 : Run Cx 24 T ds ro (.code c24_64 :: k) H Q = RunCond Cx 24 T ds ro (.tmp 103) (ev T (.tmp 103)) c24_65 c24_66 k H Q := run_condC
def c24_62 : AC := .seq c24_63 c24_64
theorem n24_62 : Run Cx 24 T ds ro (.code c24_62 :: k) H Q = Run Cx 24 T ds ro (.code c24_63 :: .code c24_64 :: k) H Q := run_seq
def c24_60 : AC := .seq c24_61 c24_62
theorem n24_60 : Run Cx 24 T ds ro (.code c24_60 :: k) H Q = Run Cx 24 T ds ro (.code c24_61 :: .code c24_62 :: k) H Q := run_seq
def c24_59 : AC := .block 5 c24_60
theorem n24_59 : Run Cx 24 T ds ro (.code c24_59 :: k) H Q = Run Cx 24 T ds ro (.code c24_60 :: .inBlock 5 :: k) H Q := run_block
def c24_53 : AC := .seq c24_54 c24_59
theorem n24_53 : Run Cx 24 T ds ro (.code c24_53 :: k) H Q = Run Cx 24 T ds ro (.code c24_54 :: .code c24_59 :: k) H Q := run_seq
def c24_52 : AC := .loop c24_53
theorem n24_52 : Run Cx 24 T ds ro (.code c24_52 :: k) H Q = Run Cx 24 T ds ro (.inLoop c24_53 :: k) H Q := run_loop'
def c24_51 : AC := .block 4 c24_52
theorem n24_51 : Run Cx 24 T ds ro (.code c24_51 :: k) H Q = Run Cx 24 T ds ro (.code c24_52 :: .inBlock 4 :: k) H Q := run_block
def o24_69 : List AO := [{ dst := (some 107), op := .move (.tmp 2), ty := 3, guard := none },
  { dst := (some 17), op := .assign (.tmp 107), ty := 3, guard := none }]
def c24_69 : AC := .region o24_69 []
theorem n24_69 : Run Cx 24 T ds ro (.code c24_69 :: k) H Q = RunOps Cx 24 T ds ro o24_69 k H Q := run_region
def o24_74 : List AO := [{ dst := (some 108), op := .move (.tmp 17), ty := 3, guard := none },
  { dst := (some 109), op := .move (.tmp 14), ty := 3, guard := none },
  { dst := (some 110), op := .binOp .gtr 3 (.tmp 108) (.tmp 109) 3, ty := 4, guard := none }]
def c24_74 : AC := .region o24_74 []
theorem n24_74 : Run Cx 24 T ds ro (.code c24_74 :: k) H Q = RunOps Cx 24 T ds ro o24_74 k H Q := run_region
def c24_76 : AC := .skip
theorem n24_76 : Run Cx 24 T ds ro (.code c24_76 :: k) H Q = Run Cx 24 T ds ro (k) H Q := run_skip
def c24_77 : AC := .exit 6
theorem n24_77 : Run Cx 24 T ds ro (.code c24_77 :: k) H Q = RunExit Cx 24 T ds ro 6 k k H Q := run_exit_start
def c24_75 : AC := .cond (.tmp 110) c24_76 c24_77
theorem n24_75 : Run Cx 24 T ds ro (.code c24_75 :: k) H Q = RunCond Cx 24 T ds ro (.tmp 110) (ev T (.tmp 110)) c24_76 c24_77 k H Q := run_condC
def c24_73 : AC := .seq c24_74 c24_75
theorem n24_73 : Run Cx 24 T ds ro (.code c24_73 :: k) H Q = Run Cx 24 T ds ro (.code c24_74 :: .code c24_75 :: k) H Q := run_seq
def o24_80 : List AO := [{ dst := (some 113), op := .move (.tmp 0), ty := 22, guard := none },
  { dst := (some 114), op := .move (.tmp 17), ty := 3, guard := none },
  { dst := (some 115), op := .move (.tmp 0), ty := 22, guard := none },
  { dst := (some 116), op := .move (.tmp 17), ty := 3, guard := none },
  { dst := (some 117), op := .binOp .sub 3 (.tmp 116) (.const (.int .i64 1)) 3, ty := 3, guard := none },
  { dst := (some 118), op := .move (.tmp 0), ty := 22, guard := none },
  { dst := (some 119), op := .move (.tmp 17), ty := 3, guard := none },
  { dst := (some 120), op := .binOp .sub 3 (.tmp 119) (.const (.int .i64 1)) 3, ty := 3, guard := none },
  { dst := (some 121), op := .indexAddr 22 (.tmp 118) (.tmp 120), ty := 0, guard := none },
  { dst := (some 122), op := .load 28 (.tmp 121), ty := 28, guard := none },
  { dst := (some 123), op := .move (.tmp 0), ty := 22, guard := none },
  { dst := (some 124), op := .move (.tmp 17), ty := 3, guard := none },
  { dst := (some 125), op := .indexAddr 22 (.tmp 123) (.tmp 124), ty := 0, guard := none },
  { dst := (some 126), op := .load 28 (.tmp 125), ty := 28, guard := none },
  { dst := (some 127), op := .indexAddr 22 (.tmp 113) (.tmp 114), ty := 0, guard := none },
  { dst := none, op := .store 28 (.tmp 127) (.tmp 122), ty := 0, guard := none },
  { dst := (some 128), op := .indexAddr 22 (.tmp 115) (.tmp 117), ty := 0, guard := none },
  { dst := none, op := .store 28 (.tmp 128) (.tmp 126), ty := 0, guard := none }]
def c24_80 : AC := .region o24_80 []
theorem n24_80 : Run Cx 24 T ds ro (.code c24_80 :: k) H Q = RunOps Cx 24 T ds ro o24_80 k H Q := run_region
def c24_79 : AC := .block 7 c24_80
theorem n24_79 : Run Cx 24 T ds ro (.code c24_79 :: k) H Q = Run Cx 24 T ds ro (.code c24_80 :: .inBlock 7 :: k) H Q := run_block
def o24_81 : List AO := [{ dst := (some 111), op := .move (.tmp 17), ty := 3, guard := none },
  { dst := (some 112), op := .binOp .sub 3 (.tmp 111) (.const (.int .i64 1)) 3, ty := 3, guard := none },
  { dst := (some 17), op := .assign (.tmp 112), ty := 3, guard := none }]
def c24_81 : AC := .region o24_81 []
theorem n24_81 : Run Cx 24 T ds ro (.code c24_81 :: k) H Q = RunOps Cx 24 T ds ro o24_81 k H Q := run_region
def c24_78 : AC := .seq c24_79 c24_81
theorem n24_78 : Run Cx 24 T ds ro (.code c24_78 :: k) H Q = Run Cx 24 T ds ro (.code c24_79 :: .code c24_81 :: k) H Q := run_seq
def c24_72 : AC := .seq c24_73 c24_78
theorem n24_72 : Run Cx 24 T ds ro (.code c24_72 :: k) H Q = Run Cx 24 T ds ro (.code c24_73 :: .code c24_78 :: k) H Q := run_seq
def c24_71 : AC := .loop c24_72
theorem n24_71 : Run Cx 24 T ds ro (.code c24_71 :: k) H Q = Run Cx 24 T ds ro (.inLoop c24_72 :: k) H Q := run_loop'
def c24_70 : AC := .block 6 c24_71
theorem n24_70 : Run Cx 24 T ds ro (.code c24_70 :: k) H Q = Run Cx 24 T ds ro (.code c24_71 :: .inBlock 6 :: k) H Q := run_block
def c24_68 : AC := .seq c24_69 c24_70
theorem n24_68 : Run Cx 24 T ds ro (.code c24_68 :: k) H Q = Run Cx 24 T ds ro (.code c24_69 :: .code c24_70 :: k) H Q := run_seq
def c24_82 : AC := .ret
theorem n24_82 : Run Cx 24 T [] none (.code c24_82 :: k) H Q = RunRes Cx T H Q (resOf Cx 24) := run_ret
def c24_67 : AC := .seq c24_68 c24_82
theorem n24_67 : Run Cx 24 T ds ro (.code c24_67 :: k) H Q = Run Cx 24 T ds ro (.code c24_68 :: .code c24_82 :: k) H Q := run_seq
def c24_50 : AC := .seq c24_51 c24_67
theorem n24_50 : Run Cx 24 T ds ro (.code c24_50 :: k) H Q = Run Cx 24 T ds ro (.code c24_51 :: .code c24_67 :: k) H Q := run_seq
def c24_48 : AC := .seq c24_49 c24_50
theorem n24_48 : Run Cx 24 T ds ro (.code c24_48 :: k) H Q = Run Cx 24 T ds ro (.code c24_49 :: .code c24_50 :: k) H Q := run_seq
def c24_46 : AC := .seq c24_47 c24_48
theorem n24_46 : Run Cx 24 T ds ro (.code c24_46 :: k) H Q = Run Cx 24 T ds ro (.code c24_47 :: .code c24_48 :: k) H Q := run_seq
def c24_83 : AC := .skip
theorem n24_83 : Run Cx 24 T ds ro (.code c24_83 :: k) H Q = Run Cx 24 T ds ro (k) H Q := run_skip
def c24_45 : AC := .cond (.tmp 80) c24_46 c24_83
theorem n24_45 : Run Cx 24 T ds ro (.code c24_45 :: k) H Q = RunCond Cx 24 T ds ro (.tmp 80) (ev T (.tmp 80)) c24_46 c24_83 k H Q := run_condC
def c24_43 : AC := .seq c24_44 c24_45
theorem n24_43 : Run Cx 24 T ds ro (.code c24_43 :: k) H Q = Run Cx 24 T ds ro (.code c24_44 :: .code c24_45 :: k) H Q := run_seq
def o24_85 : List AO := [{ dst := (some 129), op := .move (.tmp 1), ty := 3, guard := none },
  { dst := (some 130), op := .move (.tmp 3), ty := 3, guard := none },
  { dst := (some 131), op := .binOp .add 3 (.tmp 129) (.tmp 130) 3, ty := 3, guard := none },
  { dst := (some 132), op := .convert 3 53 (.tmp 131), ty := 53, guard := none },
  { dst := (some 133), op := .binOp .shr 53 (.tmp 132) (.const (.int .u64 1)) 53, ty := 53, guard := none },
  { dst := (some 134), op := .convert 53 3 (.tmp 133), ty := 3, guard := none },
  { dst := (some 18), op := .assign (.tmp 134), ty := 3, guard := none }]
def c24_85 : AC := .region o24_85 []
theorem n24_85 : Run Cx 24 T ds ro (.code c24_85 :: k) H Q = RunOps Cx 24 T ds ro o24_85 k H Q := run_region
def o24_87 : List AO := [{ dst := (some 135), op := .move (.tmp 18), ty := 3, guard := none },
  { dst := (some 136), op := .move (.tmp 2), ty := 3, guard := none },
  { dst := (some 137), op := .binOp .add 3 (.tmp 135) (.tmp 136) 3, ty := 3, guard := none },
  { dst := (some 19), op := .assign (.tmp 137), ty := 3, guard := none }]
def c24_87 : AC := .region o24_87 []
theorem n24_87 : Run Cx 24 T ds ro (.code c24_87 :: k) H Q = RunOps Cx 24 T ds ro o24_87 k H Q := run_region
def o24_89 : List AO := [{ dst := (some 20), op := .assign (.const (.int .i64 0)), ty := 3, guard := none },
  { dst := (some 21), op := .assign (.const (.int .i64 0)), ty := 3, guard := none }]
def c24_89 : AC := .region o24_89 []
theorem n24_89 : Run Cx 24 T ds ro (.code c24_89 :: k) H Q = RunOps Cx 24 T ds ro o24_89 k H Q := run_region
def o24_92 : List AO := [{ dst := (some 138), op := .move (.tmp 2), ty := 3, guard := none },
  { dst := (some 139), op := .move (.tmp 18), ty := 3, guard := none },
  { dst := (some 140), op := .binOp .gtr 3 (.tmp 138) (.tmp 139) 3, ty := 4, guard := none }]
def c24_92 : AC := .region o24_92 []
theorem n24_92 : Run Cx 24 T ds ro (.code c24_92 :: k) H Q = RunOps Cx 24 T ds ro o24_92 k H Q := run_region
def o24_95 : List AO := [{ dst := (some 141), op := .move (.tmp 19), ty := 3, guard := none },
  { dst := (some 142), op := .move (.tmp 3), ty := 3, guard := none },
  { dst := (some 143), op := .binOp .sub 3 (.tmp 141) (.tmp 142) 3, ty := 3, guard := none },
  { dst := (some 20), op := .assign (.tmp 143), ty := 3, guard := none }]
def c24_95 : AC := .region o24_95 []
theorem n24_95 : Run Cx 24 T ds ro (.code c24_95 :: k) H Q = RunOps Cx 24 T ds ro o24_95 k H Q := run_region
def o24_96 : List AO := [{ dst := (some 144), op := .move (.tmp 18), ty := 3, guard := none },
  { dst := (some 21), op := .assign (.tmp 144), ty := 3, guard := none }]
def c24_96 : AC := .region o24_96 []
theorem n24_96 : Run Cx 24 T ds ro (.code c24_96 :: k) H Q = RunOps Cx 24 T ds ro o24_96 k H Q := run_region
def c24_94 : AC := .seq c24_95 c24_96
theorem n24_94 : Run Cx 24 T ds ro (.code c24_94 :: k) H Q = Run Cx 24 T ds ro (.code c24_95 :: .code c24_96 :: k) H Q := run_seq
def o24_98 : List AO := [{ dst := (some 145), op := .move (.tmp 1), ty := 3, guard := none },
  { dst := (some 20), op := .assign (.tmp 145), ty := 3, guard := none }]
def c24_98 : AC := .region o24_98 []
theorem n24_98 : Run Cx 24 T ds ro (.code c24_98 :: k) H Q = RunOps Cx 24 T ds ro o24_98 k H Q := run_region
def o24_99 : List AO := [{ dst := (some 146), op := .move (.tmp 2), ty := 3, guard := none },
  { dst := (some 21), op := .assign (.tmp 146), ty := 3, guard := none }]
def c24_99 : AC := .region o24_99 []
theorem n24_99 : Run Cx 24 T ds ro (.code c24_99 :: k) H Q = RunOps Cx 24 T ds ro o24_99 k H Q := run_region
def c24_97 : AC := .seq c24_98 c24_99
theorem n24_97 : Run Cx 24 T ds ro (.code c24_97 :: k) H Q = Run Cx 24 T ds ro (.code c24_98 :: .code c24_99 :: k) H Q := run_seq
def c24_93 : AC := .cond (.tmp 140) c24_94 c24_97
theorem n24_93 : Run Cx 24 T ds ro (.code c24_93 :: k) H Q = RunCond Cx 24 T ds ro (.tmp 140) (ev T (.tmp 140)) c24_94 c24_97 k H Q := run_condC
def c24_91 : AC := .seq c24_92 c24_93
theorem n24_91 : Run Cx 24 T ds ro (.code c24_91 :: k) H Q = Run Cx 24 T ds ro (.code c24_92 :: .code c24_93 :: k) H Q := run_seq
def o24_101 : List AO := [{ dst := (some 147), op := .move (.tmp 19), ty := 3, guard := none },
  { dst := (some 148), op := .binOp .sub 3 (.tmp 147) (.const (.int .i64 1)) 3, ty := 3, guard := none },
  { dst := (some 22), op := .assign (.tmp 148), ty := 3, guard := none }]
def c24_101 : AC := .region o24_101 []
theorem n24_101 : Run Cx 24 T ds ro (.code c24_101 :: k) H Q = RunOps Cx 24 T ds ro o24_101 k H Q := run_region
def o24_107 : List AO := [{ dst := (some 149), op := .move (.tmp 20), ty := 3, guard := none },
  { dst := (some 150), op := .move (.tmp 21), ty := 3, guard := none },
  { dst := (some 151), op := .binOp .lss 3 (.tmp 149) (.tmp 150) 3, ty := 4, guard := none }]
def c24_107 : AC := .region o24_107 []
theorem n24_107 : Run Cx 24 T ds ro (.code c24_107 :: k) H Q = RunOps Cx 24 T ds ro o24_107 k H Q := run_region
def c24_109 : AC := .skip
theorem n24_109 : Run Cx 24 T ds ro (.code c24_109 :: k) H Q = Run Cx 24 T ds ro (k) H Q := run_skip
def c24_110 : AC := .exit 8
theorem n24_110 : Run Cx 24 T ds ro (.code c24_110 :: k) H Q = RunExit Cx 24 T ds ro 8 k k H Q := run_exit_start
def c24_108 : AC := .cond (.tmp 151) c24_109 c24_110
theorem n24_108 : Run Cx 24 T ds ro (.code c24_108 :: k) H Q = RunCond Cx 24 T ds ro (.tmp 151) (ev T (.tmp 151)) c24_109 c24_110 k H Q := run_condC
def c24_106 : AC := .seq c24_107 c24_108
theorem n24_106 : Run Cx 24 T ds ro (.code c24_106 :: k) H Q = Run Cx 24 T ds ro (.code c24_107 :: .code c24_108 :: k) H Q := run_seq
def o24_113 : List AO := [{ dst := (some 152), op := .move (.tmp 20), ty := 3, guard := none },
  { dst := (some 153), op := .move (.tmp 21), ty := 3, guard := none },
  { dst := (some 154), op := .binOp .add 3 (.tmp 152) (.tmp 153) 3, ty := 3, guard := none },
  { dst := (some 155), op := .convert 3 53 (.tmp 154), ty := 53, guard := none },
  { dst := (some 156), op := .binOp .shr 53 (.tmp 155) (.const (.int .u64 1)) 53, ty := 53, guard := none },
  { dst := (some 157), op := .convert 53 3 (.tmp 156), ty := 3, guard := none },
  { dst := (some 23), op := .assign (.tmp 157), ty := 3, guard := none }]
def c24_113 : AC := .region o24_113 []
theorem n24_113 : Run Cx 24 T ds ro (.code c24_113 :: k) H Q = RunOps Cx 24 T ds ro o24_113 k H Q := run_region
def o24_115 : List AO := [{ dst := (some 158), op := .move (.tmp 4), ty := 43, guard := none },
  { dst := (some 159), op := .move (.tmp 0), ty := 22, guard := none },
  { dst := (some 160), op := .move (.tmp 22), ty := 3, guard := none },
  { dst := (some 161), op := .move (.tmp 23), ty := 3, guard := none },
  { dst := (some 162), op := .binOp .sub 3 (.tmp 160) (.tmp 161) 3, ty := 3, guard := none },
  { dst := (some 163), op := .indexAddr 22 (.tmp 159) (.tmp 162), ty := 0, guard := none },
  { dst := (some 164), op := .load 28 (.tmp 163), ty := 28, guard := none },
  { dst := (some 165), op := .move (.tmp 0), ty := 22, guard := none },
  { dst := (some 166), op := .move (.tmp 23), ty := 3, guard := none },
  { dst := (some 167), op := .indexAddr 22 (.tmp 165) (.tmp 166), ty := 0, guard := none },
  { dst := (some 168), op := .load 28 (.tmp 167), ty := 28, guard := none },
  { dst := (some 169), op := .call { callee := (.value (.tmp 158)), args := #[(.tmp 164), (.tmp 168)], argTypes := #[28, 28] }, ty := 3, guard := none },
  { dst := (some 170), op := .binOp .lss 3 (.tmp 169) (.const (.int .i64 0)) 3, ty := 4, guard := none },
  { dst := (some 171), op := .unOp .not 4 (.tmp 170), ty := 4, guard := none }]
def c24_115 : AC := .region o24_115 []
theorem n24_115 : Run Cx 24 T ds ro (.code c24_115 :: k) H Q = RunOps Cx 24 T ds ro o24_115 k H Q := run_region
def o24_117 : List AO := [{ dst := (some 172), op := .move (.tmp 23), ty := 3, guard := none },
  { dst := (some 173), op := .binOp .add 3 (.tmp 172) (.const (.int .i64 1)) 3, ty := 3, guard := none },
  { dst := (some 20), op := .assign (.tmp 173), ty := 3, guard := none }]
def c24_117 : AC := .region o24_117 []
theorem n24_117 : Run Cx 24 T ds ro (.code c24_117 :: k) H Q = RunOps Cx 24 T ds ro o24_117 k H Q := run_region
def o24_118 : List AO := [{ dst := (some 174), op := .move (.tmp 23), ty := 3, guard := none },
  { dst := (some 21), op := .assign (.tmp 174), ty := 3, guard := none }]
def c24_118 : AC := .region o24_118 []
theorem n24_118 : Run Cx 24 T ds ro (.code c24_118 :: k) H Q = RunOps Cx 24 T ds ro o24_118 k H Q := run_region
def c24_116 : AC := .cond (.tmp 171) c24_117 c24_118
theorem n24_116 : Run Cx 24 T ds ro (.code c24_116 :: k) H Q = RunCond Cx 24 T ds ro (.tmp 171) (ev T (.tmp 171)) c24_117 c24_118 k H Q := run_condC
def c24_114 : AC := .seq c24_115 c24_116
theorem n24_114 : Run Cx 24 T ds ro (.code c24_114 :: k) H Q = Run Cx 24 T ds ro (.code c24_115 :: .code c24_116 :: k) H Q := run_seq
def c24_112 : AC := .seq c24_113 c24_114
theorem n24_112 : Run Cx 24 T ds ro (.code c24_112 :: k) H Q = Run Cx 24 T ds ro (.code c24_113 :: .code c24_114 :: k) H Q := run_seq
def c24_111 : AC := .block 9 c24_112
theorem n24_111 : Run Cx 24 T ds ro (.code c24_111 :: k) H Q = Run Cx 24 T ds ro (.code c24_112 :: .inBlock 9 :: k) H Q := run_block
def c24_105 : AC := .seq c24_106 c24_111
theorem n24_105 : Run Cx 24 T ds ro (.code c24_105 :: k) H Q = Run Cx 24 T ds ro (.code c24_106 :: .code c24_111 :: k) H Q := run_seq
def c24_104 : AC := .loop c24_105
theorem n24_104 : Run Cx 24 T ds ro (.code c24_104 :: k) H Q = Run Cx 24 T ds ro (.inLoop c24_105 :: k) H Q := run_loop'
def c24_103 : AC := .block 8 c24_104
theorem n24_103 : Run Cx 24 T ds ro (.code c24_103 :: k) H Q = Run Cx 24 T ds ro (.code c24_104 :: .inBlock 8 :: k) H Q := run_block
def o24_120 : List AO := [{ dst := (some 175), op := .move (.tmp 19), ty := 3, guard := none },
  { dst := (some 176), op := .move (.tmp 20), ty := 3, guard := none },
  { dst := (some 177), op := .binOp .sub 3 (.tmp 175) (.tmp 176) 3, ty := 3, guard := none },
  { dst := (some 24), op := .assign (.tmp 177), ty := 3, guard := none }]
def c24_120 : AC := .region o24_120 []
theorem n24_120 : Run Cx 24 T ds ro (.code c24_120 :: k) H Q = RunOps Cx 24 T ds ro o24_120 k H Q := run_region
def o24_123 : List AO := [{ dst := (some 178), op := .move (.tmp 20), ty := 3, guard := none },
  { dst := (some 179), op := .move (.tmp 2), ty := 3, guard := none },
  { dst := (some 180), op := .binOp .lss 3 (.tmp 178) (.tmp 179) 3, ty := 4, guard := none },
  { dst := (some 181), op := .move (.tmp 180), ty := 4, guard := none },
  { dst := (some 182), op := .move (.tmp 2), ty := 3, guard := (some (181, true)) },
  { dst := (some 183), op := .move (.tmp 24), ty := 3, guard := (some (181, true)) },
  { dst := (some 184), op := .binOp .lss 3 (.tmp 182) (.tmp 183) 3, ty := 4, guard := (some (181, true)) },
  { dst := (some 185), op := .pick (.tmp 181) (.tmp 184) (.const (.bool false)), ty := 4, guard := none }]
def c24_123 : AC := .region o24_123 []
theorem n24_123 : Run Cx 24 T ds ro (.code c24_123 :: k) H Q = RunOps Cx 24 T ds ro o24_123 k H Q := run_region
def o24_125 : List AO := [{ dst := (some 186), op := .move (.tmp 0), ty := 22, guard := none },
  { dst := (some 187), op := .move (.tmp 20), ty := 3, guard := none },
  { dst := (some 188), op := .move (.tmp 2), ty := 3, guard := none },
  { dst := (some 189), op := .move (.tmp 24), ty := 3, guard := none },
  { dst := (some 190), op := .move (.tmp 4), ty := 43, guard := none },
  { dst := (some 191), op := .call { callee := (.value (.func 26)), args := #[(.tmp 186), (.tmp 187), (.tmp 188), (.tmp 189), (.tmp 190)], argTypes := #[22, 3, 3, 3, 43] }, ty := 0, guard := none }]
def c24_125 : AC := .region o24_125 []
theorem n24_125 : Run Cx 24 T ds ro (.code c24_125 :: k) H Q = RunOps Cx 24 T ds ro o24_125 k H Q := run_region
def c24_126 : AC := .skip
theorem n24_126 : Run Cx 24 T ds ro (.code c24_126 :: k) H Q = Run Cx 24 T ds ro (k) H Q := run_skip
def c24_124 : AC := .cond (.tmp 185) c24_125 c24_126
theorem n24_124 : Run Cx 24 T ds ro (.code c24_124 :: k) H Q = RunCond Cx 24 T ds ro (.tmp 185) (ev T (.tmp 185)) c24_125 c24_126 k H Q := run_condC
def c24_122 : AC := .seq c24_123 c24_124
theorem n24_122 : Run Cx 24 T ds ro (.code c24_122 :: k) H Q = Run Cx 24 T ds ro (.code c24_123 :: .code c24_124 :: k) H Q := run_seq
def o24_129 : List AO := [{ dst := (some 192), op := .move (.tmp 1), ty := 3, guard := none },
  { dst := (some 193), op := .move (.tmp 20), ty := 3, guard := none },
  { dst := (some 194), op := .binOp .lss 3 (.tmp 192) (.tmp 193) 3, ty := 4, guard := none },
  { dst := (some 195), op := .move (.tmp 194), ty := 4, guard := none },
  { dst := (some 196), op := .move (.tmp 20), ty := 3, guard := (some (195, true)) },
  { dst := (some 197), op := .move (.tmp 18), ty := 3, guard := (some (195, true)) },
  { dst := (some 198), op := .binOp .lss 3 (.tmp 196) (.tmp 197) 3, ty := 4, guard := (some (195, true)) },
  { dst := (some 199), op := .pick (.tmp 195) (.tmp 198) (.const (.bool false)), ty := 4, guard := none }]
def c24_129 : AC := .region o24_129 []
theorem n24_129 : Run Cx 24 T ds ro (.code c24_129 :: k) H Q = RunOps Cx 24 T ds ro o24_129 k H Q := run_region
def o24_131 : List AO := [{ dst := (some 200), op := .move (.tmp 0), ty := 22, guard := none },
  { dst := (some 201), op := .move (.tmp 1), ty := 3, guard := none },
  { dst := (some 202), op := .move (.tmp 20), ty := 3, guard := none },
  { dst := (some 203), op := .move (.tmp 18), ty := 3, guard := none },
  { dst := (some 204), op := .move (.tmp 4), ty := 43, guard := none },
  { dst := (some 205), op := .call { callee := (.value (.func 24)), args := #[(.tmp 200), (.tmp 201), (.tmp 202), (.tmp 203), (.tmp 204)], argTypes := #[22, 3, 3, 3, 43] }, ty := 0, guard := none }]
def c24_131 : AC := .region o24_131 []
theorem n24_131 : Run Cx 24 T ds ro (.code c24_131 :: k) H Q = RunOps Cx 24 T ds ro o24_131 k H Q := run_region
def c24_132 : AC := .skip
theorem n24_132 : Run Cx 24 T ds ro (.code c24_132 :: k) H Q = Run Cx 24 T ds ro (k) H Q := run_skip
def c24_130 : AC := .cond (.tmp 199) c24_131 c24_132
theorem n24_130 : Run Cx 24 T ds ro (.code c24_130 :: k) H Q = RunCond Cx 24 T ds ro (.tmp 199) (ev T (.tmp 199)) c24_131 c24_132 k H Q := run_condC
def c24_128 : AC := .seq c24_129 c24_130
theorem n24_128 : Run Cx 24 T ds ro (.code c24_128 :: k) H Q = Run Cx 24 T ds ro (.code c24_129 :: .code c24_130 :: k) H Q := run_seq
def o24_134 : List AO := [{ dst := (some 206), op := .move (.tmp 18), ty := 3, guard := none },
  { dst := (some 207), op := .move (.tmp 24), ty := 3, guard := none },
  { dst := (some 208), op := .binOp .lss 3 (.tmp 206) (.tmp 207) 3, ty := 4, guard := none },
  { dst := (some 209), op := .move (.tmp 208), ty := 4, guard := none },
  { dst := (some 210), op := .move (.tmp 24), ty := 3, guard := (some (209, true)) },
  { dst := (some 211), op := .move (.tmp 3), ty := 3, guard := (some (209, true)) },
  { dst := (some 212), op := .binOp .lss 3 (.tmp 210) (.tmp 211) 3, ty := 4, guard := (some (209, true)) },
  { dst := (some 213), op := .pick (.tmp 209) (.tmp 212) (.const (.bool false)), ty := 4, guard := none }]
def c24_134 : AC := .region o24_134 []
theorem n24_134 : Run Cx 24 T ds ro (.code c24_134 :: k) H Q = RunOps Cx 24 T ds ro o24_134 k H Q := run_region
def o24_136 : List AO := [{ dst := (some 214), op := .move (.tmp 0), ty := 22, guard := none },
  { dst := (some 215), op := .move (.tmp 18), ty := 3, guard := none },
  { dst := (some 216), op := .move (.tmp 24), ty := 3, guard := none },
  { dst := (some 217), op := .move (.tmp 3), ty := 3, guard := none },
  { dst := (some 218), op := .move (.tmp 4), ty := 43, guard := none },
  { dst := (some 219), op := .call { callee := (.value (.func 24)), args := #[(.tmp 214), (.tmp 215), (.tmp 216), (.tmp 217), (.tmp 218)], argTypes := #[22, 3, 3, 3, 43] }, ty := 0, guard := none }]
def c24_136 : AC := .region o24_136 []
theorem n24_136 : Run Cx 24 T ds ro (.code c24_136 :: k) H Q = RunOps Cx 24 T ds ro o24_136 k H Q := run_region
def c24_137 : AC := .skip
theorem n24_137 : Run Cx 24 T ds ro (.code c24_137 :: k) H Q = Run Cx 24 T ds ro (k) H Q := run_skip
def c24_135 : AC := .cond (.tmp 213) c24_136 c24_137
theorem n24_135 : Run Cx 24 T ds ro (.code c24_135 :: k) H Q = RunCond Cx 24 T ds ro (.tmp 213) (ev T (.tmp 213)) c24_136 c24_137 k H Q := run_condC
def c24_133 : AC := .seq c24_134 c24_135
theorem n24_133 : Run Cx 24 T ds ro (.code c24_133 :: k) H Q = Run Cx 24 T ds ro (.code c24_134 :: .code c24_135 :: k) H Q := run_seq
def c24_127 : AC := .seq c24_128 c24_133
theorem n24_127 : Run Cx 24 T ds ro (.code c24_127 :: k) H Q = Run Cx 24 T ds ro (.code c24_128 :: .code c24_133 :: k) H Q := run_seq
def c24_121 : AC := .seq c24_122 c24_127
theorem n24_121 : Run Cx 24 T ds ro (.code c24_121 :: k) H Q = Run Cx 24 T ds ro (.code c24_122 :: .code c24_127 :: k) H Q := run_seq
def c24_119 : AC := .seq c24_120 c24_121
theorem n24_119 : Run Cx 24 T ds ro (.code c24_119 :: k) H Q = Run Cx 24 T ds ro (.code c24_120 :: .code c24_121 :: k) H Q := run_seq
def c24_102 : AC := .seq c24_103 c24_119
theorem n24_102 : Run Cx 24 T ds ro (.code c24_102 :: k) H Q = Run Cx 24 T ds ro (.code c24_103 :: .code c24_119 :: k) H Q := run_seq
def c24_100 : AC := .seq c24_101 c24_102
theorem n24_100 : Run Cx 24 T ds ro (.code c24_100 :: k) H Q = Run Cx 24 T ds ro (.code c24_101 :: .code c24_102 :: k) H Q := run_seq
def c24_90 : AC := .seq c24_91 c24_100
theorem n24_90 : Run Cx 24 T ds ro (.code c24_90 :: k) H Q = Run Cx 24 T ds ro (.code c24_91 :: .code c24_100 :: k) H Q := run_seq
def c24_88 : AC := .seq c24_89 c24_90
theorem n24_88 : Run Cx 24 T ds ro (.code c24_88 :: k) H Q = Run Cx 24 T ds ro (.code c24_89 :: .code c24_90 :: k) H Q := run_seq
def c24_86 : AC := .seq c24_87 c24_88
theorem n24_86 : Run Cx 24 T ds ro (.code c24_86 :: k) H Q = Run Cx 24 T ds ro (.code c24_87 :: .code c24_88 :: k) H Q := run_seq
def c24_84 : AC := .seq c24_85 c24_86
theorem n24_84 : Run Cx 24 T ds ro (.code c24_84 :: k) H Q = Run Cx 24 T ds ro (.code c24_85 :: .code c24_86 :: k) H Q := run_seq
def c24_42 : AC := .seq c24_43 c24_84
theorem n24_42 : Run Cx 24 T ds ro (.code c24_42 :: k) H Q = Run Cx 24 T ds ro (.code c24_43 :: .code c24_84 :: k) H Q := run_seq
def c24_0 : AC := .seq c24_1 c24_42
theorem n24_0 : Run Cx 24 T ds ro (.code c24_0 :: k) H Q = Run Cx 24 T ds ro (.code c24_1 :: .code c24_42 :: k) H Q := run_seq
theorem body24 : bodyOf Cx 24 = some c24_0 := by kernel_rfl
theorem res24 : resOf Cx 24 = some [] := by kernel_rfl
theorem pure24 : Cx.pure 24 = false := by kernel_rfl
-- RULES 24: n24_0, n24_1, n24_2, n24_3, n24_4, n24_5, n24_6, n24_7, n24_8, n24_9, n24_10, n24_11, n24_12, n24_13, n24_14, n24_15, n24_16, n24_17, n24_18, n24_19, n24_20, n24_21, n24_22, n24_23, n24_24, n24_25, n24_26, n24_27, n24_28, n24_29, n24_30, n24_31, n24_32, n24_33, n24_34, n24_35, n24_36, n24_37, n24_38, n24_39, n24_40, n24_41, n24_42, n24_43, n24_44, n24_45, n24_46, n24_47, n24_48, n24_49, n24_50, n24_51, n24_52, n24_53, n24_54, n24_55, n24_56, n24_57, n24_58, n24_59, n24_60, n24_61, n24_62, n24_63, n24_64, n24_65, n24_66, n24_67, n24_68, n24_69, n24_70, n24_71, n24_72, n24_73, n24_74, n24_75, n24_76, n24_77, n24_78, n24_79, n24_80, n24_81, n24_82, n24_83, n24_84, n24_85, n24_86, n24_87, n24_88, n24_89, n24_90, n24_91, n24_92, n24_93, n24_94, n24_95, n24_96, n24_97, n24_98, n24_99, n24_100, n24_101, n24_102, n24_103, n24_104, n24_105, n24_106, n24_107, n24_108, n24_109, n24_110, n24_111, n24_112, n24_113, n24_114, n24_115, n24_116, n24_117, n24_118, n24_119, n24_120, n24_121, n24_122, n24_123, n24_124, n24_125, n24_126, n24_127, n24_128, n24_129, n24_130, n24_131, n24_132, n24_133, n24_134, n24_135, n24_136, n24_137
def o25_1 : List AO := [{ dst := (some 2), op := .assign (.const (.bool false)), ty := 4, guard := none }]
def c25_1 : AC := .region o25_1 []
theorem n25_1 : Run Cx 25 T ds ro (.code c25_1 :: k) H Q = RunOps Cx 25 T ds ro o25_1 k H Q := run_region
def o25_3 : List AO := [{ dst := (some 3), op := .move (.tmp 0), ty := 9, guard := none },
  { dst := (some 4), op := .move (.tmp 0), ty := 9, guard := none },
  { dst := (some 5), op := .binOp .neq 9 (.tmp 3) (.tmp 4) 9, ty := 4, guard := none },
  { dst := (some 2), op := .assign (.tmp 5), ty := 4, guard := none }]
def c25_3 : AC := .region o25_3 []
theorem n25_3 : Run Cx 25 T ds ro (.code c25_3 :: k) H Q = RunOps Cx 25 T ds ro o25_3 k H Q := run_region
def c25_4 : AC := .ret
theorem n25_4 : Run Cx 25 T [] none (.code c25_4 :: k) H Q = RunRes Cx T H Q (resOf Cx 25) := run_ret
def c25_2 : AC := .seq c25_3 c25_4
theorem n25_2 : Run Cx 25 T ds ro (.code c25_2 :: k) H Q = Run Cx 25 T ds ro (.code c25_3 :: .code c25_4 :: k) H Q := run_seq
def c25_0 : AC := .seq c25_1 c25_2
theorem n25_0 : Run Cx 25 T ds ro (.code c25_0 :: k) H Q = Run Cx 25 T ds ro (.code c25_1 :: .code c25_2 :: k) H Q := run_seq
theorem body25 : bodyOf Cx 25 = some c25_0 := by kernel_rfl
theorem res25 : resOf Cx 25 = some [.tmp 2] := by kernel_rfl
theorem pure25 : Cx.pure 25 = true := by kernel_rfl
-- RULES 25: n25_0, n25_1, n25_2, n25_3, n25_4
def o26_1 : List AO := [{ dst := (some 12), op := .move (.tmp 2), ty := 3, guard := none },
  { dst := (some 13), op := .move (.tmp 1), ty := 3, guard := none },
  { dst := (some 14), op := .binOp .sub 3 (.tmp 12) (.tmp 13) 3, ty := 3, guard := none },
  { dst := (some 10), op := .assign (.tmp 14), ty := 3, guard := none }]
def c26_1 : AC := .region o26_1 []
theorem n26_1 : Run Cx 26 T ds ro (.code c26_1 :: k) H Q = RunOps Cx 26 T ds ro o26_1 k H Q := run_region
def o26_3 : List AO := [{ dst := (some 15), op := .move (.tmp 3), ty := 3, guard := none },
  { dst := (some 16), op := .move (.tmp 2), ty := 3, guard := none },
  { dst := (some 17), op := .binOp .sub 3 (.tmp 15) (.tmp 16) 3, ty := 3, guard := none },
  { dst := (some 11), op := .assign (.tmp 17), ty := 3, guard := none }]
def c26_3 : AC := .region o26_3 []
theorem n26_3 : Run Cx 26 T ds ro (.code c26_3 :: k) H Q = RunOps Cx 26 T ds ro o26_3 k H Q := run_region
def o26_9 : List AO := [{ dst := (some 18), op := .move (.tmp 10), ty := 3, guard := none },
  { dst := (some 19), op := .move (.tmp 11), ty := 3, guard := none },
  { dst := (some 20), op := .binOp .neq 3 (.tmp 18) (.tmp 19) 3, ty := 4, guard := none }]
def c26_9 : AC := .region o26_9 []
theorem n26_9 : Run Cx 26 T ds ro (.code c26_9 :: k) H Q = RunOps Cx 26 T ds ro o26_9 k H Q := run_region
def c26_11 : AC := .skip
theorem n26_11 : Run Cx 26 T ds ro (.code c26_11 :: k) H Q = Run Cx 26 T ds ro (k) H Q := run_skip
def c26_12 : AC := .exit 0
theorem n26_12 : Run Cx 26 T ds ro (.code c26_12 :: k) H Q = RunExit Cx 26 T ds ro 0 k k H Q := run_exit_start
def c26_10 : AC := .cond (.tmp 20) c26_11 c26_12
theorem n26_10 : Run Cx 26 T ds ro (.code c26_10 :: k) H Q = RunCond Cx 26 T ds ro (.tmp 20) (ev T (.tmp 20)) c26_11 c26_12 k H Q := run_condC
def c26_8 : AC := .seq c26_9 c26_10
theorem n26_8 : Run Cx 26 T ds ro (.code c26_8 :: k) H Q = Run Cx 26 T ds ro (.code c26_9 :: .code c26_10 :: k) H Q := run_seq
def o26_15 : List AO := [{ dst := (some 21), op := .move (.tmp 10), ty := 3, guard := none },
  { dst := (some 22), op := .move (.tmp 11), ty := 3, guard := none },
  { dst := (some 23), op := .binOp .gtr 3 (.tmp 21) (.tmp 22) 3, ty := 4, guard := none }]
def c26_15 : AC := .region o26_15 []
theorem n26_15 : Run Cx 26 T ds ro (.code c26_15 :: k) H Q = RunOps Cx 26 T ds ro o26_15 k H Q := run_region
def o26_18 : List AO := [{ dst := (some 24), op := .move (.tmp 0), ty := 22, guard := none },
  { dst := (some 25), op := .move (.tmp 2), ty := 3, guard := none },
  { dst := (some 26), op := .move (.tmp 10), ty := 3, guard := none },
  { dst := (some 27), op := .binOp .sub 3 (.tmp 25) (.tmp 26) 3, ty := 3, guard := none },
  { dst := (some 28), op := .move (.tmp 2), ty := 3, guard := none },
  { dst := (some 29), op := .move (.tmp 11), ty := 3, guard := none },
  { dst := (some 30), op := .move (.tmp 4), ty := 43, guard := none },
  { dst := (some 31), op := .call { callee := (.value (.func 27)), args := #[(.tmp 24), (.tmp 27), (.tmp 28), (.tmp 29), (.tmp 30)], argTypes := #[22, 3, 3, 3, 43] }, ty := 0, guard := none }]
def c26_18 : AC := .region o26_18 []
theorem n26_18 : Run Cx 26 T ds ro (.code c26_18 :: k) H Q = RunOps Cx 26 T ds ro o26_18 k H Q := run_region
def o26_19 : List AO := [{ dst := (some 32), op := .move (.tmp 10), ty := 3, guard := none },
  { dst := (some 33), op := .move (.tmp 11), ty := 3, guard := none },
  { dst := (some 34), op := .binOp .sub 3 (.tmp 32) (.tmp 33) 3, ty := 3, guard := none },
  { dst := (some 10), op := .assign (.tmp 34), ty := 3, guard := none }]
def c26_19 : AC := .region o26_19 []
theorem n26_19 : Run Cx 26 T ds ro (.code c26_19 :: k) H Q = RunOps Cx 26 T ds ro o26_19 k H Q := run_region
def c26_17 : AC := .seq c26_18 c26_19
theorem n26_17 : Run Cx 26 T ds ro (.code c26_17 :: k) H Q = Run Cx 26 T ds ro (.code c26_18 :: .code c26_19 :: k) H Q := run_seq
def o26_21 : List AO := [{ dst := (some 35), op := .move (.tmp 0), ty := 22, guard := none },
  { dst := (some 36), op := .move (.tmp 2), ty := 3, guard := none },
  { dst := (some 37), op := .move (.tmp 10), ty := 3, guard := none },
  { dst := (some 38), op := .binOp .sub 3 (.tmp 36) (.tmp 37) 3, ty := 3, guard := none },
  { dst := (some 39), op := .move (.tmp 2), ty := 3, guard := none },
  { dst := (some 40), op := .move (.tmp 11), ty := 3, guard := none },
  { dst := (some 41), op := .binOp .add 3 (.tmp 39) (.tmp 40) 3, ty := 3, guard := none },
  { dst := (some 42), op := .move (.tmp 10), ty := 3, guard := none },
  { dst := (some 43), op := .binOp .sub 3 (.tmp 41) (.tmp 42) 3, ty := 3, guard := none },
  { dst := (some 44), op := .move (.tmp 10), ty := 3, guard := none },
  { dst := (some 45), op := .move (.tmp 4), ty := 43, guard := none },
  { dst := (some 46), op := .call { callee := (.value (.func 27)), args := #[(.tmp 35), (.tmp 38), (.tmp 43), (.tmp 44), (.tmp 45)], argTypes := #[22, 3, 3, 3, 43] }, ty := 0, guard := none }]
def c26_21 : AC := .region o26_21 []
theorem n26_21 : Run Cx 26 T ds ro (.code c26_21 :: k) H Q = RunOps Cx 26 T ds ro o26_21 k H Q := run_region
def o26_22 : List AO := [{ dst := (some 47), op := .move (.tmp 11), ty := 3, guard := none },
  { dst := (some 48), op := .move (.tmp 10), ty := 3, guard := none },
  { dst := (some 49), op := .binOp .sub 3 (.tmp 47) (.tmp 48) 3, ty := 3, guard := none },
  { dst := (some 11), op := .assign (.tmp 49), ty := 3, guard := none }]
def c26_22 : AC := .region o26_22 []
theorem n26_22 : Run Cx 26 T ds ro (.code c26_22 :: k) H Q = RunOps Cx 26 T ds ro o26_22 k H Q := run_region
def c26_20 : AC := .seq c26_21 c26_22
theorem n26_20 : Run Cx 26 T ds ro (.code c26_20 :: k) H Q = Run Cx 26 T ds ro (.code c26_21 :: .code c26_22 :: k) H Q := run_seq
def c26_16 : AC := .cond (.tmp 23) c26_17 c26_20
theorem n26_16 : Run Cx 26 T ds ro (.code c26_16 :: k) H Q = RunCond Cx 26 T ds ro (.tmp 23) (ev T (.tmp 23)) c26_17 c26_20 k H Q := run_condC
def c26_14 : AC := .seq c26_15 c26_16
theorem n26_14 : Run Cx 26 T ds ro (.code c26_14 :: k) H Q = Run Cx 26 T ds ro (.code c26_15 :: .code c26_16 :: k) H Q := run_seq
def c26_13 : AC := .block 1 c26_14
theorem n26_13 : Run Cx 26 T ds ro (.code c26_13 :: k) H Q = Run Cx 26 T ds ro (.code c26_14 :: .inBlock 1 :: k) H Q := run_block
def c26_7 : AC := .seq c26_8 c26_13
theorem n26_7 : Run Cx 26 T ds ro (.code c26_7 :: k) H Q = Run Cx 26 T ds ro (.code c26_8 :: .code c26_13 :: k) H Q := run_seq
def c26_6 : AC := .loop c26_7
theorem n26_6 : Run Cx 26 T ds ro (.code c26_6 :: k) H Q = Run Cx 26 T ds ro (.inLoop c26_7 :: k) H Q := run_loop'
def c26_5 : AC := .block 0 c26_6
theorem n26_5 : Run Cx 26 T ds ro (.code c26_5 :: k) H Q = Run Cx 26 T ds ro (.code c26_6 :: .inBlock 0 :: k) H Q := run_block
def o26_23 : List AO := [{ dst := (some 50), op := .move (.tmp 0), ty := 22, guard := none },
  { dst := (some 51), op := .move (.tmp 2), ty := 3, guard := none },
  { dst := (some 52), op := .move (.tmp 10), ty := 3, guard := none },
  { dst := (some 53), op := .binOp .sub 3 (.tmp 51) (.tmp 52) 3, ty := 3, guard := none },
  { dst := (some 54), op := .move (.tmp 2), ty := 3, guard := none },
  { dst := (some 55), op := .move (.tmp 10), ty := 3, guard := none },
  { dst := (some 56), op := .move (.tmp 4), ty := 43, guard := none },
  { dst := (some 57), op := .call { callee := (.value (.func 27)), args := #[(.tmp 50), (.tmp 53), (.tmp 54), (.tmp 55), (.tmp 56)], argTypes := #[22, 3, 3, 3, 43] }, ty := 0, guard := none }]
def c26_23 : AC := .region o26_23 []
theorem n26_23 : Run Cx 26 T ds ro (.code c26_23 :: k) H Q = RunOps Cx 26 T ds ro o26_23 k H Q := run_region
def c26_4 : AC := .seq c26_5 c26_23
theorem n26_4 : Run Cx 26 T ds ro (.code c26_4 :: k) H Q = Run Cx 26 T ds ro (.code c26_5 :: .code c26_23 :: k) H Q := run_seq
def c26_2 : AC := .seq c26_3 c26_4
theorem n26_2 : Run Cx 26 T ds ro (.code c26_2 :: k) H Q = Run Cx 26 T ds ro (.code c26_3 :: .code c26_4 :: k) H Q := run_seq
def c26_0 : AC := .seq c26_1 c26_2
theorem n26_0 : Run Cx 26 T ds ro (.code c26_0 :: k) H Q = Run Cx 26 T ds ro (.code c26_1 :: .code c26_2 :: k) H Q := run_seq
theorem body26 : bodyOf Cx 26 = some c26_0 := by kernel_rfl
theorem res26 : resOf Cx 26 = some [] := by kernel_rfl
theorem pure26 : Cx.pure 26 = false := by kernel_rfl
-- RULES 26: n26_0, n26_1, n26_2, n26_3, n26_4, n26_5, n26_6, n26_7, n26_8, n26_9, n26_10, n26_11, n26_12, n26_13, n26_14, n26_15, n26_16, n26_17, n26_18, n26_19, n26_20, n26_21, n26_22, n26_23
def o27_1 : List AO := [{ dst := (some 10), op := .assign (.const (.int .i64 0)), ty := 3, guard := none }]
def c27_1 : AC := .region o27_1 []
theorem n27_1 : Run Cx 27 T ds ro (.code c27_1 :: k) H Q = RunOps Cx 27 T ds ro o27_1 k H Q := run_region
def o27_6 : List AO := [{ dst := (some 11), op := .move (.tmp 10), ty := 3, guard := none },
  { dst := (some 12), op := .move (.tmp 3), ty := 3, guard := none },
  { dst := (some 13), op := .binOp .lss 3 (.tmp 11) (.tmp 12) 3, ty := 4, guard := none }]
def c27_6 : AC := .region o27_6 []
theorem n27_6 : Run Cx 27 T ds ro (.code c27_6 :: k) H Q = RunOps Cx 27 T ds ro o27_6 k H Q := run_region
def c27_8 : AC := .skip
theorem n27_8 : Run Cx 27 T ds ro (.code c27_8 :: k) H Q = Run Cx 27 T ds ro (k) H Q := run_skip
def c27_9 : AC := .exit 0
theorem n27_9 : Run Cx 27 T ds ro (.code c27_9 :: k) H Q = RunExit Cx 27 T ds ro 0 k k H Q := run_exit_start
def c27_7 : AC := .cond (.tmp 13) c27_8 c27_9
theorem n27_7 : Run Cx 27 T ds ro (.code c27_7 :: k) H Q = RunCond Cx 27 T ds ro (.tmp 13) (ev T (.tmp 13)) c27_8 c27_9 k H Q := run_condC
def c27_5 : AC := .seq c27_6 c27_7
theorem n27_5 : Run Cx 27 T ds ro (.code c27_5 :: k) H Q = Run Cx 27 T ds ro (.code c27_6 :: .code c27_7 :: k) H Q := run_seq
def o27_12 : List AO := [{ dst := (some 16), op := .move (.tmp 0), ty := 22, guard := none },
  { dst := (some 17), op := .move (.tmp 1), ty := 3, guard := none },
  { dst := (some 18), op := .move (.tmp 10), ty := 3, guard := none },
  { dst := (some 19), op := .binOp .add 3 (.tmp 17) (.tmp 18) 3, ty := 3, guard := none },
  { dst := (some 20), op := .move (.tmp 0), ty := 22, guard := none },
  { dst := (some 21), op := .move (.tmp 2), ty := 3, guard := none },
  { dst := (some 22), op := .move (.tmp 10), ty := 3, guard := none },
  { dst := (some 23), op := .binOp .add 3 (.tmp 21) (.tmp 22) 3, ty := 3, guard := none },
  { dst := (some 24), op := .move (.tmp 0), ty := 22, guard := none },
  { dst := (some 25), op := .move (.tmp 2), ty := 3, guard := none },
  { dst := (some 26), op := .move (.tmp 10), ty := 3, guard := none },
  { dst := (some 27), op := .binOp .add 3 (.tmp 25) (.tmp 26) 3, ty := 3, guard := none },
  { dst := (some 28), op := .indexAddr 22 (.tmp 24) (.tmp 27), ty := 0, guard := none },
  { dst := (some 29), op := .load 28 (.tmp 28), ty := 28, guard := none },
  { dst := (some 30), op := .move (.tmp 0), ty := 22, guard := none },
  { dst := (some 31), op := .move (.tmp 1), ty := 3, guard := none },
  { dst := (some 32), op := .move (.tmp 10), ty := 3, guard := none },
  { dst := (some 33), op := .binOp .add 3 (.tmp 31) (.tmp 32) 3, ty := 3, guard := none },
  { dst := (some 34), op := .indexAddr 22 (.tmp 30) (.tmp 33), ty := 0, guard := none },
  { dst := (some 35), op := .load 28 (.tmp 34), ty := 28, guard := none },
  { dst := (some 36), op := .indexAddr 22 (.tmp 16) (.tmp 19), ty := 0, guard := none },
  { dst := none, op := .store 28 (.tmp 36) (.tmp 29), ty := 0, guard := none },
  { dst := (some 37), op := .indexAddr 22 (.tmp 20) (.tmp 23), ty := 0, guard := none },
  { dst := none, op := .store 28 (.tmp 37) (.tmp 35), ty := 0, guard := none }]
def c27_12 : AC := .region o27_12 []
theorem n27_12 : Run Cx 27 T ds ro (.code c27_12 :: k) H Q = RunOps Cx 27 T ds ro o27_12 k H Q := run_region
def c27_11 : AC := .block 1 c27_12
theorem n27_11 : Run Cx 27 T ds ro (.code c27_11 :: k) H Q = Run Cx 27 T ds ro (.code c27_12 :: .inBlock 1 :: k) H Q := run_block
def o27_13 : List AO := [{ dst := (some 14), op := .move (.tmp 10), ty := 3, guard := none },
  { dst := (some 15), op := .binOp .add 3 (.tmp 14) (.const (.int .i64 1)) 3, ty := 3, guard := none },
  { dst := (some 10), op := .assign (.tmp 15), ty := 3, guard := none }]
def c27_13 : AC := .region o27_13 []
theorem n27_13 : Run Cx 27 T ds ro (.code c27_13 :: k) H Q = RunOps Cx 27 T ds ro o27_13 k H Q := run_region
def c27_10 : AC := .seq c27_11 c27_13
theorem n27_10 : Run Cx 27 T ds ro (.code c27_10 :: k) H Q = Run Cx 27 T ds ro (.code c27_11 :: .code c27_13 :: k) H Q := run_seq
def c27_4 : AC := .seq c27_5 c27_10
theorem n27_4 : Run Cx 27 T ds ro (.code c27_4 :: k) H Q = Run Cx 27 T ds ro (.code c27_5 :: .code c27_10 :: k) H Q := run_seq
def c27_3 : AC := .loop c27_4
theorem n27_3 : Run Cx 27 T ds ro (.code c27_3 :: k) H Q = Run Cx 27 T ds ro (.inLoop c27_4 :: k) H Q := run_loop'
def c27_2 : AC := .block 0 c27_3
theorem n27_2 : Run Cx 27 T ds ro (.code c27_2 :: k) H Q = Run Cx 27 T ds ro (.code c27_3 :: .inBlock 0 :: k) H Q := run_block
def c27_0 : AC := .seq c27_1 c27_2
theorem n27_0 : Run Cx 27 T ds ro (.code c27_0 :: k) H Q = Run Cx 27 T ds ro (.code c27_1 :: .code c27_2 :: k) H Q := run_seq
theorem body27 : bodyOf Cx 27 = some c27_0 := by kernel_rfl
theorem res27 : resOf Cx 27 = some [] := by kernel_rfl
theorem pure27 : Cx.pure 27 = false := by kernel_rfl
-- RULES 27: n27_0, n27_1, n27_2, n27_3, n27_4, n27_5, n27_6, n27_7, n27_8, n27_9, n27_10, n27_11, n27_12, n27_13
end
end Go.Proofs.Ytmbagennmeahhaa.G
