import Derived.Test.YtkcanidmdjfclaaGF1
namespace Go.Proofs.Ytkcanidmdjfclaa.G
open Go.BX
section
variable {T : Nat → AV} {ds : List ADef} {ro : Option Nat} {k : List AItem} {H : AHeap} {Q : AV → AHeap → Prop}
def o36_1 : List AO := [{ dst := (some 2), op := .box 25 (.tmp 0), ty := 0, guard := none },
  { dst := (some 3), op := .box 25 (.tmp 1), ty := 0, guard := none },
  { dst := (some 4), op := .assign (.const (.bool false)), ty := 4, guard := none }]
def c36_1 : AC := .region o36_1 []
theorem n36_1 : Run Cx 36 T ds ro (.code c36_1 :: k) H Q = RunOps Cx 36 T ds ro o36_1 k H Q := run_region
def o36_4 : List AO := [{ dst := (some 6), op := .fieldAddr 25 (.tmp 2) 0, ty := 0, guard := none },
  { dst := (some 7), op := .load 3 (.tmp 6), ty := 3, guard := none },
  { dst := (some 8), op := .fieldAddr 25 (.tmp 3) 0, ty := 0, guard := none },
  { dst := (some 9), op := .load 3 (.tmp 8), ty := 3, guard := none },
  { dst := (some 10), op := .binOp .neq 3 (.tmp 7) (.tmp 9) 3, ty := 4, guard := none }]
def c36_4 : AC := .region o36_4 []
theorem n36_4 : Run Cx 36 T ds ro (.code c36_4 :: k) H Q = RunOps Cx 36 T ds ro o36_4 k H Q := run_region
def o36_7 : List AO := [{ dst := (some 11), op := .fieldAddr 25 (.tmp 2) 0, ty := 0, guard := none },
  { dst := (some 12), op := .load 3 (.tmp 11), ty := 3, guard := none },
  { dst := (some 13), op := .fieldAddr 25 (.tmp 3) 0, ty := 0, guard := none },
  { dst := (some 14), op := .load 3 (.tmp 13), ty := 3, guard := none },
  { dst := (some 15), op := .binOp .lss 3 (.tmp 12) (.tmp 14) 3, ty := 4, guard := none },
  { dst := (some 4), op := .assign (.tmp 15), ty := 4, guard := none }]
def c36_7 : AC := .region o36_7 []
theorem n36_7 : Run Cx 36 T ds ro (.code c36_7 :: k) H Q = RunOps Cx 36 T ds ro o36_7 k H Q := run_region
def c36_8 : AC := .ret
theorem n36_8 : Run Cx 36 T [] none (.code c36_8 :: k) H Q = RunRes Cx T H Q (resOf Cx 36) := run_ret
def c36_6 : AC := .seq c36_7 c36_8
theorem n36_6 : Run Cx 36 T ds ro (.code c36_6 :: k) H Q = Run Cx 36 T ds ro (.code c36_7 :: .code c36_8 :: k) H Q := run_seq
def c36_9 : AC := .skip
theorem n36_9 : Run Cx 36 T ds ro (.code c36_9 :: k) H Q = Run Cx 36 T ds ro (k) H Q := run_skip
def c36_5 : AC := .cond (.tmp 10) c36_6 c36_9
theorem n36_5 : Run Cx 36 T ds ro (.code c36_5 :: k) H Q = RunCond Cx 36 T ds ro (.tmp 10) (ev T (.tmp 10)) c36_6 c36_9 k H Q := run_condC
def c36_3 : AC := .seq c36_4 c36_5
theorem n36_3 : Run Cx 36 T ds ro (.code c36_3 :: k) H Q = Run Cx 36 T ds ro (.code c36_4 :: .code c36_5 :: k) H Q := run_seq
def o36_12 : List AO := [{ dst := (some 16), op := .fieldAddr 25 (.tmp 2) 0, ty := 0, guard := none },
  { dst := (some 17), op := .load 3 (.tmp 16), ty := 3, guard := none },
  { dst := (some 18), op := .binOp .eql 3 (.tmp 17) (.const (.int .i64 0)) 3, ty := 4, guard := none }]
def c36_12 : AC := .region o36_12 []
theorem n36_12 : Run Cx 36 T ds ro (.code c36_12 :: k) H Q = RunOps Cx 36 T ds ro o36_12 k H Q := run_region
def o36_15 : List AO := [{ dst := (some 19), op := .fieldAddr 25 (.tmp 2) 1, ty := 0, guard := none },
  { dst := (some 20), op := .load 3 (.tmp 19), ty := 3, guard := none },
  { dst := (some 21), op := .fieldAddr 25 (.tmp 3) 1, ty := 0, guard := none },
  { dst := (some 22), op := .load 3 (.tmp 21), ty := 3, guard := none },
  { dst := (some 23), op := .binOp .lss 3 (.tmp 20) (.tmp 22) 3, ty := 4, guard := none },
  { dst := (some 4), op := .assign (.tmp 23), ty := 4, guard := none }]
def c36_15 : AC := .region o36_15 []
theorem n36_15 : Run Cx 36 T ds ro (.code c36_15 :: k) H Q = RunOps Cx 36 T ds ro o36_15 k H Q := run_region
def c36_16 : AC := .ret
theorem n36_16 : Run Cx 36 T [] none (.code c36_16 :: k) H Q = RunRes Cx T H Q (resOf Cx 36) := run_ret
def c36_14 : AC := .seq c36_15 c36_16
theorem n36_14 : Run Cx 36 T ds ro (.code c36_14 :: k) H Q = Run Cx 36 T ds ro (.code c36_15 :: .code c36_16 :: k) H Q := run_seq
def c36_17 : AC := .skip
theorem n36_17 : Run Cx 36 T ds ro (.code c36_17 :: k) H Q = Run Cx 36 T ds ro (k) H Q := run_skip
def c36_13 : AC := .cond (.tmp 18) c36_14 c36_17
theorem n36_13 : Run Cx 36 T ds ro (.code c36_13 :: k) H Q = RunCond Cx 36 T ds ro (.tmp 18) (ev T (.tmp 18)) c36_14 c36_17 k H Q := run_condC
def c36_11 : AC := .seq c36_12 c36_13
theorem n36_11 : Run Cx 36 T ds ro (.code c36_11 :: k) H Q = Run Cx 36 T ds ro (.code c36_12 :: .code c36_13 :: k) H Q := run_seq
def o36_20 : List AO := [{ dst := (some 24), op := .fieldAddr 25 (.tmp 2) 0, ty := 0, guard := none },
  { dst := (some 25), op := .load 3 (.tmp 24), ty := 3, guard := none },
  { dst := (some 26), op := .binOp .eql 3 (.tmp 25) (.const (.int .i64 1)) 3, ty := 4, guard := none }]
def c36_20 : AC := .region o36_20 []
theorem n36_20 : Run Cx 36 T ds ro (.code c36_20 :: k) H Q = RunOps Cx 36 T ds ro o36_20 k H Q := run_region
def o36_24 : List AO := [{ dst := (some 5), op := .assign (.const (.int .i64 0)), ty := 3, guard := none }]
def c36_24 : AC := .region o36_24 []
theorem n36_24 : Run Cx 36 T ds ro (.code c36_24 :: k) H Q = RunOps Cx 36 T ds ro o36_24 k H Q := run_region
def o36_29 : List AO := [{ dst := (some 27), op := .move (.tmp 5), ty := 3, guard := none },
  { dst := (some 28), op := .fieldAddr 25 (.tmp 2) 2, ty := 0, guard := none },
  { dst := (some 29), op := .load 9 (.tmp 28), ty := 9, guard := none },
  { dst := (some 30), op := .call { callee := (.builtin .len), args := #[(.tmp 29)], argTypes := #[9] }, ty := 3, guard := none },
  { dst := (some 31), op := .binOp .lss 3 (.tmp 27) (.tmp 30) 3, ty := 4, guard := none },
  { dst := (some 32), op := .move (.tmp 31), ty := 4, guard := none },
  { dst := (some 33), op := .move (.tmp 5), ty := 3, guard := (some (32, true)) },
  { dst := (some 34), op := .fieldAddr 25 (.tmp 3) 2, ty := 0, guard := (some (32, true)) },
  { dst := (some 35), op := .load 9 (.tmp 34), ty := 9, guard := (some (32, true)) },
  { dst := (some 36), op := .call { callee := (.builtin .len), args := #[(.tmp 35)], argTypes := #[9] }, ty := 3, guard := (some (32, true)) },
  { dst := (some 37), op := .binOp .lss 3 (.tmp 33) (.tmp 36) 3, ty := 4, guard := (some (32, true)) },
  { dst := (some 38), op := .pick (.tmp 32) (.tmp 37) (.const (.bool false)), ty := 4, guard := none }]
def c36_29 : AC := .region o36_29 []
theorem n36_29 : Run Cx 36 T ds ro (.code c36_29 :: k) H Q = RunOps Cx 36 T ds ro o36_29 k H Q := run_region
def c36_31 : AC := .skip
theorem n36_31 : Run Cx 36 T ds ro (.code c36_31 :: k) H Q = Run Cx 36 T ds ro (k) H Q := run_skip
def c36_32 : AC := .exit 0
theorem n36_32 : Run Cx 36 T ds ro (.code c36_32 :: k) H Q = RunExit Cx 36 T ds ro 0 k k H Q := run_exit_start
def c36_30 : AC := .cond (.tmp 38) c36_31 c36_32
theorem n36_30 : Run Cx 36 T ds ro (.code c36_30 :: k) H Q = RunCond Cx 36 T ds ro (.tmp 38) (ev T (.tmp 38)) c36_31 c36_32 k H Q := run_condC
def c36_28 : AC := .seq c36_29 c36_30
theorem n36_28 : Run Cx 36 T ds ro (.code c36_28 :: k) H Q = Run Cx 36 T ds ro (.code c36_29 :: .code c36_30 :: k) H Q := run_seq
def o36_36 : List AO := [{ dst := (some 41), op := .fieldAddr 25 (.tmp 2) 2, ty := 0, guard := none },
  { dst := (some 42), op := .load 9 (.tmp 41), ty := 9, guard := none },
  { dst := (some 43), op := .move (.tmp 5), ty := 3, guard := none },
  { dst := (some 44), op := .index 9 (.tmp 42) (.tmp 43), ty := 5, guard := none },
  { dst := (some 45), op := .fieldAddr 25 (.tmp 3) 2, ty := 0, guard := none },
  { dst := (some 46), op := .load 9 (.tmp 45), ty := 9, guard := none },
  { dst := (some 47), op := .move (.tmp 5), ty := 3, guard := none },
  { dst := (some 48), op := .index 9 (.tmp 46) (.tmp 47), ty := 5, guard := none },
  { dst := (some 49), op := .binOp .neq 5 (.tmp 44) (.tmp 48) 5, ty := 4, guard := none }]
def c36_36 : AC := .region o36_36 []
theorem n36_36 : Run Cx 36 T ds ro (.code c36_36 :: k) H Q = RunOps Cx 36 T ds ro o36_36 k H Q := run_region
def o36_39 : List AO := [{ dst := (some 50), op := .fieldAddr 25 (.tmp 2) 2, ty := 0, guard := none },
  { dst := (some 51), op := .load 9 (.tmp 50), ty := 9, guard := none },
  { dst := (some 52), op := .move (.tmp 5), ty := 3, guard := none },
  { dst := (some 53), op := .index 9 (.tmp 51) (.tmp 52), ty := 5, guard := none },
  { dst := (some 54), op := .fieldAddr 25 (.tmp 3) 2, ty := 0, guard := none },
  { dst := (some 55), op := .load 9 (.tmp 54), ty := 9, guard := none },
  { dst := (some 56), op := .move (.tmp 5), ty := 3, guard := none },
  { dst := (some 57), op := .index 9 (.tmp 55) (.tmp 56), ty := 5, guard := none },
  { dst := (some 58), op := .binOp .lss 5 (.tmp 53) (.tmp 57) 5, ty := 4, guard := none },
  { dst := (some 4), op := .assign (.tmp 58), ty := 4, guard := none }]
def c36_39 : AC := .region o36_39 []
theorem n36_39 : Run Cx 36 T ds ro (.code c36_39 :: k) H Q = RunOps Cx 36 T ds ro o36_39 k H Q := run_region
def c36_40 : AC := .ret
theorem n36_40 : Run Cx 36 T [] none (.code c36_40 :: k) H Q = RunRes Cx T H Q (resOf Cx 36) := run_ret
def c36_38 : AC := .seq c36_39 c36_40
theorem n36_38 : Run Cx 36 T ds ro (.code c36_38 :: k) H Q = Run Cx 36 T ds ro (.code c36_39 :: .code c36_40 :: k) H Q := run_seq
def c36_41 : AC := .skip
theorem n36_41 : Run Cx 36 T ds ro (.code c36_41 :: k) H Q = Run Cx 36 T ds ro (k) H Q := run_skip
def c36_37 : AC := .cond (.tmp 49) c36_38 c36_41
theorem n36_37 : Run Cx 36 T ds ro (.code c36_37 :: k) H Q = RunCond Cx 36 T ds ro (.tmp 49) (ev T (.tmp 49)) c36_38 c36_41 k H Q := run_condC
def c36_35 : AC := .seq c36_36 c36_37
theorem n36_35 : Run Cx 36 T ds ro (.code c36_35 :: k) H Q = Run Cx 36 T ds ro (.code c36_36 :: .code c36_37 :: k) H Q := run_seq
def c36_34 : AC := .block 1 c36_35
theorem n36_34 : Run Cx 36 T ds ro (.code c36_34 :: k) H Q = Run Cx 36 T ds ro (.code c36_35 :: .inBlock 1 :: k) H Q := run_block
def o36_42 : List AO := [{ dst := (some 39), op := .move (.tmp 5), ty := 3, guard := none },
  { dst := (some 40), op := .binOp .add 3 (.tmp 39) (.const (.int .i64 1)) 3, ty := 3, guard := none },
  { dst := (some 5), op := .assign (.tmp 40), ty := 3, guard := none }]
def c36_42 : AC := .region o36_42 []
theorem n36_42 : Run Cx 36 T ds ro (.code c36_42 :: k) H Q = RunOps Cx 36 T ds ro o36_42 k H Q := run_region
def c36_33 : AC := .seq c36_34 c36_42
theorem n36_33 : Run Cx 36 T ds ro (.code c36_33 :: k) H Q = Run Cx 36 T ds ro (.code c36_34 :: .code c36_42 :: k) H Q := run_seq
def c36_27 : AC := .seq c36_28 c36_33
theorem n36_27 : Run Cx 36 T ds ro (.code c36_27 :: k) H Q = Run Cx 36 T ds ro (.code c36_28 :: .code c36_33 :: k) H Q := run_seq
def c36_26 : AC := .loop c36_27
theorem n36_26 : Run Cx 36 T ds ro (.code c36_26 :: k) H Q = Run Cx 36 T ds ro (.inLoop c36_27 :: k) H Q := run_loop'
def c36_25 : AC := .block 0 c36_26
theorem n36_25 : Run Cx 36 T ds ro (.code c36_25 :: k) H Q = Run Cx 36 T ds ro (.code c36_26 :: .inBlock 0 :: k) H Q := run_block
def c36_23 : AC := .seq c36_24 c36_25
theorem n36_23 : Run Cx 36 T ds ro (.code c36_23 :: k) H Q = Run Cx 36 T ds ro (.code c36_24 :: .code c36_25 :: k) H Q := run_seq
def o36_44 : List AO := [{ dst := (some 59), op := .fieldAddr 25 (.tmp 2) 2, ty := 0, guard := none },
  { dst := (some 60), op := .load 9 (.tmp 59), ty := 9, guard := none },
  { dst := (some 61), op := .call { callee := (.builtin .len), args := #[(.tmp 60)], argTypes := #[9] }, ty := 3, guard := none },
  { dst := (some 62), op := .fieldAddr 25 (.tmp 3) 2, ty := 0, guard := none },
  { dst := (some 63), op := .load 9 (.tmp 62), ty := 9, guard := none },
  { dst := (some 64), op := .call { callee := (.builtin .len), args := #[(.tmp 63)], argTypes := #[9] }, ty := 3, guard := none },
  { dst := (some 65), op := .binOp .lss 3 (.tmp 61) (.tmp 64) 3, ty := 4, guard := none },
  { dst := (some 4), op := .assign (.tmp 65), ty := 4, guard := none }]
def c36_44 : AC := .region o36_44 []
theorem n36_44 : Run Cx 36 T ds ro (.code c36_44 :: k) H Q = RunOps Cx 36 T ds ro o36_44 k H Q := run_region
def c36_45 : AC := .ret
theorem n36_45 : Run Cx 36 T [] none (.code c36_45 :: k) H Q = RunRes Cx T H Q (resOf Cx 36) := run_ret
def c36_43 : AC := .seq c36_44 c36_45
theorem n36_43 : Run Cx 36 T ds ro (.code c36_43 :: k) H Q = Run Cx 36 T ds ro (.code c36_44 :: .code c36_45 :: k) H Q := run_seq
def c36_22 : AC := .seq c36_23 c36_43
theorem n36_22 : Run Cx 36 T ds ro (.code c36_22 :: k) H Q = Run Cx 36 T ds ro (.code c36_23 :: .code c36_43 :: k) H Q := run_seq
def c36_46 : AC := .skip
theorem n36_46 : Run Cx 36 T ds ro (.code c36_46 :: k) H Q = Run Cx 36 T ds ro (k) H Q := run_skip
def c36_21 : AC := .cond (.tmp 26) c36_22 c36_46
theorem n36_21 : Run Cx 36 T ds ro (.code c36_21 :: k) H Q = RunCond Cx 36 T ds ro (.tmp 26) (ev T (.tmp 26)) c36_22 c36_46 k H Q := run_condC
def c36_19 : AC := .seq c36_20 c36_21
theorem n36_19 : Run Cx 36 T ds ro (.code c36_19 :: k) H Q = Run Cx 36 T ds ro (.code c36_20 :: .code c36_21 :: k) H Q := run_seq
def o36_48 : List AO := [{ dst := (some 66), op := .fieldAddr 25 (.tmp 2) 3, ty := 0, guard := none },
  { dst := (some 67), op := .fieldAddr 23 (.tmp 66) 0, ty := 0, guard := none },
  { dst := (some 68), op := .load 3 (.tmp 67), ty := 3, guard := none },
  { dst := (some 69), op := .fieldAddr 25 (.tmp 3) 3, ty := 0, guard := none },
  { dst := (some 70), op := .fieldAddr 23 (.tmp 69) 0, ty := 0, guard := none },
  { dst := (some 71), op := .load 3 (.tmp 70), ty := 3, guard := none },
  { dst := (some 72), op := .binOp .lss 3 (.tmp 68) (.tmp 71) 3, ty := 4, guard := none },
  { dst := (some 73), op := .move (.tmp 72), ty := 4, guard := none },
  { dst := (some 74), op := .fieldAddr 25 (.tmp 2) 3, ty := 0, guard := (some (73, false)) },
  { dst := (some 75), op := .fieldAddr 23 (.tmp 74) 0, ty := 0, guard := (some (73, false)) },
  { dst := (some 76), op := .load 3 (.tmp 75), ty := 3, guard := (some (73, false)) },
  { dst := (some 77), op := .fieldAddr 25 (.tmp 3) 3, ty := 0, guard := (some (73, false)) },
  { dst := (some 78), op := .fieldAddr 23 (.tmp 77) 0, ty := 0, guard := (some (73, false)) },
  { dst := (some 79), op := .load 3 (.tmp 78), ty := 3, guard := (some (73, false)) },
  { dst := (some 80), op := .binOp .eql 3 (.tmp 76) (.tmp 79) 3, ty := 4, guard := (some (73, false)) },
  { dst := (some 81), op := .move (.tmp 80), ty := 4, guard := (some (73, false)) },
  { dst := (some 82), op := .fieldAddr 25 (.tmp 2) 3, ty := 0, guard := (some (81, true)) },
  { dst := (some 83), op := .fieldAddr 23 (.tmp 82) 1, ty := 0, guard := (some (81, true)) },
  { dst := (some 84), op := .load 3 (.tmp 83), ty := 3, guard := (some (81, true)) },
  { dst := (some 85), op := .fieldAddr 25 (.tmp 3) 3, ty := 0, guard := (some (81, true)) },
  { dst := (some 86), op := .fieldAddr 23 (.tmp 85) 1, ty := 0, guard := (some (81, true)) },
  { dst := (some 87), op := .load 3 (.tmp 86), ty := 3, guard := (some (81, true)) },
  { dst := (some 88), op := .binOp .lss 3 (.tmp 84) (.tmp 87) 3, ty := 4, guard := (some (81, true)) },
  { dst := (some 89), op := .pick (.tmp 81) (.tmp 88) (.const (.bool false)), ty := 4, guard := (some (73, false)) },
  { dst := (some 90), op := .pick (.tmp 73) (.const (.bool true)) (.tmp 89), ty := 4, guard := none },
  { dst := (some 4), op := .assign (.tmp 90), ty := 4, guard := none }]
def c36_48 : AC := .region o36_48 []
theorem n36_48 : Run Cx 36 T ds ro (.code c36_48 :: k) H Q = RunOps Cx 36 T ds ro o36_48 k H Q := run_region
def c36_49 : AC := .ret
theorem n36_49 : Run Cx 36 T [] none (.code c36_49 :: k) H Q = RunRes Cx T H Q (resOf Cx 36) := run_ret
def c36_47 : AC := .seq c36_48 c36_49
theorem n36_47 : Run Cx 36 T ds ro (.code c36_47 :: k) H Q = Run Cx 36 T ds ro (.code c36_48 :: .code c36_49 :: k) H Q := run_seq
def c36_18 : AC := .seq c36_19 c36_47
theorem n36_18 : Run Cx 36 T ds ro (.code c36_18 :: k) H Q = Run Cx 36 T ds ro (.code c36_19 :: .code c36_47 :: k) H Q := run_seq
def c36_10 : AC := .seq c36_11 c36_18
theorem n36_10 : Run Cx 36 T ds ro (.code c36_10 :: k) H Q = Run Cx 36 T ds ro (.code c36_11 :: .code c36_18 :: k) H Q := run_seq
def c36_2 : AC := .seq c36_3 c36_10
theorem n36_2 : Run Cx 36 T ds ro (.code c36_2 :: k) H Q = Run Cx 36 T ds ro (.code c36_3 :: .code c36_10 :: k) H Q := run_seq
def c36_0 : AC := .seq c36_1 c36_2
theorem n36_0 : Run Cx 36 T ds ro (.code c36_0 :: k) H Q = Run Cx 36 T ds ro (.code c36_1 :: .code c36_2 :: k) H Q := run_seq
theorem body36 : bodyOf Cx 36 = some c36_0 := by kernel_rfl
theorem res36 : resOf Cx 36 = some [.tmp 4] := by kernel_rfl
theorem pure36 : Cx.pure 36 = true := by kernel_rfl
-- RULES 36: n36_0, n36_1, n36_2, n36_3, n36_4, n36_5, n36_6, n36_7, n36_8, n36_9, n36_10, n36_11, n36_12, n36_13, n36_14, n36_15, n36_16, n36_17, n36_18, n36_19, n36_20, n36_21, n36_22, n36_23, n36_24, n36_25, n36_26, n36_27, n36_28, n36_29, n36_30, n36_31, n36_32, n36_33, n36_34, n36_35, n36_36, n36_37, n36_38, n36_39, n36_40, n36_41, n36_42, n36_43, n36_44, n36_45, n36_46, n36_47, n36_48, n36_49
def o37_1 : List AO := [{ dst := (some 2), op := .assign (.const (.int .i64 0)), ty := 3, guard := none },
  { dst := (some 3), op := .assign (.const (.int .i64 0)), ty := 34, guard := none }]
def c37_1 : AC := .region o37_1 []
theorem n37_1 : Run Cx 37 T ds ro (.code c37_1 :: k) H Q = RunOps Cx 37 T ds ro o37_1 k H Q := run_region
def o37_3 : List AO := [{ dst := (some 8), op := .move (.tmp 0), ty := 32, guard := none },
  { dst := (some 9), op := .call { callee := (.value (.func 51)), args := #[(.tmp 8)], argTypes := #[32] }, ty := 52, guard := none },
  { dst := (some 7), op := .move (.tmp 9), ty := 52, guard := none },
  { dst := (some 10), op := .extract (.tmp 7) 0, ty := 3, guard := none },
  { dst := (some 11), op := .extract (.tmp 7) 1, ty := 3, guard := none },
  { dst := (some 12), op := .extract (.tmp 7) 2, ty := 34, guard := none },
  { dst := (some 4), op := .assign (.tmp 10), ty := 3, guard := none },
  { dst := (some 5), op := .assign (.tmp 11), ty := 3, guard := none },
  { dst := (some 6), op := .assign (.tmp 12), ty := 34, guard := none }]
def c37_3 : AC := .region o37_3 []
theorem n37_3 : Run Cx 37 T ds ro (.code c37_3 :: k) H Q = RunOps Cx 37 T ds ro o37_3 k H Q := run_region
def o37_6 : List AO := [{ dst := (some 13), op := .move (.tmp 6), ty := 34, guard := none },
  { dst := (some 14), op := .binOp .neq 34 (.tmp 13) (.const (.int .i64 0)) 34, ty := 4, guard := none }]
def c37_6 : AC := .region o37_6 []
theorem n37_6 : Run Cx 37 T ds ro (.code c37_6 :: k) H Q = RunOps Cx 37 T ds ro o37_6 k H Q := run_region
def o37_9 : List AO := [{ dst := (some 15), op := .move (.tmp 6), ty := 34, guard := none },
  { dst := (some 2), op := .assign (.const (.int .i64 0)), ty := 3, guard := none },
  { dst := (some 3), op := .assign (.tmp 15), ty := 34, guard := none }]
def c37_9 : AC := .region o37_9 []
theorem n37_9 : Run Cx 37 T ds ro (.code c37_9 :: k) H Q = RunOps Cx 37 T ds ro o37_9 k H Q := run_region
def c37_10 : AC := .ret
theorem n37_10 : Run Cx 37 T [] none (.code c37_10 :: k) H Q = RunRes Cx T H Q (resOf Cx 37) := run_ret
def c37_8 : AC := .seq c37_9 c37_10
theorem n37_8 : Run Cx 37 T ds ro (.code c37_8 :: k) H Q = Run Cx 37 T ds ro (.code c37_9 :: .code c37_10 :: k) H Q := run_seq
def c37_11 : AC := .skip
theorem n37_11 : Run Cx 37 T ds ro (.code c37_11 :: k) H Q = Run Cx 37 T ds ro (k) H Q := run_skip
def c37_7 : AC := .cond (.tmp 14) c37_8 c37_11
theorem n37_7 : Run Cx 37 T ds ro (.code c37_7 :: k) H Q = RunCond Cx 37 T ds ro (.tmp 14) (ev T (.tmp 14)) c37_8 c37_11 k H Q := run_condC
def c37_5 : AC := .seq c37_6 c37_7
theorem n37_5 : Run Cx 37 T ds ro (.code c37_5 :: k) H Q = Run Cx 37 T ds ro (.code c37_6 :: .code c37_7 :: k) H Q := run_seq
def o37_13 : List AO := [{ dst := (some 16), op := .move (.tmp 0), ty := 32, guard := none },
  { dst := (some 17), op := .nilCheck (.tmp 16), ty := 0, guard := none },
  { dst := (some 18), op := .fieldAddr 49 (.tmp 17) 1, ty := 0, guard := none },
  { dst := (some 19), op := .load 3 (.tmp 18), ty := 3, guard := none },
  { dst := (some 20), op := .move (.tmp 5), ty := 3, guard := none },
  { dst := (some 21), op := .binOp .add 3 (.tmp 19) (.tmp 20) 3, ty := 3, guard := none },
  { dst := (some 22), op := .nilCheck (.tmp 16), ty := 0, guard := none },
  { dst := (some 23), op := .fieldAddr 49 (.tmp 22) 1, ty := 0, guard := none },
  { dst := none, op := .store 3 (.tmp 23) (.tmp 21), ty := 0, guard := none }]
def c37_13 : AC := .region o37_13 []
theorem n37_13 : Run Cx 37 T ds ro (.code c37_13 :: k) H Q = RunOps Cx 37 T ds ro o37_13 k H Q := run_region
def o37_15 : List AO := [{ dst := (some 24), op := .move (.tmp 4), ty := 3, guard := none },
  { dst := (some 2), op := .assign (.tmp 24), ty := 3, guard := none },
  { dst := (some 3), op := .assign (.const (.int .i64 0)), ty := 34, guard := none }]
def c37_15 : AC := .region o37_15 []
theorem n37_15 : Run Cx 37 T ds ro (.code c37_15 :: k) H Q = RunOps Cx 37 T ds ro o37_15 k H Q := run_region
def c37_16 : AC := .ret
theorem n37_16 : Run Cx 37 T [] none (.code c37_16 :: k) H Q = RunRes Cx T H Q (resOf Cx 37) := run_ret
def c37_14 : AC := .seq c37_15 c37_16
theorem n37_14 : Run Cx 37 T ds ro (.code c37_14 :: k) H Q = Run Cx 37 T ds ro (.code c37_15 :: .code c37_16 :: k) H Q := run_seq
def c37_12 : AC := .seq c37_13 c37_14
theorem n37_12 : Run Cx 37 T ds ro (.code c37_12 :: k) H Q = Run Cx 37 T ds ro (.code c37_13 :: .code c37_14 :: k) H Q := run_seq
def c37_4 : AC := .seq c37_5 c37_12
theorem n37_4 : Run Cx 37 T ds ro (.code c37_4 :: k) H Q = Run Cx 37 T ds ro (.code c37_5 :: .code c37_12 :: k) H Q := run_seq
def c37_2 : AC := .seq c37_3 c37_4
theorem n37_2 : Run Cx 37 T ds ro (.code c37_2 :: k) H Q = Run Cx 37 T ds ro (.code c37_3 :: .code c37_4 :: k) H Q := run_seq
def c37_0 : AC := .seq c37_1 c37_2
theorem n37_0 : Run Cx 37 T ds ro (.code c37_0 :: k) H Q = Run Cx 37 T ds ro (.code c37_1 :: .code c37_2 :: k) H Q := run_seq
theorem body37 : bodyOf Cx 37 = some c37_0 := by kernel_rfl
theorem res37 : resOf Cx 37 = some [.tmp 2, .tmp 3] := by kernel_rfl
theorem pure37 : Cx.pure 37 = false := by kernel_rfl
-- RULES 37: n37_0, n37_1, n37_2, n37_3, n37_4, n37_5, n37_6, n37_7, n37_8, n37_9, n37_10, n37_11, n37_12, n37_13, n37_14, n37_15, n37_16
def o38_1 : List AO := [{ dst := (some 4), op := .assign (.const (.int .i64 0)), ty := 3, guard := none },
  { dst := (some 5), op := .assign (.const (.int .i64 0)), ty := 3, guard := none },
  { dst := (some 6), op := .assign (.const (.int .i64 0)), ty := 34, guard := none }]
def c38_1 : AC := .region o38_1 []
theorem n38_1 : Run Cx 38 T ds ro (.code c38_1 :: k) H Q = RunOps Cx 38 T ds ro o38_1 k H Q := run_region
def o38_3 : List AO := [{ dst := (some 11), op := .move (.tmp 0), ty := 51, guard := none },
  { dst := (some 12), op := .call { callee := (.value (.tmp 11)), args := #[], argTypes := #[] }, ty := 50, guard := none },
  { dst := (some 10), op := .move (.tmp 12), ty := 50, guard := none },
  { dst := (some 13), op := .extract (.tmp 10) 0, ty := 3, guard := none },
  { dst := (some 14), op := .extract (.tmp 10) 1, ty := 34, guard := none },
  { dst := (some 7), op := .assign (.tmp 13), ty := 3, guard := none },
  { dst := (some 8), op := .assign (.tmp 14), ty := 34, guard := none }]
def c38_3 : AC := .region o38_3 []
theorem n38_3 : Run Cx 38 T ds ro (.code c38_3 :: k) H Q = RunOps Cx 38 T ds ro o38_3 k H Q := run_region
def o38_6 : List AO := [{ dst := (some 15), op := .move (.tmp 8), ty := 34, guard := none },
  { dst := (some 16), op := .binOp .neq 34 (.tmp 15) (.const (.int .i64 0)) 34, ty := 4, guard := none }]
def c38_6 : AC := .region o38_6 []
theorem n38_6 : Run Cx 38 T ds ro (.code c38_6 :: k) H Q = RunOps Cx 38 T ds ro o38_6 k H Q := run_region
def o38_9 : List AO := [{ dst := (some 17), op := .move (.tmp 8), ty := 34, guard := none },
  { dst := (some 4), op := .assign (.const (.int .i64 0)), ty := 3, guard := none },
  { dst := (some 5), op := .assign (.const (.int .i64 0)), ty := 3, guard := none },
  { dst := (some 6), op := .assign (.tmp 17), ty := 34, guard := none }]
def c38_9 : AC := .region o38_9 []
theorem n38_9 : Run Cx 38 T ds ro (.code c38_9 :: k) H Q = RunOps Cx 38 T ds ro o38_9 k H Q := run_region
def c38_10 : AC := .ret
theorem n38_10 : Run Cx 38 T [] none (.code c38_10 :: k) H Q = RunRes Cx T H Q (resOf Cx 38) := run_ret
def c38_8 : AC := .seq c38_9 c38_10
theorem n38_8 : Run Cx 38 T ds ro (.code c38_8 :: k) H Q = Run Cx 38 T ds ro (.code c38_9 :: .code c38_10 :: k) H Q := run_seq
def c38_11 : AC := .skip
theorem n38_11 : Run Cx 38 T ds ro (.code c38_11 :: k) H Q = Run Cx 38 T ds ro (k) H Q := run_skip
def c38_7 : AC := .cond (.tmp 16) c38_8 c38_11
theorem n38_7 : Run Cx 38 T ds ro (.code c38_7 :: k) H Q = RunCond Cx 38 T ds ro (.tmp 16) (ev T (.tmp 16)) c38_8 c38_11 k H Q := run_condC
def c38_5 : AC := .seq c38_6 c38_7
theorem n38_5 : Run Cx 38 T ds ro (.code c38_5 :: k) H Q = Run Cx 38 T ds ro (.code c38_6 :: .code c38_7 :: k) H Q := run_seq
def o38_13 : List AO := [{ dst := (some 19), op := .move (.tmp 1), ty := 51, guard := none },
  { dst := (some 20), op := .call { callee := (.value (.tmp 19)), args := #[], argTypes := #[] }, ty := 50, guard := none },
  { dst := (some 18), op := .move (.tmp 20), ty := 50, guard := none },
  { dst := (some 21), op := .extract (.tmp 18) 0, ty := 3, guard := none },
  { dst := (some 22), op := .extract (.tmp 18) 1, ty := 34, guard := none },
  { dst := (some 9), op := .assign (.tmp 21), ty := 3, guard := none },
  { dst := (some 8), op := .assign (.tmp 22), ty := 34, guard := none }]
def c38_13 : AC := .region o38_13 []
theorem n38_13 : Run Cx 38 T ds ro (.code c38_13 :: k) H Q = RunOps Cx 38 T ds ro o38_13 k H Q := run_region
def o38_15 : List AO := [{ dst := (some 23), op := .move (.tmp 7), ty := 3, guard := none },
  { dst := (some 24), op := .move (.tmp 9), ty := 3, guard := none },
  { dst := (some 25), op := .move (.tmp 8), ty := 34, guard := none },
  { dst := (some 4), op := .assign (.tmp 23), ty := 3, guard := none },
  { dst := (some 5), op := .assign (.tmp 24), ty := 3, guard := none },
  { dst := (some 6), op := .assign (.tmp 25), ty := 34, guard := none }]
def c38_15 : AC := .region o38_15 []
theorem n38_15 : Run Cx 38 T ds ro (.code c38_15 :: k) H Q = RunOps Cx 38 T ds ro o38_15 k H Q := run_region
def c38_16 : AC := .ret
theorem n38_16 : Run Cx 38 T [] none (.code c38_16 :: k) H Q = RunRes Cx T H Q (resOf Cx 38) := run_ret
def c38_14 : AC := .seq c38_15 c38_16
theorem n38_14 : Run Cx 38 T ds ro (.code c38_14 :: k) H Q = Run Cx 38 T ds ro (.code c38_15 :: .code c38_16 :: k) H Q := run_seq
def c38_12 : AC := .seq c38_13 c38_14
theorem n38_12 : Run Cx 38 T ds ro (.code c38_12 :: k) H Q = Run Cx 38 T ds ro (.code c38_13 :: .code c38_14 :: k) H Q := run_seq
def c38_4 : AC := .seq c38_5 c38_12
theorem n38_4 : Run Cx 38 T ds ro (.code c38_4 :: k) H Q = Run Cx 38 T ds ro (.code c38_5 :: .code c38_12 :: k) H Q := run_seq
def c38_2 : AC := .seq c38_3 c38_4
theorem n38_2 : Run Cx 38 T ds ro (.code c38_2 :: k) H Q = Run Cx 38 T ds ro (.code c38_3 :: .code c38_4 :: k) H Q := run_seq
def c38_0 : AC := .seq c38_1 c38_2
theorem n38_0 : Run Cx 38 T ds ro (.code c38_0 :: k) H Q = Run Cx 38 T ds ro (.code c38_1 :: .code c38_2 :: k) H Q := run_seq
theorem body38 : bodyOf Cx 38 = some c38_0 := by kernel_rfl
theorem res38 : resOf Cx 38 = some [.tmp 4, .tmp 5, .tmp 6] := by kernel_rfl
theorem pure38 : Cx.pure 38 = false := by kernel_rfl
-- RULES 38: n38_0, n38_1, n38_2, n38_3, n38_4, n38_5, n38_6, n38_7, n38_8, n38_9, n38_10, n38_11, n38_12, n38_13, n38_14, n38_15, n38_16
def o39_1 : List AO := [{ dst := (some 2), op := .assign (.const (.int .i64 0)), ty := 3, guard := none },
  { dst := (some 3), op := .assign (.const (.int .i64 0)), ty := 34, guard := none }]
def c39_1 : AC := .region o39_1 []
theorem n39_1 : Run Cx 39 T ds ro (.code c39_1 :: k) H Q = RunOps Cx 39 T ds ro o39_1 k H Q := run_region
def o39_3 : List AO := [{ dst := (some 7), op := .move (.tmp 0), ty := 32, guard := none },
  { dst := (some 8), op := .call { callee := (.value (.func 37)), args := #[(.tmp 7)], argTypes := #[32] }, ty := 50, guard := none },
  { dst := (some 6), op := .move (.tmp 8), ty := 50, guard := none },
  { dst := (some 9), op := .extract (.tmp 6) 0, ty := 3, guard := none },
  { dst := (some 10), op := .extract (.tmp 6) 1, ty := 34, guard := none },
  { dst := (some 4), op := .assign (.tmp 9), ty := 3, guard := none },
  { dst := (some 5), op := .assign (.tmp 10), ty := 34, guard := none }]
def c39_3 : AC := .region o39_3 []
theorem n39_3 : Run Cx 39 T ds ro (.code c39_3 :: k) H Q = RunOps Cx 39 T ds ro o39_3 k H Q := run_region
def o39_6 : List AO := [{ dst := (some 11), op := .move (.tmp 4), ty := 3, guard := none },
  { dst := (some 12), op := .binOp .rem 3 (.tmp 11) (.const (.int .i64 2)) 3, ty := 3, guard := none },
  { dst := (some 13), op := .binOp .eql 3 (.tmp 12) (.const (.int .i64 1)) 3, ty := 4, guard := none }]
def c39_6 : AC := .region o39_6 []
theorem n39_6 : Run Cx 39 T ds ro (.code c39_6 :: k) H Q = RunOps Cx 39 T ds ro o39_6 k H Q := run_region
def o39_9 : List AO := [{ dst := (some 14), op := .move (.tmp 4), ty := 3, guard := none },
  { dst := (some 15), op := .binOp .add 3 (.tmp 14) (.const (.int .i64 1)) 3, ty := 3, guard := none },
  { dst := (some 16), op := .unOp .neg 3 (.tmp 15), ty := 3, guard := none },
  { dst := (some 17), op := .binOp .quo 3 (.tmp 16) (.const (.int .i64 2)) 3, ty := 3, guard := none },
  { dst := (some 18), op := .move (.tmp 5), ty := 34, guard := none },
  { dst := (some 2), op := .assign (.tmp 17), ty := 3, guard := none },
  { dst := (some 3), op := .assign (.tmp 18), ty := 34, guard := none }]
def c39_9 : AC := .region o39_9 []
theorem n39_9 : Run Cx 39 T ds ro (.code c39_9 :: k) H Q = RunOps Cx 39 T ds ro o39_9 k H Q := run_region
def c39_10 : AC := .ret
theorem n39_10 : Run Cx 39 T [] none (.code c39_10 :: k) H Q = RunRes Cx T H Q (resOf Cx 39) := run_ret
def c39_8 : AC := .seq c39_9 c39_10
theorem n39_8 : Run Cx 39 T ds ro (.code c39_8 :: k) H Q = Run Cx 39 T ds ro (.code c39_9 :: .code c39_10 :: k) H Q := run_seq
def c39_11 : AC := .skip
theorem n39_11 : Run Cx 39 T ds ro (.code c39_11 :: k) H Q = Run Cx 39 T ds ro (k) H Q := run_skip
def c39_7 : AC := .cond (.tmp 13) c39_8 c39_11
theorem n39_7 : Run Cx 39 T ds ro (.code c39_7 :: k) H Q = RunCond Cx 39 T ds ro (.tmp 13) (ev T (.tmp 13)) c39_8 c39_11 k H Q := run_condC
def c39_5 : AC := .seq c39_6 c39_7
theorem n39_5 : Run Cx 39 T ds ro (.code c39_5 :: k) H Q = Run Cx 39 T ds ro (.code c39_6 :: .code c39_7 :: k) H Q := run_seq
def o39_13 : List AO := [{ dst := (some 19), op := .move (.tmp 4), ty := 3, guard := none },
  { dst := (some 20), op := .binOp .quo 3 (.tmp 19) (.const (.int .i64 2)) 3, ty := 3, guard := none },
  { dst := (some 21), op := .move (.tmp 5), ty := 34, guard := none },
  { dst := (some 2), op := .assign (.tmp 20), ty := 3, guard := none },
  { dst := (some 3), op := .assign (.tmp 21), ty := 34, guard := none }]
def c39_13 : AC := .region o39_13 []
theorem n39_13 : Run Cx 39 T ds ro (.code c39_13 :: k) H Q = RunOps Cx 39 T ds ro o39_13 k H Q := run_region
def c39_14 : AC := .ret
theorem n39_14 : Run Cx 39 T [] none (.code c39_14 :: k) H Q = RunRes Cx T H Q (resOf Cx 39) := run_ret
def c39_12 : AC := .seq c39_13 c39_14
theorem n39_12 : Run Cx 39 T ds ro (.code c39_12 :: k) H Q = Run Cx 39 T ds ro (.code c39_13 :: .code c39_14 :: k) H Q := run_seq
def c39_4 : AC := .seq c39_5 c39_12
theorem n39_4 : Run Cx 39 T ds ro (.code c39_4 :: k) H Q = Run Cx 39 T ds ro (.code c39_5 :: .code c39_12 :: k) H Q := run_seq
def c39_2 : AC := .seq c39_3 c39_4
theorem n39_2 : Run Cx 39 T ds ro (.code c39_2 :: k) H Q = Run Cx 39 T ds ro (.code c39_3 :: .code c39_4 :: k) H Q := run_seq
def c39_0 : AC := .seq c39_1 c39_2
theorem n39_0 : Run Cx 39 T ds ro (.code c39_0 :: k) H Q = Run Cx 39 T ds ro (.code c39_1 :: .code c39_2 :: k) H Q := run_seq
theorem body39 : bodyOf Cx 39 = some c39_0 := by kernel_rfl
theorem res39 : resOf Cx 39 = some [.tmp 2, .tmp 3] := by kernel_rfl
theorem pure39 : Cx.pure 39 = false := by kernel_rfl
-- RULES 39: n39_0, n39_1, n39_2, n39_3, n39_4, n39_5, n39_6, n39_7, n39_8, n39_9, n39_10, n39_11, n39_12, n39_13, n39_14
def o40_1 : List AO := [{ dst := (some 4), op := .assign (.const (.string ⟨#[]⟩)), ty := 9, guard := none },
  { dst := (some 5), op := .assign (.const (.int .i64 0)), ty := 34, guard := none }]
def c40_1 : AC := .region o40_1 []
theorem n40_1 : Run Cx 40 T ds ro (.code c40_1 :: k) H Q = RunOps Cx 40 T ds ro o40_1 k H Q := run_region
def o40_3 : List AO := [{ dst := (some 11), op := .move (.tmp 0), ty := 32, guard := none },
  { dst := (some 12), op := .call { callee := (.value (.func 51)), args := #[(.tmp 11)], argTypes := #[32] }, ty := 52, guard := none },
  { dst := (some 10), op := .move (.tmp 12), ty := 52, guard := none },
  { dst := (some 13), op := .extract (.tmp 10) 0, ty := 3, guard := none },
  { dst := (some 14), op := .extract (.tmp 10) 1, ty := 3, guard := none },
  { dst := (some 15), op := .extract (.tmp 10) 2, ty := 34, guard := none },
  { dst := (some 6), op := .assign (.tmp 13), ty := 3, guard := none },
  { dst := (some 7), op := .assign (.tmp 14), ty := 3, guard := none },
  { dst := (some 8), op := .assign (.tmp 15), ty := 34, guard := none }]
def c40_3 : AC := .region o40_3 []
theorem n40_3 : Run Cx 40 T ds ro (.code c40_3 :: k) H Q = RunOps Cx 40 T ds ro o40_3 k H Q := run_region
def o40_7 : List AO := [{ dst := (some 17), op := .move (.tmp 8), ty := 34, guard := none },
  { dst := (some 18), op := .binOp .neq 34 (.tmp 17) (.const (.int .i64 0)) 34, ty := 4, guard := none },
  { dst := (some 16), op := .assign (.tmp 18), ty := 4, guard := none }]
def c40_7 : AC := .region o40_7 []
theorem n40_7 : Run Cx 40 T ds ro (.code c40_7 :: k) H Q = RunOps Cx 40 T ds ro o40_7 k H Q := run_region
def o40_10 : List AO := [{ dst := (some 19), op := .move (.tmp 8), ty := 34, guard := none },
  { dst := (some 4), op := .assign (.const (.string ⟨#[]⟩)), ty := 9, guard := none },
  { dst := (some 5), op := .assign (.tmp 19), ty := 34, guard := none }]
def c40_10 : AC := .region o40_10 []
theorem n40_10 : Run Cx 40 T ds ro (.code c40_10 :: k) H Q = RunOps Cx 40 T ds ro o40_10 k H Q := run_region
def c40_11 : AC := .ret
theorem n40_11 : Run Cx 40 T [] none (.code c40_11 :: k) H Q = RunRes Cx T H Q (resOf Cx 40) := run_ret
def c40_9 : AC := .seq c40_10 c40_11
theorem n40_9 : Run Cx 40 T ds ro (.code c40_9 :: k) H Q = Run Cx 40 T ds ro (.code c40_10 :: .code c40_11 :: k) H Q := run_seq
def o40_13 : List AO := [{ dst := (some 21), op := .move (.tmp 6), ty := 3, guard := none },
  { dst := (some 22), op := .move (.tmp 1), ty := 3, guard := none },
  { dst := (some 23), op := .binOp .gtr 3 (.tmp 21) (.tmp 22) 3, ty := 4, guard := none },
  { dst := (some 20), op := .assign (.tmp 23), ty := 4, guard := none }]
def c40_13 : AC := .region o40_13 []
theorem n40_13 : Run Cx 40 T ds ro (.code c40_13 :: k) H Q = RunOps Cx 40 T ds ro o40_13 k H Q := run_region
def o40_16 : List AO := [{ dst := (some 4), op := .assign (.const (.string ⟨#[]⟩)), ty := 9, guard := none },
  { dst := (some 5), op := .assign (.const (.int .i64 3)), ty := 34, guard := none }]
def c40_16 : AC := .region o40_16 []
theorem n40_16 : Run Cx 40 T ds ro (.code c40_16 :: k) H Q = RunOps Cx 40 T ds ro o40_16 k H Q := run_region
def c40_17 : AC := .ret
theorem n40_17 : Run Cx 40 T [] none (.code c40_17 :: k) H Q = RunRes Cx T H Q (resOf Cx 40) := run_ret
def c40_15 : AC := .seq c40_16 c40_17
theorem n40_15 : Run Cx 40 T ds ro (.code c40_15 :: k) H Q = Run Cx 40 T ds ro (.code c40_16 :: .code c40_17 :: k) H Q := run_seq
def o40_19 : List AO := [{ dst := (some 25), op := .move (.tmp 6), ty := 3, guard := none },
  { dst := (some 26), op := .move (.tmp 0), ty := 32, guard := none },
  { dst := (some 27), op := .call { callee := (.value (.func 19)), args := #[(.tmp 26)], argTypes := #[32] }, ty := 3, guard := none },
  { dst := (some 28), op := .move (.tmp 7), ty := 3, guard := none },
  { dst := (some 29), op := .binOp .sub 3 (.tmp 27) (.tmp 28) 3, ty := 3, guard := none },
  { dst := (some 30), op := .binOp .gtr 3 (.tmp 25) (.tmp 29) 3, ty := 4, guard := none },
  { dst := (some 24), op := .assign (.tmp 30), ty := 4, guard := none }]
def c40_19 : AC := .region o40_19 []
theorem n40_19 : Run Cx 40 T ds ro (.code c40_19 :: k) H Q = RunOps Cx 40 T ds ro o40_19 k H Q := run_region
def o40_22 : List AO := [{ dst := (some 4), op := .assign (.const (.string ⟨#[]⟩)), ty := 9, guard := none },
  { dst := (some 5), op := .assign (.const (.int .i64 2)), ty := 34, guard := none }]
def c40_22 : AC := .region o40_22 []
theorem n40_22 : Run Cx 40 T ds ro (.code c40_22 :: k) H Q = RunOps Cx 40 T ds ro o40_22 k H Q := run_region
def c40_23 : AC := .ret
theorem n40_23 : Run Cx 40 T [] none (.code c40_23 :: k) H Q = RunRes Cx T H Q (resOf Cx 40) := run_ret
def c40_21 : AC := .seq c40_22 c40_23
theorem n40_21 : Run Cx 40 T ds ro (.code c40_21 :: k) H Q = Run Cx 40 T ds ro (.code c40_22 :: .code c40_23 :: k) H Q := run_seq
def c40_24 : AC := .skip
theorem n40_24 : Run Cx 40 T ds ro (.code c40_24 :: k) H Q = Run Cx 40 T ds ro (k) H Q := run_skip
def c40_20 : AC := .cond (.tmp 24) c40_21 c40_24
theorem n40_20 : Run Cx 40 T ds ro (.code c40_20 :: k) H Q = RunCond Cx 40 T ds ro (.tmp 24) (ev T (.tmp 24)) c40_21 c40_24 k H Q := run_condC
def c40_18 : AC := .seq c40_19 c40_20
theorem n40_18 : Run Cx 40 T ds ro (.code c40_18 :: k) H Q = Run Cx 40 T ds ro (.code c40_19 :: .code c40_20 :: k) H Q := run_seq
def c40_14 : AC := .cond (.tmp 20) c40_15 c40_18
theorem n40_14 : Run Cx 40 T ds ro (.code c40_14 :: k) H Q = RunCond Cx 40 T ds ro (.tmp 20) (ev T (.tmp 20)) c40_15 c40_18 k H Q := run_condC
def c40_12 : AC := .seq c40_13 c40_14
theorem n40_12 : Run Cx 40 T ds ro (.code c40_12 :: k) H Q = Run Cx 40 T ds ro (.code c40_13 :: .code c40_14 :: k) H Q := run_seq
def c40_8 : AC := .cond (.tmp 16) c40_9 c40_12
theorem n40_8 : Run Cx 40 T ds ro (.code c40_8 :: k) H Q = RunCond Cx 40 T ds ro (.tmp 16) (ev T (.tmp 16)) c40_9 c40_12 k H Q := run_condC
def c40_6 : AC := .seq c40_7 c40_8
theorem n40_6 : Run Cx 40 T ds ro (.code c40_6 :: k) H Q = Run Cx 40 T ds ro (.code c40_7 :: .code c40_8 :: k) H Q := run_seq
def c40_5 : AC := .block 0 c40_6
theorem n40_5 : Run Cx 40 T ds ro (.code c40_5 :: k) H Q = Run Cx 40 T ds ro (.code c40_6 :: .inBlock 0 :: k) H Q := run_block
def o40_26 : List AO := [{ dst := (some 31), op := .move (.tmp 0), ty := 32, guard := none },
  { dst := (some 32), op := .nilCheck (.tmp 31), ty := 0, guard := none },
  { dst := (some 33), op := .fieldAddr 49 (.tmp 32) 1, ty := 0, guard := none },
  { dst := (some 34), op := .load 3 (.tmp 33), ty := 3, guard := none },
  { dst := (some 35), op := .move (.tmp 7), ty := 3, guard := none },
  { dst := (some 36), op := .binOp .add 3 (.tmp 34) (.tmp 35) 3, ty := 3, guard := none },
  { dst := (some 9), op := .assign (.tmp 36), ty := 3, guard := none }]
def c40_26 : AC := .region o40_26 []
theorem n40_26 : Run Cx 40 T ds ro (.code c40_26 :: k) H Q = RunOps Cx 40 T ds ro o40_26 k H Q := run_region
def o40_28 : List AO := [{ dst := (some 37), op := .move (.tmp 0), ty := 32, guard := none },
  { dst := (some 38), op := .move (.tmp 9), ty := 3, guard := none },
  { dst := (some 39), op := .move (.tmp 6), ty := 3, guard := none },
  { dst := (some 40), op := .binOp .add 3 (.tmp 38) (.tmp 39) 3, ty := 3, guard := none },
  { dst := (some 41), op := .nilCheck (.tmp 37), ty := 0, guard := none },
  { dst := (some 42), op := .fieldAddr 49 (.tmp 41) 1, ty := 0, guard := none },
  { dst := none, op := .store 3 (.tmp 42) (.tmp 40), ty := 0, guard := none }]
def c40_28 : AC := .region o40_28 []
theorem n40_28 : Run Cx 40 T ds ro (.code c40_28 :: k) H Q = RunOps Cx 40 T ds ro o40_28 k H Q := run_region
def o40_30 : List AO := [{ dst := (some 43), op := .move (.tmp 0), ty := 32, guard := none },
  { dst := (some 44), op := .nilCheck (.tmp 43), ty := 0, guard := none },
  { dst := (some 45), op := .fieldAddr 49 (.tmp 44) 0, ty := 0, guard := none },
  { dst := (some 46), op := .load 9 (.tmp 45), ty := 9, guard := none },
  { dst := (some 47), op := .move (.tmp 9), ty := 3, guard := none },
  { dst := (some 48), op := .move (.tmp 0), ty := 32, guard := none },
  { dst := (some 49), op := .nilCheck (.tmp 48), ty := 0, guard := none },
  { dst := (some 50), op := .fieldAddr 49 (.tmp 49) 1, ty := 0, guard := none },
  { dst := (some 51), op := .load 3 (.tmp 50), ty := 3, guard := none },
  { dst := (some 52), op := .slice 9 (.tmp 46) (some (.tmp 47)) (some (.tmp 51)) none, ty := 9, guard := none },
  { dst := (some 4), op := .assign (.tmp 52), ty := 9, guard := none },
  { dst := (some 5), op := .assign (.const (.int .i64 0)), ty := 34, guard := none }]
def c40_30 : AC := .region o40_30 []
theorem n40_30 : Run Cx 40 T ds ro (.code c40_30 :: k) H Q = RunOps Cx 40 T ds ro o40_30 k H Q := run_region
def c40_31 : AC := .ret
theorem n40_31 : Run Cx 40 T [] none (.code c40_31 :: k) H Q = RunRes Cx T H Q (resOf Cx 40) := run_ret
def c40_29 : AC := .seq c40_30 c40_31
theorem n40_29 : Run Cx 40 T ds ro (.code c40_29 :: k) H Q = Run Cx 40 T ds ro (.code c40_30 :: .code c40_31 :: k) H Q := run_seq
def c40_27 : AC := .seq c40_28 c40_29
theorem n40_27 : Run Cx 40 T ds ro (.code c40_27 :: k) H Q = Run Cx 40 T ds ro (.code c40_28 :: .code c40_29 :: k) H Q := run_seq
def c40_25 : AC := .seq c40_26 c40_27
theorem n40_25 : Run Cx 40 T ds ro (.code c40_25 :: k) H Q = Run Cx 40 T ds ro (.code c40_26 :: .code c40_27 :: k) H Q := run_seq
def c40_4 : AC := .seq c40_5 c40_25
theorem n40_4 : Run Cx 40 T ds ro (.code c40_4 :: k) H Q = Run Cx 40 T ds ro (.code c40_5 :: .code c40_25 :: k) H Q := run_seq
def c40_2 : AC := .seq c40_3 c40_4
theorem n40_2 : Run Cx 40 T ds ro (.code c40_2 :: k) H Q = Run Cx 40 T ds ro (.code c40_3 :: .code c40_4 :: k) H Q := run_seq
def c40_0 : AC := .seq c40_1 c40_2
theorem n40_0 : Run Cx 40 T ds ro (.code c40_0 :: k) H Q = Run Cx 40 T ds ro (.code c40_1 :: .code c40_2 :: k) H Q := run_seq
theorem body40 : bodyOf Cx 40 = some c40_0 := by kernel_rfl
theorem res40 : resOf Cx 40 = some [.tmp 4, .tmp 5] := by kernel_rfl
theorem pure40 : Cx.pure 40 = false := by kernel_rfl
-- RULES 40: n40_0, n40_1, n40_2, n40_3, n40_4, n40_5, n40_6, n40_7, n40_8, n40_9, n40_10, n40_11, n40_12, n40_13, n40_14, n40_15, n40_16, n40_17, n40_18, n40_19, n40_20, n40_21, n40_22, n40_23, n40_24, n40_25, n40_26, n40_27, n40_28, n40_29, n40_30, n40_31
def o41_1 : List AO := [{ dst := (some 2), op := .alloc 25, ty := 0, guard := none },
  { dst := (some 3), op := .assign (.const (.int .i64 0)), ty := 3, guard := none },
  { dst := (some 4), op := .assign (.const (.int .i64 0)), ty := 34, guard := none }]
def c41_1 : AC := .region o41_1 []
theorem n41_1 : Run Cx 41 T ds ro (.code c41_1 :: k) H Q = RunOps Cx 41 T ds ro o41_1 k H Q := run_region
def o41_4 : List AO := [{ dst := (some 5), op := .assign (.const (.slice none 0 0)), ty := 58, guard := none }]
def c41_4 : AC := .region o41_4 []
theorem n41_4 : Run Cx 41 T ds ro (.code c41_4 :: k) H Q = RunOps Cx 41 T ds ro o41_4 k H Q := run_region
def o41_6 : List AO := [{ dst := (some 6), op := .assign (.const (.int .i64 1)), ty := 3, guard := none }]
def c41_6 : AC := .region o41_6 []
theorem n41_6 : Run Cx 41 T ds ro (.code c41_6 :: k) H Q = RunOps Cx 41 T ds ro o41_6 k H Q := run_region
def c41_8 : AC := .label 0
theorem n41_8 : Run Cx 41 T ds ro (.code c41_8 :: k) H Q = Run Cx 41 T ds ro (k) H Q := run_label
def o41_12 : List AO := [{ dst := (some 10), op := .move (.tmp 6), ty := 3, guard := none },
  { dst := (some 11), op := .move (.tmp 0), ty := 9, guard := none },
  { dst := (some 12), op := .call { callee := (.builtin .len), args := #[(.tmp 11)], argTypes := #[9] }, ty := 3, guard := none },
  { dst := (some 13), op := .binOp .geq 3 (.tmp 10) (.tmp 12) 3, ty := 4, guard := none },
  { dst := (some 9), op := .assign (.tmp 13), ty := 4, guard := none }]
def c41_12 : AC := .region o41_12 []
theorem n41_12 : Run Cx 41 T ds ro (.code c41_12 :: k) H Q = RunOps Cx 41 T ds ro o41_12 k H Q := run_region
def o41_15 : List AO := [{ dst := (some 14), op := .build 25 #[], ty := 25, guard := none },
  { dst := none, op := .store 25 (.tmp 2) (.tmp 14), ty := 0, guard := none },
  { dst := (some 3), op := .assign (.const (.int .i64 0)), ty := 3, guard := none },
  { dst := (some 4), op := .assign (.const (.int .i64 2)), ty := 34, guard := none }]
def c41_15 : AC := .region o41_15 []
theorem n41_15 : Run Cx 41 T ds ro (.code c41_15 :: k) H Q = RunOps Cx 41 T ds ro o41_15 k H Q := run_region
def c41_16 : AC := .ret
theorem n41_16 : Run Cx 41 T [] none (.code c41_16 :: k) H Q = RunRes Cx T H Q (resOf Cx 41) := run_ret
def c41_14 : AC := .seq c41_15 c41_16
theorem n41_14 : Run Cx 41 T ds ro (.code c41_14 :: k) H Q = Run Cx 41 T ds ro (.code c41_15 :: .code c41_16 :: k) H Q := run_seq
def o41_18 : List AO := [{ dst := (some 16), op := .move (.tmp 0), ty := 9, guard := none },
  { dst := (some 17), op := .move (.tmp 6), ty := 3, guard := none },
  { dst := (some 18), op := .index 9 (.tmp 16) (.tmp 17), ty := 5, guard := none },
  { dst := (some 19), op := .binOp .eql 5 (.tmp 18) (.const (.int .u8 34)) 5, ty := 4, guard := none },
  { dst := (some 15), op := .assign (.tmp 19), ty := 4, guard := none }]
def c41_18 : AC := .region o41_18 []
theorem n41_18 : Run Cx 41 T ds ro (.code c41_18 :: k) H Q = RunOps Cx 41 T ds ro o41_18 k H Q := run_region
def o41_22 : List AO := [{ dst := (some 20), op := .move (.tmp 5), ty := 58, guard := none },
  { dst := (some 21), op := .call { callee := (.builtin .len), args := #[(.tmp 20)], argTypes := #[58] }, ty := 3, guard := none },
  { dst := (some 22), op := .binOp .gtr 3 (.tmp 21) (.const (.int .i64 4096)) 3, ty := 4, guard := none }]
def c41_22 : AC := .region o41_22 []
theorem n41_22 : Run Cx 41 T ds ro (.code c41_22 :: k) H Q = RunOps Cx 41 T ds ro o41_22 k H Q := run_region
def o41_25 : List AO := [{ dst := (some 23), op := .build 25 #[], ty := 25, guard := none },
  { dst := none, op := .store 25 (.tmp 2) (.tmp 23), ty := 0, guard := none },
  { dst := (some 3), op := .assign (.const (.int .i64 0)), ty := 3, guard := none },
  { dst := (some 4), op := .assign (.const (.int .i64 3)), ty := 34, guard := none }]
def c41_25 : AC := .region o41_25 []
theorem n41_25 : Run Cx 41 T ds ro (.code c41_25 :: k) H Q = RunOps Cx 41 T ds ro o41_25 k H Q := run_region
def c41_26 : AC := .ret
theorem n41_26 : Run Cx 41 T [] none (.code c41_26 :: k) H Q = RunRes Cx T H Q (resOf Cx 41) := run_ret
def c41_24 : AC := .seq c41_25 c41_26
theorem n41_24 : Run Cx 41 T ds ro (.code c41_24 :: k) H Q = Run Cx 41 T ds ro (.code c41_25 :: .code c41_26 :: k) H Q := run_seq
def c41_27 : AC := .skip
theorem n41_27 : Run Cx 41 T ds ro (.code c41_27 :: k) H Q = Run Cx 41 T ds ro (k) H Q := run_skip
def c41_23 : AC := .cond (.tmp 22) c41_24 c41_27
theorem n41_23 : Run Cx 41 T ds ro (.code c41_23 :: k) H Q = RunCond Cx 41 T ds ro (.tmp 22) (ev T (.tmp 22)) c41_24 c41_27 k H Q := run_condC
def c41_21 : AC := .seq c41_22 c41_23
theorem n41_21 : Run Cx 41 T ds ro (.code c41_21 :: k) H Q = Run Cx 41 T ds ro (.code c41_22 :: .code c41_23 :: k) H Q := run_seq
def o41_29 : List AO := [{ dst := (some 24), op := .move (.tmp 5), ty := 58, guard := none },
  { dst := (some 25), op := .convert 58 9 (.tmp 24), ty := 9, guard := none },
  { dst := (some 26), op := .build 25 #[(0, (.const (.int .i64 1))), (2, (.tmp 25))], ty := 25, guard := none },
  { dst := (some 27), op := .move (.tmp 6), ty := 3, guard := none },
  { dst := (some 28), op := .binOp .add 3 (.tmp 27) (.const (.int .i64 1)) 3, ty := 3, guard := none },
  { dst := none, op := .store 25 (.tmp 2) (.tmp 26), ty := 0, guard := none },
  { dst := (some 3), op := .assign (.tmp 28), ty := 3, guard := none },
  { dst := (some 4), op := .assign (.const (.int .i64 0)), ty := 34, guard := none }]
def c41_29 : AC := .region o41_29 []
theorem n41_29 : Run Cx 41 T ds ro (.code c41_29 :: k) H Q = RunOps Cx 41 T ds ro o41_29 k H Q := run_region
def c41_30 : AC := .ret
theorem n41_30 : Run Cx 41 T [] none (.code c41_30 :: k) H Q = RunRes Cx T H Q (resOf Cx 41) := run_ret
def c41_28 : AC := .seq c41_29 c41_30
theorem n41_28 : Run Cx 41 T ds ro (.code c41_28 :: k) H Q = Run Cx 41 T ds ro (.code c41_29 :: .code c41_30 :: k) H Q := run_seq
def c41_20 : AC := .seq c41_21 c41_28
theorem n41_20 : Run Cx 41 T ds ro (.code c41_20 :: k) H Q = Run Cx 41 T ds ro (.code c41_21 :: .code c41_28 :: k) H Q := run_seq
def o41_32 : List AO := [{ dst := (some 30), op := .move (.tmp 0), ty := 9, guard := none },
  { dst := (some 31), op := .move (.tmp 6), ty := 3, guard := none },
  { dst := (some 32), op := .index 9 (.tmp 30) (.tmp 31), ty := 5, guard := none },
  { dst := (some 33), op := .binOp .eql 5 (.tmp 32) (.const (.int .u8 92)) 5, ty := 4, guard := none },
  { dst := (some 29), op := .assign (.tmp 33), ty := 4, guard := none }]
def c41_32 : AC := .region o41_32 []
theorem n41_32 : Run Cx 41 T ds ro (.code c41_32 :: k) H Q = RunOps Cx 41 T ds ro o41_32 k H Q := run_region
def o41_35 : List AO := [{ dst := (some 35), op := .move (.tmp 0), ty := 9, guard := none },
  { dst := (some 36), op := .move (.tmp 6), ty := 3, guard := none },
  { dst := (some 37), op := .binOp .add 3 (.tmp 36) (.const (.int .i64 1)) 3, ty := 3, guard := none },
  { dst := (some 38), op := .call { callee := (.value (.func 52)), args := #[(.tmp 35), (.tmp 37)], argTypes := #[9, 3] }, ty := 69, guard := none },
  { dst := (some 34), op := .move (.tmp 38), ty := 69, guard := none },
  { dst := (some 39), op := .extract (.tmp 34) 0, ty := 5, guard := none },
  { dst := (some 40), op := .extract (.tmp 34) 1, ty := 34, guard := none },
  { dst := (some 7), op := .assign (.tmp 39), ty := 5, guard := none },
  { dst := (some 8), op := .assign (.tmp 40), ty := 34, guard := none }]
def c41_35 : AC := .region o41_35 []
theorem n41_35 : Run Cx 41 T ds ro (.code c41_35 :: k) H Q = RunOps Cx 41 T ds ro o41_35 k H Q := run_region
def o41_38 : List AO := [{ dst := (some 41), op := .move (.tmp 8), ty := 34, guard := none },
  { dst := (some 42), op := .binOp .neq 34 (.tmp 41) (.const (.int .i64 0)) 34, ty := 4, guard := none }]
def c41_38 : AC := .region o41_38 []
theorem n41_38 : Run Cx 41 T ds ro (.code c41_38 :: k) H Q = RunOps Cx 41 T ds ro o41_38 k H Q := run_region
def o41_41 : List AO := [{ dst := (some 43), op := .build 25 #[], ty := 25, guard := none },
  { dst := (some 44), op := .move (.tmp 8), ty := 34, guard := none },
  { dst := none, op := .store 25 (.tmp 2) (.tmp 43), ty := 0, guard := none },
  { dst := (some 3), op := .assign (.const (.int .i64 0)), ty := 3, guard := none },
  { dst := (some 4), op := .assign (.tmp 44), ty := 34, guard := none }]
def c41_41 : AC := .region o41_41 []
theorem n41_41 : Run Cx 41 T ds ro (.code c41_41 :: k) H Q = RunOps Cx 41 T ds ro o41_41 k H Q := run_region
def c41_42 : AC := .ret
theorem n41_42 : Run Cx 41 T [] none (.code c41_42 :: k) H Q = RunRes Cx T H Q (resOf Cx 41) := run_ret
def c41_40 : AC := .seq c41_41 c41_42
theorem n41_40 : Run Cx 41 T ds ro (.code c41_40 :: k) H Q = Run Cx 41 T ds ro (.code c41_41 :: .code c41_42 :: k) H Q := run_seq
def c41_43 : AC := .skip
theorem n41_43 : Run Cx 41 T ds ro (.code c41_43 :: k) H Q = Run Cx 41 T ds ro (k) H Q := run_skip
def c41_39 : AC := .cond (.tmp 42) c41_40 c41_43
theorem n41_39 : Run Cx 41 T ds ro (.code c41_39 :: k) H Q = RunCond Cx 41 T ds ro (.tmp 42) (ev T (.tmp 42)) c41_40 c41_43 k H Q := run_condC
def c41_37 : AC := .seq c41_38 c41_39
theorem n41_37 : Run Cx 41 T ds ro (.code c41_37 :: k) H Q = Run Cx 41 T ds ro (.code c41_38 :: .code c41_39 :: k) H Q := run_seq
def o41_45 : List AO := [{ dst := (some 45), op := .move (.tmp 5), ty := 58, guard := none },
  { dst := (some 46), op := .move (.tmp 7), ty := 5, guard := none },
  { dst := (some 47), op := .buildSlice 58 1 #[(0, (.tmp 46))], ty := 58, guard := none },
  { dst := (some 48), op := .call { callee := (.builtin .append), args := #[(.tmp 45), (.tmp 47)], argTypes := #[58, 58] }, ty := 58, guard := none },
  { dst := (some 5), op := .assign (.tmp 48), ty := 58, guard := none }]
def c41_45 : AC := .region o41_45 []
theorem n41_45 : Run Cx 41 T ds ro (.code c41_45 :: k) H Q = RunOps Cx 41 T ds ro o41_45 k H Q := run_region
def o41_47 : List AO := [{ dst := (some 49), op := .move (.tmp 6), ty := 3, guard := none },
  { dst := (some 50), op := .binOp .add 3 (.tmp 49) (.const (.int .i64 3)) 3, ty := 3, guard := none },
  { dst := (some 6), op := .assign (.tmp 50), ty := 3, guard := none }]
def c41_47 : AC := .region o41_47 []
theorem n41_47 : Run Cx 41 T ds ro (.code c41_47 :: k) H Q = RunOps Cx 41 T ds ro o41_47 k H Q := run_region
def c41_48 : AC := .goto 0
def c41_46 : AC := .seq c41_47 c41_48
theorem n41_46 : Run Cx 41 T ds ro (.code c41_46 :: k) H Q = Run Cx 41 T ds ro (.code c41_47 :: .code c41_48 :: k) H Q := run_seq
def c41_44 : AC := .seq c41_45 c41_46
theorem n41_44 : Run Cx 41 T ds ro (.code c41_44 :: k) H Q = Run Cx 41 T ds ro (.code c41_45 :: .code c41_46 :: k) H Q := run_seq
def c41_36 : AC := .seq c41_37 c41_44
theorem n41_36 : Run Cx 41 T ds ro (.code c41_36 :: k) H Q = Run Cx 41 T ds ro (.code c41_37 :: .code c41_44 :: k) H Q := run_seq
def c41_34 : AC := .seq c41_35 c41_36
theorem n41_34 : Run Cx 41 T ds ro (.code c41_34 :: k) H Q = Run Cx 41 T ds ro (.code c41_35 :: .code c41_36 :: k) H Q := run_seq
def o41_50 : List AO := [{ dst := (some 52), op := .move (.tmp 0), ty := 9, guard := none },
  { dst := (some 53), op := .move (.tmp 6), ty := 3, guard := none },
  { dst := (some 54), op := .index 9 (.tmp 52) (.tmp 53), ty := 5, guard := none },
  { dst := (some 55), op := .call { callee := (.value (.func 48)), args := #[(.tmp 54)], argTypes := #[5] }, ty := 4, guard := none },
  { dst := (some 56), op := .unOp .not 4 (.tmp 55), ty := 4, guard := none },
  { dst := (some 51), op := .assign (.tmp 56), ty := 4, guard := none }]
def c41_50 : AC := .region o41_50 []
theorem n41_50 : Run Cx 41 T ds ro (.code c41_50 :: k) H Q = RunOps Cx 41 T ds ro o41_50 k H Q := run_region
def o41_53 : List AO := [{ dst := (some 57), op := .build 25 #[], ty := 25, guard := none },
  { dst := none, op := .store 25 (.tmp 2) (.tmp 57), ty := 0, guard := none },
  { dst := (some 3), op := .assign (.const (.int .i64 0)), ty := 3, guard := none },
  { dst := (some 4), op := .assign (.const (.int .i64 6)), ty := 34, guard := none }]
def c41_53 : AC := .region o41_53 []
theorem n41_53 : Run Cx 41 T ds ro (.code c41_53 :: k) H Q = RunOps Cx 41 T ds ro o41_53 k H Q := run_region
def c41_54 : AC := .ret
theorem n41_54 : Run Cx 41 T [] none (.code c41_54 :: k) H Q = RunRes Cx T H Q (resOf Cx 41) := run_ret
def c41_52 : AC := .seq c41_53 c41_54
theorem n41_52 : Run Cx 41 T ds ro (.code c41_52 :: k) H Q = Run Cx 41 T ds ro (.code c41_53 :: .code c41_54 :: k) H Q := run_seq
def c41_55 : AC := .skip
theorem n41_55 : Run Cx 41 T ds ro (.code c41_55 :: k) H Q = Run Cx 41 T ds ro (k) H Q := run_skip
def c41_51 : AC := .cond (.tmp 51) c41_52 c41_55
theorem n41_51 : Run Cx 41 T ds ro (.code c41_51 :: k) H Q = RunCond Cx 41 T ds ro (.tmp 51) (ev T (.tmp 51)) c41_52 c41_55 k H Q := run_condC
def c41_49 : AC := .seq c41_50 c41_51
theorem n41_49 : Run Cx 41 T ds ro (.code c41_49 :: k) H Q = Run Cx 41 T ds ro (.code c41_50 :: .code c41_51 :: k) H Q := run_seq
def c41_33 : AC := .cond (.tmp 29) c41_34 c41_49
theorem n41_33 : Run Cx 41 T ds ro (.code c41_33 :: k) H Q = RunCond Cx 41 T ds ro (.tmp 29) (ev T (.tmp 29)) c41_34 c41_49 k H Q := run_condC
def c41_31 : AC := .seq c41_32 c41_33
theorem n41_31 : Run Cx 41 T ds ro (.code c41_31 :: k) H Q = Run Cx 41 T ds ro (.code c41_32 :: .code c41_33 :: k) H Q := run_seq
def c41_19 : AC := .cond (.tmp 15) c41_20 c41_31
theorem n41_19 : Run Cx 41 T ds ro (.code c41_19 :: k) H Q = RunCond Cx 41 T ds ro (.tmp 15) (ev T (.tmp 15)) c41_20 c41_31 k H Q := run_condC
def c41_17 : AC := .seq c41_18 c41_19
theorem n41_17 : Run Cx 41 T ds ro (.code c41_17 :: k) H Q = Run Cx 41 T ds ro (.code c41_18 :: .code c41_19 :: k) H Q := run_seq
def c41_13 : AC := .cond (.tmp 9) c41_14 c41_17
theorem n41_13 : Run Cx 41 T ds ro (.code c41_13 :: k) H Q = RunCond Cx 41 T ds ro (.tmp 9) (ev T (.tmp 9)) c41_14 c41_17 k H Q := run_condC
def c41_11 : AC := .seq c41_12 c41_13
theorem n41_11 : Run Cx 41 T ds ro (.code c41_11 :: k) H Q = Run Cx 41 T ds ro (.code c41_12 :: .code c41_13 :: k) H Q := run_seq
def c41_10 : AC := .block 0 c41_11
theorem n41_10 : Run Cx 41 T ds ro (.code c41_10 :: k) H Q = Run Cx 41 T ds ro (.code c41_11 :: .inBlock 0 :: k) H Q := run_block
def o41_57 : List AO := [{ dst := (some 58), op := .move (.tmp 5), ty := 58, guard := none },
  { dst := (some 59), op := .move (.tmp 0), ty := 9, guard := none },
  { dst := (some 60), op := .move (.tmp 6), ty := 3, guard := none },
  { dst := (some 61), op := .index 9 (.tmp 59) (.tmp 60), ty := 5, guard := none },
  { dst := (some 62), op := .buildSlice 58 1 #[(0, (.tmp 61))], ty := 58, guard := none },
  { dst := (some 63), op := .call { callee := (.builtin .append), args := #[(.tmp 58), (.tmp 62)], argTypes := #[58, 58] }, ty := 58, guard := none },
  { dst := (some 5), op := .assign (.tmp 63), ty := 58, guard := none }]
def c41_57 : AC := .region o41_57 []
theorem n41_57 : Run Cx 41 T ds ro (.code c41_57 :: k) H Q = RunOps Cx 41 T ds ro o41_57 k H Q := run_region
def o41_59 : List AO := [{ dst := (some 64), op := .move (.tmp 6), ty := 3, guard := none },
  { dst := (some 65), op := .binOp .add 3 (.tmp 64) (.const (.int .i64 1)) 3, ty := 3, guard := none },
  { dst := (some 6), op := .assign (.tmp 65), ty := 3, guard := none }]
def c41_59 : AC := .region o41_59 []
theorem n41_59 : Run Cx 41 T ds ro (.code c41_59 :: k) H Q = RunOps Cx 41 T ds ro o41_59 k H Q := run_region
def c41_60 : AC := .goto 0
def c41_58 : AC := .seq c41_59 c41_60
theorem n41_58 : Run Cx 41 T ds ro (.code c41_58 :: k) H Q = Run Cx 41 T ds ro (.code c41_59 :: .code c41_60 :: k) H Q := run_seq
def c41_56 : AC := .seq c41_57 c41_58
theorem n41_56 : Run Cx 41 T ds ro (.code c41_56 :: k) H Q = Run Cx 41 T ds ro (.code c41_57 :: .code c41_58 :: k) H Q := run_seq
def c41_9 : AC := .seq c41_10 c41_56
theorem n41_9 : Run Cx 41 T ds ro (.code c41_9 :: k) H Q = Run Cx 41 T ds ro (.code c41_10 :: .code c41_56 :: k) H Q := run_seq
def c41_7 : AC := .seq c41_8 c41_9
theorem n41_7 : Run Cx 41 T ds ro (.code c41_7 :: k) H Q = Run Cx 41 T ds ro (.code c41_8 :: .code c41_9 :: k) H Q := run_seq
def c41_5 : AC := .seq c41_6 c41_7
theorem n41_5 : Run Cx 41 T ds ro (.code c41_5 :: k) H Q = Run Cx 41 T ds ro (.code c41_6 :: .code c41_7 :: k) H Q := run_seq
def c41_3 : AC := .seq c41_4 c41_5
theorem n41_3 : Run Cx 41 T ds ro (.code c41_3 :: k) H Q = Run Cx 41 T ds ro (.code c41_4 :: .code c41_5 :: k) H Q := run_seq
def c41_2 : AC := .scope c41_3
theorem n41_2 : Run Cx 41 T ds ro (.code c41_2 :: k) H Q = Run Cx 41 T ds ro (.code c41_3 :: .inScope c41_3 :: k) H Q := run_scope
def c41_0 : AC := .seq c41_1 c41_2
theorem n41_0 : Run Cx 41 T ds ro (.code c41_0 :: k) H Q = Run Cx 41 T ds ro (.code c41_1 :: .code c41_2 :: k) H Q := run_seq
theorem body41 : bodyOf Cx 41 = some c41_0 := by kernel_rfl
theorem res41 : resOf Cx 41 = some [.cell 2 25, .tmp 3, .tmp 4] := by kernel_rfl
theorem pure41 : Cx.pure 41 = true := by kernel_rfl
-- RULES 41: n41_0, n41_1, n41_2, n41_3, n41_4, n41_5, n41_6, n41_7, n41_8, n41_9, n41_10, n41_11, n41_12, n41_13, n41_14, n41_15, n41_16, n41_17, n41_18, n41_19, n41_20, n41_21, n41_22, n41_23, n41_24, n41_25, n41_26, n41_27, n41_28, n41_29, n41_30, n41_31, n41_32, n41_33, n41_34, n41_35, n41_36, n41_37, n41_38, n41_39, n41_40, n41_41, n41_42, n41_43, n41_44, n41_45, n41_46, n41_47, n41_48, n41_49, n41_50, n41_51, n41_52, n41_53, n41_54, n41_55, n41_56, n41_57, n41_58, n41_59, n41_60
def o42_1 : List AO := [{ dst := (some 2), op := .assign (.const (.bool false)), ty := 4, guard := none }]
def c42_1 : AC := .region o42_1 []
theorem n42_1 : Run Cx 42 T ds ro (.code c42_1 :: k) H Q = RunOps Cx 42 T ds ro o42_1 k H Q := run_region
def o42_3 : List AO := [{ dst := (some 3), op := .move (.tmp 0), ty := 5, guard := none },
  { dst := (some 4), op := .binOp .geq 5 (.tmp 3) (.const (.int .u8 48)) 5, ty := 4, guard := none },
  { dst := (some 5), op := .move (.tmp 4), ty := 4, guard := none },
  { dst := (some 6), op := .move (.tmp 0), ty := 5, guard := (some (5, true)) },
  { dst := (some 7), op := .binOp .leq 5 (.tmp 6) (.const (.int .u8 57)) 5, ty := 4, guard := (some (5, true)) },
  { dst := (some 8), op := .pick (.tmp 5) (.tmp 7) (.const (.bool false)), ty := 4, guard := none },
  { dst := (some 2), op := .assign (.tmp 8), ty := 4, guard := none }]
def c42_3 : AC := .region o42_3 []
theorem n42_3 : Run Cx 42 T ds ro (.code c42_3 :: k) H Q = RunOps Cx 42 T ds ro o42_3 k H Q := run_region
def c42_4 : AC := .ret
theorem n42_4 : Run Cx 42 T [] none (.code c42_4 :: k) H Q = RunRes Cx T H Q (resOf Cx 42) := run_ret
def c42_2 : AC := .seq c42_3 c42_4
theorem n42_2 : Run Cx 42 T ds ro (.code c42_2 :: k) H Q = Run Cx 42 T ds ro (.code c42_3 :: .code c42_4 :: k) H Q := run_seq
def c42_0 : AC := .seq c42_1 c42_2
theorem n42_0 : Run Cx 42 T ds ro (.code c42_0 :: k) H Q = Run Cx 42 T ds ro (.code c42_1 :: .code c42_2 :: k) H Q := run_seq
theorem body42 : bodyOf Cx 42 = some c42_0 := by kernel_rfl
theorem res42 : resOf Cx 42 = some [.tmp 2] := by kernel_rfl
theorem pure42 : Cx.pure 42 = true := by kernel_rfl
-- RULES 42: n42_0, n42_1, n42_2, n42_3, n42_4
def o43_1 : List AO := [{ dst := (some 2), op := .alloc 25, ty := 0, guard := none },
  { dst := (some 3), op := .assign (.const (.int .i64 0)), ty := 3, guard := none },
  { dst := (some 4), op := .assign (.const (.int .i64 0)), ty := 34, guard := none }]
def c43_1 : AC := .region o43_1 []
theorem n43_1 : Run Cx 43 T ds ro (.code c43_1 :: k) H Q = RunOps Cx 43 T ds ro o43_1 k H Q := run_region
def o43_3 : List AO := [{ dst := (some 13), op := .move (.tmp 0), ty := 9, guard := none },
  { dst := (some 14), op := .call { callee := (.value (.func 53)), args := #[(.tmp 13), (.const (.int .i64 0))], argTypes := #[9, 3] }, ty := 52, guard := none },
  { dst := (some 12), op := .move (.tmp 14), ty := 52, guard := none },
  { dst := (some 15), op := .extract (.tmp 12) 0, ty := 3, guard := none },
  { dst := (some 16), op := .extract (.tmp 12) 1, ty := 3, guard := none },
  { dst := (some 17), op := .extract (.tmp 12) 2, ty := 34, guard := none },
  { dst := (some 5), op := .assign (.tmp 15), ty := 3, guard := none },
  { dst := (some 6), op := .assign (.tmp 16), ty := 3, guard := none },
  { dst := (some 7), op := .assign (.tmp 17), ty := 34, guard := none }]
def c43_3 : AC := .region o43_3 []
theorem n43_3 : Run Cx 43 T ds ro (.code c43_3 :: k) H Q = RunOps Cx 43 T ds ro o43_3 k H Q := run_region
def o43_6 : List AO := [{ dst := (some 18), op := .move (.tmp 7), ty := 34, guard := none },
  { dst := (some 19), op := .binOp .neq 34 (.tmp 18) (.const (.int .i64 0)) 34, ty := 4, guard := none }]
def c43_6 : AC := .region o43_6 []
theorem n43_6 : Run Cx 43 T ds ro (.code c43_6 :: k) H Q = RunOps Cx 43 T ds ro o43_6 k H Q := run_region
def o43_9 : List AO := [{ dst := (some 20), op := .build 25 #[], ty := 25, guard := none },
  { dst := (some 21), op := .move (.tmp 7), ty := 34, guard := none },
  { dst := none, op := .store 25 (.tmp 2) (.tmp 20), ty := 0, guard := none },
  { dst := (some 3), op := .assign (.const (.int .i64 0)), ty := 3, guard := none },
  { dst := (some 4), op := .assign (.tmp 21), ty := 34, guard := none }]
def c43_9 : AC := .region o43_9 []
theorem n43_9 : Run Cx 43 T ds ro (.code c43_9 :: k) H Q = RunOps Cx 43 T ds ro o43_9 k H Q := run_region
def c43_10 : AC := .ret
theorem n43_10 : Run Cx 43 T [] none (.code c43_10 :: k) H Q = RunRes Cx T H Q (resOf Cx 43) := run_ret
def c43_8 : AC := .seq c43_9 c43_10
theorem n43_8 : Run Cx 43 T ds ro (.code c43_8 :: k) H Q = Run Cx 43 T ds ro (.code c43_9 :: .code c43_10 :: k) H Q := run_seq
def c43_11 : AC := .skip
theorem n43_11 : Run Cx 43 T ds ro (.code c43_11 :: k) H Q = Run Cx 43 T ds ro (k) H Q := run_skip
def c43_7 : AC := .cond (.tmp 19) c43_8 c43_11
theorem n43_7 : Run Cx 43 T ds ro (.code c43_7 :: k) H Q = RunCond Cx 43 T ds ro (.tmp 19) (ev T (.tmp 19)) c43_8 c43_11 k H Q := run_condC
def c43_5 : AC := .seq c43_6 c43_7
theorem n43_5 : Run Cx 43 T ds ro (.code c43_5 :: k) H Q = Run Cx 43 T ds ro (.code c43_6 :: .code c43_7 :: k) H Q := run_seq
def o43_13 : List AO := [{ dst := (some 22), op := .move (.tmp 5), ty := 3, guard := none },
  { dst := (some 23), op := .build 25 #[(1, (.tmp 22))], ty := 25, guard := none },
  { dst := (some 8), op := .alloc 25, ty := 0, guard := none },
  { dst := none, op := .store 25 (.tmp 8) (.tmp 23), ty := 0, guard := none }]
def c43_13 : AC := .region o43_13 []
theorem n43_13 : Run Cx 43 T ds ro (.code c43_13 :: k) H Q = RunOps Cx 43 T ds ro o43_13 k H Q := run_region
def o43_16 : List AO := [{ dst := (some 24), op := .move (.tmp 6), ty := 3, guard := none },
  { dst := (some 25), op := .move (.tmp 0), ty := 9, guard := none },
  { dst := (some 26), op := .call { callee := (.builtin .len), args := #[(.tmp 25)], argTypes := #[9] }, ty := 3, guard := none },
  { dst := (some 27), op := .binOp .lss 3 (.tmp 24) (.tmp 26) 3, ty := 4, guard := none },
  { dst := (some 28), op := .move (.tmp 27), ty := 4, guard := none },
  { dst := (some 29), op := .move (.tmp 0), ty := 9, guard := (some (28, true)) },
  { dst := (some 30), op := .move (.tmp 6), ty := 3, guard := (some (28, true)) },
  { dst := (some 31), op := .index 9 (.tmp 29) (.tmp 30), ty := 5, guard := (some (28, true)) },
  { dst := (some 32), op := .binOp .eql 5 (.tmp 31) (.const (.int .u8 58)) 5, ty := 4, guard := (some (28, true)) },
  { dst := (some 33), op := .pick (.tmp 28) (.tmp 32) (.const (.bool false)), ty := 4, guard := none }]
def c43_16 : AC := .region o43_16 []
theorem n43_16 : Run Cx 43 T ds ro (.code c43_16 :: k) H Q = RunOps Cx 43 T ds ro o43_16 k H Q := run_region
def o43_19 : List AO := [{ dst := (some 35), op := .move (.tmp 0), ty := 9, guard := none },
  { dst := (some 36), op := .move (.tmp 6), ty := 3, guard := none },
  { dst := (some 37), op := .binOp .add 3 (.tmp 36) (.const (.int .i64 1)) 3, ty := 3, guard := none },
  { dst := (some 38), op := .call { callee := (.value (.func 53)), args := #[(.tmp 35), (.tmp 37)], argTypes := #[9, 3] }, ty := 52, guard := none },
  { dst := (some 34), op := .move (.tmp 38), ty := 52, guard := none },
  { dst := (some 39), op := .extract (.tmp 34) 0, ty := 3, guard := none },
  { dst := (some 40), op := .extract (.tmp 34) 1, ty := 3, guard := none },
  { dst := (some 41), op := .extract (.tmp 34) 2, ty := 34, guard := none },
  { dst := (some 9), op := .assign (.tmp 39), ty := 3, guard := none },
  { dst := (some 10), op := .assign (.tmp 40), ty := 3, guard := none },
  { dst := (some 11), op := .assign (.tmp 41), ty := 34, guard := none }]
def c43_19 : AC := .region o43_19 []
theorem n43_19 : Run Cx 43 T ds ro (.code c43_19 :: k) H Q = RunOps Cx 43 T ds ro o43_19 k H Q := run_region
def o43_22 : List AO := [{ dst := (some 42), op := .move (.tmp 11), ty := 34, guard := none },
  { dst := (some 43), op := .binOp .neq 34 (.tmp 42) (.const (.int .i64 0)) 34, ty := 4, guard := none }]
def c43_22 : AC := .region o43_22 []
theorem n43_22 : Run Cx 43 T ds ro (.code c43_22 :: k) H Q = RunOps Cx 43 T ds ro o43_22 k H Q := run_region
def o43_25 : List AO := [{ dst := (some 44), op := .build 25 #[], ty := 25, guard := none },
  { dst := (some 45), op := .move (.tmp 11), ty := 34, guard := none },
  { dst := none, op := .store 25 (.tmp 2) (.tmp 44), ty := 0, guard := none },
  { dst := (some 3), op := .assign (.const (.int .i64 0)), ty := 3, guard := none },
  { dst := (some 4), op := .assign (.tmp 45), ty := 34, guard := none }]
def c43_25 : AC := .region o43_25 []
theorem n43_25 : Run Cx 43 T ds ro (.code c43_25 :: k) H Q = RunOps Cx 43 T ds ro o43_25 k H Q := run_region
def c43_26 : AC := .ret
theorem n43_26 : Run Cx 43 T [] none (.code c43_26 :: k) H Q = RunRes Cx T H Q (resOf Cx 43) := run_ret
def c43_24 : AC := .seq c43_25 c43_26
theorem n43_24 : Run Cx 43 T ds ro (.code c43_24 :: k) H Q = Run Cx 43 T ds ro (.code c43_25 :: .code c43_26 :: k) H Q := run_seq
def c43_27 : AC := .skip
theorem n43_27 : Run Cx 43 T ds ro (.code c43_27 :: k) H Q = Run Cx 43 T ds ro (k) H Q := run_skip
def c43_23 : AC := .cond (.tmp 43) c43_24 c43_27
theorem n43_23 : Run Cx 43 T ds ro (.code c43_23 :: k) H Q = RunCond Cx 43 T ds ro (.tmp 43) (ev T (.tmp 43)) c43_24 c43_27 k H Q := run_condC
def c43_21 : AC := .seq c43_22 c43_23
theorem n43_21 : Run Cx 43 T ds ro (.code c43_21 :: k) H Q = Run Cx 43 T ds ro (.code c43_22 :: .code c43_23 :: k) H Q := run_seq
def o43_28 : List AO := [{ dst := (some 46), op := .move (.tmp 5), ty := 3, guard := none },
  { dst := (some 47), op := .move (.tmp 9), ty := 3, guard := none },
  { dst := (some 48), op := .build 23 #[(0, (.tmp 46)), (1, (.tmp 47))], ty := 23, guard := none },
  { dst := (some 49), op := .build 25 #[(0, (.const (.int .i64 2))), (3, (.tmp 48))], ty := 25, guard := none },
  { dst := (some 50), op := .move (.tmp 10), ty := 3, guard := none },
  { dst := none, op := .store 25 (.tmp 8) (.tmp 49), ty := 0, guard := none },
  { dst := (some 6), op := .assign (.tmp 50), ty := 3, guard := none }]
def c43_28 : AC := .region o43_28 []
theorem n43_28 : Run Cx 43 T ds ro (.code c43_28 :: k) H Q = RunOps Cx 43 T ds ro o43_28 k H Q := run_region
def c43_20 : AC := .seq c43_21 c43_28
theorem n43_20 : Run Cx 43 T ds ro (.code c43_20 :: k) H Q = Run Cx 43 T ds ro (.code c43_21 :: .code c43_28 :: k) H Q := run_seq
def c43_18 : AC := .seq c43_19 c43_20
theorem n43_18 : Run Cx 43 T ds ro (.code c43_18 :: k) H Q = Run Cx 43 T ds ro (.code c43_19 :: .code c43_20 :: k) H Q := run_seq
def c43_29 : AC := .skip
theorem n43_29 : Run Cx 43 T ds ro (.code c43_29 :: k) H Q = Run Cx 43 T ds ro (k) H Q := run_skip
def c43_17 : AC := .cond (.tmp 33) c43_18 c43_29
theorem n43_17 : Run Cx 43 T ds ro (.code c43_17 :: k) H Q = RunCond Cx 43 T ds ro (.tmp 33) (ev T (.tmp 33)) c43_18 c43_29 k H Q := run_condC
def c43_15 : AC := .seq c43_16 c43_17
theorem n43_15 : Run Cx 43 T ds ro (.code c43_15 :: k) H Q = Run Cx 43 T ds ro (.code c43_16 :: .code c43_17 :: k) H Q := run_seq
def o43_32 : List AO := [{ dst := (some 51), op := .load 25 (.tmp 8), ty := 25, guard := none },
  { dst := (some 52), op := .call { callee := (.value (.func 8)), args := #[(.tmp 51)], argTypes := #[25] }, ty := 4, guard := none },
  { dst := (some 53), op := .unOp .not 4 (.tmp 52), ty := 4, guard := none }]
def c43_32 : AC := .region o43_32 []
theorem n43_32 : Run Cx 43 T ds ro (.code c43_32 :: k) H Q = RunOps Cx 43 T ds ro o43_32 k H Q := run_region
def o43_35 : List AO := [{ dst := (some 54), op := .build 25 #[], ty := 25, guard := none },
  { dst := none, op := .store 25 (.tmp 2) (.tmp 54), ty := 0, guard := none },
  { dst := (some 3), op := .assign (.const (.int .i64 0)), ty := 3, guard := none },
  { dst := (some 4), op := .assign (.const (.int .i64 14)), ty := 34, guard := none }]
def c43_35 : AC := .region o43_35 []
theorem n43_35 : Run Cx 43 T ds ro (.code c43_35 :: k) H Q = RunOps Cx 43 T ds ro o43_35 k H Q := run_region
def c43_36 : AC := .ret
theorem n43_36 : Run Cx 43 T [] none (.code c43_36 :: k) H Q = RunRes Cx T H Q (resOf Cx 43) := run_ret
def c43_34 : AC := .seq c43_35 c43_36
theorem n43_34 : Run Cx 43 T ds ro (.code c43_34 :: k) H Q = Run Cx 43 T ds ro (.code c43_35 :: .code c43_36 :: k) H Q := run_seq
def c43_37 : AC := .skip
theorem n43_37 : Run Cx 43 T ds ro (.code c43_37 :: k) H Q = Run Cx 43 T ds ro (k) H Q := run_skip
def c43_33 : AC := .cond (.tmp 53) c43_34 c43_37
theorem n43_33 : Run Cx 43 T ds ro (.code c43_33 :: k) H Q = RunCond Cx 43 T ds ro (.tmp 53) (ev T (.tmp 53)) c43_34 c43_37 k H Q := run_condC
def c43_31 : AC := .seq c43_32 c43_33
theorem n43_31 : Run Cx 43 T ds ro (.code c43_31 :: k) H Q = Run Cx 43 T ds ro (.code c43_32 :: .code c43_33 :: k) H Q := run_seq
def o43_39 : List AO := [{ dst := (some 55), op := .load 25 (.tmp 8), ty := 25, guard := none },
  { dst := (some 56), op := .move (.tmp 6), ty := 3, guard := none },
  { dst := none, op := .store 25 (.tmp 2) (.tmp 55), ty := 0, guard := none },
  { dst := (some 3), op := .assign (.tmp 56), ty := 3, guard := none },
  { dst := (some 4), op := .assign (.const (.int .i64 0)), ty := 34, guard := none }]
def c43_39 : AC := .region o43_39 []
theorem n43_39 : Run Cx 43 T ds ro (.code c43_39 :: k) H Q = RunOps Cx 43 T ds ro o43_39 k H Q := run_region
def c43_40 : AC := .ret
theorem n43_40 : Run Cx 43 T [] none (.code c43_40 :: k) H Q = RunRes Cx T H Q (resOf Cx 43) := run_ret
def c43_38 : AC := .seq c43_39 c43_40
theorem n43_38 : Run Cx 43 T ds ro (.code c43_38 :: k) H Q = Run Cx 43 T ds ro (.code c43_39 :: .code c43_40 :: k) H Q := run_seq
def c43_30 : AC := .seq c43_31 c43_38
theorem n43_30 : Run Cx 43 T ds ro (.code c43_30 :: k) H Q = Run Cx 43 T ds ro (.code c43_31 :: .code c43_38 :: k) H Q := run_seq
def c43_14 : AC := .seq c43_15 c43_30
theorem n43_14 : Run Cx 43 T ds ro (.code c43_14 :: k) H Q = Run Cx 43 T ds ro (.code c43_15 :: .code c43_30 :: k) H Q := run_seq
def c43_12 : AC := .seq c43_13 c43_14
theorem n43_12 : Run Cx 43 T ds ro (.code c43_12 :: k) H Q = Run Cx 43 T ds ro (.code c43_13 :: .code c43_14 :: k) H Q := run_seq
def c43_4 : AC := .seq c43_5 c43_12
theorem n43_4 : Run Cx 43 T ds ro (.code c43_4 :: k) H Q = Run Cx 43 T ds ro (.code c43_5 :: .code c43_12 :: k) H Q := run_seq
def c43_2 : AC := .seq c43_3 c43_4
theorem n43_2 : Run Cx 43 T ds ro (.code c43_2 :: k) H Q = Run Cx 43 T ds ro (.code c43_3 :: .code c43_4 :: k) H Q := run_seq
def c43_0 : AC := .seq c43_1 c43_2
theorem n43_0 : Run Cx 43 T ds ro (.code c43_0 :: k) H Q = Run Cx 43 T ds ro (.code c43_1 :: .code c43_2 :: k) H Q := run_seq
theorem body43 : bodyOf Cx 43 = some c43_0 := by kernel_rfl
theorem res43 : resOf Cx 43 = some [.cell 2 25, .tmp 3, .tmp 4] := by kernel_rfl
theorem pure43 : Cx.pure 43 = true := by kernel_rfl
-- RULES 43: n43_0, n43_1, n43_2, n43_3, n43_4, n43_5, n43_6, n43_7, n43_8, n43_9, n43_10, n43_11, n43_12, n43_13, n43_14, n43_15, n43_16, n43_17, n43_18, n43_19, n43_20, n43_21, n43_22, n43_23, n43_24, n43_25, n43_26, n43_27, n43_28, n43_29, n43_30, n43_31, n43_32, n43_33, n43_34, n43_35, n43_36, n43_37, n43_38, n43_39, n43_40
def o44_1 : List AO := [{ dst := (some 2), op := .assign (.const (.bool false)), ty := 4, guard := none }]
def c44_1 : AC := .region o44_1 []
theorem n44_1 : Run Cx 44 T ds ro (.code c44_1 :: k) H Q = RunOps Cx 44 T ds ro o44_1 k H Q := run_region
def o44_3 : List AO := [{ dst := (some 3), op := .move (.tmp 0), ty := 3, guard := none },
  { dst := (some 4), op := .binOp .geq 3 (.tmp 3) (.const (.int .i64 (-16777216))) 3, ty := 4, guard := none },
  { dst := (some 5), op := .move (.tmp 4), ty := 4, guard := none },
  { dst := (some 6), op := .move (.tmp 0), ty := 3, guard := (some (5, true)) },
  { dst := (some 7), op := .binOp .leq 3 (.tmp 6) (.const (.int .i64 16777216)) 3, ty := 4, guard := (some (5, true)) },
  { dst := (some 8), op := .pick (.tmp 5) (.tmp 7) (.const (.bool false)), ty := 4, guard := none },
  { dst := (some 2), op := .assign (.tmp 8), ty := 4, guard := none }]
def c44_3 : AC := .region o44_3 []
theorem n44_3 : Run Cx 44 T ds ro (.code c44_3 :: k) H Q = RunOps Cx 44 T ds ro o44_3 k H Q := run_region
def c44_4 : AC := .ret
theorem n44_4 : Run Cx 44 T [] none (.code c44_4 :: k) H Q = RunRes Cx T H Q (resOf Cx 44) := run_ret
def c44_2 : AC := .seq c44_3 c44_4
theorem n44_2 : Run Cx 44 T ds ro (.code c44_2 :: k) H Q = Run Cx 44 T ds ro (.code c44_3 :: .code c44_4 :: k) H Q := run_seq
def c44_0 : AC := .seq c44_1 c44_2
theorem n44_0 : Run Cx 44 T ds ro (.code c44_0 :: k) H Q = Run Cx 44 T ds ro (.code c44_1 :: .code c44_2 :: k) H Q := run_seq
theorem body44 : bodyOf Cx 44 = some c44_0 := by kernel_rfl
theorem res44 : resOf Cx 44 = some [.tmp 2] := by kernel_rfl
theorem pure44 : Cx.pure 44 = true := by kernel_rfl
-- RULES 44: n44_0, n44_1, n44_2, n44_3, n44_4
def o45_1 : List AO := [{ dst := (some 2), op := .assign (.const (.bool false)), ty := 4, guard := none }]
def c45_1 : AC := .region o45_1 []
theorem n45_1 : Run Cx 45 T ds ro (.code c45_1 :: k) H Q = RunOps Cx 45 T ds ro o45_1 k H Q := run_region
def o45_3 : List AO := [{ dst := (some 3), op := .move (.tmp 0), ty := 3, guard := none },
  { dst := (some 4), op := .move (.tmp 0), ty := 3, guard := none },
  { dst := (some 5), op := .binOp .neq 3 (.tmp 3) (.tmp 4) 3, ty := 4, guard := none },
  { dst := (some 2), op := .assign (.tmp 5), ty := 4, guard := none }]
def c45_3 : AC := .region o45_3 []
theorem n45_3 : Run Cx 45 T ds ro (.code c45_3 :: k) H Q = RunOps Cx 45 T ds ro o45_3 k H Q := run_region
def c45_4 : AC := .ret
theorem n45_4 : Run Cx 45 T [] none (.code c45_4 :: k) H Q = RunRes Cx T H Q (resOf Cx 45) := run_ret
def c45_2 : AC := .seq c45_3 c45_4
theorem n45_2 : Run Cx 45 T ds ro (.code c45_2 :: k) H Q = Run Cx 45 T ds ro (.code c45_3 :: .code c45_4 :: k) H Q := run_seq
def c45_0 : AC := .seq c45_1 c45_2
theorem n45_0 : Run Cx 45 T ds ro (.code c45_0 :: k) H Q = Run Cx 45 T ds ro (.code c45_1 :: .code c45_2 :: k) H Q := run_seq
theorem body45 : bodyOf Cx 45 = some c45_0 := by kernel_rfl
theorem res45 : resOf Cx 45 = some [.tmp 2] := by kernel_rfl
theorem pure45 : Cx.pure 45 = true := by kernel_rfl
-- RULES 45: n45_0, n45_1, n45_2, n45_3, n45_4
def o46_1 : List AO := [{ dst := (some 4), op := .assign (.const (.int .i64 0)), ty := 3, guard := none }]
def c46_1 : AC := .region o46_1 []
theorem n46_1 : Run Cx 46 T ds ro (.code c46_1 :: k) H Q = RunOps Cx 46 T ds ro o46_1 k H Q := run_region
def o46_3 : List AO := [{ dst := (some 5), op := .move (.tmp 0), ty := 9, guard := none },
  { dst := (some 6), op := .move (.tmp 1), ty := 9, guard := none },
  { dst := (some 7), op := .call { callee := (.value (.func 54)), args := #[(.tmp 5), (.tmp 6)], argTypes := #[9, 9] }, ty := 3, guard := none },
  { dst := (some 4), op := .assign (.tmp 7), ty := 3, guard := none }]
def c46_3 : AC := .region o46_3 []
theorem n46_3 : Run Cx 46 T ds ro (.code c46_3 :: k) H Q = RunOps Cx 46 T ds ro o46_3 k H Q := run_region
def c46_4 : AC := .ret
theorem n46_4 : Run Cx 46 T [] none (.code c46_4 :: k) H Q = RunRes Cx T H Q (resOf Cx 46) := run_ret
def c46_2 : AC := .seq c46_3 c46_4
theorem n46_2 : Run Cx 46 T ds ro (.code c46_2 :: k) H Q = Run Cx 46 T ds ro (.code c46_3 :: .code c46_4 :: k) H Q := run_seq
def c46_0 : AC := .seq c46_1 c46_2
theorem n46_0 : Run Cx 46 T ds ro (.code c46_0 :: k) H Q = Run Cx 46 T ds ro (.code c46_1 :: .code c46_2 :: k) H Q := run_seq
theorem body46 : bodyOf Cx 46 = some c46_0 := by kernel_rfl
theorem res46 : resOf Cx 46 = some [.tmp 4] := by kernel_rfl
theorem pure46 : Cx.pure 46 = true := by kernel_rfl
-- RULES 46: n46_0, n46_1, n46_2, n46_3, n46_4
def o47_1 : List AO := [{ dst := (some 4), op := .assign (.const .nilIface), ty := 63, guard := none }]
def c47_1 : AC := .region o47_1 []
theorem n47_1 : Run Cx 47 T ds ro (.code c47_1 :: k) H Q = RunOps Cx 47 T ds ro o47_1 k H Q := run_region
def o47_3 : List AO := [{ dst := (some 5), op := .move (.tmp 0), ty := 59, guard := none },
  { dst := (some 6), op := .call { callee := (.value (.func 55)), args := #[(.tmp 5)], argTypes := #[59] }, ty := 0, guard := none }]
def c47_3 : AC := .region o47_3 []
theorem n47_3 : Run Cx 47 T ds ro (.code c47_3 :: k) H Q = RunOps Cx 47 T ds ro o47_3 k H Q := run_region
def o47_5 : List AO := [{ dst := (some 7), op := .move (.tmp 0), ty := 59, guard := none },
  { dst := (some 8), op := .move (.tmp 0), ty := 59, guard := none },
  { dst := (some 9), op := .nilCheck (.tmp 8), ty := 0, guard := none },
  { dst := (some 10), op := .fieldAddr 61 (.tmp 9) 1, ty := 0, guard := none },
  { dst := (some 11), op := .load 58 (.tmp 10), ty := 58, guard := none },
  { dst := (some 12), op := .move (.tmp 1), ty := 5, guard := none },
  { dst := (some 13), op := .buildSlice 58 1 #[(0, (.tmp 12))], ty := 58, guard := none },
  { dst := (some 14), op := .call { callee := (.builtin .append), args := #[(.tmp 11), (.tmp 13)], argTypes := #[58, 58] }, ty := 58, guard := none },
  { dst := (some 15), op := .nilCheck (.tmp 7), ty := 0, guard := none },
  { dst := (some 16), op := .fieldAddr 61 (.tmp 15) 1, ty := 0, guard := none },
  { dst := none, op := .store 58 (.tmp 16) (.tmp 14), ty := 0, guard := none }]
def c47_5 : AC := .region o47_5 []
theorem n47_5 : Run Cx 47 T ds ro (.code c47_5 :: k) H Q = RunOps Cx 47 T ds ro o47_5 k H Q := run_region
def o47_7 : List AO := [{ dst := (some 4), op := .assign (.const .nilIface), ty := 63, guard := none }]
def c47_7 : AC := .region o47_7 []
theorem n47_7 : Run Cx 47 T ds ro (.code c47_7 :: k) H Q = RunOps Cx 47 T ds ro o47_7 k H Q := run_region
def c47_8 : AC := .ret
theorem n47_8 : Run Cx 47 T [] none (.code c47_8 :: k) H Q = RunRes Cx T H Q (resOf Cx 47) := run_ret
def c47_6 : AC := .seq c47_7 c47_8
theorem n47_6 : Run Cx 47 T ds ro (.code c47_6 :: k) H Q = Run Cx 47 T ds ro (.code c47_7 :: .code c47_8 :: k) H Q := run_seq
def c47_4 : AC := .seq c47_5 c47_6
theorem n47_4 : Run Cx 47 T ds ro (.code c47_4 :: k) H Q = Run Cx 47 T ds ro (.code c47_5 :: .code c47_6 :: k) H Q := run_seq
def c47_2 : AC := .seq c47_3 c47_4
theorem n47_2 : Run Cx 47 T ds ro (.code c47_2 :: k) H Q = Run Cx 47 T ds ro (.code c47_3 :: .code c47_4 :: k) H Q := run_seq
def c47_0 : AC := .seq c47_1 c47_2
theorem n47_0 : Run Cx 47 T ds ro (.code c47_0 :: k) H Q = Run Cx 47 T ds ro (.code c47_1 :: .code c47_2 :: k) H Q := run_seq
theorem body47 : bodyOf Cx 47 = some c47_0 := by kernel_rfl
theorem res47 : resOf Cx 47 = some [.tmp 4] := by kernel_rfl
theorem pure47 : Cx.pure 47 = false := by kernel_rfl
-- RULES 47: n47_0, n47_1, n47_2, n47_3, n47_4, n47_5, n47_6, n47_7, n47_8
def o48_1 : List AO := [{ dst := (some 2), op := .assign (.const (.bool false)), ty := 4, guard := none }]
def c48_1 : AC := .region o48_1 []
theorem n48_1 : Run Cx 48 T ds ro (.code c48_1 :: k) H Q = RunOps Cx 48 T ds ro o48_1 k H Q := run_region
def o48_3 : List AO := [{ dst := (some 3), op := .move (.tmp 0), ty := 5, guard := none },
  { dst := (some 4), op := .binOp .geq 5 (.tmp 3) (.const (.int .u8 32)) 5, ty := 4, guard := none },
  { dst := (some 5), op := .move (.tmp 4), ty := 4, guard := none },
  { dst := (some 6), op := .move (.tmp 0), ty := 5, guard := (some (5, true)) },
  { dst := (some 7), op := .binOp .leq 5 (.tmp 6) (.const (.int .u8 126)) 5, ty := 4, guard := (some (5, true)) },
  { dst := (some 8), op := .pick (.tmp 5) (.tmp 7) (.const (.bool false)), ty := 4, guard := none },
  { dst := (some 9), op := .move (.tmp 8), ty := 4, guard := none },
  { dst := (some 10), op := .move (.tmp 0), ty := 5, guard := (some (9, true)) },
  { dst := (some 11), op := .binOp .neq 5 (.tmp 10) (.const (.int .u8 34)) 5, ty := 4, guard := (some (9, true)) },
  { dst := (some 12), op := .pick (.tmp 9) (.tmp 11) (.const (.bool false)), ty := 4, guard := none },
  { dst := (some 13), op := .move (.tmp 12), ty := 4, guard := none },
  { dst := (some 14), op := .move (.tmp 0), ty := 5, guard := (some (13, true)) },
  { dst := (some 15), op := .binOp .neq 5 (.tmp 14) (.const (.int .u8 92)) 5, ty := 4, guard := (some (13, true)) },
  { dst := (some 16), op := .pick (.tmp 13) (.tmp 15) (.const (.bool false)), ty := 4, guard := none },
  { dst := (some 2), op := .assign (.tmp 16), ty := 4, guard := none }]
def c48_3 : AC := .region o48_3 []
theorem n48_3 : Run Cx 48 T ds ro (.code c48_3 :: k) H Q = RunOps Cx 48 T ds ro o48_3 k H Q := run_region
def c48_4 : AC := .ret
theorem n48_4 : Run Cx 48 T [] none (.code c48_4 :: k) H Q = RunRes Cx T H Q (resOf Cx 48) := run_ret
def c48_2 : AC := .seq c48_3 c48_4
theorem n48_2 : Run Cx 48 T ds ro (.code c48_2 :: k) H Q = Run Cx 48 T ds ro (.code c48_3 :: .code c48_4 :: k) H Q := run_seq
def c48_0 : AC := .seq c48_1 c48_2
theorem n48_0 : Run Cx 48 T ds ro (.code c48_0 :: k) H Q = Run Cx 48 T ds ro (.code c48_1 :: .code c48_2 :: k) H Q := run_seq
theorem body48 : bodyOf Cx 48 = some c48_0 := by kernel_rfl
theorem res48 : resOf Cx 48 = some [.tmp 2] := by kernel_rfl
theorem pure48 : Cx.pure 48 = true := by kernel_rfl
-- RULES 48: n48_0, n48_1, n48_2, n48_3, n48_4
def o49_1 : List AO := [{ dst := (some 4), op := .assign (.const (.int .i64 0)), ty := 3, guard := none },
  { dst := (some 5), op := .assign (.const .nilIface), ty := 63, guard := none }]
def c49_1 : AC := .region o49_1 []
theorem n49_1 : Run Cx 49 T ds ro (.code c49_1 :: k) H Q = RunOps Cx 49 T ds ro o49_1 k H Q := run_region
def o49_3 : List AO := [{ dst := (some 6), op := .move (.tmp 0), ty := 59, guard := none },
  { dst := (some 7), op := .call { callee := (.value (.func 55)), args := #[(.tmp 6)], argTypes := #[59] }, ty := 0, guard := none }]
def c49_3 : AC := .region o49_3 []
theorem n49_3 : Run Cx 49 T ds ro (.code c49_3 :: k) H Q = RunOps Cx 49 T ds ro o49_3 k H Q := run_region
def o49_5 : List AO := [{ dst := (some 8), op := .move (.tmp 0), ty := 59, guard := none },
  { dst := (some 9), op := .move (.tmp 0), ty := 59, guard := none },
  { dst := (some 10), op := .nilCheck (.tmp 9), ty := 0, guard := none },
  { dst := (some 11), op := .fieldAddr 61 (.tmp 10) 1, ty := 0, guard := none },
  { dst := (some 12), op := .load 58 (.tmp 11), ty := 58, guard := none },
  { dst := (some 13), op := .move (.tmp 1), ty := 9, guard := none },
  { dst := (some 14), op := .call { callee := (.builtin .append), args := #[(.tmp 12), (.tmp 13)], argTypes := #[58, 9] }, ty := 58, guard := none },
  { dst := (some 15), op := .nilCheck (.tmp 8), ty := 0, guard := none },
  { dst := (some 16), op := .fieldAddr 61 (.tmp 15) 1, ty := 0, guard := none },
  { dst := none, op := .store 58 (.tmp 16) (.tmp 14), ty := 0, guard := none }]
def c49_5 : AC := .region o49_5 []
theorem n49_5 : Run Cx 49 T ds ro (.code c49_5 :: k) H Q = RunOps Cx 49 T ds ro o49_5 k H Q := run_region
def o49_7 : List AO := [{ dst := (some 17), op := .move (.tmp 1), ty := 9, guard := none },
  { dst := (some 18), op := .call { callee := (.builtin .len), args := #[(.tmp 17)], argTypes := #[9] }, ty := 3, guard := none },
  { dst := (some 4), op := .assign (.tmp 18), ty := 3, guard := none },
  { dst := (some 5), op := .assign (.const .nilIface), ty := 63, guard := none }]
def c49_7 : AC := .region o49_7 []
theorem n49_7 : Run Cx 49 T ds ro (.code c49_7 :: k) H Q = RunOps Cx 49 T ds ro o49_7 k H Q := run_region
def c49_8 : AC := .ret
theorem n49_8 : Run Cx 49 T [] none (.code c49_8 :: k) H Q = RunRes Cx T H Q (resOf Cx 49) := run_ret
def c49_6 : AC := .seq c49_7 c49_8
theorem n49_6 : Run Cx 49 T ds ro (.code c49_6 :: k) H Q = Run Cx 49 T ds ro (.code c49_7 :: .code c49_8 :: k) H Q := run_seq
def c49_4 : AC := .seq c49_5 c49_6
theorem n49_4 : Run Cx 49 T ds ro (.code c49_4 :: k) H Q = Run Cx 49 T ds ro (.code c49_5 :: .code c49_6 :: k) H Q := run_seq
def c49_2 : AC := .seq c49_3 c49_4
theorem n49_2 : Run Cx 49 T ds ro (.code c49_2 :: k) H Q = Run Cx 49 T ds ro (.code c49_3 :: .code c49_4 :: k) H Q := run_seq
def c49_0 : AC := .seq c49_1 c49_2
theorem n49_0 : Run Cx 49 T ds ro (.code c49_0 :: k) H Q = Run Cx 49 T ds ro (.code c49_1 :: .code c49_2 :: k) H Q := run_seq
theorem body49 : bodyOf Cx 49 = some c49_0 := by kernel_rfl
theorem res49 : resOf Cx 49 = some [.tmp 4, .tmp 5] := by kernel_rfl
theorem pure49 : Cx.pure 49 = false := by kernel_rfl
-- RULES 49: n49_0, n49_1, n49_2, n49_3, n49_4, n49_5, n49_6, n49_7, n49_8
def o51_1 : List AO := [{ dst := (some 2), op := .assign (.const (.int .i64 0)), ty := 3, guard := none },
  { dst := (some 3), op := .assign (.const (.int .i64 0)), ty := 3, guard := none },
  { dst := (some 4), op := .assign (.const (.int .i64 0)), ty := 34, guard := none }]
def c51_1 : AC := .region o51_1 []
theorem n51_1 : Run Cx 51 T ds ro (.code c51_1 :: k) H Q = RunOps Cx 51 T ds ro o51_1 k H Q := run_region
def o51_4 : List AO := [{ dst := (some 5), op := .assign (.const (.int .i64 0)), ty := 3, guard := none },
  { dst := (some 6), op := .assign (.const (.int .i64 0)), ty := 3, guard := none },
  { dst := (some 7), op := .assign (.const (.int .i64 0)), ty := 3, guard := none }]
def c51_4 : AC := .region o51_4 []
theorem n51_4 : Run Cx 51 T ds ro (.code c51_4 :: k) H Q = RunOps Cx 51 T ds ro o51_4 k H Q := run_region
def c51_6 : AC := .label 0
theorem n51_6 : Run Cx 51 T ds ro (.code c51_6 :: k) H Q = Run Cx 51 T ds ro (k) H Q := run_label
def o51_9 : List AO := [{ dst := (some 9), op := .move (.tmp 6), ty := 3, guard := none },
  { dst := (some 10), op := .move (.tmp 0), ty := 32, guard := none },
  { dst := (some 11), op := .call { callee := (.value (.func 19)), args := #[(.tmp 10)], argTypes := #[32] }, ty := 3, guard := none },
  { dst := (some 12), op := .binOp .geq 3 (.tmp 9) (.tmp 11) 3, ty := 4, guard := none }]
def c51_9 : AC := .region o51_9 []
theorem n51_9 : Run Cx 51 T ds ro (.code c51_9 :: k) H Q = RunOps Cx 51 T ds ro o51_9 k H Q := run_region
def o51_12 : List AO := [{ dst := (some 2), op := .assign (.const (.int .i64 0)), ty := 3, guard := none },
  { dst := (some 3), op := .assign (.const (.int .i64 0)), ty := 3, guard := none },
  { dst := (some 4), op := .assign (.const (.int .i64 2)), ty := 34, guard := none }]
def c51_12 : AC := .region o51_12 []
theorem n51_12 : Run Cx 51 T ds ro (.code c51_12 :: k) H Q = RunOps Cx 51 T ds ro o51_12 k H Q := run_region
def c51_13 : AC := .ret
theorem n51_13 : Run Cx 51 T [] none (.code c51_13 :: k) H Q = RunRes Cx T H Q (resOf Cx 51) := run_ret
def c51_11 : AC := .seq c51_12 c51_13
theorem n51_11 : Run Cx 51 T ds ro (.code c51_11 :: k) H Q = Run Cx 51 T ds ro (.code c51_12 :: .code c51_13 :: k) H Q := run_seq
def c51_14 : AC := .skip
theorem n51_14 : Run Cx 51 T ds ro (.code c51_14 :: k) H Q = Run Cx 51 T ds ro (k) H Q := run_skip
def c51_10 : AC := .cond (.tmp 12) c51_11 c51_14
theorem n51_10 : Run Cx 51 T ds ro (.code c51_10 :: k) H Q = RunCond Cx 51 T ds ro (.tmp 12) (ev T (.tmp 12)) c51_11 c51_14 k H Q := run_condC
def c51_8 : AC := .seq c51_9 c51_10
theorem n51_8 : Run Cx 51 T ds ro (.code c51_8 :: k) H Q = Run Cx 51 T ds ro (.code c51_9 :: .code c51_10 :: k) H Q := run_seq
def o51_16 : List AO := [{ dst := (some 13), op := .move (.tmp 0), ty := 32, guard := none },
  { dst := (some 14), op := .nilCheck (.tmp 13), ty := 0, guard := none },
  { dst := (some 15), op := .fieldAddr 49 (.tmp 14) 0, ty := 0, guard := none },
  { dst := (some 16), op := .load 9 (.tmp 15), ty := 9, guard := none },
  { dst := (some 17), op := .move (.tmp 0), ty := 32, guard := none },
  { dst := (some 18), op := .nilCheck (.tmp 17), ty := 0, guard := none },
  { dst := (some 19), op := .fieldAddr 49 (.tmp 18) 1, ty := 0, guard := none },
  { dst := (some 20), op := .load 3 (.tmp 19), ty := 3, guard := none },
  { dst := (some 21), op := .move (.tmp 6), ty := 3, guard := none },
  { dst := (some 22), op := .binOp .add 3 (.tmp 20) (.tmp 21) 3, ty := 3, guard := none },
  { dst := (some 23), op := .index 9 (.tmp 16) (.tmp 22), ty := 5, guard := none },
  { dst := (some 24), op := .convert 5 3 (.tmp 23), ty := 3, guard := none },
  { dst := (some 8), op := .assign (.tmp 24), ty := 3, guard := none }]
def c51_16 : AC := .region o51_16 []
theorem n51_16 : Run Cx 51 T ds ro (.code c51_16 :: k) H Q = RunOps Cx 51 T ds ro o51_16 k H Q := run_region
def o51_18 : List AO := [{ dst := (some 25), op := .move (.tmp 5), ty := 3, guard := none },
  { dst := (some 26), op := .move (.tmp 8), ty := 3, guard := none },
  { dst := (some 27), op := .binOp .rem 3 (.tmp 26) (.const (.int .i64 128)) 3, ty := 3, guard := none },
  { dst := (some 28), op := .move (.tmp 7), ty := 3, guard := none },
  { dst := (some 29), op := .binOp .shl 3 (.tmp 27) (.tmp 28) 3, ty := 3, guard := none },
  { dst := (some 30), op := .binOp .add 3 (.tmp 25) (.tmp 29) 3, ty := 3, guard := none },
  { dst := (some 5), op := .assign (.tmp 30), ty := 3, guard := none }]
def c51_18 : AC := .region o51_18 []
theorem n51_18 : Run Cx 51 T ds ro (.code c51_18 :: k) H Q = RunOps Cx 51 T ds ro o51_18 k H Q := run_region
def o51_20 : List AO := [{ dst := (some 31), op := .move (.tmp 6), ty := 3, guard := none },
  { dst := (some 32), op := .binOp .add 3 (.tmp 31) (.const (.int .i64 1)) 3, ty := 3, guard := none },
  { dst := (some 33), op := .move (.tmp 7), ty := 3, guard := none },
  { dst := (some 34), op := .binOp .add 3 (.tmp 33) (.const (.int .i64 7)) 3, ty := 3, guard := none },
  { dst := (some 6), op := .assign (.tmp 32), ty := 3, guard := none },
  { dst := (some 7), op := .assign (.tmp 34), ty := 3, guard := none }]
def c51_20 : AC := .region o51_20 []
theorem n51_20 : Run Cx 51 T ds ro (.code c51_20 :: k) H Q = RunOps Cx 51 T ds ro o51_20 k H Q := run_region
def o51_23 : List AO := [{ dst := (some 35), op := .move (.tmp 8), ty := 3, guard := none },
  { dst := (some 36), op := .binOp .geq 3 (.tmp 35) (.const (.int .i64 128)) 3, ty := 4, guard := none },
  { dst := (some 37), op := .move (.tmp 36), ty := 4, guard := none },
  { dst := (some 38), op := .move (.tmp 6), ty := 3, guard := (some (37, true)) },
  { dst := (some 39), op := .binOp .lss 3 (.tmp 38) (.const (.int .i64 8)) 3, ty := 4, guard := (some (37, true)) },
  { dst := (some 40), op := .pick (.tmp 37) (.tmp 39) (.const (.bool false)), ty := 4, guard := none }]
def c51_23 : AC := .region o51_23 []
theorem n51_23 : Run Cx 51 T ds ro (.code c51_23 :: k) H Q = RunOps Cx 51 T ds ro o51_23 k H Q := run_region
def c51_25 : AC := .goto 0
def c51_26 : AC := .skip
theorem n51_26 : Run Cx 51 T ds ro (.code c51_26 :: k) H Q = Run Cx 51 T ds ro (k) H Q := run_skip
def c51_24 : AC := .cond (.tmp 40) c51_25 c51_26
theorem n51_24 : Run Cx 51 T ds ro (.code c51_24 :: k) H Q = RunCond Cx 51 T ds ro (.tmp 40) (ev T (.tmp 40)) c51_25 c51_26 k H Q := run_condC
def c51_22 : AC := .seq c51_23 c51_24
theorem n51_22 : Run Cx 51 T ds ro (.code c51_22 :: k) H Q = Run Cx 51 T ds ro (.code c51_23 :: .code c51_24 :: k) H Q := run_seq
def o51_29 : List AO := [{ dst := (some 41), op := .move (.tmp 8), ty := 3, guard := none },
  { dst := (some 42), op := .binOp .geq 3 (.tmp 41) (.const (.int .i64 128)) 3, ty := 4, guard := none },
  { dst := (some 43), op := .move (.tmp 42), ty := 4, guard := none },
  { dst := (some 44), op := .move (.tmp 8), ty := 3, guard := (some (43, false)) },
  { dst := (some 45), op := .binOp .eql 3 (.tmp 44) (.const (.int .i64 0)) 3, ty := 4, guard := (some (43, false)) },
  { dst := (some 46), op := .move (.tmp 45), ty := 4, guard := (some (43, false)) },
  { dst := (some 47), op := .move (.tmp 6), ty := 3, guard := (some (46, true)) },
  { dst := (some 48), op := .binOp .gtr 3 (.tmp 47) (.const (.int .i64 1)) 3, ty := 4, guard := (some (46, true)) },
  { dst := (some 49), op := .pick (.tmp 46) (.tmp 48) (.const (.bool false)), ty := 4, guard := (some (43, false)) },
  { dst := (some 50), op := .pick (.tmp 43) (.const (.bool true)) (.tmp 49), ty := 4, guard := none },
  { dst := (some 51), op := .move (.tmp 50), ty := 4, guard := none },
  { dst := (some 52), op := .move (.tmp 5), ty := 3, guard := (some (51, false)) },
  { dst := (some 53), op := .binOp .gtr 3 (.tmp 52) (.const (.int .i64 9007199254740991)) 3, ty := 4, guard := (some (51, false)) },
  { dst := (some 54), op := .pick (.tmp 51) (.const (.bool true)) (.tmp 53), ty := 4, guard := none }]
def c51_29 : AC := .region o51_29 []
theorem n51_29 : Run Cx 51 T ds ro (.code c51_29 :: k) H Q = RunOps Cx 51 T ds ro o51_29 k H Q := run_region
def o51_32 : List AO := [{ dst := (some 2), op := .assign (.const (.int .i64 0)), ty := 3, guard := none },
  { dst := (some 3), op := .assign (.const (.int .i64 0)), ty := 3, guard := none },
  { dst := (some 4), op := .assign (.const (.int .i64 6)), ty := 34, guard := none }]
def c51_32 : AC := .region o51_32 []
theorem n51_32 : Run Cx 51 T ds ro (.code c51_32 :: k) H Q = RunOps Cx 51 T ds ro o51_32 k H Q := run_region
def c51_33 : AC := .ret
theorem n51_33 : Run Cx 51 T [] none (.code c51_33 :: k) H Q = RunRes Cx T H Q (resOf Cx 51) := run_ret
def c51_31 : AC := .seq c51_32 c51_33
theorem n51_31 : Run Cx 51 T ds ro (.code c51_31 :: k) H Q = Run Cx 51 T ds ro (.code c51_32 :: .code c51_33 :: k) H Q := run_seq
def c51_34 : AC := .skip
theorem n51_34 : Run Cx 51 T ds ro (.code c51_34 :: k) H Q = Run Cx 51 T ds ro (k) H Q := run_skip
def c51_30 : AC := .cond (.tmp 54) c51_31 c51_34
theorem n51_30 : Run Cx 51 T ds ro (.code c51_30 :: k) H Q = RunCond Cx 51 T ds ro (.tmp 54) (ev T (.tmp 54)) c51_31 c51_34 k H Q := run_condC
def c51_28 : AC := .seq c51_29 c51_30
theorem n51_28 : Run Cx 51 T ds ro (.code c51_28 :: k) H Q = Run Cx 51 T ds ro (.code c51_29 :: .code c51_30 :: k) H Q := run_seq
def o51_36 : List AO := [{ dst := (some 55), op := .move (.tmp 5), ty := 3, guard := none },
  { dst := (some 56), op := .move (.tmp 6), ty := 3, guard := none },
  { dst := (some 2), op := .assign (.tmp 55), ty := 3, guard := none },
  { dst := (some 3), op := .assign (.tmp 56), ty := 3, guard := none },
  { dst := (some 4), op := .assign (.const (.int .i64 0)), ty := 34, guard := none }]
def c51_36 : AC := .region o51_36 []
theorem n51_36 : Run Cx 51 T ds ro (.code c51_36 :: k) H Q = RunOps Cx 51 T ds ro o51_36 k H Q := run_region
def c51_37 : AC := .ret
theorem n51_37 : Run Cx 51 T [] none (.code c51_37 :: k) H Q = RunRes Cx T H Q (resOf Cx 51) := run_ret
def c51_35 : AC := .seq c51_36 c51_37
theorem n51_35 : Run Cx 51 T ds ro (.code c51_35 :: k) H Q = Run Cx 51 T ds ro (.code c51_36 :: .code c51_37 :: k) H Q := run_seq
def c51_27 : AC := .seq c51_28 c51_35
theorem n51_27 : Run Cx 51 T ds ro (.code c51_27 :: k) H Q = Run Cx 51 T ds ro (.code c51_28 :: .code c51_35 :: k) H Q := run_seq
def c51_21 : AC := .seq c51_22 c51_27
theorem n51_21 : Run Cx 51 T ds ro (.code c51_21 :: k) H Q = Run Cx 51 T ds ro (.code c51_22 :: .code c51_27 :: k) H Q := run_seq
def c51_19 : AC := .seq c51_20 c51_21
theorem n51_19 : Run Cx 51 T ds ro (.code c51_19 :: k) H Q = Run Cx 51 T ds ro (.code c51_20 :: .code c51_21 :: k) H Q := run_seq
def c51_17 : AC := .seq c51_18 c51_19
theorem n51_17 : Run Cx 51 T ds ro (.code c51_17 :: k) H Q = Run Cx 51 T ds ro (.code c51_18 :: .code c51_19 :: k) H Q := run_seq
def c51_15 : AC := .seq c51_16 c51_17
theorem n51_15 : Run Cx 51 T ds ro (.code c51_15 :: k) H Q = Run Cx 51 T ds ro (.code c51_16 :: .code c51_17 :: k) H Q := run_seq
def c51_7 : AC := .seq c51_8 c51_15
theorem n51_7 : Run Cx 51 T ds ro (.code c51_7 :: k) H Q = Run Cx 51 T ds ro (.code c51_8 :: .code c51_15 :: k) H Q := run_seq
def c51_5 : AC := .seq c51_6 c51_7
theorem n51_5 : Run Cx 51 T ds ro (.code c51_5 :: k) H Q = Run Cx 51 T ds ro (.code c51_6 :: .code c51_7 :: k) H Q := run_seq
def c51_3 : AC := .seq c51_4 c51_5
theorem n51_3 : Run Cx 51 T ds ro (.code c51_3 :: k) H Q = Run Cx 51 T ds ro (.code c51_4 :: .code c51_5 :: k) H Q := run_seq
def c51_2 : AC := .scope c51_3
theorem n51_2 : Run Cx 51 T ds ro (.code c51_2 :: k) H Q = Run Cx 51 T ds ro (.code c51_3 :: .inScope c51_3 :: k) H Q := run_scope
def c51_0 : AC := .seq c51_1 c51_2
theorem n51_0 : Run Cx 51 T ds ro (.code c51_0 :: k) H Q = Run Cx 51 T ds ro (.code c51_1 :: .code c51_2 :: k) H Q := run_seq
theorem body51 : bodyOf Cx 51 = some c51_0 := by kernel_rfl
theorem res51 : resOf Cx 51 = some [.tmp 2, .tmp 3, .tmp 4] := by kernel_rfl
theorem pure51 : Cx.pure 51 = false := by kernel_rfl
-- RULES 51: n51_0, n51_1, n51_2, n51_3, n51_4, n51_5, n51_6, n51_7, n51_8, n51_9, n51_10, n51_11, n51_12, n51_13, n51_14, n51_15, n51_16, n51_17, n51_18, n51_19, n51_20, n51_21, n51_22, n51_23, n51_24, n51_25, n51_26, n51_27, n51_28, n51_29, n51_30, n51_31, n51_32, n51_33, n51_34, n51_35, n51_36, n51_37
def o52_1 : List AO := [{ dst := (some 4), op := .assign (.const (.int .u8 0)), ty := 5, guard := none },
  { dst := (some 5), op := .assign (.const (.int .i64 0)), ty := 34, guard := none }]
def c52_1 : AC := .region o52_1 []
theorem n52_1 : Run Cx 52 T ds ro (.code c52_1 :: k) H Q = RunOps Cx 52 T ds ro o52_1 k H Q := run_region
def o52_3 : List AO := [{ dst := (some 6), op := .assign (.const (.int .i64 0)), ty := 3, guard := none }]
def c52_3 : AC := .region o52_3 []
theorem n52_3 : Run Cx 52 T ds ro (.code c52_3 :: k) H Q = RunOps Cx 52 T ds ro o52_3 k H Q := run_region
def o52_6 : List AO := [{ dst := (some 9), op := .move (.tmp 1), ty := 3, guard := none },
  { dst := (some 7), op := .assign (.tmp 9), ty := 3, guard := none }]
def c52_6 : AC := .region o52_6 []
theorem n52_6 : Run Cx 52 T ds ro (.code c52_6 :: k) H Q = RunOps Cx 52 T ds ro o52_6 k H Q := run_region
def o52_11 : List AO := [{ dst := (some 10), op := .move (.tmp 7), ty := 3, guard := none },
  { dst := (some 11), op := .move (.tmp 1), ty := 3, guard := none },
  { dst := (some 12), op := .binOp .add 3 (.tmp 11) (.const (.int .i64 2)) 3, ty := 3, guard := none },
  { dst := (some 13), op := .binOp .lss 3 (.tmp 10) (.tmp 12) 3, ty := 4, guard := none }]
def c52_11 : AC := .region o52_11 []
theorem n52_11 : Run Cx 52 T ds ro (.code c52_11 :: k) H Q = RunOps Cx 52 T ds ro o52_11 k H Q := run_region
def c52_13 : AC := .skip
theorem n52_13 : Run Cx 52 T ds ro (.code c52_13 :: k) H Q = Run Cx 52 T ds ro (k) H Q := run_skip
def c52_14 : AC := .exit 0
theorem n52_14 : Run Cx 52 T ds ro (.code c52_14 :: k) H Q = RunExit Cx 52 T ds ro 0 k k H Q := run_exit_start
def c52_12 : AC := .cond (.tmp 13) c52_13 c52_14
theorem n52_12 : Run Cx 52 T ds ro (.code c52_12 :: k) H Q = RunCond Cx 52 T ds ro (.tmp 13) (ev T (.tmp 13)) c52_13 c52_14 k H Q := run_condC
def c52_10 : AC := .seq c52_11 c52_12
theorem n52_10 : Run Cx 52 T ds ro (.code c52_10 :: k) H Q = Run Cx 52 T ds ro (.code c52_11 :: .code c52_12 :: k) H Q := run_seq
def o52_19 : List AO := [{ dst := (some 16), op := .move (.tmp 7), ty := 3, guard := none },
  { dst := (some 17), op := .move (.tmp 0), ty := 9, guard := none },
  { dst := (some 18), op := .call { callee := (.builtin .len), args := #[(.tmp 17)], argTypes := #[9] }, ty := 3, guard := none },
  { dst := (some 19), op := .binOp .geq 3 (.tmp 16) (.tmp 18) 3, ty := 4, guard := none }]
def c52_19 : AC := .region o52_19 []
theorem n52_19 : Run Cx 52 T ds ro (.code c52_19 :: k) H Q = RunOps Cx 52 T ds ro o52_19 k H Q := run_region
def o52_22 : List AO := [{ dst := (some 4), op := .assign (.const (.int .u8 0)), ty := 5, guard := none },
  { dst := (some 5), op := .assign (.const (.int .i64 2)), ty := 34, guard := none }]
def c52_22 : AC := .region o52_22 []
theorem n52_22 : Run Cx 52 T ds ro (.code c52_22 :: k) H Q = RunOps Cx 52 T ds ro o52_22 k H Q := run_region
def c52_23 : AC := .ret
theorem n52_23 : Run Cx 52 T [] none (.code c52_23 :: k) H Q = RunRes Cx T H Q (resOf Cx 52) := run_ret
def c52_21 : AC := .seq c52_22 c52_23
theorem n52_21 : Run Cx 52 T ds ro (.code c52_21 :: k) H Q = Run Cx 52 T ds ro (.code c52_22 :: .code c52_23 :: k) H Q := run_seq
def c52_24 : AC := .skip
theorem n52_24 : Run Cx 52 T ds ro (.code c52_24 :: k) H Q = Run Cx 52 T ds ro (k) H Q := run_skip
def c52_20 : AC := .cond (.tmp 19) c52_21 c52_24
theorem n52_20 : Run Cx 52 T ds ro (.code c52_20 :: k) H Q = RunCond Cx 52 T ds ro (.tmp 19) (ev T (.tmp 19)) c52_21 c52_24 k H Q := run_condC
def c52_18 : AC := .seq c52_19 c52_20
theorem n52_18 : Run Cx 52 T ds ro (.code c52_18 :: k) H Q = Run Cx 52 T ds ro (.code c52_19 :: .code c52_20 :: k) H Q := run_seq
def o52_26 : List AO := [{ dst := (some 20), op := .move (.tmp 0), ty := 9, guard := none },
  { dst := (some 21), op := .move (.tmp 7), ty := 3, guard := none },
  { dst := (some 22), op := .index 9 (.tmp 20) (.tmp 21), ty := 5, guard := none },
  { dst := (some 23), op := .call { callee := (.value (.func 56)), args := #[(.const (.string ⟨#[48, 49, 50, 51, 52, 53, 54, 55, 56, 57, 97, 98, 99, 100, 101, 102]⟩)), (.tmp 22)], argTypes := #[9, 5] }, ty := 3, guard := none },
  { dst := (some 8), op := .assign (.tmp 23), ty := 3, guard := none }]
def c52_26 : AC := .region o52_26 []
theorem n52_26 : Run Cx 52 T ds ro (.code c52_26 :: k) H Q = RunOps Cx 52 T ds ro o52_26 k H Q := run_region
def o52_29 : List AO := [{ dst := (some 24), op := .move (.tmp 8), ty := 3, guard := none },
  { dst := (some 25), op := .binOp .lss 3 (.tmp 24) (.const (.int .i64 0)) 3, ty := 4, guard := none }]
def c52_29 : AC := .region o52_29 []
theorem n52_29 : Run Cx 52 T ds ro (.code c52_29 :: k) H Q = RunOps Cx 52 T ds ro o52_29 k H Q := run_region
def o52_32 : List AO := [{ dst := (some 4), op := .assign (.const (.int .u8 0)), ty := 5, guard := none },
  { dst := (some 5), op := .assign (.const (.int .i64 6)), ty := 34, guard := none }]
def c52_32 : AC := .region o52_32 []
theorem n52_32 : Run Cx 52 T ds ro (.code c52_32 :: k) H Q = RunOps Cx 52 T ds ro o52_32 k H Q := run_region
def c52_33 : AC := .ret
theorem n52_33 : Run Cx 52 T [] none (.code c52_33 :: k) H Q = RunRes Cx T H Q (resOf Cx 52) := run_ret
def c52_31 : AC := .seq c52_32 c52_33
theorem n52_31 : Run Cx 52 T ds ro (.code c52_31 :: k) H Q = Run Cx 52 T ds ro (.code c52_32 :: .code c52_33 :: k) H Q := run_seq
def c52_34 : AC := .skip
theorem n52_34 : Run Cx 52 T ds ro (.code c52_34 :: k) H Q = Run Cx 52 T ds ro (k) H Q := run_skip
def c52_30 : AC := .cond (.tmp 25) c52_31 c52_34
theorem n52_30 : Run Cx 52 T ds ro (.code c52_30 :: k) H Q = RunCond Cx 52 T ds ro (.tmp 25) (ev T (.tmp 25)) c52_31 c52_34 k H Q := run_condC
def c52_28 : AC := .seq c52_29 c52_30
theorem n52_28 : Run Cx 52 T ds ro (.code c52_28 :: k) H Q = Run Cx 52 T ds ro (.code c52_29 :: .code c52_30 :: k) H Q := run_seq
def o52_35 : List AO := [{ dst := (some 26), op := .move (.tmp 6), ty := 3, guard := none },
  { dst := (some 27), op := .binOp .mul 3 (.const (.int .i64 16)) (.tmp 26) 3, ty := 3, guard := none },
  { dst := (some 28), op := .move (.tmp 8), ty := 3, guard := none },
  { dst := (some 29), op := .binOp .add 3 (.tmp 27) (.tmp 28) 3, ty := 3, guard := none },
  { dst := (some 6), op := .assign (.tmp 29), ty := 3, guard := none }]
def c52_35 : AC := .region o52_35 []
theorem n52_35 : Run Cx 52 T ds ro (.code c52_35 :: k) H Q = RunOps Cx 52 T ds ro o52_35 k H Q := run_region
def c52_27 : AC := .seq c52_28 c52_35
theorem n52_27 : Run Cx 52 T ds ro (.code c52_27 :: k) H Q = Run Cx 52 T ds ro (.code c52_28 :: .code c52_35 :: k) H Q := run_seq
def c52_25 : AC := .seq c52_26 c52_27
theorem n52_25 : Run Cx 52 T ds ro (.code c52_25 :: k) H Q = Run Cx 52 T ds ro (.code c52_26 :: .code c52_27 :: k) H Q := run_seq
def c52_17 : AC := .seq c52_18 c52_25
theorem n52_17 : Run Cx 52 T ds ro (.code c52_17 :: k) H Q = Run Cx 52 T ds ro (.code c52_18 :: .code c52_25 :: k) H Q := run_seq
def c52_16 : AC := .block 1 c52_17
theorem n52_16 : Run Cx 52 T ds ro (.code c52_16 :: k) H Q = Run Cx 52 T ds ro (.code c52_17 :: .inBlock 1 :: k) H Q := run_block
def o52_36 : List AO := [{ dst := (some 14), op := .move (.tmp 7), ty := 3, guard := none },
  { dst := (some 15), op := .binOp .add 3 (.tmp 14) (.const (.int .i64 1)) 3, ty := 3, guard := none },
  { dst := (some 7), op := .assign (.tmp 15), ty := 3, guard := none }]
def c52_36 : AC := .region o52_36 []
theorem n52_36 : Run Cx 52 T ds ro (.code c52_36 :: k) H Q = RunOps Cx 52 T ds ro o52_36 k H Q := run_region
def c52_15 : AC := .seq c52_16 c52_36
theorem n52_15 : Run Cx 52 T ds ro (.code c52_15 :: k) H Q = Run Cx 52 T ds ro (.code c52_16 :: .code c52_36 :: k) H Q := run_seq
def c52_9 : AC := .seq c52_10 c52_15
theorem n52_9 : Run Cx 52 T ds ro (.code c52_9 :: k) H Q = Run Cx 52 T ds ro (.code c52_10 :: .code c52_15 :: k) H Q := run_seq
def c52_8 : AC := .loop c52_9
theorem n52_8 : Run Cx 52 T ds ro (.code c52_8 :: k) H Q = Run Cx 52 T ds ro (.inLoop c52_9 :: k) H Q := run_loop'
def c52_7 : AC := .block 0 c52_8
theorem n52_7 : Run Cx 52 T ds ro (.code c52_7 :: k) H Q = Run Cx 52 T ds ro (.code c52_8 :: .inBlock 0 :: k) H Q := run_block
def c52_5 : AC := .seq c52_6 c52_7
theorem n52_5 : Run Cx 52 T ds ro (.code c52_5 :: k) H Q = Run Cx 52 T ds ro (.code c52_6 :: .code c52_7 :: k) H Q := run_seq
def o52_39 : List AO := [{ dst := (some 30), op := .move (.tmp 6), ty := 3, guard := none },
  { dst := (some 31), op := .convert 3 5 (.tmp 30), ty := 5, guard := none },
  { dst := (some 32), op := .call { callee := (.value (.func 48)), args := #[(.tmp 31)], argTypes := #[5] }, ty := 4, guard := none }]
def c52_39 : AC := .region o52_39 []
theorem n52_39 : Run Cx 52 T ds ro (.code c52_39 :: k) H Q = RunOps Cx 52 T ds ro o52_39 k H Q := run_region
def o52_42 : List AO := [{ dst := (some 4), op := .assign (.const (.int .u8 0)), ty := 5, guard := none },
  { dst := (some 5), op := .assign (.const (.int .i64 6)), ty := 34, guard := none }]
def c52_42 : AC := .region o52_42 []
theorem n52_42 : Run Cx 52 T ds ro (.code c52_42 :: k) H Q = RunOps Cx 52 T ds ro o52_42 k H Q := run_region
def c52_43 : AC := .ret
theorem n52_43 : Run Cx 52 T [] none (.code c52_43 :: k) H Q = RunRes Cx T H Q (resOf Cx 52) := run_ret
def c52_41 : AC := .seq c52_42 c52_43
theorem n52_41 : Run Cx 52 T ds ro (.code c52_41 :: k) H Q = Run Cx 52 T ds ro (.code c52_42 :: .code c52_43 :: k) H Q := run_seq
def c52_44 : AC := .skip
theorem n52_44 : Run Cx 52 T ds ro (.code c52_44 :: k) H Q = Run Cx 52 T ds ro (k) H Q := run_skip
def c52_40 : AC := .cond (.tmp 32) c52_41 c52_44
theorem n52_40 : Run Cx 52 T ds ro (.code c52_40 :: k) H Q = RunCond Cx 52 T ds ro (.tmp 32) (ev T (.tmp 32)) c52_41 c52_44 k H Q := run_condC
def c52_38 : AC := .seq c52_39 c52_40
theorem n52_38 : Run Cx 52 T ds ro (.code c52_38 :: k) H Q = Run Cx 52 T ds ro (.code c52_39 :: .code c52_40 :: k) H Q := run_seq
def o52_46 : List AO := [{ dst := (some 33), op := .move (.tmp 6), ty := 3, guard := none },
  { dst := (some 34), op := .convert 3 5 (.tmp 33), ty := 5, guard := none },
  { dst := (some 4), op := .assign (.tmp 34), ty := 5, guard := none },
  { dst := (some 5), op := .assign (.const (.int .i64 0)), ty := 34, guard := none }]
def c52_46 : AC := .region o52_46 []
theorem n52_46 : Run Cx 52 T ds ro (.code c52_46 :: k) H Q = RunOps Cx 52 T ds ro o52_46 k H Q := run_region
def c52_47 : AC := .ret
theorem n52_47 : Run Cx 52 T [] none (.code c52_47 :: k) H Q = RunRes Cx T H Q (resOf Cx 52) := run_ret
def c52_45 : AC := .seq c52_46 c52_47
theorem n52_45 : Run Cx 52 T ds ro (.code c52_45 :: k) H Q = Run Cx 52 T ds ro (.code c52_46 :: .code c52_47 :: k) H Q := run_seq
def c52_37 : AC := .seq c52_38 c52_45
theorem n52_37 : Run Cx 52 T ds ro (.code c52_37 :: k) H Q = Run Cx 52 T ds ro (.code c52_38 :: .code c52_45 :: k) H Q := run_seq
def c52_4 : AC := .seq c52_5 c52_37
theorem n52_4 : Run Cx 52 T ds ro (.code c52_4 :: k) H Q = Run Cx 52 T ds ro (.code c52_5 :: .code c52_37 :: k) H Q := run_seq
def c52_2 : AC := .seq c52_3 c52_4
theorem n52_2 : Run Cx 52 T ds ro (.code c52_2 :: k) H Q = Run Cx 52 T ds ro (.code c52_3 :: .code c52_4 :: k) H Q := run_seq
def c52_0 : AC := .seq c52_1 c52_2
theorem n52_0 : Run Cx 52 T ds ro (.code c52_0 :: k) H Q = Run Cx 52 T ds ro (.code c52_1 :: .code c52_2 :: k) H Q := run_seq
theorem body52 : bodyOf Cx 52 = some c52_0 := by kernel_rfl
theorem res52 : resOf Cx 52 = some [.tmp 4, .tmp 5] := by kernel_rfl
theorem pure52 : Cx.pure 52 = true := by kernel_rfl
-- RULES 52: n52_0, n52_1, n52_2, n52_3, n52_4, n52_5, n52_6, n52_7, n52_8, n52_9, n52_10, n52_11, n52_12, n52_13, n52_14, n52_15, n52_16, n52_17, n52_18, n52_19, n52_20, n52_21, n52_22, n52_23, n52_24, n52_25, n52_26, n52_27, n52_28, n52_29, n52_30, n52_31, n52_32, n52_33, n52_34, n52_35, n52_36, n52_37, n52_38, n52_39, n52_40, n52_41, n52_42, n52_43, n52_44, n52_45, n52_46, n52_47
def o53_1 : List AO := [{ dst := (some 4), op := .assign (.const (.int .i64 0)), ty := 3, guard := none },
  { dst := (some 5), op := .assign (.const (.int .i64 0)), ty := 3, guard := none },
  { dst := (some 6), op := .assign (.const (.int .i64 0)), ty := 34, guard := none }]
def c53_1 : AC := .region o53_1 []
theorem n53_1 : Run Cx 53 T ds ro (.code c53_1 :: k) H Q = RunOps Cx 53 T ds ro o53_1 k H Q := run_region
def o53_4 : List AO := [{ dst := (some 7), op := .assign (.const (.int .i64 0)), ty := 3, guard := none },
  { dst := (some 8), op := .assign (.const (.int .i64 1)), ty := 3, guard := none }]
def c53_4 : AC := .region o53_4 []
theorem n53_4 : Run Cx 53 T ds ro (.code c53_4 :: k) H Q = RunOps Cx 53 T ds ro o53_4 k H Q := run_region
def o53_7 : List AO := [{ dst := (some 10), op := .move (.tmp 1), ty := 3, guard := none },
  { dst := (some 11), op := .move (.tmp 0), ty := 9, guard := none },
  { dst := (some 12), op := .call { callee := (.builtin .len), args := #[(.tmp 11)], argTypes := #[9] }, ty := 3, guard := none },
  { dst := (some 13), op := .binOp .lss 3 (.tmp 10) (.tmp 12) 3, ty := 4, guard := none },
  { dst := (some 14), op := .move (.tmp 13), ty := 4, guard := none },
  { dst := (some 15), op := .move (.tmp 0), ty := 9, guard := (some (14, true)) },
  { dst := (some 16), op := .move (.tmp 1), ty := 3, guard := (some (14, true)) },
  { dst := (some 17), op := .index 9 (.tmp 15) (.tmp 16), ty := 5, guard := (some (14, true)) },
  { dst := (some 18), op := .binOp .eql 5 (.tmp 17) (.const (.int .u8 45)) 5, ty := 4, guard := (some (14, true)) },
  { dst := (some 19), op := .pick (.tmp 14) (.tmp 18) (.const (.bool false)), ty := 4, guard := none }]
def c53_7 : AC := .region o53_7 []
theorem n53_7 : Run Cx 53 T ds ro (.code c53_7 :: k) H Q = RunOps Cx 53 T ds ro o53_7 k H Q := run_region
def o53_9 : List AO := [{ dst := (some 20), op := .move (.tmp 1), ty := 3, guard := none },
  { dst := (some 21), op := .binOp .add 3 (.tmp 20) (.const (.int .i64 1)) 3, ty := 3, guard := none },
  { dst := (some 8), op := .assign (.const (.int .i64 (-1))), ty := 3, guard := none },
  { dst := (some 1), op := .assign (.tmp 21), ty := 3, guard := none }]
def c53_9 : AC := .region o53_9 []
theorem n53_9 : Run Cx 53 T ds ro (.code c53_9 :: k) H Q = RunOps Cx 53 T ds ro o53_9 k H Q := run_region
def c53_10 : AC := .skip
theorem n53_10 : Run Cx 53 T ds ro (.code c53_10 :: k) H Q = Run Cx 53 T ds ro (k) H Q := run_skip
def c53_8 : AC := .cond (.tmp 19) c53_9 c53_10
theorem n53_8 : Run Cx 53 T ds ro (.code c53_8 :: k) H Q = RunCond Cx 53 T ds ro (.tmp 19) (ev T (.tmp 19)) c53_9 c53_10 k H Q := run_condC
def c53_6 : AC := .seq c53_7 c53_8
theorem n53_6 : Run Cx 53 T ds ro (.code c53_6 :: k) H Q = Run Cx 53 T ds ro (.code c53_7 :: .code c53_8 :: k) H Q := run_seq
def o53_12 : List AO := [{ dst := (some 22), op := .move (.tmp 1), ty := 3, guard := none },
  { dst := (some 9), op := .assign (.tmp 22), ty := 3, guard := none }]
def c53_12 : AC := .region o53_12 []
theorem n53_12 : Run Cx 53 T ds ro (.code c53_12 :: k) H Q = RunOps Cx 53 T ds ro o53_12 k H Q := run_region
def o53_16 : List AO := [{ dst := (some 24), op := .move (.tmp 1), ty := 3, guard := none },
  { dst := (some 25), op := .move (.tmp 0), ty := 9, guard := none },
  { dst := (some 26), op := .call { callee := (.builtin .len), args := #[(.tmp 25)], argTypes := #[9] }, ty := 3, guard := none },
  { dst := (some 27), op := .binOp .geq 3 (.tmp 24) (.tmp 26) 3, ty := 4, guard := none },
  { dst := (some 23), op := .assign (.tmp 27), ty := 4, guard := none }]
def c53_16 : AC := .region o53_16 []
theorem n53_16 : Run Cx 53 T ds ro (.code c53_16 :: k) H Q = RunOps Cx 53 T ds ro o53_16 k H Q := run_region
def o53_19 : List AO := [{ dst := (some 4), op := .assign (.const (.int .i64 0)), ty := 3, guard := none },
  { dst := (some 5), op := .assign (.const (.int .i64 0)), ty := 3, guard := none },
  { dst := (some 6), op := .assign (.const (.int .i64 2)), ty := 34, guard := none }]
def c53_19 : AC := .region o53_19 []
theorem n53_19 : Run Cx 53 T ds ro (.code c53_19 :: k) H Q = RunOps Cx 53 T ds ro o53_19 k H Q := run_region
def c53_20 : AC := .ret
theorem n53_20 : Run Cx 53 T [] none (.code c53_20 :: k) H Q = RunRes Cx T H Q (resOf Cx 53) := run_ret
def c53_18 : AC := .seq c53_19 c53_20
theorem n53_18 : Run Cx 53 T ds ro (.code c53_18 :: k) H Q = Run Cx 53 T ds ro (.code c53_19 :: .code c53_20 :: k) H Q := run_seq
def o53_22 : List AO := [{ dst := (some 29), op := .move (.tmp 0), ty := 9, guard := none },
  { dst := (some 30), op := .move (.tmp 1), ty := 3, guard := none },
  { dst := (some 31), op := .index 9 (.tmp 29) (.tmp 30), ty := 5, guard := none },
  { dst := (some 32), op := .call { callee := (.value (.func 42)), args := #[(.tmp 31)], argTypes := #[5] }, ty := 4, guard := none },
  { dst := (some 33), op := .unOp .not 4 (.tmp 32), ty := 4, guard := none },
  { dst := (some 28), op := .assign (.tmp 33), ty := 4, guard := none }]
def c53_22 : AC := .region o53_22 []
theorem n53_22 : Run Cx 53 T ds ro (.code c53_22 :: k) H Q = RunOps Cx 53 T ds ro o53_22 k H Q := run_region
def o53_25 : List AO := [{ dst := (some 4), op := .assign (.const (.int .i64 0)), ty := 3, guard := none },
  { dst := (some 5), op := .assign (.const (.int .i64 0)), ty := 3, guard := none },
  { dst := (some 6), op := .assign (.const (.int .i64 6)), ty := 34, guard := none }]
def c53_25 : AC := .region o53_25 []
theorem n53_25 : Run Cx 53 T ds ro (.code c53_25 :: k) H Q = RunOps Cx 53 T ds ro o53_25 k H Q := run_region
def c53_26 : AC := .ret
theorem n53_26 : Run Cx 53 T [] none (.code c53_26 :: k) H Q = RunRes Cx T H Q (resOf Cx 53) := run_ret
def c53_24 : AC := .seq c53_25 c53_26
theorem n53_24 : Run Cx 53 T ds ro (.code c53_24 :: k) H Q = Run Cx 53 T ds ro (.code c53_25 :: .code c53_26 :: k) H Q := run_seq
def c53_27 : AC := .skip
theorem n53_27 : Run Cx 53 T ds ro (.code c53_27 :: k) H Q = Run Cx 53 T ds ro (k) H Q := run_skip
def c53_23 : AC := .cond (.tmp 28) c53_24 c53_27
theorem n53_23 : Run Cx 53 T ds ro (.code c53_23 :: k) H Q = RunCond Cx 53 T ds ro (.tmp 28) (ev T (.tmp 28)) c53_24 c53_27 k H Q := run_condC
def c53_21 : AC := .seq c53_22 c53_23
theorem n53_21 : Run Cx 53 T ds ro (.code c53_21 :: k) H Q = Run Cx 53 T ds ro (.code c53_22 :: .code c53_23 :: k) H Q := run_seq
def c53_17 : AC := .cond (.tmp 23) c53_18 c53_21
theorem n53_17 : Run Cx 53 T ds ro (.code c53_17 :: k) H Q = RunCond Cx 53 T ds ro (.tmp 23) (ev T (.tmp 23)) c53_18 c53_21 k H Q := run_condC
def c53_15 : AC := .seq c53_16 c53_17
theorem n53_15 : Run Cx 53 T ds ro (.code c53_15 :: k) H Q = Run Cx 53 T ds ro (.code c53_16 :: .code c53_17 :: k) H Q := run_seq
def c53_14 : AC := .block 0 c53_15
theorem n53_14 : Run Cx 53 T ds ro (.code c53_14 :: k) H Q = Run Cx 53 T ds ro (.code c53_15 :: .inBlock 0 :: k) H Q := run_block
def c53_29 : AC := .label 0
theorem n53_29 : Run Cx 53 T ds ro (.code c53_29 :: k) H Q = Run Cx 53 T ds ro (k) H Q := run_label
def o53_32 : List AO := [{ dst := (some 34), op := .move (.tmp 1), ty := 3, guard := none },
  { dst := (some 35), op := .move (.tmp 0), ty := 9, guard := none },
  { dst := (some 36), op := .call { callee := (.builtin .len), args := #[(.tmp 35)], argTypes := #[9] }, ty := 3, guard := none },
  { dst := (some 37), op := .binOp .lss 3 (.tmp 34) (.tmp 36) 3, ty := 4, guard := none },
  { dst := (some 38), op := .move (.tmp 37), ty := 4, guard := none },
  { dst := (some 39), op := .move (.tmp 0), ty := 9, guard := (some (38, true)) },
  { dst := (some 40), op := .move (.tmp 1), ty := 3, guard := (some (38, true)) },
  { dst := (some 41), op := .index 9 (.tmp 39) (.tmp 40), ty := 5, guard := (some (38, true)) },
  { dst := (some 42), op := .call { callee := (.value (.func 42)), args := #[(.tmp 41)], argTypes := #[5] }, ty := 4, guard := (some (38, true)) },
  { dst := (some 43), op := .pick (.tmp 38) (.tmp 42) (.const (.bool false)), ty := 4, guard := none }]
def c53_32 : AC := .region o53_32 []
theorem n53_32 : Run Cx 53 T ds ro (.code c53_32 :: k) H Q = RunOps Cx 53 T ds ro o53_32 k H Q := run_region
def o53_35 : List AO := [{ dst := (some 44), op := .move (.tmp 7), ty := 3, guard := none },
  { dst := (some 45), op := .binOp .mul 3 (.const (.int .i64 10)) (.tmp 44) 3, ty := 3, guard := none },
  { dst := (some 46), op := .move (.tmp 0), ty := 9, guard := none },
  { dst := (some 47), op := .move (.tmp 1), ty := 3, guard := none },
  { dst := (some 48), op := .index 9 (.tmp 46) (.tmp 47), ty := 5, guard := none },
  { dst := (some 49), op := .binOp .sub 5 (.tmp 48) (.const (.int .u8 48)) 5, ty := 5, guard := none },
  { dst := (some 50), op := .convert 5 3 (.tmp 49), ty := 3, guard := none },
  { dst := (some 51), op := .binOp .add 3 (.tmp 45) (.tmp 50) 3, ty := 3, guard := none },
  { dst := (some 52), op := .call { callee := (.builtin .min), args := #[(.tmp 51), (.const (.int .i64 18014398509481984))], argTypes := #[3, 3] }, ty := 3, guard := none },
  { dst := (some 7), op := .assign (.tmp 52), ty := 3, guard := none }]
def c53_35 : AC := .region o53_35 []
theorem n53_35 : Run Cx 53 T ds ro (.code c53_35 :: k) H Q = RunOps Cx 53 T ds ro o53_35 k H Q := run_region
def o53_37 : List AO := [{ dst := (some 53), op := .move (.tmp 1), ty := 3, guard := none },
  { dst := (some 54), op := .binOp .add 3 (.tmp 53) (.const (.int .i64 1)) 3, ty := 3, guard := none },
  { dst := (some 1), op := .assign (.tmp 54), ty := 3, guard := none }]
def c53_37 : AC := .region o53_37 []
theorem n53_37 : Run Cx 53 T ds ro (.code c53_37 :: k) H Q = RunOps Cx 53 T ds ro o53_37 k H Q := run_region
def c53_38 : AC := .goto 0
def c53_36 : AC := .seq c53_37 c53_38
theorem n53_36 : Run Cx 53 T ds ro (.code c53_36 :: k) H Q = Run Cx 53 T ds ro (.code c53_37 :: .code c53_38 :: k) H Q := run_seq
def c53_34 : AC := .seq c53_35 c53_36
theorem n53_34 : Run Cx 53 T ds ro (.code c53_34 :: k) H Q = Run Cx 53 T ds ro (.code c53_35 :: .code c53_36 :: k) H Q := run_seq
def c53_39 : AC := .skip
theorem n53_39 : Run Cx 53 T ds ro (.code c53_39 :: k) H Q = Run Cx 53 T ds ro (k) H Q := run_skip
def c53_33 : AC := .cond (.tmp 43) c53_34 c53_39
theorem n53_33 : Run Cx 53 T ds ro (.code c53_33 :: k) H Q = RunCond Cx 53 T ds ro (.tmp 43) (ev T (.tmp 43)) c53_34 c53_39 k H Q := run_condC
def c53_31 : AC := .seq c53_32 c53_33
theorem n53_31 : Run Cx 53 T ds ro (.code c53_31 :: k) H Q = Run Cx 53 T ds ro (.code c53_32 :: .code c53_33 :: k) H Q := run_seq
def o53_42 : List AO := [{ dst := (some 55), op := .move (.tmp 0), ty := 9, guard := none },
  { dst := (some 56), op := .move (.tmp 9), ty := 3, guard := none },
  { dst := (some 57), op := .index 9 (.tmp 55) (.tmp 56), ty := 5, guard := none },
  { dst := (some 58), op := .binOp .eql 5 (.tmp 57) (.const (.int .u8 48)) 5, ty := 4, guard := none },
  { dst := (some 59), op := .move (.tmp 58), ty := 4, guard := none },
  { dst := (some 60), op := .move (.tmp 1), ty := 3, guard := (some (59, true)) },
  { dst := (some 61), op := .move (.tmp 9), ty := 3, guard := (some (59, true)) },
  { dst := (some 62), op := .binOp .add 3 (.tmp 61) (.const (.int .i64 1)) 3, ty := 3, guard := (some (59, true)) },
  { dst := (some 63), op := .binOp .gtr 3 (.tmp 60) (.tmp 62) 3, ty := 4, guard := (some (59, true)) },
  { dst := (some 64), op := .move (.tmp 63), ty := 4, guard := (some (59, true)) },
  { dst := (some 65), op := .move (.tmp 8), ty := 3, guard := (some (64, false)) },
  { dst := (some 66), op := .binOp .lss 3 (.tmp 65) (.const (.int .i64 0)) 3, ty := 4, guard := (some (64, false)) },
  { dst := (some 67), op := .pick (.tmp 64) (.const (.bool true)) (.tmp 66), ty := 4, guard := (some (59, true)) },
  { dst := (some 68), op := .pick (.tmp 59) (.tmp 67) (.const (.bool false)), ty := 4, guard := none }]
def c53_42 : AC := .region o53_42 []
theorem n53_42 : Run Cx 53 T ds ro (.code c53_42 :: k) H Q = RunOps Cx 53 T ds ro o53_42 k H Q := run_region
def o53_45 : List AO := [{ dst := (some 4), op := .assign (.const (.int .i64 0)), ty := 3, guard := none },
  { dst := (some 5), op := .assign (.const (.int .i64 0)), ty := 3, guard := none },
  { dst := (some 6), op := .assign (.const (.int .i64 6)), ty := 34, guard := none }]
def c53_45 : AC := .region o53_45 []
theorem n53_45 : Run Cx 53 T ds ro (.code c53_45 :: k) H Q = RunOps Cx 53 T ds ro o53_45 k H Q := run_region
def c53_46 : AC := .ret
theorem n53_46 : Run Cx 53 T [] none (.code c53_46 :: k) H Q = RunRes Cx T H Q (resOf Cx 53) := run_ret
def c53_44 : AC := .seq c53_45 c53_46
theorem n53_44 : Run Cx 53 T ds ro (.code c53_44 :: k) H Q = Run Cx 53 T ds ro (.code c53_45 :: .code c53_46 :: k) H Q := run_seq
def c53_47 : AC := .skip
theorem n53_47 : Run Cx 53 T ds ro (.code c53_47 :: k) H Q = Run Cx 53 T ds ro (k) H Q := run_skip
def c53_43 : AC := .cond (.tmp 68) c53_44 c53_47
theorem n53_43 : Run Cx 53 T ds ro (.code c53_43 :: k) H Q = RunCond Cx 53 T ds ro (.tmp 68) (ev T (.tmp 68)) c53_44 c53_47 k H Q := run_condC
def c53_41 : AC := .seq c53_42 c53_43
theorem n53_41 : Run Cx 53 T ds ro (.code c53_41 :: k) H Q = Run Cx 53 T ds ro (.code c53_42 :: .code c53_43 :: k) H Q := run_seq
def o53_49 : List AO := [{ dst := (some 69), op := .move (.tmp 8), ty := 3, guard := none },
  { dst := (some 70), op := .move (.tmp 7), ty := 3, guard := none },
  { dst := (some 71), op := .binOp .mul 3 (.tmp 69) (.tmp 70) 3, ty := 3, guard := none },
  { dst := (some 72), op := .move (.tmp 1), ty := 3, guard := none },
  { dst := (some 4), op := .assign (.tmp 71), ty := 3, guard := none },
  { dst := (some 5), op := .assign (.tmp 72), ty := 3, guard := none },
  { dst := (some 6), op := .assign (.const (.int .i64 0)), ty := 34, guard := none }]
def c53_49 : AC := .region o53_49 []
theorem n53_49 : Run Cx 53 T ds ro (.code c53_49 :: k) H Q = RunOps Cx 53 T ds ro o53_49 k H Q := run_region
def c53_50 : AC := .ret
theorem n53_50 : Run Cx 53 T [] none (.code c53_50 :: k) H Q = RunRes Cx T H Q (resOf Cx 53) := run_ret
def c53_48 : AC := .seq c53_49 c53_50
theorem n53_48 : Run Cx 53 T ds ro (.code c53_48 :: k) H Q = Run Cx 53 T ds ro (.code c53_49 :: .code c53_50 :: k) H Q := run_seq
def c53_40 : AC := .seq c53_41 c53_48
theorem n53_40 : Run Cx 53 T ds ro (.code c53_40 :: k) H Q = Run Cx 53 T ds ro (.code c53_41 :: .code c53_48 :: k) H Q := run_seq
def c53_30 : AC := .seq c53_31 c53_40
theorem n53_30 : Run Cx 53 T ds ro (.code c53_30 :: k) H Q = Run Cx 53 T ds ro (.code c53_31 :: .code c53_40 :: k) H Q := run_seq
def c53_28 : AC := .seq c53_29 c53_30
theorem n53_28 : Run Cx 53 T ds ro (.code c53_28 :: k) H Q = Run Cx 53 T ds ro (.code c53_29 :: .code c53_30 :: k) H Q := run_seq
def c53_13 : AC := .seq c53_14 c53_28
theorem n53_13 : Run Cx 53 T ds ro (.code c53_13 :: k) H Q = Run Cx 53 T ds ro (.code c53_14 :: .code c53_28 :: k) H Q := run_seq
def c53_11 : AC := .seq c53_12 c53_13
theorem n53_11 : Run Cx 53 T ds ro (.code c53_11 :: k) H Q = Run Cx 53 T ds ro (.code c53_12 :: .code c53_13 :: k) H Q := run_seq
def c53_5 : AC := .seq c53_6 c53_11
theorem n53_5 : Run Cx 53 T ds ro (.code c53_5 :: k) H Q = Run Cx 53 T ds ro (.code c53_6 :: .code c53_11 :: k) H Q := run_seq
def c53_3 : AC := .seq c53_4 c53_5
theorem n53_3 : Run Cx 53 T ds ro (.code c53_3 :: k) H Q = Run Cx 53 T ds ro (.code c53_4 :: .code c53_5 :: k) H Q := run_seq
def c53_2 : AC := .scope c53_3
theorem n53_2 : Run Cx 53 T ds ro (.code c53_2 :: k) H Q = Run Cx 53 T ds ro (.code c53_3 :: .inScope c53_3 :: k) H Q := run_scope
def c53_0 : AC := .seq c53_1 c53_2
theorem n53_0 : Run Cx 53 T ds ro (.code c53_0 :: k) H Q = Run Cx 53 T ds ro (.code c53_1 :: .code c53_2 :: k) H Q := run_seq
theorem body53 : bodyOf Cx 53 = some c53_0 := by kernel_rfl
theorem res53 : resOf Cx 53 = some [.tmp 4, .tmp 5, .tmp 6] := by kernel_rfl
theorem pure53 : Cx.pure 53 = true := by kernel_rfl
-- RULES 53: n53_0, n53_1, n53_2, n53_3, n53_4, n53_5, n53_6, n53_7, n53_8, n53_9, n53_10, n53_11, n53_12, n53_13, n53_14, n53_15, n53_16, n53_17, n53_18, n53_19, n53_20, n53_21, n53_22, n53_23, n53_24, n53_25, n53_26, n53_27, n53_28, n53_29, n53_30, n53_31, n53_32, n53_33, n53_34, n53_35, n53_36, n53_37, n53_38, n53_39, n53_40, n53_41, n53_42, n53_43, n53_44, n53_45, n53_46, n53_47, n53_48, n53_49, n53_50
def o56_1 : List AO := [{ dst := (some 4), op := .assign (.const (.int .i64 0)), ty := 3, guard := none }]
def c56_1 : AC := .region o56_1 []
theorem n56_1 : Run Cx 56 T ds ro (.code c56_1 :: k) H Q = RunOps Cx 56 T ds ro o56_1 k H Q := run_region
def o56_3 : List AO := [{ dst := (some 5), op := .move (.tmp 0), ty := 9, guard := none },
  { dst := (some 6), op := .move (.tmp 1), ty := 5, guard := none },
  { dst := (some 7), op := .call { callee := (.value (.func 58)), args := #[(.tmp 5), (.tmp 6)], argTypes := #[9, 5] }, ty := 3, guard := none },
  { dst := (some 4), op := .assign (.tmp 7), ty := 3, guard := none }]
def c56_3 : AC := .region o56_3 []
theorem n56_3 : Run Cx 56 T ds ro (.code c56_3 :: k) H Q = RunOps Cx 56 T ds ro o56_3 k H Q := run_region
def c56_4 : AC := .ret
theorem n56_4 : Run Cx 56 T [] none (.code c56_4 :: k) H Q = RunRes Cx T H Q (resOf Cx 56) := run_ret
def c56_2 : AC := .seq c56_3 c56_4
theorem n56_2 : Run Cx 56 T ds ro (.code c56_2 :: k) H Q = Run Cx 56 T ds ro (.code c56_3 :: .code c56_4 :: k) H Q := run_seq
def c56_0 : AC := .seq c56_1 c56_2
theorem n56_0 : Run Cx 56 T ds ro (.code c56_0 :: k) H Q = Run Cx 56 T ds ro (.code c56_1 :: .code c56_2 :: k) H Q := run_seq
theorem body56 : bodyOf Cx 56 = some c56_0 := by kernel_rfl
theorem res56 : resOf Cx 56 = some [.tmp 4] := by kernel_rfl
theorem pure56 : Cx.pure 56 = true := by kernel_rfl
-- RULES 56: n56_0, n56_1, n56_2, n56_3, n56_4
def o58_1 : List AO := [{ dst := (some 4), op := .assign (.const (.int .i64 0)), ty := 3, guard := none }]
def c58_1 : AC := .region o58_1 []
theorem n58_1 : Run Cx 58 T ds ro (.code c58_1 :: k) H Q = RunOps Cx 58 T ds ro o58_1 k H Q := run_region
def o58_3 : List AO := [{ dst := (some 5), op := .move (.tmp 0), ty := 9, guard := none },
  { dst := (some 6), op := .move (.tmp 1), ty := 5, guard := none },
  { dst := (some 7), op := .call { callee := (.value (.func 59)), args := #[(.tmp 5), (.tmp 6)], argTypes := #[9, 5] }, ty := 3, guard := none },
  { dst := (some 4), op := .assign (.tmp 7), ty := 3, guard := none }]
def c58_3 : AC := .region o58_3 []
theorem n58_3 : Run Cx 58 T ds ro (.code c58_3 :: k) H Q = RunOps Cx 58 T ds ro o58_3 k H Q := run_region
def c58_4 : AC := .ret
theorem n58_4 : Run Cx 58 T [] none (.code c58_4 :: k) H Q = RunRes Cx T H Q (resOf Cx 58) := run_ret
def c58_2 : AC := .seq c58_3 c58_4
theorem n58_2 : Run Cx 58 T ds ro (.code c58_2 :: k) H Q = Run Cx 58 T ds ro (.code c58_3 :: .code c58_4 :: k) H Q := run_seq
def c58_0 : AC := .seq c58_1 c58_2
theorem n58_0 : Run Cx 58 T ds ro (.code c58_0 :: k) H Q = Run Cx 58 T ds ro (.code c58_1 :: .code c58_2 :: k) H Q := run_seq
theorem body58 : bodyOf Cx 58 = some c58_0 := by kernel_rfl
theorem res58 : resOf Cx 58 = some [.tmp 4] := by kernel_rfl
theorem pure58 : Cx.pure 58 = true := by kernel_rfl
-- RULES 58: n58_0, n58_1, n58_2, n58_3, n58_4
end
end Go.Proofs.Ytkcanidmdjfclaa.G
