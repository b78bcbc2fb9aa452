import Derived.Test.YtbfjkomlnpolmaaG0
namespace Go.Proofs.Ytbfjkomlnpolmaa.G
open Go.BX
section
variable {T : Nat → AV} {ds : List ADef} {ro : Option Nat} {k : List AItem} {H : AHeap} {Q : AV → AHeap → Prop}
def o3_1 : List AO := [{ dst := (some 4), op := .assign (.const (.bool false)), ty := 4, guard := none }]
def c3_1 : AC := .region o3_1 []
theorem n3_1 : Run Cx 3 T ds ro (.code c3_1 :: k) H Q = RunOps Cx 3 T ds ro o3_1 k H Q := run_region
def o3_4 : List AO := [{ dst := (some 11), op := .call { callee := (.value (.func 7)), args := #[], argTypes := #[] }, ty := 4, guard := none },
  { dst := (some 12), op := .unOp .not 4 (.tmp 11), ty := 4, guard := none },
  { dst := (some 13), op := .move (.tmp 12), ty := 4, guard := none },
  { dst := (some 14), op := .move (.tmp 0), ty := 22, guard := (some (13, false)) },
  { dst := (some 15), op := .call { callee := (.value (.func 8)), args := #[(.tmp 14)], argTypes := #[22] }, ty := 3, guard := (some (13, false)) },
  { dst := (some 16), op := .binOp .eql 3 (.tmp 15) (.const (.int .i64 0)) 3, ty := 4, guard := (some (13, false)) },
  { dst := (some 17), op := .pick (.tmp 13) (.const (.bool true)) (.tmp 16), ty := 4, guard := none },
  { dst := (some 18), op := .move (.tmp 17), ty := 4, guard := none },
  { dst := (some 19), op := .move (.tmp 0), ty := 22, guard := (some (18, false)) },
  { dst := (some 20), op := .call { callee := (.value (.func 9)), args := #[(.tmp 19)], argTypes := #[22] }, ty := 4, guard := (some (18, false)) },
  { dst := (some 21), op := .unOp .not 4 (.tmp 20), ty := 4, guard := (some (18, false)) },
  { dst := (some 22), op := .pick (.tmp 18) (.const (.bool true)) (.tmp 21), ty := 4, guard := none }]
def c3_4 : AC := .region o3_4 []
theorem n3_4 : Run Cx 3 T ds ro (.code c3_4 :: k) H Q = RunOps Cx 3 T ds ro o3_4 k H Q := run_region
def o3_7 : List AO := [{ dst := (some 23), op := .call { callee := (.value (.func 7)), args := #[], argTypes := #[] }, ty := 4, guard := none },
  { dst := (some 4), op := .assign (.tmp 23), ty := 4, guard := none }]
def c3_7 : AC := .region o3_7 []
theorem n3_7 : Run Cx 3 T ds ro (.code c3_7 :: k) H Q = RunOps Cx 3 T ds ro o3_7 k H Q := run_region
def c3_8 : AC := .ret
theorem n3_8 : Run Cx 3 T [] none (.code c3_8 :: k) H Q = RunRes Cx T H Q (resOf Cx 3) := run_ret
def c3_6 : AC := .seq c3_7 c3_8
theorem n3_6 : Run Cx 3 T ds ro (.code c3_6 :: k) H Q = Run Cx 3 T ds ro (.code c3_7 :: .code c3_8 :: k) H Q := run_seq
def c3_9 : AC := .skip
theorem n3_9 : Run Cx 3 T ds ro (.code c3_9 :: k) H Q = Run Cx 3 T ds ro (k) H Q := run_skip
def c3_5 : AC := .cond (.tmp 22) c3_6 c3_9
theorem n3_5 : Run Cx 3 T ds ro (.code c3_5 :: k) H Q = RunCond Cx 3 T ds ro (.tmp 22) (ev T (.tmp 22)) c3_6 c3_9 k H Q := run_condC
def c3_3 : AC := .seq c3_4 c3_5
theorem n3_3 : Run Cx 3 T ds ro (.code c3_3 :: k) H Q = Run Cx 3 T ds ro (.code c3_4 :: .code c3_5 :: k) H Q := run_seq
def o3_11 : List AO := [{ dst := (some 24), op := .move (.tmp 1), ty := 5, guard := none },
  { dst := (some 25), op := .convert 5 3 (.tmp 24), ty := 3, guard := none },
  { dst := (some 26), op := .binOp .add 3 (.const (.int .i64 1)) (.tmp 25) 3, ty := 3, guard := none },
  { dst := (some 5), op := .assign (.tmp 26), ty := 3, guard := none }]
def c3_11 : AC := .region o3_11 []
theorem n3_11 : Run Cx 3 T ds ro (.code c3_11 :: k) H Q = RunOps Cx 3 T ds ro o3_11 k H Q := run_region
def o3_13 : List AO := [{ dst := (some 28), op := .move (.tmp 0), ty := 22, guard := none },
  { dst := (some 29), op := .move (.tmp 5), ty := 3, guard := none },
  { dst := (some 30), op := .call { callee := (.value (.func 10)), args := #[(.tmp 28), (.tmp 29)], argTypes := #[22, 3] }, ty := 27, guard := none },
  { dst := (some 27), op := .move (.tmp 30), ty := 27, guard := none },
  { dst := (some 31), op := .extract (.tmp 27) 0, ty := 26, guard := none },
  { dst := (some 32), op := .extract (.tmp 27) 1, ty := 4, guard := none },
  { dst := (some 6), op := .assign (.tmp 31), ty := 26, guard := none },
  { dst := (some 7), op := .assign (.tmp 32), ty := 4, guard := none }]
def c3_13 : AC := .region o3_13 []
theorem n3_13 : Run Cx 3 T ds ro (.code c3_13 :: k) H Q = RunOps Cx 3 T ds ro o3_13 k H Q := run_region
def o3_16 : List AO := [{ dst := (some 33), op := .move (.tmp 7), ty := 4, guard := none },
  { dst := (some 34), op := .unOp .not 4 (.tmp 33), ty := 4, guard := none }]
def c3_16 : AC := .region o3_16 []
theorem n3_16 : Run Cx 3 T ds ro (.code c3_16 :: k) H Q = RunOps Cx 3 T ds ro o3_16 k H Q := run_region
def o3_19 : List AO := [{ dst := (some 4), op := .assign (.const (.bool false)), ty := 4, guard := none }]
def c3_19 : AC := .region o3_19 []
theorem n3_19 : Run Cx 3 T ds ro (.code c3_19 :: k) H Q = RunOps Cx 3 T ds ro o3_19 k H Q := run_region
def c3_20 : AC := .ret
theorem n3_20 : Run Cx 3 T [] none (.code c3_20 :: k) H Q = RunRes Cx T H Q (resOf Cx 3) := run_ret
def c3_18 : AC := .seq c3_19 c3_20
theorem n3_18 : Run Cx 3 T ds ro (.code c3_18 :: k) H Q = Run Cx 3 T ds ro (.code c3_19 :: .code c3_20 :: k) H Q := run_seq
def c3_21 : AC := .skip
theorem n3_21 : Run Cx 3 T ds ro (.code c3_21 :: k) H Q = Run Cx 3 T ds ro (k) H Q := run_skip
def c3_17 : AC := .cond (.tmp 34) c3_18 c3_21
theorem n3_17 : Run Cx 3 T ds ro (.code c3_17 :: k) H Q = RunCond Cx 3 T ds ro (.tmp 34) (ev T (.tmp 34)) c3_18 c3_21 k H Q := run_condC
def c3_15 : AC := .seq c3_16 c3_17
theorem n3_15 : Run Cx 3 T ds ro (.code c3_15 :: k) H Q = Run Cx 3 T ds ro (.code c3_16 :: .code c3_17 :: k) H Q := run_seq
def o3_23 : List AO := [{ dst := (some 35), op := .move (.tmp 6), ty := 26, guard := none },
  { dst := (some 36), op := .call { callee := (.value (.func 11)), args := #[(.tmp 35)], argTypes := #[26] }, ty := 29, guard := none },
  { dst := (some 8), op := .assign (.tmp 36), ty := 29, guard := none }]
def c3_23 : AC := .region o3_23 []
theorem n3_23 : Run Cx 3 T ds ro (.code c3_23 :: k) H Q = RunOps Cx 3 T ds ro o3_23 k H Q := run_region
def o3_25 : List AO := [{ dst := (some 9), op := .assign (.const (.int .i64 0)), ty := 3, guard := none }]
def c3_25 : AC := .region o3_25 []
theorem n3_25 : Run Cx 3 T ds ro (.code c3_25 :: k) H Q = RunOps Cx 3 T ds ro o3_25 k H Q := run_region
def o3_28 : List AO := [{ dst := (some 10), op := .assign (.const (.int .i64 0)), ty := 3, guard := none }]
def c3_28 : AC := .region o3_28 []
theorem n3_28 : Run Cx 3 T ds ro (.code c3_28 :: k) H Q = RunOps Cx 3 T ds ro o3_28 k H Q := run_region
def o3_33 : List AO := [{ dst := (some 37), op := .move (.tmp 10), ty := 3, guard := none },
  { dst := (some 38), op := .move (.tmp 8), ty := 29, guard := none },
  { dst := (some 39), op := .call { callee := (.builtin .len), args := #[(.tmp 38)], argTypes := #[29] }, ty := 3, guard := none },
  { dst := (some 40), op := .binOp .lss 3 (.tmp 37) (.tmp 39) 3, ty := 4, guard := none }]
def c3_33 : AC := .region o3_33 []
theorem n3_33 : Run Cx 3 T ds ro (.code c3_33 :: k) H Q = RunOps Cx 3 T ds ro o3_33 k H Q := run_region
def c3_35 : AC := .skip
theorem n3_35 : Run Cx 3 T ds ro (.code c3_35 :: k) H Q = Run Cx 3 T ds ro (k) H Q := run_skip
def c3_36 : AC := .exit 0
theorem n3_36 : Run Cx 3 T ds ro (.code c3_36 :: k) H Q = RunExit Cx 3 T ds ro 0 k k H Q := run_exit_start
def c3_34 : AC := .cond (.tmp 40) c3_35 c3_36
theorem n3_34 : Run Cx 3 T ds ro (.code c3_34 :: k) H Q = RunCond Cx 3 T ds ro (.tmp 40) (ev T (.tmp 40)) c3_35 c3_36 k H Q := run_condC
def c3_32 : AC := .seq c3_33 c3_34
theorem n3_32 : Run Cx 3 T ds ro (.code c3_32 :: k) H Q = Run Cx 3 T ds ro (.code c3_33 :: .code c3_34 :: k) H Q := run_seq
def o3_41 : List AO := [{ dst := (some 43), op := .move (.tmp 8), ty := 29, guard := none },
  { dst := (some 44), op := .move (.tmp 10), ty := 3, guard := none },
  { dst := (some 45), op := .indexAddr 29 (.tmp 43) (.tmp 44), ty := 0, guard := none },
  { dst := (some 46), op := .load 22 (.tmp 45), ty := 22, guard := none },
  { dst := (some 47), op := .call { callee := (.value (.func 12)), args := #[(.tmp 46)], argTypes := #[22] }, ty := 4, guard := none },
  { dst := (some 48), op := .unOp .not 4 (.tmp 47), ty := 4, guard := none },
  { dst := (some 49), op := .move (.tmp 48), ty := 4, guard := none },
  { dst := (some 50), op := .move (.tmp 8), ty := 29, guard := (some (49, false)) },
  { dst := (some 51), op := .move (.tmp 10), ty := 3, guard := (some (49, false)) },
  { dst := (some 52), op := .indexAddr 29 (.tmp 50) (.tmp 51), ty := 0, guard := (some (49, false)) },
  { dst := (some 53), op := .load 22 (.tmp 52), ty := 22, guard := (some (49, false)) },
  { dst := (some 54), op := .call { callee := (.builtin .len), args := #[(.tmp 53)], argTypes := #[22] }, ty := 3, guard := (some (49, false)) },
  { dst := (some 55), op := .binOp .eql 3 (.tmp 54) (.const (.int .i64 0)) 3, ty := 4, guard := (some (49, false)) },
  { dst := (some 56), op := .pick (.tmp 49) (.const (.bool true)) (.tmp 55), ty := 4, guard := none },
  { dst := (some 57), op := .move (.tmp 56), ty := 4, guard := none },
  { dst := (some 58), op := .move (.tmp 8), ty := 29, guard := (some (57, false)) },
  { dst := (some 59), op := .move (.tmp 10), ty := 3, guard := (some (57, false)) },
  { dst := (some 60), op := .indexAddr 29 (.tmp 58) (.tmp 59), ty := 0, guard := (some (57, false)) },
  { dst := (some 61), op := .load 22 (.tmp 60), ty := 22, guard := (some (57, false)) },
  { dst := (some 62), op := .call { callee := (.builtin .len), args := #[(.tmp 61)], argTypes := #[22] }, ty := 3, guard := (some (57, false)) },
  { dst := (some 63), op := .move (.tmp 5), ty := 3, guard := (some (57, false)) },
  { dst := (some 64), op := .binOp .gtr 3 (.tmp 62) (.tmp 63) 3, ty := 4, guard := (some (57, false)) },
  { dst := (some 65), op := .pick (.tmp 57) (.const (.bool true)) (.tmp 64), ty := 4, guard := none },
  { dst := (some 66), op := .move (.tmp 65), ty := 4, guard := none },
  { dst := (some 67), op := .move (.tmp 10), ty := 3, guard := (some (66, false)) },
  { dst := (some 68), op := .move (.tmp 8), ty := 29, guard := (some (66, false)) },
  { dst := (some 69), op := .call { callee := (.builtin .len), args := #[(.tmp 68)], argTypes := #[29] }, ty := 3, guard := (some (66, false)) },
  { dst := (some 70), op := .binOp .sub 3 (.tmp 69) (.const (.int .i64 1)) 3, ty := 3, guard := (some (66, false)) },
  { dst := (some 71), op := .binOp .lss 3 (.tmp 67) (.tmp 70) 3, ty := 4, guard := (some (66, false)) },
  { dst := (some 72), op := .move (.tmp 71), ty := 4, guard := (some (66, false)) },
  { dst := (some 73), op := .move (.tmp 8), ty := 29, guard := (some (72, true)) },
  { dst := (some 74), op := .move (.tmp 10), ty := 3, guard := (some (72, true)) },
  { dst := (some 75), op := .indexAddr 29 (.tmp 73) (.tmp 74), ty := 0, guard := (some (72, true)) },
  { dst := (some 76), op := .load 22 (.tmp 75), ty := 22, guard := (some (72, true)) },
  { dst := (some 77), op := .call { callee := (.builtin .len), args := #[(.tmp 76)], argTypes := #[22] }, ty := 3, guard := (some (72, true)) },
  { dst := (some 78), op := .move (.tmp 5), ty := 3, guard := (some (72, true)) },
  { dst := (some 79), op := .binOp .neq 3 (.tmp 77) (.tmp 78) 3, ty := 4, guard := (some (72, true)) },
  { dst := (some 80), op := .pick (.tmp 72) (.tmp 79) (.const (.bool false)), ty := 4, guard := (some (66, false)) },
  { dst := (some 81), op := .pick (.tmp 66) (.const (.bool true)) (.tmp 80), ty := 4, guard := none }]
def c3_41 : AC := .region o3_41 []
theorem n3_41 : Run Cx 3 T ds ro (.code c3_41 :: k) H Q = RunOps Cx 3 T ds ro o3_41 k H Q := run_region
def o3_44 : List AO := [{ dst := (some 4), op := .assign (.const (.bool false)), ty := 4, guard := none }]
def c3_44 : AC := .region o3_44 []
theorem n3_44 : Run Cx 3 T ds ro (.code c3_44 :: k) H Q = RunOps Cx 3 T ds ro o3_44 k H Q := run_region
def c3_45 : AC := .ret
theorem n3_45 : Run Cx 3 T [] none (.code c3_45 :: k) H Q = RunRes Cx T H Q (resOf Cx 3) := run_ret
def c3_43 : AC := .seq c3_44 c3_45
theorem n3_43 : Run Cx 3 T ds ro (.code c3_43 :: k) H Q = Run Cx 3 T ds ro (.code c3_44 :: .code c3_45 :: k) H Q := run_seq
def c3_46 : AC := .skip
theorem n3_46 : Run Cx 3 T ds ro (.code c3_46 :: k) H Q = Run Cx 3 T ds ro (k) H Q := run_skip
def c3_42 : AC := .cond (.tmp 81) c3_43 c3_46
theorem n3_42 : Run Cx 3 T ds ro (.code c3_42 :: k) H Q = RunCond Cx 3 T ds ro (.tmp 81) (ev T (.tmp 81)) c3_43 c3_46 k H Q := run_condC
def c3_40 : AC := .seq c3_41 c3_42
theorem n3_40 : Run Cx 3 T ds ro (.code c3_40 :: k) H Q = Run Cx 3 T ds ro (.code c3_41 :: .code c3_42 :: k) H Q := run_seq
def o3_47 : List AO := [{ dst := (some 82), op := .move (.tmp 9), ty := 3, guard := none },
  { dst := (some 83), op := .move (.tmp 8), ty := 29, guard := none },
  { dst := (some 84), op := .move (.tmp 10), ty := 3, guard := none },
  { dst := (some 85), op := .indexAddr 29 (.tmp 83) (.tmp 84), ty := 0, guard := none },
  { dst := (some 86), op := .load 22 (.tmp 85), ty := 22, guard := none },
  { dst := (some 87), op := .call { callee := (.builtin .len), args := #[(.tmp 86)], argTypes := #[22] }, ty := 3, guard := none },
  { dst := (some 88), op := .binOp .add 3 (.tmp 82) (.tmp 87) 3, ty := 3, guard := none },
  { dst := (some 9), op := .assign (.tmp 88), ty := 3, guard := none }]
def c3_47 : AC := .region o3_47 []
theorem n3_47 : Run Cx 3 T ds ro (.code c3_47 :: k) H Q = RunOps Cx 3 T ds ro o3_47 k H Q := run_region
def c3_39 : AC := .seq c3_40 c3_47
theorem n3_39 : Run Cx 3 T ds ro (.code c3_39 :: k) H Q = Run Cx 3 T ds ro (.code c3_40 :: .code c3_47 :: k) H Q := run_seq
def c3_38 : AC := .block 1 c3_39
theorem n3_38 : Run Cx 3 T ds ro (.code c3_38 :: k) H Q = Run Cx 3 T ds ro (.code c3_39 :: .inBlock 1 :: k) H Q := run_block
def o3_48 : List AO := [{ dst := (some 41), op := .move (.tmp 10), ty := 3, guard := none },
  { dst := (some 42), op := .binOp .add 3 (.tmp 41) (.const (.int .i64 1)) 3, ty := 3, guard := none },
  { dst := (some 10), op := .assign (.tmp 42), ty := 3, guard := none }]
def c3_48 : AC := .region o3_48 []
theorem n3_48 : Run Cx 3 T ds ro (.code c3_48 :: k) H Q = RunOps Cx 3 T ds ro o3_48 k H Q := run_region
def c3_37 : AC := .seq c3_38 c3_48
theorem n3_37 : Run Cx 3 T ds ro (.code c3_37 :: k) H Q = Run Cx 3 T ds ro (.code c3_38 :: .code c3_48 :: k) H Q := run_seq
def c3_31 : AC := .seq c3_32 c3_37
theorem n3_31 : Run Cx 3 T ds ro (.code c3_31 :: k) H Q = Run Cx 3 T ds ro (.code c3_32 :: .code c3_37 :: k) H Q := run_seq
def c3_30 : AC := .loop c3_31
theorem n3_30 : Run Cx 3 T ds ro (.code c3_30 :: k) H Q = Run Cx 3 T ds ro (.inLoop c3_31 :: k) H Q := run_loop'
def c3_29 : AC := .block 0 c3_30
theorem n3_29 : Run Cx 3 T ds ro (.code c3_29 :: k) H Q = Run Cx 3 T ds ro (.code c3_30 :: .inBlock 0 :: k) H Q := run_block
def c3_27 : AC := .seq c3_28 c3_29
theorem n3_27 : Run Cx 3 T ds ro (.code c3_27 :: k) H Q = Run Cx 3 T ds ro (.code c3_28 :: .code c3_29 :: k) H Q := run_seq
def o3_50 : List AO := [{ dst := (some 89), op := .move (.tmp 9), ty := 3, guard := none },
  { dst := (some 90), op := .move (.tmp 0), ty := 22, guard := none },
  { dst := (some 91), op := .call { callee := (.builtin .len), args := #[(.tmp 90)], argTypes := #[22] }, ty := 3, guard := none },
  { dst := (some 92), op := .binOp .eql 3 (.tmp 89) (.tmp 91) 3, ty := 4, guard := none },
  { dst := (some 93), op := .move (.tmp 92), ty := 4, guard := none },
  { dst := (some 94), op := .move (.tmp 9), ty := 3, guard := (some (93, true)) },
  { dst := (some 95), op := .move (.tmp 6), ty := 26, guard := (some (93, true)) },
  { dst := (some 96), op := .call { callee := (.value (.func 13)), args := #[(.tmp 95)], argTypes := #[26] }, ty := 3, guard := (some (93, true)) },
  { dst := (some 97), op := .binOp .eql 3 (.tmp 94) (.tmp 96) 3, ty := 4, guard := (some (93, true)) },
  { dst := (some 98), op := .pick (.tmp 93) (.tmp 97) (.const (.bool false)), ty := 4, guard := none },
  { dst := (some 4), op := .assign (.tmp 98), ty := 4, guard := none }]
def c3_50 : AC := .region o3_50 []
theorem n3_50 : Run Cx 3 T ds ro (.code c3_50 :: k) H Q = RunOps Cx 3 T ds ro o3_50 k H Q := run_region
def c3_51 : AC := .ret
theorem n3_51 : Run Cx 3 T [] none (.code c3_51 :: k) H Q = RunRes Cx T H Q (resOf Cx 3) := run_ret
def c3_49 : AC := .seq c3_50 c3_51
theorem n3_49 : Run Cx 3 T ds ro (.code c3_49 :: k) H Q = Run Cx 3 T ds ro (.code c3_50 :: .code c3_51 :: k) H Q := run_seq
def c3_26 : AC := .seq c3_27 c3_49
theorem n3_26 : Run Cx 3 T ds ro (.code c3_26 :: k) H Q = Run Cx 3 T ds ro (.code c3_27 :: .code c3_49 :: k) H Q := run_seq
def c3_24 : AC := .seq c3_25 c3_26
theorem n3_24 : Run Cx 3 T ds ro (.code c3_24 :: k) H Q = Run Cx 3 T ds ro (.code c3_25 :: .code c3_26 :: k) H Q := run_seq
def c3_22 : AC := .seq c3_23 c3_24
theorem n3_22 : Run Cx 3 T ds ro (.code c3_22 :: k) H Q = Run Cx 3 T ds ro (.code c3_23 :: .code c3_24 :: k) H Q := run_seq
def c3_14 : AC := .seq c3_15 c3_22
theorem n3_14 : Run Cx 3 T ds ro (.code c3_14 :: k) H Q = Run Cx 3 T ds ro (.code c3_15 :: .code c3_22 :: k) H Q := run_seq
def c3_12 : AC := .seq c3_13 c3_14
theorem n3_12 : Run Cx 3 T ds ro (.code c3_12 :: k) H Q = Run Cx 3 T ds ro (.code c3_13 :: .code c3_14 :: k) H Q := run_seq
def c3_10 : AC := .seq c3_11 c3_12
theorem n3_10 : Run Cx 3 T ds ro (.code c3_10 :: k) H Q = Run Cx 3 T ds ro (.code c3_11 :: .code c3_12 :: k) H Q := run_seq
def c3_2 : AC := .seq c3_3 c3_10
theorem n3_2 : Run Cx 3 T ds ro (.code c3_2 :: k) H Q = Run Cx 3 T ds ro (.code c3_3 :: .code c3_10 :: k) H Q := run_seq
def c3_0 : AC := .seq c3_1 c3_2
theorem n3_0 : Run Cx 3 T ds ro (.code c3_0 :: k) H Q = Run Cx 3 T ds ro (.code c3_1 :: .code c3_2 :: k) H Q := run_seq
theorem body3 : bodyOf Cx 3 = some c3_0 := by kernel_rfl
theorem res3 : resOf Cx 3 = some [.tmp 4] := by kernel_rfl
theorem pure3 : Cx.pure 3 = true := by kernel_rfl
-- RULES 3: n3_0, n3_1, n3_2, n3_3, n3_4, n3_5, n3_6, n3_7, n3_8, n3_9, n3_10, n3_11, n3_12, n3_13, n3_14, n3_15, n3_16, n3_17, n3_18, n3_19, n3_20, n3_21, n3_22, n3_23, n3_24, n3_25, n3_26, n3_27, n3_28, n3_29, n3_30, n3_31, n3_32, n3_33, n3_34, n3_35, n3_36, n3_37, n3_38, n3_39, n3_40, n3_41, n3_42, n3_43, n3_44, n3_45, n3_46, n3_47, n3_48, n3_49, n3_50, n3_51
def o4_1 : List AO := [{ dst := (some 5), op := .box 5 (.tmp 2), ty := 0, guard := none },
  { dst := (some 6), op := .alloc 4, ty := 0, guard := none }]
def c4_1 : AC := .region o4_1 []
theorem n4_1 : Run Cx 4 T ds ro (.code c4_1 :: k) H Q = RunOps Cx 4 T ds ro o4_1 k H Q := run_region
def o4_4 : List AO := [{ dst := (some 19), op := .call { callee := (.value (.func 7)), args := #[], argTypes := #[] }, ty := 4, guard := none },
  { dst := (some 20), op := .unOp .not 4 (.tmp 19), ty := 4, guard := none },
  { dst := (some 21), op := .move (.tmp 20), ty := 4, guard := none },
  { dst := (some 22), op := .move (.tmp 0), ty := 22, guard := (some (21, false)) },
  { dst := (some 23), op := .call { callee := (.value (.func 8)), args := #[(.tmp 22)], argTypes := #[22] }, ty := 3, guard := (some (21, false)) },
  { dst := (some 24), op := .binOp .eql 3 (.tmp 23) (.const (.int .i64 0)) 3, ty := 4, guard := (some (21, false)) },
  { dst := (some 25), op := .pick (.tmp 21) (.const (.bool true)) (.tmp 24), ty := 4, guard := none }]
def c4_4 : AC := .region o4_4 []
theorem n4_4 : Run Cx 4 T ds ro (.code c4_4 :: k) H Q = RunOps Cx 4 T ds ro o4_4 k H Q := run_region
def o4_7 : List AO := [{ dst := (some 26), op := .call { callee := (.value (.func 7)), args := #[], argTypes := #[] }, ty := 4, guard := none },
  { dst := none, op := .store 4 (.tmp 6) (.tmp 26), ty := 0, guard := none }]
def c4_7 : AC := .region o4_7 []
theorem n4_7 : Run Cx 4 T ds ro (.code c4_7 :: k) H Q = RunOps Cx 4 T ds ro o4_7 k H Q := run_region
def c4_8 : AC := .ret
theorem n4_8 : Run Cx 4 T [] none (.code c4_8 :: k) H Q = RunRes Cx T H Q (resOf Cx 4) := run_ret
def c4_6 : AC := .seq c4_7 c4_8
theorem n4_6 : Run Cx 4 T ds ro (.code c4_6 :: k) H Q = Run Cx 4 T ds ro (.code c4_7 :: .code c4_8 :: k) H Q := run_seq
def c4_9 : AC := .skip
theorem n4_9 : Run Cx 4 T ds ro (.code c4_9 :: k) H Q = Run Cx 4 T ds ro (k) H Q := run_skip
def c4_5 : AC := .cond (.tmp 25) c4_6 c4_9
theorem n4_5 : Run Cx 4 T ds ro (.code c4_5 :: k) H Q = RunCond Cx 4 T ds ro (.tmp 25) (ev T (.tmp 25)) c4_6 c4_9 k H Q := run_condC
def c4_3 : AC := .seq c4_4 c4_5
theorem n4_3 : Run Cx 4 T ds ro (.code c4_3 :: k) H Q = Run Cx 4 T ds ro (.code c4_4 :: .code c4_5 :: k) H Q := run_seq
def o4_11 : List AO := [{ dst := (some 28), op := .move (.tmp 1), ty := 3, guard := none },
  { dst := (some 29), op := .call { callee := (.value (.func 14)), args := #[(.tmp 28)], argTypes := #[3] }, ty := 34, guard := none },
  { dst := (some 27), op := .move (.tmp 29), ty := 34, guard := none },
  { dst := (some 30), op := .extract (.tmp 27) 0, ty := 26, guard := none },
  { dst := (some 31), op := .extract (.tmp 27) 1, ty := 33, guard := none },
  { dst := (some 7), op := .assign (.tmp 30), ty := 26, guard := none },
  { dst := (some 8), op := .assign (.tmp 31), ty := 33, guard := none }]
def c4_11 : AC := .region o4_11 []
theorem n4_11 : Run Cx 4 T ds ro (.code c4_11 :: k) H Q = RunOps Cx 4 T ds ro o4_11 k H Q := run_region
def o4_14 : List AO := [{ dst := (some 32), op := .move (.tmp 1), ty := 3, guard := none },
  { dst := (some 33), op := .binOp .lss 3 (.tmp 32) (.const (.int .i64 1)) 3, ty := 4, guard := none },
  { dst := (some 34), op := .move (.tmp 33), ty := 4, guard := none },
  { dst := (some 35), op := .move (.tmp 1), ty := 3, guard := (some (34, false)) },
  { dst := (some 36), op := .binOp .gtr 3 (.tmp 35) (.const (.int .i64 4096)) 3, ty := 4, guard := (some (34, false)) },
  { dst := (some 37), op := .pick (.tmp 34) (.const (.bool true)) (.tmp 36), ty := 4, guard := none }]
def c4_14 : AC := .region o4_14 []
theorem n4_14 : Run Cx 4 T ds ro (.code c4_14 :: k) H Q = RunOps Cx 4 T ds ro o4_14 k H Q := run_region
def o4_17 : List AO := [{ dst := (some 38), op := .move (.tmp 8), ty := 33, guard := none },
  { dst := (some 39), op := .binOp .eql 33 (.tmp 38) (.const (.int .i64 1)) 33, ty := 4, guard := none },
  { dst := (some 40), op := .move (.tmp 39), ty := 4, guard := none },
  { dst := (some 41), op := .move (.tmp 7), ty := 26, guard := (some (40, true)) },
  { dst := (some 42), op := .binOp .eql 26 (.tmp 41) (.const (.pointer none)) 26, ty := 4, guard := (some (40, true)) },
  { dst := (some 43), op := .pick (.tmp 40) (.tmp 42) (.const (.bool false)), ty := 4, guard := none },
  { dst := none, op := .store 4 (.tmp 6) (.tmp 43), ty := 0, guard := none }]
def c4_17 : AC := .region o4_17 []
theorem n4_17 : Run Cx 4 T ds ro (.code c4_17 :: k) H Q = RunOps Cx 4 T ds ro o4_17 k H Q := run_region
def c4_18 : AC := .ret
theorem n4_18 : Run Cx 4 T [] none (.code c4_18 :: k) H Q = RunRes Cx T H Q (resOf Cx 4) := run_ret
def c4_16 : AC := .seq c4_17 c4_18
theorem n4_16 : Run Cx 4 T ds ro (.code c4_16 :: k) H Q = Run Cx 4 T ds ro (.code c4_17 :: .code c4_18 :: k) H Q := run_seq
def c4_19 : AC := .skip
theorem n4_19 : Run Cx 4 T ds ro (.code c4_19 :: k) H Q = Run Cx 4 T ds ro (k) H Q := run_skip
def c4_15 : AC := .cond (.tmp 37) c4_16 c4_19
theorem n4_15 : Run Cx 4 T ds ro (.code c4_15 :: k) H Q = RunCond Cx 4 T ds ro (.tmp 37) (ev T (.tmp 37)) c4_16 c4_19 k H Q := run_condC
def c4_13 : AC := .seq c4_14 c4_15
theorem n4_13 : Run Cx 4 T ds ro (.code c4_13 :: k) H Q = Run Cx 4 T ds ro (.code c4_14 :: .code c4_15 :: k) H Q := run_seq
def o4_21 : List AO := [{ dst := (some 9), op := .assign (.const (.slice none 0 0)), ty := 22, guard := none }]
def c4_21 : AC := .region o4_21 []
theorem n4_21 : Run Cx 4 T ds ro (.code c4_21 :: k) H Q = RunOps Cx 4 T ds ro o4_21 k H Q := run_region
def o4_24 : List AO := [{ dst := (some 10), op := .assign (.const (.int .i64 0)), ty := 3, guard := none }]
def c4_24 : AC := .region o4_24 []
theorem n4_24 : Run Cx 4 T ds ro (.code c4_24 :: k) H Q = RunOps Cx 4 T ds ro o4_24 k H Q := run_region
def o4_29 : List AO := [{ dst := (some 44), op := .move (.tmp 10), ty := 3, guard := none },
  { dst := (some 45), op := .move (.tmp 0), ty := 22, guard := none },
  { dst := (some 46), op := .call { callee := (.builtin .len), args := #[(.tmp 45)], argTypes := #[22] }, ty := 3, guard := none },
  { dst := (some 47), op := .binOp .lss 3 (.tmp 44) (.tmp 46) 3, ty := 4, guard := none }]
def c4_29 : AC := .region o4_29 []
theorem n4_29 : Run Cx 4 T ds ro (.code c4_29 :: k) H Q = RunOps Cx 4 T ds ro o4_29 k H Q := run_region
def c4_31 : AC := .skip
theorem n4_31 : Run Cx 4 T ds ro (.code c4_31 :: k) H Q = Run Cx 4 T ds ro (k) H Q := run_skip
def c4_32 : AC := .exit 0
theorem n4_32 : Run Cx 4 T ds ro (.code c4_32 :: k) H Q = RunExit Cx 4 T ds ro 0 k k H Q := run_exit_start
def c4_30 : AC := .cond (.tmp 47) c4_31 c4_32
theorem n4_30 : Run Cx 4 T ds ro (.code c4_30 :: k) H Q = RunCond Cx 4 T ds ro (.tmp 47) (ev T (.tmp 47)) c4_31 c4_32 k H Q := run_condC
def c4_28 : AC := .seq c4_29 c4_30
theorem n4_28 : Run Cx 4 T ds ro (.code c4_28 :: k) H Q = Run Cx 4 T ds ro (.code c4_29 :: .code c4_30 :: k) H Q := run_seq
def o4_36 : List AO := [{ dst := (some 50), op := .move (.tmp 7), ty := 26, guard := none },
  { dst := (some 51), op := .move (.tmp 0), ty := 22, guard := none },
  { dst := (some 52), op := .move (.tmp 10), ty := 3, guard := none },
  { dst := (some 53), op := .indexAddr 22 (.tmp 51) (.tmp 52), ty := 0, guard := none },
  { dst := (some 54), op := .load 42 (.tmp 53), ty := 42, guard := none },
  { dst := (some 55), op := .call { callee := (.value (.func 15)), args := #[(.tmp 50), (.tmp 54)], argTypes := #[26, 42] }, ty := 33, guard := none },
  { dst := (some 11), op := .assign (.tmp 55), ty := 33, guard := none }]
def c4_36 : AC := .region o4_36 []
theorem n4_36 : Run Cx 4 T ds ro (.code c4_36 :: k) H Q = RunOps Cx 4 T ds ro o4_36 k H Q := run_region
def o4_38 : List AO := [{ dst := (some 56), op := .move (.tmp 0), ty := 22, guard := none },
  { dst := (some 57), op := .move (.tmp 10), ty := 3, guard := none },
  { dst := (some 58), op := .move (.tmp 10), ty := 3, guard := none },
  { dst := (some 59), op := .binOp .add 3 (.tmp 58) (.const (.int .i64 1)) 3, ty := 3, guard := none },
  { dst := (some 60), op := .slice 22 (.tmp 56) (some (.tmp 57)) (some (.tmp 59)) none, ty := 22, guard := none },
  { dst := (some 61), op := .call { callee := (.value (.func 16)), args := #[(.tmp 60)], argTypes := #[22] }, ty := 4, guard := none },
  { dst := (some 12), op := .assign (.tmp 61), ty := 4, guard := none }]
def c4_38 : AC := .region o4_38 []
theorem n4_38 : Run Cx 4 T ds ro (.code c4_38 :: k) H Q = RunOps Cx 4 T ds ro o4_38 k H Q := run_region
def o4_41 : List AO := [{ dst := (some 62), op := .move (.tmp 12), ty := 4, guard := none }]
def c4_41 : AC := .region o4_41 []
theorem n4_41 : Run Cx 4 T ds ro (.code c4_41 :: k) H Q = RunOps Cx 4 T ds ro o4_41 k H Q := run_region
def o4_43 : List AO := [{ dst := (some 63), op := .move (.tmp 9), ty := 22, guard := none },
  { dst := (some 64), op := .move (.tmp 0), ty := 22, guard := none },
  { dst := (some 65), op := .move (.tmp 10), ty := 3, guard := none },
  { dst := (some 66), op := .indexAddr 22 (.tmp 64) (.tmp 65), ty := 0, guard := none },
  { dst := (some 67), op := .load 42 (.tmp 66), ty := 42, guard := none },
  { dst := (some 68), op := .buildSlice 22 1 #[(0, (.tmp 67))], ty := 22, guard := none },
  { dst := (some 69), op := .call { callee := (.builtin .append), args := #[(.tmp 63), (.tmp 68)], argTypes := #[22, 22] }, ty := 22, guard := none },
  { dst := (some 9), op := .assign (.tmp 69), ty := 22, guard := none }]
def c4_43 : AC := .region o4_43 []
theorem n4_43 : Run Cx 4 T ds ro (.code c4_43 :: k) H Q = RunOps Cx 4 T ds ro o4_43 k H Q := run_region
def c4_44 : AC := .skip
theorem n4_44 : Run Cx 4 T ds ro (.code c4_44 :: k) H Q = Run Cx 4 T ds ro (k) H Q := run_skip
def c4_42 : AC := .cond (.tmp 62) c4_43 c4_44
theorem n4_42 : Run Cx 4 T ds ro (.code c4_42 :: k) H Q = RunCond Cx 4 T ds ro (.tmp 62) (ev T (.tmp 62)) c4_43 c4_44 k H Q := run_condC
def c4_40 : AC := .seq c4_41 c4_42
theorem n4_40 : Run Cx 4 T ds ro (.code c4_40 :: k) H Q = Run Cx 4 T ds ro (.code c4_41 :: .code c4_42 :: k) H Q := run_seq
def o4_46 : List AO := [{ dst := (some 70), op := .move (.tmp 12), ty := 4, guard := none },
  { dst := (some 71), op := .move (.tmp 11), ty := 33, guard := none },
  { dst := (some 72), op := .binOp .eql 33 (.tmp 71) (.const (.int .i64 0)) 33, ty := 4, guard := none },
  { dst := (some 73), op := .binOp .neq 4 (.tmp 70) (.tmp 72) 4, ty := 4, guard := none },
  { dst := (some 74), op := .move (.tmp 73), ty := 4, guard := none },
  { dst := (some 75), op := .move (.tmp 7), ty := 26, guard := (some (74, false)) },
  { dst := (some 76), op := .call { callee := (.value (.func 13)), args := #[(.tmp 75)], argTypes := #[26] }, ty := 3, guard := (some (74, false)) },
  { dst := (some 77), op := .move (.tmp 9), ty := 22, guard := (some (74, false)) },
  { dst := (some 78), op := .call { callee := (.builtin .len), args := #[(.tmp 77)], argTypes := #[22] }, ty := 3, guard := (some (74, false)) },
  { dst := (some 79), op := .binOp .neq 3 (.tmp 76) (.tmp 78) 3, ty := 4, guard := (some (74, false)) },
  { dst := (some 80), op := .pick (.tmp 74) (.const (.bool true)) (.tmp 79), ty := 4, guard := none }]
def c4_46 : AC := .region o4_46 []
theorem n4_46 : Run Cx 4 T ds ro (.code c4_46 :: k) H Q = RunOps Cx 4 T ds ro o4_46 k H Q := run_region
def o4_49 : List AO := [{ dst := none, op := .store 4 (.tmp 6) (.const (.bool false)), ty := 0, guard := none }]
def c4_49 : AC := .region o4_49 []
theorem n4_49 : Run Cx 4 T ds ro (.code c4_49 :: k) H Q = RunOps Cx 4 T ds ro o4_49 k H Q := run_region
def c4_50 : AC := .ret
theorem n4_50 : Run Cx 4 T [] none (.code c4_50 :: k) H Q = RunRes Cx T H Q (resOf Cx 4) := run_ret
def c4_48 : AC := .seq c4_49 c4_50
theorem n4_48 : Run Cx 4 T ds ro (.code c4_48 :: k) H Q = Run Cx 4 T ds ro (.code c4_49 :: .code c4_50 :: k) H Q := run_seq
def c4_51 : AC := .skip
theorem n4_51 : Run Cx 4 T ds ro (.code c4_51 :: k) H Q = Run Cx 4 T ds ro (k) H Q := run_skip
def c4_47 : AC := .cond (.tmp 80) c4_48 c4_51
theorem n4_47 : Run Cx 4 T ds ro (.code c4_47 :: k) H Q = RunCond Cx 4 T ds ro (.tmp 80) (ev T (.tmp 80)) c4_48 c4_51 k H Q := run_condC
def c4_45 : AC := .seq c4_46 c4_47
theorem n4_45 : Run Cx 4 T ds ro (.code c4_45 :: k) H Q = Run Cx 4 T ds ro (.code c4_46 :: .code c4_47 :: k) H Q := run_seq
def c4_39 : AC := .seq c4_40 c4_45
theorem n4_39 : Run Cx 4 T ds ro (.code c4_39 :: k) H Q = Run Cx 4 T ds ro (.code c4_40 :: .code c4_45 :: k) H Q := run_seq
def c4_37 : AC := .seq c4_38 c4_39
theorem n4_37 : Run Cx 4 T ds ro (.code c4_37 :: k) H Q = Run Cx 4 T ds ro (.code c4_38 :: .code c4_39 :: k) H Q := run_seq
def c4_35 : AC := .seq c4_36 c4_37
theorem n4_35 : Run Cx 4 T ds ro (.code c4_35 :: k) H Q = Run Cx 4 T ds ro (.code c4_36 :: .code c4_37 :: k) H Q := run_seq
def c4_34 : AC := .block 1 c4_35
theorem n4_34 : Run Cx 4 T ds ro (.code c4_34 :: k) H Q = Run Cx 4 T ds ro (.code c4_35 :: .inBlock 1 :: k) H Q := run_block
def o4_52 : List AO := [{ dst := (some 48), op := .move (.tmp 10), ty := 3, guard := none },
  { dst := (some 49), op := .binOp .add 3 (.tmp 48) (.const (.int .i64 1)) 3, ty := 3, guard := none },
  { dst := (some 10), op := .assign (.tmp 49), ty := 3, guard := none }]
def c4_52 : AC := .region o4_52 []
theorem n4_52 : Run Cx 4 T ds ro (.code c4_52 :: k) H Q = RunOps Cx 4 T ds ro o4_52 k H Q := run_region
def c4_33 : AC := .seq c4_34 c4_52
theorem n4_33 : Run Cx 4 T ds ro (.code c4_33 :: k) H Q = Run Cx 4 T ds ro (.code c4_34 :: .code c4_52 :: k) H Q := run_seq
def c4_27 : AC := .seq c4_28 c4_33
theorem n4_27 : Run Cx 4 T ds ro (.code c4_27 :: k) H Q = Run Cx 4 T ds ro (.code c4_28 :: .code c4_33 :: k) H Q := run_seq
def c4_26 : AC := .loop c4_27
theorem n4_26 : Run Cx 4 T ds ro (.code c4_26 :: k) H Q = Run Cx 4 T ds ro (.inLoop c4_27 :: k) H Q := run_loop'
def c4_25 : AC := .block 0 c4_26
theorem n4_25 : Run Cx 4 T ds ro (.code c4_25 :: k) H Q = Run Cx 4 T ds ro (.code c4_26 :: .inBlock 0 :: k) H Q := run_block
def c4_23 : AC := .seq c4_24 c4_25
theorem n4_23 : Run Cx 4 T ds ro (.code c4_23 :: k) H Q = Run Cx 4 T ds ro (.code c4_24 :: .code c4_25 :: k) H Q := run_seq
def o4_54 : List AO := [{ dst := (some 81), op := .move (.tmp 7), ty := 26, guard := none },
  { dst := (some 82), op := .call { callee := (.value (.func 11)), args := #[(.tmp 81)], argTypes := #[26] }, ty := 29, guard := none },
  { dst := (some 83), op := .move (.tmp 9), ty := 22, guard := none },
  { dst := (some 84), op := .move (.tmp 1), ty := 3, guard := none },
  { dst := (some 85), op := .call { callee := (.value (.func 17)), args := #[(.tmp 83), (.tmp 84)], argTypes := #[22, 3] }, ty := 29, guard := none },
  { dst := (some 13), op := .assign (.tmp 82), ty := 29, guard := none },
  { dst := (some 14), op := .assign (.tmp 85), ty := 29, guard := none }]
def c4_54 : AC := .region o4_54 []
theorem n4_54 : Run Cx 4 T ds ro (.code c4_54 :: k) H Q = RunOps Cx 4 T ds ro o4_54 k H Q := run_region
def o4_57 : List AO := [{ dst := (some 86), op := .move (.tmp 13), ty := 29, guard := none },
  { dst := (some 87), op := .call { callee := (.builtin .len), args := #[(.tmp 86)], argTypes := #[29] }, ty := 3, guard := none },
  { dst := (some 88), op := .move (.tmp 14), ty := 29, guard := none },
  { dst := (some 89), op := .call { callee := (.builtin .len), args := #[(.tmp 88)], argTypes := #[29] }, ty := 3, guard := none },
  { dst := (some 90), op := .binOp .neq 3 (.tmp 87) (.tmp 89) 3, ty := 4, guard := none }]
def c4_57 : AC := .region o4_57 []
theorem n4_57 : Run Cx 4 T ds ro (.code c4_57 :: k) H Q = RunOps Cx 4 T ds ro o4_57 k H Q := run_region
def o4_60 : List AO := [{ dst := none, op := .store 4 (.tmp 6) (.const (.bool false)), ty := 0, guard := none }]
def c4_60 : AC := .region o4_60 []
theorem n4_60 : Run Cx 4 T ds ro (.code c4_60 :: k) H Q = RunOps Cx 4 T ds ro o4_60 k H Q := run_region
def c4_61 : AC := .ret
theorem n4_61 : Run Cx 4 T [] none (.code c4_61 :: k) H Q = RunRes Cx T H Q (resOf Cx 4) := run_ret
def c4_59 : AC := .seq c4_60 c4_61
theorem n4_59 : Run Cx 4 T ds ro (.code c4_59 :: k) H Q = Run Cx 4 T ds ro (.code c4_60 :: .code c4_61 :: k) H Q := run_seq
def c4_62 : AC := .skip
theorem n4_62 : Run Cx 4 T ds ro (.code c4_62 :: k) H Q = Run Cx 4 T ds ro (k) H Q := run_skip
def c4_58 : AC := .cond (.tmp 90) c4_59 c4_62
theorem n4_58 : Run Cx 4 T ds ro (.code c4_58 :: k) H Q = RunCond Cx 4 T ds ro (.tmp 90) (ev T (.tmp 90)) c4_59 c4_62 k H Q := run_condC
def c4_56 : AC := .seq c4_57 c4_58
theorem n4_56 : Run Cx 4 T ds ro (.code c4_56 :: k) H Q = Run Cx 4 T ds ro (.code c4_57 :: .code c4_58 :: k) H Q := run_seq
def o4_65 : List AO := [{ dst := (some 15), op := .assign (.const (.int .i64 0)), ty := 3, guard := none }]
def c4_65 : AC := .region o4_65 []
theorem n4_65 : Run Cx 4 T ds ro (.code c4_65 :: k) H Q = RunOps Cx 4 T ds ro o4_65 k H Q := run_region
def o4_70 : List AO := [{ dst := (some 91), op := .move (.tmp 15), ty := 3, guard := none },
  { dst := (some 92), op := .move (.tmp 13), ty := 29, guard := none },
  { dst := (some 93), op := .call { callee := (.builtin .len), args := #[(.tmp 92)], argTypes := #[29] }, ty := 3, guard := none },
  { dst := (some 94), op := .binOp .lss 3 (.tmp 91) (.tmp 93) 3, ty := 4, guard := none }]
def c4_70 : AC := .region o4_70 []
theorem n4_70 : Run Cx 4 T ds ro (.code c4_70 :: k) H Q = RunOps Cx 4 T ds ro o4_70 k H Q := run_region
def c4_72 : AC := .skip
theorem n4_72 : Run Cx 4 T ds ro (.code c4_72 :: k) H Q = Run Cx 4 T ds ro (k) H Q := run_skip
def c4_73 : AC := .exit 2
theorem n4_73 : Run Cx 4 T ds ro (.code c4_73 :: k) H Q = RunExit Cx 4 T ds ro 2 k k H Q := run_exit_start
def c4_71 : AC := .cond (.tmp 94) c4_72 c4_73
theorem n4_71 : Run Cx 4 T ds ro (.code c4_71 :: k) H Q = RunCond Cx 4 T ds ro (.tmp 94) (ev T (.tmp 94)) c4_72 c4_73 k H Q := run_condC
def c4_69 : AC := .seq c4_70 c4_71
theorem n4_69 : Run Cx 4 T ds ro (.code c4_69 :: k) H Q = Run Cx 4 T ds ro (.code c4_70 :: .code c4_71 :: k) H Q := run_seq
def o4_77 : List AO := [{ dst := (some 97), op := .move (.tmp 13), ty := 29, guard := none },
  { dst := (some 98), op := .move (.tmp 15), ty := 3, guard := none },
  { dst := (some 99), op := .indexAddr 29 (.tmp 97) (.tmp 98), ty := 0, guard := none },
  { dst := (some 100), op := .load 22 (.tmp 99), ty := 22, guard := none },
  { dst := (some 101), op := .move (.tmp 14), ty := 29, guard := none },
  { dst := (some 102), op := .move (.tmp 15), ty := 3, guard := none },
  { dst := (some 103), op := .indexAddr 29 (.tmp 101) (.tmp 102), ty := 0, guard := none },
  { dst := (some 104), op := .load 22 (.tmp 103), ty := 22, guard := none },
  { dst := (some 105), op := .call { callee := (.value (.func 18)), args := #[(.tmp 100), (.tmp 104)], argTypes := #[22, 22] }, ty := 4, guard := none },
  { dst := (some 106), op := .unOp .not 4 (.tmp 105), ty := 4, guard := none }]
def c4_77 : AC := .region o4_77 []
theorem n4_77 : Run Cx 4 T ds ro (.code c4_77 :: k) H Q = RunOps Cx 4 T ds ro o4_77 k H Q := run_region
def o4_80 : List AO := [{ dst := none, op := .store 4 (.tmp 6) (.const (.bool false)), ty := 0, guard := none }]
def c4_80 : AC := .region o4_80 []
theorem n4_80 : Run Cx 4 T ds ro (.code c4_80 :: k) H Q = RunOps Cx 4 T ds ro o4_80 k H Q := run_region
def c4_81 : AC := .ret
theorem n4_81 : Run Cx 4 T [] none (.code c4_81 :: k) H Q = RunRes Cx T H Q (resOf Cx 4) := run_ret
def c4_79 : AC := .seq c4_80 c4_81
theorem n4_79 : Run Cx 4 T ds ro (.code c4_79 :: k) H Q = Run Cx 4 T ds ro (.code c4_80 :: .code c4_81 :: k) H Q := run_seq
def c4_82 : AC := .skip
theorem n4_82 : Run Cx 4 T ds ro (.code c4_82 :: k) H Q = Run Cx 4 T ds ro (k) H Q := run_skip
def c4_78 : AC := .cond (.tmp 106) c4_79 c4_82
theorem n4_78 : Run Cx 4 T ds ro (.code c4_78 :: k) H Q = RunCond Cx 4 T ds ro (.tmp 106) (ev T (.tmp 106)) c4_79 c4_82 k H Q := run_condC
def c4_76 : AC := .seq c4_77 c4_78
theorem n4_76 : Run Cx 4 T ds ro (.code c4_76 :: k) H Q = Run Cx 4 T ds ro (.code c4_77 :: .code c4_78 :: k) H Q := run_seq
def c4_75 : AC := .block 3 c4_76
theorem n4_75 : Run Cx 4 T ds ro (.code c4_75 :: k) H Q = Run Cx 4 T ds ro (.code c4_76 :: .inBlock 3 :: k) H Q := run_block
def o4_83 : List AO := [{ dst := (some 95), op := .move (.tmp 15), ty := 3, guard := none },
  { dst := (some 96), op := .binOp .add 3 (.tmp 95) (.const (.int .i64 1)) 3, ty := 3, guard := none },
  { dst := (some 15), op := .assign (.tmp 96), ty := 3, guard := none }]
def c4_83 : AC := .region o4_83 []
theorem n4_83 : Run Cx 4 T ds ro (.code c4_83 :: k) H Q = RunOps Cx 4 T ds ro o4_83 k H Q := run_region
def c4_74 : AC := .seq c4_75 c4_83
theorem n4_74 : Run Cx 4 T ds ro (.code c4_74 :: k) H Q = Run Cx 4 T ds ro (.code c4_75 :: .code c4_83 :: k) H Q := run_seq
def c4_68 : AC := .seq c4_69 c4_74
theorem n4_68 : Run Cx 4 T ds ro (.code c4_68 :: k) H Q = Run Cx 4 T ds ro (.code c4_69 :: .code c4_74 :: k) H Q := run_seq
def c4_67 : AC := .loop c4_68
theorem n4_67 : Run Cx 4 T ds ro (.code c4_67 :: k) H Q = Run Cx 4 T ds ro (.inLoop c4_68 :: k) H Q := run_loop'
def c4_66 : AC := .block 2 c4_67
theorem n4_66 : Run Cx 4 T ds ro (.code c4_66 :: k) H Q = Run Cx 4 T ds ro (.code c4_67 :: .inBlock 2 :: k) H Q := run_block
def c4_64 : AC := .seq c4_65 c4_66
theorem n4_64 : Run Cx 4 T ds ro (.code c4_64 :: k) H Q = Run Cx 4 T ds ro (.code c4_65 :: .code c4_66 :: k) H Q := run_seq
def o4_85 : List AO := [{ dst := (some 107), op := .move (.tmp 9), ty := 22, guard := none },
  { dst := (some 108), op := .call { callee := (.value (.func 19)), args := #[(.tmp 107)], argTypes := #[22] }, ty := 22, guard := none },
  { dst := (some 16), op := .alloc 22, ty := 0, guard := none },
  { dst := none, op := .store 22 (.tmp 16) (.tmp 108), ty := 0, guard := none }]
def c4_85 : AC := .region o4_85 []
theorem n4_85 : Run Cx 4 T ds ro (.code c4_85 :: k) H Q = RunOps Cx 4 T ds ro o4_85 k H Q := run_region
def o4_87 : List AO := [{ dst := (some 17), op := .alloc 3, ty := 0, guard := none },
  { dst := none, op := .store 3 (.tmp 17) (.const (.int .i64 0)), ty := 0, guard := none }]
def c4_87 : AC := .region o4_87 []
theorem n4_87 : Run Cx 4 T ds ro (.code c4_87 :: k) H Q = RunOps Cx 4 T ds ro o4_87 k H Q := run_region
def o4_90 : List AO := [{ dst := (some 109), op := .move (.tmp 7), ty := 26, guard := none },
  { dst := (some 110), op := .call { callee := (.value (.func 20)), args := #[(.tmp 109)], argTypes := #[26] }, ty := 47, guard := none }]
def c4_90 : AC := .region o4_90 []
theorem n4_90 : Run Cx 4 T ds ro (.code c4_90 :: k) H Q = RunOps Cx 4 T ds ro o4_90 k H Q := run_region
def o4_93 : List AO := [{ dst := (some 18), op := .alloc 42, ty := 0, guard := none },
  { dst := none, op := .store 42 (.tmp 18) (.tmp 111), ty := 0, guard := none }]
def c4_93 : AC := .region o4_93 []
theorem n4_93 : Run Cx 4 T ds ro (.code c4_93 :: k) H Q = RunOps Cx 4 T ds ro o4_93 k H Q := run_region
def o4_97 : List AO := [{ dst := (some 112), op := .load 3 (.tmp 17), ty := 3, guard := none },
  { dst := (some 113), op := .load 22 (.tmp 16), ty := 22, guard := none },
  { dst := (some 114), op := .call { callee := (.builtin .len), args := #[(.tmp 113)], argTypes := #[22] }, ty := 3, guard := none },
  { dst := (some 115), op := .binOp .geq 3 (.tmp 112) (.tmp 114) 3, ty := 4, guard := none },
  { dst := (some 116), op := .move (.tmp 115), ty := 4, guard := none },
  { dst := (some 117), op := .load 42 (.tmp 18), ty := 42, guard := (some (116, false)) },
  { dst := (some 118), op := .load 22 (.tmp 16), ty := 22, guard := (some (116, false)) },
  { dst := (some 119), op := .load 3 (.tmp 17), ty := 3, guard := (some (116, false)) },
  { dst := (some 120), op := .indexAddr 22 (.tmp 118) (.tmp 119), ty := 0, guard := (some (116, false)) },
  { dst := (some 121), op := .load 42 (.tmp 120), ty := 42, guard := (some (116, false)) },
  { dst := (some 122), op := .binOp .neq 42 (.tmp 117) (.tmp 121) 42, ty := 4, guard := (some (116, false)) },
  { dst := (some 123), op := .pick (.tmp 116) (.const (.bool true)) (.tmp 122), ty := 4, guard := none }]
def c4_97 : AC := .region o4_97 []
theorem n4_97 : Run Cx 4 T ds ro (.code c4_97 :: k) H Q = RunOps Cx 4 T ds ro o4_97 k H Q := run_region
def o4_100 : List AO := [{ dst := none, op := .store 4 (.tmp 6) (.const (.bool false)), ty := 0, guard := none }]
def c4_100 : AC := .region o4_100 []
theorem n4_100 : Run Cx 4 T ds ro (.code c4_100 :: k) H Q = RunOps Cx 4 T ds ro o4_100 k H Q := run_region
def c4_101 : AC := .ret
theorem n4_101 : Run Cx 4 T [] none (.code c4_101 :: k) H Q = RunRes Cx T H Q (resOf Cx 4) := run_ret
def c4_99 : AC := .seq c4_100 c4_101
theorem n4_99 : Run Cx 4 T ds ro (.code c4_99 :: k) H Q = Run Cx 4 T ds ro (.code c4_100 :: .code c4_101 :: k) H Q := run_seq
def c4_102 : AC := .skip
theorem n4_102 : Run Cx 4 T ds ro (.code c4_102 :: k) H Q = Run Cx 4 T ds ro (k) H Q := run_skip
def c4_98 : AC := .cond (.tmp 123) c4_99 c4_102
theorem n4_98 : Run Cx 4 T ds ro (.code c4_98 :: k) H Q = RunCond Cx 4 T ds ro (.tmp 123) (ev T (.tmp 123)) c4_99 c4_102 k H Q := run_condC
def c4_96 : AC := .seq c4_97 c4_98
theorem n4_96 : Run Cx 4 T ds ro (.code c4_96 :: k) H Q = Run Cx 4 T ds ro (.code c4_97 :: .code c4_98 :: k) H Q := run_seq
def o4_104 : List AO := [{ dst := (some 124), op := .load 3 (.tmp 17), ty := 3, guard := none },
  { dst := (some 125), op := .binOp .add 3 (.tmp 124) (.const (.int .i64 1)) 3, ty := 3, guard := none },
  { dst := none, op := .store 3 (.tmp 17) (.tmp 125), ty := 0, guard := none }]
def c4_104 : AC := .region o4_104 []
theorem n4_104 : Run Cx 4 T ds ro (.code c4_104 :: k) H Q = RunOps Cx 4 T ds ro o4_104 k H Q := run_region
def o4_106 : List AO := [{ dst := (some 126), op := .load 3 (.tmp 17), ty := 3, guard := none },
  { dst := (some 127), op := .load 5 (.tmp 5), ty := 5, guard := none },
  { dst := (some 128), op := .convert 5 3 (.tmp 127), ty := 3, guard := none },
  { dst := (some 129), op := .binOp .eql 3 (.tmp 126) (.tmp 128) 3, ty := 4, guard := none }]
def c4_106 : AC := .region o4_106 []
theorem n4_106 : Run Cx 4 T ds ro (.code c4_106 :: k) H Q = RunOps Cx 4 T ds ro o4_106 k H Q := run_region
def o4_109 : List AO := [{ dst := none, op := .store 4 (.tmp 6) (.const (.bool true)), ty := 0, guard := none }]
def c4_109 : AC := .region o4_109 []
theorem n4_109 : Run Cx 4 T ds ro (.code c4_109 :: k) H Q = RunOps Cx 4 T ds ro o4_109 k H Q := run_region
def c4_110 : AC := .ret
theorem n4_110 : Run Cx 4 T [] none (.code c4_110 :: k) H Q = RunRes Cx T H Q (resOf Cx 4) := run_ret
def c4_108 : AC := .seq c4_109 c4_110
theorem n4_108 : Run Cx 4 T ds ro (.code c4_108 :: k) H Q = Run Cx 4 T ds ro (.code c4_109 :: .code c4_110 :: k) H Q := run_seq
def c4_111 : AC := .skip
theorem n4_111 : Run Cx 4 T ds ro (.code c4_111 :: k) H Q = Run Cx 4 T ds ro (k) H Q := run_skip
def c4_107 : AC := .cond (.tmp 129) c4_108 c4_111
theorem n4_107 : Run Cx 4 T ds ro (.code c4_107 :: k) H Q = RunCond Cx 4 T ds ro (.tmp 129) (ev T (.tmp 129)) c4_108 c4_111 k H Q := run_condC
def c4_105 : AC := .seq c4_106 c4_107
theorem n4_105 : Run Cx 4 T ds ro (.code c4_105 :: k) H Q = Run Cx 4 T ds ro (.code c4_106 :: .code c4_107 :: k) H Q := run_seq
def c4_103 : AC := .seq c4_104 c4_105
theorem n4_103 : Run Cx 4 T ds ro (.code c4_103 :: k) H Q = Run Cx 4 T ds ro (.code c4_104 :: .code c4_105 :: k) H Q := run_seq
def c4_95 : AC := .seq c4_96 c4_103
theorem n4_95 : Run Cx 4 T ds ro (.code c4_95 :: k) H Q = Run Cx 4 T ds ro (.code c4_96 :: .code c4_103 :: k) H Q := run_seq
def c4_94 : AC := .block 5 c4_95
theorem n4_94 : Run Cx 4 T ds ro (.code c4_94 :: k) H Q = Run Cx 4 T ds ro (.code c4_95 :: .inBlock 5 :: k) H Q := run_block
def c4_92 : AC := .rangeFunc (.tmp 110) [111] c4_93 c4_94
def c4_91 : AC := .block 4 c4_92
theorem n4_91 : Run Cx 4 T ds ro (.code c4_91 :: k) H Q = Run Cx 4 T ds ro (.code c4_92 :: .inBlock 4 :: k) H Q := run_block
def c4_89 : AC := .seq c4_90 c4_91
theorem n4_89 : Run Cx 4 T ds ro (.code c4_89 :: k) H Q = Run Cx 4 T ds ro (.code c4_90 :: .code c4_91 :: k) H Q := run_seq
def o4_113 : List AO := [{ dst := (some 130), op := .load 3 (.tmp 17), ty := 3, guard := none },
  { dst := (some 131), op := .load 22 (.tmp 16), ty := 22, guard := none },
  { dst := (some 132), op := .call { callee := (.builtin .len), args := #[(.tmp 131)], argTypes := #[22] }, ty := 3, guard := none },
  { dst := (some 133), op := .binOp .eql 3 (.tmp 130) (.tmp 132) 3, ty := 4, guard := none },
  { dst := none, op := .store 4 (.tmp 6) (.tmp 133), ty := 0, guard := none }]
def c4_113 : AC := .region o4_113 []
theorem n4_113 : Run Cx 4 T ds ro (.code c4_113 :: k) H Q = RunOps Cx 4 T ds ro o4_113 k H Q := run_region
def c4_114 : AC := .ret
theorem n4_114 : Run Cx 4 T [] none (.code c4_114 :: k) H Q = RunRes Cx T H Q (resOf Cx 4) := run_ret
def c4_112 : AC := .seq c4_113 c4_114
theorem n4_112 : Run Cx 4 T ds ro (.code c4_112 :: k) H Q = Run Cx 4 T ds ro (.code c4_113 :: .code c4_114 :: k) H Q := run_seq
def c4_88 : AC := .seq c4_89 c4_112
theorem n4_88 : Run Cx 4 T ds ro (.code c4_88 :: k) H Q = Run Cx 4 T ds ro (.code c4_89 :: .code c4_112 :: k) H Q := run_seq
def c4_86 : AC := .seq c4_87 c4_88
theorem n4_86 : Run Cx 4 T ds ro (.code c4_86 :: k) H Q = Run Cx 4 T ds ro (.code c4_87 :: .code c4_88 :: k) H Q := run_seq
def c4_84 : AC := .seq c4_85 c4_86
theorem n4_84 : Run Cx 4 T ds ro (.code c4_84 :: k) H Q = Run Cx 4 T ds ro (.code c4_85 :: .code c4_86 :: k) H Q := run_seq
def c4_63 : AC := .seq c4_64 c4_84
theorem n4_63 : Run Cx 4 T ds ro (.code c4_63 :: k) H Q = Run Cx 4 T ds ro (.code c4_64 :: .code c4_84 :: k) H Q := run_seq
def c4_55 : AC := .seq c4_56 c4_63
theorem n4_55 : Run Cx 4 T ds ro (.code c4_55 :: k) H Q = Run Cx 4 T ds ro (.code c4_56 :: .code c4_63 :: k) H Q := run_seq
def c4_53 : AC := .seq c4_54 c4_55
theorem n4_53 : Run Cx 4 T ds ro (.code c4_53 :: k) H Q = Run Cx 4 T ds ro (.code c4_54 :: .code c4_55 :: k) H Q := run_seq
def c4_22 : AC := .seq c4_23 c4_53
theorem n4_22 : Run Cx 4 T ds ro (.code c4_22 :: k) H Q = Run Cx 4 T ds ro (.code c4_23 :: .code c4_53 :: k) H Q := run_seq
def c4_20 : AC := .seq c4_21 c4_22
theorem n4_20 : Run Cx 4 T ds ro (.code c4_20 :: k) H Q = Run Cx 4 T ds ro (.code c4_21 :: .code c4_22 :: k) H Q := run_seq
def c4_12 : AC := .seq c4_13 c4_20
theorem n4_12 : Run Cx 4 T ds ro (.code c4_12 :: k) H Q = Run Cx 4 T ds ro (.code c4_13 :: .code c4_20 :: k) H Q := run_seq
def c4_10 : AC := .seq c4_11 c4_12
theorem n4_10 : Run Cx 4 T ds ro (.code c4_10 :: k) H Q = Run Cx 4 T ds ro (.code c4_11 :: .code c4_12 :: k) H Q := run_seq
def c4_2 : AC := .seq c4_3 c4_10
theorem n4_2 : Run Cx 4 T ds ro (.code c4_2 :: k) H Q = Run Cx 4 T ds ro (.code c4_3 :: .code c4_10 :: k) H Q := run_seq
def c4_0 : AC := .seq c4_1 c4_2
theorem n4_0 : Run Cx 4 T ds ro (.code c4_0 :: k) H Q = Run Cx 4 T ds ro (.code c4_1 :: .code c4_2 :: k) H Q := run_seq
theorem body4 : bodyOf Cx 4 = some c4_0 := by kernel_rfl
theorem res4 : resOf Cx 4 = some [.cell 6 4] := by kernel_rfl
theorem pure4 : Cx.pure 4 = true := by kernel_rfl
-- RULES 4: n4_0, n4_1, n4_2, n4_3, n4_4, n4_5, n4_6, n4_7, n4_8, n4_9, n4_10, n4_11, n4_12, n4_13, n4_14, n4_15, n4_16, n4_17, n4_18, n4_19, n4_20, n4_21, n4_22, n4_23, n4_24, n4_25, n4_26, n4_27, n4_28, n4_29, n4_30, n4_31, n4_32, n4_33, n4_34, n4_35, n4_36, n4_37, n4_38, n4_39, n4_40, n4_41, n4_42, n4_43, n4_44, n4_45, n4_46, n4_47, n4_48, n4_49, n4_50, n4_51, n4_52, n4_53, n4_54, n4_55, n4_56, n4_57, n4_58, n4_59, n4_60, n4_61, n4_62, n4_63, n4_64, n4_65, n4_66, n4_67, n4_68, n4_69, n4_70, n4_71, n4_72, n4_73, n4_74, n4_75, n4_76, n4_77, n4_78, n4_79, n4_80, n4_81, n4_82, n4_83, n4_84, n4_85, n4_86, n4_87, n4_88, n4_89, n4_90, n4_91, n4_92, n4_93, n4_94, n4_95, n4_96, n4_97, n4_98, n4_99, n4_100, n4_101, n4_102, n4_103, n4_104, n4_105, n4_106, n4_107, n4_108, n4_109, n4_110, n4_111, n4_112, n4_113, n4_114
def o5_1 : List AO := [{ dst := (some 1), op := .box 42 (.tmp 0), ty := 0, guard := none },
  { dst := (some 2), op := .alloc 4, ty := 0, guard := none }]
def c5_1 : AC := .region o5_1 []
theorem n5_1 : Run Cx 5 T ds ro (.code c5_1 :: k) H Q = RunOps Cx 5 T ds ro o5_1 k H Q := run_region
def o5_4 : List AO := [{ dst := (some 4), op := .call { callee := (.value (.func 7)), args := #[], argTypes := #[] }, ty := 4, guard := none },
  { dst := (some 5), op := .unOp .not 4 (.tmp 4), ty := 4, guard := none }]
def c5_4 : AC := .region o5_4 []
theorem n5_4 : Run Cx 5 T ds ro (.code c5_4 :: k) H Q = RunOps Cx 5 T ds ro o5_4 k H Q := run_region
def o5_7 : List AO := [{ dst := none, op := .store 4 (.tmp 2) (.const (.bool false)), ty := 0, guard := none }]
def c5_7 : AC := .region o5_7 []
theorem n5_7 : Run Cx 5 T ds ro (.code c5_7 :: k) H Q = RunOps Cx 5 T ds ro o5_7 k H Q := run_region
def c5_8 : AC := .ret
theorem n5_8 : Run Cx 5 T [] none (.code c5_8 :: k) H Q = RunRes Cx T H Q (resOf Cx 5) := run_ret
def c5_6 : AC := .seq c5_7 c5_8
theorem n5_6 : Run Cx 5 T ds ro (.code c5_6 :: k) H Q = Run Cx 5 T ds ro (.code c5_7 :: .code c5_8 :: k) H Q := run_seq
def c5_9 : AC := .skip
theorem n5_9 : Run Cx 5 T ds ro (.code c5_9 :: k) H Q = Run Cx 5 T ds ro (k) H Q := run_skip
def c5_5 : AC := .cond (.tmp 5) c5_6 c5_9
theorem n5_5 : Run Cx 5 T ds ro (.code c5_5 :: k) H Q = RunCond Cx 5 T ds ro (.tmp 5) (ev T (.tmp 5)) c5_6 c5_9 k H Q := run_condC
def c5_3 : AC := .seq c5_4 c5_5
theorem n5_3 : Run Cx 5 T ds ro (.code c5_3 :: k) H Q = Run Cx 5 T ds ro (.code c5_4 :: .code c5_5 :: k) H Q := run_seq
def o5_11 : List AO := [{ dst := (some 3), op := .assign (.const (.pointer none)), ty := 26, guard := none }]
def c5_11 : AC := .region o5_11 []
theorem n5_11 : Run Cx 5 T ds ro (.code c5_11 :: k) H Q = RunOps Cx 5 T ds ro o5_11 k H Q := run_region
def o5_14 : List AO := [{ dst := (some 6), op := .move (.tmp 3), ty := 26, guard := none },
  { dst := (some 7), op := .call { callee := (.value (.func 20)), args := #[(.tmp 6)], argTypes := #[26] }, ty := 47, guard := none }]
def c5_14 : AC := .region o5_14 []
theorem n5_14 : Run Cx 5 T ds ro (.code c5_14 :: k) H Q = RunOps Cx 5 T ds ro o5_14 k H Q := run_region
def c5_17 : AC := .skip
theorem n5_17 : Run Cx 5 T ds ro (.code c5_17 :: k) H Q = Run Cx 5 T ds ro (k) H Q := run_skip
def o5_20 : List AO := [{ dst := none, op := .store 4 (.tmp 2) (.const (.bool false)), ty := 0, guard := none }]
def c5_20 : AC := .region o5_20 []
theorem n5_20 : Run Cx 5 T ds ro (.code c5_20 :: k) H Q = RunOps Cx 5 T ds ro o5_20 k H Q := run_region
def c5_21 : AC := .ret
theorem n5_21 : Run Cx 5 T [] none (.code c5_21 :: k) H Q = RunRes Cx T H Q (resOf Cx 5) := run_ret
def c5_19 : AC := .seq c5_20 c5_21
theorem n5_19 : Run Cx 5 T ds ro (.code c5_19 :: k) H Q = Run Cx 5 T ds ro (.code c5_20 :: .code c5_21 :: k) H Q := run_seq
def c5_18 : AC := .block 1 c5_19
theorem n5_18 : Run Cx 5 T ds ro (.code c5_18 :: k) H Q = Run Cx 5 T ds ro (.code c5_19 :: .inBlock 1 :: k) H Q := run_block
def c5_16 : AC := .rangeFunc (.tmp 7) [8] c5_17 c5_18
def c5_15 : AC := .block 0 c5_16
theorem n5_15 : Run Cx 5 T ds ro (.code c5_15 :: k) H Q = Run Cx 5 T ds ro (.code c5_16 :: .inBlock 0 :: k) H Q := run_block
def c5_13 : AC := .seq c5_14 c5_15
theorem n5_13 : Run Cx 5 T ds ro (.code c5_13 :: k) H Q = Run Cx 5 T ds ro (.code c5_14 :: .code c5_15 :: k) H Q := run_seq
def o5_23 : List AO := [{ dst := (some 9), op := .move (.tmp 3), ty := 26, guard := none },
  { dst := (some 10), op := .load 42 (.tmp 1), ty := 42, guard := none },
  { dst := (some 11), op := .call { callee := (.value (.func 15)), args := #[(.tmp 9), (.tmp 10)], argTypes := #[26, 42] }, ty := 33, guard := none },
  { dst := (some 12), op := .binOp .eql 33 (.tmp 11) (.const (.int .i64 1)) 33, ty := 4, guard := none },
  { dst := (some 13), op := .move (.tmp 12), ty := 4, guard := none },
  { dst := (some 14), op := .move (.tmp 3), ty := 26, guard := (some (13, true)) },
  { dst := (some 15), op := .call { callee := (.value (.func 13)), args := #[(.tmp 14)], argTypes := #[26] }, ty := 3, guard := (some (13, true)) },
  { dst := (some 16), op := .binOp .eql 3 (.tmp 15) (.const (.int .i64 0)) 3, ty := 4, guard := (some (13, true)) },
  { dst := (some 17), op := .pick (.tmp 13) (.tmp 16) (.const (.bool false)), ty := 4, guard := none },
  { dst := (some 18), op := .move (.tmp 17), ty := 4, guard := none },
  { dst := (some 19), op := .move (.tmp 3), ty := 26, guard := (some (18, true)) },
  { dst := (some 20), op := .call { callee := (.value (.func 11)), args := #[(.tmp 19)], argTypes := #[26] }, ty := 29, guard := (some (18, true)) },
  { dst := (some 21), op := .call { callee := (.builtin .len), args := #[(.tmp 20)], argTypes := #[29] }, ty := 3, guard := (some (18, true)) },
  { dst := (some 22), op := .binOp .eql 3 (.tmp 21) (.const (.int .i64 0)) 3, ty := 4, guard := (some (18, true)) },
  { dst := (some 23), op := .pick (.tmp 18) (.tmp 22) (.const (.bool false)), ty := 4, guard := none },
  { dst := none, op := .store 4 (.tmp 2) (.tmp 23), ty := 0, guard := none }]
def c5_23 : AC := .region o5_23 []
theorem n5_23 : Run Cx 5 T ds ro (.code c5_23 :: k) H Q = RunOps Cx 5 T ds ro o5_23 k H Q := run_region
def c5_24 : AC := .ret
theorem n5_24 : Run Cx 5 T [] none (.code c5_24 :: k) H Q = RunRes Cx T H Q (resOf Cx 5) := run_ret
def c5_22 : AC := .seq c5_23 c5_24
theorem n5_22 : Run Cx 5 T ds ro (.code c5_22 :: k) H Q = Run Cx 5 T ds ro (.code c5_23 :: .code c5_24 :: k) H Q := run_seq
def c5_12 : AC := .seq c5_13 c5_22
theorem n5_12 : Run Cx 5 T ds ro (.code c5_12 :: k) H Q = Run Cx 5 T ds ro (.code c5_13 :: .code c5_22 :: k) H Q := run_seq
def c5_10 : AC := .seq c5_11 c5_12
theorem n5_10 : Run Cx 5 T ds ro (.code c5_10 :: k) H Q = Run Cx 5 T ds ro (.code c5_11 :: .code c5_12 :: k) H Q := run_seq
def c5_2 : AC := .seq c5_3 c5_10
theorem n5_2 : Run Cx 5 T ds ro (.code c5_2 :: k) H Q = Run Cx 5 T ds ro (.code c5_3 :: .code c5_10 :: k) H Q := run_seq
def c5_0 : AC := .seq c5_1 c5_2
theorem n5_0 : Run Cx 5 T ds ro (.code c5_0 :: k) H Q = Run Cx 5 T ds ro (.code c5_1 :: .code c5_2 :: k) H Q := run_seq
theorem body5 : bodyOf Cx 5 = some c5_0 := by kernel_rfl
theorem res5 : resOf Cx 5 = some [.cell 2 4] := by kernel_rfl
theorem pure5 : Cx.pure 5 = true := by kernel_rfl
-- RULES 5: n5_0, n5_1, n5_2, n5_3, n5_4, n5_5, n5_6, n5_7, n5_8, n5_9, n5_10, n5_11, n5_12, n5_13, n5_14, n5_15, n5_16, n5_17, n5_18, n5_19, n5_20, n5_21, n5_22, n5_23, n5_24
def o6_1 : List AO := [{ dst := (some 6), op := .assign (.const (.bool false)), ty := 4, guard := none }]
def c6_1 : AC := .region o6_1 []
theorem n6_1 : Run Cx 6 T ds ro (.code c6_1 :: k) H Q = RunOps Cx 6 T ds ro o6_1 k H Q := run_region
def o6_4 : List AO := [{ dst := (some 15), op := .call { callee := (.value (.func 7)), args := #[], argTypes := #[] }, ty := 4, guard := none },
  { dst := (some 16), op := .unOp .not 4 (.tmp 15), ty := 4, guard := none },
  { dst := (some 17), op := .move (.tmp 16), ty := 4, guard := none },
  { dst := (some 18), op := .move (.tmp 0), ty := 22, guard := (some (17, false)) },
  { dst := (some 19), op := .call { callee := (.value (.func 8)), args := #[(.tmp 18)], argTypes := #[22] }, ty := 3, guard := (some (17, false)) },
  { dst := (some 20), op := .binOp .eql 3 (.tmp 19) (.const (.int .i64 0)) 3, ty := 4, guard := (some (17, false)) },
  { dst := (some 21), op := .pick (.tmp 17) (.const (.bool true)) (.tmp 20), ty := 4, guard := none },
  { dst := (some 22), op := .move (.tmp 21), ty := 4, guard := none },
  { dst := (some 23), op := .move (.tmp 0), ty := 22, guard := (some (22, false)) },
  { dst := (some 24), op := .call { callee := (.value (.func 9)), args := #[(.tmp 23)], argTypes := #[22] }, ty := 4, guard := (some (22, false)) },
  { dst := (some 25), op := .unOp .not 4 (.tmp 24), ty := 4, guard := (some (22, false)) },
  { dst := (some 26), op := .pick (.tmp 22) (.const (.bool true)) (.tmp 25), ty := 4, guard := none }]
def c6_4 : AC := .region o6_4 []
theorem n6_4 : Run Cx 6 T ds ro (.code c6_4 :: k) H Q = RunOps Cx 6 T ds ro o6_4 k H Q := run_region
def o6_7 : List AO := [{ dst := (some 27), op := .call { callee := (.value (.func 7)), args := #[], argTypes := #[] }, ty := 4, guard := none },
  { dst := (some 6), op := .assign (.tmp 27), ty := 4, guard := none }]
def c6_7 : AC := .region o6_7 []
theorem n6_7 : Run Cx 6 T ds ro (.code c6_7 :: k) H Q = RunOps Cx 6 T ds ro o6_7 k H Q := run_region
def c6_8 : AC := .ret
theorem n6_8 : Run Cx 6 T [] none (.code c6_8 :: k) H Q = RunRes Cx T H Q (resOf Cx 6) := run_ret
def c6_6 : AC := .seq c6_7 c6_8
theorem n6_6 : Run Cx 6 T ds ro (.code c6_6 :: k) H Q = Run Cx 6 T ds ro (.code c6_7 :: .code c6_8 :: k) H Q := run_seq
def c6_9 : AC := .skip
theorem n6_9 : Run Cx 6 T ds ro (.code c6_9 :: k) H Q = Run Cx 6 T ds ro (k) H Q := run_skip
def c6_5 : AC := .cond (.tmp 26) c6_6 c6_9
theorem n6_5 : Run Cx 6 T ds ro (.code c6_5 :: k) H Q = RunCond Cx 6 T ds ro (.tmp 26) (ev T (.tmp 26)) c6_6 c6_9 k H Q := run_condC
def c6_3 : AC := .seq c6_4 c6_5
theorem n6_3 : Run Cx 6 T ds ro (.code c6_3 :: k) H Q = Run Cx 6 T ds ro (.code c6_4 :: .code c6_5 :: k) H Q := run_seq
def o6_11 : List AO := [{ dst := (some 29), op := .move (.tmp 0), ty := 22, guard := none },
  { dst := (some 30), op := .move (.tmp 1), ty := 5, guard := none },
  { dst := (some 31), op := .convert 5 3 (.tmp 30), ty := 3, guard := none },
  { dst := (some 32), op := .binOp .add 3 (.const (.int .i64 1)) (.tmp 31) 3, ty := 3, guard := none },
  { dst := (some 33), op := .call { callee := (.value (.func 10)), args := #[(.tmp 29), (.tmp 32)], argTypes := #[22, 3] }, ty := 27, guard := none },
  { dst := (some 28), op := .move (.tmp 33), ty := 27, guard := none },
  { dst := (some 34), op := .extract (.tmp 28) 0, ty := 26, guard := none },
  { dst := (some 35), op := .extract (.tmp 28) 1, ty := 4, guard := none },
  { dst := (some 7), op := .assign (.tmp 34), ty := 26, guard := none },
  { dst := (some 8), op := .assign (.tmp 35), ty := 4, guard := none }]
def c6_11 : AC := .region o6_11 []
theorem n6_11 : Run Cx 6 T ds ro (.code c6_11 :: k) H Q = RunOps Cx 6 T ds ro o6_11 k H Q := run_region
def o6_13 : List AO := [{ dst := (some 37), op := .move (.tmp 0), ty := 22, guard := none },
  { dst := (some 38), op := .move (.tmp 2), ty := 5, guard := none },
  { dst := (some 39), op := .convert 5 3 (.tmp 38), ty := 3, guard := none },
  { dst := (some 40), op := .binOp .add 3 (.const (.int .i64 1)) (.tmp 39) 3, ty := 3, guard := none },
  { dst := (some 41), op := .call { callee := (.value (.func 10)), args := #[(.tmp 37), (.tmp 40)], argTypes := #[22, 3] }, ty := 27, guard := none },
  { dst := (some 36), op := .move (.tmp 41), ty := 27, guard := none },
  { dst := (some 42), op := .extract (.tmp 36) 0, ty := 26, guard := none },
  { dst := (some 43), op := .extract (.tmp 36) 1, ty := 4, guard := none },
  { dst := (some 9), op := .assign (.tmp 42), ty := 26, guard := none },
  { dst := (some 10), op := .assign (.tmp 43), ty := 4, guard := none }]
def c6_13 : AC := .region o6_13 []
theorem n6_13 : Run Cx 6 T ds ro (.code c6_13 :: k) H Q = RunOps Cx 6 T ds ro o6_13 k H Q := run_region
def o6_16 : List AO := [{ dst := (some 44), op := .move (.tmp 8), ty := 4, guard := none },
  { dst := (some 45), op := .unOp .not 4 (.tmp 44), ty := 4, guard := none },
  { dst := (some 46), op := .move (.tmp 45), ty := 4, guard := none },
  { dst := (some 47), op := .move (.tmp 10), ty := 4, guard := (some (46, false)) },
  { dst := (some 48), op := .unOp .not 4 (.tmp 47), ty := 4, guard := (some (46, false)) },
  { dst := (some 49), op := .pick (.tmp 46) (.const (.bool true)) (.tmp 48), ty := 4, guard := none },
  { dst := (some 50), op := .move (.tmp 49), ty := 4, guard := none },
  { dst := (some 51), op := .move (.tmp 7), ty := 26, guard := (some (50, false)) },
  { dst := (some 52), op := .call { callee := (.value (.func 13)), args := #[(.tmp 51)], argTypes := #[26] }, ty := 3, guard := (some (50, false)) },
  { dst := (some 53), op := .move (.tmp 0), ty := 22, guard := (some (50, false)) },
  { dst := (some 54), op := .call { callee := (.builtin .len), args := #[(.tmp 53)], argTypes := #[22] }, ty := 3, guard := (some (50, false)) },
  { dst := (some 55), op := .binOp .neq 3 (.tmp 52) (.tmp 54) 3, ty := 4, guard := (some (50, false)) },
  { dst := (some 56), op := .pick (.tmp 50) (.const (.bool true)) (.tmp 55), ty := 4, guard := none }]
def c6_16 : AC := .region o6_16 []
theorem n6_16 : Run Cx 6 T ds ro (.code c6_16 :: k) H Q = RunOps Cx 6 T ds ro o6_16 k H Q := run_region
def o6_19 : List AO := [{ dst := (some 6), op := .assign (.const (.bool false)), ty := 4, guard := none }]
def c6_19 : AC := .region o6_19 []
theorem n6_19 : Run Cx 6 T ds ro (.code c6_19 :: k) H Q = RunOps Cx 6 T ds ro o6_19 k H Q := run_region
def c6_20 : AC := .ret
theorem n6_20 : Run Cx 6 T [] none (.code c6_20 :: k) H Q = RunRes Cx T H Q (resOf Cx 6) := run_ret
def c6_18 : AC := .seq c6_19 c6_20
theorem n6_18 : Run Cx 6 T ds ro (.code c6_18 :: k) H Q = Run Cx 6 T ds ro (.code c6_19 :: .code c6_20 :: k) H Q := run_seq
def c6_21 : AC := .skip
theorem n6_21 : Run Cx 6 T ds ro (.code c6_21 :: k) H Q = Run Cx 6 T ds ro (k) H Q := run_skip
def c6_17 : AC := .cond (.tmp 56) c6_18 c6_21
theorem n6_17 : Run Cx 6 T ds ro (.code c6_17 :: k) H Q = RunCond Cx 6 T ds ro (.tmp 56) (ev T (.tmp 56)) c6_18 c6_21 k H Q := run_condC
def c6_15 : AC := .seq c6_16 c6_17
theorem n6_15 : Run Cx 6 T ds ro (.code c6_15 :: k) H Q = Run Cx 6 T ds ro (.code c6_16 :: .code c6_17 :: k) H Q := run_seq
def o6_23 : List AO := [{ dst := (some 58), op := .move (.tmp 7), ty := 26, guard := none },
  { dst := (some 59), op := .call { callee := (.value (.func 11)), args := #[(.tmp 58)], argTypes := #[26] }, ty := 29, guard := none },
  { dst := (some 60), op := .call { callee := (.value (.func 21)), args := #[(.tmp 59)], argTypes := #[29] }, ty := 51, guard := none },
  { dst := (some 57), op := .move (.tmp 60), ty := 51, guard := none },
  { dst := (some 61), op := .extract (.tmp 57) 0, ty := 22, guard := none },
  { dst := (some 62), op := .extract (.tmp 57) 1, ty := 33, guard := none },
  { dst := (some 11), op := .assign (.tmp 61), ty := 22, guard := none },
  { dst := (some 12), op := .assign (.tmp 62), ty := 33, guard := none }]
def c6_23 : AC := .region o6_23 []
theorem n6_23 : Run Cx 6 T ds ro (.code c6_23 :: k) H Q = RunOps Cx 6 T ds ro o6_23 k H Q := run_region
def o6_25 : List AO := [{ dst := (some 64), op := .move (.tmp 9), ty := 26, guard := none },
  { dst := (some 65), op := .call { callee := (.value (.func 11)), args := #[(.tmp 64)], argTypes := #[26] }, ty := 29, guard := none },
  { dst := (some 66), op := .call { callee := (.value (.func 21)), args := #[(.tmp 65)], argTypes := #[29] }, ty := 51, guard := none },
  { dst := (some 63), op := .move (.tmp 66), ty := 51, guard := none },
  { dst := (some 67), op := .extract (.tmp 63) 0, ty := 22, guard := none },
  { dst := (some 68), op := .extract (.tmp 63) 1, ty := 33, guard := none },
  { dst := (some 13), op := .assign (.tmp 67), ty := 22, guard := none },
  { dst := (some 14), op := .assign (.tmp 68), ty := 33, guard := none }]
def c6_25 : AC := .region o6_25 []
theorem n6_25 : Run Cx 6 T ds ro (.code c6_25 :: k) H Q = RunOps Cx 6 T ds ro o6_25 k H Q := run_region
def o6_27 : List AO := [{ dst := (some 69), op := .move (.tmp 12), ty := 33, guard := none },
  { dst := (some 70), op := .binOp .eql 33 (.tmp 69) (.const (.int .i64 0)) 33, ty := 4, guard := none },
  { dst := (some 71), op := .move (.tmp 70), ty := 4, guard := none },
  { dst := (some 72), op := .move (.tmp 14), ty := 33, guard := (some (71, true)) },
  { dst := (some 73), op := .binOp .eql 33 (.tmp 72) (.const (.int .i64 0)) 33, ty := 4, guard := (some (71, true)) },
  { dst := (some 74), op := .pick (.tmp 71) (.tmp 73) (.const (.bool false)), ty := 4, guard := none },
  { dst := (some 75), op := .move (.tmp 74), ty := 4, guard := none },
  { dst := (some 76), op := .move (.tmp 11), ty := 22, guard := (some (75, true)) },
  { dst := (some 77), op := .move (.tmp 0), ty := 22, guard := (some (75, true)) },
  { dst := (some 78), op := .call { callee := (.value (.func 22)), args := #[(.tmp 77)], argTypes := #[22] }, ty := 22, guard := (some (75, true)) },
  { dst := (some 79), op := .call { callee := (.value (.func 18)), args := #[(.tmp 76), (.tmp 78)], argTypes := #[22, 22] }, ty := 4, guard := (some (75, true)) },
  { dst := (some 80), op := .pick (.tmp 75) (.tmp 79) (.const (.bool false)), ty := 4, guard := none },
  { dst := (some 81), op := .move (.tmp 80), ty := 4, guard := none },
  { dst := (some 82), op := .move (.tmp 11), ty := 22, guard := (some (81, true)) },
  { dst := (some 83), op := .move (.tmp 13), ty := 22, guard := (some (81, true)) },
  { dst := (some 84), op := .call { callee := (.value (.func 18)), args := #[(.tmp 82), (.tmp 83)], argTypes := #[22, 22] }, ty := 4, guard := (some (81, true)) },
  { dst := (some 85), op := .pick (.tmp 81) (.tmp 84) (.const (.bool false)), ty := 4, guard := none },
  { dst := (some 6), op := .assign (.tmp 85), ty := 4, guard := none }]
def c6_27 : AC := .region o6_27 []
theorem n6_27 : Run Cx 6 T ds ro (.code c6_27 :: k) H Q = RunOps Cx 6 T ds ro o6_27 k H Q := run_region
def c6_28 : AC := .ret
theorem n6_28 : Run Cx 6 T [] none (.code c6_28 :: k) H Q = RunRes Cx T H Q (resOf Cx 6) := run_ret
def c6_26 : AC := .seq c6_27 c6_28
theorem n6_26 : Run Cx 6 T ds ro (.code c6_26 :: k) H Q = Run Cx 6 T ds ro (.code c6_27 :: .code c6_28 :: k) H Q := run_seq
def c6_24 : AC := .seq c6_25 c6_26
theorem n6_24 : Run Cx 6 T ds ro (.code c6_24 :: k) H Q = Run Cx 6 T ds ro (.code c6_25 :: .code c6_26 :: k) H Q := run_seq
def c6_22 : AC := .seq c6_23 c6_24
theorem n6_22 : Run Cx 6 T ds ro (.code c6_22 :: k) H Q = Run Cx 6 T ds ro (.code c6_23 :: .code c6_24 :: k) H Q := run_seq
def c6_14 : AC := .seq c6_15 c6_22
theorem n6_14 : Run Cx 6 T ds ro (.code c6_14 :: k) H Q = Run Cx 6 T ds ro (.code c6_15 :: .code c6_22 :: k) H Q := run_seq
def c6_12 : AC := .seq c6_13 c6_14
theorem n6_12 : Run Cx 6 T ds ro (.code c6_12 :: k) H Q = Run Cx 6 T ds ro (.code c6_13 :: .code c6_14 :: k) H Q := run_seq
def c6_10 : AC := .seq c6_11 c6_12
theorem n6_10 : Run Cx 6 T ds ro (.code c6_10 :: k) H Q = Run Cx 6 T ds ro (.code c6_11 :: .code c6_12 :: k) H Q := run_seq
def c6_2 : AC := .seq c6_3 c6_10
theorem n6_2 : Run Cx 6 T ds ro (.code c6_2 :: k) H Q = Run Cx 6 T ds ro (.code c6_3 :: .code c6_10 :: k) H Q := run_seq
def c6_0 : AC := .seq c6_1 c6_2
theorem n6_0 : Run Cx 6 T ds ro (.code c6_0 :: k) H Q = Run Cx 6 T ds ro (.code c6_1 :: .code c6_2 :: k) H Q := run_seq
theorem body6 : bodyOf Cx 6 = some c6_0 := by kernel_rfl
theorem res6 : resOf Cx 6 = some [.tmp 6] := by kernel_rfl
theorem pure6 : Cx.pure 6 = true := by kernel_rfl
-- RULES 6: n6_0, n6_1, n6_2, n6_3, n6_4, n6_5, n6_6, n6_7, n6_8, n6_9, n6_10, n6_11, n6_12, n6_13, n6_14, n6_15, n6_16, n6_17, n6_18, n6_19, n6_20, n6_21, n6_22, n6_23, n6_24, n6_25, n6_26, n6_27, n6_28
def o7_1 : List AO := [{ dst := (some 0), op := .assign (.const (.bool false)), ty := 4, guard := none }]
def c7_1 : AC := .region o7_1 []
theorem n7_1 : Run Cx 7 T ds ro (.code c7_1 :: k) H Q = RunOps Cx 7 T ds ro o7_1 k H Q := run_region
def o7_3 : List AO := [{ dst := (some 5), op := .call { callee := (.value (.func 14)), args := #[(.const (.int .i64 2))], argTypes := #[3] }, ty := 34, guard := none },
  { dst := (some 4), op := .move (.tmp 5), ty := 34, guard := none },
  { dst := (some 6), op := .extract (.tmp 4) 0, ty := 26, guard := none },
  { dst := (some 7), op := .extract (.tmp 4) 1, ty := 33, guard := none },
  { dst := (some 1), op := .assign (.tmp 6), ty := 26, guard := none },
  { dst := (some 2), op := .assign (.tmp 7), ty := 33, guard := none }]
def c7_3 : AC := .region o7_3 []
theorem n7_3 : Run Cx 7 T ds ro (.code c7_3 :: k) H Q = RunOps Cx 7 T ds ro o7_3 k H Q := run_region
def o7_5 : List AO := [{ dst := (some 8), op := .move (.tmp 1), ty := 26, guard := none },
  { dst := (some 9), op := .build 42 #[(0, (.const (.string ⟨#[98]⟩)))], ty := 42, guard := none },
  { dst := (some 10), op := .call { callee := (.value (.func 15)), args := #[(.tmp 8), (.tmp 9)], argTypes := #[26, 42] }, ty := 33, guard := none }]
def c7_5 : AC := .region o7_5 []
theorem n7_5 : Run Cx 7 T ds ro (.code c7_5 :: k) H Q = RunOps Cx 7 T ds ro o7_5 k H Q := run_region
def o7_7 : List AO := [{ dst := (some 11), op := .move (.tmp 1), ty := 26, guard := none },
  { dst := (some 12), op := .build 42 #[(0, (.const (.string ⟨#[97]⟩)))], ty := 42, guard := none },
  { dst := (some 13), op := .call { callee := (.value (.func 15)), args := #[(.tmp 11), (.tmp 12)], argTypes := #[26, 42] }, ty := 33, guard := none }]
def c7_7 : AC := .region o7_7 []
theorem n7_7 : Run Cx 7 T ds ro (.code c7_7 :: k) H Q = RunOps Cx 7 T ds ro o7_7 k H Q := run_region
def o7_9 : List AO := [{ dst := (some 14), op := .move (.tmp 1), ty := 26, guard := none },
  { dst := (some 15), op := .build 42 #[(0, (.const (.string ⟨#[99]⟩)))], ty := 42, guard := none },
  { dst := (some 16), op := .call { callee := (.value (.func 15)), args := #[(.tmp 14), (.tmp 15)], argTypes := #[26, 42] }, ty := 33, guard := none }]
def c7_9 : AC := .region o7_9 []
theorem n7_9 : Run Cx 7 T ds ro (.code c7_9 :: k) H Q = RunOps Cx 7 T ds ro o7_9 k H Q := run_region
def o7_11 : List AO := [{ dst := (some 17), op := .move (.tmp 1), ty := 26, guard := none },
  { dst := (some 18), op := .call { callee := (.value (.func 11)), args := #[(.tmp 17)], argTypes := #[26] }, ty := 29, guard := none },
  { dst := (some 3), op := .assign (.tmp 18), ty := 29, guard := none }]
def c7_11 : AC := .region o7_11 []
theorem n7_11 : Run Cx 7 T ds ro (.code c7_11 :: k) H Q = RunOps Cx 7 T ds ro o7_11 k H Q := run_region
def o7_13 : List AO := [{ dst := (some 19), op := .move (.tmp 2), ty := 33, guard := none },
  { dst := (some 20), op := .binOp .eql 33 (.tmp 19) (.const (.int .i64 0)) 33, ty := 4, guard := none },
  { dst := (some 21), op := .move (.tmp 20), ty := 4, guard := none },
  { dst := (some 22), op := .move (.tmp 3), ty := 29, guard := (some (21, true)) },
  { dst := (some 23), op := .call { callee := (.builtin .len), args := #[(.tmp 22)], argTypes := #[29] }, ty := 3, guard := (some (21, true)) },
  { dst := (some 24), op := .binOp .eql 3 (.tmp 23) (.const (.int .i64 2)) 3, ty := 4, guard := (some (21, true)) },
  { dst := (some 25), op := .pick (.tmp 21) (.tmp 24) (.const (.bool false)), ty := 4, guard := none },
  { dst := (some 26), op := .move (.tmp 25), ty := 4, guard := none },
  { dst := (some 27), op := .move (.tmp 3), ty := 29, guard := (some (26, true)) },
  { dst := (some 28), op := .indexAddr 29 (.tmp 27) (.const (.int .i64 0)), ty := 0, guard := (some (26, true)) },
  { dst := (some 29), op := .load 22 (.tmp 28), ty := 22, guard := (some (26, true)) },
  { dst := (some 30), op := .call { callee := (.builtin .len), args := #[(.tmp 29)], argTypes := #[22] }, ty := 3, guard := (some (26, true)) },
  { dst := (some 31), op := .binOp .eql 3 (.tmp 30) (.const (.int .i64 2)) 3, ty := 4, guard := (some (26, true)) },
  { dst := (some 32), op := .pick (.tmp 26) (.tmp 31) (.const (.bool false)), ty := 4, guard := none },
  { dst := (some 33), op := .move (.tmp 32), ty := 4, guard := none },
  { dst := (some 34), op := .move (.tmp 3), ty := 29, guard := (some (33, true)) },
  { dst := (some 35), op := .indexAddr 29 (.tmp 34) (.const (.int .i64 0)), ty := 0, guard := (some (33, true)) },
  { dst := (some 36), op := .load 22 (.tmp 35), ty := 22, guard := (some (33, true)) },
  { dst := (some 37), op := .indexAddr 22 (.tmp 36) (.const (.int .i64 0)), ty := 0, guard := (some (33, true)) },
  { dst := (some 38), op := .fieldAddr 42 (.tmp 37) 0, ty := 0, guard := (some (33, true)) },
  { dst := (some 39), op := .load 9 (.tmp 38), ty := 9, guard := (some (33, true)) },
  { dst := (some 40), op := .binOp .eql 9 (.tmp 39) (.const (.string ⟨#[97]⟩)) 9, ty := 4, guard := (some (33, true)) },
  { dst := (some 41), op := .pick (.tmp 33) (.tmp 40) (.const (.bool false)), ty := 4, guard := none },
  { dst := (some 42), op := .move (.tmp 41), ty := 4, guard := none },
  { dst := (some 43), op := .move (.tmp 3), ty := 29, guard := (some (42, true)) },
  { dst := (some 44), op := .indexAddr 29 (.tmp 43) (.const (.int .i64 1)), ty := 0, guard := (some (42, true)) },
  { dst := (some 45), op := .load 22 (.tmp 44), ty := 22, guard := (some (42, true)) },
  { dst := (some 46), op := .indexAddr 22 (.tmp 45) (.const (.int .i64 0)), ty := 0, guard := (some (42, true)) },
  { dst := (some 47), op := .fieldAddr 42 (.tmp 46) 0, ty := 0, guard := (some (42, true)) },
  { dst := (some 48), op := .load 9 (.tmp 47), ty := 9, guard := (some (42, true)) },
  { dst := (some 49), op := .binOp .eql 9 (.tmp 48) (.const (.string ⟨#[99]⟩)) 9, ty := 4, guard := (some (42, true)) },
  { dst := (some 50), op := .pick (.tmp 42) (.tmp 49) (.const (.bool false)), ty := 4, guard := none },
  { dst := (some 0), op := .assign (.tmp 50), ty := 4, guard := none }]
def c7_13 : AC := .region o7_13 []
theorem n7_13 : Run Cx 7 T ds ro (.code c7_13 :: k) H Q = RunOps Cx 7 T ds ro o7_13 k H Q := run_region
def c7_14 : AC := .ret
theorem n7_14 : Run Cx 7 T [] none (.code c7_14 :: k) H Q = RunRes Cx T H Q (resOf Cx 7) := run_ret
def c7_12 : AC := .seq c7_13 c7_14
theorem n7_12 : Run Cx 7 T ds ro (.code c7_12 :: k) H Q = Run Cx 7 T ds ro (.code c7_13 :: .code c7_14 :: k) H Q := run_seq
def c7_10 : AC := .seq c7_11 c7_12
theorem n7_10 : Run Cx 7 T ds ro (.code c7_10 :: k) H Q = Run Cx 7 T ds ro (.code c7_11 :: .code c7_12 :: k) H Q := run_seq
def c7_8 : AC := .seq c7_9 c7_10
theorem n7_8 : Run Cx 7 T ds ro (.code c7_8 :: k) H Q = Run Cx 7 T ds ro (.code c7_9 :: .code c7_10 :: k) H Q := run_seq
def c7_6 : AC := .seq c7_7 c7_8
theorem n7_6 : Run Cx 7 T ds ro (.code c7_6 :: k) H Q = Run Cx 7 T ds ro (.code c7_7 :: .code c7_8 :: k) H Q := run_seq
def c7_4 : AC := .seq c7_5 c7_6
theorem n7_4 : Run Cx 7 T ds ro (.code c7_4 :: k) H Q = Run Cx 7 T ds ro (.code c7_5 :: .code c7_6 :: k) H Q := run_seq
def c7_2 : AC := .seq c7_3 c7_4
theorem n7_2 : Run Cx 7 T ds ro (.code c7_2 :: k) H Q = Run Cx 7 T ds ro (.code c7_3 :: .code c7_4 :: k) H Q := run_seq
def c7_0 : AC := .seq c7_1 c7_2
theorem n7_0 : Run Cx 7 T ds ro (.code c7_0 :: k) H Q = Run Cx 7 T ds ro (.code c7_1 :: .code c7_2 :: k) H Q := run_seq
theorem body7 : bodyOf Cx 7 = some c7_0 := by kernel_rfl
theorem res7 : resOf Cx 7 = some [.tmp 0] := by kernel_rfl
theorem pure7 : Cx.pure 7 = true := by kernel_rfl
-- RULES 7: n7_0, n7_1, n7_2, n7_3, n7_4, n7_5, n7_6, n7_7, n7_8, n7_9, n7_10, n7_11, n7_12, n7_13, n7_14
def o8_1 : List AO := [{ dst := (some 2), op := .assign (.const (.int .i64 0)), ty := 3, guard := none }]
def c8_1 : AC := .region o8_1 []
theorem n8_1 : Run Cx 8 T ds ro (.code c8_1 :: k) H Q = RunOps Cx 8 T ds ro o8_1 k H Q := run_region
def o8_3 : List AO := [{ dst := (some 3), op := .assign (.const (.int .i64 0)), ty := 3, guard := none }]
def c8_3 : AC := .region o8_3 []
theorem n8_3 : Run Cx 8 T ds ro (.code c8_3 :: k) H Q = RunOps Cx 8 T ds ro o8_3 k H Q := run_region
def o8_6 : List AO := [{ dst := (some 4), op := .assign (.const (.int .i64 0)), ty := 3, guard := none }]
def c8_6 : AC := .region o8_6 []
theorem n8_6 : Run Cx 8 T ds ro (.code c8_6 :: k) H Q = RunOps Cx 8 T ds ro o8_6 k H Q := run_region
def o8_11 : List AO := [{ dst := (some 5), op := .move (.tmp 4), ty := 3, guard := none },
  { dst := (some 6), op := .move (.tmp 0), ty := 22, guard := none },
  { dst := (some 7), op := .call { callee := (.builtin .len), args := #[(.tmp 6)], argTypes := #[22] }, ty := 3, guard := none },
  { dst := (some 8), op := .binOp .lss 3 (.tmp 5) (.tmp 7) 3, ty := 4, guard := none },
  { dst := (some 9), op := .move (.tmp 8), ty := 4, guard := none },
  { dst := (some 10), op := .move (.tmp 4), ty := 3, guard := (some (9, true)) },
  { dst := (some 11), op := .binOp .leq 3 (.tmp 10) (.const (.int .i64 100)) 3, ty := 4, guard := (some (9, true)) },
  { dst := (some 12), op := .pick (.tmp 9) (.tmp 11) (.const (.bool false)), ty := 4, guard := none }]
def c8_11 : AC := .region o8_11 []
theorem n8_11 : Run Cx 8 T ds ro (.code c8_11 :: k) H Q = RunOps Cx 8 T ds ro o8_11 k H Q := run_region
def c8_13 : AC := .skip
theorem n8_13 : Run Cx 8 T ds ro (.code c8_13 :: k) H Q = Run Cx 8 T ds ro (k) H Q := run_skip
def c8_14 : AC := .exit 0
theorem n8_14 : Run Cx 8 T ds ro (.code c8_14 :: k) H Q = RunExit Cx 8 T ds ro 0 k k H Q := run_exit_start
def c8_12 : AC := .cond (.tmp 12) c8_13 c8_14
theorem n8_12 : Run Cx 8 T ds ro (.code c8_12 :: k) H Q = RunCond Cx 8 T ds ro (.tmp 12) (ev T (.tmp 12)) c8_13 c8_14 k H Q := run_condC
def c8_10 : AC := .seq c8_11 c8_12
theorem n8_10 : Run Cx 8 T ds ro (.code c8_10 :: k) H Q = Run Cx 8 T ds ro (.code c8_11 :: .code c8_12 :: k) H Q := run_seq
def o8_17 : List AO := [{ dst := (some 15), op := .move (.tmp 3), ty := 3, guard := none },
  { dst := (some 16), op := .move (.tmp 0), ty := 22, guard := none },
  { dst := (some 17), op := .move (.tmp 4), ty := 3, guard := none },
  { dst := (some 18), op := .indexAddr 22 (.tmp 16) (.tmp 17), ty := 0, guard := none },
  { dst := (some 19), op := .fieldAddr 42 (.tmp 18) 0, ty := 0, guard := none },
  { dst := (some 20), op := .load 9 (.tmp 19), ty := 9, guard := none },
  { dst := (some 21), op := .call { callee := (.builtin .len), args := #[(.tmp 20)], argTypes := #[9] }, ty := 3, guard := none },
  { dst := (some 22), op := .call { callee := (.builtin .min), args := #[(.tmp 21), (.const (.int .i64 100000))], argTypes := #[3, 3] }, ty := 3, guard := none },
  { dst := (some 23), op := .binOp .add 3 (.tmp 15) (.tmp 22) 3, ty := 3, guard := none },
  { dst := (some 24), op := .move (.tmp 0), ty := 22, guard := none },
  { dst := (some 25), op := .move (.tmp 4), ty := 3, guard := none },
  { dst := (some 26), op := .indexAddr 22 (.tmp 24) (.tmp 25), ty := 0, guard := none },
  { dst := (some 27), op := .fieldAddr 42 (.tmp 26) 1, ty := 0, guard := none },
  { dst := (some 28), op := .fieldAddr 40 (.tmp 27) 2, ty := 0, guard := none },
  { dst := (some 29), op := .load 9 (.tmp 28), ty := 9, guard := none },
  { dst := (some 30), op := .call { callee := (.builtin .len), args := #[(.tmp 29)], argTypes := #[9] }, ty := 3, guard := none },
  { dst := (some 31), op := .call { callee := (.builtin .min), args := #[(.tmp 30), (.const (.int .i64 100000))], argTypes := #[3, 3] }, ty := 3, guard := none },
  { dst := (some 32), op := .binOp .add 3 (.tmp 23) (.tmp 31) 3, ty := 3, guard := none },
  { dst := (some 3), op := .assign (.tmp 32), ty := 3, guard := none }]
def c8_17 : AC := .region o8_17 []
theorem n8_17 : Run Cx 8 T ds ro (.code c8_17 :: k) H Q = RunOps Cx 8 T ds ro o8_17 k H Q := run_region
def c8_16 : AC := .block 1 c8_17
theorem n8_16 : Run Cx 8 T ds ro (.code c8_16 :: k) H Q = Run Cx 8 T ds ro (.code c8_17 :: .inBlock 1 :: k) H Q := run_block
def o8_18 : List AO := [{ dst := (some 13), op := .move (.tmp 4), ty := 3, guard := none },
  { dst := (some 14), op := .binOp .add 3 (.tmp 13) (.const (.int .i64 1)) 3, ty := 3, guard := none },
  { dst := (some 4), op := .assign (.tmp 14), ty := 3, guard := none }]
def c8_18 : AC := .region o8_18 []
theorem n8_18 : Run Cx 8 T ds ro (.code c8_18 :: k) H Q = RunOps Cx 8 T ds ro o8_18 k H Q := run_region
def c8_15 : AC := .seq c8_16 c8_18
theorem n8_15 : Run Cx 8 T ds ro (.code c8_15 :: k) H Q = Run Cx 8 T ds ro (.code c8_16 :: .code c8_18 :: k) H Q := run_seq
def c8_9 : AC := .seq c8_10 c8_15
theorem n8_9 : Run Cx 8 T ds ro (.code c8_9 :: k) H Q = Run Cx 8 T ds ro (.code c8_10 :: .code c8_15 :: k) H Q := run_seq
def c8_8 : AC := .loop c8_9
theorem n8_8 : Run Cx 8 T ds ro (.code c8_8 :: k) H Q = Run Cx 8 T ds ro (.inLoop c8_9 :: k) H Q := run_loop'
def c8_7 : AC := .block 0 c8_8
theorem n8_7 : Run Cx 8 T ds ro (.code c8_7 :: k) H Q = Run Cx 8 T ds ro (.code c8_8 :: .inBlock 0 :: k) H Q := run_block
def c8_5 : AC := .seq c8_6 c8_7
theorem n8_5 : Run Cx 8 T ds ro (.code c8_5 :: k) H Q = Run Cx 8 T ds ro (.code c8_6 :: .code c8_7 :: k) H Q := run_seq
def o8_21 : List AO := [{ dst := (some 33), op := .move (.tmp 0), ty := 22, guard := none },
  { dst := (some 34), op := .call { callee := (.builtin .len), args := #[(.tmp 33)], argTypes := #[22] }, ty := 3, guard := none },
  { dst := (some 35), op := .binOp .gtr 3 (.tmp 34) (.const (.int .i64 100)) 3, ty := 4, guard := none },
  { dst := (some 36), op := .move (.tmp 35), ty := 4, guard := none },
  { dst := (some 37), op := .move (.tmp 3), ty := 3, guard := (some (36, false)) },
  { dst := (some 38), op := .binOp .gtr 3 (.tmp 37) (.const (.int .i64 10000)) 3, ty := 4, guard := (some (36, false)) },
  { dst := (some 39), op := .pick (.tmp 36) (.const (.bool true)) (.tmp 38), ty := 4, guard := none }]
def c8_21 : AC := .region o8_21 []
theorem n8_21 : Run Cx 8 T ds ro (.code c8_21 :: k) H Q = RunOps Cx 8 T ds ro o8_21 k H Q := run_region
def o8_24 : List AO := [{ dst := (some 2), op := .assign (.const (.int .i64 0)), ty := 3, guard := none }]
def c8_24 : AC := .region o8_24 []
theorem n8_24 : Run Cx 8 T ds ro (.code c8_24 :: k) H Q = RunOps Cx 8 T ds ro o8_24 k H Q := run_region
def c8_25 : AC := .ret
theorem n8_25 : Run Cx 8 T [] none (.code c8_25 :: k) H Q = RunRes Cx T H Q (resOf Cx 8) := run_ret
def c8_23 : AC := .seq c8_24 c8_25
theorem n8_23 : Run Cx 8 T ds ro (.code c8_23 :: k) H Q = Run Cx 8 T ds ro (.code c8_24 :: .code c8_25 :: k) H Q := run_seq
def c8_26 : AC := .skip
theorem n8_26 : Run Cx 8 T ds ro (.code c8_26 :: k) H Q = Run Cx 8 T ds ro (k) H Q := run_skip
def c8_22 : AC := .cond (.tmp 39) c8_23 c8_26
theorem n8_22 : Run Cx 8 T ds ro (.code c8_22 :: k) H Q = RunCond Cx 8 T ds ro (.tmp 39) (ev T (.tmp 39)) c8_23 c8_26 k H Q := run_condC
def c8_20 : AC := .seq c8_21 c8_22
theorem n8_20 : Run Cx 8 T ds ro (.code c8_20 :: k) H Q = Run Cx 8 T ds ro (.code c8_21 :: .code c8_22 :: k) H Q := run_seq
def o8_28 : List AO := [{ dst := (some 2), op := .assign (.const (.int .i64 1)), ty := 3, guard := none }]
def c8_28 : AC := .region o8_28 []
theorem n8_28 : Run Cx 8 T ds ro (.code c8_28 :: k) H Q = RunOps Cx 8 T ds ro o8_28 k H Q := run_region
def c8_29 : AC := .ret
theorem n8_29 : Run Cx 8 T [] none (.code c8_29 :: k) H Q = RunRes Cx T H Q (resOf Cx 8) := run_ret
def c8_27 : AC := .seq c8_28 c8_29
theorem n8_27 : Run Cx 8 T ds ro (.code c8_27 :: k) H Q = Run Cx 8 T ds ro (.code c8_28 :: .code c8_29 :: k) H Q := run_seq
def c8_19 : AC := .seq c8_20 c8_27
theorem n8_19 : Run Cx 8 T ds ro (.code c8_19 :: k) H Q = Run Cx 8 T ds ro (.code c8_20 :: .code c8_27 :: k) H Q := run_seq
def c8_4 : AC := .seq c8_5 c8_19
theorem n8_4 : Run Cx 8 T ds ro (.code c8_4 :: k) H Q = Run Cx 8 T ds ro (.code c8_5 :: .code c8_19 :: k) H Q := run_seq
def c8_2 : AC := .seq c8_3 c8_4
theorem n8_2 : Run Cx 8 T ds ro (.code c8_2 :: k) H Q = Run Cx 8 T ds ro (.code c8_3 :: .code c8_4 :: k) H Q := run_seq
def c8_0 : AC := .seq c8_1 c8_2
theorem n8_0 : Run Cx 8 T ds ro (.code c8_0 :: k) H Q = Run Cx 8 T ds ro (.code c8_1 :: .code c8_2 :: k) H Q := run_seq
theorem body8 : bodyOf Cx 8 = some c8_0 := by kernel_rfl
theorem res8 : resOf Cx 8 = some [.tmp 2] := by kernel_rfl
theorem pure8 : Cx.pure 8 = true := by kernel_rfl
-- RULES 8: n8_0, n8_1, n8_2, n8_3, n8_4, n8_5, n8_6, n8_7, n8_8, n8_9, n8_10, n8_11, n8_12, n8_13, n8_14, n8_15, n8_16, n8_17, n8_18, n8_19, n8_20, n8_21, n8_22, n8_23, n8_24, n8_25, n8_26, n8_27, n8_28, n8_29
def o9_1 : List AO := [{ dst := (some 2), op := .assign (.const (.bool false)), ty := 4, guard := none }]
def c9_1 : AC := .region o9_1 []
theorem n9_1 : Run Cx 9 T ds ro (.code c9_1 :: k) H Q = RunOps Cx 9 T ds ro o9_1 k H Q := run_region
def o9_3 : List AO := [{ dst := (some 3), op := .move (.tmp 0), ty := 22, guard := none },
  { dst := (some 4), op := .call { callee := (.value (.func 23)), args := #[(.tmp 3), (.func 24)], argTypes := #[22, 50] }, ty := 4, guard := none },
  { dst := (some 5), op := .unOp .not 4 (.tmp 4), ty := 4, guard := none },
  { dst := (some 2), op := .assign (.tmp 5), ty := 4, guard := none }]
def c9_3 : AC := .region o9_3 []
theorem n9_3 : Run Cx 9 T ds ro (.code c9_3 :: k) H Q = RunOps Cx 9 T ds ro o9_3 k H Q := run_region
def c9_4 : AC := .ret
theorem n9_4 : Run Cx 9 T [] none (.code c9_4 :: k) H Q = RunRes Cx T H Q (resOf Cx 9) := run_ret
def c9_2 : AC := .seq c9_3 c9_4
theorem n9_2 : Run Cx 9 T ds ro (.code c9_2 :: k) H Q = Run Cx 9 T ds ro (.code c9_3 :: .code c9_4 :: k) H Q := run_seq
def c9_0 : AC := .seq c9_1 c9_2
theorem n9_0 : Run Cx 9 T ds ro (.code c9_0 :: k) H Q = Run Cx 9 T ds ro (.code c9_1 :: .code c9_2 :: k) H Q := run_seq
theorem body9 : bodyOf Cx 9 = some c9_0 := by kernel_rfl
theorem res9 : resOf Cx 9 = some [.tmp 2] := by kernel_rfl
theorem pure9 : Cx.pure 9 = true := by kernel_rfl
-- RULES 9: n9_0, n9_1, n9_2, n9_3, n9_4
def o10_1 : List AO := [{ dst := (some 4), op := .assign (.const (.pointer none)), ty := 26, guard := none },
  { dst := (some 5), op := .assign (.const (.bool false)), ty := 4, guard := none }]
def c10_1 : AC := .region o10_1 []
theorem n10_1 : Run Cx 10 T ds ro (.code c10_1 :: k) H Q = RunOps Cx 10 T ds ro o10_1 k H Q := run_region
def o10_3 : List AO := [{ dst := (some 10), op := .move (.tmp 1), ty := 3, guard := none },
  { dst := (some 11), op := .call { callee := (.value (.func 14)), args := #[(.tmp 10)], argTypes := #[3] }, ty := 34, guard := none },
  { dst := (some 9), op := .move (.tmp 11), ty := 34, guard := none },
  { dst := (some 12), op := .extract (.tmp 9) 0, ty := 26, guard := none },
  { dst := (some 13), op := .extract (.tmp 9) 1, ty := 33, guard := none },
  { dst := (some 6), op := .assign (.tmp 12), ty := 26, guard := none },
  { dst := (some 7), op := .assign (.tmp 13), ty := 33, guard := none }]
def c10_3 : AC := .region o10_3 []
theorem n10_3 : Run Cx 10 T ds ro (.code c10_3 :: k) H Q = RunOps Cx 10 T ds ro o10_3 k H Q := run_region
def o10_6 : List AO := [{ dst := (some 8), op := .assign (.const (.int .i64 0)), ty := 3, guard := none }]
def c10_6 : AC := .region o10_6 []
theorem n10_6 : Run Cx 10 T ds ro (.code c10_6 :: k) H Q = RunOps Cx 10 T ds ro o10_6 k H Q := run_region
def o10_11 : List AO := [{ dst := (some 14), op := .move (.tmp 8), ty := 3, guard := none },
  { dst := (some 15), op := .move (.tmp 0), ty := 22, guard := none },
  { dst := (some 16), op := .call { callee := (.builtin .len), args := #[(.tmp 15)], argTypes := #[22] }, ty := 3, guard := none },
  { dst := (some 17), op := .binOp .lss 3 (.tmp 14) (.tmp 16) 3, ty := 4, guard := none },
  { dst := (some 18), op := .move (.tmp 17), ty := 4, guard := none },
  { dst := (some 19), op := .move (.tmp 7), ty := 33, guard := (some (18, true)) },
  { dst := (some 20), op := .binOp .eql 33 (.tmp 19) (.const (.int .i64 0)) 33, ty := 4, guard := (some (18, true)) },
  { dst := (some 21), op := .pick (.tmp 18) (.tmp 20) (.const (.bool false)), ty := 4, guard := none }]
def c10_11 : AC := .region o10_11 []
theorem n10_11 : Run Cx 10 T ds ro (.code c10_11 :: k) H Q = RunOps Cx 10 T ds ro o10_11 k H Q := run_region
def c10_13 : AC := .skip
theorem n10_13 : Run Cx 10 T ds ro (.code c10_13 :: k) H Q = Run Cx 10 T ds ro (k) H Q := run_skip
def c10_14 : AC := .exit 0
theorem n10_14 : Run Cx 10 T ds ro (.code c10_14 :: k) H Q = RunExit Cx 10 T ds ro 0 k k H Q := run_exit_start
def c10_12 : AC := .cond (.tmp 21) c10_13 c10_14
theorem n10_12 : Run Cx 10 T ds ro (.code c10_12 :: k) H Q = RunCond Cx 10 T ds ro (.tmp 21) (ev T (.tmp 21)) c10_13 c10_14 k H Q := run_condC
def c10_10 : AC := .seq c10_11 c10_12
theorem n10_10 : Run Cx 10 T ds ro (.code c10_10 :: k) H Q = Run Cx 10 T ds ro (.code c10_11 :: .code c10_12 :: k) H Q := run_seq
def o10_18 : List AO := [{ dst := (some 24), op := .move (.tmp 6), ty := 26, guard := none },
  { dst := (some 25), op := .move (.tmp 0), ty := 22, guard := none },
  { dst := (some 26), op := .move (.tmp 8), ty := 3, guard := none },
  { dst := (some 27), op := .indexAddr 22 (.tmp 25) (.tmp 26), ty := 0, guard := none },
  { dst := (some 28), op := .load 42 (.tmp 27), ty := 42, guard := none },
  { dst := (some 29), op := .call { callee := (.value (.func 15)), args := #[(.tmp 24), (.tmp 28)], argTypes := #[26, 42] }, ty := 33, guard := none },
  { dst := (some 30), op := .binOp .neq 33 (.tmp 29) (.const (.int .i64 0)) 33, ty := 4, guard := none }]
def c10_18 : AC := .region o10_18 []
theorem n10_18 : Run Cx 10 T ds ro (.code c10_18 :: k) H Q = RunOps Cx 10 T ds ro o10_18 k H Q := run_region
def o10_21 : List AO := [{ dst := (some 4), op := .assign (.const (.pointer none)), ty := 26, guard := none },
  { dst := (some 5), op := .assign (.const (.bool false)), ty := 4, guard := none }]
def c10_21 : AC := .region o10_21 []
theorem n10_21 : Run Cx 10 T ds ro (.code c10_21 :: k) H Q = RunOps Cx 10 T ds ro o10_21 k H Q := run_region
def c10_22 : AC := .ret
theorem n10_22 : Run Cx 10 T [] none (.code c10_22 :: k) H Q = RunRes Cx T H Q (resOf Cx 10) := run_ret
def c10_20 : AC := .seq c10_21 c10_22
theorem n10_20 : Run Cx 10 T ds ro (.code c10_20 :: k) H Q = Run Cx 10 T ds ro (.code c10_21 :: .code c10_22 :: k) H Q := run_seq
def c10_23 : AC := .skip
theorem n10_23 : Run Cx 10 T ds ro (.code c10_23 :: k) H Q = Run Cx 10 T ds ro (k) H Q := run_skip
def c10_19 : AC := .cond (.tmp 30) c10_20 c10_23
theorem n10_19 : Run Cx 10 T ds ro (.code c10_19 :: k) H Q = RunCond Cx 10 T ds ro (.tmp 30) (ev T (.tmp 30)) c10_20 c10_23 k H Q := run_condC
def c10_17 : AC := .seq c10_18 c10_19
theorem n10_17 : Run Cx 10 T ds ro (.code c10_17 :: k) H Q = Run Cx 10 T ds ro (.code c10_18 :: .code c10_19 :: k) H Q := run_seq
def c10_16 : AC := .block 1 c10_17
theorem n10_16 : Run Cx 10 T ds ro (.code c10_16 :: k) H Q = Run Cx 10 T ds ro (.code c10_17 :: .inBlock 1 :: k) H Q := run_block
def o10_24 : List AO := [{ dst := (some 22), op := .move (.tmp 8), ty := 3, guard := none },
  { dst := (some 23), op := .binOp .add 3 (.tmp 22) (.const (.int .i64 1)) 3, ty := 3, guard := none },
  { dst := (some 8), op := .assign (.tmp 23), ty := 3, guard := none }]
def c10_24 : AC := .region o10_24 []
theorem n10_24 : Run Cx 10 T ds ro (.code c10_24 :: k) H Q = RunOps Cx 10 T ds ro o10_24 k H Q := run_region
def c10_15 : AC := .seq c10_16 c10_24
theorem n10_15 : Run Cx 10 T ds ro (.code c10_15 :: k) H Q = Run Cx 10 T ds ro (.code c10_16 :: .code c10_24 :: k) H Q := run_seq
def c10_9 : AC := .seq c10_10 c10_15
theorem n10_9 : Run Cx 10 T ds ro (.code c10_9 :: k) H Q = Run Cx 10 T ds ro (.code c10_10 :: .code c10_15 :: k) H Q := run_seq
def c10_8 : AC := .loop c10_9
theorem n10_8 : Run Cx 10 T ds ro (.code c10_8 :: k) H Q = Run Cx 10 T ds ro (.inLoop c10_9 :: k) H Q := run_loop'
def c10_7 : AC := .block 0 c10_8
theorem n10_7 : Run Cx 10 T ds ro (.code c10_7 :: k) H Q = Run Cx 10 T ds ro (.code c10_8 :: .inBlock 0 :: k) H Q := run_block
def c10_5 : AC := .seq c10_6 c10_7
theorem n10_5 : Run Cx 10 T ds ro (.code c10_5 :: k) H Q = Run Cx 10 T ds ro (.code c10_6 :: .code c10_7 :: k) H Q := run_seq
def o10_26 : List AO := [{ dst := (some 31), op := .move (.tmp 6), ty := 26, guard := none },
  { dst := (some 32), op := .move (.tmp 7), ty := 33, guard := none },
  { dst := (some 33), op := .binOp .eql 33 (.tmp 32) (.const (.int .i64 0)) 33, ty := 4, guard := none },
  { dst := (some 4), op := .assign (.tmp 31), ty := 26, guard := none },
  { dst := (some 5), op := .assign (.tmp 33), ty := 4, guard := none }]
def c10_26 : AC := .region o10_26 []
theorem n10_26 : Run Cx 10 T ds ro (.code c10_26 :: k) H Q = RunOps Cx 10 T ds ro o10_26 k H Q := run_region
def c10_27 : AC := .ret
theorem n10_27 : Run Cx 10 T [] none (.code c10_27 :: k) H Q = RunRes Cx T H Q (resOf Cx 10) := run_ret
def c10_25 : AC := .seq c10_26 c10_27
theorem n10_25 : Run Cx 10 T ds ro (.code c10_25 :: k) H Q = Run Cx 10 T ds ro (.code c10_26 :: .code c10_27 :: k) H Q := run_seq
def c10_4 : AC := .seq c10_5 c10_25
theorem n10_4 : Run Cx 10 T ds ro (.code c10_4 :: k) H Q = Run Cx 10 T ds ro (.code c10_5 :: .code c10_25 :: k) H Q := run_seq
def c10_2 : AC := .seq c10_3 c10_4
theorem n10_2 : Run Cx 10 T ds ro (.code c10_2 :: k) H Q = Run Cx 10 T ds ro (.code c10_3 :: .code c10_4 :: k) H Q := run_seq
def c10_0 : AC := .seq c10_1 c10_2
theorem n10_0 : Run Cx 10 T ds ro (.code c10_0 :: k) H Q = Run Cx 10 T ds ro (.code c10_1 :: .code c10_2 :: k) H Q := run_seq
theorem body10 : bodyOf Cx 10 = some c10_0 := by kernel_rfl
theorem res10 : resOf Cx 10 = some [.tmp 4, .tmp 5] := by kernel_rfl
theorem pure10 : Cx.pure 10 = false := by kernel_rfl
-- RULES 10: n10_0, n10_1, n10_2, n10_3, n10_4, n10_5, n10_6, n10_7, n10_8, n10_9, n10_10, n10_11, n10_12, n10_13, n10_14, n10_15, n10_16, n10_17, n10_18, n10_19, n10_20, n10_21, n10_22, n10_23, n10_24, n10_25, n10_26, n10_27
def o11_1 : List AO := [{ dst := (some 2), op := .assign (.const (.slice none 0 0)), ty := 29, guard := none }]
def c11_1 : AC := .region o11_1 []
theorem n11_1 : Run Cx 11 T ds ro (.code c11_1 :: k) H Q = RunOps Cx 11 T ds ro o11_1 k H Q := run_region
def o11_4 : List AO := [{ dst := (some 6), op := .move (.tmp 0), ty := 26, guard := none },
  { dst := (some 7), op := .binOp .eql 26 (.tmp 6) (.const (.pointer none)) 26, ty := 4, guard := none }]
def c11_4 : AC := .region o11_4 []
theorem n11_4 : Run Cx 11 T ds ro (.code c11_4 :: k) H Q = RunOps Cx 11 T ds ro o11_4 k H Q := run_region
def o11_7 : List AO := [{ dst := (some 2), op := .assign (.const (.slice none 0 0)), ty := 29, guard := none }]
def c11_7 : AC := .region o11_7 []
theorem n11_7 : Run Cx 11 T ds ro (.code c11_7 :: k) H Q = RunOps Cx 11 T ds ro o11_7 k H Q := run_region
def c11_8 : AC := .ret
theorem n11_8 : Run Cx 11 T [] none (.code c11_8 :: k) H Q = RunRes Cx T H Q (resOf Cx 11) := run_ret
def c11_6 : AC := .seq c11_7 c11_8
theorem n11_6 : Run Cx 11 T ds ro (.code c11_6 :: k) H Q = Run Cx 11 T ds ro (.code c11_7 :: .code c11_8 :: k) H Q := run_seq
def c11_9 : AC := .skip
theorem n11_9 : Run Cx 11 T ds ro (.code c11_9 :: k) H Q = Run Cx 11 T ds ro (k) H Q := run_skip
def c11_5 : AC := .cond (.tmp 7) c11_6 c11_9
theorem n11_5 : Run Cx 11 T ds ro (.code c11_5 :: k) H Q = RunCond Cx 11 T ds ro (.tmp 7) (ev T (.tmp 7)) c11_6 c11_9 k H Q := run_condC
def c11_3 : AC := .seq c11_4 c11_5
theorem n11_3 : Run Cx 11 T ds ro (.code c11_3 :: k) H Q = Run Cx 11 T ds ro (.code c11_4 :: .code c11_5 :: k) H Q := run_seq
def o11_11 : List AO := [{ dst := (some 3), op := .assign (.const (.slice none 0 0)), ty := 29, guard := none }]
def c11_11 : AC := .region o11_11 []
theorem n11_11 : Run Cx 11 T ds ro (.code c11_11 :: k) H Q = RunOps Cx 11 T ds ro o11_11 k H Q := run_region
def o11_14 : List AO := [{ dst := (some 8), op := .move (.tmp 0), ty := 26, guard := none },
  { dst := (some 9), op := .nilCheck (.tmp 8), ty := 0, guard := none },
  { dst := (some 10), op := .fieldAddr 57 (.tmp 9) 2, ty := 0, guard := none },
  { dst := (some 11), op := .load 29 (.tmp 10), ty := 29, guard := none },
  { dst := (some 12), op := .call { callee := (.builtin .len), args := #[(.tmp 11)], argTypes := #[29] }, ty := 3, guard := none },
  { dst := (some 13), op := .move (.const (.int .i64 0)), ty := 3, guard := none }]
def c11_14 : AC := .region o11_14 []
theorem n11_14 : Run Cx 11 T ds ro (.code c11_14 :: k) H Q = RunOps Cx 11 T ds ro o11_14 k H Q := run_region
def o11_18 : List AO := [{ dst := (some 14), op := .binOp .lss 3 (.tmp 13) (.tmp 12) 3, ty := 0, guard := none }]
def c11_18 : AC := .region o11_18 []
theorem n11_18 : Run Cx 11 T ds ro (.code c11_18 :: k) H Q = RunOps Cx 11 T ds ro o11_18 k H Q := run_region
def c11_21 : AC := .skip
theorem n11_21 : Run Cx 11 T ds ro (.code c11_21 :: k) H Q = Run Cx 11 T ds ro (k) H Q := run_skip
def c11_22 : AC := .exit 0
theorem n11_22 : Run Cx 11 T ds ro (.code c11_22 :: k) H Q = RunExit Cx 11 T ds ro 0 k k H Q := run_exit_start
def c11_20 : AC := .cond (.tmp 14) c11_21 c11_22
theorem n11_20 : Run Cx 11 T ds ro (.code c11_20 :: k) H Q = RunCond Cx 11 T ds ro (.tmp 14) (ev T (.tmp 14)) c11_21 c11_22 k H Q := run_condC
def o11_26 : List AO := [{ dst := (some 15), op := .indexAddr 29 (.tmp 11) (.tmp 13), ty := 0, guard := none },
  { dst := (some 16), op := .load 22 (.tmp 15), ty := 22, guard := none },
  { dst := (some 5), op := .assign (.tmp 16), ty := 22, guard := none }]
def c11_26 : AC := .region o11_26 []
theorem n11_26 : Run Cx 11 T ds ro (.code c11_26 :: k) H Q = RunOps Cx 11 T ds ro o11_26 k H Q := run_region
def o11_27 : List AO := [{ dst := (some 17), op := .move (.tmp 3), ty := 29, guard := none },
  { dst := (some 18), op := .move (.tmp 5), ty := 22, guard := none },
  { dst := (some 19), op := .call { callee := (.value (.func 26)), args := #[(.tmp 18)], argTypes := #[22] }, ty := 22, guard := none },
  { dst := (some 20), op := .buildSlice 29 1 #[(0, (.tmp 19))], ty := 29, guard := none },
  { dst := (some 21), op := .call { callee := (.builtin .append), args := #[(.tmp 17), (.tmp 20)], argTypes := #[29, 29] }, ty := 29, guard := none },
  { dst := (some 3), op := .assign (.tmp 21), ty := 29, guard := none }]
def c11_27 : AC := .region o11_27 []
theorem n11_27 : Run Cx 11 T ds ro (.code c11_27 :: k) H Q = RunOps Cx 11 T ds ro o11_27 k H Q := run_region
def c11_25 : AC := .seq c11_26 c11_27
theorem n11_25 : Run Cx 11 T ds ro (.code c11_25 :: k) H Q = Run Cx 11 T ds ro (.code c11_26 :: .code c11_27 :: k) H Q := run_seq
def c11_24 : AC := .block 1 c11_25
theorem n11_24 : Run Cx 11 T ds ro (.code c11_24 :: k) H Q = Run Cx 11 T ds ro (.code c11_25 :: .inBlock 1 :: k) H Q := run_block
def o11_28 : List AO := [{ dst := (some 22), op := .binOp .add 3 (.tmp 13) (.const (.int .i64 1)) 3, ty := 3, guard := none },
  { dst := (some 13), op := .move (.tmp 22), ty := 3, guard := none }]
def c11_28 : AC := .region o11_28 []
theorem n11_28 : Run Cx 11 T ds ro (.code c11_28 :: k) H Q = RunOps Cx 11 T ds ro o11_28 k H Q := run_region
def c11_23 : AC := .seq c11_24 c11_28
theorem n11_23 : Run Cx 11 T ds ro (.code c11_23 :: k) H Q = Run Cx 11 T ds ro (.code c11_24 :: .code c11_28 :: k) H Q := run_seq
def c11_19 : AC := .seq c11_20 c11_23
theorem n11_19 : Run Cx 11 T ds ro (.code c11_19 :: k) H Q = Run Cx 11 T ds ro (.code c11_20 :: .code c11_23 :: k) H Q := run_seq
def c11_17 : AC := .seq c11_18 c11_19
theorem n11_17 : Run Cx 11 T ds ro (.code c11_17 :: k) H Q = Run Cx 11 T ds ro (.code c11_18 :: .code c11_19 :: k) H Q := run_seq
def c11_16 : AC := .loop c11_17
theorem n11_16 : Run Cx 11 T ds ro (.code c11_16 :: k) H Q = Run Cx 11 T ds ro (.inLoop c11_17 :: k) H Q := run_loop'
def c11_15 : AC := .block 0 c11_16
theorem n11_15 : Run Cx 11 T ds ro (.code c11_15 :: k) H Q = Run Cx 11 T ds ro (.code c11_16 :: .inBlock 0 :: k) H Q := run_block
def c11_13 : AC := .seq c11_14 c11_15
theorem n11_13 : Run Cx 11 T ds ro (.code c11_13 :: k) H Q = Run Cx 11 T ds ro (.code c11_14 :: .code c11_15 :: k) H Q := run_seq
def o11_31 : List AO := [{ dst := (some 23), op := .move (.tmp 0), ty := 26, guard := none },
  { dst := (some 24), op := .nilCheck (.tmp 23), ty := 0, guard := none },
  { dst := (some 25), op := .fieldAddr 57 (.tmp 24) 1, ty := 0, guard := none },
  { dst := (some 26), op := .load 22 (.tmp 25), ty := 22, guard := none },
  { dst := (some 27), op := .call { callee := (.builtin .len), args := #[(.tmp 26)], argTypes := #[22] }, ty := 3, guard := none },
  { dst := (some 28), op := .binOp .gtr 3 (.tmp 27) (.const (.int .i64 0)) 3, ty := 4, guard := none }]
def c11_31 : AC := .region o11_31 []
theorem n11_31 : Run Cx 11 T ds ro (.code c11_31 :: k) H Q = RunOps Cx 11 T ds ro o11_31 k H Q := run_region
def o11_33 : List AO := [{ dst := (some 29), op := .move (.tmp 3), ty := 29, guard := none },
  { dst := (some 30), op := .move (.tmp 0), ty := 26, guard := none },
  { dst := (some 31), op := .nilCheck (.tmp 30), ty := 0, guard := none },
  { dst := (some 32), op := .fieldAddr 57 (.tmp 31) 1, ty := 0, guard := none },
  { dst := (some 33), op := .load 22 (.tmp 32), ty := 22, guard := none },
  { dst := (some 34), op := .call { callee := (.value (.func 22)), args := #[(.tmp 33)], argTypes := #[22] }, ty := 22, guard := none },
  { dst := (some 35), op := .buildSlice 29 1 #[(0, (.tmp 34))], ty := 29, guard := none },
  { dst := (some 36), op := .call { callee := (.builtin .append), args := #[(.tmp 29), (.tmp 35)], argTypes := #[29, 29] }, ty := 29, guard := none },
  { dst := (some 3), op := .assign (.tmp 36), ty := 29, guard := none }]
def c11_33 : AC := .region o11_33 []
theorem n11_33 : Run Cx 11 T ds ro (.code c11_33 :: k) H Q = RunOps Cx 11 T ds ro o11_33 k H Q := run_region
def c11_34 : AC := .skip
theorem n11_34 : Run Cx 11 T ds ro (.code c11_34 :: k) H Q = Run Cx 11 T ds ro (k) H Q := run_skip
def c11_32 : AC := .cond (.tmp 28) c11_33 c11_34
theorem n11_32 : Run Cx 11 T ds ro (.code c11_32 :: k) H Q = RunCond Cx 11 T ds ro (.tmp 28) (ev T (.tmp 28)) c11_33 c11_34 k H Q := run_condC
def c11_30 : AC := .seq c11_31 c11_32
theorem n11_30 : Run Cx 11 T ds ro (.code c11_30 :: k) H Q = Run Cx 11 T ds ro (.code c11_31 :: .code c11_32 :: k) H Q := run_seq
def o11_36 : List AO := [{ dst := (some 37), op := .move (.tmp 3), ty := 29, guard := none },
  { dst := (some 2), op := .assign (.tmp 37), ty := 29, guard := none }]
def c11_36 : AC := .region o11_36 []
theorem n11_36 : Run Cx 11 T ds ro (.code c11_36 :: k) H Q = RunOps Cx 11 T ds ro o11_36 k H Q := run_region
def c11_37 : AC := .ret
theorem n11_37 : Run Cx 11 T [] none (.code c11_37 :: k) H Q = RunRes Cx T H Q (resOf Cx 11) := run_ret
def c11_35 : AC := .seq c11_36 c11_37
theorem n11_35 : Run Cx 11 T ds ro (.code c11_35 :: k) H Q = Run Cx 11 T ds ro (.code c11_36 :: .code c11_37 :: k) H Q := run_seq
def c11_29 : AC := .seq c11_30 c11_35
theorem n11_29 : Run Cx 11 T ds ro (.code c11_29 :: k) H Q = Run Cx 11 T ds ro (.code c11_30 :: .code c11_35 :: k) H Q := run_seq
def c11_12 : AC := .seq c11_13 c11_29
theorem n11_12 : Run Cx 11 T ds ro (.code c11_12 :: k) H Q = Run Cx 11 T ds ro (.code c11_13 :: .code c11_29 :: k) H Q := run_seq
def c11_10 : AC := .seq c11_11 c11_12
theorem n11_10 : Run Cx 11 T ds ro (.code c11_10 :: k) H Q = Run Cx 11 T ds ro (.code c11_11 :: .code c11_12 :: k) H Q := run_seq
def c11_2 : AC := .seq c11_3 c11_10
theorem n11_2 : Run Cx 11 T ds ro (.code c11_2 :: k) H Q = Run Cx 11 T ds ro (.code c11_3 :: .code c11_10 :: k) H Q := run_seq
def c11_0 : AC := .seq c11_1 c11_2
theorem n11_0 : Run Cx 11 T ds ro (.code c11_0 :: k) H Q = Run Cx 11 T ds ro (.code c11_1 :: .code c11_2 :: k) H Q := run_seq
theorem body11 : bodyOf Cx 11 = some c11_0 := by kernel_rfl
theorem res11 : resOf Cx 11 = some [.tmp 2] := by kernel_rfl
theorem pure11 : Cx.pure 11 = false := by kernel_rfl
-- RULES 11: n11_0, n11_1, n11_2, n11_3, n11_4, n11_5, n11_6, n11_7, n11_8, n11_9, n11_10, n11_11, n11_12, n11_13, n11_14, n11_15, n11_16, n11_17, n11_18, n11_19, n11_20, n11_21, n11_22, n11_23, n11_24, n11_25, n11_26, n11_27, n11_28, n11_29, n11_30, n11_31, n11_32, n11_33, n11_34, n11_35, n11_36, n11_37
def o12_1 : List AO := [{ dst := (some 2), op := .assign (.const (.bool false)), ty := 4, guard := none }]
def c12_1 : AC := .region o12_1 []
theorem n12_1 : Run Cx 12 T ds ro (.code c12_1 :: k) H Q = RunOps Cx 12 T ds ro o12_1 k H Q := run_region
def o12_3 : List AO := [{ dst := (some 3), op := .move (.tmp 0), ty := 22, guard := none },
  { dst := (some 4), op := .call { callee := (.value (.func 27)), args := #[(.tmp 3), (.func 28)], argTypes := #[22, 59] }, ty := 4, guard := none },
  { dst := (some 2), op := .assign (.tmp 4), ty := 4, guard := none }]
def c12_3 : AC := .region o12_3 []
theorem n12_3 : Run Cx 12 T ds ro (.code c12_3 :: k) H Q = RunOps Cx 12 T ds ro o12_3 k H Q := run_region
def c12_4 : AC := .ret
theorem n12_4 : Run Cx 12 T [] none (.code c12_4 :: k) H Q = RunRes Cx T H Q (resOf Cx 12) := run_ret
def c12_2 : AC := .seq c12_3 c12_4
theorem n12_2 : Run Cx 12 T ds ro (.code c12_2 :: k) H Q = Run Cx 12 T ds ro (.code c12_3 :: .code c12_4 :: k) H Q := run_seq
def c12_0 : AC := .seq c12_1 c12_2
theorem n12_0 : Run Cx 12 T ds ro (.code c12_0 :: k) H Q = Run Cx 12 T ds ro (.code c12_1 :: .code c12_2 :: k) H Q := run_seq
theorem body12 : bodyOf Cx 12 = some c12_0 := by kernel_rfl
theorem res12 : resOf Cx 12 = some [.tmp 2] := by kernel_rfl
theorem pure12 : Cx.pure 12 = true := by kernel_rfl
-- RULES 12: n12_0, n12_1, n12_2, n12_3, n12_4
def o13_1 : List AO := [{ dst := (some 2), op := .assign (.const (.int .i64 0)), ty := 3, guard := none }]
def c13_1 : AC := .region o13_1 []
theorem n13_1 : Run Cx 13 T ds ro (.code c13_1 :: k) H Q = RunOps Cx 13 T ds ro o13_1 k H Q := run_region
def o13_4 : List AO := [{ dst := (some 3), op := .move (.tmp 0), ty := 26, guard := none },
  { dst := (some 4), op := .binOp .eql 26 (.tmp 3) (.const (.pointer none)) 26, ty := 4, guard := none }]
def c13_4 : AC := .region o13_4 []
theorem n13_4 : Run Cx 13 T ds ro (.code c13_4 :: k) H Q = RunOps Cx 13 T ds ro o13_4 k H Q := run_region
def o13_7 : List AO := [{ dst := (some 2), op := .assign (.const (.int .i64 0)), ty := 3, guard := none }]
def c13_7 : AC := .region o13_7 []
theorem n13_7 : Run Cx 13 T ds ro (.code c13_7 :: k) H Q = RunOps Cx 13 T ds ro o13_7 k H Q := run_region
def c13_8 : AC := .ret
theorem n13_8 : Run Cx 13 T [] none (.code c13_8 :: k) H Q = RunRes Cx T H Q (resOf Cx 13) := run_ret
def c13_6 : AC := .seq c13_7 c13_8
theorem n13_6 : Run Cx 13 T ds ro (.code c13_6 :: k) H Q = Run Cx 13 T ds ro (.code c13_7 :: .code c13_8 :: k) H Q := run_seq
def c13_9 : AC := .skip
theorem n13_9 : Run Cx 13 T ds ro (.code c13_9 :: k) H Q = Run Cx 13 T ds ro (k) H Q := run_skip
def c13_5 : AC := .cond (.tmp 4) c13_6 c13_9
theorem n13_5 : Run Cx 13 T ds ro (.code c13_5 :: k) H Q = RunCond Cx 13 T ds ro (.tmp 4) (ev T (.tmp 4)) c13_6 c13_9 k H Q := run_condC
def c13_3 : AC := .seq c13_4 c13_5
theorem n13_3 : Run Cx 13 T ds ro (.code c13_3 :: k) H Q = Run Cx 13 T ds ro (.code c13_4 :: .code c13_5 :: k) H Q := run_seq
def o13_11 : List AO := [{ dst := (some 5), op := .move (.tmp 0), ty := 26, guard := none },
  { dst := (some 6), op := .nilCheck (.tmp 5), ty := 0, guard := none },
  { dst := (some 7), op := .fieldAddr 57 (.tmp 6) 3, ty := 0, guard := none },
  { dst := (some 8), op := .load 3 (.tmp 7), ty := 3, guard := none },
  { dst := (some 2), op := .assign (.tmp 8), ty := 3, guard := none }]
def c13_11 : AC := .region o13_11 []
theorem n13_11 : Run Cx 13 T ds ro (.code c13_11 :: k) H Q = RunOps Cx 13 T ds ro o13_11 k H Q := run_region
def c13_12 : AC := .ret
theorem n13_12 : Run Cx 13 T [] none (.code c13_12 :: k) H Q = RunRes Cx T H Q (resOf Cx 13) := run_ret
def c13_10 : AC := .seq c13_11 c13_12
theorem n13_10 : Run Cx 13 T ds ro (.code c13_10 :: k) H Q = Run Cx 13 T ds ro (.code c13_11 :: .code c13_12 :: k) H Q := run_seq
def c13_2 : AC := .seq c13_3 c13_10
theorem n13_2 : Run Cx 13 T ds ro (.code c13_2 :: k) H Q = Run Cx 13 T ds ro (.code c13_3 :: .code c13_10 :: k) H Q := run_seq
def c13_0 : AC := .seq c13_1 c13_2
theorem n13_0 : Run Cx 13 T ds ro (.code c13_0 :: k) H Q = Run Cx 13 T ds ro (.code c13_1 :: .code c13_2 :: k) H Q := run_seq
theorem body13 : bodyOf Cx 13 = some c13_0 := by kernel_rfl
theorem res13 : resOf Cx 13 = some [.tmp 2] := by kernel_rfl
theorem pure13 : Cx.pure 13 = false := by kernel_rfl
-- RULES 13: n13_0, n13_1, n13_2, n13_3, n13_4, n13_5, n13_6, n13_7, n13_8, n13_9, n13_10, n13_11, n13_12
def o14_1 : List AO := [{ dst := (some 2), op := .assign (.const (.pointer none)), ty := 26, guard := none },
  { dst := (some 3), op := .assign (.const (.int .i64 0)), ty := 33, guard := none }]
def c14_1 : AC := .region o14_1 []
theorem n14_1 : Run Cx 14 T ds ro (.code c14_1 :: k) H Q = RunOps Cx 14 T ds ro o14_1 k H Q := run_region
def o14_4 : List AO := [{ dst := (some 4), op := .move (.tmp 0), ty := 3, guard := none },
  { dst := (some 5), op := .binOp .lss 3 (.tmp 4) (.const (.int .i64 1)) 3, ty := 4, guard := none },
  { dst := (some 6), op := .move (.tmp 5), ty := 4, guard := none },
  { dst := (some 7), op := .move (.tmp 0), ty := 3, guard := (some (6, false)) },
  { dst := (some 8), op := .binOp .gtr 3 (.tmp 7) (.const (.int .i64 4096)) 3, ty := 4, guard := (some (6, false)) },
  { dst := (some 9), op := .pick (.tmp 6) (.const (.bool true)) (.tmp 8), ty := 4, guard := none }]
def c14_4 : AC := .region o14_4 []
theorem n14_4 : Run Cx 14 T ds ro (.code c14_4 :: k) H Q = RunOps Cx 14 T ds ro o14_4 k H Q := run_region
def o14_7 : List AO := [{ dst := (some 2), op := .assign (.const (.pointer none)), ty := 26, guard := none },
  { dst := (some 3), op := .assign (.const (.int .i64 1)), ty := 33, guard := none }]
def c14_7 : AC := .region o14_7 []
theorem n14_7 : Run Cx 14 T ds ro (.code c14_7 :: k) H Q = RunOps Cx 14 T ds ro o14_7 k H Q := run_region
def c14_8 : AC := .ret
theorem n14_8 : Run Cx 14 T [] none (.code c14_8 :: k) H Q = RunRes Cx T H Q (resOf Cx 14) := run_ret
def c14_6 : AC := .seq c14_7 c14_8
theorem n14_6 : Run Cx 14 T ds ro (.code c14_6 :: k) H Q = Run Cx 14 T ds ro (.code c14_7 :: .code c14_8 :: k) H Q := run_seq
def c14_9 : AC := .skip
theorem n14_9 : Run Cx 14 T ds ro (.code c14_9 :: k) H Q = Run Cx 14 T ds ro (k) H Q := run_skip
def c14_5 : AC := .cond (.tmp 9) c14_6 c14_9
theorem n14_5 : Run Cx 14 T ds ro (.code c14_5 :: k) H Q = RunCond Cx 14 T ds ro (.tmp 9) (ev T (.tmp 9)) c14_6 c14_9 k H Q := run_condC
def c14_3 : AC := .seq c14_4 c14_5
theorem n14_3 : Run Cx 14 T ds ro (.code c14_3 :: k) H Q = Run Cx 14 T ds ro (.code c14_4 :: .code c14_5 :: k) H Q := run_seq
def o14_11 : List AO := [{ dst := (some 10), op := .move (.tmp 0), ty := 3, guard := none },
  { dst := (some 11), op := .build 57 #[(0, (.tmp 10))], ty := 57, guard := none },
  { dst := (some 12), op := .box 57 (.tmp 11), ty := 26, guard := none },
  { dst := (some 2), op := .assign (.tmp 12), ty := 26, guard := none },
  { dst := (some 3), op := .assign (.const (.int .i64 0)), ty := 33, guard := none }]
def c14_11 : AC := .region o14_11 []
theorem n14_11 : Run Cx 14 T ds ro (.code c14_11 :: k) H Q = RunOps Cx 14 T ds ro o14_11 k H Q := run_region
def c14_12 : AC := .ret
theorem n14_12 : Run Cx 14 T [] none (.code c14_12 :: k) H Q = RunRes Cx T H Q (resOf Cx 14) := run_ret
def c14_10 : AC := .seq c14_11 c14_12
theorem n14_10 : Run Cx 14 T ds ro (.code c14_10 :: k) H Q = Run Cx 14 T ds ro (.code c14_11 :: .code c14_12 :: k) H Q := run_seq
def c14_2 : AC := .seq c14_3 c14_10
theorem n14_2 : Run Cx 14 T ds ro (.code c14_2 :: k) H Q = Run Cx 14 T ds ro (.code c14_3 :: .code c14_10 :: k) H Q := run_seq
def c14_0 : AC := .seq c14_1 c14_2
theorem n14_0 : Run Cx 14 T ds ro (.code c14_0 :: k) H Q = Run Cx 14 T ds ro (.code c14_1 :: .code c14_2 :: k) H Q := run_seq
theorem body14 : bodyOf Cx 14 = some c14_0 := by kernel_rfl
theorem res14 : resOf Cx 14 = some [.tmp 2, .tmp 3] := by kernel_rfl
theorem pure14 : Cx.pure 14 = false := by kernel_rfl
-- RULES 14: n14_0, n14_1, n14_2, n14_3, n14_4, n14_5, n14_6, n14_7, n14_8, n14_9, n14_10, n14_11, n14_12
def o15_1 : List AO := [{ dst := (some 3), op := .box 42 (.tmp 1), ty := 0, guard := none },
  { dst := (some 4), op := .assign (.const (.int .i64 0)), ty := 33, guard := none }]
def c15_1 : AC := .region o15_1 []
theorem n15_1 : Run Cx 15 T ds ro (.code c15_1 :: k) H Q = RunOps Cx 15 T ds ro o15_1 k H Q := run_region
def o15_4 : List AO := [{ dst := (some 5), op := .move (.tmp 0), ty := 26, guard := none },
  { dst := (some 6), op := .binOp .eql 26 (.tmp 5) (.const (.pointer none)) 26, ty := 4, guard := none },
  { dst := (some 7), op := .move (.tmp 6), ty := 4, guard := none },
  { dst := (some 8), op := .load 42 (.tmp 3), ty := 42, guard := (some (7, false)) },
  { dst := (some 9), op := .buildSlice 22 1 #[(0, (.tmp 8))], ty := 22, guard := (some (7, false)) },
  { dst := (some 10), op := .call { callee := (.value (.func 9)), args := #[(.tmp 9)], argTypes := #[22] }, ty := 4, guard := (some (7, false)) },
  { dst := (some 11), op := .unOp .not 4 (.tmp 10), ty := 4, guard := (some (7, false)) },
  { dst := (some 12), op := .pick (.tmp 7) (.const (.bool true)) (.tmp 11), ty := 4, guard := none }]
def c15_4 : AC := .region o15_4 []
theorem n15_4 : Run Cx 15 T ds ro (.code c15_4 :: k) H Q = RunOps Cx 15 T ds ro o15_4 k H Q := run_region
def o15_7 : List AO := [{ dst := (some 4), op := .assign (.const (.int .i64 1)), ty := 33, guard := none }]
def c15_7 : AC := .region o15_7 []
theorem n15_7 : Run Cx 15 T ds ro (.code c15_7 :: k) H Q = RunOps Cx 15 T ds ro o15_7 k H Q := run_region
def c15_8 : AC := .ret
theorem n15_8 : Run Cx 15 T [] none (.code c15_8 :: k) H Q = RunRes Cx T H Q (resOf Cx 15) := run_ret
def c15_6 : AC := .seq c15_7 c15_8
theorem n15_6 : Run Cx 15 T ds ro (.code c15_6 :: k) H Q = Run Cx 15 T ds ro (.code c15_7 :: .code c15_8 :: k) H Q := run_seq
def c15_9 : AC := .skip
theorem n15_9 : Run Cx 15 T ds ro (.code c15_9 :: k) H Q = Run Cx 15 T ds ro (k) H Q := run_skip
def c15_5 : AC := .cond (.tmp 12) c15_6 c15_9
theorem n15_5 : Run Cx 15 T ds ro (.code c15_5 :: k) H Q = RunCond Cx 15 T ds ro (.tmp 12) (ev T (.tmp 12)) c15_6 c15_9 k H Q := run_condC
def c15_3 : AC := .seq c15_4 c15_5
theorem n15_3 : Run Cx 15 T ds ro (.code c15_3 :: k) H Q = Run Cx 15 T ds ro (.code c15_4 :: .code c15_5 :: k) H Q := run_seq
def o15_11 : List AO := [{ dst := (some 13), op := .move (.tmp 0), ty := 26, guard := none },
  { dst := (some 14), op := .nilCheck (.tmp 13), ty := 0, guard := none },
  { dst := (some 15), op := .fieldAddr 57 (.tmp 14) 3, ty := 0, guard := none },
  { dst := (some 16), op := .load 3 (.tmp 15), ty := 3, guard := none },
  { dst := (some 17), op := .binOp .add 3 (.tmp 16) (.const (.int .i64 1)) 3, ty := 3, guard := none },
  { dst := (some 18), op := .nilCheck (.tmp 13), ty := 0, guard := none },
  { dst := (some 19), op := .fieldAddr 57 (.tmp 18) 3, ty := 0, guard := none },
  { dst := none, op := .store 3 (.tmp 19) (.tmp 17), ty := 0, guard := none }]
def c15_11 : AC := .region o15_11 []
theorem n15_11 : Run Cx 15 T ds ro (.code c15_11 :: k) H Q = RunOps Cx 15 T ds ro o15_11 k H Q := run_region
def o15_13 : List AO := [{ dst := (some 20), op := .move (.tmp 0), ty := 26, guard := none },
  { dst := (some 21), op := .move (.tmp 0), ty := 26, guard := none },
  { dst := (some 22), op := .nilCheck (.tmp 21), ty := 0, guard := none },
  { dst := (some 23), op := .fieldAddr 57 (.tmp 22) 1, ty := 0, guard := none },
  { dst := (some 24), op := .load 22 (.tmp 23), ty := 22, guard := none },
  { dst := (some 25), op := .load 42 (.tmp 3), ty := 42, guard := none },
  { dst := (some 26), op := .buildSlice 22 1 #[(0, (.tmp 25))], ty := 22, guard := none },
  { dst := (some 27), op := .call { callee := (.builtin .append), args := #[(.tmp 24), (.tmp 26)], argTypes := #[22, 22] }, ty := 22, guard := none },
  { dst := (some 28), op := .nilCheck (.tmp 20), ty := 0, guard := none },
  { dst := (some 29), op := .fieldAddr 57 (.tmp 28) 1, ty := 0, guard := none },
  { dst := none, op := .store 22 (.tmp 29) (.tmp 27), ty := 0, guard := none }]
def c15_13 : AC := .region o15_13 []
theorem n15_13 : Run Cx 15 T ds ro (.code c15_13 :: k) H Q = RunOps Cx 15 T ds ro o15_13 k H Q := run_region
def o15_16 : List AO := [{ dst := (some 30), op := .move (.tmp 0), ty := 26, guard := none },
  { dst := (some 31), op := .nilCheck (.tmp 30), ty := 0, guard := none },
  { dst := (some 32), op := .fieldAddr 57 (.tmp 31) 1, ty := 0, guard := none },
  { dst := (some 33), op := .load 22 (.tmp 32), ty := 22, guard := none },
  { dst := (some 34), op := .call { callee := (.builtin .len), args := #[(.tmp 33)], argTypes := #[22] }, ty := 3, guard := none },
  { dst := (some 35), op := .move (.tmp 0), ty := 26, guard := none },
  { dst := (some 36), op := .nilCheck (.tmp 35), ty := 0, guard := none },
  { dst := (some 37), op := .fieldAddr 57 (.tmp 36) 0, ty := 0, guard := none },
  { dst := (some 38), op := .load 3 (.tmp 37), ty := 3, guard := none },
  { dst := (some 39), op := .binOp .eql 3 (.tmp 34) (.tmp 38) 3, ty := 4, guard := none }]
def c15_16 : AC := .region o15_16 []
theorem n15_16 : Run Cx 15 T ds ro (.code c15_16 :: k) H Q = RunOps Cx 15 T ds ro o15_16 k H Q := run_region
def o15_18 : List AO := [{ dst := (some 40), op := .move (.tmp 0), ty := 26, guard := none },
  { dst := (some 41), op := .move (.tmp 0), ty := 26, guard := none },
  { dst := (some 42), op := .move (.tmp 0), ty := 26, guard := none },
  { dst := (some 43), op := .nilCheck (.tmp 42), ty := 0, guard := none },
  { dst := (some 44), op := .fieldAddr 57 (.tmp 43) 2, ty := 0, guard := none },
  { dst := (some 45), op := .load 29 (.tmp 44), ty := 29, guard := none },
  { dst := (some 46), op := .move (.tmp 0), ty := 26, guard := none },
  { dst := (some 47), op := .nilCheck (.tmp 46), ty := 0, guard := none },
  { dst := (some 48), op := .fieldAddr 57 (.tmp 47) 1, ty := 0, guard := none },
  { dst := (some 49), op := .load 22 (.tmp 48), ty := 22, guard := none },
  { dst := (some 50), op := .call { callee := (.value (.func 22)), args := #[(.tmp 49)], argTypes := #[22] }, ty := 22, guard := none },
  { dst := (some 51), op := .buildSlice 29 1 #[(0, (.tmp 50))], ty := 29, guard := none },
  { dst := (some 52), op := .call { callee := (.builtin .append), args := #[(.tmp 45), (.tmp 51)], argTypes := #[29, 29] }, ty := 29, guard := none },
  { dst := (some 53), op := .nilCheck (.tmp 40), ty := 0, guard := none },
  { dst := (some 54), op := .fieldAddr 57 (.tmp 53) 2, ty := 0, guard := none },
  { dst := none, op := .store 29 (.tmp 54) (.tmp 52), ty := 0, guard := none },
  { dst := (some 55), op := .nilCheck (.tmp 41), ty := 0, guard := none },
  { dst := (some 56), op := .fieldAddr 57 (.tmp 55) 1, ty := 0, guard := none },
  { dst := none, op := .store 22 (.tmp 56) (.const (.slice none 0 0)), ty := 0, guard := none }]
def c15_18 : AC := .region o15_18 []
theorem n15_18 : Run Cx 15 T ds ro (.code c15_18 :: k) H Q = RunOps Cx 15 T ds ro o15_18 k H Q := run_region
def c15_19 : AC := .skip
theorem n15_19 : Run Cx 15 T ds ro (.code c15_19 :: k) H Q = Run Cx 15 T ds ro (k) H Q := run_skip
def c15_17 : AC := .cond (.tmp 39) c15_18 c15_19
theorem n15_17 : Run Cx 15 T ds ro (.code c15_17 :: k) H Q = RunCond Cx 15 T ds ro (.tmp 39) (ev T (.tmp 39)) c15_18 c15_19 k H Q := run_condC
def c15_15 : AC := .seq c15_16 c15_17
theorem n15_15 : Run Cx 15 T ds ro (.code c15_15 :: k) H Q = Run Cx 15 T ds ro (.code c15_16 :: .code c15_17 :: k) H Q := run_seq
def o15_21 : List AO := [{ dst := (some 4), op := .assign (.const (.int .i64 0)), ty := 33, guard := none }]
def c15_21 : AC := .region o15_21 []
theorem n15_21 : Run Cx 15 T ds ro (.code c15_21 :: k) H Q = RunOps Cx 15 T ds ro o15_21 k H Q := run_region
def c15_22 : AC := .ret
theorem n15_22 : Run Cx 15 T [] none (.code c15_22 :: k) H Q = RunRes Cx T H Q (resOf Cx 15) := run_ret
def c15_20 : AC := .seq c15_21 c15_22
theorem n15_20 : Run Cx 15 T ds ro (.code c15_20 :: k) H Q = Run Cx 15 T ds ro (.code c15_21 :: .code c15_22 :: k) H Q := run_seq
def c15_14 : AC := .seq c15_15 c15_20
theorem n15_14 : Run Cx 15 T ds ro (.code c15_14 :: k) H Q = Run Cx 15 T ds ro (.code c15_15 :: .code c15_20 :: k) H Q := run_seq
def c15_12 : AC := .seq c15_13 c15_14
theorem n15_12 : Run Cx 15 T ds ro (.code c15_12 :: k) H Q = Run Cx 15 T ds ro (.code c15_13 :: .code c15_14 :: k) H Q := run_seq
def c15_10 : AC := .seq c15_11 c15_12
theorem n15_10 : Run Cx 15 T ds ro (.code c15_10 :: k) H Q = Run Cx 15 T ds ro (.code c15_11 :: .code c15_12 :: k) H Q := run_seq
def c15_2 : AC := .seq c15_3 c15_10
theorem n15_2 : Run Cx 15 T ds ro (.code c15_2 :: k) H Q = Run Cx 15 T ds ro (.code c15_3 :: .code c15_10 :: k) H Q := run_seq
def c15_0 : AC := .seq c15_1 c15_2
theorem n15_0 : Run Cx 15 T ds ro (.code c15_0 :: k) H Q = Run Cx 15 T ds ro (.code c15_1 :: .code c15_2 :: k) H Q := run_seq
theorem body15 : bodyOf Cx 15 = some c15_0 := by kernel_rfl
theorem res15 : resOf Cx 15 = some [.tmp 4] := by kernel_rfl
theorem pure15 : Cx.pure 15 = false := by kernel_rfl
-- RULES 15: n15_0, n15_1, n15_2, n15_3, n15_4, n15_5, n15_6, n15_7, n15_8, n15_9, n15_10, n15_11, n15_12, n15_13, n15_14, n15_15, n15_16, n15_17, n15_18, n15_19, n15_20, n15_21, n15_22
def o16_1 : List AO := [{ dst := (some 2), op := .assign (.const (.bool false)), ty := 4, guard := none }]
def c16_1 : AC := .region o16_1 []
theorem n16_1 : Run Cx 16 T ds ro (.code c16_1 :: k) H Q = RunOps Cx 16 T ds ro o16_1 k H Q := run_region
def o16_4 : List AO := [{ dst := (some 3), op := .assign (.const (.int .i64 0)), ty := 3, guard := none }]
def c16_4 : AC := .region o16_4 []
theorem n16_4 : Run Cx 16 T ds ro (.code c16_4 :: k) H Q = RunOps Cx 16 T ds ro o16_4 k H Q := run_region
def o16_9 : List AO := [{ dst := (some 4), op := .move (.tmp 3), ty := 3, guard := none },
  { dst := (some 5), op := .move (.tmp 0), ty := 22, guard := none },
  { dst := (some 6), op := .call { callee := (.builtin .len), args := #[(.tmp 5)], argTypes := #[22] }, ty := 3, guard := none },
  { dst := (some 7), op := .binOp .lss 3 (.tmp 4) (.tmp 6) 3, ty := 4, guard := none }]
def c16_9 : AC := .region o16_9 []
theorem n16_9 : Run Cx 16 T ds ro (.code c16_9 :: k) H Q = RunOps Cx 16 T ds ro o16_9 k H Q := run_region
def c16_11 : AC := .skip
theorem n16_11 : Run Cx 16 T ds ro (.code c16_11 :: k) H Q = Run Cx 16 T ds ro (k) H Q := run_skip
def c16_12 : AC := .exit 0
theorem n16_12 : Run Cx 16 T ds ro (.code c16_12 :: k) H Q = RunExit Cx 16 T ds ro 0 k k H Q := run_exit_start
def c16_10 : AC := .cond (.tmp 7) c16_11 c16_12
theorem n16_10 : Run Cx 16 T ds ro (.code c16_10 :: k) H Q = RunCond Cx 16 T ds ro (.tmp 7) (ev T (.tmp 7)) c16_11 c16_12 k H Q := run_condC
def c16_8 : AC := .seq c16_9 c16_10
theorem n16_8 : Run Cx 16 T ds ro (.code c16_8 :: k) H Q = Run Cx 16 T ds ro (.code c16_9 :: .code c16_10 :: k) H Q := run_seq
def o16_16 : List AO := [{ dst := (some 10), op := .move (.tmp 0), ty := 22, guard := none },
  { dst := (some 11), op := .move (.tmp 3), ty := 3, guard := none },
  { dst := (some 12), op := .indexAddr 22 (.tmp 10) (.tmp 11), ty := 0, guard := none },
  { dst := (some 13), op := .fieldAddr 42 (.tmp 12) 0, ty := 0, guard := none },
  { dst := (some 14), op := .load 9 (.tmp 13), ty := 9, guard := none },
  { dst := (some 15), op := .call { callee := (.builtin .len), args := #[(.tmp 14)], argTypes := #[9] }, ty := 3, guard := none },
  { dst := (some 16), op := .binOp .gtr 3 (.tmp 15) (.const (.int .i64 64)) 3, ty := 4, guard := none },
  { dst := (some 17), op := .move (.tmp 16), ty := 4, guard := none },
  { dst := (some 18), op := .move (.tmp 0), ty := 22, guard := (some (17, false)) },
  { dst := (some 19), op := .move (.tmp 3), ty := 3, guard := (some (17, false)) },
  { dst := (some 20), op := .indexAddr 22 (.tmp 18) (.tmp 19), ty := 0, guard := (some (17, false)) },
  { dst := (some 21), op := .fieldAddr 42 (.tmp 20) 1, ty := 0, guard := (some (17, false)) },
  { dst := (some 22), op := .load 40 (.tmp 21), ty := 40, guard := (some (17, false)) },
  { dst := (some 23), op := .call { callee := (.value (.func 29)), args := #[(.tmp 22)], argTypes := #[40] }, ty := 4, guard := (some (17, false)) },
  { dst := (some 24), op := .unOp .not 4 (.tmp 23), ty := 4, guard := (some (17, false)) },
  { dst := (some 25), op := .pick (.tmp 17) (.const (.bool true)) (.tmp 24), ty := 4, guard := none }]
def c16_16 : AC := .region o16_16 []
theorem n16_16 : Run Cx 16 T ds ro (.code c16_16 :: k) H Q = RunOps Cx 16 T ds ro o16_16 k H Q := run_region
def o16_19 : List AO := [{ dst := (some 2), op := .assign (.const (.bool false)), ty := 4, guard := none }]
def c16_19 : AC := .region o16_19 []
theorem n16_19 : Run Cx 16 T ds ro (.code c16_19 :: k) H Q = RunOps Cx 16 T ds ro o16_19 k H Q := run_region
def c16_20 : AC := .ret
theorem n16_20 : Run Cx 16 T [] none (.code c16_20 :: k) H Q = RunRes Cx T H Q (resOf Cx 16) := run_ret
def c16_18 : AC := .seq c16_19 c16_20
theorem n16_18 : Run Cx 16 T ds ro (.code c16_18 :: k) H Q = Run Cx 16 T ds ro (.code c16_19 :: .code c16_20 :: k) H Q := run_seq
def c16_21 : AC := .skip
theorem n16_21 : Run Cx 16 T ds ro (.code c16_21 :: k) H Q = Run Cx 16 T ds ro (k) H Q := run_skip
def c16_17 : AC := .cond (.tmp 25) c16_18 c16_21
theorem n16_17 : Run Cx 16 T ds ro (.code c16_17 :: k) H Q = RunCond Cx 16 T ds ro (.tmp 25) (ev T (.tmp 25)) c16_18 c16_21 k H Q := run_condC
def c16_15 : AC := .seq c16_16 c16_17
theorem n16_15 : Run Cx 16 T ds ro (.code c16_15 :: k) H Q = Run Cx 16 T ds ro (.code c16_16 :: .code c16_17 :: k) H Q := run_seq
def c16_14 : AC := .block 1 c16_15
theorem n16_14 : Run Cx 16 T ds ro (.code c16_14 :: k) H Q = Run Cx 16 T ds ro (.code c16_15 :: .inBlock 1 :: k) H Q := run_block
def o16_22 : List AO := [{ dst := (some 8), op := .move (.tmp 3), ty := 3, guard := none },
  { dst := (some 9), op := .binOp .add 3 (.tmp 8) (.const (.int .i64 1)) 3, ty := 3, guard := none },
  { dst := (some 3), op := .assign (.tmp 9), ty := 3, guard := none }]
def c16_22 : AC := .region o16_22 []
theorem n16_22 : Run Cx 16 T ds ro (.code c16_22 :: k) H Q = RunOps Cx 16 T ds ro o16_22 k H Q := run_region
def c16_13 : AC := .seq c16_14 c16_22
theorem n16_13 : Run Cx 16 T ds ro (.code c16_13 :: k) H Q = Run Cx 16 T ds ro (.code c16_14 :: .code c16_22 :: k) H Q := run_seq
def c16_7 : AC := .seq c16_8 c16_13
theorem n16_7 : Run Cx 16 T ds ro (.code c16_7 :: k) H Q = Run Cx 16 T ds ro (.code c16_8 :: .code c16_13 :: k) H Q := run_seq
def c16_6 : AC := .loop c16_7
theorem n16_6 : Run Cx 16 T ds ro (.code c16_6 :: k) H Q = Run Cx 16 T ds ro (.inLoop c16_7 :: k) H Q := run_loop'
def c16_5 : AC := .block 0 c16_6
theorem n16_5 : Run Cx 16 T ds ro (.code c16_5 :: k) H Q = Run Cx 16 T ds ro (.code c16_6 :: .inBlock 0 :: k) H Q := run_block
def c16_3 : AC := .seq c16_4 c16_5
theorem n16_3 : Run Cx 16 T ds ro (.code c16_3 :: k) H Q = Run Cx 16 T ds ro (.code c16_4 :: .code c16_5 :: k) H Q := run_seq
def o16_24 : List AO := [{ dst := (some 2), op := .assign (.const (.bool true)), ty := 4, guard := none }]
def c16_24 : AC := .region o16_24 []
theorem n16_24 : Run Cx 16 T ds ro (.code c16_24 :: k) H Q = RunOps Cx 16 T ds ro o16_24 k H Q := run_region
def c16_25 : AC := .ret
theorem n16_25 : Run Cx 16 T [] none (.code c16_25 :: k) H Q = RunRes Cx T H Q (resOf Cx 16) := run_ret
def c16_23 : AC := .seq c16_24 c16_25
theorem n16_23 : Run Cx 16 T ds ro (.code c16_23 :: k) H Q = Run Cx 16 T ds ro (.code c16_24 :: .code c16_25 :: k) H Q := run_seq
def c16_2 : AC := .seq c16_3 c16_23
theorem n16_2 : Run Cx 16 T ds ro (.code c16_2 :: k) H Q = Run Cx 16 T ds ro (.code c16_3 :: .code c16_23 :: k) H Q := run_seq
def c16_0 : AC := .seq c16_1 c16_2
theorem n16_0 : Run Cx 16 T ds ro (.code c16_0 :: k) H Q = Run Cx 16 T ds ro (.code c16_1 :: .code c16_2 :: k) H Q := run_seq
theorem body16 : bodyOf Cx 16 = some c16_0 := by kernel_rfl
theorem res16 : resOf Cx 16 = some [.tmp 2] := by kernel_rfl
theorem pure16 : Cx.pure 16 = true := by kernel_rfl
-- RULES 16: n16_0, n16_1, n16_2, n16_3, n16_4, n16_5, n16_6, n16_7, n16_8, n16_9, n16_10, n16_11, n16_12, n16_13, n16_14, n16_15, n16_16, n16_17, n16_18, n16_19, n16_20, n16_21, n16_22, n16_23, n16_24, n16_25
def o17_1 : List AO := [{ dst := (some 4), op := .assign (.const (.slice none 0 0)), ty := 29, guard := none }]
def c17_1 : AC := .region o17_1 []
theorem n17_1 : Run Cx 17 T ds ro (.code c17_1 :: k) H Q = RunOps Cx 17 T ds ro o17_1 k H Q := run_region
def o17_3 : List AO := [{ dst := (some 5), op := .assign (.const (.slice none 0 0)), ty := 29, guard := none }]
def c17_3 : AC := .region o17_3 []
theorem n17_3 : Run Cx 17 T ds ro (.code c17_3 :: k) H Q = RunOps Cx 17 T ds ro o17_3 k H Q := run_region
def o17_6 : List AO := [{ dst := (some 6), op := .assign (.const (.int .i64 0)), ty := 3, guard := none }]
def c17_6 : AC := .region o17_6 []
theorem n17_6 : Run Cx 17 T ds ro (.code c17_6 :: k) H Q = RunOps Cx 17 T ds ro o17_6 k H Q := run_region
def o17_11 : List AO := [{ dst := (some 7), op := .move (.tmp 6), ty := 3, guard := none },
  { dst := (some 8), op := .move (.tmp 0), ty := 22, guard := none },
  { dst := (some 9), op := .call { callee := (.builtin .len), args := #[(.tmp 8)], argTypes := #[22] }, ty := 3, guard := none },
  { dst := (some 10), op := .binOp .lss 3 (.tmp 7) (.tmp 9) 3, ty := 4, guard := none }]
def c17_11 : AC := .region o17_11 []
theorem n17_11 : Run Cx 17 T ds ro (.code c17_11 :: k) H Q = RunOps Cx 17 T ds ro o17_11 k H Q := run_region
def c17_13 : AC := .skip
theorem n17_13 : Run Cx 17 T ds ro (.code c17_13 :: k) H Q = Run Cx 17 T ds ro (k) H Q := run_skip
def c17_14 : AC := .exit 0
theorem n17_14 : Run Cx 17 T ds ro (.code c17_14 :: k) H Q = RunExit Cx 17 T ds ro 0 k k H Q := run_exit_start
def c17_12 : AC := .cond (.tmp 10) c17_13 c17_14
theorem n17_12 : Run Cx 17 T ds ro (.code c17_12 :: k) H Q = RunCond Cx 17 T ds ro (.tmp 10) (ev T (.tmp 10)) c17_13 c17_14 k H Q := run_condC
def c17_10 : AC := .seq c17_11 c17_12
theorem n17_10 : Run Cx 17 T ds ro (.code c17_10 :: k) H Q = Run Cx 17 T ds ro (.code c17_11 :: .code c17_12 :: k) H Q := run_seq
def o17_17 : List AO := [{ dst := (some 14), op := .move (.tmp 5), ty := 29, guard := none },
  { dst := (some 15), op := .move (.tmp 0), ty := 22, guard := none },
  { dst := (some 16), op := .move (.tmp 6), ty := 3, guard := none },
  { dst := (some 17), op := .move (.tmp 6), ty := 3, guard := none },
  { dst := (some 18), op := .move (.tmp 1), ty := 3, guard := none },
  { dst := (some 19), op := .binOp .add 3 (.tmp 17) (.tmp 18) 3, ty := 3, guard := none },
  { dst := (some 20), op := .move (.tmp 0), ty := 22, guard := none },
  { dst := (some 21), op := .call { callee := (.builtin .len), args := #[(.tmp 20)], argTypes := #[22] }, ty := 3, guard := none },
  { dst := (some 22), op := .call { callee := (.builtin .min), args := #[(.tmp 19), (.tmp 21)], argTypes := #[3, 3] }, ty := 3, guard := none },
  { dst := (some 23), op := .slice 22 (.tmp 15) (some (.tmp 16)) (some (.tmp 22)) none, ty := 22, guard := none },
  { dst := (some 24), op := .call { callee := (.value (.func 19)), args := #[(.tmp 23)], argTypes := #[22] }, ty := 22, guard := none },
  { dst := (some 25), op := .buildSlice 29 1 #[(0, (.tmp 24))], ty := 29, guard := none },
  { dst := (some 26), op := .call { callee := (.builtin .append), args := #[(.tmp 14), (.tmp 25)], argTypes := #[29, 29] }, ty := 29, guard := none },
  { dst := (some 5), op := .assign (.tmp 26), ty := 29, guard := none }]
def c17_17 : AC := .region o17_17 []
theorem n17_17 : Run Cx 17 T ds ro (.code c17_17 :: k) H Q = RunOps Cx 17 T ds ro o17_17 k H Q := run_region
def c17_16 : AC := .block 1 c17_17
theorem n17_16 : Run Cx 17 T ds ro (.code c17_16 :: k) H Q = Run Cx 17 T ds ro (.code c17_17 :: .inBlock 1 :: k) H Q := run_block
def o17_18 : List AO := [{ dst := (some 11), op := .move (.tmp 6), ty := 3, guard := none },
  { dst := (some 12), op := .move (.tmp 1), ty := 3, guard := none },
  { dst := (some 13), op := .binOp .add 3 (.tmp 11) (.tmp 12) 3, ty := 3, guard := none },
  { dst := (some 6), op := .assign (.tmp 13), ty := 3, guard := none }]
def c17_18 : AC := .region o17_18 []
theorem n17_18 : Run Cx 17 T ds ro (.code c17_18 :: k) H Q = RunOps Cx 17 T ds ro o17_18 k H Q := run_region
def c17_15 : AC := .seq c17_16 c17_18
theorem n17_15 : Run Cx 17 T ds ro (.code c17_15 :: k) H Q = Run Cx 17 T ds ro (.code c17_16 :: .code c17_18 :: k) H Q := run_seq
def c17_9 : AC := .seq c17_10 c17_15
theorem n17_9 : Run Cx 17 T ds ro (.code c17_9 :: k) H Q = Run Cx 17 T ds ro (.code c17_10 :: .code c17_15 :: k) H Q := run_seq
def c17_8 : AC := .loop c17_9
theorem n17_8 : Run Cx 17 T ds ro (.code c17_8 :: k) H Q = Run Cx 17 T ds ro (.inLoop c17_9 :: k) H Q := run_loop'
def c17_7 : AC := .block 0 c17_8
theorem n17_7 : Run Cx 17 T ds ro (.code c17_7 :: k) H Q = Run Cx 17 T ds ro (.code c17_8 :: .inBlock 0 :: k) H Q := run_block
def c17_5 : AC := .seq c17_6 c17_7
theorem n17_5 : Run Cx 17 T ds ro (.code c17_5 :: k) H Q = Run Cx 17 T ds ro (.code c17_6 :: .code c17_7 :: k) H Q := run_seq
def o17_20 : List AO := [{ dst := (some 27), op := .move (.tmp 5), ty := 29, guard := none },
  { dst := (some 4), op := .assign (.tmp 27), ty := 29, guard := none }]
def c17_20 : AC := .region o17_20 []
theorem n17_20 : Run Cx 17 T ds ro (.code c17_20 :: k) H Q = RunOps Cx 17 T ds ro o17_20 k H Q := run_region
def c17_21 : AC := .ret
theorem n17_21 : Run Cx 17 T [] none (.code c17_21 :: k) H Q = RunRes Cx T H Q (resOf Cx 17) := run_ret
def c17_19 : AC := .seq c17_20 c17_21
theorem n17_19 : Run Cx 17 T ds ro (.code c17_19 :: k) H Q = Run Cx 17 T ds ro (.code c17_20 :: .code c17_21 :: k) H Q := run_seq
def c17_4 : AC := .seq c17_5 c17_19
theorem n17_4 : Run Cx 17 T ds ro (.code c17_4 :: k) H Q = Run Cx 17 T ds ro (.code c17_5 :: .code c17_19 :: k) H Q := run_seq
def c17_2 : AC := .seq c17_3 c17_4
theorem n17_2 : Run Cx 17 T ds ro (.code c17_2 :: k) H Q = Run Cx 17 T ds ro (.code c17_3 :: .code c17_4 :: k) H Q := run_seq
def c17_0 : AC := .seq c17_1 c17_2
theorem n17_0 : Run Cx 17 T ds ro (.code c17_0 :: k) H Q = Run Cx 17 T ds ro (.code c17_1 :: .code c17_2 :: k) H Q := run_seq
theorem body17 : bodyOf Cx 17 = some c17_0 := by kernel_rfl
theorem res17 : resOf Cx 17 = some [.tmp 4] := by kernel_rfl
theorem pure17 : Cx.pure 17 = true := by kernel_rfl
-- RULES 17: n17_0, n17_1, n17_2, n17_3, n17_4, n17_5, n17_6, n17_7, n17_8, n17_9, n17_10, n17_11, n17_12, n17_13, n17_14, n17_15, n17_16, n17_17, n17_18, n17_19, n17_20, n17_21
def o18_1 : List AO := [{ dst := (some 4), op := .assign (.const (.bool false)), ty := 4, guard := none }]
def c18_1 : AC := .region o18_1 []
theorem n18_1 : Run Cx 18 T ds ro (.code c18_1 :: k) H Q = RunOps Cx 18 T ds ro o18_1 k H Q := run_region
def o18_4 : List AO := [{ dst := (some 6), op := .move (.tmp 0), ty := 22, guard := none },
  { dst := (some 7), op := .call { callee := (.builtin .len), args := #[(.tmp 6)], argTypes := #[22] }, ty := 3, guard := none },
  { dst := (some 8), op := .move (.tmp 1), ty := 22, guard := none },
  { dst := (some 9), op := .call { callee := (.builtin .len), args := #[(.tmp 8)], argTypes := #[22] }, ty := 3, guard := none },
  { dst := (some 10), op := .binOp .neq 3 (.tmp 7) (.tmp 9) 3, ty := 4, guard := none }]
def c18_4 : AC := .region o18_4 []
theorem n18_4 : Run Cx 18 T ds ro (.code c18_4 :: k) H Q = RunOps Cx 18 T ds ro o18_4 k H Q := run_region
def o18_7 : List AO := [{ dst := (some 4), op := .assign (.const (.bool false)), ty := 4, guard := none }]
def c18_7 : AC := .region o18_7 []
theorem n18_7 : Run Cx 18 T ds ro (.code c18_7 :: k) H Q = RunOps Cx 18 T ds ro o18_7 k H Q := run_region
def c18_8 : AC := .ret
theorem n18_8 : Run Cx 18 T [] none (.code c18_8 :: k) H Q = RunRes Cx T H Q (resOf Cx 18) := run_ret
def c18_6 : AC := .seq c18_7 c18_8
theorem n18_6 : Run Cx 18 T ds ro (.code c18_6 :: k) H Q = Run Cx 18 T ds ro (.code c18_7 :: .code c18_8 :: k) H Q := run_seq
def c18_9 : AC := .skip
theorem n18_9 : Run Cx 18 T ds ro (.code c18_9 :: k) H Q = Run Cx 18 T ds ro (k) H Q := run_skip
def c18_5 : AC := .cond (.tmp 10) c18_6 c18_9
theorem n18_5 : Run Cx 18 T ds ro (.code c18_5 :: k) H Q = RunCond Cx 18 T ds ro (.tmp 10) (ev T (.tmp 10)) c18_6 c18_9 k H Q := run_condC
def c18_3 : AC := .seq c18_4 c18_5
theorem n18_3 : Run Cx 18 T ds ro (.code c18_3 :: k) H Q = Run Cx 18 T ds ro (.code c18_4 :: .code c18_5 :: k) H Q := run_seq
def o18_12 : List AO := [{ dst := (some 5), op := .assign (.const (.int .i64 0)), ty := 3, guard := none }]
def c18_12 : AC := .region o18_12 []
theorem n18_12 : Run Cx 18 T ds ro (.code c18_12 :: k) H Q = RunOps Cx 18 T ds ro o18_12 k H Q := run_region
def o18_17 : List AO := [{ dst := (some 11), op := .move (.tmp 5), ty := 3, guard := none },
  { dst := (some 12), op := .move (.tmp 0), ty := 22, guard := none },
  { dst := (some 13), op := .call { callee := (.builtin .len), args := #[(.tmp 12)], argTypes := #[22] }, ty := 3, guard := none },
  { dst := (some 14), op := .binOp .lss 3 (.tmp 11) (.tmp 13) 3, ty := 4, guard := none }]
def c18_17 : AC := .region o18_17 []
theorem n18_17 : Run Cx 18 T ds ro (.code c18_17 :: k) H Q = RunOps Cx 18 T ds ro o18_17 k H Q := run_region
def c18_19 : AC := .skip
theorem n18_19 : Run Cx 18 T ds ro (.code c18_19 :: k) H Q = Run Cx 18 T ds ro (k) H Q := run_skip
def c18_20 : AC := .exit 0
theorem n18_20 : Run Cx 18 T ds ro (.code c18_20 :: k) H Q = RunExit Cx 18 T ds ro 0 k k H Q := run_exit_start
def c18_18 : AC := .cond (.tmp 14) c18_19 c18_20
theorem n18_18 : Run Cx 18 T ds ro (.code c18_18 :: k) H Q = RunCond Cx 18 T ds ro (.tmp 14) (ev T (.tmp 14)) c18_19 c18_20 k H Q := run_condC
def c18_16 : AC := .seq c18_17 c18_18
theorem n18_16 : Run Cx 18 T ds ro (.code c18_16 :: k) H Q = Run Cx 18 T ds ro (.code c18_17 :: .code c18_18 :: k) H Q := run_seq
def o18_24 : List AO := [{ dst := (some 17), op := .move (.tmp 0), ty := 22, guard := none },
  { dst := (some 18), op := .move (.tmp 5), ty := 3, guard := none },
  { dst := (some 19), op := .indexAddr 22 (.tmp 17) (.tmp 18), ty := 0, guard := none },
  { dst := (some 20), op := .load 42 (.tmp 19), ty := 42, guard := none },
  { dst := (some 21), op := .move (.tmp 1), ty := 22, guard := none },
  { dst := (some 22), op := .move (.tmp 5), ty := 3, guard := none },
  { dst := (some 23), op := .indexAddr 22 (.tmp 21) (.tmp 22), ty := 0, guard := none },
  { dst := (some 24), op := .load 42 (.tmp 23), ty := 42, guard := none },
  { dst := (some 25), op := .binOp .neq 42 (.tmp 20) (.tmp 24) 42, ty := 4, guard := none }]
def c18_24 : AC := .region o18_24 []
theorem n18_24 : Run Cx 18 T ds ro (.code c18_24 :: k) H Q = RunOps Cx 18 T ds ro o18_24 k H Q := run_region
def o18_27 : List AO := [{ dst := (some 4), op := .assign (.const (.bool false)), ty := 4, guard := none }]
def c18_27 : AC := .region o18_27 []
theorem n18_27 : Run Cx 18 T ds ro (.code c18_27 :: k) H Q = RunOps Cx 18 T ds ro o18_27 k H Q := run_region
def c18_28 : AC := .ret
theorem n18_28 : Run Cx 18 T [] none (.code c18_28 :: k) H Q = RunRes Cx T H Q (resOf Cx 18) := run_ret
def c18_26 : AC := .seq c18_27 c18_28
theorem n18_26 : Run Cx 18 T ds ro (.code c18_26 :: k) H Q = Run Cx 18 T ds ro (.code c18_27 :: .code c18_28 :: k) H Q := run_seq
def c18_29 : AC := .skip
theorem n18_29 : Run Cx 18 T ds ro (.code c18_29 :: k) H Q = Run Cx 18 T ds ro (k) H Q := run_skip
def c18_25 : AC := .cond (.tmp 25) c18_26 c18_29
theorem n18_25 : Run Cx 18 T ds ro (.code c18_25 :: k) H Q = RunCond Cx 18 T ds ro (.tmp 25) (ev T (.tmp 25)) c18_26 c18_29 k H Q := run_condC
def c18_23 : AC := .seq c18_24 c18_25
theorem n18_23 : Run Cx 18 T ds ro (.code c18_23 :: k) H Q = Run Cx 18 T ds ro (.code c18_24 :: .code c18_25 :: k) H Q := run_seq
def c18_22 : AC := .block 1 c18_23
theorem n18_22 : Run Cx 18 T ds ro (.code c18_22 :: k) H Q = Run Cx 18 T ds ro (.code c18_23 :: .inBlock 1 :: k) H Q := run_block
def o18_30 : List AO := [{ dst := (some 15), op := .move (.tmp 5), ty := 3, guard := none },
  { dst := (some 16), op := .binOp .add 3 (.tmp 15) (.const (.int .i64 1)) 3, ty := 3, guard := none },
  { dst := (some 5), op := .assign (.tmp 16), ty := 3, guard := none }]
def c18_30 : AC := .region o18_30 []
theorem n18_30 : Run Cx 18 T ds ro (.code c18_30 :: k) H Q = RunOps Cx 18 T ds ro o18_30 k H Q := run_region
def c18_21 : AC := .seq c18_22 c18_30
theorem n18_21 : Run Cx 18 T ds ro (.code c18_21 :: k) H Q = Run Cx 18 T ds ro (.code c18_22 :: .code c18_30 :: k) H Q := run_seq
def c18_15 : AC := .seq c18_16 c18_21
theorem n18_15 : Run Cx 18 T ds ro (.code c18_15 :: k) H Q = Run Cx 18 T ds ro (.code c18_16 :: .code c18_21 :: k) H Q := run_seq
def c18_14 : AC := .loop c18_15
theorem n18_14 : Run Cx 18 T ds ro (.code c18_14 :: k) H Q = Run Cx 18 T ds ro (.inLoop c18_15 :: k) H Q := run_loop'
def c18_13 : AC := .block 0 c18_14
theorem n18_13 : Run Cx 18 T ds ro (.code c18_13 :: k) H Q = Run Cx 18 T ds ro (.code c18_14 :: .inBlock 0 :: k) H Q := run_block
def c18_11 : AC := .seq c18_12 c18_13
theorem n18_11 : Run Cx 18 T ds ro (.code c18_11 :: k) H Q = Run Cx 18 T ds ro (.code c18_12 :: .code c18_13 :: k) H Q := run_seq
def o18_32 : List AO := [{ dst := (some 4), op := .assign (.const (.bool true)), ty := 4, guard := none }]
def c18_32 : AC := .region o18_32 []
theorem n18_32 : Run Cx 18 T ds ro (.code c18_32 :: k) H Q = RunOps Cx 18 T ds ro o18_32 k H Q := run_region
def c18_33 : AC := .ret
theorem n18_33 : Run Cx 18 T [] none (.code c18_33 :: k) H Q = RunRes Cx T H Q (resOf Cx 18) := run_ret
def c18_31 : AC := .seq c18_32 c18_33
theorem n18_31 : Run Cx 18 T ds ro (.code c18_31 :: k) H Q = Run Cx 18 T ds ro (.code c18_32 :: .code c18_33 :: k) H Q := run_seq
def c18_10 : AC := .seq c18_11 c18_31
theorem n18_10 : Run Cx 18 T ds ro (.code c18_10 :: k) H Q = Run Cx 18 T ds ro (.code c18_11 :: .code c18_31 :: k) H Q := run_seq
def c18_2 : AC := .seq c18_3 c18_10
theorem n18_2 : Run Cx 18 T ds ro (.code c18_2 :: k) H Q = Run Cx 18 T ds ro (.code c18_3 :: .code c18_10 :: k) H Q := run_seq
def c18_0 : AC := .seq c18_1 c18_2
theorem n18_0 : Run Cx 18 T ds ro (.code c18_0 :: k) H Q = Run Cx 18 T ds ro (.code c18_1 :: .code c18_2 :: k) H Q := run_seq
theorem body18 : bodyOf Cx 18 = some c18_0 := by kernel_rfl
theorem res18 : resOf Cx 18 = some [.tmp 4] := by kernel_rfl
theorem pure18 : Cx.pure 18 = true := by kernel_rfl
-- RULES 18: n18_0, n18_1, n18_2, n18_3, n18_4, n18_5, n18_6, n18_7, n18_8, n18_9, n18_10, n18_11, n18_12, n18_13, n18_14, n18_15, n18_16, n18_17, n18_18, n18_19, n18_20, n18_21, n18_22, n18_23, n18_24, n18_25, n18_26, n18_27, n18_28, n18_29, n18_30, n18_31, n18_32, n18_33
def o19_1 : List AO := [{ dst := (some 2), op := .assign (.const (.slice none 0 0)), ty := 22, guard := none }]
def c19_1 : AC := .region o19_1 []
theorem n19_1 : Run Cx 19 T ds ro (.code c19_1 :: k) H Q = RunOps Cx 19 T ds ro o19_1 k H Q := run_region
def o19_3 : List AO := [{ dst := (some 3), op := .assign (.const (.slice none 0 0)), ty := 22, guard := none }]
def c19_3 : AC := .region o19_3 []
theorem n19_3 : Run Cx 19 T ds ro (.code c19_3 :: k) H Q = RunOps Cx 19 T ds ro o19_3 k H Q := run_region
def o19_6 : List AO := [{ dst := (some 4), op := .assign (.const (.int .i64 0)), ty := 3, guard := none }]
def c19_6 : AC := .region o19_6 []
theorem n19_6 : Run Cx 19 T ds ro (.code c19_6 :: k) H Q = RunOps Cx 19 T ds ro o19_6 k H Q := run_region
def o19_11 : List AO := [{ dst := (some 7), op := .move (.tmp 4), ty := 3, guard := none },
  { dst := (some 8), op := .move (.tmp 0), ty := 22, guard := none },
  { dst := (some 9), op := .call { callee := (.builtin .len), args := #[(.tmp 8)], argTypes := #[22] }, ty := 3, guard := none },
  { dst := (some 10), op := .binOp .lss 3 (.tmp 7) (.tmp 9) 3, ty := 4, guard := none }]
def c19_11 : AC := .region o19_11 []
theorem n19_11 : Run Cx 19 T ds ro (.code c19_11 :: k) H Q = RunOps Cx 19 T ds ro o19_11 k H Q := run_region
def c19_13 : AC := .skip
theorem n19_13 : Run Cx 19 T ds ro (.code c19_13 :: k) H Q = Run Cx 19 T ds ro (k) H Q := run_skip
def c19_14 : AC := .exit 0
theorem n19_14 : Run Cx 19 T ds ro (.code c19_14 :: k) H Q = RunExit Cx 19 T ds ro 0 k k H Q := run_exit_start
def c19_12 : AC := .cond (.tmp 10) c19_13 c19_14
theorem n19_12 : Run Cx 19 T ds ro (.code c19_12 :: k) H Q = RunCond Cx 19 T ds ro (.tmp 10) (ev T (.tmp 10)) c19_13 c19_14 k H Q := run_condC
def c19_10 : AC := .seq c19_11 c19_12
theorem n19_10 : Run Cx 19 T ds ro (.code c19_10 :: k) H Q = Run Cx 19 T ds ro (.code c19_11 :: .code c19_12 :: k) H Q := run_seq
def o19_18 : List AO := [{ dst := (some 13), op := .move (.tmp 3), ty := 22, guard := none },
  { dst := (some 14), op := .call { callee := (.builtin .len), args := #[(.tmp 13)], argTypes := #[22] }, ty := 3, guard := none },
  { dst := (some 5), op := .assign (.tmp 14), ty := 3, guard := none }]
def c19_18 : AC := .region o19_18 []
theorem n19_18 : Run Cx 19 T ds ro (.code c19_18 :: k) H Q = RunOps Cx 19 T ds ro o19_18 k H Q := run_region
def o19_24 : List AO := [{ dst := (some 15), op := .move (.tmp 5), ty := 3, guard := none },
  { dst := (some 16), op := .binOp .gtr 3 (.tmp 15) (.const (.int .i64 0)) 3, ty := 4, guard := none },
  { dst := (some 17), op := .move (.tmp 16), ty := 4, guard := none },
  { dst := (some 18), op := .move (.tmp 3), ty := 22, guard := (some (17, true)) },
  { dst := (some 19), op := .move (.tmp 5), ty := 3, guard := (some (17, true)) },
  { dst := (some 20), op := .binOp .sub 3 (.tmp 19) (.const (.int .i64 1)) 3, ty := 3, guard := (some (17, true)) },
  { dst := (some 21), op := .indexAddr 22 (.tmp 18) (.tmp 20), ty := 0, guard := (some (17, true)) },
  { dst := (some 22), op := .fieldAddr 42 (.tmp 21) 0, ty := 0, guard := (some (17, true)) },
  { dst := (some 23), op := .load 9 (.tmp 22), ty := 9, guard := (some (17, true)) },
  { dst := (some 24), op := .move (.tmp 0), ty := 22, guard := (some (17, true)) },
  { dst := (some 25), op := .move (.tmp 4), ty := 3, guard := (some (17, true)) },
  { dst := (some 26), op := .indexAddr 22 (.tmp 24) (.tmp 25), ty := 0, guard := (some (17, true)) },
  { dst := (some 27), op := .fieldAddr 42 (.tmp 26) 0, ty := 0, guard := (some (17, true)) },
  { dst := (some 28), op := .load 9 (.tmp 27), ty := 9, guard := (some (17, true)) },
  { dst := (some 29), op := .binOp .gtr 9 (.tmp 23) (.tmp 28) 9, ty := 4, guard := (some (17, true)) },
  { dst := (some 30), op := .pick (.tmp 17) (.tmp 29) (.const (.bool false)), ty := 4, guard := none }]
def c19_24 : AC := .region o19_24 []
theorem n19_24 : Run Cx 19 T ds ro (.code c19_24 :: k) H Q = RunOps Cx 19 T ds ro o19_24 k H Q := run_region
def c19_26 : AC := .skip
theorem n19_26 : Run Cx 19 T ds ro (.code c19_26 :: k) H Q = Run Cx 19 T ds ro (k) H Q := run_skip
def c19_27 : AC := .exit 2
theorem n19_27 : Run Cx 19 T ds ro (.code c19_27 :: k) H Q = RunExit Cx 19 T ds ro 2 k k H Q := run_exit_start
def c19_25 : AC := .cond (.tmp 30) c19_26 c19_27
theorem n19_25 : Run Cx 19 T ds ro (.code c19_25 :: k) H Q = RunCond Cx 19 T ds ro (.tmp 30) (ev T (.tmp 30)) c19_26 c19_27 k H Q := run_condC
def c19_23 : AC := .seq c19_24 c19_25
theorem n19_23 : Run Cx 19 T ds ro (.code c19_23 :: k) H Q = Run Cx 19 T ds ro (.code c19_24 :: .code c19_25 :: k) H Q := run_seq
def o19_29 : List AO := [{ dst := (some 31), op := .move (.tmp 5), ty := 3, guard := none },
  { dst := (some 32), op := .binOp .sub 3 (.tmp 31) (.const (.int .i64 1)) 3, ty := 3, guard := none },
  { dst := (some 5), op := .assign (.tmp 32), ty := 3, guard := none }]
def c19_29 : AC := .region o19_29 []
theorem n19_29 : Run Cx 19 T ds ro (.code c19_29 :: k) H Q = RunOps Cx 19 T ds ro o19_29 k H Q := run_region
def c19_28 : AC := .block 3 c19_29
theorem n19_28 : Run Cx 19 T ds ro (.code c19_28 :: k) H Q = Run Cx 19 T ds ro (.code c19_29 :: .inBlock 3 :: k) H Q := run_block
def c19_22 : AC := .seq c19_23 c19_28
theorem n19_22 : Run Cx 19 T ds ro (.code c19_22 :: k) H Q = Run Cx 19 T ds ro (.code c19_23 :: .code c19_28 :: k) H Q := run_seq
def c19_21 : AC := .loop c19_22
theorem n19_21 : Run Cx 19 T ds ro (.code c19_21 :: k) H Q = Run Cx 19 T ds ro (.inLoop c19_22 :: k) H Q := run_loop'
def c19_20 : AC := .block 2 c19_21
theorem n19_20 : Run Cx 19 T ds ro (.code c19_20 :: k) H Q = Run Cx 19 T ds ro (.code c19_21 :: .inBlock 2 :: k) H Q := run_block
def o19_31 : List AO := [{ dst := (some 33), op := .move (.tmp 3), ty := 22, guard := none },
  { dst := (some 34), op := .move (.tmp 0), ty := 22, guard := none },
  { dst := (some 35), op := .move (.tmp 4), ty := 3, guard := none },
  { dst := (some 36), op := .indexAddr 22 (.tmp 34) (.tmp 35), ty := 0, guard := none },
  { dst := (some 37), op := .load 42 (.tmp 36), ty := 42, guard := none },
  { dst := (some 38), op := .buildSlice 22 1 #[(0, (.tmp 37))], ty := 22, guard := none },
  { dst := (some 39), op := .call { callee := (.builtin .append), args := #[(.tmp 33), (.tmp 38)], argTypes := #[22, 22] }, ty := 22, guard := none },
  { dst := (some 3), op := .assign (.tmp 39), ty := 22, guard := none }]
def c19_31 : AC := .region o19_31 []
theorem n19_31 : Run Cx 19 T ds ro (.code c19_31 :: k) H Q = RunOps Cx 19 T ds ro o19_31 k H Q := run_region
def o19_34 : List AO := [{ dst := (some 40), op := .move (.tmp 3), ty := 22, guard := none },
  { dst := (some 41), op := .call { callee := (.builtin .len), args := #[(.tmp 40)], argTypes := #[22] }, ty := 3, guard := none },
  { dst := (some 42), op := .binOp .sub 3 (.tmp 41) (.const (.int .i64 1)) 3, ty := 3, guard := none },
  { dst := (some 6), op := .assign (.tmp 42), ty := 3, guard := none }]
def c19_34 : AC := .region o19_34 []
theorem n19_34 : Run Cx 19 T ds ro (.code c19_34 :: k) H Q = RunOps Cx 19 T ds ro o19_34 k H Q := run_region
def o19_39 : List AO := [{ dst := (some 43), op := .move (.tmp 6), ty := 3, guard := none },
  { dst := (some 44), op := .move (.tmp 5), ty := 3, guard := none },
  { dst := (some 45), op := .binOp .gtr 3 (.tmp 43) (.tmp 44) 3, ty := 4, guard := none }]
def c19_39 : AC := .region o19_39 []
theorem n19_39 : Run Cx 19 T ds ro (.code c19_39 :: k) H Q = RunOps Cx 19 T ds ro o19_39 k H Q := run_region
def c19_41 : AC := .skip
theorem n19_41 : Run Cx 19 T ds ro (.code c19_41 :: k) H Q = Run Cx 19 T ds ro (k) H Q := run_skip
def c19_42 : AC := .exit 4
theorem n19_42 : Run Cx 19 T ds ro (.code c19_42 :: k) H Q = RunExit Cx 19 T ds ro 4 k k H Q := run_exit_start
def c19_40 : AC := .cond (.tmp 45) c19_41 c19_42
theorem n19_40 : Run Cx 19 T ds ro (.code c19_40 :: k) H Q = RunCond Cx 19 T ds ro (.tmp 45) (ev T (.tmp 45)) c19_41 c19_42 k H Q := run_condC
def c19_38 : AC := .seq c19_39 c19_40
theorem n19_38 : Run Cx 19 T ds ro (.code c19_38 :: k) H Q = Run Cx 19 T ds ro (.code c19_39 :: .code c19_40 :: k) H Q := run_seq
def o19_45 : List AO := [{ dst := (some 48), op := .move (.tmp 3), ty := 22, guard := none },
  { dst := (some 49), op := .move (.tmp 6), ty := 3, guard := none },
  { dst := (some 50), op := .move (.tmp 3), ty := 22, guard := none },
  { dst := (some 51), op := .move (.tmp 6), ty := 3, guard := none },
  { dst := (some 52), op := .binOp .sub 3 (.tmp 51) (.const (.int .i64 1)) 3, ty := 3, guard := none },
  { dst := (some 53), op := .indexAddr 22 (.tmp 50) (.tmp 52), ty := 0, guard := none },
  { dst := (some 54), op := .load 42 (.tmp 53), ty := 42, guard := none },
  { dst := (some 55), op := .indexAddr 22 (.tmp 48) (.tmp 49), ty := 0, guard := none },
  { dst := none, op := .store 42 (.tmp 55) (.tmp 54), ty := 0, guard := none }]
def c19_45 : AC := .region o19_45 []
theorem n19_45 : Run Cx 19 T ds ro (.code c19_45 :: k) H Q = RunOps Cx 19 T ds ro o19_45 k H Q := run_region
def c19_44 : AC := .block 5 c19_45
theorem n19_44 : Run Cx 19 T ds ro (.code c19_44 :: k) H Q = Run Cx 19 T ds ro (.code c19_45 :: .inBlock 5 :: k) H Q := run_block
def o19_46 : List AO := [{ dst := (some 46), op := .move (.tmp 6), ty := 3, guard := none },
  { dst := (some 47), op := .binOp .sub 3 (.tmp 46) (.const (.int .i64 1)) 3, ty := 3, guard := none },
  { dst := (some 6), op := .assign (.tmp 47), ty := 3, guard := none }]
def c19_46 : AC := .region o19_46 []
theorem n19_46 : Run Cx 19 T ds ro (.code c19_46 :: k) H Q = RunOps Cx 19 T ds ro o19_46 k H Q := run_region
def c19_43 : AC := .seq c19_44 c19_46
theorem n19_43 : Run Cx 19 T ds ro (.code c19_43 :: k) H Q = Run Cx 19 T ds ro (.code c19_44 :: .code c19_46 :: k) H Q := run_seq
def c19_37 : AC := .seq c19_38 c19_43
theorem n19_37 : Run Cx 19 T ds ro (.code c19_37 :: k) H Q = Run Cx 19 T ds ro (.code c19_38 :: .code c19_43 :: k) H Q := run_seq
def c19_36 : AC := .loop c19_37
theorem n19_36 : Run Cx 19 T ds ro (.code c19_36 :: k) H Q = Run Cx 19 T ds ro (.inLoop c19_37 :: k) H Q := run_loop'
def c19_35 : AC := .block 4 c19_36
theorem n19_35 : Run Cx 19 T ds ro (.code c19_35 :: k) H Q = Run Cx 19 T ds ro (.code c19_36 :: .inBlock 4 :: k) H Q := run_block
def c19_33 : AC := .seq c19_34 c19_35
theorem n19_33 : Run Cx 19 T ds ro (.code c19_33 :: k) H Q = Run Cx 19 T ds ro (.code c19_34 :: .code c19_35 :: k) H Q := run_seq
def o19_47 : List AO := [{ dst := (some 56), op := .move (.tmp 3), ty := 22, guard := none },
  { dst := (some 57), op := .move (.tmp 5), ty := 3, guard := none },
  { dst := (some 58), op := .move (.tmp 0), ty := 22, guard := none },
  { dst := (some 59), op := .move (.tmp 4), ty := 3, guard := none },
  { dst := (some 60), op := .indexAddr 22 (.tmp 58) (.tmp 59), ty := 0, guard := none },
  { dst := (some 61), op := .load 42 (.tmp 60), ty := 42, guard := none },
  { dst := (some 62), op := .indexAddr 22 (.tmp 56) (.tmp 57), ty := 0, guard := none },
  { dst := none, op := .store 42 (.tmp 62) (.tmp 61), ty := 0, guard := none }]
def c19_47 : AC := .region o19_47 []
theorem n19_47 : Run Cx 19 T ds ro (.code c19_47 :: k) H Q = RunOps Cx 19 T ds ro o19_47 k H Q := run_region
def c19_32 : AC := .seq c19_33 c19_47
theorem n19_32 : Run Cx 19 T ds ro (.code c19_32 :: k) H Q = Run Cx 19 T ds ro (.code c19_33 :: .code c19_47 :: k) H Q := run_seq
def c19_30 : AC := .seq c19_31 c19_32
theorem n19_30 : Run Cx 19 T ds ro (.code c19_30 :: k) H Q = Run Cx 19 T ds ro (.code c19_31 :: .code c19_32 :: k) H Q := run_seq
def c19_19 : AC := .seq c19_20 c19_30
theorem n19_19 : Run Cx 19 T ds ro (.code c19_19 :: k) H Q = Run Cx 19 T ds ro (.code c19_20 :: .code c19_30 :: k) H Q := run_seq
def c19_17 : AC := .seq c19_18 c19_19
theorem n19_17 : Run Cx 19 T ds ro (.code c19_17 :: k) H Q = Run Cx 19 T ds ro (.code c19_18 :: .code c19_19 :: k) H Q := run_seq
def c19_16 : AC := .block 1 c19_17
theorem n19_16 : Run Cx 19 T ds ro (.code c19_16 :: k) H Q = Run Cx 19 T ds ro (.code c19_17 :: .inBlock 1 :: k) H Q := run_block
def o19_48 : List AO := [{ dst := (some 11), op := .move (.tmp 4), ty := 3, guard := none },
  { dst := (some 12), op := .binOp .add 3 (.tmp 11) (.const (.int .i64 1)) 3, ty := 3, guard := none },
  { dst := (some 4), op := .assign (.tmp 12), ty := 3, guard := none }]
def c19_48 : AC := .region o19_48 []
theorem n19_48 : Run Cx 19 T ds ro (.code c19_48 :: k) H Q = RunOps Cx 19 T ds ro o19_48 k H Q := run_region
def c19_15 : AC := .seq c19_16 c19_48
theorem n19_15 : Run Cx 19 T ds ro (.code c19_15 :: k) H Q = Run Cx 19 T ds ro (.code c19_16 :: .code c19_48 :: k) H Q := run_seq
def c19_9 : AC := .seq c19_10 c19_15
theorem n19_9 : Run Cx 19 T ds ro (.code c19_9 :: k) H Q = Run Cx 19 T ds ro (.code c19_10 :: .code c19_15 :: k) H Q := run_seq
def c19_8 : AC := .loop c19_9
theorem n19_8 : Run Cx 19 T ds ro (.code c19_8 :: k) H Q = Run Cx 19 T ds ro (.inLoop c19_9 :: k) H Q := run_loop'
def c19_7 : AC := .block 0 c19_8
theorem n19_7 : Run Cx 19 T ds ro (.code c19_7 :: k) H Q = Run Cx 19 T ds ro (.code c19_8 :: .inBlock 0 :: k) H Q := run_block
def c19_5 : AC := .seq c19_6 c19_7
theorem n19_5 : Run Cx 19 T ds ro (.code c19_5 :: k) H Q = Run Cx 19 T ds ro (.code c19_6 :: .code c19_7 :: k) H Q := run_seq
def o19_50 : List AO := [{ dst := (some 63), op := .move (.tmp 3), ty := 22, guard := none },
  { dst := (some 2), op := .assign (.tmp 63), ty := 22, guard := none }]
def c19_50 : AC := .region o19_50 []
theorem n19_50 : Run Cx 19 T ds ro (.code c19_50 :: k) H Q = RunOps Cx 19 T ds ro o19_50 k H Q := run_region
def c19_51 : AC := .ret
theorem n19_51 : Run Cx 19 T [] none (.code c19_51 :: k) H Q = RunRes Cx T H Q (resOf Cx 19) := run_ret
def c19_49 : AC := .seq c19_50 c19_51
theorem n19_49 : Run Cx 19 T ds ro (.code c19_49 :: k) H Q = Run Cx 19 T ds ro (.code c19_50 :: .code c19_51 :: k) H Q := run_seq
def c19_4 : AC := .seq c19_5 c19_49
theorem n19_4 : Run Cx 19 T ds ro (.code c19_4 :: k) H Q = Run Cx 19 T ds ro (.code c19_5 :: .code c19_49 :: k) H Q := run_seq
def c19_2 : AC := .seq c19_3 c19_4
theorem n19_2 : Run Cx 19 T ds ro (.code c19_2 :: k) H Q = Run Cx 19 T ds ro (.code c19_3 :: .code c19_4 :: k) H Q := run_seq
def c19_0 : AC := .seq c19_1 c19_2
theorem n19_0 : Run Cx 19 T ds ro (.code c19_0 :: k) H Q = Run Cx 19 T ds ro (.code c19_1 :: .code c19_2 :: k) H Q := run_seq
theorem body19 : bodyOf Cx 19 = some c19_0 := by kernel_rfl
theorem res19 : resOf Cx 19 = some [.tmp 2] := by kernel_rfl
theorem pure19 : Cx.pure 19 = true := by kernel_rfl
-- RULES 19: n19_0, n19_1, n19_2, n19_3, n19_4, n19_5, n19_6, n19_7, n19_8, n19_9, n19_10, n19_11, n19_12, n19_13, n19_14, n19_15, n19_16, n19_17, n19_18, n19_19, n19_20, n19_21, n19_22, n19_23, n19_24, n19_25, n19_26, n19_27, n19_28, n19_29, n19_30, n19_31, n19_32, n19_33, n19_34, n19_35, n19_36, n19_37, n19_38, n19_39, n19_40, n19_41, n19_42, n19_43, n19_44, n19_45, n19_46, n19_47, n19_48, n19_49, n19_50, n19_51
def o20_1 : List AO := [{ dst := (some 2), op := .assign (.const .nilFunc), ty := 47, guard := none }]
def c20_1 : AC := .region o20_1 []
theorem n20_1 : Run Cx 20 T ds ro (.code c20_1 :: k) H Q = RunOps Cx 20 T ds ro o20_1 k H Q := run_region
def o20_3 : List AO := [{ dst := (some 3), op := .move (.tmp 0), ty := 26, guard := none },
  { dst := (some 4), op := .call { callee := (.value (.func 11)), args := #[(.tmp 3)], argTypes := #[26] }, ty := 29, guard := none },
  { dst := (some 5), op := .call { callee := (.value (.func 30)), args := #[(.tmp 4)], argTypes := #[29] }, ty := 47, guard := none },
  { dst := (some 2), op := .assign (.tmp 5), ty := 47, guard := none }]
def c20_3 : AC := .region o20_3 []
theorem n20_3 : Run Cx 20 T ds ro (.code c20_3 :: k) H Q = RunOps Cx 20 T ds ro o20_3 k H Q := run_region
def c20_4 : AC := .ret
theorem n20_4 : Run Cx 20 T [] none (.code c20_4 :: k) H Q = RunRes Cx T H Q (resOf Cx 20) := run_ret
def c20_2 : AC := .seq c20_3 c20_4
theorem n20_2 : Run Cx 20 T ds ro (.code c20_2 :: k) H Q = Run Cx 20 T ds ro (.code c20_3 :: .code c20_4 :: k) H Q := run_seq
def c20_0 : AC := .seq c20_1 c20_2
theorem n20_0 : Run Cx 20 T ds ro (.code c20_0 :: k) H Q = Run Cx 20 T ds ro (.code c20_1 :: .code c20_2 :: k) H Q := run_seq
theorem body20 : bodyOf Cx 20 = some c20_0 := by kernel_rfl
theorem res20 : resOf Cx 20 = some [.tmp 2] := by kernel_rfl
theorem pure20 : Cx.pure 20 = false := by kernel_rfl
-- RULES 20: n20_0, n20_1, n20_2, n20_3, n20_4
def o21_1 : List AO := [{ dst := (some 2), op := .assign (.const (.slice none 0 0)), ty := 22, guard := none },
  { dst := (some 3), op := .assign (.const (.int .i64 0)), ty := 33, guard := none }]
def c21_1 : AC := .region o21_1 []
theorem n21_1 : Run Cx 21 T ds ro (.code c21_1 :: k) H Q = RunOps Cx 21 T ds ro o21_1 k H Q := run_region
def o21_4 : List AO := [{ dst := (some 6), op := .move (.tmp 0), ty := 29, guard := none },
  { dst := (some 7), op := .call { callee := (.value (.func 31)), args := #[(.tmp 6), (.func 32)], argTypes := #[29, 25] }, ty := 4, guard := none }]
def c21_4 : AC := .region o21_4 []
theorem n21_4 : Run Cx 21 T ds ro (.code c21_4 :: k) H Q = RunOps Cx 21 T ds ro o21_4 k H Q := run_region
def o21_7 : List AO := [{ dst := (some 2), op := .assign (.const (.slice none 0 0)), ty := 22, guard := none },
  { dst := (some 3), op := .assign (.const (.int .i64 17)), ty := 33, guard := none }]
def c21_7 : AC := .region o21_7 []
theorem n21_7 : Run Cx 21 T ds ro (.code c21_7 :: k) H Q = RunOps Cx 21 T ds ro o21_7 k H Q := run_region
def c21_8 : AC := .ret
theorem n21_8 : Run Cx 21 T [] none (.code c21_8 :: k) H Q = RunRes Cx T H Q (resOf Cx 21) := run_ret
def c21_6 : AC := .seq c21_7 c21_8
theorem n21_6 : Run Cx 21 T ds ro (.code c21_6 :: k) H Q = Run Cx 21 T ds ro (.code c21_7 :: .code c21_8 :: k) H Q := run_seq
def c21_9 : AC := .skip
theorem n21_9 : Run Cx 21 T ds ro (.code c21_9 :: k) H Q = Run Cx 21 T ds ro (k) H Q := run_skip
def c21_5 : AC := .cond (.tmp 7) c21_6 c21_9
theorem n21_5 : Run Cx 21 T ds ro (.code c21_5 :: k) H Q = RunCond Cx 21 T ds ro (.tmp 7) (ev T (.tmp 7)) c21_6 c21_9 k H Q := run_condC
def c21_3 : AC := .seq c21_4 c21_5
theorem n21_3 : Run Cx 21 T ds ro (.code c21_3 :: k) H Q = Run Cx 21 T ds ro (.code c21_4 :: .code c21_5 :: k) H Q := run_seq
def o21_11 : List AO := [{ dst := (some 4), op := .alloc 22, ty := 0, guard := none }]
def c21_11 : AC := .region o21_11 []
theorem n21_11 : Run Cx 21 T ds ro (.code c21_11 :: k) H Q = RunOps Cx 21 T ds ro o21_11 k H Q := run_region
def o21_14 : List AO := [{ dst := (some 8), op := .move (.tmp 0), ty := 29, guard := none },
  { dst := (some 9), op := .call { callee := (.value (.func 30)), args := #[(.tmp 8)], argTypes := #[29] }, ty := 47, guard := none }]
def c21_14 : AC := .region o21_14 []
theorem n21_14 : Run Cx 21 T ds ro (.code c21_14 :: k) H Q = RunOps Cx 21 T ds ro o21_14 k H Q := run_region
def o21_17 : List AO := [{ dst := (some 5), op := .alloc 42, ty := 0, guard := none },
  { dst := none, op := .store 42 (.tmp 5) (.tmp 10), ty := 0, guard := none }]
def c21_17 : AC := .region o21_17 []
theorem n21_17 : Run Cx 21 T ds ro (.code c21_17 :: k) H Q = RunOps Cx 21 T ds ro o21_17 k H Q := run_region
def o21_19 : List AO := [{ dst := (some 11), op := .load 22 (.tmp 4), ty := 22, guard := none },
  { dst := (some 12), op := .load 42 (.tmp 5), ty := 42, guard := none },
  { dst := (some 13), op := .buildSlice 22 1 #[(0, (.tmp 12))], ty := 22, guard := none },
  { dst := (some 14), op := .call { callee := (.builtin .append), args := #[(.tmp 11), (.tmp 13)], argTypes := #[22, 22] }, ty := 22, guard := none },
  { dst := none, op := .store 22 (.tmp 4) (.tmp 14), ty := 0, guard := none }]
def c21_19 : AC := .region o21_19 []
theorem n21_19 : Run Cx 21 T ds ro (.code c21_19 :: k) H Q = RunOps Cx 21 T ds ro o21_19 k H Q := run_region
def c21_18 : AC := .block 1 c21_19
theorem n21_18 : Run Cx 21 T ds ro (.code c21_18 :: k) H Q = Run Cx 21 T ds ro (.code c21_19 :: .inBlock 1 :: k) H Q := run_block
def c21_16 : AC := .rangeFunc (.tmp 9) [10] c21_17 c21_18
def c21_15 : AC := .block 0 c21_16
theorem n21_15 : Run Cx 21 T ds ro (.code c21_15 :: k) H Q = Run Cx 21 T ds ro (.code c21_16 :: .inBlock 0 :: k) H Q := run_block
def c21_13 : AC := .seq c21_14 c21_15
theorem n21_13 : Run Cx 21 T ds ro (.code c21_13 :: k) H Q = Run Cx 21 T ds ro (.code c21_14 :: .code c21_15 :: k) H Q := run_seq
def o21_21 : List AO := [{ dst := (some 15), op := .load 22 (.tmp 4), ty := 22, guard := none },
  { dst := (some 2), op := .assign (.tmp 15), ty := 22, guard := none },
  { dst := (some 3), op := .assign (.const (.int .i64 0)), ty := 33, guard := none }]
def c21_21 : AC := .region o21_21 []
theorem n21_21 : Run Cx 21 T ds ro (.code c21_21 :: k) H Q = RunOps Cx 21 T ds ro o21_21 k H Q := run_region
def c21_22 : AC := .ret
theorem n21_22 : Run Cx 21 T [] none (.code c21_22 :: k) H Q = RunRes Cx T H Q (resOf Cx 21) := run_ret
def c21_20 : AC := .seq c21_21 c21_22
theorem n21_20 : Run Cx 21 T ds ro (.code c21_20 :: k) H Q = Run Cx 21 T ds ro (.code c21_21 :: .code c21_22 :: k) H Q := run_seq
def c21_12 : AC := .seq c21_13 c21_20
theorem n21_12 : Run Cx 21 T ds ro (.code c21_12 :: k) H Q = Run Cx 21 T ds ro (.code c21_13 :: .code c21_20 :: k) H Q := run_seq
def c21_10 : AC := .seq c21_11 c21_12
theorem n21_10 : Run Cx 21 T ds ro (.code c21_10 :: k) H Q = Run Cx 21 T ds ro (.code c21_11 :: .code c21_12 :: k) H Q := run_seq
def c21_2 : AC := .seq c21_3 c21_10
theorem n21_2 : Run Cx 21 T ds ro (.code c21_2 :: k) H Q = Run Cx 21 T ds ro (.code c21_3 :: .code c21_10 :: k) H Q := run_seq
def c21_0 : AC := .seq c21_1 c21_2
theorem n21_0 : Run Cx 21 T ds ro (.code c21_0 :: k) H Q = Run Cx 21 T ds ro (.code c21_1 :: .code c21_2 :: k) H Q := run_seq
theorem body21 : bodyOf Cx 21 = some c21_0 := by kernel_rfl
theorem res21 : resOf Cx 21 = some [.tmp 2, .tmp 3] := by kernel_rfl
theorem pure21 : Cx.pure 21 = true := by kernel_rfl
-- RULES 21: n21_0, n21_1, n21_2, n21_3, n21_4, n21_5, n21_6, n21_7, n21_8, n21_9, n21_10, n21_11, n21_12, n21_13, n21_14, n21_15, n21_16, n21_17, n21_18, n21_19, n21_20, n21_21, n21_22
def o22_1 : List AO := [{ dst := (some 2), op := .assign (.const (.slice none 0 0)), ty := 22, guard := none }]
def c22_1 : AC := .region o22_1 []
theorem n22_1 : Run Cx 22 T ds ro (.code c22_1 :: k) H Q = RunOps Cx 22 T ds ro o22_1 k H Q := run_region
def o22_3 : List AO := [{ dst := (some 4), op := .move (.tmp 0), ty := 22, guard := none },
  { dst := (some 5), op := .call { callee := (.value (.func 26)), args := #[(.tmp 4)], argTypes := #[22] }, ty := 22, guard := none },
  { dst := (some 3), op := .assign (.tmp 5), ty := 22, guard := none }]
def c22_3 : AC := .region o22_3 []
theorem n22_3 : Run Cx 22 T ds ro (.code c22_3 :: k) H Q = RunOps Cx 22 T ds ro o22_3 k H Q := run_region
def o22_5 : List AO := [{ dst := (some 6), op := .move (.tmp 3), ty := 22, guard := none },
  { dst := (some 7), op := .call { callee := (.value (.func 33)), args := #[(.tmp 6), (.func 28)], argTypes := #[22, 59] }, ty := 0, guard := none }]
def c22_5 : AC := .region o22_5 []
theorem n22_5 : Run Cx 22 T ds ro (.code c22_5 :: k) H Q = RunOps Cx 22 T ds ro o22_5 k H Q := run_region
def o22_7 : List AO := [{ dst := (some 8), op := .move (.tmp 3), ty := 22, guard := none },
  { dst := (some 2), op := .assign (.tmp 8), ty := 22, guard := none }]
def c22_7 : AC := .region o22_7 []
theorem n22_7 : Run Cx 22 T ds ro (.code c22_7 :: k) H Q = RunOps Cx 22 T ds ro o22_7 k H Q := run_region
def c22_8 : AC := .ret
theorem n22_8 : Run Cx 22 T [] none (.code c22_8 :: k) H Q = RunRes Cx T H Q (resOf Cx 22) := run_ret
def c22_6 : AC := .seq c22_7 c22_8
theorem n22_6 : Run Cx 22 T ds ro (.code c22_6 :: k) H Q = Run Cx 22 T ds ro (.code c22_7 :: .code c22_8 :: k) H Q := run_seq
def c22_4 : AC := .seq c22_5 c22_6
theorem n22_4 : Run Cx 22 T ds ro (.code c22_4 :: k) H Q = Run Cx 22 T ds ro (.code c22_5 :: .code c22_6 :: k) H Q := run_seq
def c22_2 : AC := .seq c22_3 c22_4
theorem n22_2 : Run Cx 22 T ds ro (.code c22_2 :: k) H Q = Run Cx 22 T ds ro (.code c22_3 :: .code c22_4 :: k) H Q := run_seq
def c22_0 : AC := .seq c22_1 c22_2
theorem n22_0 : Run Cx 22 T ds ro (.code c22_0 :: k) H Q = Run Cx 22 T ds ro (.code c22_1 :: .code c22_2 :: k) H Q := run_seq
theorem body22 : bodyOf Cx 22 = some c22_0 := by kernel_rfl
theorem res22 : resOf Cx 22 = some [.tmp 2] := by kernel_rfl
theorem pure22 : Cx.pure 22 = true := by kernel_rfl
-- RULES 22: n22_0, n22_1, n22_2, n22_3, n22_4, n22_5, n22_6, n22_7, n22_8
def o23_1 : List AO := [{ dst := (some 4), op := .assign (.const (.bool false)), ty := 4, guard := none }]
def c23_1 : AC := .region o23_1 []
theorem n23_1 : Run Cx 23 T ds ro (.code c23_1 :: k) H Q = RunOps Cx 23 T ds ro o23_1 k H Q := run_region
def o23_3 : List AO := [{ dst := (some 5), op := .move (.tmp 0), ty := 22, guard := none },
  { dst := (some 6), op := .move (.tmp 1), ty := 50, guard := none },
  { dst := (some 7), op := .call { callee := (.value (.func 34)), args := #[(.tmp 5), (.tmp 6)], argTypes := #[22, 50] }, ty := 3, guard := none },
  { dst := (some 8), op := .binOp .geq 3 (.tmp 7) (.const (.int .i64 0)) 3, ty := 4, guard := none },
  { dst := (some 4), op := .assign (.tmp 8), ty := 4, guard := none }]
def c23_3 : AC := .region o23_3 []
theorem n23_3 : Run Cx 23 T ds ro (.code c23_3 :: k) H Q = RunOps Cx 23 T ds ro o23_3 k H Q := run_region
def c23_4 : AC := .ret
theorem n23_4 : Run Cx 23 T [] none (.code c23_4 :: k) H Q = RunRes Cx T H Q (resOf Cx 23) := run_ret
def c23_2 : AC := .seq c23_3 c23_4
theorem n23_2 : Run Cx 23 T ds ro (.code c23_2 :: k) H Q = Run Cx 23 T ds ro (.code c23_3 :: .code c23_4 :: k) H Q := run_seq
def c23_0 : AC := .seq c23_1 c23_2
theorem n23_0 : Run Cx 23 T ds ro (.code c23_0 :: k) H Q = Run Cx 23 T ds ro (.code c23_1 :: .code c23_2 :: k) H Q := run_seq
theorem body23 : bodyOf Cx 23 = some c23_0 := by kernel_rfl
theorem res23 : resOf Cx 23 = some [.tmp 4] := by kernel_rfl
theorem pure23 : Cx.pure 23 = false := by kernel_rfl
-- RULES 23: n23_0, n23_1, n23_2, n23_3, n23_4
def o24_1 : List AO := [{ dst := (some 1), op := .box 42 (.tmp 0), ty := 0, guard := none },
  { dst := (some 2), op := .assign (.const (.bool false)), ty := 4, guard := none }]
def c24_1 : AC := .region o24_1 []
theorem n24_1 : Run Cx 24 T ds ro (.code c24_1 :: k) H Q = RunOps Cx 24 T ds ro o24_1 k H Q := run_region
def o24_3 : List AO := [{ dst := (some 3), op := .fieldAddr 42 (.tmp 1) 0, ty := 0, guard := none },
  { dst := (some 4), op := .load 9 (.tmp 3), ty := 9, guard := none },
  { dst := (some 5), op := .call { callee := (.builtin .len), args := #[(.tmp 4)], argTypes := #[9] }, ty := 3, guard := none },
  { dst := (some 6), op := .binOp .gtr 3 (.tmp 5) (.const (.int .i64 64)) 3, ty := 4, guard := none },
  { dst := (some 7), op := .move (.tmp 6), ty := 4, guard := none },
  { dst := (some 8), op := .fieldAddr 42 (.tmp 1) 1, ty := 0, guard := (some (7, false)) },
  { dst := (some 9), op := .load 40 (.tmp 8), ty := 40, guard := (some (7, false)) },
  { dst := (some 10), op := .call { callee := (.value (.func 25)), args := #[(.tmp 9)], argTypes := #[40] }, ty := 4, guard := (some (7, false)) },
  { dst := (some 11), op := .unOp .not 4 (.tmp 10), ty := 4, guard := (some (7, false)) },
  { dst := (some 12), op := .pick (.tmp 7) (.const (.bool true)) (.tmp 11), ty := 4, guard := none },
  { dst := (some 2), op := .assign (.tmp 12), ty := 4, guard := none }]
def c24_3 : AC := .region o24_3 []
theorem n24_3 : Run Cx 24 T ds ro (.code c24_3 :: k) H Q = RunOps Cx 24 T ds ro o24_3 k H Q := run_region
def c24_4 : AC := .ret
theorem n24_4 : Run Cx 24 T [] none (.code c24_4 :: k) H Q = RunRes Cx T H Q (resOf Cx 24) := run_ret
def c24_2 : AC := .seq c24_3 c24_4
theorem n24_2 : Run Cx 24 T ds ro (.code c24_2 :: k) H Q = Run Cx 24 T ds ro (.code c24_3 :: .code c24_4 :: k) H Q := run_seq
def c24_0 : AC := .seq c24_1 c24_2
theorem n24_0 : Run Cx 24 T ds ro (.code c24_0 :: k) H Q = Run Cx 24 T ds ro (.code c24_1 :: .code c24_2 :: k) H Q := run_seq
theorem body24 : bodyOf Cx 24 = some c24_0 := by kernel_rfl
theorem res24 : resOf Cx 24 = some [.tmp 2] := by kernel_rfl
theorem pure24 : Cx.pure 24 = true := by kernel_rfl
-- RULES 24: n24_0, n24_1, n24_2, n24_3, n24_4
def o25_1 : List AO := [{ dst := (some 1), op := .box 40 (.tmp 0), ty := 0, guard := none },
  { dst := (some 2), op := .assign (.const (.bool false)), ty := 4, guard := none }]
def c25_1 : AC := .region o25_1 []
theorem n25_1 : Run Cx 25 T ds ro (.code c25_1 :: k) H Q = RunOps Cx 25 T ds ro o25_1 k H Q := run_region
def o25_3 : List AO := [{ dst := (some 6), op := .fieldAddr 40 (.tmp 1) 1, ty := 0, guard := none },
  { dst := (some 7), op := .load 3 (.tmp 6), ty := 3, guard := none },
  { dst := (some 8), op := .binOp .neq 3 (.tmp 7) (.const (.int .i64 0)) 3, ty := 4, guard := none },
  { dst := (some 9), op := .fieldAddr 40 (.tmp 1) 2, ty := 0, guard := none },
  { dst := (some 10), op := .load 9 (.tmp 9), ty := 9, guard := none },
  { dst := (some 11), op := .binOp .neq 9 (.tmp 10) (.const (.string ⟨#[]⟩)) 9, ty := 4, guard := none },
  { dst := (some 12), op := .fieldAddr 40 (.tmp 1) 3, ty := 0, guard := none },
  { dst := (some 13), op := .load 38 (.tmp 12), ty := 38, guard := none },
  { dst := (some 14), op := .build 38 #[], ty := 38, guard := none },
  { dst := (some 15), op := .binOp .neq 38 (.tmp 13) (.tmp 14) 38, ty := 4, guard := none },
  { dst := (some 3), op := .assign (.tmp 8), ty := 4, guard := none },
  { dst := (some 4), op := .assign (.tmp 11), ty := 4, guard := none },
  { dst := (some 5), op := .assign (.tmp 15), ty := 4, guard := none }]
def c25_3 : AC := .region o25_3 []
theorem n25_3 : Run Cx 25 T ds ro (.code c25_3 :: k) H Q = RunOps Cx 25 T ds ro o25_3 k H Q := run_region
def o25_6 : List AO := [{ dst := (some 16), op := .fieldAddr 40 (.tmp 1) 0, ty := 0, guard := none },
  { dst := (some 17), op := .load 3 (.tmp 16), ty := 3, guard := none }]
def c25_6 : AC := .region o25_6 []
theorem n25_6 : Run Cx 25 T ds ro (.code c25_6 :: k) H Q = RunOps Cx 25 T ds ro o25_6 k H Q := run_region
def o25_9 : List AO := [{ dst := (some 19), op := .binOp .eql 3 (.tmp 17) (.const (.int .i64 0)) 3, ty := 4, guard := none },
  { dst := (some 18), op := .assign (.tmp 19), ty := 4, guard := none }]
def c25_9 : AC := .region o25_9 []
theorem n25_9 : Run Cx 25 T ds ro (.code c25_9 :: k) H Q = RunOps Cx 25 T ds ro o25_9 k H Q := run_region
def o25_12 : List AO := [{ dst := (some 20), op := .fieldAddr 40 (.tmp 1) 1, ty := 0, guard := none },
  { dst := (some 21), op := .load 3 (.tmp 20), ty := 3, guard := none },
  { dst := (some 22), op := .binOp .geq 3 (.tmp 21) (.const (.int .i64 (-9007199254740992))) 3, ty := 4, guard := none },
  { dst := (some 23), op := .move (.tmp 22), ty := 4, guard := none },
  { dst := (some 24), op := .fieldAddr 40 (.tmp 1) 1, ty := 0, guard := (some (23, true)) },
  { dst := (some 25), op := .load 3 (.tmp 24), ty := 3, guard := (some (23, true)) },
  { dst := (some 26), op := .binOp .leq 3 (.tmp 25) (.const (.int .i64 9007199254740992)) 3, ty := 4, guard := (some (23, true)) },
  { dst := (some 27), op := .pick (.tmp 23) (.tmp 26) (.const (.bool false)), ty := 4, guard := none },
  { dst := (some 28), op := .move (.tmp 27), ty := 4, guard := none },
  { dst := (some 29), op := .move (.tmp 4), ty := 4, guard := (some (28, true)) },
  { dst := (some 30), op := .unOp .not 4 (.tmp 29), ty := 4, guard := (some (28, true)) },
  { dst := (some 31), op := .pick (.tmp 28) (.tmp 30) (.const (.bool false)), ty := 4, guard := none },
  { dst := (some 32), op := .move (.tmp 31), ty := 4, guard := none },
  { dst := (some 33), op := .move (.tmp 5), ty := 4, guard := (some (32, true)) },
  { dst := (some 34), op := .unOp .not 4 (.tmp 33), ty := 4, guard := (some (32, true)) },
  { dst := (some 35), op := .pick (.tmp 32) (.tmp 34) (.const (.bool false)), ty := 4, guard := none },
  { dst := (some 2), op := .assign (.tmp 35), ty := 4, guard := none }]
def c25_12 : AC := .region o25_12 []
theorem n25_12 : Run Cx 25 T ds ro (.code c25_12 :: k) H Q = RunOps Cx 25 T ds ro o25_12 k H Q := run_region
def c25_13 : AC := .ret
theorem n25_13 : Run Cx 25 T [] none (.code c25_13 :: k) H Q = RunRes Cx T H Q (resOf Cx 25) := run_ret
def c25_11 : AC := .seq c25_12 c25_13
theorem n25_11 : Run Cx 25 T ds ro (.code c25_11 :: k) H Q = Run Cx 25 T ds ro (.code c25_12 :: .code c25_13 :: k) H Q := run_seq
def o25_15 : List AO := [{ dst := (some 37), op := .binOp .eql 3 (.tmp 17) (.const (.int .i64 1)) 3, ty := 4, guard := none },
  { dst := (some 36), op := .assign (.tmp 37), ty := 4, guard := none }]
def c25_15 : AC := .region o25_15 []
theorem n25_15 : Run Cx 25 T ds ro (.code c25_15 :: k) H Q = RunOps Cx 25 T ds ro o25_15 k H Q := run_region
def o25_18 : List AO := [{ dst := (some 38), op := .fieldAddr 40 (.tmp 1) 2, ty := 0, guard := none },
  { dst := (some 39), op := .load 9 (.tmp 38), ty := 9, guard := none },
  { dst := (some 40), op := .call { callee := (.builtin .len), args := #[(.tmp 39)], argTypes := #[9] }, ty := 3, guard := none },
  { dst := (some 41), op := .binOp .leq 3 (.tmp 40) (.const (.int .i64 4096)) 3, ty := 4, guard := none },
  { dst := (some 42), op := .move (.tmp 41), ty := 4, guard := none },
  { dst := (some 43), op := .move (.tmp 3), ty := 4, guard := (some (42, true)) },
  { dst := (some 44), op := .unOp .not 4 (.tmp 43), ty := 4, guard := (some (42, true)) },
  { dst := (some 45), op := .pick (.tmp 42) (.tmp 44) (.const (.bool false)), ty := 4, guard := none },
  { dst := (some 46), op := .move (.tmp 45), ty := 4, guard := none },
  { dst := (some 47), op := .move (.tmp 5), ty := 4, guard := (some (46, true)) },
  { dst := (some 48), op := .unOp .not 4 (.tmp 47), ty := 4, guard := (some (46, true)) },
  { dst := (some 49), op := .pick (.tmp 46) (.tmp 48) (.const (.bool false)), ty := 4, guard := none },
  { dst := (some 2), op := .assign (.tmp 49), ty := 4, guard := none }]
def c25_18 : AC := .region o25_18 []
theorem n25_18 : Run Cx 25 T ds ro (.code c25_18 :: k) H Q = RunOps Cx 25 T ds ro o25_18 k H Q := run_region
def c25_19 : AC := .ret
theorem n25_19 : Run Cx 25 T [] none (.code c25_19 :: k) H Q = RunRes Cx T H Q (resOf Cx 25) := run_ret
def c25_17 : AC := .seq c25_18 c25_19
theorem n25_17 : Run Cx 25 T ds ro (.code c25_17 :: k) H Q = Run Cx 25 T ds ro (.code c25_18 :: .code c25_19 :: k) H Q := run_seq
def o25_21 : List AO := [{ dst := (some 51), op := .binOp .eql 3 (.tmp 17) (.const (.int .i64 2)) 3, ty := 4, guard := none },
  { dst := (some 50), op := .assign (.tmp 51), ty := 4, guard := none }]
def c25_21 : AC := .region o25_21 []
theorem n25_21 : Run Cx 25 T ds ro (.code c25_21 :: k) H Q = RunOps Cx 25 T ds ro o25_21 k H Q := run_region
def o25_24 : List AO := [{ dst := (some 52), op := .fieldAddr 40 (.tmp 1) 3, ty := 0, guard := none },
  { dst := (some 53), op := .load 38 (.tmp 52), ty := 38, guard := none },
  { dst := (some 54), op := .call { callee := (.value (.func 35)), args := #[(.tmp 53)], argTypes := #[38] }, ty := 4, guard := none },
  { dst := (some 55), op := .move (.tmp 54), ty := 4, guard := none },
  { dst := (some 56), op := .move (.tmp 3), ty := 4, guard := (some (55, true)) },
  { dst := (some 57), op := .unOp .not 4 (.tmp 56), ty := 4, guard := (some (55, true)) },
  { dst := (some 58), op := .pick (.tmp 55) (.tmp 57) (.const (.bool false)), ty := 4, guard := none },
  { dst := (some 59), op := .move (.tmp 58), ty := 4, guard := none },
  { dst := (some 60), op := .move (.tmp 4), ty := 4, guard := (some (59, true)) },
  { dst := (some 61), op := .unOp .not 4 (.tmp 60), ty := 4, guard := (some (59, true)) },
  { dst := (some 62), op := .pick (.tmp 59) (.tmp 61) (.const (.bool false)), ty := 4, guard := none },
  { dst := (some 2), op := .assign (.tmp 62), ty := 4, guard := none }]
def c25_24 : AC := .region o25_24 []
theorem n25_24 : Run Cx 25 T ds ro (.code c25_24 :: k) H Q = RunOps Cx 25 T ds ro o25_24 k H Q := run_region
def c25_25 : AC := .ret
theorem n25_25 : Run Cx 25 T [] none (.code c25_25 :: k) H Q = RunRes Cx T H Q (resOf Cx 25) := run_ret
def c25_23 : AC := .seq c25_24 c25_25
theorem n25_23 : Run Cx 25 T ds ro (.code c25_23 :: k) H Q = Run Cx 25 T ds ro (.code c25_24 :: .code c25_25 :: k) H Q := run_seq
def c25_26 : AC := .skip
theorem n25_26 : Run Cx 25 T ds ro (.code c25_26 :: k) H Q = Run Cx 25 T ds ro (k) H Q := run_skip
def c25_22 : AC := .cond (.tmp 50) c25_23 c25_26
theorem n25_22 : Run Cx 25 T ds ro (.code c25_22 :: k) H Q = RunCond Cx 25 T ds ro (.tmp 50) (ev T (.tmp 50)) c25_23 c25_26 k H Q := run_condC
def c25_20 : AC := .seq c25_21 c25_22
theorem n25_20 : Run Cx 25 T ds ro (.code c25_20 :: k) H Q = Run Cx 25 T ds ro (.code c25_21 :: .code c25_22 :: k) H Q := run_seq
def c25_16 : AC := .cond (.tmp 36) c25_17 c25_20
theorem n25_16 : Run Cx 25 T ds ro (.code c25_16 :: k) H Q = RunCond Cx 25 T ds ro (.tmp 36) (ev T (.tmp 36)) c25_17 c25_20 k H Q := run_condC
def c25_14 : AC := .seq c25_15 c25_16
theorem n25_14 : Run Cx 25 T ds ro (.code c25_14 :: k) H Q = Run Cx 25 T ds ro (.code c25_15 :: .code c25_16 :: k) H Q := run_seq
def c25_10 : AC := .cond (.tmp 18) c25_11 c25_14
theorem n25_10 : Run Cx 25 T ds ro (.code c25_10 :: k) H Q = RunCond Cx 25 T ds ro (.tmp 18) (ev T (.tmp 18)) c25_11 c25_14 k H Q := run_condC
def c25_8 : AC := .seq c25_9 c25_10
theorem n25_8 : Run Cx 25 T ds ro (.code c25_8 :: k) H Q = Run Cx 25 T ds ro (.code c25_9 :: .code c25_10 :: k) H Q := run_seq
def c25_7 : AC := .block 0 c25_8
theorem n25_7 : Run Cx 25 T ds ro (.code c25_7 :: k) H Q = Run Cx 25 T ds ro (.code c25_8 :: .inBlock 0 :: k) H Q := run_block
def c25_5 : AC := .seq c25_6 c25_7
theorem n25_5 : Run Cx 25 T ds ro (.code c25_5 :: k) H Q = Run Cx 25 T ds ro (.code c25_6 :: .code c25_7 :: k) H Q := run_seq
def o25_28 : List AO := [{ dst := (some 2), op := .assign (.const (.bool false)), ty := 4, guard := none }]
def c25_28 : AC := .region o25_28 []
theorem n25_28 : Run Cx 25 T ds ro (.code c25_28 :: k) H Q = RunOps Cx 25 T ds ro o25_28 k H Q := run_region
def c25_29 : AC := .ret
theorem n25_29 : Run Cx 25 T [] none (.code c25_29 :: k) H Q = RunRes Cx T H Q (resOf Cx 25) := run_ret
def c25_27 : AC := .seq c25_28 c25_29
theorem n25_27 : Run Cx 25 T ds ro (.code c25_27 :: k) H Q = Run Cx 25 T ds ro (.code c25_28 :: .code c25_29 :: k) H Q := run_seq
def c25_4 : AC := .seq c25_5 c25_27
theorem n25_4 : Run Cx 25 T ds ro (.code c25_4 :: k) H Q = Run Cx 25 T ds ro (.code c25_5 :: .code c25_27 :: k) H Q := run_seq
def c25_2 : AC := .seq c25_3 c25_4
theorem n25_2 : Run Cx 25 T ds ro (.code c25_2 :: k) H Q = Run Cx 25 T ds ro (.code c25_3 :: .code c25_4 :: k) H Q := run_seq
def c25_0 : AC := .seq c25_1 c25_2
theorem n25_0 : Run Cx 25 T ds ro (.code c25_0 :: k) H Q = Run Cx 25 T ds ro (.code c25_1 :: .code c25_2 :: k) H Q := run_seq
theorem body25 : bodyOf Cx 25 = some c25_0 := by kernel_rfl
theorem res25 : resOf Cx 25 = some [.tmp 2] := by kernel_rfl
theorem pure25 : Cx.pure 25 = true := by kernel_rfl
-- RULES 25: n25_0, n25_1, n25_2, n25_3, n25_4, n25_5, n25_6, n25_7, n25_8, n25_9, n25_10, n25_11, n25_12, n25_13, n25_14, n25_15, n25_16, n25_17, n25_18, n25_19, n25_20, n25_21, n25_22, n25_23, n25_24, n25_25, n25_26, n25_27, n25_28, n25_29
def o26_1 : List AO := [{ dst := (some 2), op := .assign (.const (.slice none 0 0)), ty := 22, guard := none }]
def c26_1 : AC := .region o26_1 []
theorem n26_1 : Run Cx 26 T ds ro (.code c26_1 :: k) H Q = RunOps Cx 26 T ds ro o26_1 k H Q := run_region
def o26_4 : List AO := [{ dst := (some 3), op := .move (.tmp 0), ty := 22, guard := none },
  { dst := (some 4), op := .binOp .eql 22 (.tmp 3) (.const (.slice none 0 0)) 22, ty := 4, guard := none }]
def c26_4 : AC := .region o26_4 []
theorem n26_4 : Run Cx 26 T ds ro (.code c26_4 :: k) H Q = RunOps Cx 26 T ds ro o26_4 k H Q := run_region
def o26_7 : List AO := [{ dst := (some 2), op := .assign (.const (.slice none 0 0)), ty := 22, guard := none }]
def c26_7 : AC := .region o26_7 []
theorem n26_7 : Run Cx 26 T ds ro (.code c26_7 :: k) H Q = RunOps Cx 26 T ds ro o26_7 k H Q := run_region
def c26_8 : AC := .ret
theorem n26_8 : Run Cx 26 T [] none (.code c26_8 :: k) H Q = RunRes Cx T H Q (resOf Cx 26) := run_ret
def c26_6 : AC := .seq c26_7 c26_8
theorem n26_6 : Run Cx 26 T ds ro (.code c26_6 :: k) H Q = Run Cx 26 T ds ro (.code c26_7 :: .code c26_8 :: k) H Q := run_seq
def c26_9 : AC := .skip
theorem n26_9 : Run Cx 26 T ds ro (.code c26_9 :: k) H Q = Run Cx 26 T ds ro (k) H Q := run_skip
def c26_5 : AC := .cond (.tmp 4) c26_6 c26_9
theorem n26_5 : Run Cx 26 T ds ro (.code c26_5 :: k) H Q = RunCond Cx 26 T ds ro (.tmp 4) (ev T (.tmp 4)) c26_6 c26_9 k H Q := run_condC
def c26_3 : AC := .seq c26_4 c26_5
theorem n26_3 : Run Cx 26 T ds ro (.code c26_3 :: k) H Q = Run Cx 26 T ds ro (.code c26_4 :: .code c26_5 :: k) H Q := run_seq
def o26_11 : List AO := [{ dst := (some 5), op := .buildSlice 22 0 #[], ty := 22, guard := none },
  { dst := (some 6), op := .move (.tmp 0), ty := 22, guard := none },
  { dst := (some 7), op := .call { callee := (.builtin .append), args := #[(.tmp 5), (.tmp 6)], argTypes := #[22, 22] }, ty := 22, guard := none },
  { dst := (some 2), op := .assign (.tmp 7), ty := 22, guard := none }]
def c26_11 : AC := .region o26_11 []
theorem n26_11 : Run Cx 26 T ds ro (.code c26_11 :: k) H Q = RunOps Cx 26 T ds ro o26_11 k H Q := run_region
def c26_12 : AC := .ret
theorem n26_12 : Run Cx 26 T [] none (.code c26_12 :: k) H Q = RunRes Cx T H Q (resOf Cx 26) := run_ret
def c26_10 : AC := .seq c26_11 c26_12
theorem n26_10 : Run Cx 26 T ds ro (.code c26_10 :: k) H Q = Run Cx 26 T ds ro (.code c26_11 :: .code c26_12 :: k) H Q := run_seq
def c26_2 : AC := .seq c26_3 c26_10
theorem n26_2 : Run Cx 26 T ds ro (.code c26_2 :: k) H Q = Run Cx 26 T ds ro (.code c26_3 :: .code c26_10 :: k) H Q := run_seq
def c26_0 : AC := .seq c26_1 c26_2
theorem n26_0 : Run Cx 26 T ds ro (.code c26_0 :: k) H Q = Run Cx 26 T ds ro (.code c26_1 :: .code c26_2 :: k) H Q := run_seq
theorem body26 : bodyOf Cx 26 = some c26_0 := by kernel_rfl
theorem res26 : resOf Cx 26 = some [.tmp 2] := by kernel_rfl
theorem pure26 : Cx.pure 26 = false := by kernel_rfl
-- RULES 26: n26_0, n26_1, n26_2, n26_3, n26_4, n26_5, n26_6, n26_7, n26_8, n26_9, n26_10, n26_11, n26_12
def o27_1 : List AO := [{ dst := (some 4), op := .assign (.const (.bool false)), ty := 4, guard := none }]
def c27_1 : AC := .region o27_1 []
theorem n27_1 : Run Cx 27 T ds ro (.code c27_1 :: k) H Q = RunOps Cx 27 T ds ro o27_1 k H Q := run_region
def o27_4 : List AO := [{ dst := (some 6), op := .move (.tmp 0), ty := 22, guard := none },
  { dst := (some 7), op := .call { callee := (.builtin .len), args := #[(.tmp 6)], argTypes := #[22] }, ty := 3, guard := none },
  { dst := (some 8), op := .binOp .sub 3 (.tmp 7) (.const (.int .i64 1)) 3, ty := 3, guard := none },
  { dst := (some 5), op := .assign (.tmp 8), ty := 3, guard := none }]
def c27_4 : AC := .region o27_4 []
theorem n27_4 : Run Cx 27 T ds ro (.code c27_4 :: k) H Q = RunOps Cx 27 T ds ro o27_4 k H Q := run_region
def o27_9 : List AO := [{ dst := (some 9), op := .move (.tmp 5), ty := 3, guard := none },
  { dst := (some 10), op := .binOp .gtr 3 (.tmp 9) (.const (.int .i64 0)) 3, ty := 4, guard := none }]
def c27_9 : AC := .region o27_9 []
theorem n27_9 : Run Cx 27 T ds ro (.code c27_9 :: k) H Q = RunOps Cx 27 T ds ro o27_9 k H Q := run_region
def c27_11 : AC := .skip
theorem n27_11 : Run Cx 27 T ds ro (.code c27_11 :: k) H Q = Run Cx 27 T ds ro (k) H Q := run_skip
def c27_12 : AC := .exit 0
theorem n27_12 : Run Cx 27 T ds ro (.code c27_12 :: k) H Q = RunExit Cx 27 T ds ro 0 k k H Q := run_exit_start
def c27_10 : AC := .cond (.tmp 10) c27_11 c27_12
theorem n27_10 : Run Cx 27 T ds ro (.code c27_10 :: k) H Q = RunCond Cx 27 T ds ro (.tmp 10) (ev T (.tmp 10)) c27_11 c27_12 k H Q := run_condC
def c27_8 : AC := .seq c27_9 c27_10
theorem n27_8 : Run Cx 27 T ds ro (.code c27_8 :: k) H Q = Run Cx 27 T ds ro (.code c27_9 :: .code c27_10 :: k) H Q := run_seq
def o27_16 : List AO := [{ dst := (some 13), op := .move (.tmp 1), ty := 59, guard := none },
  { dst := (some 14), op := .move (.tmp 0), ty := 22, guard := none },
  { dst := (some 15), op := .move (.tmp 5), ty := 3, guard := none },
  { dst := (some 16), op := .indexAddr 22 (.tmp 14) (.tmp 15), ty := 0, guard := none },
  { dst := (some 17), op := .load 42 (.tmp 16), ty := 42, guard := none },
  { dst := (some 18), op := .move (.tmp 0), ty := 22, guard := none },
  { dst := (some 19), op := .move (.tmp 5), ty := 3, guard := none },
  { dst := (some 20), op := .binOp .sub 3 (.tmp 19) (.const (.int .i64 1)) 3, ty := 3, guard := none },
  { dst := (some 21), op := .indexAddr 22 (.tmp 18) (.tmp 20), ty := 0, guard := none },
  { dst := (some 22), op := .load 42 (.tmp 21), ty := 42, guard := none },
  { dst := (some 23), op := .call { callee := (.value (.tmp 13)), args := #[(.tmp 17), (.tmp 22)], argTypes := #[42, 42] }, ty := 3, guard := none },
  { dst := (some 24), op := .binOp .lss 3 (.tmp 23) (.const (.int .i64 0)) 3, ty := 4, guard := none }]
def c27_16 : AC := .region o27_16 []
theorem n27_16 : Run Cx 27 T ds ro (.code c27_16 :: k) H Q = RunOps Cx 27 T ds ro o27_16 k H Q := run_region
def o27_19 : List AO := [{ dst := (some 4), op := .assign (.const (.bool false)), ty := 4, guard := none }]
def c27_19 : AC := .region o27_19 []
theorem n27_19 : Run Cx 27 T ds ro (.code c27_19 :: k) H Q = RunOps Cx 27 T ds ro o27_19 k H Q := run_region
def c27_20 : AC := .ret
theorem n27_20 : Run Cx 27 T [] none (.code c27_20 :: k) H Q = RunRes Cx T H Q (resOf Cx 27) := run_ret
def c27_18 : AC := .seq c27_19 c27_20
theorem n27_18 : Run Cx 27 T ds ro (.code c27_18 :: k) H Q = Run Cx 27 T ds ro (.code c27_19 :: .code c27_20 :: k) H Q := run_seq
def c27_21 : AC := .skip
theorem n27_21 : Run Cx 27 T ds ro (.code c27_21 :: k) H Q = Run Cx 27 T ds ro (k) H Q := run_skip
def c27_17 : AC := .cond (.tmp 24) c27_18 c27_21
theorem n27_17 : Run Cx 27 T ds ro (.code c27_17 :: k) H Q = RunCond Cx 27 T ds ro (.tmp 24) (ev T (.tmp 24)) c27_18 c27_21 k H Q := run_condC
def c27_15 : AC := .seq c27_16 c27_17
theorem n27_15 : Run Cx 27 T ds ro (.code c27_15 :: k) H Q = Run Cx 27 T ds ro (.code c27_16 :: .code c27_17 :: k) H Q := run_seq
def c27_14 : AC := .block 1 c27_15
theorem n27_14 : Run Cx 27 T ds ro (.code c27_14 :: k) H Q = Run Cx 27 T ds ro (.code c27_15 :: .inBlock 1 :: k) H Q := run_block
def o27_22 : List AO := [{ dst := (some 11), op := .move (.tmp 5), ty := 3, guard := none },
  { dst := (some 12), op := .binOp .sub 3 (.tmp 11) (.const (.int .i64 1)) 3, ty := 3, guard := none },
  { dst := (some 5), op := .assign (.tmp 12), ty := 3, guard := none }]
def c27_22 : AC := .region o27_22 []
theorem n27_22 : Run Cx 27 T ds ro (.code c27_22 :: k) H Q = RunOps Cx 27 T ds ro o27_22 k H Q := run_region
def c27_13 : AC := .seq c27_14 c27_22
theorem n27_13 : Run Cx 27 T ds ro (.code c27_13 :: k) H Q = Run Cx 27 T ds ro (.code c27_14 :: .code c27_22 :: k) H Q := run_seq
def c27_7 : AC := .seq c27_8 c27_13
theorem n27_7 : Run Cx 27 T ds ro (.code c27_7 :: k) H Q = Run Cx 27 T ds ro (.code c27_8 :: .code c27_13 :: k) H Q := run_seq
def c27_6 : AC := .loop c27_7
theorem n27_6 : Run Cx 27 T ds ro (.code c27_6 :: k) H Q = Run Cx 27 T ds ro (.inLoop c27_7 :: k) H Q := run_loop'
def c27_5 : AC := .block 0 c27_6
theorem n27_5 : Run Cx 27 T ds ro (.code c27_5 :: k) H Q = Run Cx 27 T ds ro (.code c27_6 :: .inBlock 0 :: k) H Q := run_block
def c27_3 : AC := .seq c27_4 c27_5
theorem n27_3 : Run Cx 27 T ds ro (.code c27_3 :: k) H Q = Run Cx 27 T ds ro (.code c27_4 :: .code c27_5 :: k) H Q := run_seq
def o27_24 : List AO := [{ dst := (some 4), op := .assign (.const (.bool true)), ty := 4, guard := none }]
def c27_24 : AC := .region o27_24 []
theorem n27_24 : Run Cx 27 T ds ro (.code c27_24 :: k) H Q = RunOps Cx 27 T ds ro o27_24 k H Q := run_region
def c27_25 : AC := .ret
theorem n27_25 : Run Cx 27 T [] none (.code c27_25 :: k) H Q = RunRes Cx T H Q (resOf Cx 27) := run_ret
def c27_23 : AC := .seq c27_24 c27_25
theorem n27_23 : Run Cx 27 T ds ro (.code c27_23 :: k) H Q = Run Cx 27 T ds ro (.code c27_24 :: .code c27_25 :: k) H Q := run_seq
def c27_2 : AC := .seq c27_3 c27_23
theorem n27_2 : Run Cx 27 T ds ro (.code c27_2 :: k) H Q = Run Cx 27 T ds ro (.code c27_3 :: .code c27_23 :: k) H Q := run_seq
def c27_0 : AC := .seq c27_1 c27_2
theorem n27_0 : Run Cx 27 T ds ro (.code c27_0 :: k) H Q = Run Cx 27 T ds ro (.code c27_1 :: .code c27_2 :: k) H Q := run_seq
theorem body27 : bodyOf Cx 27 = some c27_0 := by kernel_rfl
theorem res27 : resOf Cx 27 = some [.tmp 4] := by kernel_rfl
theorem pure27 : Cx.pure 27 = false := by kernel_rfl
-- RULES 27: n27_0, n27_1, n27_2, n27_3, n27_4, n27_5, n27_6, n27_7, n27_8, n27_9, n27_10, n27_11, n27_12, n27_13, n27_14, n27_15, n27_16, n27_17, n27_18, n27_19, n27_20, n27_21, n27_22, n27_23, n27_24, n27_25
def o28_1 : List AO := [{ dst := (some 2), op := .box 42 (.tmp 0), ty := 0, guard := none },
  { dst := (some 3), op := .box 42 (.tmp 1), ty := 0, guard := none },
  { dst := (some 4), op := .assign (.const (.int .i64 0)), ty := 3, guard := none }]
def c28_1 : AC := .region o28_1 []
theorem n28_1 : Run Cx 28 T ds ro (.code c28_1 :: k) H Q = RunOps Cx 28 T ds ro o28_1 k H Q := run_region
def o28_3 : List AO := [{ dst := (some 5), op := .fieldAddr 42 (.tmp 2) 0, ty := 0, guard := none },
  { dst := (some 6), op := .load 9 (.tmp 5), ty := 9, guard := none },
  { dst := (some 7), op := .fieldAddr 42 (.tmp 3) 0, ty := 0, guard := none },
  { dst := (some 8), op := .load 9 (.tmp 7), ty := 9, guard := none },
  { dst := (some 9), op := .call { callee := (.value (.func 36)), args := #[(.tmp 6), (.tmp 8)], argTypes := #[9, 9] }, ty := 3, guard := none },
  { dst := (some 4), op := .assign (.tmp 9), ty := 3, guard := none }]
def c28_3 : AC := .region o28_3 []
theorem n28_3 : Run Cx 28 T ds ro (.code c28_3 :: k) H Q = RunOps Cx 28 T ds ro o28_3 k H Q := run_region
def c28_4 : AC := .ret
theorem n28_4 : Run Cx 28 T [] none (.code c28_4 :: k) H Q = RunRes Cx T H Q (resOf Cx 28) := run_ret
def c28_2 : AC := .seq c28_3 c28_4
theorem n28_2 : Run Cx 28 T ds ro (.code c28_2 :: k) H Q = Run Cx 28 T ds ro (.code c28_3 :: .code c28_4 :: k) H Q := run_seq
def c28_0 : AC := .seq c28_1 c28_2
theorem n28_0 : Run Cx 28 T ds ro (.code c28_0 :: k) H Q = Run Cx 28 T ds ro (.code c28_1 :: .code c28_2 :: k) H Q := run_seq
theorem body28 : bodyOf Cx 28 = some c28_0 := by kernel_rfl
theorem res28 : resOf Cx 28 = some [.tmp 4] := by kernel_rfl
theorem pure28 : Cx.pure 28 = true := by kernel_rfl
-- RULES 28: n28_0, n28_1, n28_2, n28_3, n28_4
def o29_1 : List AO := [{ dst := (some 1), op := .box 40 (.tmp 0), ty := 0, guard := none },
  { dst := (some 2), op := .assign (.const (.bool false)), ty := 4, guard := none }]
def c29_1 : AC := .region o29_1 []
theorem n29_1 : Run Cx 29 T ds ro (.code c29_1 :: k) H Q = RunOps Cx 29 T ds ro o29_1 k H Q := run_region
def o29_4 : List AO := [{ dst := (some 3), op := .fieldAddr 40 (.tmp 1) 0, ty := 0, guard := none },
  { dst := (some 4), op := .load 3 (.tmp 3), ty := 3, guard := none }]
def c29_4 : AC := .region o29_4 []
theorem n29_4 : Run Cx 29 T ds ro (.code c29_4 :: k) H Q = RunOps Cx 29 T ds ro o29_4 k H Q := run_region
def o29_7 : List AO := [{ dst := (some 6), op := .binOp .eql 3 (.tmp 4) (.const (.int .i64 0)) 3, ty := 4, guard := none },
  { dst := (some 5), op := .assign (.tmp 6), ty := 4, guard := none }]
def c29_7 : AC := .region o29_7 []
theorem n29_7 : Run Cx 29 T ds ro (.code c29_7 :: k) H Q = RunOps Cx 29 T ds ro o29_7 k H Q := run_region
def o29_10 : List AO := [{ dst := (some 7), op := .fieldAddr 40 (.tmp 1) 1, ty := 0, guard := none },
  { dst := (some 8), op := .load 3 (.tmp 7), ty := 3, guard := none },
  { dst := (some 9), op := .binOp .geq 3 (.tmp 8) (.const (.int .i64 (-9007199254740992))) 3, ty := 4, guard := none },
  { dst := (some 10), op := .move (.tmp 9), ty := 4, guard := none },
  { dst := (some 11), op := .fieldAddr 40 (.tmp 1) 1, ty := 0, guard := (some (10, true)) },
  { dst := (some 12), op := .load 3 (.tmp 11), ty := 3, guard := (some (10, true)) },
  { dst := (some 13), op := .binOp .leq 3 (.tmp 12) (.const (.int .i64 9007199254740992)) 3, ty := 4, guard := (some (10, true)) },
  { dst := (some 14), op := .pick (.tmp 10) (.tmp 13) (.const (.bool false)), ty := 4, guard := none },
  { dst := (some 15), op := .move (.tmp 14), ty := 4, guard := none },
  { dst := (some 16), op := .fieldAddr 40 (.tmp 1) 2, ty := 0, guard := (some (15, true)) },
  { dst := (some 17), op := .load 9 (.tmp 16), ty := 9, guard := (some (15, true)) },
  { dst := (some 18), op := .binOp .eql 9 (.tmp 17) (.const (.string ⟨#[]⟩)) 9, ty := 4, guard := (some (15, true)) },
  { dst := (some 19), op := .pick (.tmp 15) (.tmp 18) (.const (.bool false)), ty := 4, guard := none },
  { dst := (some 20), op := .move (.tmp 19), ty := 4, guard := none },
  { dst := (some 21), op := .fieldAddr 40 (.tmp 1) 3, ty := 0, guard := (some (20, true)) },
  { dst := (some 22), op := .load 38 (.tmp 21), ty := 38, guard := (some (20, true)) },
  { dst := (some 23), op := .build 38 #[], ty := 38, guard := (some (20, true)) },
  { dst := (some 24), op := .binOp .eql 38 (.tmp 22) (.tmp 23) 38, ty := 4, guard := (some (20, true)) },
  { dst := (some 25), op := .pick (.tmp 20) (.tmp 24) (.const (.bool false)), ty := 4, guard := none },
  { dst := (some 2), op := .assign (.tmp 25), ty := 4, guard := none }]
def c29_10 : AC := .region o29_10 []
theorem n29_10 : Run Cx 29 T ds ro (.code c29_10 :: k) H Q = RunOps Cx 29 T ds ro o29_10 k H Q := run_region
def c29_11 : AC := .ret
theorem n29_11 : Run Cx 29 T [] none (.code c29_11 :: k) H Q = RunRes Cx T H Q (resOf Cx 29) := run_ret
def c29_9 : AC := .seq c29_10 c29_11
theorem n29_9 : Run Cx 29 T ds ro (.code c29_9 :: k) H Q = Run Cx 29 T ds ro (.code c29_10 :: .code c29_11 :: k) H Q := run_seq
def o29_13 : List AO := [{ dst := (some 27), op := .binOp .eql 3 (.tmp 4) (.const (.int .i64 1)) 3, ty := 4, guard := none },
  { dst := (some 26), op := .assign (.tmp 27), ty := 4, guard := none }]
def c29_13 : AC := .region o29_13 []
theorem n29_13 : Run Cx 29 T ds ro (.code c29_13 :: k) H Q = RunOps Cx 29 T ds ro o29_13 k H Q := run_region
def o29_16 : List AO := [{ dst := (some 28), op := .fieldAddr 40 (.tmp 1) 2, ty := 0, guard := none },
  { dst := (some 29), op := .load 9 (.tmp 28), ty := 9, guard := none },
  { dst := (some 30), op := .call { callee := (.builtin .len), args := #[(.tmp 29)], argTypes := #[9] }, ty := 3, guard := none },
  { dst := (some 31), op := .binOp .leq 3 (.tmp 30) (.const (.int .i64 4096)) 3, ty := 4, guard := none },
  { dst := (some 32), op := .move (.tmp 31), ty := 4, guard := none },
  { dst := (some 33), op := .fieldAddr 40 (.tmp 1) 1, ty := 0, guard := (some (32, true)) },
  { dst := (some 34), op := .load 3 (.tmp 33), ty := 3, guard := (some (32, true)) },
  { dst := (some 35), op := .binOp .eql 3 (.tmp 34) (.const (.int .i64 0)) 3, ty := 4, guard := (some (32, true)) },
  { dst := (some 36), op := .pick (.tmp 32) (.tmp 35) (.const (.bool false)), ty := 4, guard := none },
  { dst := (some 37), op := .move (.tmp 36), ty := 4, guard := none },
  { dst := (some 38), op := .fieldAddr 40 (.tmp 1) 3, ty := 0, guard := (some (37, true)) },
  { dst := (some 39), op := .load 38 (.tmp 38), ty := 38, guard := (some (37, true)) },
  { dst := (some 40), op := .build 38 #[], ty := 38, guard := (some (37, true)) },
  { dst := (some 41), op := .binOp .eql 38 (.tmp 39) (.tmp 40) 38, ty := 4, guard := (some (37, true)) },
  { dst := (some 42), op := .pick (.tmp 37) (.tmp 41) (.const (.bool false)), ty := 4, guard := none },
  { dst := (some 2), op := .assign (.tmp 42), ty := 4, guard := none }]
def c29_16 : AC := .region o29_16 []
theorem n29_16 : Run Cx 29 T ds ro (.code c29_16 :: k) H Q = RunOps Cx 29 T ds ro o29_16 k H Q := run_region
def c29_17 : AC := .ret
theorem n29_17 : Run Cx 29 T [] none (.code c29_17 :: k) H Q = RunRes Cx T H Q (resOf Cx 29) := run_ret
def c29_15 : AC := .seq c29_16 c29_17
theorem n29_15 : Run Cx 29 T ds ro (.code c29_15 :: k) H Q = Run Cx 29 T ds ro (.code c29_16 :: .code c29_17 :: k) H Q := run_seq
def o29_19 : List AO := [{ dst := (some 44), op := .binOp .eql 3 (.tmp 4) (.const (.int .i64 2)) 3, ty := 4, guard := none },
  { dst := (some 43), op := .assign (.tmp 44), ty := 4, guard := none }]
def c29_19 : AC := .region o29_19 []
theorem n29_19 : Run Cx 29 T ds ro (.code c29_19 :: k) H Q = RunOps Cx 29 T ds ro o29_19 k H Q := run_region
def o29_22 : List AO := [{ dst := (some 45), op := .fieldAddr 40 (.tmp 1) 3, ty := 0, guard := none },
  { dst := (some 46), op := .load 38 (.tmp 45), ty := 38, guard := none },
  { dst := (some 47), op := .call { callee := (.value (.func 37)), args := #[(.tmp 46)], argTypes := #[38] }, ty := 4, guard := none },
  { dst := (some 48), op := .move (.tmp 47), ty := 4, guard := none },
  { dst := (some 49), op := .fieldAddr 40 (.tmp 1) 1, ty := 0, guard := (some (48, true)) },
  { dst := (some 50), op := .load 3 (.tmp 49), ty := 3, guard := (some (48, true)) },
  { dst := (some 51), op := .binOp .eql 3 (.tmp 50) (.const (.int .i64 0)) 3, ty := 4, guard := (some (48, true)) },
  { dst := (some 52), op := .pick (.tmp 48) (.tmp 51) (.const (.bool false)), ty := 4, guard := none },
  { dst := (some 53), op := .move (.tmp 52), ty := 4, guard := none },
  { dst := (some 54), op := .fieldAddr 40 (.tmp 1) 2, ty := 0, guard := (some (53, true)) },
  { dst := (some 55), op := .load 9 (.tmp 54), ty := 9, guard := (some (53, true)) },
  { dst := (some 56), op := .binOp .eql 9 (.tmp 55) (.const (.string ⟨#[]⟩)) 9, ty := 4, guard := (some (53, true)) },
  { dst := (some 57), op := .pick (.tmp 53) (.tmp 56) (.const (.bool false)), ty := 4, guard := none },
  { dst := (some 2), op := .assign (.tmp 57), ty := 4, guard := none }]
def c29_22 : AC := .region o29_22 []
theorem n29_22 : Run Cx 29 T ds ro (.code c29_22 :: k) H Q = RunOps Cx 29 T ds ro o29_22 k H Q := run_region
def c29_23 : AC := .ret
theorem n29_23 : Run Cx 29 T [] none (.code c29_23 :: k) H Q = RunRes Cx T H Q (resOf Cx 29) := run_ret
def c29_21 : AC := .seq c29_22 c29_23
theorem n29_21 : Run Cx 29 T ds ro (.code c29_21 :: k) H Q = Run Cx 29 T ds ro (.code c29_22 :: .code c29_23 :: k) H Q := run_seq
def c29_24 : AC := .skip
theorem n29_24 : Run Cx 29 T ds ro (.code c29_24 :: k) H Q = Run Cx 29 T ds ro (k) H Q := run_skip
def c29_20 : AC := .cond (.tmp 43) c29_21 c29_24
theorem n29_20 : Run Cx 29 T ds ro (.code c29_20 :: k) H Q = RunCond Cx 29 T ds ro (.tmp 43) (ev T (.tmp 43)) c29_21 c29_24 k H Q := run_condC
def c29_18 : AC := .seq c29_19 c29_20
theorem n29_18 : Run Cx 29 T ds ro (.code c29_18 :: k) H Q = Run Cx 29 T ds ro (.code c29_19 :: .code c29_20 :: k) H Q := run_seq
def c29_14 : AC := .cond (.tmp 26) c29_15 c29_18
theorem n29_14 : Run Cx 29 T ds ro (.code c29_14 :: k) H Q = RunCond Cx 29 T ds ro (.tmp 26) (ev T (.tmp 26)) c29_15 c29_18 k H Q := run_condC
def c29_12 : AC := .seq c29_13 c29_14
theorem n29_12 : Run Cx 29 T ds ro (.code c29_12 :: k) H Q = Run Cx 29 T ds ro (.code c29_13 :: .code c29_14 :: k) H Q := run_seq
def c29_8 : AC := .cond (.tmp 5) c29_9 c29_12
theorem n29_8 : Run Cx 29 T ds ro (.code c29_8 :: k) H Q = RunCond Cx 29 T ds ro (.tmp 5) (ev T (.tmp 5)) c29_9 c29_12 k H Q := run_condC
def c29_6 : AC := .seq c29_7 c29_8
theorem n29_6 : Run Cx 29 T ds ro (.code c29_6 :: k) H Q = Run Cx 29 T ds ro (.code c29_7 :: .code c29_8 :: k) H Q := run_seq
def c29_5 : AC := .block 0 c29_6
theorem n29_5 : Run Cx 29 T ds ro (.code c29_5 :: k) H Q = Run Cx 29 T ds ro (.code c29_6 :: .inBlock 0 :: k) H Q := run_block
def c29_3 : AC := .seq c29_4 c29_5
theorem n29_3 : Run Cx 29 T ds ro (.code c29_3 :: k) H Q = Run Cx 29 T ds ro (.code c29_4 :: .code c29_5 :: k) H Q := run_seq
def o29_26 : List AO := [{ dst := (some 2), op := .assign (.const (.bool false)), ty := 4, guard := none }]
def c29_26 : AC := .region o29_26 []
theorem n29_26 : Run Cx 29 T ds ro (.code c29_26 :: k) H Q = RunOps Cx 29 T ds ro o29_26 k H Q := run_region
def c29_27 : AC := .ret
theorem n29_27 : Run Cx 29 T [] none (.code c29_27 :: k) H Q = RunRes Cx T H Q (resOf Cx 29) := run_ret
def c29_25 : AC := .seq c29_26 c29_27
theorem n29_25 : Run Cx 29 T ds ro (.code c29_25 :: k) H Q = Run Cx 29 T ds ro (.code c29_26 :: .code c29_27 :: k) H Q := run_seq
def c29_2 : AC := .seq c29_3 c29_25
theorem n29_2 : Run Cx 29 T ds ro (.code c29_2 :: k) H Q = Run Cx 29 T ds ro (.code c29_3 :: .code c29_25 :: k) H Q := run_seq
def c29_0 : AC := .seq c29_1 c29_2
theorem n29_0 : Run Cx 29 T ds ro (.code c29_0 :: k) H Q = Run Cx 29 T ds ro (.code c29_1 :: .code c29_2 :: k) H Q := run_seq
theorem body29 : bodyOf Cx 29 = some c29_0 := by kernel_rfl
theorem res29 : resOf Cx 29 = some [.tmp 2] := by kernel_rfl
theorem pure29 : Cx.pure 29 = true := by kernel_rfl
-- RULES 29: n29_0, n29_1, n29_2, n29_3, n29_4, n29_5, n29_6, n29_7, n29_8, n29_9, n29_10, n29_11, n29_12, n29_13, n29_14, n29_15, n29_16, n29_17, n29_18, n29_19, n29_20, n29_21, n29_22, n29_23, n29_24, n29_25, n29_26, n29_27
def o30_1 : List AO := [{ dst := (some 1), op := .box 29 (.tmp 0), ty := 0, guard := none },
  { dst := (some 2), op := .assign (.const .nilFunc), ty := 47, guard := none }]
def c30_1 : AC := .region o30_1 []
theorem n30_1 : Run Cx 30 T ds ro (.code c30_1 :: k) H Q = RunOps Cx 30 T ds ro o30_1 k H Q := run_region
def o30_3 : List AO := [{ dst := (some 3), op := .makeFunc (.func 38) #[] #[(.tmp 1)], ty := 46, guard := none },
  { dst := (some 2), op := .assign (.tmp 3), ty := 47, guard := none }]
def c30_3 : AC := .region o30_3 []
theorem n30_3 : Run Cx 30 T ds ro (.code c30_3 :: k) H Q = RunOps Cx 30 T ds ro o30_3 k H Q := run_region
def c30_4 : AC := .ret
theorem n30_4 : Run Cx 30 T [] none (.code c30_4 :: k) H Q = RunRes Cx T H Q (resOf Cx 30) := run_ret
def c30_2 : AC := .seq c30_3 c30_4
theorem n30_2 : Run Cx 30 T ds ro (.code c30_2 :: k) H Q = Run Cx 30 T ds ro (.code c30_3 :: .code c30_4 :: k) H Q := run_seq
def c30_0 : AC := .seq c30_1 c30_2
theorem n30_0 : Run Cx 30 T ds ro (.code c30_0 :: k) H Q = Run Cx 30 T ds ro (.code c30_1 :: .code c30_2 :: k) H Q := run_seq
theorem body30 : bodyOf Cx 30 = some c30_0 := by kernel_rfl
theorem res30 : resOf Cx 30 = some [.tmp 2] := by kernel_rfl
theorem pure30 : Cx.pure 30 = false := by kernel_rfl
-- RULES 30: n30_0, n30_1, n30_2, n30_3, n30_4
def o31_1 : List AO := [{ dst := (some 4), op := .assign (.const (.bool false)), ty := 4, guard := none }]
def c31_1 : AC := .region o31_1 []
theorem n31_1 : Run Cx 31 T ds ro (.code c31_1 :: k) H Q = RunOps Cx 31 T ds ro o31_1 k H Q := run_region
def o31_3 : List AO := [{ dst := (some 5), op := .move (.tmp 0), ty := 29, guard := none },
  { dst := (some 6), op := .move (.tmp 1), ty := 25, guard := none },
  { dst := (some 7), op := .call { callee := (.value (.func 42)), args := #[(.tmp 5), (.tmp 6)], argTypes := #[29, 25] }, ty := 3, guard := none },
  { dst := (some 8), op := .binOp .geq 3 (.tmp 7) (.const (.int .i64 0)) 3, ty := 4, guard := none },
  { dst := (some 4), op := .assign (.tmp 8), ty := 4, guard := none }]
def c31_3 : AC := .region o31_3 []
theorem n31_3 : Run Cx 31 T ds ro (.code c31_3 :: k) H Q = RunOps Cx 31 T ds ro o31_3 k H Q := run_region
def c31_4 : AC := .ret
theorem n31_4 : Run Cx 31 T [] none (.code c31_4 :: k) H Q = RunRes Cx T H Q (resOf Cx 31) := run_ret
def c31_2 : AC := .seq c31_3 c31_4
theorem n31_2 : Run Cx 31 T ds ro (.code c31_2 :: k) H Q = Run Cx 31 T ds ro (.code c31_3 :: .code c31_4 :: k) H Q := run_seq
def c31_0 : AC := .seq c31_1 c31_2
theorem n31_0 : Run Cx 31 T ds ro (.code c31_0 :: k) H Q = Run Cx 31 T ds ro (.code c31_1 :: .code c31_2 :: k) H Q := run_seq
theorem body31 : bodyOf Cx 31 = some c31_0 := by kernel_rfl
theorem res31 : resOf Cx 31 = some [.tmp 4] := by kernel_rfl
theorem pure31 : Cx.pure 31 = false := by kernel_rfl
-- RULES 31: n31_0, n31_1, n31_2, n31_3, n31_4
def o32_1 : List AO := [{ dst := (some 2), op := .assign (.const (.bool false)), ty := 4, guard := none }]
def c32_1 : AC := .region o32_1 []
theorem n32_1 : Run Cx 32 T ds ro (.code c32_1 :: k) H Q = RunOps Cx 32 T ds ro o32_1 k H Q := run_region
def o32_3 : List AO := [{ dst := (some 3), op := .move (.tmp 0), ty := 22, guard := none },
  { dst := (some 4), op := .call { callee := (.value (.func 12)), args := #[(.tmp 3)], argTypes := #[22] }, ty := 4, guard := none },
  { dst := (some 5), op := .unOp .not 4 (.tmp 4), ty := 4, guard := none },
  { dst := (some 2), op := .assign (.tmp 5), ty := 4, guard := none }]
def c32_3 : AC := .region o32_3 []
theorem n32_3 : Run Cx 32 T ds ro (.code c32_3 :: k) H Q = RunOps Cx 32 T ds ro o32_3 k H Q := run_region
def c32_4 : AC := .ret
theorem n32_4 : Run Cx 32 T [] none (.code c32_4 :: k) H Q = RunRes Cx T H Q (resOf Cx 32) := run_ret
def c32_2 : AC := .seq c32_3 c32_4
theorem n32_2 : Run Cx 32 T ds ro (.code c32_2 :: k) H Q = Run Cx 32 T ds ro (.code c32_3 :: .code c32_4 :: k) H Q := run_seq
def c32_0 : AC := .seq c32_1 c32_2
theorem n32_0 : Run Cx 32 T ds ro (.code c32_0 :: k) H Q = Run Cx 32 T ds ro (.code c32_1 :: .code c32_2 :: k) H Q := run_seq
theorem body32 : bodyOf Cx 32 = some c32_0 := by kernel_rfl
theorem res32 : resOf Cx 32 = some [.tmp 2] := by kernel_rfl
theorem pure32 : Cx.pure 32 = true := by kernel_rfl
-- RULES 32: n32_0, n32_1, n32_2, n32_3, n32_4
def o33_0 : List AO := [{ dst := (some 4), op := .move (.tmp 0), ty := 22, guard := none },
  { dst := (some 5), op := .move (.tmp 0), ty := 22, guard := none },
  { dst := (some 6), op := .call { callee := (.builtin .len), args := #[(.tmp 5)], argTypes := #[22] }, ty := 3, guard := none },
  { dst := (some 7), op := .move (.tmp 1), ty := 59, guard := none },
  { dst := (some 8), op := .call { callee := (.value (.func 43)), args := #[(.tmp 4), (.tmp 6), (.tmp 7)], argTypes := #[22, 3, 59] }, ty := 0, guard := none }]
def c33_0 : AC := .region o33_0 []
theorem n33_0 : Run Cx 33 T ds ro (.code c33_0 :: k) H Q = RunOps Cx 33 T ds ro o33_0 k H Q := run_region
theorem body33 : bodyOf Cx 33 = some c33_0 := by kernel_rfl
theorem res33 : resOf Cx 33 = some [] := by kernel_rfl
theorem pure33 : Cx.pure 33 = false := by kernel_rfl
-- RULES 33: n33_0
def o34_1 : List AO := [{ dst := (some 4), op := .assign (.const (.int .i64 0)), ty := 3, guard := none }]
def c34_1 : AC := .region o34_1 []
theorem n34_1 : Run Cx 34 T ds ro (.code c34_1 :: k) H Q = RunOps Cx 34 T ds ro o34_1 k H Q := run_region
def o34_4 : List AO := [{ dst := (some 6), op := .move (.tmp 0), ty := 22, guard := none },
  { dst := (some 7), op := .call { callee := (.builtin .len), args := #[(.tmp 6)], argTypes := #[22] }, ty := 3, guard := none },
  { dst := (some 8), op := .move (.const (.int .i64 0)), ty := 3, guard := none }]
def c34_4 : AC := .region o34_4 []
theorem n34_4 : Run Cx 34 T ds ro (.code c34_4 :: k) H Q = RunOps Cx 34 T ds ro o34_4 k H Q := run_region
def o34_8 : List AO := [{ dst := (some 9), op := .binOp .lss 3 (.tmp 8) (.tmp 7) 3, ty := 0, guard := none }]
def c34_8 : AC := .region o34_8 []
theorem n34_8 : Run Cx 34 T ds ro (.code c34_8 :: k) H Q = RunOps Cx 34 T ds ro o34_8 k H Q := run_region
def c34_11 : AC := .skip
theorem n34_11 : Run Cx 34 T ds ro (.code c34_11 :: k) H Q = Run Cx 34 T ds ro (k) H Q := run_skip
def c34_12 : AC := .exit 0
theorem n34_12 : Run Cx 34 T ds ro (.code c34_12 :: k) H Q = RunExit Cx 34 T ds ro 0 k k H Q := run_exit_start
def c34_10 : AC := .cond (.tmp 9) c34_11 c34_12
theorem n34_10 : Run Cx 34 T ds ro (.code c34_10 :: k) H Q = RunCond Cx 34 T ds ro (.tmp 9) (ev T (.tmp 9)) c34_11 c34_12 k H Q := run_condC
def o34_16 : List AO := [{ dst := (some 10), op := .move (.tmp 8), ty := 3, guard := none },
  { dst := (some 5), op := .assign (.tmp 10), ty := 3, guard := none }]
def c34_16 : AC := .region o34_16 []
theorem n34_16 : Run Cx 34 T ds ro (.code c34_16 :: k) H Q = RunOps Cx 34 T ds ro o34_16 k H Q := run_region
def o34_18 : List AO := [{ dst := (some 11), op := .move (.tmp 1), ty := 50, guard := none },
  { dst := (some 12), op := .move (.tmp 0), ty := 22, guard := none },
  { dst := (some 13), op := .move (.tmp 5), ty := 3, guard := none },
  { dst := (some 14), op := .indexAddr 22 (.tmp 12) (.tmp 13), ty := 0, guard := none },
  { dst := (some 15), op := .load 42 (.tmp 14), ty := 42, guard := none },
  { dst := (some 16), op := .call { callee := (.value (.tmp 11)), args := #[(.tmp 15)], argTypes := #[42] }, ty := 4, guard := none }]
def c34_18 : AC := .region o34_18 []
theorem n34_18 : Run Cx 34 T ds ro (.code c34_18 :: k) H Q = RunOps Cx 34 T ds ro o34_18 k H Q := run_region
def o34_21 : List AO := [{ dst := (some 17), op := .move (.tmp 5), ty := 3, guard := none },
  { dst := (some 4), op := .assign (.tmp 17), ty := 3, guard := none }]
def c34_21 : AC := .region o34_21 []
theorem n34_21 : Run Cx 34 T ds ro (.code c34_21 :: k) H Q = RunOps Cx 34 T ds ro o34_21 k H Q := run_region
def c34_22 : AC := .ret
theorem n34_22 : Run Cx 34 T [] none (.code c34_22 :: k) H Q = RunRes Cx T H Q (resOf Cx 34) := run_ret
def c34_20 : AC := .seq c34_21 c34_22
theorem n34_20 : Run Cx 34 T ds ro (.code c34_20 :: k) H Q = Run Cx 34 T ds ro (.code c34_21 :: .code c34_22 :: k) H Q := run_seq
def c34_23 : AC := .skip
theorem n34_23 : Run Cx 34 T ds ro (.code c34_23 :: k) H Q = Run Cx 34 T ds ro (k) H Q := run_skip
def c34_19 : AC := .cond (.tmp 16) c34_20 c34_23
theorem n34_19 : Run Cx 34 T ds ro (.code c34_19 :: k) H Q = RunCond Cx 34 T ds ro (.tmp 16) (ev T (.tmp 16)) c34_20 c34_23 k H Q := run_condC
def c34_17 : AC := .seq c34_18 c34_19
theorem n34_17 : Run Cx 34 T ds ro (.code c34_17 :: k) H Q = Run Cx 34 T ds ro (.code c34_18 :: .code c34_19 :: k) H Q := run_seq
def c34_15 : AC := .seq c34_16 c34_17
theorem n34_15 : Run Cx 34 T ds ro (.code c34_15 :: k) H Q = Run Cx 34 T ds ro (.code c34_16 :: .code c34_17 :: k) H Q := run_seq
def c34_14 : AC := .block 1 c34_15
theorem n34_14 : Run Cx 34 T ds ro (.code c34_14 :: k) H Q = Run Cx 34 T ds ro (.code c34_15 :: .inBlock 1 :: k) H Q := run_block
def o34_24 : List AO := [{ dst := (some 18), op := .binOp .add 3 (.tmp 8) (.const (.int .i64 1)) 3, ty := 3, guard := none },
  { dst := (some 8), op := .move (.tmp 18), ty := 3, guard := none }]
def c34_24 : AC := .region o34_24 []
theorem n34_24 : Run Cx 34 T ds ro (.code c34_24 :: k) H Q = RunOps Cx 34 T ds ro o34_24 k H Q := run_region
def c34_13 : AC := .seq c34_14 c34_24
theorem n34_13 : Run Cx 34 T ds ro (.code c34_13 :: k) H Q = Run Cx 34 T ds ro (.code c34_14 :: .code c34_24 :: k) H Q := run_seq
def c34_9 : AC := .seq c34_10 c34_13
theorem n34_9 : Run Cx 34 T ds ro (.code c34_9 :: k) H Q = Run Cx 34 T ds ro (.code c34_10 :: .code c34_13 :: k) H Q := run_seq
def c34_7 : AC := .seq c34_8 c34_9
theorem n34_7 : Run Cx 34 T ds ro (.code c34_7 :: k) H Q = Run Cx 34 T ds ro (.code c34_8 :: .code c34_9 :: k) H Q := run_seq
def c34_6 : AC := .loop c34_7
theorem n34_6 : Run Cx 34 T ds ro (.code c34_6 :: k) H Q = Run Cx 34 T ds ro (.inLoop c34_7 :: k) H Q := run_loop'
def c34_5 : AC := .block 0 c34_6
theorem n34_5 : Run Cx 34 T ds ro (.code c34_5 :: k) H Q = Run Cx 34 T ds ro (.code c34_6 :: .inBlock 0 :: k) H Q := run_block
def c34_3 : AC := .seq c34_4 c34_5
theorem n34_3 : Run Cx 34 T ds ro (.code c34_3 :: k) H Q = Run Cx 34 T ds ro (.code c34_4 :: .code c34_5 :: k) H Q := run_seq
def o34_26 : List AO := [{ dst := (some 4), op := .assign (.const (.int .i64 (-1))), ty := 3, guard := none }]
def c34_26 : AC := .region o34_26 []
theorem n34_26 : Run Cx 34 T ds ro (.code c34_26 :: k) H Q = RunOps Cx 34 T ds ro o34_26 k H Q := run_region
def c34_27 : AC := .ret
theorem n34_27 : Run Cx 34 T [] none (.code c34_27 :: k) H Q = RunRes Cx T H Q (resOf Cx 34) := run_ret
def c34_25 : AC := .seq c34_26 c34_27
theorem n34_25 : Run Cx 34 T ds ro (.code c34_25 :: k) H Q = Run Cx 34 T ds ro (.code c34_26 :: .code c34_27 :: k) H Q := run_seq
def c34_2 : AC := .seq c34_3 c34_25
theorem n34_2 : Run Cx 34 T ds ro (.code c34_2 :: k) H Q = Run Cx 34 T ds ro (.code c34_3 :: .code c34_25 :: k) H Q := run_seq
def c34_0 : AC := .seq c34_1 c34_2
theorem n34_0 : Run Cx 34 T ds ro (.code c34_0 :: k) H Q = Run Cx 34 T ds ro (.code c34_1 :: .code c34_2 :: k) H Q := run_seq
theorem body34 : bodyOf Cx 34 = some c34_0 := by kernel_rfl
theorem res34 : resOf Cx 34 = some [.tmp 4] := by kernel_rfl
theorem pure34 : Cx.pure 34 = false := by kernel_rfl
-- RULES 34: n34_0, n34_1, n34_2, n34_3, n34_4, n34_5, n34_6, n34_7, n34_8, n34_9, n34_10, n34_11, n34_12, n34_13, n34_14, n34_15, n34_16, n34_17, n34_18, n34_19, n34_20, n34_21, n34_22, n34_23, n34_24, n34_25, n34_26, n34_27
def o35_1 : List AO := [{ dst := (some 1), op := .box 38 (.tmp 0), ty := 0, guard := none },
  { dst := (some 2), op := .assign (.const (.bool false)), ty := 4, guard := none }]
def c35_1 : AC := .region o35_1 []
theorem n35_1 : Run Cx 35 T ds ro (.code c35_1 :: k) H Q = RunOps Cx 35 T ds ro o35_1 k H Q := run_region
def o35_3 : List AO := [{ dst := (some 3), op := .fieldAddr 38 (.tmp 1) 0, ty := 0, guard := none },
  { dst := (some 4), op := .load 3 (.tmp 3), ty := 3, guard := none },
  { dst := (some 5), op := .call { callee := (.value (.func 44)), args := #[(.tmp 4)], argTypes := #[3] }, ty := 4, guard := none },
  { dst := (some 6), op := .move (.tmp 5), ty := 4, guard := none },
  { dst := (some 7), op := .fieldAddr 38 (.tmp 1) 1, ty := 0, guard := (some (6, true)) },
  { dst := (some 8), op := .load 3 (.tmp 7), ty := 3, guard := (some (6, true)) },
  { dst := (some 9), op := .call { callee := (.value (.func 44)), args := #[(.tmp 8)], argTypes := #[3] }, ty := 4, guard := (some (6, true)) },
  { dst := (some 10), op := .pick (.tmp 6) (.tmp 9) (.const (.bool false)), ty := 4, guard := none },
  { dst := (some 2), op := .assign (.tmp 10), ty := 4, guard := none }]
def c35_3 : AC := .region o35_3 []
theorem n35_3 : Run Cx 35 T ds ro (.code c35_3 :: k) H Q = RunOps Cx 35 T ds ro o35_3 k H Q := run_region
def c35_4 : AC := .ret
theorem n35_4 : Run Cx 35 T [] none (.code c35_4 :: k) H Q = RunRes Cx T H Q (resOf Cx 35) := run_ret
def c35_2 : AC := .seq c35_3 c35_4
theorem n35_2 : Run Cx 35 T ds ro (.code c35_2 :: k) H Q = Run Cx 35 T ds ro (.code c35_3 :: .code c35_4 :: k) H Q := run_seq
def c35_0 : AC := .seq c35_1 c35_2
theorem n35_0 : Run Cx 35 T ds ro (.code c35_0 :: k) H Q = Run Cx 35 T ds ro (.code c35_1 :: .code c35_2 :: k) H Q := run_seq
theorem body35 : bodyOf Cx 35 = some c35_0 := by kernel_rfl
theorem res35 : resOf Cx 35 = some [.tmp 2] := by kernel_rfl
theorem pure35 : Cx.pure 35 = true := by kernel_rfl
-- RULES 35: n35_0, n35_1, n35_2, n35_3, n35_4
def o36_1 : List AO := [{ dst := (some 4), op := .assign (.const (.int .i64 0)), ty := 3, guard := none }]
def c36_1 : AC := .region o36_1 []
theorem n36_1 : Run Cx 36 T ds ro (.code c36_1 :: k) H Q = RunOps Cx 36 T ds ro o36_1 k H Q := run_region
def o36_3 : List AO := [{ dst := (some 7), op := .move (.tmp 0), ty := 9, guard := none },
  { dst := (some 8), op := .call { callee := (.value (.func 45)), args := #[(.tmp 7)], argTypes := #[9] }, ty := 4, guard := none },
  { dst := (some 5), op := .assign (.tmp 8), ty := 4, guard := none }]
def c36_3 : AC := .region o36_3 []
theorem n36_3 : Run Cx 36 T ds ro (.code c36_3 :: k) H Q = RunOps Cx 36 T ds ro o36_3 k H Q := run_region
def o36_5 : List AO := [{ dst := (some 9), op := .move (.tmp 1), ty := 9, guard := none },
  { dst := (some 10), op := .call { callee := (.value (.func 45)), args := #[(.tmp 9)], argTypes := #[9] }, ty := 4, guard := none },
  { dst := (some 6), op := .assign (.tmp 10), ty := 4, guard := none }]
def c36_5 : AC := .region o36_5 []
theorem n36_5 : Run Cx 36 T ds ro (.code c36_5 :: k) H Q = RunOps Cx 36 T ds ro o36_5 k H Q := run_region
def o36_8 : List AO := [{ dst := (some 11), op := .move (.tmp 5), ty := 4, guard := none }]
def c36_8 : AC := .region o36_8 []
theorem n36_8 : Run Cx 36 T ds ro (.code c36_8 :: k) H Q = RunOps Cx 36 T ds ro o36_8 k H Q := run_region
def o36_12 : List AO := [{ dst := (some 12), op := .move (.tmp 6), ty := 4, guard := none }]
def c36_12 : AC := .region o36_12 []
theorem n36_12 : Run Cx 36 T ds ro (.code c36_12 :: k) H Q = RunOps Cx 36 T ds ro o36_12 k H Q := run_region
def o36_15 : List AO := [{ dst := (some 4), op := .assign (.const (.int .i64 0)), ty := 3, guard := none }]
def c36_15 : AC := .region o36_15 []
theorem n36_15 : Run Cx 36 T ds ro (.code c36_15 :: k) H Q = RunOps Cx 36 T ds ro o36_15 k H Q := run_region
def c36_16 : AC := .ret
theorem n36_16 : Run Cx 36 T [] none (.code c36_16 :: k) H Q = RunRes Cx T H Q (resOf Cx 36) := run_ret
def c36_14 : AC := .seq c36_15 c36_16
theorem n36_14 : Run Cx 36 T ds ro (.code c36_14 :: k) H Q = Run Cx 36 T ds ro (.code c36_15 :: .code c36_16 :: k) H Q := run_seq
def c36_17 : AC := .skip
theorem n36_17 : Run Cx 36 T ds ro (.code c36_17 :: k) H Q = Run Cx 36 T ds ro (k) H Q := run_skip
def c36_13 : AC := .cond (.tmp 12) c36_14 c36_17
theorem n36_13 : Run Cx 36 T ds ro (.code c36_13 :: k) H Q = RunCond Cx 36 T ds ro (.tmp 12) (ev T (.tmp 12)) c36_14 c36_17 k H Q := run_condC
def c36_11 : AC := .seq c36_12 c36_13
theorem n36_11 : Run Cx 36 T ds ro (.code c36_11 :: k) H Q = Run Cx 36 T ds ro (.code c36_12 :: .code c36_13 :: k) H Q := run_seq
def o36_19 : List AO := [{ dst := (some 4), op := .assign (.const (.int .i64 (-1))), ty := 3, guard := none }]
def c36_19 : AC := .region o36_19 []
theorem n36_19 : Run Cx 36 T ds ro (.code c36_19 :: k) H Q = RunOps Cx 36 T ds ro o36_19 k H Q := run_region
def c36_20 : AC := .ret
theorem n36_20 : Run Cx 36 T [] none (.code c36_20 :: k) H Q = RunRes Cx T H Q (resOf Cx 36) := run_ret
def c36_18 : AC := .seq c36_19 c36_20
theorem n36_18 : Run Cx 36 T ds ro (.code c36_18 :: k) H Q = Run Cx 36 T ds ro (.code c36_19 :: .code c36_20 :: k) H Q := run_seq
def c36_10 : AC := .seq c36_11 c36_18
theorem n36_10 : Run Cx 36 T ds ro (.code c36_10 :: k) H Q = Run Cx 36 T ds ro (.code c36_11 :: .code c36_18 :: k) H Q := run_seq
def c36_21 : AC := .skip
theorem n36_21 : Run Cx 36 T ds ro (.code c36_21 :: k) H Q = Run Cx 36 T ds ro (k) H Q := run_skip
def c36_9 : AC := .cond (.tmp 11) c36_10 c36_21
theorem n36_9 : Run Cx 36 T ds ro (.code c36_9 :: k) H Q = RunCond Cx 36 T ds ro (.tmp 11) (ev T (.tmp 11)) c36_10 c36_21 k H Q := run_condC
def c36_7 : AC := .seq c36_8 c36_9
theorem n36_7 : Run Cx 36 T ds ro (.code c36_7 :: k) H Q = Run Cx 36 T ds ro (.code c36_8 :: .code c36_9 :: k) H Q := run_seq
def o36_24 : List AO := [{ dst := (some 13), op := .move (.tmp 6), ty := 4, guard := none }]
def c36_24 : AC := .region o36_24 []
theorem n36_24 : Run Cx 36 T ds ro (.code c36_24 :: k) H Q = RunOps Cx 36 T ds ro o36_24 k H Q := run_region
def o36_27 : List AO := [{ dst := (some 4), op := .assign (.const (.int .i64 1)), ty := 3, guard := none }]
def c36_27 : AC := .region o36_27 []
theorem n36_27 : Run Cx 36 T ds ro (.code c36_27 :: k) H Q = RunOps Cx 36 T ds ro o36_27 k H Q := run_region
def c36_28 : AC := .ret
theorem n36_28 : Run Cx 36 T [] none (.code c36_28 :: k) H Q = RunRes Cx T H Q (resOf Cx 36) := run_ret
def c36_26 : AC := .seq c36_27 c36_28
theorem n36_26 : Run Cx 36 T ds ro (.code c36_26 :: k) H Q = Run Cx 36 T ds ro (.code c36_27 :: .code c36_28 :: k) H Q := run_seq
def c36_29 : AC := .skip
theorem n36_29 : Run Cx 36 T ds ro (.code c36_29 :: k) H Q = Run Cx 36 T ds ro (k) H Q := run_skip
def c36_25 : AC := .cond (.tmp 13) c36_26 c36_29
theorem n36_25 : Run Cx 36 T ds ro (.code c36_25 :: k) H Q = RunCond Cx 36 T ds ro (.tmp 13) (ev T (.tmp 13)) c36_26 c36_29 k H Q := run_condC
def c36_23 : AC := .seq c36_24 c36_25
theorem n36_23 : Run Cx 36 T ds ro (.code c36_23 :: k) H Q = Run Cx 36 T ds ro (.code c36_24 :: .code c36_25 :: k) H Q := run_seq
def o36_32 : List AO := [{ dst := (some 14), op := .move (.tmp 0), ty := 9, guard := none },
  { dst := (some 15), op := .move (.tmp 1), ty := 9, guard := none },
  { dst := (some 16), op := .binOp .lss 9 (.tmp 14) (.tmp 15) 9, ty := 4, guard := none }]
def c36_32 : AC := .region o36_32 []
theorem n36_32 : Run Cx 36 T ds ro (.code c36_32 :: k) H Q = RunOps Cx 36 T ds ro o36_32 k H Q := run_region
def o36_35 : List AO := [{ dst := (some 4), op := .assign (.const (.int .i64 (-1))), ty := 3, guard := none }]
def c36_35 : AC := .region o36_35 []
theorem n36_35 : Run Cx 36 T ds ro (.code c36_35 :: k) H Q = RunOps Cx 36 T ds ro o36_35 k H Q := run_region
def c36_36 : AC := .ret
theorem n36_36 : Run Cx 36 T [] none (.code c36_36 :: k) H Q = RunRes Cx T H Q (resOf Cx 36) := run_ret
def c36_34 : AC := .seq c36_35 c36_36
theorem n36_34 : Run Cx 36 T ds ro (.code c36_34 :: k) H Q = Run Cx 36 T ds ro (.code c36_35 :: .code c36_36 :: k) H Q := run_seq
def c36_37 : AC := .skip
theorem n36_37 : Run Cx 36 T ds ro (.code c36_37 :: k) H Q = Run Cx 36 T ds ro (k) H Q := run_skip
def c36_33 : AC := .cond (.tmp 16) c36_34 c36_37
theorem n36_33 : Run Cx 36 T ds ro (.code c36_33 :: k) H Q = RunCond Cx 36 T ds ro (.tmp 16) (ev T (.tmp 16)) c36_34 c36_37 k H Q := run_condC
def c36_31 : AC := .seq c36_32 c36_33
theorem n36_31 : Run Cx 36 T ds ro (.code c36_31 :: k) H Q = Run Cx 36 T ds ro (.code c36_32 :: .code c36_33 :: k) H Q := run_seq
def o36_40 : List AO := [{ dst := (some 17), op := .move (.tmp 0), ty := 9, guard := none },
  { dst := (some 18), op := .move (.tmp 1), ty := 9, guard := none },
  { dst := (some 19), op := .binOp .gtr 9 (.tmp 17) (.tmp 18) 9, ty := 4, guard := none }]
def c36_40 : AC := .region o36_40 []
theorem n36_40 : Run Cx 36 T ds ro (.code c36_40 :: k) H Q = RunOps Cx 36 T ds ro o36_40 k H Q := run_region
def o36_43 : List AO := [{ dst := (some 4), op := .assign (.const (.int .i64 1)), ty := 3, guard := none }]
def c36_43 : AC := .region o36_43 []
theorem n36_43 : Run Cx 36 T ds ro (.code c36_43 :: k) H Q = RunOps Cx 36 T ds ro o36_43 k H Q := run_region
def c36_44 : AC := .ret
theorem n36_44 : Run Cx 36 T [] none (.code c36_44 :: k) H Q = RunRes Cx T H Q (resOf Cx 36) := run_ret
def c36_42 : AC := .seq c36_43 c36_44
theorem n36_42 : Run Cx 36 T ds ro (.code c36_42 :: k) H Q = Run Cx 36 T ds ro (.code c36_43 :: .code c36_44 :: k) H Q := run_seq
def c36_45 : AC := .skip
theorem n36_45 : Run Cx 36 T ds ro (.code c36_45 :: k) H Q = Run Cx 36 T ds ro (k) H Q := run_skip
def c36_41 : AC := .cond (.tmp 19) c36_42 c36_45
theorem n36_41 : Run Cx 36 T ds ro (.code c36_41 :: k) H Q = RunCond Cx 36 T ds ro (.tmp 19) (ev T (.tmp 19)) c36_42 c36_45 k H Q := run_condC
def c36_39 : AC := .seq c36_40 c36_41
theorem n36_39 : Run Cx 36 T ds ro (.code c36_39 :: k) H Q = Run Cx 36 T ds ro (.code c36_40 :: .code c36_41 :: k) H Q := run_seq
def o36_47 : List AO := [{ dst := (some 4), op := .assign (.const (.int .i64 0)), ty := 3, guard := none }]
def c36_47 : AC := .region o36_47 []
theorem n36_47 : Run Cx 36 T ds ro (.code c36_47 :: k) H Q = RunOps Cx 36 T ds ro o36_47 k H Q := run_region
def c36_48 : AC := .ret
theorem n36_48 : Run Cx 36 T [] none (.code c36_48 :: k) H Q = RunRes Cx T H Q (resOf Cx 36) := run_ret
def c36_46 : AC := .seq c36_47 c36_48
theorem n36_46 : Run Cx 36 T ds ro (.code c36_46 :: k) H Q = Run Cx 36 T ds ro (.code c36_47 :: .code c36_48 :: k) H Q := run_seq
def c36_38 : AC := .seq c36_39 c36_46
theorem n36_38 : Run Cx 36 T ds ro (.code c36_38 :: k) H Q = Run Cx 36 T ds ro (.code c36_39 :: .code c36_46 :: k) H Q := run_seq
def c36_30 : AC := .seq c36_31 c36_38
theorem n36_30 : Run Cx 36 T ds ro (.code c36_30 :: k) H Q = Run Cx 36 T ds ro (.code c36_31 :: .code c36_38 :: k) H Q := run_seq
def c36_22 : AC := .seq c36_23 c36_30
theorem n36_22 : Run Cx 36 T ds ro (.code c36_22 :: k) H Q = Run Cx 36 T ds ro (.code c36_23 :: .code c36_30 :: k) H Q := run_seq
def c36_6 : AC := .seq c36_7 c36_22
theorem n36_6 : Run Cx 36 T ds ro (.code c36_6 :: k) H Q = Run Cx 36 T ds ro (.code c36_7 :: .code c36_22 :: k) H Q := run_seq
def c36_4 : AC := .seq c36_5 c36_6
theorem n36_4 : Run Cx 36 T ds ro (.code c36_4 :: k) H Q = Run Cx 36 T ds ro (.code c36_5 :: .code c36_6 :: k) H Q := run_seq
def c36_2 : AC := .seq c36_3 c36_4
theorem n36_2 : Run Cx 36 T ds ro (.code c36_2 :: k) H Q = Run Cx 36 T ds ro (.code c36_3 :: .code c36_4 :: k) H Q := run_seq
def c36_0 : AC := .seq c36_1 c36_2
theorem n36_0 : Run Cx 36 T ds ro (.code c36_0 :: k) H Q = Run Cx 36 T ds ro (.code c36_1 :: .code c36_2 :: k) H Q := run_seq
theorem body36 : bodyOf Cx 36 = some c36_0 := by kernel_rfl
theorem res36 : resOf Cx 36 = some [.tmp 4] := by kernel_rfl
theorem pure36 : Cx.pure 36 = true := by kernel_rfl
-- RULES 36: n36_0, n36_1, n36_2, n36_3, n36_4, n36_5, n36_6, n36_7, n36_8, n36_9, n36_10, n36_11, n36_12, n36_13, n36_14, n36_15, n36_16, n36_17, n36_18, n36_19, n36_20, n36_21, n36_22, n36_23, n36_24, n36_25, n36_26, n36_27, n36_28, n36_29, n36_30, n36_31, n36_32, n36_33, n36_34, n36_35, n36_36, n36_37, n36_38, n36_39, n36_40, n36_41, n36_42, n36_43, n36_44, n36_45, n36_46, n36_47, n36_48
end
end Go.Proofs.Ytbfjkomlnpolmaa.G
