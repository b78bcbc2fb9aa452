import Derived.Test.YtmmeippmkekggaaBSym
import Derived.Test.YtmmeippmkekggaaChecked
import Derived.KernelRfl
namespace Go.Proofs.Ytmmeippmkekggaa.G
open Go.BX

/-! # The program's tables, printed by program (XGen.lean), each row asked of the kernel -/

def good : List Nat := [1, 2, 3, 4, 5, 6, 7, 8, 9, 10, 11, 12, 13, 14, 15, 16, 17, 18, 19, 20, 21, 22, 23, 24, 26, 27, 29, 30, 32, 33, 34, 35, 37, 38, 39, 40, 41, 42, 43, 44, 45, 46, 47, 48, 49, 50, 51, 52, 53, 54, 55, 56, 59, 60, 61, 62, 63, 64, 65, 66, 67, 68]
def pureL : List Nat := [2, 3, 4, 5, 6, 7, 8, 9, 10, 11, 12, 13, 14, 15, 16, 17, 18, 19, 20, 21, 22, 23, 24, 25, 26, 27, 28, 29, 30, 31, 32, 33, 34, 35, 36]
noncomputable def Cx : Ctx := ctxOf Try.prog good (fun f => pureL.contains f) (fun _ => none)
theorem good_ok : good.all (tiCheck Try.prog good) = true := by kernel_rfl
theorem mixed : Try.prog.follows .mixedOrders = true := by kernel_rfl
theorem cok : COk Cx := cOk_of good_ok extOk_none mixed
theorem noext (f : FuncId) : Cx.ext f = none := rfl

theorem TT_3 : Cx.TT 3 = some { kind := .int .i64, size := 1, bytes := 8, zero := [.int .i64 0], eqk := (some [.int .i64]) } := by kernel_rfl
theorem TT_4 : Cx.TT 4 = some { kind := .bool, size := 1, bytes := 1, zero := [.bool false], eqk := (some [.bool]) } := by kernel_rfl
theorem TT_23 : Cx.TT 23 = some { kind := .struct [(3, 0), (3, 1)], size := 2, bytes := 16, zero := [.int .i64 0, .int .i64 0], eqk := (some [.int .i64, .int .i64]) } := by kernel_rfl
theorem TT_24 : Cx.TT 24 = some { kind := .int .i64, size := 1, bytes := 8, zero := [.int .i64 0], eqk := (some [.int .i64]) } := by kernel_rfl
theorem TT_47 : Cx.TT 47 = some { kind := .cpx, size := 1, bytes := 16, zero := [.cpx 0 0], eqk := none } := by kernel_rfl
theorem TT_51 : Cx.TT 51 = some { kind := .flt, size := 1, bytes := 8, zero := [.flt 0], eqk := none } := by kernel_rfl
theorem TT_52 : Cx.TT 52 = some { kind := .slice 3, size := 1, bytes := 24, zero := [.nilS], eqk := none } := by kernel_rfl

section
variable {T : Nat → AV} {ds : List ADef} {ro : Option Nat} {k : List AItem} {H : AHeap} {Q : AV → AHeap → Prop}
def o3_1 : List AO := [{ dst := (some 2), op := .box 23 (.tmp 0), ty := 0, guard := none },
  { dst := (some 3), op := .box 23 (.tmp 1), ty := 0, guard := none },
  { dst := (some 4), op := .assign (.const (.bool false)), ty := 4, guard := none }]
def c3_1 : AC := .region o3_1 []
theorem n3_1 : Run Cx 3 T ds ro (.code c3_1 :: k) H Q = RunOps Cx 3 T ds ro o3_1 k H Q := run_region
def o3_3 : List AO := [{ dst := (some 13), op := .load 23 (.tmp 2), ty := 23, guard := none },
  { dst := (some 14), op := .load 23 (.tmp 3), ty := 23, guard := none },
  { dst := (some 15), op := .call { callee := (.value (.func 9)), args := #[(.tmp 13), (.tmp 14)], argTypes := #[23, 23] }, ty := 25, guard := none },
  { dst := (some 12), op := .move (.tmp 15), ty := 25, guard := none },
  { dst := (some 16), op := .extract (.tmp 12) 0, ty := 23, guard := none },
  { dst := (some 17), op := .extract (.tmp 12) 1, ty := 23, guard := none },
  { dst := (some 18), op := .extract (.tmp 12) 2, ty := 24, guard := none },
  { dst := (some 5), op := .alloc 23, ty := 0, guard := none },
  { dst := (some 6), op := .alloc 23, ty := 0, guard := none },
  { dst := none, op := .store 23 (.tmp 5) (.tmp 16), ty := 0, guard := none },
  { dst := none, op := .store 23 (.tmp 6) (.tmp 17), ty := 0, guard := none },
  { dst := (some 7), op := .assign (.tmp 18), ty := 24, guard := none }]
def c3_3 : AC := .region o3_3 []
theorem n3_3 : Run Cx 3 T ds ro (.code c3_3 :: k) H Q = RunOps Cx 3 T ds ro o3_3 k H Q := run_region
def o3_6 : List AO := [{ dst := (some 19), op := .call { callee := (.value (.func 10)), args := #[], argTypes := #[] }, ty := 4, guard := none },
  { dst := (some 20), op := .unOp .not 4 (.tmp 19), ty := 4, guard := none },
  { dst := (some 21), op := .move (.tmp 20), ty := 4, guard := none },
  { dst := (some 22), op := .move (.tmp 7), ty := 24, guard := (some (21, false)) },
  { dst := (some 23), op := .binOp .neq 24 (.tmp 22) (.const (.int .i64 0)) 24, ty := 4, guard := (some (21, false)) },
  { dst := (some 24), op := .pick (.tmp 21) (.const (.bool true)) (.tmp 23), ty := 4, guard := none }]
def c3_6 : AC := .region o3_6 []
theorem n3_6 : Run Cx 3 T ds ro (.code c3_6 :: k) H Q = RunOps Cx 3 T ds ro o3_6 k H Q := run_region
def o3_9 : List AO := [{ dst := (some 25), op := .call { callee := (.value (.func 10)), args := #[], argTypes := #[] }, ty := 4, guard := none },
  { dst := (some 26), op := .move (.tmp 25), ty := 4, guard := none },
  { dst := (some 27), op := .load 23 (.tmp 5), ty := 23, guard := (some (26, true)) },
  { dst := (some 28), op := .build 23 #[], ty := 23, guard := (some (26, true)) },
  { dst := (some 29), op := .binOp .eql 23 (.tmp 27) (.tmp 28) 23, ty := 4, guard := (some (26, true)) },
  { dst := (some 30), op := .pick (.tmp 26) (.tmp 29) (.const (.bool false)), ty := 4, guard := none },
  { dst := (some 31), op := .move (.tmp 30), ty := 4, guard := none },
  { dst := (some 32), op := .load 23 (.tmp 6), ty := 23, guard := (some (31, true)) },
  { dst := (some 33), op := .load 23 (.tmp 5), ty := 23, guard := (some (31, true)) },
  { dst := (some 34), op := .binOp .eql 23 (.tmp 32) (.tmp 33) 23, ty := 4, guard := (some (31, true)) },
  { dst := (some 35), op := .pick (.tmp 31) (.tmp 34) (.const (.bool false)), ty := 4, guard := none },
  { dst := (some 4), op := .assign (.tmp 35), ty := 4, guard := none }]
def c3_9 : AC := .region o3_9 []
theorem n3_9 : Run Cx 3 T ds ro (.code c3_9 :: k) H Q = RunOps Cx 3 T ds ro o3_9 k H Q := run_region
def c3_10 : AC := .ret
theorem n3_10 : Run Cx 3 T [] none (.code c3_10 :: k) H Q = RunRes Cx T H Q (resOf Cx 3) := run_ret
def c3_8 : AC := .seq c3_9 c3_10
theorem n3_8 : Run Cx 3 T ds ro (.code c3_8 :: k) H Q = Run Cx 3 T ds ro (.code c3_9 :: .code c3_10 :: k) H Q := run_seq
def c3_11 : AC := .skip
theorem n3_11 : Run Cx 3 T ds ro (.code c3_11 :: k) H Q = Run Cx 3 T ds ro (k) H Q := run_skip
def c3_7 : AC := .cond (.tmp 24) c3_8 c3_11
theorem n3_7 : Run Cx 3 T ds ro (.code c3_7 :: k) H Q = RunCond Cx 3 T ds ro (.tmp 24) (ev T (.tmp 24)) c3_8 c3_11 k H Q := run_condC
def c3_5 : AC := .seq c3_6 c3_7
theorem n3_5 : Run Cx 3 T ds ro (.code c3_5 :: k) H Q = Run Cx 3 T ds ro (.code c3_6 :: .code c3_7 :: k) H Q := run_seq
def o3_13 : List AO := [{ dst := (some 37), op := .load 23 (.tmp 6), ty := 23, guard := none },
  { dst := (some 38), op := .call { callee := (.value (.func 11)), args := #[(.tmp 37)], argTypes := #[23] }, ty := 28, guard := none },
  { dst := (some 36), op := .move (.tmp 38), ty := 28, guard := none },
  { dst := (some 39), op := .extract (.tmp 36) 0, ty := 3, guard := none },
  { dst := (some 40), op := .extract (.tmp 36) 1, ty := 24, guard := none },
  { dst := (some 8), op := .assign (.tmp 39), ty := 3, guard := none },
  { dst := (some 9), op := .assign (.tmp 40), ty := 24, guard := none }]
def c3_13 : AC := .region o3_13 []
theorem n3_13 : Run Cx 3 T ds ro (.code c3_13 :: k) H Q = RunOps Cx 3 T ds ro o3_13 k H Q := run_region
def o3_15 : List AO := [{ dst := (some 42), op := .load 23 (.tmp 3), ty := 23, guard := none },
  { dst := (some 43), op := .call { callee := (.value (.func 11)), args := #[(.tmp 42)], argTypes := #[23] }, ty := 28, guard := none },
  { dst := (some 41), op := .move (.tmp 43), ty := 28, guard := none },
  { dst := (some 44), op := .extract (.tmp 41) 0, ty := 3, guard := none },
  { dst := (some 45), op := .extract (.tmp 41) 1, ty := 24, guard := none },
  { dst := (some 10), op := .assign (.tmp 44), ty := 3, guard := none },
  { dst := (some 11), op := .assign (.tmp 45), ty := 24, guard := none }]
def c3_15 : AC := .region o3_15 []
theorem n3_15 : Run Cx 3 T ds ro (.code c3_15 :: k) H Q = RunOps Cx 3 T ds ro o3_15 k H Q := run_region
def o3_17 : List AO := [{ dst := (some 46), op := .move (.tmp 9), ty := 24, guard := none },
  { dst := (some 47), op := .binOp .eql 24 (.tmp 46) (.const (.int .i64 0)) 24, ty := 4, guard := none },
  { dst := (some 48), op := .move (.tmp 47), ty := 4, guard := none },
  { dst := (some 49), op := .move (.tmp 11), ty := 24, guard := (some (48, true)) },
  { dst := (some 50), op := .binOp .eql 24 (.tmp 49) (.const (.int .i64 0)) 24, ty := 4, guard := (some (48, true)) },
  { dst := (some 51), op := .pick (.tmp 48) (.tmp 50) (.const (.bool false)), ty := 4, guard := none },
  { dst := (some 52), op := .move (.tmp 51), ty := 4, guard := none },
  { dst := (some 53), op := .move (.tmp 8), ty := 3, guard := (some (52, true)) },
  { dst := (some 54), op := .binOp .mul 3 (.const (.int .i64 2)) (.tmp 53) 3, ty := 3, guard := (some (52, true)) },
  { dst := (some 55), op := .move (.tmp 10), ty := 3, guard := (some (52, true)) },
  { dst := (some 56), op := .binOp .leq 3 (.tmp 54) (.tmp 55) 3, ty := 4, guard := (some (52, true)) },
  { dst := (some 57), op := .pick (.tmp 52) (.tmp 56) (.const (.bool false)), ty := 4, guard := none },
  { dst := (some 58), op := .move (.tmp 57), ty := 4, guard := none },
  { dst := (some 59), op := .fieldAddr 23 (.tmp 5) 0, ty := 0, guard := (some (58, true)) },
  { dst := (some 60), op := .load 3 (.tmp 59), ty := 3, guard := (some (58, true)) },
  { dst := (some 61), op := .fieldAddr 23 (.tmp 3) 0, ty := 0, guard := (some (58, true)) },
  { dst := (some 62), op := .load 3 (.tmp 61), ty := 3, guard := (some (58, true)) },
  { dst := (some 63), op := .binOp .mul 3 (.tmp 60) (.tmp 62) 3, ty := 3, guard := (some (58, true)) },
  { dst := (some 64), op := .fieldAddr 23 (.tmp 5) 1, ty := 0, guard := (some (58, true)) },
  { dst := (some 65), op := .load 3 (.tmp 64), ty := 3, guard := (some (58, true)) },
  { dst := (some 66), op := .fieldAddr 23 (.tmp 3) 1, ty := 0, guard := (some (58, true)) },
  { dst := (some 67), op := .load 3 (.tmp 66), ty := 3, guard := (some (58, true)) },
  { dst := (some 68), op := .binOp .mul 3 (.tmp 65) (.tmp 67) 3, ty := 3, guard := (some (58, true)) },
  { dst := (some 69), op := .binOp .sub 3 (.tmp 63) (.tmp 68) 3, ty := 3, guard := (some (58, true)) },
  { dst := (some 70), op := .fieldAddr 23 (.tmp 6) 0, ty := 0, guard := (some (58, true)) },
  { dst := (some 71), op := .load 3 (.tmp 70), ty := 3, guard := (some (58, true)) },
  { dst := (some 72), op := .binOp .add 3 (.tmp 69) (.tmp 71) 3, ty := 3, guard := (some (58, true)) },
  { dst := (some 73), op := .fieldAddr 23 (.tmp 2) 0, ty := 0, guard := (some (58, true)) },
  { dst := (some 74), op := .load 3 (.tmp 73), ty := 3, guard := (some (58, true)) },
  { dst := (some 75), op := .binOp .eql 3 (.tmp 72) (.tmp 74) 3, ty := 4, guard := (some (58, true)) },
  { dst := (some 76), op := .pick (.tmp 58) (.tmp 75) (.const (.bool false)), ty := 4, guard := none },
  { dst := (some 77), op := .move (.tmp 76), ty := 4, guard := none },
  { dst := (some 78), op := .fieldAddr 23 (.tmp 5) 0, ty := 0, guard := (some (77, true)) },
  { dst := (some 79), op := .load 3 (.tmp 78), ty := 3, guard := (some (77, true)) },
  { dst := (some 80), op := .fieldAddr 23 (.tmp 3) 1, ty := 0, guard := (some (77, true)) },
  { dst := (some 81), op := .load 3 (.tmp 80), ty := 3, guard := (some (77, true)) },
  { dst := (some 82), op := .binOp .mul 3 (.tmp 79) (.tmp 81) 3, ty := 3, guard := (some (77, true)) },
  { dst := (some 83), op := .fieldAddr 23 (.tmp 5) 1, ty := 0, guard := (some (77, true)) },
  { dst := (some 84), op := .load 3 (.tmp 83), ty := 3, guard := (some (77, true)) },
  { dst := (some 85), op := .fieldAddr 23 (.tmp 3) 0, ty := 0, guard := (some (77, true)) },
  { dst := (some 86), op := .load 3 (.tmp 85), ty := 3, guard := (some (77, true)) },
  { dst := (some 87), op := .binOp .mul 3 (.tmp 84) (.tmp 86) 3, ty := 3, guard := (some (77, true)) },
  { dst := (some 88), op := .binOp .add 3 (.tmp 82) (.tmp 87) 3, ty := 3, guard := (some (77, true)) },
  { dst := (some 89), op := .fieldAddr 23 (.tmp 6) 1, ty := 0, guard := (some (77, true)) },
  { dst := (some 90), op := .load 3 (.tmp 89), ty := 3, guard := (some (77, true)) },
  { dst := (some 91), op := .binOp .add 3 (.tmp 88) (.tmp 90) 3, ty := 3, guard := (some (77, true)) },
  { dst := (some 92), op := .fieldAddr 23 (.tmp 2) 1, ty := 0, guard := (some (77, true)) },
  { dst := (some 93), op := .load 3 (.tmp 92), ty := 3, guard := (some (77, true)) },
  { dst := (some 94), op := .binOp .eql 3 (.tmp 91) (.tmp 93) 3, ty := 4, guard := (some (77, true)) },
  { dst := (some 95), op := .pick (.tmp 77) (.tmp 94) (.const (.bool false)), ty := 4, guard := none },
  { dst := (some 4), op := .assign (.tmp 95), ty := 4, guard := none }]
def c3_17 : AC := .region o3_17 []
theorem n3_17 : Run Cx 3 T ds ro (.code c3_17 :: k) H Q = RunOps Cx 3 T ds ro o3_17 k H Q := run_region
def c3_18 : AC := .ret
theorem n3_18 : Run Cx 3 T [] none (.code c3_18 :: k) H Q = RunRes Cx T H Q (resOf Cx 3) := run_ret
def c3_16 : AC := .seq c3_17 c3_18
theorem n3_16 : Run Cx 3 T ds ro (.code c3_16 :: k) H Q = Run Cx 3 T ds ro (.code c3_17 :: .code c3_18 :: k) H Q := run_seq
def c3_14 : AC := .seq c3_15 c3_16
theorem n3_14 : Run Cx 3 T ds ro (.code c3_14 :: k) H Q = Run Cx 3 T ds ro (.code c3_15 :: .code c3_16 :: k) H Q := run_seq
def c3_12 : AC := .seq c3_13 c3_14
theorem n3_12 : Run Cx 3 T ds ro (.code c3_12 :: k) H Q = Run Cx 3 T ds ro (.code c3_13 :: .code c3_14 :: k) H Q := run_seq
def c3_4 : AC := .seq c3_5 c3_12
theorem n3_4 : Run Cx 3 T ds ro (.code c3_4 :: k) H Q = Run Cx 3 T ds ro (.code c3_5 :: .code c3_12 :: k) H Q := run_seq
def c3_2 : AC := .seq c3_3 c3_4
theorem n3_2 : Run Cx 3 T ds ro (.code c3_2 :: k) H Q = Run Cx 3 T ds ro (.code c3_3 :: .code c3_4 :: k) H Q := run_seq
def c3_0 : AC := .seq c3_1 c3_2
theorem n3_0 : Run Cx 3 T ds ro (.code c3_0 :: k) H Q = Run Cx 3 T ds ro (.code c3_1 :: .code c3_2 :: k) H Q := run_seq
theorem body3 : bodyOf Cx 3 = some c3_0 := by kernel_rfl
theorem res3 : resOf Cx 3 = some [.tmp 4] := by kernel_rfl
theorem pure3 : Cx.pure 3 = true := by kernel_rfl
-- RULES 3: n3_0, n3_1, n3_2, n3_3, n3_4, n3_5, n3_6, n3_7, n3_8, n3_9, n3_10, n3_11, n3_12, n3_13, n3_14, n3_15, n3_16, n3_17, n3_18
def o4_1 : List AO := [{ dst := (some 3), op := .box 23 (.tmp 0), ty := 0, guard := none },
  { dst := (some 4), op := .box 23 (.tmp 1), ty := 0, guard := none },
  { dst := (some 5), op := .box 23 (.tmp 2), ty := 0, guard := none },
  { dst := (some 6), op := .assign (.const (.bool false)), ty := 4, guard := none }]
def c4_1 : AC := .region o4_1 []
theorem n4_1 : Run Cx 4 T ds ro (.code c4_1 :: k) H Q = RunOps Cx 4 T ds ro o4_1 k H Q := run_region
def o4_4 : List AO := [{ dst := (some 24), op := .call { callee := (.value (.func 10)), args := #[], argTypes := #[] }, ty := 4, guard := none },
  { dst := (some 25), op := .unOp .not 4 (.tmp 24), ty := 4, guard := none }]
def c4_4 : AC := .region o4_4 []
theorem n4_4 : Run Cx 4 T ds ro (.code c4_4 :: k) H Q = RunOps Cx 4 T ds ro o4_4 k H Q := run_region
def o4_7 : List AO := [{ dst := (some 6), op := .assign (.const (.bool false)), ty := 4, guard := none }]
def c4_7 : AC := .region o4_7 []
theorem n4_7 : Run Cx 4 T ds ro (.code c4_7 :: k) H Q = RunOps Cx 4 T ds ro o4_7 k H Q := run_region
def c4_8 : AC := .ret
theorem n4_8 : Run Cx 4 T [] none (.code c4_8 :: k) H Q = RunRes Cx T H Q (resOf Cx 4) := run_ret
def c4_6 : AC := .seq c4_7 c4_8
theorem n4_6 : Run Cx 4 T ds ro (.code c4_6 :: k) H Q = Run Cx 4 T ds ro (.code c4_7 :: .code c4_8 :: k) H Q := run_seq
def c4_9 : AC := .skip
theorem n4_9 : Run Cx 4 T ds ro (.code c4_9 :: k) H Q = Run Cx 4 T ds ro (k) H Q := run_skip
def c4_5 : AC := .cond (.tmp 25) c4_6 c4_9
theorem n4_5 : Run Cx 4 T ds ro (.code c4_5 :: k) H Q = RunCond Cx 4 T ds ro (.tmp 25) (ev T (.tmp 25)) c4_6 c4_9 k H Q := run_condC
def c4_3 : AC := .seq c4_4 c4_5
theorem n4_3 : Run Cx 4 T ds ro (.code c4_3 :: k) H Q = Run Cx 4 T ds ro (.code c4_4 :: .code c4_5 :: k) H Q := run_seq
def o4_11 : List AO := [{ dst := (some 27), op := .load 23 (.tmp 3), ty := 23, guard := none },
  { dst := (some 28), op := .load 23 (.tmp 4), ty := 23, guard := none },
  { dst := (some 29), op := .call { callee := (.value (.func 12)), args := #[(.tmp 27), (.tmp 28)], argTypes := #[23, 23] }, ty := 31, guard := none },
  { dst := (some 26), op := .move (.tmp 29), ty := 31, guard := none },
  { dst := (some 30), op := .extract (.tmp 26) 0, ty := 23, guard := none },
  { dst := (some 31), op := .extract (.tmp 26) 1, ty := 24, guard := none },
  { dst := (some 7), op := .alloc 23, ty := 0, guard := none },
  { dst := none, op := .store 23 (.tmp 7) (.tmp 30), ty := 0, guard := none },
  { dst := (some 8), op := .assign (.tmp 31), ty := 24, guard := none }]
def c4_11 : AC := .region o4_11 []
theorem n4_11 : Run Cx 4 T ds ro (.code c4_11 :: k) H Q = RunOps Cx 4 T ds ro o4_11 k H Q := run_region
def o4_14 : List AO := [{ dst := (some 32), op := .move (.tmp 8), ty := 24, guard := none },
  { dst := (some 33), op := .binOp .neq 24 (.tmp 32) (.const (.int .i64 0)) 24, ty := 4, guard := none }]
def c4_14 : AC := .region o4_14 []
theorem n4_14 : Run Cx 4 T ds ro (.code c4_14 :: k) H Q = RunOps Cx 4 T ds ro o4_14 k H Q := run_region
def o4_17 : List AO := [{ dst := (some 34), op := .load 23 (.tmp 7), ty := 23, guard := none },
  { dst := (some 35), op := .build 23 #[], ty := 23, guard := none },
  { dst := (some 36), op := .binOp .eql 23 (.tmp 34) (.tmp 35) 23, ty := 4, guard := none },
  { dst := (some 6), op := .assign (.tmp 36), ty := 4, guard := none }]
def c4_17 : AC := .region o4_17 []
theorem n4_17 : Run Cx 4 T ds ro (.code c4_17 :: k) H Q = RunOps Cx 4 T ds ro o4_17 k H Q := run_region
def c4_18 : AC := .ret
theorem n4_18 : Run Cx 4 T [] none (.code c4_18 :: k) H Q = RunRes Cx T H Q (resOf Cx 4) := run_ret
def c4_16 : AC := .seq c4_17 c4_18
theorem n4_16 : Run Cx 4 T ds ro (.code c4_16 :: k) H Q = Run Cx 4 T ds ro (.code c4_17 :: .code c4_18 :: k) H Q := run_seq
def c4_19 : AC := .skip
theorem n4_19 : Run Cx 4 T ds ro (.code c4_19 :: k) H Q = Run Cx 4 T ds ro (k) H Q := run_skip
def c4_15 : AC := .cond (.tmp 33) c4_16 c4_19
theorem n4_15 : Run Cx 4 T ds ro (.code c4_15 :: k) H Q = RunCond Cx 4 T ds ro (.tmp 33) (ev T (.tmp 33)) c4_16 c4_19 k H Q := run_condC
def c4_13 : AC := .seq c4_14 c4_15
theorem n4_13 : Run Cx 4 T ds ro (.code c4_13 :: k) H Q = Run Cx 4 T ds ro (.code c4_14 :: .code c4_15 :: k) H Q := run_seq
def o4_22 : List AO := [{ dst := (some 37), op := .load 23 (.tmp 7), ty := 23, guard := none },
  { dst := (some 38), op := .build 23 #[], ty := 23, guard := none },
  { dst := (some 39), op := .binOp .eql 23 (.tmp 37) (.tmp 38) 23, ty := 4, guard := none }]
def c4_22 : AC := .region o4_22 []
theorem n4_22 : Run Cx 4 T ds ro (.code c4_22 :: k) H Q = RunOps Cx 4 T ds ro o4_22 k H Q := run_region
def o4_25 : List AO := [{ dst := (some 40), op := .load 23 (.tmp 3), ty := 23, guard := none },
  { dst := (some 41), op := .load 23 (.tmp 7), ty := 23, guard := none },
  { dst := (some 42), op := .binOp .eql 23 (.tmp 40) (.tmp 41) 23, ty := 4, guard := none },
  { dst := (some 43), op := .move (.tmp 42), ty := 4, guard := none },
  { dst := (some 44), op := .load 23 (.tmp 4), ty := 23, guard := (some (43, true)) },
  { dst := (some 45), op := .load 23 (.tmp 7), ty := 23, guard := (some (43, true)) },
  { dst := (some 46), op := .binOp .eql 23 (.tmp 44) (.tmp 45) 23, ty := 4, guard := (some (43, true)) },
  { dst := (some 47), op := .pick (.tmp 43) (.tmp 46) (.const (.bool false)), ty := 4, guard := none },
  { dst := (some 6), op := .assign (.tmp 47), ty := 4, guard := none }]
def c4_25 : AC := .region o4_25 []
theorem n4_25 : Run Cx 4 T ds ro (.code c4_25 :: k) H Q = RunOps Cx 4 T ds ro o4_25 k H Q := run_region
def c4_26 : AC := .ret
theorem n4_26 : Run Cx 4 T [] none (.code c4_26 :: k) H Q = RunRes Cx T H Q (resOf Cx 4) := run_ret
def c4_24 : AC := .seq c4_25 c4_26
theorem n4_24 : Run Cx 4 T ds ro (.code c4_24 :: k) H Q = Run Cx 4 T ds ro (.code c4_25 :: .code c4_26 :: k) H Q := run_seq
def c4_27 : AC := .skip
theorem n4_27 : Run Cx 4 T ds ro (.code c4_27 :: k) H Q = Run Cx 4 T ds ro (k) H Q := run_skip
def c4_23 : AC := .cond (.tmp 39) c4_24 c4_27
theorem n4_23 : Run Cx 4 T ds ro (.code c4_23 :: k) H Q = RunCond Cx 4 T ds ro (.tmp 39) (ev T (.tmp 39)) c4_24 c4_27 k H Q := run_condC
def c4_21 : AC := .seq c4_22 c4_23
theorem n4_21 : Run Cx 4 T ds ro (.code c4_21 :: k) H Q = Run Cx 4 T ds ro (.code c4_22 :: .code c4_23 :: k) H Q := run_seq
def o4_29 : List AO := [{ dst := (some 49), op := .load 23 (.tmp 3), ty := 23, guard := none },
  { dst := (some 50), op := .load 23 (.tmp 7), ty := 23, guard := none },
  { dst := (some 51), op := .call { callee := (.value (.func 9)), args := #[(.tmp 49), (.tmp 50)], argTypes := #[23, 23] }, ty := 25, guard := none },
  { dst := (some 48), op := .move (.tmp 51), ty := 25, guard := none },
  { dst := (some 52), op := .extract (.tmp 48) 0, ty := 23, guard := none },
  { dst := (some 53), op := .extract (.tmp 48) 1, ty := 23, guard := none },
  { dst := (some 54), op := .extract (.tmp 48) 2, ty := 24, guard := none },
  { dst := (some 9), op := .alloc 23, ty := 0, guard := none },
  { dst := (some 10), op := .alloc 23, ty := 0, guard := none },
  { dst := none, op := .store 23 (.tmp 9) (.tmp 52), ty := 0, guard := none },
  { dst := none, op := .store 23 (.tmp 10) (.tmp 53), ty := 0, guard := none },
  { dst := (some 11), op := .assign (.tmp 54), ty := 24, guard := none }]
def c4_29 : AC := .region o4_29 []
theorem n4_29 : Run Cx 4 T ds ro (.code c4_29 :: k) H Q = RunOps Cx 4 T ds ro o4_29 k H Q := run_region
def o4_31 : List AO := [{ dst := (some 56), op := .load 23 (.tmp 4), ty := 23, guard := none },
  { dst := (some 57), op := .load 23 (.tmp 7), ty := 23, guard := none },
  { dst := (some 58), op := .call { callee := (.value (.func 9)), args := #[(.tmp 56), (.tmp 57)], argTypes := #[23, 23] }, ty := 25, guard := none },
  { dst := (some 55), op := .move (.tmp 58), ty := 25, guard := none },
  { dst := (some 59), op := .extract (.tmp 55) 0, ty := 23, guard := none },
  { dst := (some 60), op := .extract (.tmp 55) 1, ty := 23, guard := none },
  { dst := (some 61), op := .extract (.tmp 55) 2, ty := 24, guard := none },
  { dst := (some 12), op := .alloc 23, ty := 0, guard := none },
  { dst := (some 13), op := .alloc 23, ty := 0, guard := none },
  { dst := none, op := .store 23 (.tmp 12) (.tmp 59), ty := 0, guard := none },
  { dst := none, op := .store 23 (.tmp 13) (.tmp 60), ty := 0, guard := none },
  { dst := (some 14), op := .assign (.tmp 61), ty := 24, guard := none }]
def c4_31 : AC := .region o4_31 []
theorem n4_31 : Run Cx 4 T ds ro (.code c4_31 :: k) H Q = RunOps Cx 4 T ds ro o4_31 k H Q := run_region
def o4_34 : List AO := [{ dst := (some 62), op := .move (.tmp 11), ty := 24, guard := none },
  { dst := (some 63), op := .binOp .neq 24 (.tmp 62) (.const (.int .i64 0)) 24, ty := 4, guard := none },
  { dst := (some 64), op := .move (.tmp 63), ty := 4, guard := none },
  { dst := (some 65), op := .move (.tmp 14), ty := 24, guard := (some (64, false)) },
  { dst := (some 66), op := .binOp .neq 24 (.tmp 65) (.const (.int .i64 0)) 24, ty := 4, guard := (some (64, false)) },
  { dst := (some 67), op := .pick (.tmp 64) (.const (.bool true)) (.tmp 66), ty := 4, guard := none },
  { dst := (some 68), op := .move (.tmp 67), ty := 4, guard := none },
  { dst := (some 69), op := .load 23 (.tmp 10), ty := 23, guard := (some (68, false)) },
  { dst := (some 70), op := .build 23 #[], ty := 23, guard := (some (68, false)) },
  { dst := (some 71), op := .binOp .neq 23 (.tmp 69) (.tmp 70) 23, ty := 4, guard := (some (68, false)) },
  { dst := (some 72), op := .pick (.tmp 68) (.const (.bool true)) (.tmp 71), ty := 4, guard := none },
  { dst := (some 73), op := .move (.tmp 72), ty := 4, guard := none },
  { dst := (some 74), op := .load 23 (.tmp 13), ty := 23, guard := (some (73, false)) },
  { dst := (some 75), op := .load 23 (.tmp 10), ty := 23, guard := (some (73, false)) },
  { dst := (some 76), op := .binOp .neq 23 (.tmp 74) (.tmp 75) 23, ty := 4, guard := (some (73, false)) },
  { dst := (some 77), op := .pick (.tmp 73) (.const (.bool true)) (.tmp 76), ty := 4, guard := none },
  { dst := (some 78), op := .move (.tmp 77), ty := 4, guard := none },
  { dst := (some 79), op := .fieldAddr 23 (.tmp 7) 0, ty := 0, guard := (some (78, false)) },
  { dst := (some 80), op := .load 3 (.tmp 79), ty := 3, guard := (some (78, false)) },
  { dst := (some 81), op := .binOp .leq 3 (.tmp 80) (.const (.int .i64 0)) 3, ty := 4, guard := (some (78, false)) },
  { dst := (some 82), op := .pick (.tmp 78) (.const (.bool true)) (.tmp 81), ty := 4, guard := none },
  { dst := (some 83), op := .move (.tmp 82), ty := 4, guard := none },
  { dst := (some 84), op := .fieldAddr 23 (.tmp 7) 1, ty := 0, guard := (some (83, false)) },
  { dst := (some 85), op := .load 3 (.tmp 84), ty := 3, guard := (some (83, false)) },
  { dst := (some 86), op := .binOp .lss 3 (.tmp 85) (.const (.int .i64 0)) 3, ty := 4, guard := (some (83, false)) },
  { dst := (some 87), op := .pick (.tmp 83) (.const (.bool true)) (.tmp 86), ty := 4, guard := none }]
def c4_34 : AC := .region o4_34 []
theorem n4_34 : Run Cx 4 T ds ro (.code c4_34 :: k) H Q = RunOps Cx 4 T ds ro o4_34 k H Q := run_region
def o4_37 : List AO := [{ dst := (some 6), op := .assign (.const (.bool false)), ty := 4, guard := none }]
def c4_37 : AC := .region o4_37 []
theorem n4_37 : Run Cx 4 T ds ro (.code c4_37 :: k) H Q = RunOps Cx 4 T ds ro o4_37 k H Q := run_region
def c4_38 : AC := .ret
theorem n4_38 : Run Cx 4 T [] none (.code c4_38 :: k) H Q = RunRes Cx T H Q (resOf Cx 4) := run_ret
def c4_36 : AC := .seq c4_37 c4_38
theorem n4_36 : Run Cx 4 T ds ro (.code c4_36 :: k) H Q = Run Cx 4 T ds ro (.code c4_37 :: .code c4_38 :: k) H Q := run_seq
def c4_39 : AC := .skip
theorem n4_39 : Run Cx 4 T ds ro (.code c4_39 :: k) H Q = Run Cx 4 T ds ro (k) H Q := run_skip
def c4_35 : AC := .cond (.tmp 87) c4_36 c4_39
theorem n4_35 : Run Cx 4 T ds ro (.code c4_35 :: k) H Q = RunCond Cx 4 T ds ro (.tmp 87) (ev T (.tmp 87)) c4_36 c4_39 k H Q := run_condC
def c4_33 : AC := .seq c4_34 c4_35
theorem n4_33 : Run Cx 4 T ds ro (.code c4_33 :: k) H Q = Run Cx 4 T ds ro (.code c4_34 :: .code c4_35 :: k) H Q := run_seq
def o4_41 : List AO := [{ dst := (some 89), op := .load 23 (.tmp 3), ty := 23, guard := none },
  { dst := (some 90), op := .load 23 (.tmp 5), ty := 23, guard := none },
  { dst := (some 91), op := .call { callee := (.value (.func 9)), args := #[(.tmp 89), (.tmp 90)], argTypes := #[23, 23] }, ty := 25, guard := none },
  { dst := (some 88), op := .move (.tmp 91), ty := 25, guard := none },
  { dst := (some 92), op := .extract (.tmp 88) 0, ty := 23, guard := none },
  { dst := (some 93), op := .extract (.tmp 88) 1, ty := 23, guard := none },
  { dst := (some 94), op := .extract (.tmp 88) 2, ty := 24, guard := none },
  { dst := (some 15), op := .alloc 23, ty := 0, guard := none },
  { dst := (some 16), op := .alloc 23, ty := 0, guard := none },
  { dst := none, op := .store 23 (.tmp 15) (.tmp 92), ty := 0, guard := none },
  { dst := none, op := .store 23 (.tmp 16) (.tmp 93), ty := 0, guard := none },
  { dst := (some 17), op := .assign (.tmp 94), ty := 24, guard := none }]
def c4_41 : AC := .region o4_41 []
theorem n4_41 : Run Cx 4 T ds ro (.code c4_41 :: k) H Q = RunOps Cx 4 T ds ro o4_41 k H Q := run_region
def o4_43 : List AO := [{ dst := (some 96), op := .load 23 (.tmp 4), ty := 23, guard := none },
  { dst := (some 97), op := .load 23 (.tmp 5), ty := 23, guard := none },
  { dst := (some 98), op := .call { callee := (.value (.func 9)), args := #[(.tmp 96), (.tmp 97)], argTypes := #[23, 23] }, ty := 25, guard := none },
  { dst := (some 95), op := .move (.tmp 98), ty := 25, guard := none },
  { dst := (some 99), op := .extract (.tmp 95) 0, ty := 23, guard := none },
  { dst := (some 100), op := .extract (.tmp 95) 1, ty := 23, guard := none },
  { dst := (some 101), op := .extract (.tmp 95) 2, ty := 24, guard := none },
  { dst := (some 18), op := .alloc 23, ty := 0, guard := none },
  { dst := (some 19), op := .alloc 23, ty := 0, guard := none },
  { dst := none, op := .store 23 (.tmp 18) (.tmp 99), ty := 0, guard := none },
  { dst := none, op := .store 23 (.tmp 19) (.tmp 100), ty := 0, guard := none },
  { dst := (some 20), op := .assign (.tmp 101), ty := 24, guard := none }]
def c4_43 : AC := .region o4_43 []
theorem n4_43 : Run Cx 4 T ds ro (.code c4_43 :: k) H Q = RunOps Cx 4 T ds ro o4_43 k H Q := run_region
def o4_46 : List AO := [{ dst := (some 102), op := .move (.tmp 17), ty := 24, guard := none },
  { dst := (some 103), op := .binOp .neq 24 (.tmp 102) (.const (.int .i64 0)) 24, ty := 4, guard := none },
  { dst := (some 104), op := .move (.tmp 103), ty := 4, guard := none },
  { dst := (some 105), op := .move (.tmp 20), ty := 24, guard := (some (104, false)) },
  { dst := (some 106), op := .binOp .neq 24 (.tmp 105) (.const (.int .i64 0)) 24, ty := 4, guard := (some (104, false)) },
  { dst := (some 107), op := .pick (.tmp 104) (.const (.bool true)) (.tmp 106), ty := 4, guard := none },
  { dst := (some 108), op := .move (.tmp 107), ty := 4, guard := none },
  { dst := (some 109), op := .load 23 (.tmp 16), ty := 23, guard := (some (108, false)) },
  { dst := (some 110), op := .build 23 #[], ty := 23, guard := (some (108, false)) },
  { dst := (some 111), op := .binOp .neq 23 (.tmp 109) (.tmp 110) 23, ty := 4, guard := (some (108, false)) },
  { dst := (some 112), op := .pick (.tmp 108) (.const (.bool true)) (.tmp 111), ty := 4, guard := none },
  { dst := (some 113), op := .move (.tmp 112), ty := 4, guard := none },
  { dst := (some 114), op := .load 23 (.tmp 19), ty := 23, guard := (some (113, false)) },
  { dst := (some 115), op := .load 23 (.tmp 16), ty := 23, guard := (some (113, false)) },
  { dst := (some 116), op := .binOp .neq 23 (.tmp 114) (.tmp 115) 23, ty := 4, guard := (some (113, false)) },
  { dst := (some 117), op := .pick (.tmp 113) (.const (.bool true)) (.tmp 116), ty := 4, guard := none }]
def c4_46 : AC := .region o4_46 []
theorem n4_46 : Run Cx 4 T ds ro (.code c4_46 :: k) H Q = RunOps Cx 4 T ds ro o4_46 k H Q := run_region
def o4_49 : List AO := [{ dst := (some 6), op := .assign (.const (.bool true)), ty := 4, guard := none }]
def c4_49 : AC := .region o4_49 []
theorem n4_49 : Run Cx 4 T ds ro (.code c4_49 :: k) H Q = RunOps Cx 4 T ds ro o4_49 k H Q := run_region
def c4_50 : AC := .ret
theorem n4_50 : Run Cx 4 T [] none (.code c4_50 :: k) H Q = RunRes Cx T H Q (resOf Cx 4) := run_ret
def c4_48 : AC := .seq c4_49 c4_50
theorem n4_48 : Run Cx 4 T ds ro (.code c4_48 :: k) H Q = Run Cx 4 T ds ro (.code c4_49 :: .code c4_50 :: k) H Q := run_seq
def c4_51 : AC := .skip
theorem n4_51 : Run Cx 4 T ds ro (.code c4_51 :: k) H Q = Run Cx 4 T ds ro (k) H Q := run_skip
def c4_47 : AC := .cond (.tmp 117) c4_48 c4_51
theorem n4_47 : Run Cx 4 T ds ro (.code c4_47 :: k) H Q = RunCond Cx 4 T ds ro (.tmp 117) (ev T (.tmp 117)) c4_48 c4_51 k H Q := run_condC
def c4_45 : AC := .seq c4_46 c4_47
theorem n4_45 : Run Cx 4 T ds ro (.code c4_45 :: k) H Q = Run Cx 4 T ds ro (.code c4_46 :: .code c4_47 :: k) H Q := run_seq
def o4_53 : List AO := [{ dst := (some 119), op := .load 23 (.tmp 7), ty := 23, guard := none },
  { dst := (some 120), op := .load 23 (.tmp 5), ty := 23, guard := none },
  { dst := (some 121), op := .call { callee := (.value (.func 9)), args := #[(.tmp 119), (.tmp 120)], argTypes := #[23, 23] }, ty := 25, guard := none },
  { dst := (some 118), op := .move (.tmp 121), ty := 25, guard := none },
  { dst := (some 122), op := .extract (.tmp 118) 0, ty := 23, guard := none },
  { dst := (some 123), op := .extract (.tmp 118) 1, ty := 23, guard := none },
  { dst := (some 124), op := .extract (.tmp 118) 2, ty := 24, guard := none },
  { dst := (some 21), op := .alloc 23, ty := 0, guard := none },
  { dst := (some 22), op := .alloc 23, ty := 0, guard := none },
  { dst := none, op := .store 23 (.tmp 21) (.tmp 122), ty := 0, guard := none },
  { dst := none, op := .store 23 (.tmp 22) (.tmp 123), ty := 0, guard := none },
  { dst := (some 23), op := .assign (.tmp 124), ty := 24, guard := none }]
def c4_53 : AC := .region o4_53 []
theorem n4_53 : Run Cx 4 T ds ro (.code c4_53 :: k) H Q = RunOps Cx 4 T ds ro o4_53 k H Q := run_region
def o4_55 : List AO := [{ dst := (some 125), op := .move (.tmp 23), ty := 24, guard := none },
  { dst := (some 126), op := .binOp .eql 24 (.tmp 125) (.const (.int .i64 0)) 24, ty := 4, guard := none },
  { dst := (some 127), op := .move (.tmp 126), ty := 4, guard := none },
  { dst := (some 128), op := .load 23 (.tmp 22), ty := 23, guard := (some (127, true)) },
  { dst := (some 129), op := .build 23 #[], ty := 23, guard := (some (127, true)) },
  { dst := (some 130), op := .binOp .eql 23 (.tmp 128) (.tmp 129) 23, ty := 4, guard := (some (127, true)) },
  { dst := (some 131), op := .pick (.tmp 127) (.tmp 130) (.const (.bool false)), ty := 4, guard := none },
  { dst := (some 6), op := .assign (.tmp 131), ty := 4, guard := none }]
def c4_55 : AC := .region o4_55 []
theorem n4_55 : Run Cx 4 T ds ro (.code c4_55 :: k) H Q = RunOps Cx 4 T ds ro o4_55 k H Q := run_region
def c4_56 : AC := .ret
theorem n4_56 : Run Cx 4 T [] none (.code c4_56 :: k) H Q = RunRes Cx T H Q (resOf Cx 4) := run_ret
def c4_54 : AC := .seq c4_55 c4_56
theorem n4_54 : Run Cx 4 T ds ro (.code c4_54 :: k) H Q = Run Cx 4 T ds ro (.code c4_55 :: .code c4_56 :: k) H Q := run_seq
def c4_52 : AC := .seq c4_53 c4_54
theorem n4_52 : Run Cx 4 T ds ro (.code c4_52 :: k) H Q = Run Cx 4 T ds ro (.code c4_53 :: .code c4_54 :: k) H Q := run_seq
def c4_44 : AC := .seq c4_45 c4_52
theorem n4_44 : Run Cx 4 T ds ro (.code c4_44 :: k) H Q = Run Cx 4 T ds ro (.code c4_45 :: .code c4_52 :: k) H Q := run_seq
def c4_42 : AC := .seq c4_43 c4_44
theorem n4_42 : Run Cx 4 T ds ro (.code c4_42 :: k) H Q = Run Cx 4 T ds ro (.code c4_43 :: .code c4_44 :: k) H Q := run_seq
def c4_40 : AC := .seq c4_41 c4_42
theorem n4_40 : Run Cx 4 T ds ro (.code c4_40 :: k) H Q = Run Cx 4 T ds ro (.code c4_41 :: .code c4_42 :: k) H Q := run_seq
def c4_32 : AC := .seq c4_33 c4_40
theorem n4_32 : Run Cx 4 T ds ro (.code c4_32 :: k) H Q = Run Cx 4 T ds ro (.code c4_33 :: .code c4_40 :: k) H Q := run_seq
def c4_30 : AC := .seq c4_31 c4_32
theorem n4_30 : Run Cx 4 T ds ro (.code c4_30 :: k) H Q = Run Cx 4 T ds ro (.code c4_31 :: .code c4_32 :: k) H Q := run_seq
def c4_28 : AC := .seq c4_29 c4_30
theorem n4_28 : Run Cx 4 T ds ro (.code c4_28 :: k) H Q = Run Cx 4 T ds ro (.code c4_29 :: .code c4_30 :: k) H Q := run_seq
def c4_20 : AC := .seq c4_21 c4_28
theorem n4_20 : Run Cx 4 T ds ro (.code c4_20 :: k) H Q = Run Cx 4 T ds ro (.code c4_21 :: .code c4_28 :: k) H Q := run_seq
def c4_12 : AC := .seq c4_13 c4_20
theorem n4_12 : Run Cx 4 T ds ro (.code c4_12 :: k) H Q = Run Cx 4 T ds ro (.code c4_13 :: .code c4_20 :: k) H Q := run_seq
def c4_10 : AC := .seq c4_11 c4_12
theorem n4_10 : Run Cx 4 T ds ro (.code c4_10 :: k) H Q = Run Cx 4 T ds ro (.code c4_11 :: .code c4_12 :: k) H Q := run_seq
def c4_2 : AC := .seq c4_3 c4_10
theorem n4_2 : Run Cx 4 T ds ro (.code c4_2 :: k) H Q = Run Cx 4 T ds ro (.code c4_3 :: .code c4_10 :: k) H Q := run_seq
def c4_0 : AC := .seq c4_1 c4_2
theorem n4_0 : Run Cx 4 T ds ro (.code c4_0 :: k) H Q = Run Cx 4 T ds ro (.code c4_1 :: .code c4_2 :: k) H Q := run_seq
theorem body4 : bodyOf Cx 4 = some c4_0 := by kernel_rfl
theorem res4 : resOf Cx 4 = some [.tmp 6] := by kernel_rfl
theorem pure4 : Cx.pure 4 = true := by kernel_rfl
-- RULES 4: n4_0, n4_1, n4_2, n4_3, n4_4, n4_5, n4_6, n4_7, n4_8, n4_9, n4_10, n4_11, n4_12, n4_13, n4_14, n4_15, n4_16, n4_17, n4_18, n4_19, n4_20, n4_21, n4_22, n4_23, n4_24, n4_25, n4_26, n4_27, n4_28, n4_29, n4_30, n4_31, n4_32, n4_33, n4_34, n4_35, n4_36, n4_37, n4_38, n4_39, n4_40, n4_41, n4_42, n4_43, n4_44, n4_45, n4_46, n4_47, n4_48, n4_49, n4_50, n4_51, n4_52, n4_53, n4_54, n4_55, n4_56
def o5_1 : List AO := [{ dst := (some 2), op := .box 23 (.tmp 0), ty := 0, guard := none },
  { dst := (some 3), op := .box 23 (.tmp 1), ty := 0, guard := none },
  { dst := (some 4), op := .assign (.const (.bool false)), ty := 4, guard := none }]
def c5_1 : AC := .region o5_1 []
theorem n5_1 : Run Cx 5 T ds ro (.code c5_1 :: k) H Q = RunOps Cx 5 T ds ro o5_1 k H Q := run_region
def o5_4 : List AO := [{ dst := (some 12), op := .call { callee := (.value (.func 10)), args := #[], argTypes := #[] }, ty := 4, guard := none },
  { dst := (some 13), op := .unOp .not 4 (.tmp 12), ty := 4, guard := none }]
def c5_4 : AC := .region o5_4 []
theorem n5_4 : Run Cx 5 T ds ro (.code c5_4 :: k) H Q = RunOps Cx 5 T ds ro o5_4 k H Q := run_region
def o5_7 : List AO := [{ dst := (some 4), op := .assign (.const (.bool false)), ty := 4, guard := none }]
def c5_7 : AC := .region o5_7 []
theorem n5_7 : Run Cx 5 T ds ro (.code c5_7 :: k) H Q = RunOps Cx 5 T ds ro o5_7 k H Q := run_region
def c5_8 : AC := .ret
theorem n5_8 : Run Cx 5 T [] none (.code c5_8 :: k) H Q = RunRes Cx T H Q (resOf Cx 5) := run_ret
def c5_6 : AC := .seq c5_7 c5_8
theorem n5_6 : Run Cx 5 T ds ro (.code c5_6 :: k) H Q = Run Cx 5 T ds ro (.code c5_7 :: .code c5_8 :: k) H Q := run_seq
def c5_9 : AC := .skip
theorem n5_9 : Run Cx 5 T ds ro (.code c5_9 :: k) H Q = Run Cx 5 T ds ro (k) H Q := run_skip
def c5_5 : AC := .cond (.tmp 13) c5_6 c5_9
theorem n5_5 : Run Cx 5 T ds ro (.code c5_5 :: k) H Q = RunCond Cx 5 T ds ro (.tmp 13) (ev T (.tmp 13)) c5_6 c5_9 k H Q := run_condC
def c5_3 : AC := .seq c5_4 c5_5
theorem n5_3 : Run Cx 5 T ds ro (.code c5_3 :: k) H Q = Run Cx 5 T ds ro (.code c5_4 :: .code c5_5 :: k) H Q := run_seq
def o5_11 : List AO := [{ dst := (some 15), op := .load 23 (.tmp 2), ty := 23, guard := none },
  { dst := (some 16), op := .load 23 (.tmp 3), ty := 23, guard := none },
  { dst := (some 17), op := .call { callee := (.value (.func 9)), args := #[(.tmp 15), (.tmp 16)], argTypes := #[23, 23] }, ty := 25, guard := none },
  { dst := (some 14), op := .move (.tmp 17), ty := 25, guard := none },
  { dst := (some 18), op := .extract (.tmp 14) 0, ty := 23, guard := none },
  { dst := (some 19), op := .extract (.tmp 14) 1, ty := 23, guard := none },
  { dst := (some 20), op := .extract (.tmp 14) 2, ty := 24, guard := none },
  { dst := (some 5), op := .alloc 23, ty := 0, guard := none },
  { dst := (some 6), op := .alloc 23, ty := 0, guard := none },
  { dst := none, op := .store 23 (.tmp 5) (.tmp 18), ty := 0, guard := none },
  { dst := none, op := .store 23 (.tmp 6) (.tmp 19), ty := 0, guard := none },
  { dst := (some 7), op := .assign (.tmp 20), ty := 24, guard := none }]
def c5_11 : AC := .region o5_11 []
theorem n5_11 : Run Cx 5 T ds ro (.code c5_11 :: k) H Q = RunOps Cx 5 T ds ro o5_11 k H Q := run_region
def o5_13 : List AO := [{ dst := (some 22), op := .load 23 (.tmp 2), ty := 23, guard := none },
  { dst := (some 23), op := .load 23 (.tmp 3), ty := 23, guard := none },
  { dst := (some 24), op := .call { callee := (.value (.func 12)), args := #[(.tmp 22), (.tmp 23)], argTypes := #[23, 23] }, ty := 31, guard := none },
  { dst := (some 21), op := .move (.tmp 24), ty := 31, guard := none },
  { dst := (some 25), op := .extract (.tmp 21) 0, ty := 23, guard := none },
  { dst := (some 26), op := .extract (.tmp 21) 1, ty := 24, guard := none },
  { dst := (some 8), op := .alloc 23, ty := 0, guard := none },
  { dst := none, op := .store 23 (.tmp 8) (.tmp 25), ty := 0, guard := none },
  { dst := (some 9), op := .assign (.tmp 26), ty := 24, guard := none }]
def c5_13 : AC := .region o5_13 []
theorem n5_13 : Run Cx 5 T ds ro (.code c5_13 :: k) H Q = RunOps Cx 5 T ds ro o5_13 k H Q := run_region
def o5_16 : List AO := [{ dst := (some 27), op := .load 23 (.tmp 2), ty := 23, guard := none },
  { dst := (some 28), op := .call { callee := (.value (.func 13)), args := #[(.tmp 27)], argTypes := #[23] }, ty := 4, guard := none },
  { dst := (some 29), op := .unOp .not 4 (.tmp 28), ty := 4, guard := none },
  { dst := (some 30), op := .move (.tmp 29), ty := 4, guard := none },
  { dst := (some 31), op := .load 23 (.tmp 3), ty := 23, guard := (some (30, false)) },
  { dst := (some 32), op := .call { callee := (.value (.func 13)), args := #[(.tmp 31)], argTypes := #[23] }, ty := 4, guard := (some (30, false)) },
  { dst := (some 33), op := .unOp .not 4 (.tmp 32), ty := 4, guard := (some (30, false)) },
  { dst := (some 34), op := .pick (.tmp 30) (.const (.bool true)) (.tmp 33), ty := 4, guard := none }]
def c5_16 : AC := .region o5_16 []
theorem n5_16 : Run Cx 5 T ds ro (.code c5_16 :: k) H Q = RunOps Cx 5 T ds ro o5_16 k H Q := run_region
def o5_19 : List AO := [{ dst := (some 35), op := .move (.tmp 7), ty := 24, guard := none },
  { dst := (some 36), op := .binOp .eql 24 (.tmp 35) (.const (.int .i64 14)) 24, ty := 4, guard := none },
  { dst := (some 37), op := .move (.tmp 36), ty := 4, guard := none },
  { dst := (some 38), op := .move (.tmp 9), ty := 24, guard := (some (37, true)) },
  { dst := (some 39), op := .move (.tmp 7), ty := 24, guard := (some (37, true)) },
  { dst := (some 40), op := .binOp .eql 24 (.tmp 38) (.tmp 39) 24, ty := 4, guard := (some (37, true)) },
  { dst := (some 41), op := .pick (.tmp 37) (.tmp 40) (.const (.bool false)), ty := 4, guard := none },
  { dst := (some 4), op := .assign (.tmp 41), ty := 4, guard := none }]
def c5_19 : AC := .region o5_19 []
theorem n5_19 : Run Cx 5 T ds ro (.code c5_19 :: k) H Q = RunOps Cx 5 T ds ro o5_19 k H Q := run_region
def c5_20 : AC := .ret
theorem n5_20 : Run Cx 5 T [] none (.code c5_20 :: k) H Q = RunRes Cx T H Q (resOf Cx 5) := run_ret
def c5_18 : AC := .seq c5_19 c5_20
theorem n5_18 : Run Cx 5 T ds ro (.code c5_18 :: k) H Q = Run Cx 5 T ds ro (.code c5_19 :: .code c5_20 :: k) H Q := run_seq
def c5_21 : AC := .skip
theorem n5_21 : Run Cx 5 T ds ro (.code c5_21 :: k) H Q = Run Cx 5 T ds ro (k) H Q := run_skip
def c5_17 : AC := .cond (.tmp 34) c5_18 c5_21
theorem n5_17 : Run Cx 5 T ds ro (.code c5_17 :: k) H Q = RunCond Cx 5 T ds ro (.tmp 34) (ev T (.tmp 34)) c5_18 c5_21 k H Q := run_condC
def c5_15 : AC := .seq c5_16 c5_17
theorem n5_15 : Run Cx 5 T ds ro (.code c5_15 :: k) H Q = Run Cx 5 T ds ro (.code c5_16 :: .code c5_17 :: k) H Q := run_seq
def o5_24 : List AO := [{ dst := (some 42), op := .move (.tmp 9), ty := 24, guard := none },
  { dst := (some 43), op := .binOp .neq 24 (.tmp 42) (.const (.int .i64 0)) 24, ty := 4, guard := none },
  { dst := (some 44), op := .move (.tmp 43), ty := 4, guard := none },
  { dst := (some 45), op := .load 23 (.tmp 8), ty := 23, guard := (some (44, false)) },
  { dst := (some 46), op := .load 23 (.tmp 2), ty := 23, guard := (some (44, false)) },
  { dst := (some 47), op := .load 23 (.tmp 3), ty := 23, guard := (some (44, false)) },
  { dst := (some 48), op := .call { callee := (.value (.func 14)), args := #[(.tmp 46), (.tmp 47)], argTypes := #[23, 23] }, ty := 23, guard := (some (44, false)) },
  { dst := (some 49), op := .binOp .neq 23 (.tmp 45) (.tmp 48) 23, ty := 4, guard := (some (44, false)) },
  { dst := (some 50), op := .pick (.tmp 44) (.const (.bool true)) (.tmp 49), ty := 4, guard := none }]
def c5_24 : AC := .region o5_24 []
theorem n5_24 : Run Cx 5 T ds ro (.code c5_24 :: k) H Q = RunOps Cx 5 T ds ro o5_24 k H Q := run_region
def o5_27 : List AO := [{ dst := (some 4), op := .assign (.const (.bool false)), ty := 4, guard := none }]
def c5_27 : AC := .region o5_27 []
theorem n5_27 : Run Cx 5 T ds ro (.code c5_27 :: k) H Q = RunOps Cx 5 T ds ro o5_27 k H Q := run_region
def c5_28 : AC := .ret
theorem n5_28 : Run Cx 5 T [] none (.code c5_28 :: k) H Q = RunRes Cx T H Q (resOf Cx 5) := run_ret
def c5_26 : AC := .seq c5_27 c5_28
theorem n5_26 : Run Cx 5 T ds ro (.code c5_26 :: k) H Q = Run Cx 5 T ds ro (.code c5_27 :: .code c5_28 :: k) H Q := run_seq
def c5_29 : AC := .skip
theorem n5_29 : Run Cx 5 T ds ro (.code c5_29 :: k) H Q = Run Cx 5 T ds ro (k) H Q := run_skip
def c5_25 : AC := .cond (.tmp 50) c5_26 c5_29
theorem n5_25 : Run Cx 5 T ds ro (.code c5_25 :: k) H Q = RunCond Cx 5 T ds ro (.tmp 50) (ev T (.tmp 50)) c5_26 c5_29 k H Q := run_condC
def c5_23 : AC := .seq c5_24 c5_25
theorem n5_23 : Run Cx 5 T ds ro (.code c5_23 :: k) H Q = Run Cx 5 T ds ro (.code c5_24 :: .code c5_25 :: k) H Q := run_seq
def o5_32 : List AO := [{ dst := (some 51), op := .load 23 (.tmp 3), ty := 23, guard := none },
  { dst := (some 52), op := .build 23 #[], ty := 23, guard := none },
  { dst := (some 53), op := .binOp .eql 23 (.tmp 51) (.tmp 52) 23, ty := 4, guard := none }]
def c5_32 : AC := .region o5_32 []
theorem n5_32 : Run Cx 5 T ds ro (.code c5_32 :: k) H Q = RunOps Cx 5 T ds ro o5_32 k H Q := run_region
def o5_35 : List AO := [{ dst := (some 54), op := .move (.tmp 7), ty := 24, guard := none },
  { dst := (some 55), op := .binOp .eql 24 (.tmp 54) (.const (.int .i64 16)) 24, ty := 4, guard := none },
  { dst := (some 4), op := .assign (.tmp 55), ty := 4, guard := none }]
def c5_35 : AC := .region o5_35 []
theorem n5_35 : Run Cx 5 T ds ro (.code c5_35 :: k) H Q = RunOps Cx 5 T ds ro o5_35 k H Q := run_region
def c5_36 : AC := .ret
theorem n5_36 : Run Cx 5 T [] none (.code c5_36 :: k) H Q = RunRes Cx T H Q (resOf Cx 5) := run_ret
def c5_34 : AC := .seq c5_35 c5_36
theorem n5_34 : Run Cx 5 T ds ro (.code c5_34 :: k) H Q = Run Cx 5 T ds ro (.code c5_35 :: .code c5_36 :: k) H Q := run_seq
def c5_37 : AC := .skip
theorem n5_37 : Run Cx 5 T ds ro (.code c5_37 :: k) H Q = Run Cx 5 T ds ro (k) H Q := run_skip
def c5_33 : AC := .cond (.tmp 53) c5_34 c5_37
theorem n5_33 : Run Cx 5 T ds ro (.code c5_33 :: k) H Q = RunCond Cx 5 T ds ro (.tmp 53) (ev T (.tmp 53)) c5_34 c5_37 k H Q := run_condC
def c5_31 : AC := .seq c5_32 c5_33
theorem n5_31 : Run Cx 5 T ds ro (.code c5_31 :: k) H Q = Run Cx 5 T ds ro (.code c5_32 :: .code c5_33 :: k) H Q := run_seq
def o5_39 : List AO := [{ dst := (some 57), op := .load 23 (.tmp 2), ty := 23, guard := none },
  { dst := (some 58), op := .load 23 (.tmp 3), ty := 23, guard := none },
  { dst := (some 59), op := .call { callee := (.value (.func 15)), args := #[(.tmp 57), (.tmp 58)], argTypes := #[23, 23] }, ty := 36, guard := none },
  { dst := (some 56), op := .move (.tmp 59), ty := 36, guard := none },
  { dst := (some 60), op := .extract (.tmp 56) 0, ty := 23, guard := none },
  { dst := (some 61), op := .extract (.tmp 56) 1, ty := 23, guard := none },
  { dst := (some 10), op := .alloc 23, ty := 0, guard := none },
  { dst := (some 11), op := .alloc 23, ty := 0, guard := none },
  { dst := none, op := .store 23 (.tmp 10) (.tmp 60), ty := 0, guard := none },
  { dst := none, op := .store 23 (.tmp 11) (.tmp 61), ty := 0, guard := none }]
def c5_39 : AC := .region o5_39 []
theorem n5_39 : Run Cx 5 T ds ro (.code c5_39 :: k) H Q = RunOps Cx 5 T ds ro o5_39 k H Q := run_region
def o5_42 : List AO := [{ dst := (some 62), op := .load 23 (.tmp 10), ty := 23, guard := none },
  { dst := (some 63), op := .call { callee := (.value (.func 13)), args := #[(.tmp 62)], argTypes := #[23] }, ty := 4, guard := none },
  { dst := (some 64), op := .unOp .not 4 (.tmp 63), ty := 4, guard := none },
  { dst := (some 65), op := .move (.tmp 64), ty := 4, guard := none },
  { dst := (some 66), op := .load 23 (.tmp 11), ty := 23, guard := (some (65, false)) },
  { dst := (some 67), op := .call { callee := (.value (.func 13)), args := #[(.tmp 66)], argTypes := #[23] }, ty := 4, guard := (some (65, false)) },
  { dst := (some 68), op := .unOp .not 4 (.tmp 67), ty := 4, guard := (some (65, false)) },
  { dst := (some 69), op := .pick (.tmp 65) (.const (.bool true)) (.tmp 68), ty := 4, guard := none }]
def c5_42 : AC := .region o5_42 []
theorem n5_42 : Run Cx 5 T ds ro (.code c5_42 :: k) H Q = RunOps Cx 5 T ds ro o5_42 k H Q := run_region
def o5_45 : List AO := [{ dst := (some 70), op := .move (.tmp 7), ty := 24, guard := none },
  { dst := (some 71), op := .binOp .eql 24 (.tmp 70) (.const (.int .i64 14)) 24, ty := 4, guard := none },
  { dst := (some 4), op := .assign (.tmp 71), ty := 4, guard := none }]
def c5_45 : AC := .region o5_45 []
theorem n5_45 : Run Cx 5 T ds ro (.code c5_45 :: k) H Q = RunOps Cx 5 T ds ro o5_45 k H Q := run_region
def c5_46 : AC := .ret
theorem n5_46 : Run Cx 5 T [] none (.code c5_46 :: k) H Q = RunRes Cx T H Q (resOf Cx 5) := run_ret
def c5_44 : AC := .seq c5_45 c5_46
theorem n5_44 : Run Cx 5 T ds ro (.code c5_44 :: k) H Q = Run Cx 5 T ds ro (.code c5_45 :: .code c5_46 :: k) H Q := run_seq
def c5_47 : AC := .skip
theorem n5_47 : Run Cx 5 T ds ro (.code c5_47 :: k) H Q = Run Cx 5 T ds ro (k) H Q := run_skip
def c5_43 : AC := .cond (.tmp 69) c5_44 c5_47
theorem n5_43 : Run Cx 5 T ds ro (.code c5_43 :: k) H Q = RunCond Cx 5 T ds ro (.tmp 69) (ev T (.tmp 69)) c5_44 c5_47 k H Q := run_condC
def c5_41 : AC := .seq c5_42 c5_43
theorem n5_41 : Run Cx 5 T ds ro (.code c5_41 :: k) H Q = Run Cx 5 T ds ro (.code c5_42 :: .code c5_43 :: k) H Q := run_seq
def o5_49 : List AO := [{ dst := (some 72), op := .move (.tmp 7), ty := 24, guard := none },
  { dst := (some 73), op := .binOp .eql 24 (.tmp 72) (.const (.int .i64 0)) 24, ty := 4, guard := none },
  { dst := (some 74), op := .move (.tmp 73), ty := 4, guard := none },
  { dst := (some 75), op := .load 23 (.tmp 5), ty := 23, guard := (some (74, true)) },
  { dst := (some 76), op := .load 23 (.tmp 10), ty := 23, guard := (some (74, true)) },
  { dst := (some 77), op := .binOp .eql 23 (.tmp 75) (.tmp 76) 23, ty := 4, guard := (some (74, true)) },
  { dst := (some 78), op := .pick (.tmp 74) (.tmp 77) (.const (.bool false)), ty := 4, guard := none },
  { dst := (some 79), op := .move (.tmp 78), ty := 4, guard := none },
  { dst := (some 80), op := .load 23 (.tmp 6), ty := 23, guard := (some (79, true)) },
  { dst := (some 81), op := .load 23 (.tmp 11), ty := 23, guard := (some (79, true)) },
  { dst := (some 82), op := .binOp .eql 23 (.tmp 80) (.tmp 81) 23, ty := 4, guard := (some (79, true)) },
  { dst := (some 83), op := .pick (.tmp 79) (.tmp 82) (.const (.bool false)), ty := 4, guard := none },
  { dst := (some 4), op := .assign (.tmp 83), ty := 4, guard := none }]
def c5_49 : AC := .region o5_49 []
theorem n5_49 : Run Cx 5 T ds ro (.code c5_49 :: k) H Q = RunOps Cx 5 T ds ro o5_49 k H Q := run_region
def c5_50 : AC := .ret
theorem n5_50 : Run Cx 5 T [] none (.code c5_50 :: k) H Q = RunRes Cx T H Q (resOf Cx 5) := run_ret
def c5_48 : AC := .seq c5_49 c5_50
theorem n5_48 : Run Cx 5 T ds ro (.code c5_48 :: k) H Q = Run Cx 5 T ds ro (.code c5_49 :: .code c5_50 :: k) H Q := run_seq
def c5_40 : AC := .seq c5_41 c5_48
theorem n5_40 : Run Cx 5 T ds ro (.code c5_40 :: k) H Q = Run Cx 5 T ds ro (.code c5_41 :: .code c5_48 :: k) H Q := run_seq
def c5_38 : AC := .seq c5_39 c5_40
theorem n5_38 : Run Cx 5 T ds ro (.code c5_38 :: k) H Q = Run Cx 5 T ds ro (.code c5_39 :: .code c5_40 :: k) H Q := run_seq
def c5_30 : AC := .seq c5_31 c5_38
theorem n5_30 : Run Cx 5 T ds ro (.code c5_30 :: k) H Q = Run Cx 5 T ds ro (.code c5_31 :: .code c5_38 :: k) H Q := run_seq
def c5_22 : AC := .seq c5_23 c5_30
theorem n5_22 : Run Cx 5 T ds ro (.code c5_22 :: k) H Q = Run Cx 5 T ds ro (.code c5_23 :: .code c5_30 :: k) H Q := run_seq
def c5_14 : AC := .seq c5_15 c5_22
theorem n5_14 : Run Cx 5 T ds ro (.code c5_14 :: k) H Q = Run Cx 5 T ds ro (.code c5_15 :: .code c5_22 :: k) H Q := run_seq
def c5_12 : AC := .seq c5_13 c5_14
theorem n5_12 : Run Cx 5 T ds ro (.code c5_12 :: k) H Q = Run Cx 5 T ds ro (.code c5_13 :: .code c5_14 :: k) H Q := run_seq
def c5_10 : AC := .seq c5_11 c5_12
theorem n5_10 : Run Cx 5 T ds ro (.code c5_10 :: k) H Q = Run Cx 5 T ds ro (.code c5_11 :: .code c5_12 :: k) H Q := run_seq
def c5_2 : AC := .seq c5_3 c5_10
theorem n5_2 : Run Cx 5 T ds ro (.code c5_2 :: k) H Q = Run Cx 5 T ds ro (.code c5_3 :: .code c5_10 :: k) H Q := run_seq
def c5_0 : AC := .seq c5_1 c5_2
theorem n5_0 : Run Cx 5 T ds ro (.code c5_0 :: k) H Q = Run Cx 5 T ds ro (.code c5_1 :: .code c5_2 :: k) H Q := run_seq
theorem body5 : bodyOf Cx 5 = some c5_0 := by kernel_rfl
theorem res5 : resOf Cx 5 = some [.tmp 4] := by kernel_rfl
theorem pure5 : Cx.pure 5 = true := by kernel_rfl
-- RULES 5: n5_0, n5_1, n5_2, n5_3, n5_4, n5_5, n5_6, n5_7, n5_8, n5_9, n5_10, n5_11, n5_12, n5_13, n5_14, n5_15, n5_16, n5_17, n5_18, n5_19, n5_20, n5_21, n5_22, n5_23, n5_24, n5_25, n5_26, n5_27, n5_28, n5_29, n5_30, n5_31, n5_32, n5_33, n5_34, n5_35, n5_36, n5_37, n5_38, n5_39, n5_40, n5_41, n5_42, n5_43, n5_44, n5_45, n5_46, n5_47, n5_48, n5_49, n5_50
def o6_1 : List AO := [{ dst := (some 3), op := .box 23 (.tmp 0), ty := 0, guard := none },
  { dst := (some 4), op := .box 23 (.tmp 1), ty := 0, guard := none },
  { dst := (some 5), op := .box 23 (.tmp 2), ty := 0, guard := none },
  { dst := (some 6), op := .assign (.const (.bool false)), ty := 4, guard := none }]
def c6_1 : AC := .region o6_1 []
theorem n6_1 : Run Cx 6 T ds ro (.code c6_1 :: k) H Q = RunOps Cx 6 T ds ro o6_1 k H Q := run_region
def o6_4 : List AO := [{ dst := (some 27), op := .call { callee := (.value (.func 10)), args := #[], argTypes := #[] }, ty := 4, guard := none },
  { dst := (some 28), op := .unOp .not 4 (.tmp 27), ty := 4, guard := none }]
def c6_4 : AC := .region o6_4 []
theorem n6_4 : Run Cx 6 T ds ro (.code c6_4 :: k) H Q = RunOps Cx 6 T ds ro o6_4 k H Q := run_region
def o6_7 : List AO := [{ dst := (some 6), op := .assign (.const (.bool false)), ty := 4, guard := none }]
def c6_7 : AC := .region o6_7 []
theorem n6_7 : Run Cx 6 T ds ro (.code c6_7 :: k) H Q = RunOps Cx 6 T ds ro o6_7 k H Q := run_region
def c6_8 : AC := .ret
theorem n6_8 : Run Cx 6 T [] none (.code c6_8 :: k) H Q = RunRes Cx T H Q (resOf Cx 6) := run_ret
def c6_6 : AC := .seq c6_7 c6_8
theorem n6_6 : Run Cx 6 T ds ro (.code c6_6 :: k) H Q = Run Cx 6 T ds ro (.code c6_7 :: .code c6_8 :: k) H Q := run_seq
def c6_9 : AC := .skip
theorem n6_9 : Run Cx 6 T ds ro (.code c6_9 :: k) H Q = Run Cx 6 T ds ro (k) H Q := run_skip
def c6_5 : AC := .cond (.tmp 28) c6_6 c6_9
theorem n6_5 : Run Cx 6 T ds ro (.code c6_5 :: k) H Q = RunCond Cx 6 T ds ro (.tmp 28) (ev T (.tmp 28)) c6_6 c6_9 k H Q := run_condC
def c6_3 : AC := .seq c6_4 c6_5
theorem n6_3 : Run Cx 6 T ds ro (.code c6_3 :: k) H Q = Run Cx 6 T ds ro (.code c6_4 :: .code c6_5 :: k) H Q := run_seq
def o6_11 : List AO := [{ dst := (some 30), op := .load 23 (.tmp 3), ty := 23, guard := none },
  { dst := (some 31), op := .load 23 (.tmp 4), ty := 23, guard := none },
  { dst := (some 32), op := .call { callee := (.value (.func 16)), args := #[(.tmp 30), (.tmp 31)], argTypes := #[23, 23] }, ty := 31, guard := none },
  { dst := (some 29), op := .move (.tmp 32), ty := 31, guard := none },
  { dst := (some 33), op := .extract (.tmp 29) 0, ty := 23, guard := none },
  { dst := (some 34), op := .extract (.tmp 29) 1, ty := 24, guard := none },
  { dst := (some 7), op := .alloc 23, ty := 0, guard := none },
  { dst := none, op := .store 23 (.tmp 7) (.tmp 33), ty := 0, guard := none },
  { dst := (some 8), op := .assign (.tmp 34), ty := 24, guard := none }]
def c6_11 : AC := .region o6_11 []
theorem n6_11 : Run Cx 6 T ds ro (.code c6_11 :: k) H Q = RunOps Cx 6 T ds ro o6_11 k H Q := run_region
def o6_13 : List AO := [{ dst := (some 36), op := .load 23 (.tmp 4), ty := 23, guard := none },
  { dst := (some 37), op := .load 23 (.tmp 3), ty := 23, guard := none },
  { dst := (some 38), op := .call { callee := (.value (.func 16)), args := #[(.tmp 36), (.tmp 37)], argTypes := #[23, 23] }, ty := 31, guard := none },
  { dst := (some 35), op := .move (.tmp 38), ty := 31, guard := none },
  { dst := (some 39), op := .extract (.tmp 35) 0, ty := 23, guard := none },
  { dst := (some 40), op := .extract (.tmp 35) 1, ty := 24, guard := none },
  { dst := (some 9), op := .alloc 23, ty := 0, guard := none },
  { dst := none, op := .store 23 (.tmp 9) (.tmp 39), ty := 0, guard := none },
  { dst := (some 10), op := .assign (.tmp 40), ty := 24, guard := none }]
def c6_13 : AC := .region o6_13 []
theorem n6_13 : Run Cx 6 T ds ro (.code c6_13 :: k) H Q = RunOps Cx 6 T ds ro o6_13 k H Q := run_region
def o6_16 : List AO := [{ dst := (some 41), op := .move (.tmp 8), ty := 24, guard := none },
  { dst := (some 42), op := .move (.tmp 10), ty := 24, guard := none },
  { dst := (some 43), op := .binOp .neq 24 (.tmp 41) (.tmp 42) 24, ty := 4, guard := none },
  { dst := (some 44), op := .move (.tmp 43), ty := 4, guard := none },
  { dst := (some 45), op := .load 23 (.tmp 7), ty := 23, guard := (some (44, false)) },
  { dst := (some 46), op := .load 23 (.tmp 9), ty := 23, guard := (some (44, false)) },
  { dst := (some 47), op := .binOp .neq 23 (.tmp 45) (.tmp 46) 23, ty := 4, guard := (some (44, false)) },
  { dst := (some 48), op := .pick (.tmp 44) (.const (.bool true)) (.tmp 47), ty := 4, guard := none }]
def c6_16 : AC := .region o6_16 []
theorem n6_16 : Run Cx 6 T ds ro (.code c6_16 :: k) H Q = RunOps Cx 6 T ds ro o6_16 k H Q := run_region
def o6_19 : List AO := [{ dst := (some 6), op := .assign (.const (.bool false)), ty := 4, guard := none }]
def c6_19 : AC := .region o6_19 []
theorem n6_19 : Run Cx 6 T ds ro (.code c6_19 :: k) H Q = RunOps Cx 6 T ds ro o6_19 k H Q := run_region
def c6_20 : AC := .ret
theorem n6_20 : Run Cx 6 T [] none (.code c6_20 :: k) H Q = RunRes Cx T H Q (resOf Cx 6) := run_ret
def c6_18 : AC := .seq c6_19 c6_20
theorem n6_18 : Run Cx 6 T ds ro (.code c6_18 :: k) H Q = Run Cx 6 T ds ro (.code c6_19 :: .code c6_20 :: k) H Q := run_seq
def c6_21 : AC := .skip
theorem n6_21 : Run Cx 6 T ds ro (.code c6_21 :: k) H Q = Run Cx 6 T ds ro (k) H Q := run_skip
def c6_17 : AC := .cond (.tmp 48) c6_18 c6_21
theorem n6_17 : Run Cx 6 T ds ro (.code c6_17 :: k) H Q = RunCond Cx 6 T ds ro (.tmp 48) (ev T (.tmp 48)) c6_18 c6_21 k H Q := run_condC
def c6_15 : AC := .seq c6_16 c6_17
theorem n6_15 : Run Cx 6 T ds ro (.code c6_15 :: k) H Q = Run Cx 6 T ds ro (.code c6_16 :: .code c6_17 :: k) H Q := run_seq
def o6_23 : List AO := [{ dst := (some 50), op := .load 23 (.tmp 3), ty := 23, guard := none },
  { dst := (some 51), op := .load 23 (.tmp 5), ty := 23, guard := none },
  { dst := (some 52), op := .call { callee := (.value (.func 16)), args := #[(.tmp 50), (.tmp 51)], argTypes := #[23, 23] }, ty := 31, guard := none },
  { dst := (some 49), op := .move (.tmp 52), ty := 31, guard := none },
  { dst := (some 53), op := .extract (.tmp 49) 0, ty := 23, guard := none },
  { dst := (some 54), op := .extract (.tmp 49) 1, ty := 24, guard := none },
  { dst := (some 11), op := .alloc 23, ty := 0, guard := none },
  { dst := none, op := .store 23 (.tmp 11) (.tmp 53), ty := 0, guard := none },
  { dst := (some 12), op := .assign (.tmp 54), ty := 24, guard := none }]
def c6_23 : AC := .region o6_23 []
theorem n6_23 : Run Cx 6 T ds ro (.code c6_23 :: k) H Q = RunOps Cx 6 T ds ro o6_23 k H Q := run_region
def o6_25 : List AO := [{ dst := (some 56), op := .load 23 (.tmp 4), ty := 23, guard := none },
  { dst := (some 57), op := .load 23 (.tmp 5), ty := 23, guard := none },
  { dst := (some 58), op := .call { callee := (.value (.func 17)), args := #[(.tmp 56), (.tmp 57)], argTypes := #[23, 23] }, ty := 31, guard := none },
  { dst := (some 55), op := .move (.tmp 58), ty := 31, guard := none },
  { dst := (some 59), op := .extract (.tmp 55) 0, ty := 23, guard := none },
  { dst := (some 60), op := .extract (.tmp 55) 1, ty := 24, guard := none },
  { dst := (some 13), op := .alloc 23, ty := 0, guard := none },
  { dst := none, op := .store 23 (.tmp 13) (.tmp 59), ty := 0, guard := none },
  { dst := (some 14), op := .assign (.tmp 60), ty := 24, guard := none }]
def c6_25 : AC := .region o6_25 []
theorem n6_25 : Run Cx 6 T ds ro (.code c6_25 :: k) H Q = RunOps Cx 6 T ds ro o6_25 k H Q := run_region
def o6_28 : List AO := [{ dst := (some 61), op := .move (.tmp 8), ty := 24, guard := none },
  { dst := (some 62), op := .binOp .neq 24 (.tmp 61) (.const (.int .i64 0)) 24, ty := 4, guard := none },
  { dst := (some 63), op := .move (.tmp 62), ty := 4, guard := none },
  { dst := (some 64), op := .move (.tmp 12), ty := 24, guard := (some (63, false)) },
  { dst := (some 65), op := .binOp .neq 24 (.tmp 64) (.const (.int .i64 0)) 24, ty := 4, guard := (some (63, false)) },
  { dst := (some 66), op := .pick (.tmp 63) (.const (.bool true)) (.tmp 65), ty := 4, guard := none },
  { dst := (some 67), op := .move (.tmp 66), ty := 4, guard := none },
  { dst := (some 68), op := .move (.tmp 14), ty := 24, guard := (some (67, false)) },
  { dst := (some 69), op := .binOp .neq 24 (.tmp 68) (.const (.int .i64 0)) 24, ty := 4, guard := (some (67, false)) },
  { dst := (some 70), op := .pick (.tmp 67) (.const (.bool true)) (.tmp 69), ty := 4, guard := none }]
def c6_28 : AC := .region o6_28 []
theorem n6_28 : Run Cx 6 T ds ro (.code c6_28 :: k) H Q = RunOps Cx 6 T ds ro o6_28 k H Q := run_region
def o6_31 : List AO := [{ dst := (some 6), op := .assign (.const (.bool true)), ty := 4, guard := none }]
def c6_31 : AC := .region o6_31 []
theorem n6_31 : Run Cx 6 T ds ro (.code c6_31 :: k) H Q = RunOps Cx 6 T ds ro o6_31 k H Q := run_region
def c6_32 : AC := .ret
theorem n6_32 : Run Cx 6 T [] none (.code c6_32 :: k) H Q = RunRes Cx T H Q (resOf Cx 6) := run_ret
def c6_30 : AC := .seq c6_31 c6_32
theorem n6_30 : Run Cx 6 T ds ro (.code c6_30 :: k) H Q = Run Cx 6 T ds ro (.code c6_31 :: .code c6_32 :: k) H Q := run_seq
def c6_33 : AC := .skip
theorem n6_33 : Run Cx 6 T ds ro (.code c6_33 :: k) H Q = Run Cx 6 T ds ro (k) H Q := run_skip
def c6_29 : AC := .cond (.tmp 70) c6_30 c6_33
theorem n6_29 : Run Cx 6 T ds ro (.code c6_29 :: k) H Q = RunCond Cx 6 T ds ro (.tmp 70) (ev T (.tmp 70)) c6_30 c6_33 k H Q := run_condC
def c6_27 : AC := .seq c6_28 c6_29
theorem n6_27 : Run Cx 6 T ds ro (.code c6_27 :: k) H Q = Run Cx 6 T ds ro (.code c6_28 :: .code c6_29 :: k) H Q := run_seq
def o6_35 : List AO := [{ dst := (some 72), op := .load 23 (.tmp 3), ty := 23, guard := none },
  { dst := (some 73), op := .load 23 (.tmp 13), ty := 23, guard := none },
  { dst := (some 74), op := .call { callee := (.value (.func 16)), args := #[(.tmp 72), (.tmp 73)], argTypes := #[23, 23] }, ty := 31, guard := none },
  { dst := (some 71), op := .move (.tmp 74), ty := 31, guard := none },
  { dst := (some 75), op := .extract (.tmp 71) 0, ty := 23, guard := none },
  { dst := (some 76), op := .extract (.tmp 71) 1, ty := 24, guard := none },
  { dst := (some 15), op := .alloc 23, ty := 0, guard := none },
  { dst := none, op := .store 23 (.tmp 15) (.tmp 75), ty := 0, guard := none },
  { dst := (some 16), op := .assign (.tmp 76), ty := 24, guard := none }]
def c6_35 : AC := .region o6_35 []
theorem n6_35 : Run Cx 6 T ds ro (.code c6_35 :: k) H Q = RunOps Cx 6 T ds ro o6_35 k H Q := run_region
def o6_37 : List AO := [{ dst := (some 78), op := .load 23 (.tmp 7), ty := 23, guard := none },
  { dst := (some 79), op := .load 23 (.tmp 11), ty := 23, guard := none },
  { dst := (some 80), op := .call { callee := (.value (.func 17)), args := #[(.tmp 78), (.tmp 79)], argTypes := #[23, 23] }, ty := 31, guard := none },
  { dst := (some 77), op := .move (.tmp 80), ty := 31, guard := none },
  { dst := (some 81), op := .extract (.tmp 77) 0, ty := 23, guard := none },
  { dst := (some 82), op := .extract (.tmp 77) 1, ty := 24, guard := none },
  { dst := (some 17), op := .alloc 23, ty := 0, guard := none },
  { dst := none, op := .store 23 (.tmp 17) (.tmp 81), ty := 0, guard := none },
  { dst := (some 18), op := .assign (.tmp 82), ty := 24, guard := none }]
def c6_37 : AC := .region o6_37 []
theorem n6_37 : Run Cx 6 T ds ro (.code c6_37 :: k) H Q = RunOps Cx 6 T ds ro o6_37 k H Q := run_region
def o6_39 : List AO := [{ dst := (some 84), op := .load 23 (.tmp 13), ty := 23, guard := none },
  { dst := (some 85), op := .load 23 (.tmp 5), ty := 23, guard := none },
  { dst := (some 86), op := .call { callee := (.value (.func 18)), args := #[(.tmp 84), (.tmp 85)], argTypes := #[23, 23] }, ty := 31, guard := none },
  { dst := (some 83), op := .move (.tmp 86), ty := 31, guard := none },
  { dst := (some 87), op := .extract (.tmp 83) 0, ty := 23, guard := none },
  { dst := (some 88), op := .extract (.tmp 83) 1, ty := 24, guard := none },
  { dst := (some 19), op := .alloc 23, ty := 0, guard := none },
  { dst := none, op := .store 23 (.tmp 19) (.tmp 87), ty := 0, guard := none },
  { dst := (some 20), op := .assign (.tmp 88), ty := 24, guard := none }]
def c6_39 : AC := .region o6_39 []
theorem n6_39 : Run Cx 6 T ds ro (.code c6_39 :: k) H Q = RunOps Cx 6 T ds ro o6_39 k H Q := run_region
def o6_41 : List AO := [{ dst := (some 90), op := .load 23 (.tmp 3), ty := 23, guard := none },
  { dst := (some 91), op := .call { callee := (.value (.func 11)), args := #[(.tmp 90)], argTypes := #[23] }, ty := 28, guard := none },
  { dst := (some 89), op := .move (.tmp 91), ty := 28, guard := none },
  { dst := (some 92), op := .extract (.tmp 89) 0, ty := 3, guard := none },
  { dst := (some 93), op := .extract (.tmp 89) 1, ty := 24, guard := none },
  { dst := (some 21), op := .assign (.tmp 92), ty := 3, guard := none },
  { dst := (some 22), op := .assign (.tmp 93), ty := 24, guard := none }]
def c6_41 : AC := .region o6_41 []
theorem n6_41 : Run Cx 6 T ds ro (.code c6_41 :: k) H Q = RunOps Cx 6 T ds ro o6_41 k H Q := run_region
def o6_43 : List AO := [{ dst := (some 95), op := .load 23 (.tmp 4), ty := 23, guard := none },
  { dst := (some 96), op := .call { callee := (.value (.func 11)), args := #[(.tmp 95)], argTypes := #[23] }, ty := 28, guard := none },
  { dst := (some 94), op := .move (.tmp 96), ty := 28, guard := none },
  { dst := (some 97), op := .extract (.tmp 94) 0, ty := 3, guard := none },
  { dst := (some 98), op := .extract (.tmp 94) 1, ty := 24, guard := none },
  { dst := (some 23), op := .assign (.tmp 97), ty := 3, guard := none },
  { dst := (some 24), op := .assign (.tmp 98), ty := 24, guard := none }]
def c6_43 : AC := .region o6_43 []
theorem n6_43 : Run Cx 6 T ds ro (.code c6_43 :: k) H Q = RunOps Cx 6 T ds ro o6_43 k H Q := run_region
def o6_45 : List AO := [{ dst := (some 100), op := .load 23 (.tmp 7), ty := 23, guard := none },
  { dst := (some 101), op := .call { callee := (.value (.func 11)), args := #[(.tmp 100)], argTypes := #[23] }, ty := 28, guard := none },
  { dst := (some 99), op := .move (.tmp 101), ty := 28, guard := none },
  { dst := (some 102), op := .extract (.tmp 99) 0, ty := 3, guard := none },
  { dst := (some 103), op := .extract (.tmp 99) 1, ty := 24, guard := none },
  { dst := (some 25), op := .assign (.tmp 102), ty := 3, guard := none },
  { dst := (some 26), op := .assign (.tmp 103), ty := 24, guard := none }]
def c6_45 : AC := .region o6_45 []
theorem n6_45 : Run Cx 6 T ds ro (.code c6_45 :: k) H Q = RunOps Cx 6 T ds ro o6_45 k H Q := run_region
def o6_47 : List AO := [{ dst := (some 104), op := .move (.tmp 16), ty := 24, guard := none },
  { dst := (some 105), op := .move (.tmp 18), ty := 24, guard := none },
  { dst := (some 106), op := .binOp .eql 24 (.tmp 104) (.tmp 105) 24, ty := 4, guard := none },
  { dst := (some 107), op := .move (.tmp 106), ty := 4, guard := none },
  { dst := (some 108), op := .load 23 (.tmp 15), ty := 23, guard := (some (107, true)) },
  { dst := (some 109), op := .load 23 (.tmp 17), ty := 23, guard := (some (107, true)) },
  { dst := (some 110), op := .binOp .eql 23 (.tmp 108) (.tmp 109) 23, ty := 4, guard := (some (107, true)) },
  { dst := (some 111), op := .pick (.tmp 107) (.tmp 110) (.const (.bool false)), ty := 4, guard := none },
  { dst := (some 112), op := .move (.tmp 111), ty := 4, guard := none },
  { dst := (some 113), op := .move (.tmp 20), ty := 24, guard := (some (112, true)) },
  { dst := (some 114), op := .binOp .eql 24 (.tmp 113) (.const (.int .i64 0)) 24, ty := 4, guard := (some (112, true)) },
  { dst := (some 115), op := .pick (.tmp 112) (.tmp 114) (.const (.bool false)), ty := 4, guard := none },
  { dst := (some 116), op := .move (.tmp 115), ty := 4, guard := none },
  { dst := (some 117), op := .load 23 (.tmp 19), ty := 23, guard := (some (116, true)) },
  { dst := (some 118), op := .load 23 (.tmp 4), ty := 23, guard := (some (116, true)) },
  { dst := (some 119), op := .binOp .eql 23 (.tmp 117) (.tmp 118) 23, ty := 4, guard := (some (116, true)) },
  { dst := (some 120), op := .pick (.tmp 116) (.tmp 119) (.const (.bool false)), ty := 4, guard := none },
  { dst := (some 121), op := .move (.tmp 120), ty := 4, guard := none },
  { dst := (some 122), op := .move (.tmp 26), ty := 24, guard := (some (121, true)) },
  { dst := (some 123), op := .binOp .eql 24 (.tmp 122) (.const (.int .i64 0)) 24, ty := 4, guard := (some (121, true)) },
  { dst := (some 124), op := .pick (.tmp 121) (.tmp 123) (.const (.bool false)), ty := 4, guard := none },
  { dst := (some 125), op := .move (.tmp 124), ty := 4, guard := none },
  { dst := (some 126), op := .move (.tmp 21), ty := 3, guard := (some (125, true)) },
  { dst := (some 127), op := .binOp .gtr 3 (.tmp 126) (.const (.int .i64 1048576)) 3, ty := 4, guard := (some (125, true)) },
  { dst := (some 128), op := .move (.tmp 127), ty := 4, guard := (some (125, true)) },
  { dst := (some 129), op := .move (.tmp 23), ty := 3, guard := (some (128, false)) },
  { dst := (some 130), op := .binOp .gtr 3 (.tmp 129) (.const (.int .i64 1048576)) 3, ty := 4, guard := (some (128, false)) },
  { dst := (some 131), op := .pick (.tmp 128) (.const (.bool true)) (.tmp 130), ty := 4, guard := (some (125, true)) },
  { dst := (some 132), op := .move (.tmp 131), ty := 4, guard := (some (125, true)) },
  { dst := (some 133), op := .move (.tmp 21), ty := 3, guard := (some (132, false)) },
  { dst := (some 134), op := .move (.tmp 23), ty := 3, guard := (some (132, false)) },
  { dst := (some 135), op := .binOp .mul 3 (.tmp 133) (.tmp 134) 3, ty := 3, guard := (some (132, false)) },
  { dst := (some 136), op := .move (.tmp 25), ty := 3, guard := (some (132, false)) },
  { dst := (some 137), op := .binOp .eql 3 (.tmp 135) (.tmp 136) 3, ty := 4, guard := (some (132, false)) },
  { dst := (some 138), op := .pick (.tmp 132) (.const (.bool true)) (.tmp 137), ty := 4, guard := (some (125, true)) },
  { dst := (some 139), op := .pick (.tmp 125) (.tmp 138) (.const (.bool false)), ty := 4, guard := none },
  { dst := (some 6), op := .assign (.tmp 139), ty := 4, guard := none }]
def c6_47 : AC := .region o6_47 []
theorem n6_47 : Run Cx 6 T ds ro (.code c6_47 :: k) H Q = RunOps Cx 6 T ds ro o6_47 k H Q := run_region
def c6_48 : AC := .ret
theorem n6_48 : Run Cx 6 T [] none (.code c6_48 :: k) H Q = RunRes Cx T H Q (resOf Cx 6) := run_ret
def c6_46 : AC := .seq c6_47 c6_48
theorem n6_46 : Run Cx 6 T ds ro (.code c6_46 :: k) H Q = Run Cx 6 T ds ro (.code c6_47 :: .code c6_48 :: k) H Q := run_seq
def c6_44 : AC := .seq c6_45 c6_46
theorem n6_44 : Run Cx 6 T ds ro (.code c6_44 :: k) H Q = Run Cx 6 T ds ro (.code c6_45 :: .code c6_46 :: k) H Q := run_seq
def c6_42 : AC := .seq c6_43 c6_44
theorem n6_42 : Run Cx 6 T ds ro (.code c6_42 :: k) H Q = Run Cx 6 T ds ro (.code c6_43 :: .code c6_44 :: k) H Q := run_seq
def c6_40 : AC := .seq c6_41 c6_42
theorem n6_40 : Run Cx 6 T ds ro (.code c6_40 :: k) H Q = Run Cx 6 T ds ro (.code c6_41 :: .code c6_42 :: k) H Q := run_seq
def c6_38 : AC := .seq c6_39 c6_40
theorem n6_38 : Run Cx 6 T ds ro (.code c6_38 :: k) H Q = Run Cx 6 T ds ro (.code c6_39 :: .code c6_40 :: k) H Q := run_seq
def c6_36 : AC := .seq c6_37 c6_38
theorem n6_36 : Run Cx 6 T ds ro (.code c6_36 :: k) H Q = Run Cx 6 T ds ro (.code c6_37 :: .code c6_38 :: k) H Q := run_seq
def c6_34 : AC := .seq c6_35 c6_36
theorem n6_34 : Run Cx 6 T ds ro (.code c6_34 :: k) H Q = Run Cx 6 T ds ro (.code c6_35 :: .code c6_36 :: k) H Q := run_seq
def c6_26 : AC := .seq c6_27 c6_34
theorem n6_26 : Run Cx 6 T ds ro (.code c6_26 :: k) H Q = Run Cx 6 T ds ro (.code c6_27 :: .code c6_34 :: k) H Q := run_seq
def c6_24 : AC := .seq c6_25 c6_26
theorem n6_24 : Run Cx 6 T ds ro (.code c6_24 :: k) H Q = Run Cx 6 T ds ro (.code c6_25 :: .code c6_26 :: k) H Q := run_seq
def c6_22 : AC := .seq c6_23 c6_24
theorem n6_22 : Run Cx 6 T ds ro (.code c6_22 :: k) H Q = Run Cx 6 T ds ro (.code c6_23 :: .code c6_24 :: k) H Q := run_seq
def c6_14 : AC := .seq c6_15 c6_22
theorem n6_14 : Run Cx 6 T ds ro (.code c6_14 :: k) H Q = Run Cx 6 T ds ro (.code c6_15 :: .code c6_22 :: k) H Q := run_seq
def c6_12 : AC := .seq c6_13 c6_14
theorem n6_12 : Run Cx 6 T ds ro (.code c6_12 :: k) H Q = Run Cx 6 T ds ro (.code c6_13 :: .code c6_14 :: k) H Q := run_seq
def c6_10 : AC := .seq c6_11 c6_12
theorem n6_10 : Run Cx 6 T ds ro (.code c6_10 :: k) H Q = Run Cx 6 T ds ro (.code c6_11 :: .code c6_12 :: k) H Q := run_seq
def c6_2 : AC := .seq c6_3 c6_10
theorem n6_2 : Run Cx 6 T ds ro (.code c6_2 :: k) H Q = Run Cx 6 T ds ro (.code c6_3 :: .code c6_10 :: k) H Q := run_seq
def c6_0 : AC := .seq c6_1 c6_2
theorem n6_0 : Run Cx 6 T ds ro (.code c6_0 :: k) H Q = Run Cx 6 T ds ro (.code c6_1 :: .code c6_2 :: k) H Q := run_seq
theorem body6 : bodyOf Cx 6 = some c6_0 := by kernel_rfl
theorem res6 : resOf Cx 6 = some [.tmp 6] := by kernel_rfl
theorem pure6 : Cx.pure 6 = true := by kernel_rfl
-- RULES 6: n6_0, n6_1, n6_2, n6_3, n6_4, n6_5, n6_6, n6_7, n6_8, n6_9, n6_10, n6_11, n6_12, n6_13, n6_14, n6_15, n6_16, n6_17, n6_18, n6_19, n6_20, n6_21, n6_22, n6_23, n6_24, n6_25, n6_26, n6_27, n6_28, n6_29, n6_30, n6_31, n6_32, n6_33, n6_34, n6_35, n6_36, n6_37, n6_38, n6_39, n6_40, n6_41, n6_42, n6_43, n6_44, n6_45, n6_46, n6_47, n6_48
def o7_1 : List AO := [{ dst := (some 2), op := .box 23 (.tmp 0), ty := 0, guard := none },
  { dst := (some 4), op := .assign (.const (.bool false)), ty := 4, guard := none }]
def c7_1 : AC := .region o7_1 []
theorem n7_1 : Run Cx 7 T ds ro (.code c7_1 :: k) H Q = RunOps Cx 7 T ds ro o7_1 k H Q := run_region
def o7_4 : List AO := [{ dst := (some 19), op := .call { callee := (.value (.func 10)), args := #[], argTypes := #[] }, ty := 4, guard := none },
  { dst := (some 20), op := .unOp .not 4 (.tmp 19), ty := 4, guard := none },
  { dst := (some 21), op := .move (.tmp 20), ty := 4, guard := none },
  { dst := (some 22), op := .load 23 (.tmp 2), ty := 23, guard := (some (21, false)) },
  { dst := (some 23), op := .call { callee := (.value (.func 19)), args := #[(.tmp 22)], argTypes := #[23] }, ty := 4, guard := (some (21, false)) },
  { dst := (some 24), op := .unOp .not 4 (.tmp 23), ty := 4, guard := (some (21, false)) },
  { dst := (some 25), op := .pick (.tmp 21) (.const (.bool true)) (.tmp 24), ty := 4, guard := none }]
def c7_4 : AC := .region o7_4 []
theorem n7_4 : Run Cx 7 T ds ro (.code c7_4 :: k) H Q = RunOps Cx 7 T ds ro o7_4 k H Q := run_region
def o7_7 : List AO := [{ dst := (some 26), op := .call { callee := (.value (.func 10)), args := #[], argTypes := #[] }, ty := 4, guard := none },
  { dst := (some 4), op := .assign (.tmp 26), ty := 4, guard := none }]
def c7_7 : AC := .region o7_7 []
theorem n7_7 : Run Cx 7 T ds ro (.code c7_7 :: k) H Q = RunOps Cx 7 T ds ro o7_7 k H Q := run_region
def c7_8 : AC := .ret
theorem n7_8 : Run Cx 7 T [] none (.code c7_8 :: k) H Q = RunRes Cx T H Q (resOf Cx 7) := run_ret
def c7_6 : AC := .seq c7_7 c7_8
theorem n7_6 : Run Cx 7 T ds ro (.code c7_6 :: k) H Q = Run Cx 7 T ds ro (.code c7_7 :: .code c7_8 :: k) H Q := run_seq
def c7_9 : AC := .skip
theorem n7_9 : Run Cx 7 T ds ro (.code c7_9 :: k) H Q = Run Cx 7 T ds ro (k) H Q := run_skip
def c7_5 : AC := .cond (.tmp 25) c7_6 c7_9
theorem n7_5 : Run Cx 7 T ds ro (.code c7_5 :: k) H Q = RunCond Cx 7 T ds ro (.tmp 25) (ev T (.tmp 25)) c7_6 c7_9 k H Q := run_condC
def c7_3 : AC := .seq c7_4 c7_5
theorem n7_3 : Run Cx 7 T ds ro (.code c7_3 :: k) H Q = Run Cx 7 T ds ro (.code c7_4 :: .code c7_5 :: k) H Q := run_seq
def o7_11 : List AO := [{ dst := (some 28), op := .load 23 (.tmp 2), ty := 23, guard := none },
  { dst := (some 29), op := .move (.tmp 1), ty := 3, guard := none },
  { dst := (some 30), op := .call { callee := (.value (.func 20)), args := #[(.tmp 28), (.tmp 29)], argTypes := #[23, 3] }, ty := 31, guard := none },
  { dst := (some 27), op := .move (.tmp 30), ty := 31, guard := none },
  { dst := (some 31), op := .extract (.tmp 27) 0, ty := 23, guard := none },
  { dst := (some 32), op := .extract (.tmp 27) 1, ty := 24, guard := none },
  { dst := (some 5), op := .alloc 23, ty := 0, guard := none },
  { dst := none, op := .store 23 (.tmp 5) (.tmp 31), ty := 0, guard := none },
  { dst := (some 6), op := .assign (.tmp 32), ty := 24, guard := none }]
def c7_11 : AC := .region o7_11 []
theorem n7_11 : Run Cx 7 T ds ro (.code c7_11 :: k) H Q = RunOps Cx 7 T ds ro o7_11 k H Q := run_region
def o7_13 : List AO := [{ dst := (some 34), op := .load 23 (.tmp 5), ty := 23, guard := none },
  { dst := (some 35), op := .move (.tmp 1), ty := 3, guard := none },
  { dst := (some 36), op := .binOp .rem 3 (.tmp 35) (.const (.int .i64 4)) 3, ty := 3, guard := none },
  { dst := (some 37), op := .binOp .sub 3 (.const (.int .i64 4)) (.tmp 36) 3, ty := 3, guard := none },
  { dst := (some 38), op := .call { callee := (.value (.func 20)), args := #[(.tmp 34), (.tmp 37)], argTypes := #[23, 3] }, ty := 31, guard := none },
  { dst := (some 33), op := .move (.tmp 38), ty := 31, guard := none },
  { dst := (some 39), op := .extract (.tmp 33) 0, ty := 23, guard := none },
  { dst := (some 40), op := .extract (.tmp 33) 1, ty := 24, guard := none },
  { dst := (some 7), op := .alloc 23, ty := 0, guard := none },
  { dst := none, op := .store 23 (.tmp 7) (.tmp 39), ty := 0, guard := none },
  { dst := (some 8), op := .assign (.tmp 40), ty := 24, guard := none }]
def c7_13 : AC := .region o7_13 []
theorem n7_13 : Run Cx 7 T ds ro (.code c7_13 :: k) H Q = RunOps Cx 7 T ds ro o7_13 k H Q := run_region
def o7_15 : List AO := [{ dst := (some 42), op := .load 23 (.tmp 2), ty := 23, guard := none },
  { dst := (some 43), op := .call { callee := (.value (.func 21)), args := #[(.tmp 42)], argTypes := #[23] }, ty := 31, guard := none },
  { dst := (some 41), op := .move (.tmp 43), ty := 31, guard := none },
  { dst := (some 44), op := .extract (.tmp 41) 0, ty := 23, guard := none },
  { dst := (some 45), op := .extract (.tmp 41) 1, ty := 24, guard := none },
  { dst := (some 9), op := .alloc 23, ty := 0, guard := none },
  { dst := none, op := .store 23 (.tmp 9) (.tmp 44), ty := 0, guard := none },
  { dst := (some 10), op := .assign (.tmp 45), ty := 24, guard := none }]
def c7_15 : AC := .region o7_15 []
theorem n7_15 : Run Cx 7 T ds ro (.code c7_15 :: k) H Q = RunOps Cx 7 T ds ro o7_15 k H Q := run_region
def o7_17 : List AO := [{ dst := (some 47), op := .load 23 (.tmp 2), ty := 23, guard := none },
  { dst := (some 48), op := .call { callee := (.value (.func 11)), args := #[(.tmp 47)], argTypes := #[23] }, ty := 28, guard := none },
  { dst := (some 46), op := .move (.tmp 48), ty := 28, guard := none },
  { dst := (some 49), op := .extract (.tmp 46) 0, ty := 3, guard := none },
  { dst := (some 50), op := .extract (.tmp 46) 1, ty := 24, guard := none },
  { dst := (some 11), op := .assign (.tmp 49), ty := 3, guard := none },
  { dst := (some 12), op := .assign (.tmp 50), ty := 24, guard := none }]
def c7_17 : AC := .region o7_17 []
theorem n7_17 : Run Cx 7 T ds ro (.code c7_17 :: k) H Q = RunOps Cx 7 T ds ro o7_17 k H Q := run_region
def o7_19 : List AO := [{ dst := (some 52), op := .load 23 (.tmp 5), ty := 23, guard := none },
  { dst := (some 53), op := .call { callee := (.value (.func 11)), args := #[(.tmp 52)], argTypes := #[23] }, ty := 28, guard := none },
  { dst := (some 51), op := .move (.tmp 53), ty := 28, guard := none },
  { dst := (some 54), op := .extract (.tmp 51) 0, ty := 3, guard := none },
  { dst := (some 55), op := .extract (.tmp 51) 1, ty := 24, guard := none },
  { dst := (some 13), op := .assign (.tmp 54), ty := 3, guard := none },
  { dst := (some 14), op := .assign (.tmp 55), ty := 24, guard := none }]
def c7_19 : AC := .region o7_19 []
theorem n7_19 : Run Cx 7 T ds ro (.code c7_19 :: k) H Q = RunOps Cx 7 T ds ro o7_19 k H Q := run_region
def o7_21 : List AO := [{ dst := (some 57), op := .load 23 (.tmp 9), ty := 23, guard := none },
  { dst := (some 58), op := .call { callee := (.value (.func 11)), args := #[(.tmp 57)], argTypes := #[23] }, ty := 28, guard := none },
  { dst := (some 56), op := .move (.tmp 58), ty := 28, guard := none },
  { dst := (some 59), op := .extract (.tmp 56) 0, ty := 3, guard := none },
  { dst := (some 60), op := .extract (.tmp 56) 1, ty := 24, guard := none },
  { dst := (some 15), op := .assign (.tmp 59), ty := 3, guard := none },
  { dst := (some 16), op := .assign (.tmp 60), ty := 24, guard := none }]
def c7_21 : AC := .region o7_21 []
theorem n7_21 : Run Cx 7 T ds ro (.code c7_21 :: k) H Q = RunOps Cx 7 T ds ro o7_21 k H Q := run_region
def o7_23 : List AO := [{ dst := (some 62), op := .load 23 (.tmp 2), ty := 23, guard := none },
  { dst := (some 63), op := .load 23 (.tmp 9), ty := 23, guard := none },
  { dst := (some 64), op := .call { callee := (.value (.func 16)), args := #[(.tmp 62), (.tmp 63)], argTypes := #[23, 23] }, ty := 31, guard := none },
  { dst := (some 61), op := .move (.tmp 64), ty := 31, guard := none },
  { dst := (some 65), op := .extract (.tmp 61) 0, ty := 23, guard := none },
  { dst := (some 66), op := .extract (.tmp 61) 1, ty := 24, guard := none },
  { dst := (some 17), op := .alloc 23, ty := 0, guard := none },
  { dst := none, op := .store 23 (.tmp 17) (.tmp 65), ty := 0, guard := none },
  { dst := (some 18), op := .assign (.tmp 66), ty := 24, guard := none }]
def c7_23 : AC := .region o7_23 []
theorem n7_23 : Run Cx 7 T ds ro (.code c7_23 :: k) H Q = RunOps Cx 7 T ds ro o7_23 k H Q := run_region
def o7_25 : List AO := [{ dst := (some 67), op := .move (.tmp 6), ty := 24, guard := none },
  { dst := (some 68), op := .binOp .eql 24 (.tmp 67) (.const (.int .i64 0)) 24, ty := 4, guard := none },
  { dst := (some 69), op := .move (.tmp 68), ty := 4, guard := none },
  { dst := (some 70), op := .move (.tmp 8), ty := 24, guard := (some (69, true)) },
  { dst := (some 71), op := .binOp .eql 24 (.tmp 70) (.const (.int .i64 0)) 24, ty := 4, guard := (some (69, true)) },
  { dst := (some 72), op := .pick (.tmp 69) (.tmp 71) (.const (.bool false)), ty := 4, guard := none },
  { dst := (some 73), op := .move (.tmp 72), ty := 4, guard := none },
  { dst := (some 74), op := .move (.tmp 10), ty := 24, guard := (some (73, true)) },
  { dst := (some 75), op := .binOp .eql 24 (.tmp 74) (.const (.int .i64 0)) 24, ty := 4, guard := (some (73, true)) },
  { dst := (some 76), op := .pick (.tmp 73) (.tmp 75) (.const (.bool false)), ty := 4, guard := none },
  { dst := (some 77), op := .move (.tmp 76), ty := 4, guard := none },
  { dst := (some 78), op := .load 23 (.tmp 7), ty := 23, guard := (some (77, true)) },
  { dst := (some 79), op := .load 23 (.tmp 2), ty := 23, guard := (some (77, true)) },
  { dst := (some 80), op := .binOp .eql 23 (.tmp 78) (.tmp 79) 23, ty := 4, guard := (some (77, true)) },
  { dst := (some 81), op := .pick (.tmp 77) (.tmp 80) (.const (.bool false)), ty := 4, guard := none },
  { dst := (some 82), op := .move (.tmp 81), ty := 4, guard := none },
  { dst := (some 83), op := .move (.tmp 11), ty := 3, guard := (some (82, true)) },
  { dst := (some 84), op := .move (.tmp 13), ty := 3, guard := (some (82, true)) },
  { dst := (some 85), op := .binOp .eql 3 (.tmp 83) (.tmp 84) 3, ty := 4, guard := (some (82, true)) },
  { dst := (some 86), op := .pick (.tmp 82) (.tmp 85) (.const (.bool false)), ty := 4, guard := none },
  { dst := (some 87), op := .move (.tmp 86), ty := 4, guard := none },
  { dst := (some 88), op := .move (.tmp 11), ty := 3, guard := (some (87, true)) },
  { dst := (some 89), op := .move (.tmp 15), ty := 3, guard := (some (87, true)) },
  { dst := (some 90), op := .binOp .eql 3 (.tmp 88) (.tmp 89) 3, ty := 4, guard := (some (87, true)) },
  { dst := (some 91), op := .pick (.tmp 87) (.tmp 90) (.const (.bool false)), ty := 4, guard := none },
  { dst := (some 92), op := .move (.tmp 91), ty := 4, guard := none },
  { dst := (some 93), op := .move (.tmp 18), ty := 24, guard := (some (92, true)) },
  { dst := (some 94), op := .binOp .neq 24 (.tmp 93) (.const (.int .i64 0)) 24, ty := 4, guard := (some (92, true)) },
  { dst := (some 95), op := .move (.tmp 94), ty := 4, guard := (some (92, true)) },
  { dst := (some 96), op := .load 23 (.tmp 17), ty := 23, guard := (some (95, false)) },
  { dst := (some 97), op := .move (.tmp 11), ty := 3, guard := (some (95, false)) },
  { dst := (some 98), op := .build 23 #[(0, (.tmp 97))], ty := 23, guard := (some (95, false)) },
  { dst := (some 99), op := .binOp .eql 23 (.tmp 96) (.tmp 98) 23, ty := 4, guard := (some (95, false)) },
  { dst := (some 100), op := .pick (.tmp 95) (.const (.bool true)) (.tmp 99), ty := 4, guard := (some (92, true)) },
  { dst := (some 101), op := .pick (.tmp 92) (.tmp 100) (.const (.bool false)), ty := 4, guard := none },
  { dst := (some 4), op := .assign (.tmp 101), ty := 4, guard := none }]
def c7_25 : AC := .region o7_25 []
theorem n7_25 : Run Cx 7 T ds ro (.code c7_25 :: k) H Q = RunOps Cx 7 T ds ro o7_25 k H Q := run_region
def c7_26 : AC := .ret
theorem n7_26 : Run Cx 7 T [] none (.code c7_26 :: k) H Q = RunRes Cx T H Q (resOf Cx 7) := run_ret
def c7_24 : AC := .seq c7_25 c7_26
theorem n7_24 : Run Cx 7 T ds ro (.code c7_24 :: k) H Q = Run Cx 7 T ds ro (.code c7_25 :: .code c7_26 :: k) H Q := run_seq
def c7_22 : AC := .seq c7_23 c7_24
theorem n7_22 : Run Cx 7 T ds ro (.code c7_22 :: k) H Q = Run Cx 7 T ds ro (.code c7_23 :: .code c7_24 :: k) H Q := run_seq
def c7_20 : AC := .seq c7_21 c7_22
theorem n7_20 : Run Cx 7 T ds ro (.code c7_20 :: k) H Q = Run Cx 7 T ds ro (.code c7_21 :: .code c7_22 :: k) H Q := run_seq
def c7_18 : AC := .seq c7_19 c7_20
theorem n7_18 : Run Cx 7 T ds ro (.code c7_18 :: k) H Q = Run Cx 7 T ds ro (.code c7_19 :: .code c7_20 :: k) H Q := run_seq
def c7_16 : AC := .seq c7_17 c7_18
theorem n7_16 : Run Cx 7 T ds ro (.code c7_16 :: k) H Q = Run Cx 7 T ds ro (.code c7_17 :: .code c7_18 :: k) H Q := run_seq
def c7_14 : AC := .seq c7_15 c7_16
theorem n7_14 : Run Cx 7 T ds ro (.code c7_14 :: k) H Q = Run Cx 7 T ds ro (.code c7_15 :: .code c7_16 :: k) H Q := run_seq
def c7_12 : AC := .seq c7_13 c7_14
theorem n7_12 : Run Cx 7 T ds ro (.code c7_12 :: k) H Q = Run Cx 7 T ds ro (.code c7_13 :: .code c7_14 :: k) H Q := run_seq
def c7_10 : AC := .seq c7_11 c7_12
theorem n7_10 : Run Cx 7 T ds ro (.code c7_10 :: k) H Q = Run Cx 7 T ds ro (.code c7_11 :: .code c7_12 :: k) H Q := run_seq
def c7_2 : AC := .seq c7_3 c7_10
theorem n7_2 : Run Cx 7 T ds ro (.code c7_2 :: k) H Q = Run Cx 7 T ds ro (.code c7_3 :: .code c7_10 :: k) H Q := run_seq
def c7_0 : AC := .seq c7_1 c7_2
theorem n7_0 : Run Cx 7 T ds ro (.code c7_0 :: k) H Q = Run Cx 7 T ds ro (.code c7_1 :: .code c7_2 :: k) H Q := run_seq
theorem body7 : bodyOf Cx 7 = some c7_0 := by kernel_rfl
theorem res7 : resOf Cx 7 = some [.tmp 4] := by kernel_rfl
theorem pure7 : Cx.pure 7 = true := by kernel_rfl
-- RULES 7: n7_0, n7_1, n7_2, n7_3, n7_4, n7_5, n7_6, n7_7, n7_8, n7_9, n7_10, n7_11, n7_12, n7_13, n7_14, n7_15, n7_16, n7_17, n7_18, n7_19, n7_20, n7_21, n7_22, n7_23, n7_24, n7_25, n7_26
def o8_1 : List AO := [{ dst := (some 3), op := .box 23 (.tmp 0), ty := 0, guard := none },
  { dst := (some 4), op := .box 23 (.tmp 1), ty := 0, guard := none },
  { dst := (some 6), op := .assign (.const (.bool false)), ty := 4, guard := none }]
def c8_1 : AC := .region o8_1 []
theorem n8_1 : Run Cx 8 T ds ro (.code c8_1 :: k) H Q = RunOps Cx 8 T ds ro o8_1 k H Q := run_region
def o8_4 : List AO := [{ dst := (some 34), op := .call { callee := (.value (.func 10)), args := #[], argTypes := #[] }, ty := 4, guard := none },
  { dst := (some 35), op := .unOp .not 4 (.tmp 34), ty := 4, guard := none }]
def c8_4 : AC := .region o8_4 []
theorem n8_4 : Run Cx 8 T ds ro (.code c8_4 :: k) H Q = RunOps Cx 8 T ds ro o8_4 k H Q := run_region
def o8_7 : List AO := [{ dst := (some 6), op := .assign (.const (.bool false)), ty := 4, guard := none }]
def c8_7 : AC := .region o8_7 []
theorem n8_7 : Run Cx 8 T ds ro (.code c8_7 :: k) H Q = RunOps Cx 8 T ds ro o8_7 k H Q := run_region
def c8_8 : AC := .ret
theorem n8_8 : Run Cx 8 T [] none (.code c8_8 :: k) H Q = RunRes Cx T H Q (resOf Cx 8) := run_ret
def c8_6 : AC := .seq c8_7 c8_8
theorem n8_6 : Run Cx 8 T ds ro (.code c8_6 :: k) H Q = Run Cx 8 T ds ro (.code c8_7 :: .code c8_8 :: k) H Q := run_seq
def c8_9 : AC := .skip
theorem n8_9 : Run Cx 8 T ds ro (.code c8_9 :: k) H Q = Run Cx 8 T ds ro (k) H Q := run_skip
def c8_5 : AC := .cond (.tmp 35) c8_6 c8_9
theorem n8_5 : Run Cx 8 T ds ro (.code c8_5 :: k) H Q = RunCond Cx 8 T ds ro (.tmp 35) (ev T (.tmp 35)) c8_6 c8_9 k H Q := run_condC
def c8_3 : AC := .seq c8_4 c8_5
theorem n8_3 : Run Cx 8 T ds ro (.code c8_3 :: k) H Q = Run Cx 8 T ds ro (.code c8_4 :: .code c8_5 :: k) H Q := run_seq
def o8_11 : List AO := [{ dst := (some 36), op := .load 23 (.tmp 3), ty := 23, guard := none },
  { dst := (some 37), op := .call { callee := (.value (.func 13)), args := #[(.tmp 36)], argTypes := #[23] }, ty := 4, guard := none },
  { dst := (some 38), op := .move (.tmp 37), ty := 4, guard := none },
  { dst := (some 39), op := .load 23 (.tmp 4), ty := 23, guard := (some (38, true)) },
  { dst := (some 40), op := .call { callee := (.value (.func 13)), args := #[(.tmp 39)], argTypes := #[23] }, ty := 4, guard := (some (38, true)) },
  { dst := (some 41), op := .pick (.tmp 38) (.tmp 40) (.const (.bool false)), ty := 4, guard := none },
  { dst := (some 42), op := .load 23 (.tmp 3), ty := 23, guard := none },
  { dst := (some 43), op := .call { callee := (.value (.func 13)), args := #[(.tmp 42)], argTypes := #[23] }, ty := 4, guard := none },
  { dst := (some 7), op := .assign (.tmp 41), ty := 4, guard := none },
  { dst := (some 8), op := .assign (.tmp 43), ty := 4, guard := none }]
def c8_11 : AC := .region o8_11 []
theorem n8_11 : Run Cx 8 T ds ro (.code c8_11 :: k) H Q = RunOps Cx 8 T ds ro o8_11 k H Q := run_region
def o8_13 : List AO := [{ dst := (some 9), op := .alloc 23, ty := 0, guard := none },
  { dst := (some 10), op := .alloc 23, ty := 0, guard := none },
  { dst := (some 11), op := .alloc 23, ty := 0, guard := none },
  { dst := (some 12), op := .alloc 23, ty := 0, guard := none }]
def c8_13 : AC := .region o8_13 []
theorem n8_13 : Run Cx 8 T ds ro (.code c8_13 :: k) H Q = RunOps Cx 8 T ds ro o8_13 k H Q := run_region
def o8_16 : List AO := [{ dst := (some 44), op := .move (.tmp 7), ty := 4, guard := none }]
def c8_16 : AC := .region o8_16 []
theorem n8_16 : Run Cx 8 T ds ro (.code c8_16 :: k) H Q = RunOps Cx 8 T ds ro o8_16 k H Q := run_region
def o8_19 : List AO := [{ dst := (some 45), op := .fieldAddr 23 (.tmp 3) 0, ty := 0, guard := none },
  { dst := (some 46), op := .load 3 (.tmp 45), ty := 3, guard := none },
  { dst := (some 47), op := .fieldAddr 23 (.tmp 4) 0, ty := 0, guard := none },
  { dst := (some 48), op := .load 3 (.tmp 47), ty := 3, guard := none },
  { dst := (some 49), op := .binOp .add 3 (.tmp 46) (.tmp 48) 3, ty := 3, guard := none },
  { dst := (some 50), op := .fieldAddr 23 (.tmp 3) 1, ty := 0, guard := none },
  { dst := (some 51), op := .load 3 (.tmp 50), ty := 3, guard := none },
  { dst := (some 52), op := .fieldAddr 23 (.tmp 4) 1, ty := 0, guard := none },
  { dst := (some 53), op := .load 3 (.tmp 52), ty := 3, guard := none },
  { dst := (some 54), op := .binOp .add 3 (.tmp 51) (.tmp 53) 3, ty := 3, guard := none },
  { dst := (some 55), op := .build 23 #[(0, (.tmp 49)), (1, (.tmp 54))], ty := 23, guard := none },
  { dst := none, op := .store 23 (.tmp 9) (.tmp 55), ty := 0, guard := none }]
def c8_19 : AC := .region o8_19 []
theorem n8_19 : Run Cx 8 T ds ro (.code c8_19 :: k) H Q = RunOps Cx 8 T ds ro o8_19 k H Q := run_region
def o8_21 : List AO := [{ dst := (some 56), op := .fieldAddr 23 (.tmp 3) 0, ty := 0, guard := none },
  { dst := (some 57), op := .load 3 (.tmp 56), ty := 3, guard := none },
  { dst := (some 58), op := .fieldAddr 23 (.tmp 4) 0, ty := 0, guard := none },
  { dst := (some 59), op := .load 3 (.tmp 58), ty := 3, guard := none },
  { dst := (some 60), op := .binOp .sub 3 (.tmp 57) (.tmp 59) 3, ty := 3, guard := none },
  { dst := (some 61), op := .fieldAddr 23 (.tmp 3) 1, ty := 0, guard := none },
  { dst := (some 62), op := .load 3 (.tmp 61), ty := 3, guard := none },
  { dst := (some 63), op := .fieldAddr 23 (.tmp 4) 1, ty := 0, guard := none },
  { dst := (some 64), op := .load 3 (.tmp 63), ty := 3, guard := none },
  { dst := (some 65), op := .binOp .sub 3 (.tmp 62) (.tmp 64) 3, ty := 3, guard := none },
  { dst := (some 66), op := .build 23 #[(0, (.tmp 60)), (1, (.tmp 65))], ty := 23, guard := none },
  { dst := none, op := .store 23 (.tmp 10) (.tmp 66), ty := 0, guard := none }]
def c8_21 : AC := .region o8_21 []
theorem n8_21 : Run Cx 8 T ds ro (.code c8_21 :: k) H Q = RunOps Cx 8 T ds ro o8_21 k H Q := run_region
def o8_22 : List AO := [{ dst := (some 67), op := .load 23 (.tmp 3), ty := 23, guard := none },
  { dst := (some 68), op := .load 23 (.tmp 4), ty := 23, guard := none },
  { dst := (some 69), op := .call { callee := (.value (.func 22)), args := #[(.tmp 67), (.tmp 68)], argTypes := #[23, 23] }, ty := 23, guard := none },
  { dst := none, op := .store 23 (.tmp 11) (.tmp 69), ty := 0, guard := none }]
def c8_22 : AC := .region o8_22 []
theorem n8_22 : Run Cx 8 T ds ro (.code c8_22 :: k) H Q = RunOps Cx 8 T ds ro o8_22 k H Q := run_region
def c8_20 : AC := .seq c8_21 c8_22
theorem n8_20 : Run Cx 8 T ds ro (.code c8_20 :: k) H Q = Run Cx 8 T ds ro (.code c8_21 :: .code c8_22 :: k) H Q := run_seq
def c8_18 : AC := .seq c8_19 c8_20
theorem n8_18 : Run Cx 8 T ds ro (.code c8_18 :: k) H Q = Run Cx 8 T ds ro (.code c8_19 :: .code c8_20 :: k) H Q := run_seq
def c8_23 : AC := .skip
theorem n8_23 : Run Cx 8 T ds ro (.code c8_23 :: k) H Q = Run Cx 8 T ds ro (k) H Q := run_skip
def c8_17 : AC := .cond (.tmp 44) c8_18 c8_23
theorem n8_17 : Run Cx 8 T ds ro (.code c8_17 :: k) H Q = RunCond Cx 8 T ds ro (.tmp 44) (ev T (.tmp 44)) c8_18 c8_23 k H Q := run_condC
def c8_15 : AC := .seq c8_16 c8_17
theorem n8_15 : Run Cx 8 T ds ro (.code c8_15 :: k) H Q = Run Cx 8 T ds ro (.code c8_16 :: .code c8_17 :: k) H Q := run_seq
def o8_26 : List AO := [{ dst := (some 70), op := .move (.tmp 8), ty := 4, guard := none }]
def c8_26 : AC := .region o8_26 []
theorem n8_26 : Run Cx 8 T ds ro (.code c8_26 :: k) H Q = RunOps Cx 8 T ds ro o8_26 k H Q := run_region
def o8_29 : List AO := [{ dst := (some 71), op := .load 23 (.tmp 3), ty := 23, guard := none },
  { dst := none, op := .store 23 (.tmp 12) (.tmp 71), ty := 0, guard := none }]
def c8_29 : AC := .region o8_29 []
theorem n8_29 : Run Cx 8 T ds ro (.code c8_29 :: k) H Q = RunOps Cx 8 T ds ro o8_29 k H Q := run_region
def o8_31 : List AO := [{ dst := (some 13), op := .assign (.const (.int .i64 0)), ty := 3, guard := none }]
def c8_31 : AC := .region o8_31 []
theorem n8_31 : Run Cx 8 T ds ro (.code c8_31 :: k) H Q = RunOps Cx 8 T ds ro o8_31 k H Q := run_region
def o8_36 : List AO := [{ dst := (some 72), op := .move (.tmp 13), ty := 3, guard := none },
  { dst := (some 73), op := .move (.tmp 2), ty := 3, guard := none },
  { dst := (some 74), op := .binOp .rem 3 (.tmp 73) (.const (.int .i64 4)) 3, ty := 3, guard := none },
  { dst := (some 75), op := .binOp .add 3 (.tmp 74) (.const (.int .i64 4)) 3, ty := 3, guard := none },
  { dst := (some 76), op := .binOp .rem 3 (.tmp 75) (.const (.int .i64 4)) 3, ty := 3, guard := none },
  { dst := (some 77), op := .binOp .lss 3 (.tmp 72) (.tmp 76) 3, ty := 4, guard := none }]
def c8_36 : AC := .region o8_36 []
theorem n8_36 : Run Cx 8 T ds ro (.code c8_36 :: k) H Q = RunOps Cx 8 T ds ro o8_36 k H Q := run_region
def c8_38 : AC := .skip
theorem n8_38 : Run Cx 8 T ds ro (.code c8_38 :: k) H Q = Run Cx 8 T ds ro (k) H Q := run_skip
def c8_39 : AC := .exit 0
theorem n8_39 : Run Cx 8 T ds ro (.code c8_39 :: k) H Q = RunExit Cx 8 T ds ro 0 k k H Q := run_exit_start
def c8_37 : AC := .cond (.tmp 77) c8_38 c8_39
theorem n8_37 : Run Cx 8 T ds ro (.code c8_37 :: k) H Q = RunCond Cx 8 T ds ro (.tmp 77) (ev T (.tmp 77)) c8_38 c8_39 k H Q := run_condC
def c8_35 : AC := .seq c8_36 c8_37
theorem n8_35 : Run Cx 8 T ds ro (.code c8_35 :: k) H Q = Run Cx 8 T ds ro (.code c8_36 :: .code c8_37 :: k) H Q := run_seq
def o8_42 : List AO := [{ dst := (some 80), op := .load 23 (.tmp 12), ty := 23, guard := none },
  { dst := (some 81), op := .build 23 #[(1, (.const (.int .i64 1)))], ty := 23, guard := none },
  { dst := (some 82), op := .call { callee := (.value (.func 22)), args := #[(.tmp 80), (.tmp 81)], argTypes := #[23, 23] }, ty := 23, guard := none },
  { dst := none, op := .store 23 (.tmp 12) (.tmp 82), ty := 0, guard := none }]
def c8_42 : AC := .region o8_42 []
theorem n8_42 : Run Cx 8 T ds ro (.code c8_42 :: k) H Q = RunOps Cx 8 T ds ro o8_42 k H Q := run_region
def c8_41 : AC := .block 1 c8_42
theorem n8_41 : Run Cx 8 T ds ro (.code c8_41 :: k) H Q = Run Cx 8 T ds ro (.code c8_42 :: .inBlock 1 :: k) H Q := run_block
def o8_43 : List AO := [{ dst := (some 78), op := .move (.tmp 13), ty := 3, guard := none },
  { dst := (some 79), op := .binOp .add 3 (.tmp 78) (.const (.int .i64 1)) 3, ty := 3, guard := none },
  { dst := (some 13), op := .assign (.tmp 79), ty := 3, guard := none }]
def c8_43 : AC := .region o8_43 []
theorem n8_43 : Run Cx 8 T ds ro (.code c8_43 :: k) H Q = RunOps Cx 8 T ds ro o8_43 k H Q := run_region
def c8_40 : AC := .seq c8_41 c8_43
theorem n8_40 : Run Cx 8 T ds ro (.code c8_40 :: k) H Q = Run Cx 8 T ds ro (.code c8_41 :: .code c8_43 :: k) H Q := run_seq
def c8_34 : AC := .seq c8_35 c8_40
theorem n8_34 : Run Cx 8 T ds ro (.code c8_34 :: k) H Q = Run Cx 8 T ds ro (.code c8_35 :: .code c8_40 :: k) H Q := run_seq
def c8_33 : AC := .loop c8_34
theorem n8_33 : Run Cx 8 T ds ro (.code c8_33 :: k) H Q = Run Cx 8 T ds ro (.inLoop c8_34 :: k) H Q := run_loop'
def c8_32 : AC := .block 0 c8_33
theorem n8_32 : Run Cx 8 T ds ro (.code c8_32 :: k) H Q = Run Cx 8 T ds ro (.code c8_33 :: .inBlock 0 :: k) H Q := run_block
def c8_30 : AC := .seq c8_31 c8_32
theorem n8_30 : Run Cx 8 T ds ro (.code c8_30 :: k) H Q = Run Cx 8 T ds ro (.code c8_31 :: .code c8_32 :: k) H Q := run_seq
def c8_28 : AC := .seq c8_29 c8_30
theorem n8_28 : Run Cx 8 T ds ro (.code c8_28 :: k) H Q = Run Cx 8 T ds ro (.code c8_29 :: .code c8_30 :: k) H Q := run_seq
def c8_44 : AC := .skip
theorem n8_44 : Run Cx 8 T ds ro (.code c8_44 :: k) H Q = Run Cx 8 T ds ro (k) H Q := run_skip
def c8_27 : AC := .cond (.tmp 70) c8_28 c8_44
theorem n8_27 : Run Cx 8 T ds ro (.code c8_27 :: k) H Q = RunCond Cx 8 T ds ro (.tmp 70) (ev T (.tmp 70)) c8_28 c8_44 k H Q := run_condC
def c8_25 : AC := .seq c8_26 c8_27
theorem n8_25 : Run Cx 8 T ds ro (.code c8_25 :: k) H Q = Run Cx 8 T ds ro (.code c8_26 :: .code c8_27 :: k) H Q := run_seq
def o8_46 : List AO := [{ dst := (some 84), op := .load 23 (.tmp 3), ty := 23, guard := none },
  { dst := (some 85), op := .load 23 (.tmp 4), ty := 23, guard := none },
  { dst := (some 86), op := .call { callee := (.value (.func 17)), args := #[(.tmp 84), (.tmp 85)], argTypes := #[23, 23] }, ty := 31, guard := none },
  { dst := (some 83), op := .move (.tmp 86), ty := 31, guard := none },
  { dst := (some 87), op := .extract (.tmp 83) 0, ty := 23, guard := none },
  { dst := (some 88), op := .extract (.tmp 83) 1, ty := 24, guard := none },
  { dst := (some 14), op := .alloc 23, ty := 0, guard := none },
  { dst := none, op := .store 23 (.tmp 14) (.tmp 87), ty := 0, guard := none },
  { dst := (some 15), op := .assign (.tmp 88), ty := 24, guard := none }]
def c8_46 : AC := .region o8_46 []
theorem n8_46 : Run Cx 8 T ds ro (.code c8_46 :: k) H Q = RunOps Cx 8 T ds ro o8_46 k H Q := run_region
def o8_48 : List AO := [{ dst := (some 90), op := .load 23 (.tmp 9), ty := 23, guard := none },
  { dst := (some 91), op := .move (.tmp 7), ty := 4, guard := none },
  { dst := (some 92), op := .call { callee := (.value (.func 23)), args := #[(.tmp 90), (.tmp 91)], argTypes := #[23, 4] }, ty := 31, guard := none },
  { dst := (some 89), op := .move (.tmp 92), ty := 31, guard := none },
  { dst := (some 93), op := .extract (.tmp 89) 0, ty := 23, guard := none },
  { dst := (some 94), op := .extract (.tmp 89) 1, ty := 24, guard := none },
  { dst := (some 16), op := .alloc 23, ty := 0, guard := none },
  { dst := none, op := .store 23 (.tmp 16) (.tmp 93), ty := 0, guard := none },
  { dst := (some 17), op := .assign (.tmp 94), ty := 24, guard := none }]
def c8_48 : AC := .region o8_48 []
theorem n8_48 : Run Cx 8 T ds ro (.code c8_48 :: k) H Q = RunOps Cx 8 T ds ro o8_48 k H Q := run_region
def o8_50 : List AO := [{ dst := (some 96), op := .load 23 (.tmp 3), ty := 23, guard := none },
  { dst := (some 97), op := .load 23 (.tmp 4), ty := 23, guard := none },
  { dst := (some 98), op := .call { callee := (.value (.func 18)), args := #[(.tmp 96), (.tmp 97)], argTypes := #[23, 23] }, ty := 31, guard := none },
  { dst := (some 95), op := .move (.tmp 98), ty := 31, guard := none },
  { dst := (some 99), op := .extract (.tmp 95) 0, ty := 23, guard := none },
  { dst := (some 100), op := .extract (.tmp 95) 1, ty := 24, guard := none },
  { dst := (some 18), op := .alloc 23, ty := 0, guard := none },
  { dst := none, op := .store 23 (.tmp 18) (.tmp 99), ty := 0, guard := none },
  { dst := (some 19), op := .assign (.tmp 100), ty := 24, guard := none }]
def c8_50 : AC := .region o8_50 []
theorem n8_50 : Run Cx 8 T ds ro (.code c8_50 :: k) H Q = RunOps Cx 8 T ds ro o8_50 k H Q := run_region
def o8_52 : List AO := [{ dst := (some 102), op := .load 23 (.tmp 10), ty := 23, guard := none },
  { dst := (some 103), op := .move (.tmp 7), ty := 4, guard := none },
  { dst := (some 104), op := .call { callee := (.value (.func 23)), args := #[(.tmp 102), (.tmp 103)], argTypes := #[23, 4] }, ty := 31, guard := none },
  { dst := (some 101), op := .move (.tmp 104), ty := 31, guard := none },
  { dst := (some 105), op := .extract (.tmp 101) 0, ty := 23, guard := none },
  { dst := (some 106), op := .extract (.tmp 101) 1, ty := 24, guard := none },
  { dst := (some 20), op := .alloc 23, ty := 0, guard := none },
  { dst := none, op := .store 23 (.tmp 20) (.tmp 105), ty := 0, guard := none },
  { dst := (some 21), op := .assign (.tmp 106), ty := 24, guard := none }]
def c8_52 : AC := .region o8_52 []
theorem n8_52 : Run Cx 8 T ds ro (.code c8_52 :: k) H Q = RunOps Cx 8 T ds ro o8_52 k H Q := run_region
def o8_54 : List AO := [{ dst := (some 108), op := .load 23 (.tmp 3), ty := 23, guard := none },
  { dst := (some 109), op := .load 23 (.tmp 4), ty := 23, guard := none },
  { dst := (some 110), op := .call { callee := (.value (.func 16)), args := #[(.tmp 108), (.tmp 109)], argTypes := #[23, 23] }, ty := 31, guard := none },
  { dst := (some 107), op := .move (.tmp 110), ty := 31, guard := none },
  { dst := (some 111), op := .extract (.tmp 107) 0, ty := 23, guard := none },
  { dst := (some 112), op := .extract (.tmp 107) 1, ty := 24, guard := none },
  { dst := (some 22), op := .alloc 23, ty := 0, guard := none },
  { dst := none, op := .store 23 (.tmp 22) (.tmp 111), ty := 0, guard := none },
  { dst := (some 23), op := .assign (.tmp 112), ty := 24, guard := none }]
def c8_54 : AC := .region o8_54 []
theorem n8_54 : Run Cx 8 T ds ro (.code c8_54 :: k) H Q = RunOps Cx 8 T ds ro o8_54 k H Q := run_region
def o8_56 : List AO := [{ dst := (some 114), op := .load 23 (.tmp 11), ty := 23, guard := none },
  { dst := (some 115), op := .move (.tmp 7), ty := 4, guard := none },
  { dst := (some 116), op := .call { callee := (.value (.func 23)), args := #[(.tmp 114), (.tmp 115)], argTypes := #[23, 4] }, ty := 31, guard := none },
  { dst := (some 113), op := .move (.tmp 116), ty := 31, guard := none },
  { dst := (some 117), op := .extract (.tmp 113) 0, ty := 23, guard := none },
  { dst := (some 118), op := .extract (.tmp 113) 1, ty := 24, guard := none },
  { dst := (some 24), op := .alloc 23, ty := 0, guard := none },
  { dst := none, op := .store 23 (.tmp 24) (.tmp 117), ty := 0, guard := none },
  { dst := (some 25), op := .assign (.tmp 118), ty := 24, guard := none }]
def c8_56 : AC := .region o8_56 []
theorem n8_56 : Run Cx 8 T ds ro (.code c8_56 :: k) H Q = RunOps Cx 8 T ds ro o8_56 k H Q := run_region
def o8_58 : List AO := [{ dst := (some 120), op := .load 23 (.tmp 3), ty := 23, guard := none },
  { dst := (some 121), op := .move (.tmp 2), ty := 3, guard := none },
  { dst := (some 122), op := .call { callee := (.value (.func 20)), args := #[(.tmp 120), (.tmp 121)], argTypes := #[23, 3] }, ty := 31, guard := none },
  { dst := (some 119), op := .move (.tmp 122), ty := 31, guard := none },
  { dst := (some 123), op := .extract (.tmp 119) 0, ty := 23, guard := none },
  { dst := (some 124), op := .extract (.tmp 119) 1, ty := 24, guard := none },
  { dst := (some 26), op := .alloc 23, ty := 0, guard := none },
  { dst := none, op := .store 23 (.tmp 26) (.tmp 123), ty := 0, guard := none },
  { dst := (some 27), op := .assign (.tmp 124), ty := 24, guard := none }]
def c8_58 : AC := .region o8_58 []
theorem n8_58 : Run Cx 8 T ds ro (.code c8_58 :: k) H Q = RunOps Cx 8 T ds ro o8_58 k H Q := run_region
def o8_60 : List AO := [{ dst := (some 126), op := .load 23 (.tmp 12), ty := 23, guard := none },
  { dst := (some 127), op := .move (.tmp 8), ty := 4, guard := none },
  { dst := (some 128), op := .call { callee := (.value (.func 23)), args := #[(.tmp 126), (.tmp 127)], argTypes := #[23, 4] }, ty := 31, guard := none },
  { dst := (some 125), op := .move (.tmp 128), ty := 31, guard := none },
  { dst := (some 129), op := .extract (.tmp 125) 0, ty := 23, guard := none },
  { dst := (some 130), op := .extract (.tmp 125) 1, ty := 24, guard := none },
  { dst := (some 28), op := .alloc 23, ty := 0, guard := none },
  { dst := none, op := .store 23 (.tmp 28) (.tmp 129), ty := 0, guard := none },
  { dst := (some 29), op := .assign (.tmp 130), ty := 24, guard := none }]
def c8_60 : AC := .region o8_60 []
theorem n8_60 : Run Cx 8 T ds ro (.code c8_60 :: k) H Q = RunOps Cx 8 T ds ro o8_60 k H Q := run_region
def o8_62 : List AO := [{ dst := (some 132), op := .load 23 (.tmp 3), ty := 23, guard := none },
  { dst := (some 133), op := .call { callee := (.value (.func 21)), args := #[(.tmp 132)], argTypes := #[23] }, ty := 31, guard := none },
  { dst := (some 131), op := .move (.tmp 133), ty := 31, guard := none },
  { dst := (some 134), op := .extract (.tmp 131) 0, ty := 23, guard := none },
  { dst := (some 135), op := .extract (.tmp 131) 1, ty := 24, guard := none },
  { dst := (some 30), op := .alloc 23, ty := 0, guard := none },
  { dst := none, op := .store 23 (.tmp 30) (.tmp 134), ty := 0, guard := none },
  { dst := (some 31), op := .assign (.tmp 135), ty := 24, guard := none }]
def c8_62 : AC := .region o8_62 []
theorem n8_62 : Run Cx 8 T ds ro (.code c8_62 :: k) H Q = RunOps Cx 8 T ds ro o8_62 k H Q := run_region
def o8_64 : List AO := [{ dst := (some 137), op := .load 23 (.tmp 3), ty := 23, guard := none },
  { dst := (some 138), op := .call { callee := (.value (.func 11)), args := #[(.tmp 137)], argTypes := #[23] }, ty := 28, guard := none },
  { dst := (some 136), op := .move (.tmp 138), ty := 28, guard := none },
  { dst := (some 139), op := .extract (.tmp 136) 0, ty := 3, guard := none },
  { dst := (some 140), op := .extract (.tmp 136) 1, ty := 24, guard := none },
  { dst := (some 32), op := .assign (.tmp 139), ty := 3, guard := none },
  { dst := (some 33), op := .assign (.tmp 140), ty := 24, guard := none }]
def c8_64 : AC := .region o8_64 []
theorem n8_64 : Run Cx 8 T ds ro (.code c8_64 :: k) H Q = RunOps Cx 8 T ds ro o8_64 k H Q := run_region
def o8_67 : List AO := [{ dst := (some 141), op := .load 23 (.tmp 14), ty := 23, guard := none },
  { dst := (some 142), op := .load 23 (.tmp 16), ty := 23, guard := none },
  { dst := (some 143), op := .binOp .neq 23 (.tmp 141) (.tmp 142) 23, ty := 4, guard := none },
  { dst := (some 144), op := .move (.tmp 143), ty := 4, guard := none },
  { dst := (some 145), op := .move (.tmp 15), ty := 24, guard := (some (144, false)) },
  { dst := (some 146), op := .move (.tmp 17), ty := 24, guard := (some (144, false)) },
  { dst := (some 147), op := .binOp .neq 24 (.tmp 145) (.tmp 146) 24, ty := 4, guard := (some (144, false)) },
  { dst := (some 148), op := .pick (.tmp 144) (.const (.bool true)) (.tmp 147), ty := 4, guard := none },
  { dst := (some 149), op := .move (.tmp 148), ty := 4, guard := none },
  { dst := (some 150), op := .load 23 (.tmp 18), ty := 23, guard := (some (149, false)) },
  { dst := (some 151), op := .load 23 (.tmp 20), ty := 23, guard := (some (149, false)) },
  { dst := (some 152), op := .binOp .neq 23 (.tmp 150) (.tmp 151) 23, ty := 4, guard := (some (149, false)) },
  { dst := (some 153), op := .pick (.tmp 149) (.const (.bool true)) (.tmp 152), ty := 4, guard := none },
  { dst := (some 154), op := .move (.tmp 153), ty := 4, guard := none },
  { dst := (some 155), op := .move (.tmp 19), ty := 24, guard := (some (154, false)) },
  { dst := (some 156), op := .move (.tmp 21), ty := 24, guard := (some (154, false)) },
  { dst := (some 157), op := .binOp .neq 24 (.tmp 155) (.tmp 156) 24, ty := 4, guard := (some (154, false)) },
  { dst := (some 158), op := .pick (.tmp 154) (.const (.bool true)) (.tmp 157), ty := 4, guard := none },
  { dst := (some 159), op := .move (.tmp 158), ty := 4, guard := none },
  { dst := (some 160), op := .load 23 (.tmp 22), ty := 23, guard := (some (159, false)) },
  { dst := (some 161), op := .load 23 (.tmp 24), ty := 23, guard := (some (159, false)) },
  { dst := (some 162), op := .binOp .neq 23 (.tmp 160) (.tmp 161) 23, ty := 4, guard := (some (159, false)) },
  { dst := (some 163), op := .pick (.tmp 159) (.const (.bool true)) (.tmp 162), ty := 4, guard := none },
  { dst := (some 164), op := .move (.tmp 163), ty := 4, guard := none },
  { dst := (some 165), op := .move (.tmp 23), ty := 24, guard := (some (164, false)) },
  { dst := (some 166), op := .move (.tmp 25), ty := 24, guard := (some (164, false)) },
  { dst := (some 167), op := .binOp .neq 24 (.tmp 165) (.tmp 166) 24, ty := 4, guard := (some (164, false)) },
  { dst := (some 168), op := .pick (.tmp 164) (.const (.bool true)) (.tmp 167), ty := 4, guard := none },
  { dst := (some 169), op := .move (.tmp 168), ty := 4, guard := none },
  { dst := (some 170), op := .load 23 (.tmp 26), ty := 23, guard := (some (169, false)) },
  { dst := (some 171), op := .load 23 (.tmp 28), ty := 23, guard := (some (169, false)) },
  { dst := (some 172), op := .binOp .neq 23 (.tmp 170) (.tmp 171) 23, ty := 4, guard := (some (169, false)) },
  { dst := (some 173), op := .pick (.tmp 169) (.const (.bool true)) (.tmp 172), ty := 4, guard := none },
  { dst := (some 174), op := .move (.tmp 173), ty := 4, guard := none },
  { dst := (some 175), op := .move (.tmp 27), ty := 24, guard := (some (174, false)) },
  { dst := (some 176), op := .move (.tmp 29), ty := 24, guard := (some (174, false)) },
  { dst := (some 177), op := .binOp .neq 24 (.tmp 175) (.tmp 176) 24, ty := 4, guard := (some (174, false)) },
  { dst := (some 178), op := .pick (.tmp 174) (.const (.bool true)) (.tmp 177), ty := 4, guard := none }]
def c8_67 : AC := .region o8_67 []
theorem n8_67 : Run Cx 8 T ds ro (.code c8_67 :: k) H Q = RunOps Cx 8 T ds ro o8_67 k H Q := run_region
def o8_70 : List AO := [{ dst := (some 6), op := .assign (.const (.bool false)), ty := 4, guard := none }]
def c8_70 : AC := .region o8_70 []
theorem n8_70 : Run Cx 8 T ds ro (.code c8_70 :: k) H Q = RunOps Cx 8 T ds ro o8_70 k H Q := run_region
def c8_71 : AC := .ret
theorem n8_71 : Run Cx 8 T [] none (.code c8_71 :: k) H Q = RunRes Cx T H Q (resOf Cx 8) := run_ret
def c8_69 : AC := .seq c8_70 c8_71
theorem n8_69 : Run Cx 8 T ds ro (.code c8_69 :: k) H Q = Run Cx 8 T ds ro (.code c8_70 :: .code c8_71 :: k) H Q := run_seq
def c8_72 : AC := .skip
theorem n8_72 : Run Cx 8 T ds ro (.code c8_72 :: k) H Q = Run Cx 8 T ds ro (k) H Q := run_skip
def c8_68 : AC := .cond (.tmp 178) c8_69 c8_72
theorem n8_68 : Run Cx 8 T ds ro (.code c8_68 :: k) H Q = RunCond Cx 8 T ds ro (.tmp 178) (ev T (.tmp 178)) c8_69 c8_72 k H Q := run_condC
def c8_66 : AC := .seq c8_67 c8_68
theorem n8_66 : Run Cx 8 T ds ro (.code c8_66 :: k) H Q = Run Cx 8 T ds ro (.code c8_67 :: .code c8_68 :: k) H Q := run_seq
def o8_75 : List AO := [{ dst := (some 179), op := .move (.tmp 8), ty := 4, guard := none },
  { dst := (some 180), op := .move (.tmp 179), ty := 4, guard := none },
  { dst := (some 181), op := .move (.tmp 31), ty := 24, guard := (some (180, true)) },
  { dst := (some 182), op := .binOp .neq 24 (.tmp 181) (.const (.int .i64 0)) 24, ty := 4, guard := (some (180, true)) },
  { dst := (some 183), op := .move (.tmp 182), ty := 4, guard := (some (180, true)) },
  { dst := (some 184), op := .move (.tmp 33), ty := 24, guard := (some (183, false)) },
  { dst := (some 185), op := .binOp .neq 24 (.tmp 184) (.const (.int .i64 0)) 24, ty := 4, guard := (some (183, false)) },
  { dst := (some 186), op := .pick (.tmp 183) (.const (.bool true)) (.tmp 185), ty := 4, guard := (some (180, true)) },
  { dst := (some 187), op := .move (.tmp 186), ty := 4, guard := (some (180, true)) },
  { dst := (some 188), op := .load 23 (.tmp 30), ty := 23, guard := (some (187, false)) },
  { dst := (some 189), op := .fieldAddr 23 (.tmp 3) 0, ty := 0, guard := (some (187, false)) },
  { dst := (some 190), op := .load 3 (.tmp 189), ty := 3, guard := (some (187, false)) },
  { dst := (some 191), op := .fieldAddr 23 (.tmp 3) 1, ty := 0, guard := (some (187, false)) },
  { dst := (some 192), op := .load 3 (.tmp 191), ty := 3, guard := (some (187, false)) },
  { dst := (some 193), op := .unOp .neg 3 (.tmp 192), ty := 3, guard := (some (187, false)) },
  { dst := (some 194), op := .build 23 #[(0, (.tmp 190)), (1, (.tmp 193))], ty := 23, guard := (some (187, false)) },
  { dst := (some 195), op := .binOp .neq 23 (.tmp 188) (.tmp 194) 23, ty := 4, guard := (some (187, false)) },
  { dst := (some 196), op := .pick (.tmp 187) (.const (.bool true)) (.tmp 195), ty := 4, guard := (some (180, true)) },
  { dst := (some 197), op := .move (.tmp 196), ty := 4, guard := (some (180, true)) },
  { dst := (some 198), op := .move (.tmp 32), ty := 3, guard := (some (197, false)) },
  { dst := (some 199), op := .load 23 (.tmp 3), ty := 23, guard := (some (197, false)) },
  { dst := (some 200), op := .call { callee := (.value (.func 24)), args := #[(.tmp 199)], argTypes := #[23] }, ty := 3, guard := (some (197, false)) },
  { dst := (some 201), op := .binOp .neq 3 (.tmp 198) (.tmp 200) 3, ty := 4, guard := (some (197, false)) },
  { dst := (some 202), op := .pick (.tmp 197) (.const (.bool true)) (.tmp 201), ty := 4, guard := (some (180, true)) },
  { dst := (some 203), op := .pick (.tmp 180) (.tmp 202) (.const (.bool false)), ty := 4, guard := none },
  { dst := (some 204), op := .move (.tmp 203), ty := 4, guard := none },
  { dst := (some 205), op := .move (.tmp 8), ty := 4, guard := (some (204, false)) },
  { dst := (some 206), op := .unOp .not 4 (.tmp 205), ty := 4, guard := (some (204, false)) },
  { dst := (some 207), op := .move (.tmp 206), ty := 4, guard := (some (204, false)) },
  { dst := (some 208), op := .move (.tmp 31), ty := 24, guard := (some (207, true)) },
  { dst := (some 209), op := .binOp .neq 24 (.tmp 208) (.const (.int .i64 14)) 24, ty := 4, guard := (some (207, true)) },
  { dst := (some 210), op := .move (.tmp 209), ty := 4, guard := (some (207, true)) },
  { dst := (some 211), op := .move (.tmp 33), ty := 24, guard := (some (210, false)) },
  { dst := (some 212), op := .move (.tmp 31), ty := 24, guard := (some (210, false)) },
  { dst := (some 213), op := .binOp .neq 24 (.tmp 211) (.tmp 212) 24, ty := 4, guard := (some (210, false)) },
  { dst := (some 214), op := .pick (.tmp 210) (.const (.bool true)) (.tmp 213), ty := 4, guard := (some (207, true)) },
  { dst := (some 215), op := .pick (.tmp 207) (.tmp 214) (.const (.bool false)), ty := 4, guard := (some (204, false)) },
  { dst := (some 216), op := .pick (.tmp 204) (.const (.bool true)) (.tmp 215), ty := 4, guard := none }]
def c8_75 : AC := .region o8_75 []
theorem n8_75 : Run Cx 8 T ds ro (.code c8_75 :: k) H Q = RunOps Cx 8 T ds ro o8_75 k H Q := run_region
def o8_78 : List AO := [{ dst := (some 6), op := .assign (.const (.bool false)), ty := 4, guard := none }]
def c8_78 : AC := .region o8_78 []
theorem n8_78 : Run Cx 8 T ds ro (.code c8_78 :: k) H Q = RunOps Cx 8 T ds ro o8_78 k H Q := run_region
def c8_79 : AC := .ret
theorem n8_79 : Run Cx 8 T [] none (.code c8_79 :: k) H Q = RunRes Cx T H Q (resOf Cx 8) := run_ret
def c8_77 : AC := .seq c8_78 c8_79
theorem n8_77 : Run Cx 8 T ds ro (.code c8_77 :: k) H Q = Run Cx 8 T ds ro (.code c8_78 :: .code c8_79 :: k) H Q := run_seq
def c8_80 : AC := .skip
theorem n8_80 : Run Cx 8 T ds ro (.code c8_80 :: k) H Q = Run Cx 8 T ds ro (k) H Q := run_skip
def c8_76 : AC := .cond (.tmp 216) c8_77 c8_80
theorem n8_76 : Run Cx 8 T ds ro (.code c8_76 :: k) H Q = RunCond Cx 8 T ds ro (.tmp 216) (ev T (.tmp 216)) c8_77 c8_80 k H Q := run_condC
def c8_74 : AC := .seq c8_75 c8_76
theorem n8_74 : Run Cx 8 T ds ro (.code c8_74 :: k) H Q = Run Cx 8 T ds ro (.code c8_75 :: .code c8_76 :: k) H Q := run_seq
def o8_82 : List AO := [{ dst := (some 217), op := .load 23 (.tmp 3), ty := 23, guard := none },
  { dst := (some 218), op := .call { callee := (.value (.func 19)), args := #[(.tmp 217)], argTypes := #[23] }, ty := 4, guard := none },
  { dst := (some 219), op := .move (.tmp 8), ty := 4, guard := none },
  { dst := (some 220), op := .binOp .eql 4 (.tmp 218) (.tmp 219) 4, ty := 4, guard := none },
  { dst := (some 221), op := .move (.tmp 220), ty := 4, guard := none },
  { dst := (some 222), op := .load 23 (.tmp 3), ty := 23, guard := (some (221, true)) },
  { dst := (some 223), op := .load 23 (.tmp 4), ty := 23, guard := (some (221, true)) },
  { dst := (some 224), op := .call { callee := (.value (.func 25)), args := #[(.tmp 222), (.tmp 223)], argTypes := #[23, 23] }, ty := 4, guard := (some (221, true)) },
  { dst := (some 225), op := .fieldAddr 23 (.tmp 3) 0, ty := 0, guard := (some (221, true)) },
  { dst := (some 226), op := .load 3 (.tmp 225), ty := 3, guard := (some (221, true)) },
  { dst := (some 227), op := .fieldAddr 23 (.tmp 4) 0, ty := 0, guard := (some (221, true)) },
  { dst := (some 228), op := .load 3 (.tmp 227), ty := 3, guard := (some (221, true)) },
  { dst := (some 229), op := .binOp .lss 3 (.tmp 226) (.tmp 228) 3, ty := 4, guard := (some (221, true)) },
  { dst := (some 230), op := .move (.tmp 229), ty := 4, guard := (some (221, true)) },
  { dst := (some 231), op := .fieldAddr 23 (.tmp 3) 0, ty := 0, guard := (some (230, false)) },
  { dst := (some 232), op := .load 3 (.tmp 231), ty := 3, guard := (some (230, false)) },
  { dst := (some 233), op := .fieldAddr 23 (.tmp 4) 0, ty := 0, guard := (some (230, false)) },
  { dst := (some 234), op := .load 3 (.tmp 233), ty := 3, guard := (some (230, false)) },
  { dst := (some 235), op := .binOp .eql 3 (.tmp 232) (.tmp 234) 3, ty := 4, guard := (some (230, false)) },
  { dst := (some 236), op := .move (.tmp 235), ty := 4, guard := (some (230, false)) },
  { dst := (some 237), op := .fieldAddr 23 (.tmp 3) 1, ty := 0, guard := (some (236, true)) },
  { dst := (some 238), op := .load 3 (.tmp 237), ty := 3, guard := (some (236, true)) },
  { dst := (some 239), op := .fieldAddr 23 (.tmp 4) 1, ty := 0, guard := (some (236, true)) },
  { dst := (some 240), op := .load 3 (.tmp 239), ty := 3, guard := (some (236, true)) },
  { dst := (some 241), op := .binOp .lss 3 (.tmp 238) (.tmp 240) 3, ty := 4, guard := (some (236, true)) },
  { dst := (some 242), op := .pick (.tmp 236) (.tmp 241) (.const (.bool false)), ty := 4, guard := (some (230, false)) },
  { dst := (some 243), op := .pick (.tmp 230) (.const (.bool true)) (.tmp 242), ty := 4, guard := (some (221, true)) },
  { dst := (some 244), op := .binOp .eql 4 (.tmp 224) (.tmp 243) 4, ty := 4, guard := (some (221, true)) },
  { dst := (some 245), op := .pick (.tmp 221) (.tmp 244) (.const (.bool false)), ty := 4, guard := none },
  { dst := (some 6), op := .assign (.tmp 245), ty := 4, guard := none }]
def c8_82 : AC := .region o8_82 []
theorem n8_82 : Run Cx 8 T ds ro (.code c8_82 :: k) H Q = RunOps Cx 8 T ds ro o8_82 k H Q := run_region
def c8_83 : AC := .ret
theorem n8_83 : Run Cx 8 T [] none (.code c8_83 :: k) H Q = RunRes Cx T H Q (resOf Cx 8) := run_ret
def c8_81 : AC := .seq c8_82 c8_83
theorem n8_81 : Run Cx 8 T ds ro (.code c8_81 :: k) H Q = Run Cx 8 T ds ro (.code c8_82 :: .code c8_83 :: k) H Q := run_seq
def c8_73 : AC := .seq c8_74 c8_81
theorem n8_73 : Run Cx 8 T ds ro (.code c8_73 :: k) H Q = Run Cx 8 T ds ro (.code c8_74 :: .code c8_81 :: k) H Q := run_seq
def c8_65 : AC := .seq c8_66 c8_73
theorem n8_65 : Run Cx 8 T ds ro (.code c8_65 :: k) H Q = Run Cx 8 T ds ro (.code c8_66 :: .code c8_73 :: k) H Q := run_seq
def c8_63 : AC := .seq c8_64 c8_65
theorem n8_63 : Run Cx 8 T ds ro (.code c8_63 :: k) H Q = Run Cx 8 T ds ro (.code c8_64 :: .code c8_65 :: k) H Q := run_seq
def c8_61 : AC := .seq c8_62 c8_63
theorem n8_61 : Run Cx 8 T ds ro (.code c8_61 :: k) H Q = Run Cx 8 T ds ro (.code c8_62 :: .code c8_63 :: k) H Q := run_seq
def c8_59 : AC := .seq c8_60 c8_61
theorem n8_59 : Run Cx 8 T ds ro (.code c8_59 :: k) H Q = Run Cx 8 T ds ro (.code c8_60 :: .code c8_61 :: k) H Q := run_seq
def c8_57 : AC := .seq c8_58 c8_59
theorem n8_57 : Run Cx 8 T ds ro (.code c8_57 :: k) H Q = Run Cx 8 T ds ro (.code c8_58 :: .code c8_59 :: k) H Q := run_seq
def c8_55 : AC := .seq c8_56 c8_57
theorem n8_55 : Run Cx 8 T ds ro (.code c8_55 :: k) H Q = Run Cx 8 T ds ro (.code c8_56 :: .code c8_57 :: k) H Q := run_seq
def c8_53 : AC := .seq c8_54 c8_55
theorem n8_53 : Run Cx 8 T ds ro (.code c8_53 :: k) H Q = Run Cx 8 T ds ro (.code c8_54 :: .code c8_55 :: k) H Q := run_seq
def c8_51 : AC := .seq c8_52 c8_53
theorem n8_51 : Run Cx 8 T ds ro (.code c8_51 :: k) H Q = Run Cx 8 T ds ro (.code c8_52 :: .code c8_53 :: k) H Q := run_seq
def c8_49 : AC := .seq c8_50 c8_51
theorem n8_49 : Run Cx 8 T ds ro (.code c8_49 :: k) H Q = Run Cx 8 T ds ro (.code c8_50 :: .code c8_51 :: k) H Q := run_seq
def c8_47 : AC := .seq c8_48 c8_49
theorem n8_47 : Run Cx 8 T ds ro (.code c8_47 :: k) H Q = Run Cx 8 T ds ro (.code c8_48 :: .code c8_49 :: k) H Q := run_seq
def c8_45 : AC := .seq c8_46 c8_47
theorem n8_45 : Run Cx 8 T ds ro (.code c8_45 :: k) H Q = Run Cx 8 T ds ro (.code c8_46 :: .code c8_47 :: k) H Q := run_seq
def c8_24 : AC := .seq c8_25 c8_45
theorem n8_24 : Run Cx 8 T ds ro (.code c8_24 :: k) H Q = Run Cx 8 T ds ro (.code c8_25 :: .code c8_45 :: k) H Q := run_seq
def c8_14 : AC := .seq c8_15 c8_24
theorem n8_14 : Run Cx 8 T ds ro (.code c8_14 :: k) H Q = Run Cx 8 T ds ro (.code c8_15 :: .code c8_24 :: k) H Q := run_seq
def c8_12 : AC := .seq c8_13 c8_14
theorem n8_12 : Run Cx 8 T ds ro (.code c8_12 :: k) H Q = Run Cx 8 T ds ro (.code c8_13 :: .code c8_14 :: k) H Q := run_seq
def c8_10 : AC := .seq c8_11 c8_12
theorem n8_10 : Run Cx 8 T ds ro (.code c8_10 :: k) H Q = Run Cx 8 T ds ro (.code c8_11 :: .code c8_12 :: k) H Q := run_seq
def c8_2 : AC := .seq c8_3 c8_10
theorem n8_2 : Run Cx 8 T ds ro (.code c8_2 :: k) H Q = Run Cx 8 T ds ro (.code c8_3 :: .code c8_10 :: k) H Q := run_seq
def c8_0 : AC := .seq c8_1 c8_2
theorem n8_0 : Run Cx 8 T ds ro (.code c8_0 :: k) H Q = Run Cx 8 T ds ro (.code c8_1 :: .code c8_2 :: k) H Q := run_seq
theorem body8 : bodyOf Cx 8 = some c8_0 := by kernel_rfl
theorem res8 : resOf Cx 8 = some [.tmp 6] := by kernel_rfl
theorem pure8 : Cx.pure 8 = true := by kernel_rfl
-- RULES 8: n8_0, n8_1, n8_2, n8_3, n8_4, n8_5, n8_6, n8_7, n8_8, n8_9, n8_10, n8_11, n8_12, n8_13, n8_14, n8_15, n8_16, n8_17, n8_18, n8_19, n8_20, n8_21, n8_22, n8_23, n8_24, n8_25, n8_26, n8_27, n8_28, n8_29, n8_30, n8_31, n8_32, n8_33, n8_34, n8_35, n8_36, n8_37, n8_38, n8_39, n8_40, n8_41, n8_42, n8_43, n8_44, n8_45, n8_46, n8_47, n8_48, n8_49, n8_50, n8_51, n8_52, n8_53, n8_54, n8_55, n8_56, n8_57, n8_58, n8_59, n8_60, n8_61, n8_62, n8_63, n8_64, n8_65, n8_66, n8_67, n8_68, n8_69, n8_70, n8_71, n8_72, n8_73, n8_74, n8_75, n8_76, n8_77, n8_78, n8_79, n8_80, n8_81, n8_82, n8_83
def o9_1 : List AO := [{ dst := (some 2), op := .box 23 (.tmp 0), ty := 0, guard := none },
  { dst := (some 3), op := .box 23 (.tmp 1), ty := 0, guard := none },
  { dst := (some 4), op := .alloc 23, ty := 0, guard := none },
  { dst := (some 5), op := .alloc 23, ty := 0, guard := none },
  { dst := (some 6), op := .assign (.const (.int .i64 0)), ty := 24, guard := none }]
def c9_1 : AC := .region o9_1 []
theorem n9_1 : Run Cx 9 T ds ro (.code c9_1 :: k) H Q = RunOps Cx 9 T ds ro o9_1 k H Q := run_region
def o9_5 : List AO := [{ dst := (some 10), op := .load 23 (.tmp 2), ty := 23, guard := none },
  { dst := (some 11), op := .call { callee := (.value (.func 19)), args := #[(.tmp 10)], argTypes := #[23] }, ty := 4, guard := none },
  { dst := (some 12), op := .unOp .not 4 (.tmp 11), ty := 4, guard := none },
  { dst := (some 13), op := .move (.tmp 12), ty := 4, guard := none },
  { dst := (some 14), op := .load 23 (.tmp 3), ty := 23, guard := (some (13, false)) },
  { dst := (some 15), op := .call { callee := (.value (.func 19)), args := #[(.tmp 14)], argTypes := #[23] }, ty := 4, guard := (some (13, false)) },
  { dst := (some 16), op := .unOp .not 4 (.tmp 15), ty := 4, guard := (some (13, false)) },
  { dst := (some 17), op := .pick (.tmp 13) (.const (.bool true)) (.tmp 16), ty := 4, guard := none },
  { dst := (some 9), op := .assign (.tmp 17), ty := 4, guard := none }]
def c9_5 : AC := .region o9_5 []
theorem n9_5 : Run Cx 9 T ds ro (.code c9_5 :: k) H Q = RunOps Cx 9 T ds ro o9_5 k H Q := run_region
def o9_8 : List AO := [{ dst := (some 18), op := .build 23 #[], ty := 23, guard := none },
  { dst := (some 19), op := .build 23 #[], ty := 23, guard := none },
  { dst := none, op := .store 23 (.tmp 4) (.tmp 18), ty := 0, guard := none },
  { dst := none, op := .store 23 (.tmp 5) (.tmp 19), ty := 0, guard := none },
  { dst := (some 6), op := .assign (.const (.int .i64 14)), ty := 24, guard := none }]
def c9_8 : AC := .region o9_8 []
theorem n9_8 : Run Cx 9 T ds ro (.code c9_8 :: k) H Q = RunOps Cx 9 T ds ro o9_8 k H Q := run_region
def c9_9 : AC := .ret
theorem n9_9 : Run Cx 9 T [] none (.code c9_9 :: k) H Q = RunRes Cx T H Q (resOf Cx 9) := run_ret
def c9_7 : AC := .seq c9_8 c9_9
theorem n9_7 : Run Cx 9 T ds ro (.code c9_7 :: k) H Q = Run Cx 9 T ds ro (.code c9_8 :: .code c9_9 :: k) H Q := run_seq
def o9_11 : List AO := [{ dst := (some 21), op := .load 23 (.tmp 3), ty := 23, guard := none },
  { dst := (some 22), op := .build 23 #[], ty := 23, guard := none },
  { dst := (some 23), op := .binOp .eql 23 (.tmp 21) (.tmp 22) 23, ty := 4, guard := none },
  { dst := (some 20), op := .assign (.tmp 23), ty := 4, guard := none }]
def c9_11 : AC := .region o9_11 []
theorem n9_11 : Run Cx 9 T ds ro (.code c9_11 :: k) H Q = RunOps Cx 9 T ds ro o9_11 k H Q := run_region
def o9_14 : List AO := [{ dst := (some 24), op := .build 23 #[], ty := 23, guard := none },
  { dst := (some 25), op := .build 23 #[], ty := 23, guard := none },
  { dst := none, op := .store 23 (.tmp 4) (.tmp 24), ty := 0, guard := none },
  { dst := none, op := .store 23 (.tmp 5) (.tmp 25), ty := 0, guard := none },
  { dst := (some 6), op := .assign (.const (.int .i64 16)), ty := 24, guard := none }]
def c9_14 : AC := .region o9_14 []
theorem n9_14 : Run Cx 9 T ds ro (.code c9_14 :: k) H Q = RunOps Cx 9 T ds ro o9_14 k H Q := run_region
def c9_15 : AC := .ret
theorem n9_15 : Run Cx 9 T [] none (.code c9_15 :: k) H Q = RunRes Cx T H Q (resOf Cx 9) := run_ret
def c9_13 : AC := .seq c9_14 c9_15
theorem n9_13 : Run Cx 9 T ds ro (.code c9_13 :: k) H Q = Run Cx 9 T ds ro (.code c9_14 :: .code c9_15 :: k) H Q := run_seq
def c9_16 : AC := .skip
theorem n9_16 : Run Cx 9 T ds ro (.code c9_16 :: k) H Q = Run Cx 9 T ds ro (k) H Q := run_skip
def c9_12 : AC := .cond (.tmp 20) c9_13 c9_16
theorem n9_12 : Run Cx 9 T ds ro (.code c9_12 :: k) H Q = RunCond Cx 9 T ds ro (.tmp 20) (ev T (.tmp 20)) c9_13 c9_16 k H Q := run_condC
def c9_10 : AC := .seq c9_11 c9_12
theorem n9_10 : Run Cx 9 T ds ro (.code c9_10 :: k) H Q = Run Cx 9 T ds ro (.code c9_11 :: .code c9_12 :: k) H Q := run_seq
def c9_6 : AC := .cond (.tmp 9) c9_7 c9_10
theorem n9_6 : Run Cx 9 T ds ro (.code c9_6 :: k) H Q = RunCond Cx 9 T ds ro (.tmp 9) (ev T (.tmp 9)) c9_7 c9_10 k H Q := run_condC
def c9_4 : AC := .seq c9_5 c9_6
theorem n9_4 : Run Cx 9 T ds ro (.code c9_4 :: k) H Q = Run Cx 9 T ds ro (.code c9_5 :: .code c9_6 :: k) H Q := run_seq
def c9_3 : AC := .block 0 c9_4
theorem n9_3 : Run Cx 9 T ds ro (.code c9_3 :: k) H Q = Run Cx 9 T ds ro (.code c9_4 :: .inBlock 0 :: k) H Q := run_block
def o9_18 : List AO := [{ dst := (some 27), op := .load 23 (.tmp 2), ty := 23, guard := none },
  { dst := (some 28), op := .load 23 (.tmp 3), ty := 23, guard := none },
  { dst := (some 29), op := .call { callee := (.value (.func 26)), args := #[(.tmp 27), (.tmp 28)], argTypes := #[23, 23] }, ty := 36, guard := none },
  { dst := (some 26), op := .move (.tmp 29), ty := 36, guard := none },
  { dst := (some 30), op := .extract (.tmp 26) 0, ty := 23, guard := none },
  { dst := (some 31), op := .extract (.tmp 26) 1, ty := 23, guard := none },
  { dst := (some 7), op := .alloc 23, ty := 0, guard := none },
  { dst := (some 8), op := .alloc 23, ty := 0, guard := none },
  { dst := none, op := .store 23 (.tmp 7) (.tmp 30), ty := 0, guard := none },
  { dst := none, op := .store 23 (.tmp 8) (.tmp 31), ty := 0, guard := none }]
def c9_18 : AC := .region o9_18 []
theorem n9_18 : Run Cx 9 T ds ro (.code c9_18 :: k) H Q = RunOps Cx 9 T ds ro o9_18 k H Q := run_region
def o9_21 : List AO := [{ dst := (some 32), op := .load 23 (.tmp 7), ty := 23, guard := none },
  { dst := (some 33), op := .call { callee := (.value (.func 19)), args := #[(.tmp 32)], argTypes := #[23] }, ty := 4, guard := none },
  { dst := (some 34), op := .unOp .not 4 (.tmp 33), ty := 4, guard := none },
  { dst := (some 35), op := .move (.tmp 34), ty := 4, guard := none },
  { dst := (some 36), op := .load 23 (.tmp 8), ty := 23, guard := (some (35, false)) },
  { dst := (some 37), op := .call { callee := (.value (.func 19)), args := #[(.tmp 36)], argTypes := #[23] }, ty := 4, guard := (some (35, false)) },
  { dst := (some 38), op := .unOp .not 4 (.tmp 37), ty := 4, guard := (some (35, false)) },
  { dst := (some 39), op := .pick (.tmp 35) (.const (.bool true)) (.tmp 38), ty := 4, guard := none }]
def c9_21 : AC := .region o9_21 []
theorem n9_21 : Run Cx 9 T ds ro (.code c9_21 :: k) H Q = RunOps Cx 9 T ds ro o9_21 k H Q := run_region
def o9_24 : List AO := [{ dst := (some 40), op := .build 23 #[], ty := 23, guard := none },
  { dst := (some 41), op := .build 23 #[], ty := 23, guard := none },
  { dst := none, op := .store 23 (.tmp 4) (.tmp 40), ty := 0, guard := none },
  { dst := none, op := .store 23 (.tmp 5) (.tmp 41), ty := 0, guard := none },
  { dst := (some 6), op := .assign (.const (.int .i64 14)), ty := 24, guard := none }]
def c9_24 : AC := .region o9_24 []
theorem n9_24 : Run Cx 9 T ds ro (.code c9_24 :: k) H Q = RunOps Cx 9 T ds ro o9_24 k H Q := run_region
def c9_25 : AC := .ret
theorem n9_25 : Run Cx 9 T [] none (.code c9_25 :: k) H Q = RunRes Cx T H Q (resOf Cx 9) := run_ret
def c9_23 : AC := .seq c9_24 c9_25
theorem n9_23 : Run Cx 9 T ds ro (.code c9_23 :: k) H Q = Run Cx 9 T ds ro (.code c9_24 :: .code c9_25 :: k) H Q := run_seq
def c9_26 : AC := .skip
theorem n9_26 : Run Cx 9 T ds ro (.code c9_26 :: k) H Q = Run Cx 9 T ds ro (k) H Q := run_skip
def c9_22 : AC := .cond (.tmp 39) c9_23 c9_26
theorem n9_22 : Run Cx 9 T ds ro (.code c9_22 :: k) H Q = RunCond Cx 9 T ds ro (.tmp 39) (ev T (.tmp 39)) c9_23 c9_26 k H Q := run_condC
def c9_20 : AC := .seq c9_21 c9_22
theorem n9_20 : Run Cx 9 T ds ro (.code c9_20 :: k) H Q = Run Cx 9 T ds ro (.code c9_21 :: .code c9_22 :: k) H Q := run_seq
def o9_28 : List AO := [{ dst := (some 42), op := .load 23 (.tmp 7), ty := 23, guard := none },
  { dst := (some 43), op := .load 23 (.tmp 8), ty := 23, guard := none },
  { dst := none, op := .store 23 (.tmp 4) (.tmp 42), ty := 0, guard := none },
  { dst := none, op := .store 23 (.tmp 5) (.tmp 43), ty := 0, guard := none },
  { dst := (some 6), op := .assign (.const (.int .i64 0)), ty := 24, guard := none }]
def c9_28 : AC := .region o9_28 [[], [], [8], [], []]
theorem n9_28 : Run Cx 9 T ds ro (.code c9_28 :: k) H Q = (Dyn Cx ro o9_28 [[], [], [8], [], []] T ds H ∧ RunOps Cx 9 T ds ro o9_28 k H Q) := run_regionD
def c9_29 : AC := .ret
theorem n9_29 : Run Cx 9 T [] none (.code c9_29 :: k) H Q = RunRes Cx T H Q (resOf Cx 9) := run_ret
def c9_27 : AC := .seq c9_28 c9_29
theorem n9_27 : Run Cx 9 T ds ro (.code c9_27 :: k) H Q = Run Cx 9 T ds ro (.code c9_28 :: .code c9_29 :: k) H Q := run_seq
def c9_19 : AC := .seq c9_20 c9_27
theorem n9_19 : Run Cx 9 T ds ro (.code c9_19 :: k) H Q = Run Cx 9 T ds ro (.code c9_20 :: .code c9_27 :: k) H Q := run_seq
def c9_17 : AC := .seq c9_18 c9_19
theorem n9_17 : Run Cx 9 T ds ro (.code c9_17 :: k) H Q = Run Cx 9 T ds ro (.code c9_18 :: .code c9_19 :: k) H Q := run_seq
def c9_2 : AC := .seq c9_3 c9_17
theorem n9_2 : Run Cx 9 T ds ro (.code c9_2 :: k) H Q = Run Cx 9 T ds ro (.code c9_3 :: .code c9_17 :: k) H Q := run_seq
def c9_0 : AC := .seq c9_1 c9_2
theorem n9_0 : Run Cx 9 T ds ro (.code c9_0 :: k) H Q = Run Cx 9 T ds ro (.code c9_1 :: .code c9_2 :: k) H Q := run_seq
theorem body9 : bodyOf Cx 9 = some c9_0 := by kernel_rfl
theorem res9 : resOf Cx 9 = some [.cell 4 23, .cell 5 23, .tmp 6] := by kernel_rfl
theorem pure9 : Cx.pure 9 = true := by kernel_rfl
-- RULES 9: n9_0, n9_1, n9_2, n9_3, n9_4, n9_5, n9_6, n9_7, n9_8, n9_9, n9_10, n9_11, n9_12, n9_13, n9_14, n9_15, n9_16, n9_17, n9_18, n9_19, n9_20, n9_21, n9_22, n9_23, n9_24, n9_25, n9_26, n9_27, n9_28, n9_29
def o10_1 : List AO := [{ dst := (some 0), op := .assign (.const (.bool false)), ty := 4, guard := none }]
def c10_1 : AC := .region o10_1 []
theorem n10_1 : Run Cx 10 T ds ro (.code c10_1 :: k) H Q = RunOps Cx 10 T ds ro o10_1 k H Q := run_region
def o10_3 : List AO := [{ dst := (some 7), op := .build 23 #[(0, (.const (.int .i64 1))), (1, (.const (.int .i64 2)))], ty := 23, guard := none },
  { dst := (some 8), op := .build 23 #[(0, (.const (.int .i64 3))), (1, (.const (.int .i64 (-1))))], ty := 23, guard := none },
  { dst := (some 9), op := .call { callee := (.value (.func 16)), args := #[(.tmp 7), (.tmp 8)], argTypes := #[23, 23] }, ty := 31, guard := none },
  { dst := (some 6), op := .move (.tmp 9), ty := 31, guard := none },
  { dst := (some 10), op := .extract (.tmp 6) 0, ty := 23, guard := none },
  { dst := (some 11), op := .extract (.tmp 6) 1, ty := 24, guard := none },
  { dst := (some 1), op := .alloc 23, ty := 0, guard := none },
  { dst := none, op := .store 23 (.tmp 1) (.tmp 10), ty := 0, guard := none },
  { dst := (some 2), op := .assign (.tmp 11), ty := 24, guard := none }]
def c10_3 : AC := .region o10_3 []
theorem n10_3 : Run Cx 10 T ds ro (.code c10_3 :: k) H Q = RunOps Cx 10 T ds ro o10_3 k H Q := run_region
def o10_5 : List AO := [{ dst := (some 13), op := .build 23 #[(0, (.const (.int .i64 5))), (1, (.const (.int .i64 5)))], ty := 23, guard := none },
  { dst := (some 14), op := .build 23 #[(0, (.const (.int .i64 2)))], ty := 23, guard := none },
  { dst := (some 15), op := .call { callee := (.value (.func 9)), args := #[(.tmp 13), (.tmp 14)], argTypes := #[23, 23] }, ty := 25, guard := none },
  { dst := (some 12), op := .move (.tmp 15), ty := 25, guard := none },
  { dst := (some 16), op := .extract (.tmp 12) 0, ty := 23, guard := none },
  { dst := (some 17), op := .extract (.tmp 12) 1, ty := 23, guard := none },
  { dst := (some 18), op := .extract (.tmp 12) 2, ty := 24, guard := none },
  { dst := (some 3), op := .alloc 23, ty := 0, guard := none },
  { dst := (some 4), op := .alloc 23, ty := 0, guard := none },
  { dst := none, op := .store 23 (.tmp 3) (.tmp 16), ty := 0, guard := none },
  { dst := none, op := .store 23 (.tmp 4) (.tmp 17), ty := 0, guard := none },
  { dst := (some 5), op := .assign (.tmp 18), ty := 24, guard := none }]
def c10_5 : AC := .region o10_5 []
theorem n10_5 : Run Cx 10 T ds ro (.code c10_5 :: k) H Q = RunOps Cx 10 T ds ro o10_5 k H Q := run_region
def o10_7 : List AO := [{ dst := (some 19), op := .move (.tmp 2), ty := 24, guard := none },
  { dst := (some 20), op := .binOp .eql 24 (.tmp 19) (.const (.int .i64 0)) 24, ty := 4, guard := none },
  { dst := (some 21), op := .move (.tmp 20), ty := 4, guard := none },
  { dst := (some 22), op := .move (.tmp 5), ty := 24, guard := (some (21, true)) },
  { dst := (some 23), op := .binOp .eql 24 (.tmp 22) (.const (.int .i64 0)) 24, ty := 4, guard := (some (21, true)) },
  { dst := (some 24), op := .pick (.tmp 21) (.tmp 23) (.const (.bool false)), ty := 4, guard := none },
  { dst := (some 25), op := .move (.tmp 24), ty := 4, guard := none },
  { dst := (some 26), op := .load 23 (.tmp 1), ty := 23, guard := (some (25, true)) },
  { dst := (some 27), op := .build 23 #[(0, (.const (.int .i64 5))), (1, (.const (.int .i64 5)))], ty := 23, guard := (some (25, true)) },
  { dst := (some 28), op := .binOp .eql 23 (.tmp 26) (.tmp 27) 23, ty := 4, guard := (some (25, true)) },
  { dst := (some 29), op := .pick (.tmp 25) (.tmp 28) (.const (.bool false)), ty := 4, guard := none },
  { dst := (some 30), op := .move (.tmp 29), ty := 4, guard := none },
  { dst := (some 31), op := .load 23 (.tmp 3), ty := 23, guard := (some (30, true)) },
  { dst := (some 32), op := .build 23 #[(0, (.const (.int .i64 3))), (1, (.const (.int .i64 3)))], ty := 23, guard := (some (30, true)) },
  { dst := (some 33), op := .binOp .eql 23 (.tmp 31) (.tmp 32) 23, ty := 4, guard := (some (30, true)) },
  { dst := (some 34), op := .pick (.tmp 30) (.tmp 33) (.const (.bool false)), ty := 4, guard := none },
  { dst := (some 35), op := .move (.tmp 34), ty := 4, guard := none },
  { dst := (some 36), op := .load 23 (.tmp 4), ty := 23, guard := (some (35, true)) },
  { dst := (some 37), op := .build 23 #[(0, (.const (.int .i64 (-1)))), (1, (.const (.int .i64 (-1))))], ty := 23, guard := (some (35, true)) },
  { dst := (some 38), op := .binOp .eql 23 (.tmp 36) (.tmp 37) 23, ty := 4, guard := (some (35, true)) },
  { dst := (some 39), op := .pick (.tmp 35) (.tmp 38) (.const (.bool false)), ty := 4, guard := none },
  { dst := (some 0), op := .assign (.tmp 39), ty := 4, guard := none }]
def c10_7 : AC := .region o10_7 []
theorem n10_7 : Run Cx 10 T ds ro (.code c10_7 :: k) H Q = RunOps Cx 10 T ds ro o10_7 k H Q := run_region
def c10_8 : AC := .ret
theorem n10_8 : Run Cx 10 T [] none (.code c10_8 :: k) H Q = RunRes Cx T H Q (resOf Cx 10) := run_ret
def c10_6 : AC := .seq c10_7 c10_8
theorem n10_6 : Run Cx 10 T ds ro (.code c10_6 :: k) H Q = Run Cx 10 T ds ro (.code c10_7 :: .code c10_8 :: k) H Q := run_seq
def c10_4 : AC := .seq c10_5 c10_6
theorem n10_4 : Run Cx 10 T ds ro (.code c10_4 :: k) H Q = Run Cx 10 T ds ro (.code c10_5 :: .code c10_6 :: k) H Q := run_seq
def c10_2 : AC := .seq c10_3 c10_4
theorem n10_2 : Run Cx 10 T ds ro (.code c10_2 :: k) H Q = Run Cx 10 T ds ro (.code c10_3 :: .code c10_4 :: k) H Q := run_seq
def c10_0 : AC := .seq c10_1 c10_2
theorem n10_0 : Run Cx 10 T ds ro (.code c10_0 :: k) H Q = Run Cx 10 T ds ro (.code c10_1 :: .code c10_2 :: k) H Q := run_seq
theorem body10 : bodyOf Cx 10 = some c10_0 := by kernel_rfl
theorem res10 : resOf Cx 10 = some [.tmp 0] := by kernel_rfl
theorem pure10 : Cx.pure 10 = true := by kernel_rfl
-- RULES 10: n10_0, n10_1, n10_2, n10_3, n10_4, n10_5, n10_6, n10_7, n10_8
def o11_1 : List AO := [{ dst := (some 1), op := .box 23 (.tmp 0), ty := 0, guard := none },
  { dst := (some 2), op := .assign (.const (.int .i64 0)), ty := 3, guard := none },
  { dst := (some 3), op := .assign (.const (.int .i64 0)), ty := 24, guard := none }]
def c11_1 : AC := .region o11_1 []
theorem n11_1 : Run Cx 11 T ds ro (.code c11_1 :: k) H Q = RunOps Cx 11 T ds ro o11_1 k H Q := run_region
def o11_4 : List AO := [{ dst := (some 4), op := .load 23 (.tmp 1), ty := 23, guard := none },
  { dst := (some 5), op := .call { callee := (.value (.func 19)), args := #[(.tmp 4)], argTypes := #[23] }, ty := 4, guard := none },
  { dst := (some 6), op := .unOp .not 4 (.tmp 5), ty := 4, guard := none }]
def c11_4 : AC := .region o11_4 []
theorem n11_4 : Run Cx 11 T ds ro (.code c11_4 :: k) H Q = RunOps Cx 11 T ds ro o11_4 k H Q := run_region
def o11_7 : List AO := [{ dst := (some 2), op := .assign (.const (.int .i64 0)), ty := 3, guard := none },
  { dst := (some 3), op := .assign (.const (.int .i64 14)), ty := 24, guard := none }]
def c11_7 : AC := .region o11_7 []
theorem n11_7 : Run Cx 11 T ds ro (.code c11_7 :: k) H Q = RunOps Cx 11 T ds ro o11_7 k H Q := run_region
def c11_8 : AC := .ret
theorem n11_8 : Run Cx 11 T [] none (.code c11_8 :: k) H Q = RunRes Cx T H Q (resOf Cx 11) := run_ret
def c11_6 : AC := .seq c11_7 c11_8
theorem n11_6 : Run Cx 11 T ds ro (.code c11_6 :: k) H Q = Run Cx 11 T ds ro (.code c11_7 :: .code c11_8 :: k) H Q := run_seq
def c11_9 : AC := .skip
theorem n11_9 : Run Cx 11 T ds ro (.code c11_9 :: k) H Q = Run Cx 11 T ds ro (k) H Q := run_skip
def c11_5 : AC := .cond (.tmp 6) c11_6 c11_9
theorem n11_5 : Run Cx 11 T ds ro (.code c11_5 :: k) H Q = RunCond Cx 11 T ds ro (.tmp 6) (ev T (.tmp 6)) c11_6 c11_9 k H Q := run_condC
def c11_3 : AC := .seq c11_4 c11_5
theorem n11_3 : Run Cx 11 T ds ro (.code c11_3 :: k) H Q = Run Cx 11 T ds ro (.code c11_4 :: .code c11_5 :: k) H Q := run_seq
def o11_11 : List AO := [{ dst := (some 7), op := .load 23 (.tmp 1), ty := 23, guard := none },
  { dst := (some 8), op := .call { callee := (.value (.func 27)), args := #[(.tmp 7)], argTypes := #[23] }, ty := 3, guard := none },
  { dst := (some 2), op := .assign (.tmp 8), ty := 3, guard := none },
  { dst := (some 3), op := .assign (.const (.int .i64 0)), ty := 24, guard := none }]
def c11_11 : AC := .region o11_11 []
theorem n11_11 : Run Cx 11 T ds ro (.code c11_11 :: k) H Q = RunOps Cx 11 T ds ro o11_11 k H Q := run_region
def c11_12 : AC := .ret
theorem n11_12 : Run Cx 11 T [] none (.code c11_12 :: k) H Q = RunRes Cx T H Q (resOf Cx 11) := run_ret
def c11_10 : AC := .seq c11_11 c11_12
theorem n11_10 : Run Cx 11 T ds ro (.code c11_10 :: k) H Q = Run Cx 11 T ds ro (.code c11_11 :: .code c11_12 :: k) H Q := run_seq
def c11_2 : AC := .seq c11_3 c11_10
theorem n11_2 : Run Cx 11 T ds ro (.code c11_2 :: k) H Q = Run Cx 11 T ds ro (.code c11_3 :: .code c11_10 :: k) H Q := run_seq
def c11_0 : AC := .seq c11_1 c11_2
theorem n11_0 : Run Cx 11 T ds ro (.code c11_0 :: k) H Q = Run Cx 11 T ds ro (.code c11_1 :: .code c11_2 :: k) H Q := run_seq
theorem body11 : bodyOf Cx 11 = some c11_0 := by kernel_rfl
theorem res11 : resOf Cx 11 = some [.tmp 2, .tmp 3] := by kernel_rfl
theorem pure11 : Cx.pure 11 = true := by kernel_rfl
-- RULES 11: n11_0, n11_1, n11_2, n11_3, n11_4, n11_5, n11_6, n11_7, n11_8, n11_9, n11_10, n11_11, n11_12
def o12_1 : List AO := [{ dst := (some 2), op := .box 23 (.tmp 0), ty := 0, guard := none },
  { dst := (some 3), op := .box 23 (.tmp 1), ty := 0, guard := none },
  { dst := (some 4), op := .alloc 23, ty := 0, guard := none },
  { dst := (some 5), op := .assign (.const (.int .i64 0)), ty := 24, guard := none }]
def c12_1 : AC := .region o12_1 []
theorem n12_1 : Run Cx 12 T ds ro (.code c12_1 :: k) H Q = RunOps Cx 12 T ds ro o12_1 k H Q := run_region
def o12_5 : List AO := [{ dst := (some 8), op := .load 23 (.tmp 2), ty := 23, guard := none },
  { dst := (some 9), op := .call { callee := (.value (.func 19)), args := #[(.tmp 8)], argTypes := #[23] }, ty := 4, guard := none },
  { dst := (some 10), op := .unOp .not 4 (.tmp 9), ty := 4, guard := none },
  { dst := (some 11), op := .move (.tmp 10), ty := 4, guard := none },
  { dst := (some 12), op := .load 23 (.tmp 3), ty := 23, guard := (some (11, false)) },
  { dst := (some 13), op := .call { callee := (.value (.func 19)), args := #[(.tmp 12)], argTypes := #[23] }, ty := 4, guard := (some (11, false)) },
  { dst := (some 14), op := .unOp .not 4 (.tmp 13), ty := 4, guard := (some (11, false)) },
  { dst := (some 15), op := .pick (.tmp 11) (.const (.bool true)) (.tmp 14), ty := 4, guard := none }]
def c12_5 : AC := .region o12_5 []
theorem n12_5 : Run Cx 12 T ds ro (.code c12_5 :: k) H Q = RunOps Cx 12 T ds ro o12_5 k H Q := run_region
def o12_8 : List AO := [{ dst := (some 16), op := .build 23 #[], ty := 23, guard := none },
  { dst := none, op := .store 23 (.tmp 4) (.tmp 16), ty := 0, guard := none },
  { dst := (some 5), op := .assign (.const (.int .i64 14)), ty := 24, guard := none }]
def c12_8 : AC := .region o12_8 []
theorem n12_8 : Run Cx 12 T ds ro (.code c12_8 :: k) H Q = RunOps Cx 12 T ds ro o12_8 k H Q := run_region
def c12_9 : AC := .ret
theorem n12_9 : Run Cx 12 T [] none (.code c12_9 :: k) H Q = RunRes Cx T H Q (resOf Cx 12) := run_ret
def c12_7 : AC := .seq c12_8 c12_9
theorem n12_7 : Run Cx 12 T ds ro (.code c12_7 :: k) H Q = Run Cx 12 T ds ro (.code c12_8 :: .code c12_9 :: k) H Q := run_seq
def c12_10 : AC := .skip
theorem n12_10 : Run Cx 12 T ds ro (.code c12_10 :: k) H Q = Run Cx 12 T ds ro (k) H Q := run_skip
def c12_6 : AC := .cond (.tmp 15) c12_7 c12_10
theorem n12_6 : Run Cx 12 T ds ro (.code c12_6 :: k) H Q = RunCond Cx 12 T ds ro (.tmp 15) (ev T (.tmp 15)) c12_7 c12_10 k H Q := run_condC
def c12_4 : AC := .seq c12_5 c12_6
theorem n12_4 : Run Cx 12 T ds ro (.code c12_4 :: k) H Q = Run Cx 12 T ds ro (.code c12_5 :: .code c12_6 :: k) H Q := run_seq
def c12_12 : AC := .label 0
theorem n12_12 : Run Cx 12 T ds ro (.code c12_12 :: k) H Q = Run Cx 12 T ds ro (k) H Q := run_label
def o12_15 : List AO := [{ dst := (some 17), op := .load 23 (.tmp 3), ty := 23, guard := none },
  { dst := (some 18), op := .build 23 #[], ty := 23, guard := none },
  { dst := (some 19), op := .binOp .neq 23 (.tmp 17) (.tmp 18) 23, ty := 4, guard := none }]
def c12_15 : AC := .region o12_15 []
theorem n12_15 : Run Cx 12 T ds ro (.code c12_15 :: k) H Q = RunOps Cx 12 T ds ro o12_15 k H Q := run_region
def o12_18 : List AO := [{ dst := (some 21), op := .load 23 (.tmp 2), ty := 23, guard := none },
  { dst := (some 22), op := .load 23 (.tmp 3), ty := 23, guard := none },
  { dst := (some 23), op := .call { callee := (.value (.func 26)), args := #[(.tmp 21), (.tmp 22)], argTypes := #[23, 23] }, ty := 36, guard := none },
  { dst := (some 20), op := .move (.tmp 23), ty := 36, guard := none },
  { dst := (some 24), op := .extract (.tmp 20) 0, ty := 23, guard := none },
  { dst := (some 25), op := .extract (.tmp 20) 1, ty := 23, guard := none },
  { dst := (some 6), op := .alloc 23, ty := 0, guard := none },
  { dst := (some 7), op := .alloc 23, ty := 0, guard := none },
  { dst := none, op := .store 23 (.tmp 6) (.tmp 24), ty := 0, guard := none },
  { dst := none, op := .store 23 (.tmp 7) (.tmp 25), ty := 0, guard := none }]
def c12_18 : AC := .region o12_18 []
theorem n12_18 : Run Cx 12 T ds ro (.code c12_18 :: k) H Q = RunOps Cx 12 T ds ro o12_18 k H Q := run_region
def o12_20 : List AO := [{ dst := (some 26), op := .load 23 (.tmp 3), ty := 23, guard := none },
  { dst := (some 27), op := .load 23 (.tmp 7), ty := 23, guard := none },
  { dst := none, op := .store 23 (.tmp 2) (.tmp 26), ty := 0, guard := none },
  { dst := none, op := .store 23 (.tmp 3) (.tmp 27), ty := 0, guard := none }]
def c12_20 : AC := .region o12_20 [[], [], [7], []]
theorem n12_20 : Run Cx 12 T ds ro (.code c12_20 :: k) H Q = (Dyn Cx ro o12_20 [[], [], [7], []] T ds H ∧ RunOps Cx 12 T ds ro o12_20 k H Q) := run_regionD
def c12_21 : AC := .goto 0
def c12_19 : AC := .seq c12_20 c12_21
theorem n12_19 : Run Cx 12 T ds ro (.code c12_19 :: k) H Q = Run Cx 12 T ds ro (.code c12_20 :: .code c12_21 :: k) H Q := run_seq
def c12_17 : AC := .seq c12_18 c12_19
theorem n12_17 : Run Cx 12 T ds ro (.code c12_17 :: k) H Q = Run Cx 12 T ds ro (.code c12_18 :: .code c12_19 :: k) H Q := run_seq
def c12_22 : AC := .skip
theorem n12_22 : Run Cx 12 T ds ro (.code c12_22 :: k) H Q = Run Cx 12 T ds ro (k) H Q := run_skip
def c12_16 : AC := .cond (.tmp 19) c12_17 c12_22
theorem n12_16 : Run Cx 12 T ds ro (.code c12_16 :: k) H Q = RunCond Cx 12 T ds ro (.tmp 19) (ev T (.tmp 19)) c12_17 c12_22 k H Q := run_condC
def c12_14 : AC := .seq c12_15 c12_16
theorem n12_14 : Run Cx 12 T ds ro (.code c12_14 :: k) H Q = Run Cx 12 T ds ro (.code c12_15 :: .code c12_16 :: k) H Q := run_seq
def o12_28 : List AO := [{ dst := (some 28), op := .load 23 (.tmp 2), ty := 23, guard := none },
  { dst := (some 29), op := .build 23 #[], ty := 23, guard := none },
  { dst := (some 30), op := .binOp .neq 23 (.tmp 28) (.tmp 29) 23, ty := 4, guard := none },
  { dst := (some 31), op := .move (.tmp 30), ty := 4, guard := none },
  { dst := (some 32), op := .fieldAddr 23 (.tmp 2) 0, ty := 0, guard := (some (31, true)) },
  { dst := (some 33), op := .load 3 (.tmp 32), ty := 3, guard := (some (31, true)) },
  { dst := (some 34), op := .binOp .leq 3 (.tmp 33) (.const (.int .i64 0)) 3, ty := 4, guard := (some (31, true)) },
  { dst := (some 35), op := .move (.tmp 34), ty := 4, guard := (some (31, true)) },
  { dst := (some 36), op := .fieldAddr 23 (.tmp 2) 1, ty := 0, guard := (some (35, false)) },
  { dst := (some 37), op := .load 3 (.tmp 36), ty := 3, guard := (some (35, false)) },
  { dst := (some 38), op := .binOp .lss 3 (.tmp 37) (.const (.int .i64 0)) 3, ty := 4, guard := (some (35, false)) },
  { dst := (some 39), op := .pick (.tmp 35) (.const (.bool true)) (.tmp 38), ty := 4, guard := (some (31, true)) },
  { dst := (some 40), op := .pick (.tmp 31) (.tmp 39) (.const (.bool false)), ty := 4, guard := none }]
def c12_28 : AC := .region o12_28 []
theorem n12_28 : Run Cx 12 T ds ro (.code c12_28 :: k) H Q = RunOps Cx 12 T ds ro o12_28 k H Q := run_region
def c12_30 : AC := .skip
theorem n12_30 : Run Cx 12 T ds ro (.code c12_30 :: k) H Q = Run Cx 12 T ds ro (k) H Q := run_skip
def c12_31 : AC := .exit 0
theorem n12_31 : Run Cx 12 T ds ro (.code c12_31 :: k) H Q = RunExit Cx 12 T ds ro 0 k k H Q := run_exit_start
def c12_29 : AC := .cond (.tmp 40) c12_30 c12_31
theorem n12_29 : Run Cx 12 T ds ro (.code c12_29 :: k) H Q = RunCond Cx 12 T ds ro (.tmp 40) (ev T (.tmp 40)) c12_30 c12_31 k H Q := run_condC
def c12_27 : AC := .seq c12_28 c12_29
theorem n12_27 : Run Cx 12 T ds ro (.code c12_27 :: k) H Q = Run Cx 12 T ds ro (.code c12_28 :: .code c12_29 :: k) H Q := run_seq
def o12_33 : List AO := [{ dst := (some 41), op := .fieldAddr 23 (.tmp 2) 1, ty := 0, guard := none },
  { dst := (some 42), op := .load 3 (.tmp 41), ty := 3, guard := none },
  { dst := (some 43), op := .unOp .neg 3 (.tmp 42), ty := 3, guard := none },
  { dst := (some 44), op := .fieldAddr 23 (.tmp 2) 0, ty := 0, guard := none },
  { dst := (some 45), op := .load 3 (.tmp 44), ty := 3, guard := none },
  { dst := (some 46), op := .build 23 #[(0, (.tmp 43)), (1, (.tmp 45))], ty := 23, guard := none },
  { dst := none, op := .store 23 (.tmp 2) (.tmp 46), ty := 0, guard := none }]
def c12_33 : AC := .region o12_33 []
theorem n12_33 : Run Cx 12 T ds ro (.code c12_33 :: k) H Q = RunOps Cx 12 T ds ro o12_33 k H Q := run_region
def c12_32 : AC := .block 1 c12_33
theorem n12_32 : Run Cx 12 T ds ro (.code c12_32 :: k) H Q = Run Cx 12 T ds ro (.code c12_33 :: .inBlock 1 :: k) H Q := run_block
def c12_26 : AC := .seq c12_27 c12_32
theorem n12_26 : Run Cx 12 T ds ro (.code c12_26 :: k) H Q = Run Cx 12 T ds ro (.code c12_27 :: .code c12_32 :: k) H Q := run_seq
def c12_25 : AC := .loop c12_26
theorem n12_25 : Run Cx 12 T ds ro (.code c12_25 :: k) H Q = Run Cx 12 T ds ro (.inLoop c12_26 :: k) H Q := run_loop'
def c12_24 : AC := .block 0 c12_25
theorem n12_24 : Run Cx 12 T ds ro (.code c12_24 :: k) H Q = Run Cx 12 T ds ro (.code c12_25 :: .inBlock 0 :: k) H Q := run_block
def o12_35 : List AO := [{ dst := (some 47), op := .load 23 (.tmp 2), ty := 23, guard := none },
  { dst := none, op := .store 23 (.tmp 4) (.tmp 47), ty := 0, guard := none },
  { dst := (some 5), op := .assign (.const (.int .i64 0)), ty := 24, guard := none }]
def c12_35 : AC := .region o12_35 []
theorem n12_35 : Run Cx 12 T ds ro (.code c12_35 :: k) H Q = RunOps Cx 12 T ds ro o12_35 k H Q := run_region
def c12_36 : AC := .ret
theorem n12_36 : Run Cx 12 T [] none (.code c12_36 :: k) H Q = RunRes Cx T H Q (resOf Cx 12) := run_ret
def c12_34 : AC := .seq c12_35 c12_36
theorem n12_34 : Run Cx 12 T ds ro (.code c12_34 :: k) H Q = Run Cx 12 T ds ro (.code c12_35 :: .code c12_36 :: k) H Q := run_seq
def c12_23 : AC := .seq c12_24 c12_34
theorem n12_23 : Run Cx 12 T ds ro (.code c12_23 :: k) H Q = Run Cx 12 T ds ro (.code c12_24 :: .code c12_34 :: k) H Q := run_seq
def c12_13 : AC := .seq c12_14 c12_23
theorem n12_13 : Run Cx 12 T ds ro (.code c12_13 :: k) H Q = Run Cx 12 T ds ro (.code c12_14 :: .code c12_23 :: k) H Q := run_seq
def c12_11 : AC := .seq c12_12 c12_13
theorem n12_11 : Run Cx 12 T ds ro (.code c12_11 :: k) H Q = Run Cx 12 T ds ro (.code c12_12 :: .code c12_13 :: k) H Q := run_seq
def c12_3 : AC := .seq c12_4 c12_11
theorem n12_3 : Run Cx 12 T ds ro (.code c12_3 :: k) H Q = Run Cx 12 T ds ro (.code c12_4 :: .code c12_11 :: k) H Q := run_seq
def c12_2 : AC := .scope c12_3
theorem n12_2 : Run Cx 12 T ds ro (.code c12_2 :: k) H Q = Run Cx 12 T ds ro (.code c12_3 :: .inScope c12_3 :: k) H Q := run_scope
def c12_0 : AC := .seq c12_1 c12_2
theorem n12_0 : Run Cx 12 T ds ro (.code c12_0 :: k) H Q = Run Cx 12 T ds ro (.code c12_1 :: .code c12_2 :: k) H Q := run_seq
theorem body12 : bodyOf Cx 12 = some c12_0 := by kernel_rfl
theorem res12 : resOf Cx 12 = some [.cell 4 23, .tmp 5] := by kernel_rfl
theorem pure12 : Cx.pure 12 = true := by kernel_rfl
-- RULES 12: n12_0, n12_1, n12_2, n12_3, n12_4, n12_5, n12_6, n12_7, n12_8, n12_9, n12_10, n12_11, n12_12, n12_13, n12_14, n12_15, n12_16, n12_17, n12_18, n12_19, n12_20, n12_21, n12_22, n12_23, n12_24, n12_25, n12_26, n12_27, n12_28, n12_29, n12_30, n12_31, n12_32, n12_33, n12_34, n12_35, n12_36
def o13_1 : List AO := [{ dst := (some 1), op := .box 23 (.tmp 0), ty := 0, guard := none },
  { dst := (some 2), op := .assign (.const (.bool false)), ty := 4, guard := none }]
def c13_1 : AC := .region o13_1 []
theorem n13_1 : Run Cx 13 T ds ro (.code c13_1 :: k) H Q = RunOps Cx 13 T ds ro o13_1 k H Q := run_region
def o13_3 : List AO := [{ dst := (some 3), op := .fieldAddr 23 (.tmp 1) 0, ty := 0, guard := none },
  { dst := (some 4), op := .load 3 (.tmp 3), ty := 3, guard := none },
  { dst := (some 5), op := .binOp .geq 3 (.tmp 4) (.const (.int .i64 (-16777216))) 3, ty := 4, guard := none },
  { dst := (some 6), op := .move (.tmp 5), ty := 4, guard := none },
  { dst := (some 7), op := .fieldAddr 23 (.tmp 1) 0, ty := 0, guard := (some (6, true)) },
  { dst := (some 8), op := .load 3 (.tmp 7), ty := 3, guard := (some (6, true)) },
  { dst := (some 9), op := .binOp .leq 3 (.tmp 8) (.const (.int .i64 16777216)) 3, ty := 4, guard := (some (6, true)) },
  { dst := (some 10), op := .pick (.tmp 6) (.tmp 9) (.const (.bool false)), ty := 4, guard := none },
  { dst := (some 11), op := .move (.tmp 10), ty := 4, guard := none },
  { dst := (some 12), op := .fieldAddr 23 (.tmp 1) 1, ty := 0, guard := (some (11, true)) },
  { dst := (some 13), op := .load 3 (.tmp 12), ty := 3, guard := (some (11, true)) },
  { dst := (some 14), op := .binOp .geq 3 (.tmp 13) (.const (.int .i64 (-16777216))) 3, ty := 4, guard := (some (11, true)) },
  { dst := (some 15), op := .pick (.tmp 11) (.tmp 14) (.const (.bool false)), ty := 4, guard := none },
  { dst := (some 16), op := .move (.tmp 15), ty := 4, guard := none },
  { dst := (some 17), op := .fieldAddr 23 (.tmp 1) 1, ty := 0, guard := (some (16, true)) },
  { dst := (some 18), op := .load 3 (.tmp 17), ty := 3, guard := (some (16, true)) },
  { dst := (some 19), op := .binOp .leq 3 (.tmp 18) (.const (.int .i64 16777216)) 3, ty := 4, guard := (some (16, true)) },
  { dst := (some 20), op := .pick (.tmp 16) (.tmp 19) (.const (.bool false)), ty := 4, guard := none },
  { dst := (some 2), op := .assign (.tmp 20), ty := 4, guard := none }]
def c13_3 : AC := .region o13_3 []
theorem n13_3 : Run Cx 13 T ds ro (.code c13_3 :: k) H Q = RunOps Cx 13 T ds ro o13_3 k H Q := run_region
def c13_4 : AC := .ret
theorem n13_4 : Run Cx 13 T [] none (.code c13_4 :: k) H Q = RunRes Cx T H Q (resOf Cx 13) := run_ret
def c13_2 : AC := .seq c13_3 c13_4
theorem n13_2 : Run Cx 13 T ds ro (.code c13_2 :: k) H Q = Run Cx 13 T ds ro (.code c13_3 :: .code c13_4 :: k) H Q := run_seq
def c13_0 : AC := .seq c13_1 c13_2
theorem n13_0 : Run Cx 13 T ds ro (.code c13_0 :: k) H Q = Run Cx 13 T ds ro (.code c13_1 :: .code c13_2 :: k) H Q := run_seq
theorem body13 : bodyOf Cx 13 = some c13_0 := by kernel_rfl
theorem res13 : resOf Cx 13 = some [.tmp 2] := by kernel_rfl
theorem pure13 : Cx.pure 13 = true := by kernel_rfl
-- RULES 13: n13_0, n13_1, n13_2, n13_3, n13_4
def o14_1 : List AO := [{ dst := (some 2), op := .box 23 (.tmp 0), ty := 0, guard := none },
  { dst := (some 3), op := .box 23 (.tmp 1), ty := 0, guard := none },
  { dst := (some 4), op := .alloc 23, ty := 0, guard := none }]
def c14_1 : AC := .region o14_1 []
theorem n14_1 : Run Cx 14 T ds ro (.code c14_1 :: k) H Q = RunOps Cx 14 T ds ro o14_1 k H Q := run_region
def o14_4 : List AO := [{ dst := (some 7), op := .load 23 (.tmp 3), ty := 23, guard := none },
  { dst := (some 8), op := .build 23 #[], ty := 23, guard := none },
  { dst := (some 9), op := .binOp .eql 23 (.tmp 7) (.tmp 8) 23, ty := 4, guard := none }]
def c14_4 : AC := .region o14_4 []
theorem n14_4 : Run Cx 14 T ds ro (.code c14_4 :: k) H Q = RunOps Cx 14 T ds ro o14_4 k H Q := run_region
def o14_7 : List AO := [{ dst := (some 10), op := .load 23 (.tmp 2), ty := 23, guard := none },
  { dst := (some 11), op := .call { callee := (.value (.func 28)), args := #[(.tmp 10)], argTypes := #[23] }, ty := 23, guard := none },
  { dst := none, op := .store 23 (.tmp 4) (.tmp 11), ty := 0, guard := none }]
def c14_7 : AC := .region o14_7 []
theorem n14_7 : Run Cx 14 T ds ro (.code c14_7 :: k) H Q = RunOps Cx 14 T ds ro o14_7 k H Q := run_region
def c14_8 : AC := .ret
theorem n14_8 : Run Cx 14 T [] none (.code c14_8 :: k) H Q = RunRes Cx T H Q (resOf Cx 14) := run_ret
def c14_6 : AC := .seq c14_7 c14_8
theorem n14_6 : Run Cx 14 T ds ro (.code c14_6 :: k) H Q = Run Cx 14 T ds ro (.code c14_7 :: .code c14_8 :: k) H Q := run_seq
def c14_9 : AC := .skip
theorem n14_9 : Run Cx 14 T ds ro (.code c14_9 :: k) H Q = Run Cx 14 T ds ro (k) H Q := run_skip
def c14_5 : AC := .cond (.tmp 9) c14_6 c14_9
theorem n14_5 : Run Cx 14 T ds ro (.code c14_5 :: k) H Q = RunCond Cx 14 T ds ro (.tmp 9) (ev T (.tmp 9)) c14_6 c14_9 k H Q := run_condC
def c14_3 : AC := .seq c14_4 c14_5
theorem n14_3 : Run Cx 14 T ds ro (.code c14_3 :: k) H Q = Run Cx 14 T ds ro (.code c14_4 :: .code c14_5 :: k) H Q := run_seq
def o14_11 : List AO := [{ dst := (some 13), op := .load 23 (.tmp 2), ty := 23, guard := none },
  { dst := (some 14), op := .load 23 (.tmp 3), ty := 23, guard := none },
  { dst := (some 15), op := .call { callee := (.value (.func 15)), args := #[(.tmp 13), (.tmp 14)], argTypes := #[23, 23] }, ty := 36, guard := none },
  { dst := (some 12), op := .move (.tmp 15), ty := 36, guard := none },
  { dst := (some 16), op := .extract (.tmp 12) 0, ty := 23, guard := none },
  { dst := (some 17), op := .extract (.tmp 12) 1, ty := 23, guard := none },
  { dst := (some 5), op := .alloc 23, ty := 0, guard := none },
  { dst := (some 6), op := .alloc 23, ty := 0, guard := none },
  { dst := none, op := .store 23 (.tmp 5) (.tmp 16), ty := 0, guard := none },
  { dst := none, op := .store 23 (.tmp 6) (.tmp 17), ty := 0, guard := none }]
def c14_11 : AC := .region o14_11 []
theorem n14_11 : Run Cx 14 T ds ro (.code c14_11 :: k) H Q = RunOps Cx 14 T ds ro o14_11 k H Q := run_region
def o14_13 : List AO := [{ dst := (some 18), op := .load 23 (.tmp 3), ty := 23, guard := none },
  { dst := (some 19), op := .load 23 (.tmp 6), ty := 23, guard := none },
  { dst := (some 20), op := .call { callee := (.value (.func 14)), args := #[(.tmp 18), (.tmp 19)], argTypes := #[23, 23] }, ty := 23, guard := none },
  { dst := none, op := .store 23 (.tmp 4) (.tmp 20), ty := 0, guard := none }]
def c14_13 : AC := .region o14_13 []
theorem n14_13 : Run Cx 14 T ds ro (.code c14_13 :: k) H Q = RunOps Cx 14 T ds ro o14_13 k H Q := run_region
def c14_14 : AC := .ret
theorem n14_14 : Run Cx 14 T [] none (.code c14_14 :: k) H Q = RunRes Cx T H Q (resOf Cx 14) := run_ret
def c14_12 : AC := .seq c14_13 c14_14
theorem n14_12 : Run Cx 14 T ds ro (.code c14_12 :: k) H Q = Run Cx 14 T ds ro (.code c14_13 :: .code c14_14 :: k) H Q := run_seq
def c14_10 : AC := .seq c14_11 c14_12
theorem n14_10 : Run Cx 14 T ds ro (.code c14_10 :: k) H Q = Run Cx 14 T ds ro (.code c14_11 :: .code c14_12 :: k) H Q := run_seq
def c14_2 : AC := .seq c14_3 c14_10
theorem n14_2 : Run Cx 14 T ds ro (.code c14_2 :: k) H Q = Run Cx 14 T ds ro (.code c14_3 :: .code c14_10 :: k) H Q := run_seq
def c14_0 : AC := .seq c14_1 c14_2
theorem n14_0 : Run Cx 14 T ds ro (.code c14_0 :: k) H Q = Run Cx 14 T ds ro (.code c14_1 :: .code c14_2 :: k) H Q := run_seq
theorem body14 : bodyOf Cx 14 = some c14_0 := by kernel_rfl
theorem res14 : resOf Cx 14 = some [.cell 4 23] := by kernel_rfl
theorem pure14 : Cx.pure 14 = true := by kernel_rfl
-- RULES 14: n14_0, n14_1, n14_2, n14_3, n14_4, n14_5, n14_6, n14_7, n14_8, n14_9, n14_10, n14_11, n14_12, n14_13, n14_14
def o15_1 : List AO := [{ dst := (some 2), op := .box 23 (.tmp 0), ty := 0, guard := none },
  { dst := (some 3), op := .box 23 (.tmp 1), ty := 0, guard := none },
  { dst := (some 4), op := .alloc 23, ty := 0, guard := none },
  { dst := (some 5), op := .alloc 23, ty := 0, guard := none }]
def c15_1 : AC := .region o15_1 []
theorem n15_1 : Run Cx 15 T ds ro (.code c15_1 :: k) H Q = RunOps Cx 15 T ds ro o15_1 k H Q := run_region
def o15_3 : List AO := [{ dst := (some 10), op := .load 23 (.tmp 2), ty := 23, guard := none },
  { dst := (some 11), op := .fieldAddr 23 (.tmp 3) 0, ty := 0, guard := none },
  { dst := (some 12), op := .load 3 (.tmp 11), ty := 3, guard := none },
  { dst := (some 13), op := .fieldAddr 23 (.tmp 3) 1, ty := 0, guard := none },
  { dst := (some 14), op := .load 3 (.tmp 13), ty := 3, guard := none },
  { dst := (some 15), op := .unOp .neg 3 (.tmp 14), ty := 3, guard := none },
  { dst := (some 16), op := .build 23 #[(0, (.tmp 12)), (1, (.tmp 15))], ty := 23, guard := none },
  { dst := (some 17), op := .call { callee := (.value (.func 22)), args := #[(.tmp 10), (.tmp 16)], argTypes := #[23, 23] }, ty := 23, guard := none },
  { dst := (some 6), op := .alloc 23, ty := 0, guard := none },
  { dst := none, op := .store 23 (.tmp 6) (.tmp 17), ty := 0, guard := none }]
def c15_3 : AC := .region o15_3 []
theorem n15_3 : Run Cx 15 T ds ro (.code c15_3 :: k) H Q = RunOps Cx 15 T ds ro o15_3 k H Q := run_region
def o15_5 : List AO := [{ dst := (some 18), op := .load 23 (.tmp 3), ty := 23, guard := none },
  { dst := (some 19), op := .call { callee := (.value (.func 24)), args := #[(.tmp 18)], argTypes := #[23] }, ty := 3, guard := none },
  { dst := (some 7), op := .assign (.tmp 19), ty := 3, guard := none }]
def c15_5 : AC := .region o15_5 []
theorem n15_5 : Run Cx 15 T ds ro (.code c15_5 :: k) H Q = RunOps Cx 15 T ds ro o15_5 k H Q := run_region
def o15_7 : List AO := [{ dst := (some 20), op := .fieldAddr 23 (.tmp 6) 0, ty := 0, guard := none },
  { dst := (some 21), op := .load 3 (.tmp 20), ty := 3, guard := none },
  { dst := (some 22), op := .move (.tmp 7), ty := 3, guard := none },
  { dst := (some 23), op := .call { callee := (.value (.func 29)), args := #[(.tmp 21), (.tmp 22)], argTypes := #[3, 3] }, ty := 3, guard := none },
  { dst := (some 24), op := .fieldAddr 23 (.tmp 6) 1, ty := 0, guard := none },
  { dst := (some 25), op := .load 3 (.tmp 24), ty := 3, guard := none },
  { dst := (some 26), op := .move (.tmp 7), ty := 3, guard := none },
  { dst := (some 27), op := .call { callee := (.value (.func 29)), args := #[(.tmp 25), (.tmp 26)], argTypes := #[3, 3] }, ty := 3, guard := none },
  { dst := (some 28), op := .build 23 #[(0, (.tmp 23)), (1, (.tmp 27))], ty := 23, guard := none },
  { dst := (some 8), op := .alloc 23, ty := 0, guard := none },
  { dst := none, op := .store 23 (.tmp 8) (.tmp 28), ty := 0, guard := none }]
def c15_7 : AC := .region o15_7 []
theorem n15_7 : Run Cx 15 T ds ro (.code c15_7 :: k) H Q = RunOps Cx 15 T ds ro o15_7 k H Q := run_region
def o15_9 : List AO := [{ dst := (some 29), op := .load 23 (.tmp 8), ty := 23, guard := none },
  { dst := (some 30), op := .load 23 (.tmp 3), ty := 23, guard := none },
  { dst := (some 31), op := .call { callee := (.value (.func 22)), args := #[(.tmp 29), (.tmp 30)], argTypes := #[23, 23] }, ty := 23, guard := none },
  { dst := (some 9), op := .alloc 23, ty := 0, guard := none },
  { dst := none, op := .store 23 (.tmp 9) (.tmp 31), ty := 0, guard := none }]
def c15_9 : AC := .region o15_9 []
theorem n15_9 : Run Cx 15 T ds ro (.code c15_9 :: k) H Q = RunOps Cx 15 T ds ro o15_9 k H Q := run_region
def o15_11 : List AO := [{ dst := (some 32), op := .load 23 (.tmp 8), ty := 23, guard := none },
  { dst := (some 33), op := .fieldAddr 23 (.tmp 2) 0, ty := 0, guard := none },
  { dst := (some 34), op := .load 3 (.tmp 33), ty := 3, guard := none },
  { dst := (some 35), op := .fieldAddr 23 (.tmp 9) 0, ty := 0, guard := none },
  { dst := (some 36), op := .load 3 (.tmp 35), ty := 3, guard := none },
  { dst := (some 37), op := .binOp .sub 3 (.tmp 34) (.tmp 36) 3, ty := 3, guard := none },
  { dst := (some 38), op := .fieldAddr 23 (.tmp 2) 1, ty := 0, guard := none },
  { dst := (some 39), op := .load 3 (.tmp 38), ty := 3, guard := none },
  { dst := (some 40), op := .fieldAddr 23 (.tmp 9) 1, ty := 0, guard := none },
  { dst := (some 41), op := .load 3 (.tmp 40), ty := 3, guard := none },
  { dst := (some 42), op := .binOp .sub 3 (.tmp 39) (.tmp 41) 3, ty := 3, guard := none },
  { dst := (some 43), op := .build 23 #[(0, (.tmp 37)), (1, (.tmp 42))], ty := 23, guard := none },
  { dst := none, op := .store 23 (.tmp 4) (.tmp 32), ty := 0, guard := none },
  { dst := none, op := .store 23 (.tmp 5) (.tmp 43), ty := 0, guard := none }]
def c15_11 : AC := .region o15_11 [[], [], [], [], [], [], [], [], [], [], [], [], [33, 35, 38, 40], []]
theorem n15_11 : Run Cx 15 T ds ro (.code c15_11 :: k) H Q = (Dyn Cx ro o15_11 [[], [], [], [], [], [], [], [], [], [], [], [], [33, 35, 38, 40], []] T ds H ∧ RunOps Cx 15 T ds ro o15_11 k H Q) := run_regionD
def c15_12 : AC := .ret
theorem n15_12 : Run Cx 15 T [] none (.code c15_12 :: k) H Q = RunRes Cx T H Q (resOf Cx 15) := run_ret
def c15_10 : AC := .seq c15_11 c15_12
theorem n15_10 : Run Cx 15 T ds ro (.code c15_10 :: k) H Q = Run Cx 15 T ds ro (.code c15_11 :: .code c15_12 :: k) H Q := run_seq
def c15_8 : AC := .seq c15_9 c15_10
theorem n15_8 : Run Cx 15 T ds ro (.code c15_8 :: k) H Q = Run Cx 15 T ds ro (.code c15_9 :: .code c15_10 :: k) H Q := run_seq
def c15_6 : AC := .seq c15_7 c15_8
theorem n15_6 : Run Cx 15 T ds ro (.code c15_6 :: k) H Q = Run Cx 15 T ds ro (.code c15_7 :: .code c15_8 :: k) H Q := run_seq
def c15_4 : AC := .seq c15_5 c15_6
theorem n15_4 : Run Cx 15 T ds ro (.code c15_4 :: k) H Q = Run Cx 15 T ds ro (.code c15_5 :: .code c15_6 :: k) H Q := run_seq
def c15_2 : AC := .seq c15_3 c15_4
theorem n15_2 : Run Cx 15 T ds ro (.code c15_2 :: k) H Q = Run Cx 15 T ds ro (.code c15_3 :: .code c15_4 :: k) H Q := run_seq
def c15_0 : AC := .seq c15_1 c15_2
theorem n15_0 : Run Cx 15 T ds ro (.code c15_0 :: k) H Q = Run Cx 15 T ds ro (.code c15_1 :: .code c15_2 :: k) H Q := run_seq
theorem body15 : bodyOf Cx 15 = some c15_0 := by kernel_rfl
theorem res15 : resOf Cx 15 = some [.cell 4 23, .cell 5 23] := by kernel_rfl
theorem pure15 : Cx.pure 15 = true := by kernel_rfl
-- RULES 15: n15_0, n15_1, n15_2, n15_3, n15_4, n15_5, n15_6, n15_7, n15_8, n15_9, n15_10, n15_11, n15_12
def o16_1 : List AO := [{ dst := (some 2), op := .box 23 (.tmp 0), ty := 0, guard := none },
  { dst := (some 3), op := .box 23 (.tmp 1), ty := 0, guard := none },
  { dst := (some 4), op := .alloc 23, ty := 0, guard := none },
  { dst := (some 5), op := .assign (.const (.int .i64 0)), ty := 24, guard := none }]
def c16_1 : AC := .region o16_1 []
theorem n16_1 : Run Cx 16 T ds ro (.code c16_1 :: k) H Q = RunOps Cx 16 T ds ro o16_1 k H Q := run_region
def o16_4 : List AO := [{ dst := (some 6), op := .load 23 (.tmp 2), ty := 23, guard := none },
  { dst := (some 7), op := .call { callee := (.value (.func 19)), args := #[(.tmp 6)], argTypes := #[23] }, ty := 4, guard := none },
  { dst := (some 8), op := .unOp .not 4 (.tmp 7), ty := 4, guard := none },
  { dst := (some 9), op := .move (.tmp 8), ty := 4, guard := none },
  { dst := (some 10), op := .load 23 (.tmp 3), ty := 23, guard := (some (9, false)) },
  { dst := (some 11), op := .call { callee := (.value (.func 19)), args := #[(.tmp 10)], argTypes := #[23] }, ty := 4, guard := (some (9, false)) },
  { dst := (some 12), op := .unOp .not 4 (.tmp 11), ty := 4, guard := (some (9, false)) },
  { dst := (some 13), op := .pick (.tmp 9) (.const (.bool true)) (.tmp 12), ty := 4, guard := none }]
def c16_4 : AC := .region o16_4 []
theorem n16_4 : Run Cx 16 T ds ro (.code c16_4 :: k) H Q = RunOps Cx 16 T ds ro o16_4 k H Q := run_region
def o16_7 : List AO := [{ dst := (some 14), op := .build 23 #[], ty := 23, guard := none },
  { dst := none, op := .store 23 (.tmp 4) (.tmp 14), ty := 0, guard := none },
  { dst := (some 5), op := .assign (.const (.int .i64 14)), ty := 24, guard := none }]
def c16_7 : AC := .region o16_7 []
theorem n16_7 : Run Cx 16 T ds ro (.code c16_7 :: k) H Q = RunOps Cx 16 T ds ro o16_7 k H Q := run_region
def c16_8 : AC := .ret
theorem n16_8 : Run Cx 16 T [] none (.code c16_8 :: k) H Q = RunRes Cx T H Q (resOf Cx 16) := run_ret
def c16_6 : AC := .seq c16_7 c16_8
theorem n16_6 : Run Cx 16 T ds ro (.code c16_6 :: k) H Q = Run Cx 16 T ds ro (.code c16_7 :: .code c16_8 :: k) H Q := run_seq
def c16_9 : AC := .skip
theorem n16_9 : Run Cx 16 T ds ro (.code c16_9 :: k) H Q = Run Cx 16 T ds ro (k) H Q := run_skip
def c16_5 : AC := .cond (.tmp 13) c16_6 c16_9
theorem n16_5 : Run Cx 16 T ds ro (.code c16_5 :: k) H Q = RunCond Cx 16 T ds ro (.tmp 13) (ev T (.tmp 13)) c16_6 c16_9 k H Q := run_condC
def c16_3 : AC := .seq c16_4 c16_5
theorem n16_3 : Run Cx 16 T ds ro (.code c16_3 :: k) H Q = Run Cx 16 T ds ro (.code c16_4 :: .code c16_5 :: k) H Q := run_seq
def o16_11 : List AO := [{ dst := (some 15), op := .load 23 (.tmp 2), ty := 23, guard := none },
  { dst := (some 16), op := .call { callee := (.value (.func 31)), args := #[(.tmp 15)], argTypes := #[23] }, ty := 47, guard := none },
  { dst := (some 17), op := .load 23 (.tmp 3), ty := 23, guard := none },
  { dst := (some 18), op := .call { callee := (.value (.func 31)), args := #[(.tmp 17)], argTypes := #[23] }, ty := 47, guard := none },
  { dst := (some 19), op := .binOp .mul 47 (.tmp 16) (.tmp 18) 47, ty := 47, guard := none },
  { dst := (some 20), op := .call { callee := (.value (.func 30)), args := #[(.tmp 19)], argTypes := #[47] }, ty := 31, guard := none },
  { dst := (some 21), op := .extract (.tmp 20) 0, ty := 23, guard := none },
  { dst := (some 22), op := .extract (.tmp 20) 1, ty := 24, guard := none },
  { dst := none, op := .store 23 (.tmp 4) (.tmp 21), ty := 0, guard := none },
  { dst := (some 5), op := .assign (.tmp 22), ty := 24, guard := none }]
def c16_11 : AC := .region o16_11 []
theorem n16_11 : Run Cx 16 T ds ro (.code c16_11 :: k) H Q = RunOps Cx 16 T ds ro o16_11 k H Q := run_region
def c16_12 : AC := .ret
theorem n16_12 : Run Cx 16 T [] none (.code c16_12 :: k) H Q = RunRes Cx T H Q (resOf Cx 16) := run_ret
def c16_10 : AC := .seq c16_11 c16_12
theorem n16_10 : Run Cx 16 T ds ro (.code c16_10 :: k) H Q = Run Cx 16 T ds ro (.code c16_11 :: .code c16_12 :: k) H Q := run_seq
def c16_2 : AC := .seq c16_3 c16_10
theorem n16_2 : Run Cx 16 T ds ro (.code c16_2 :: k) H Q = Run Cx 16 T ds ro (.code c16_3 :: .code c16_10 :: k) H Q := run_seq
def c16_0 : AC := .seq c16_1 c16_2
theorem n16_0 : Run Cx 16 T ds ro (.code c16_0 :: k) H Q = Run Cx 16 T ds ro (.code c16_1 :: .code c16_2 :: k) H Q := run_seq
theorem body16 : bodyOf Cx 16 = some c16_0 := by kernel_rfl
theorem res16 : resOf Cx 16 = some [.cell 4 23, .tmp 5] := by kernel_rfl
theorem pure16 : Cx.pure 16 = true := by kernel_rfl
-- RULES 16: n16_0, n16_1, n16_2, n16_3, n16_4, n16_5, n16_6, n16_7, n16_8, n16_9, n16_10, n16_11, n16_12
def o17_1 : List AO := [{ dst := (some 2), op := .box 23 (.tmp 0), ty := 0, guard := none },
  { dst := (some 3), op := .box 23 (.tmp 1), ty := 0, guard := none },
  { dst := (some 4), op := .alloc 23, ty := 0, guard := none },
  { dst := (some 5), op := .assign (.const (.int .i64 0)), ty := 24, guard := none }]
def c17_1 : AC := .region o17_1 []
theorem n17_1 : Run Cx 17 T ds ro (.code c17_1 :: k) H Q = RunOps Cx 17 T ds ro o17_1 k H Q := run_region
def o17_4 : List AO := [{ dst := (some 6), op := .load 23 (.tmp 2), ty := 23, guard := none },
  { dst := (some 7), op := .call { callee := (.value (.func 19)), args := #[(.tmp 6)], argTypes := #[23] }, ty := 4, guard := none },
  { dst := (some 8), op := .unOp .not 4 (.tmp 7), ty := 4, guard := none },
  { dst := (some 9), op := .move (.tmp 8), ty := 4, guard := none },
  { dst := (some 10), op := .load 23 (.tmp 3), ty := 23, guard := (some (9, false)) },
  { dst := (some 11), op := .call { callee := (.value (.func 19)), args := #[(.tmp 10)], argTypes := #[23] }, ty := 4, guard := (some (9, false)) },
  { dst := (some 12), op := .unOp .not 4 (.tmp 11), ty := 4, guard := (some (9, false)) },
  { dst := (some 13), op := .pick (.tmp 9) (.const (.bool true)) (.tmp 12), ty := 4, guard := none }]
def c17_4 : AC := .region o17_4 []
theorem n17_4 : Run Cx 17 T ds ro (.code c17_4 :: k) H Q = RunOps Cx 17 T ds ro o17_4 k H Q := run_region
def o17_7 : List AO := [{ dst := (some 14), op := .build 23 #[], ty := 23, guard := none },
  { dst := none, op := .store 23 (.tmp 4) (.tmp 14), ty := 0, guard := none },
  { dst := (some 5), op := .assign (.const (.int .i64 14)), ty := 24, guard := none }]
def c17_7 : AC := .region o17_7 []
theorem n17_7 : Run Cx 17 T ds ro (.code c17_7 :: k) H Q = RunOps Cx 17 T ds ro o17_7 k H Q := run_region
def c17_8 : AC := .ret
theorem n17_8 : Run Cx 17 T [] none (.code c17_8 :: k) H Q = RunRes Cx T H Q (resOf Cx 17) := run_ret
def c17_6 : AC := .seq c17_7 c17_8
theorem n17_6 : Run Cx 17 T ds ro (.code c17_6 :: k) H Q = Run Cx 17 T ds ro (.code c17_7 :: .code c17_8 :: k) H Q := run_seq
def c17_9 : AC := .skip
theorem n17_9 : Run Cx 17 T ds ro (.code c17_9 :: k) H Q = Run Cx 17 T ds ro (k) H Q := run_skip
def c17_5 : AC := .cond (.tmp 13) c17_6 c17_9
theorem n17_5 : Run Cx 17 T ds ro (.code c17_5 :: k) H Q = RunCond Cx 17 T ds ro (.tmp 13) (ev T (.tmp 13)) c17_6 c17_9 k H Q := run_condC
def c17_3 : AC := .seq c17_4 c17_5
theorem n17_3 : Run Cx 17 T ds ro (.code c17_3 :: k) H Q = Run Cx 17 T ds ro (.code c17_4 :: .code c17_5 :: k) H Q := run_seq
def o17_11 : List AO := [{ dst := (some 15), op := .load 23 (.tmp 2), ty := 23, guard := none },
  { dst := (some 16), op := .call { callee := (.value (.func 31)), args := #[(.tmp 15)], argTypes := #[23] }, ty := 47, guard := none },
  { dst := (some 17), op := .load 23 (.tmp 3), ty := 23, guard := none },
  { dst := (some 18), op := .call { callee := (.value (.func 31)), args := #[(.tmp 17)], argTypes := #[23] }, ty := 47, guard := none },
  { dst := (some 19), op := .binOp .add 47 (.tmp 16) (.tmp 18) 47, ty := 47, guard := none },
  { dst := (some 20), op := .call { callee := (.value (.func 30)), args := #[(.tmp 19)], argTypes := #[47] }, ty := 31, guard := none },
  { dst := (some 21), op := .extract (.tmp 20) 0, ty := 23, guard := none },
  { dst := (some 22), op := .extract (.tmp 20) 1, ty := 24, guard := none },
  { dst := none, op := .store 23 (.tmp 4) (.tmp 21), ty := 0, guard := none },
  { dst := (some 5), op := .assign (.tmp 22), ty := 24, guard := none }]
def c17_11 : AC := .region o17_11 []
theorem n17_11 : Run Cx 17 T ds ro (.code c17_11 :: k) H Q = RunOps Cx 17 T ds ro o17_11 k H Q := run_region
def c17_12 : AC := .ret
theorem n17_12 : Run Cx 17 T [] none (.code c17_12 :: k) H Q = RunRes Cx T H Q (resOf Cx 17) := run_ret
def c17_10 : AC := .seq c17_11 c17_12
theorem n17_10 : Run Cx 17 T ds ro (.code c17_10 :: k) H Q = Run Cx 17 T ds ro (.code c17_11 :: .code c17_12 :: k) H Q := run_seq
def c17_2 : AC := .seq c17_3 c17_10
theorem n17_2 : Run Cx 17 T ds ro (.code c17_2 :: k) H Q = Run Cx 17 T ds ro (.code c17_3 :: .code c17_10 :: k) H Q := run_seq
def c17_0 : AC := .seq c17_1 c17_2
theorem n17_0 : Run Cx 17 T ds ro (.code c17_0 :: k) H Q = Run Cx 17 T ds ro (.code c17_1 :: .code c17_2 :: k) H Q := run_seq
theorem body17 : bodyOf Cx 17 = some c17_0 := by kernel_rfl
theorem res17 : resOf Cx 17 = some [.cell 4 23, .tmp 5] := by kernel_rfl
theorem pure17 : Cx.pure 17 = true := by kernel_rfl
-- RULES 17: n17_0, n17_1, n17_2, n17_3, n17_4, n17_5, n17_6, n17_7, n17_8, n17_9, n17_10, n17_11, n17_12
def o18_1 : List AO := [{ dst := (some 2), op := .box 23 (.tmp 0), ty := 0, guard := none },
  { dst := (some 3), op := .box 23 (.tmp 1), ty := 0, guard := none },
  { dst := (some 4), op := .alloc 23, ty := 0, guard := none },
  { dst := (some 5), op := .assign (.const (.int .i64 0)), ty := 24, guard := none }]
def c18_1 : AC := .region o18_1 []
theorem n18_1 : Run Cx 18 T ds ro (.code c18_1 :: k) H Q = RunOps Cx 18 T ds ro o18_1 k H Q := run_region
def o18_4 : List AO := [{ dst := (some 6), op := .load 23 (.tmp 2), ty := 23, guard := none },
  { dst := (some 7), op := .call { callee := (.value (.func 19)), args := #[(.tmp 6)], argTypes := #[23] }, ty := 4, guard := none },
  { dst := (some 8), op := .unOp .not 4 (.tmp 7), ty := 4, guard := none },
  { dst := (some 9), op := .move (.tmp 8), ty := 4, guard := none },
  { dst := (some 10), op := .load 23 (.tmp 3), ty := 23, guard := (some (9, false)) },
  { dst := (some 11), op := .call { callee := (.value (.func 19)), args := #[(.tmp 10)], argTypes := #[23] }, ty := 4, guard := (some (9, false)) },
  { dst := (some 12), op := .unOp .not 4 (.tmp 11), ty := 4, guard := (some (9, false)) },
  { dst := (some 13), op := .pick (.tmp 9) (.const (.bool true)) (.tmp 12), ty := 4, guard := none }]
def c18_4 : AC := .region o18_4 []
theorem n18_4 : Run Cx 18 T ds ro (.code c18_4 :: k) H Q = RunOps Cx 18 T ds ro o18_4 k H Q := run_region
def o18_7 : List AO := [{ dst := (some 14), op := .build 23 #[], ty := 23, guard := none },
  { dst := none, op := .store 23 (.tmp 4) (.tmp 14), ty := 0, guard := none },
  { dst := (some 5), op := .assign (.const (.int .i64 14)), ty := 24, guard := none }]
def c18_7 : AC := .region o18_7 []
theorem n18_7 : Run Cx 18 T ds ro (.code c18_7 :: k) H Q = RunOps Cx 18 T ds ro o18_7 k H Q := run_region
def c18_8 : AC := .ret
theorem n18_8 : Run Cx 18 T [] none (.code c18_8 :: k) H Q = RunRes Cx T H Q (resOf Cx 18) := run_ret
def c18_6 : AC := .seq c18_7 c18_8
theorem n18_6 : Run Cx 18 T ds ro (.code c18_6 :: k) H Q = Run Cx 18 T ds ro (.code c18_7 :: .code c18_8 :: k) H Q := run_seq
def c18_9 : AC := .skip
theorem n18_9 : Run Cx 18 T ds ro (.code c18_9 :: k) H Q = Run Cx 18 T ds ro (k) H Q := run_skip
def c18_5 : AC := .cond (.tmp 13) c18_6 c18_9
theorem n18_5 : Run Cx 18 T ds ro (.code c18_5 :: k) H Q = RunCond Cx 18 T ds ro (.tmp 13) (ev T (.tmp 13)) c18_6 c18_9 k H Q := run_condC
def c18_3 : AC := .seq c18_4 c18_5
theorem n18_3 : Run Cx 18 T ds ro (.code c18_3 :: k) H Q = Run Cx 18 T ds ro (.code c18_4 :: .code c18_5 :: k) H Q := run_seq
def o18_11 : List AO := [{ dst := (some 15), op := .load 23 (.tmp 2), ty := 23, guard := none },
  { dst := (some 16), op := .call { callee := (.value (.func 31)), args := #[(.tmp 15)], argTypes := #[23] }, ty := 47, guard := none },
  { dst := (some 17), op := .load 23 (.tmp 3), ty := 23, guard := none },
  { dst := (some 18), op := .call { callee := (.value (.func 31)), args := #[(.tmp 17)], argTypes := #[23] }, ty := 47, guard := none },
  { dst := (some 19), op := .binOp .sub 47 (.tmp 16) (.tmp 18) 47, ty := 47, guard := none },
  { dst := (some 20), op := .call { callee := (.value (.func 30)), args := #[(.tmp 19)], argTypes := #[47] }, ty := 31, guard := none },
  { dst := (some 21), op := .extract (.tmp 20) 0, ty := 23, guard := none },
  { dst := (some 22), op := .extract (.tmp 20) 1, ty := 24, guard := none },
  { dst := none, op := .store 23 (.tmp 4) (.tmp 21), ty := 0, guard := none },
  { dst := (some 5), op := .assign (.tmp 22), ty := 24, guard := none }]
def c18_11 : AC := .region o18_11 []
theorem n18_11 : Run Cx 18 T ds ro (.code c18_11 :: k) H Q = RunOps Cx 18 T ds ro o18_11 k H Q := run_region
def c18_12 : AC := .ret
theorem n18_12 : Run Cx 18 T [] none (.code c18_12 :: k) H Q = RunRes Cx T H Q (resOf Cx 18) := run_ret
def c18_10 : AC := .seq c18_11 c18_12
theorem n18_10 : Run Cx 18 T ds ro (.code c18_10 :: k) H Q = Run Cx 18 T ds ro (.code c18_11 :: .code c18_12 :: k) H Q := run_seq
def c18_2 : AC := .seq c18_3 c18_10
theorem n18_2 : Run Cx 18 T ds ro (.code c18_2 :: k) H Q = Run Cx 18 T ds ro (.code c18_3 :: .code c18_10 :: k) H Q := run_seq
def c18_0 : AC := .seq c18_1 c18_2
theorem n18_0 : Run Cx 18 T ds ro (.code c18_0 :: k) H Q = Run Cx 18 T ds ro (.code c18_1 :: .code c18_2 :: k) H Q := run_seq
theorem body18 : bodyOf Cx 18 = some c18_0 := by kernel_rfl
theorem res18 : resOf Cx 18 = some [.cell 4 23, .tmp 5] := by kernel_rfl
theorem pure18 : Cx.pure 18 = true := by kernel_rfl
-- RULES 18: n18_0, n18_1, n18_2, n18_3, n18_4, n18_5, n18_6, n18_7, n18_8, n18_9, n18_10, n18_11, n18_12
def o19_1 : List AO := [{ dst := (some 1), op := .box 23 (.tmp 0), ty := 0, guard := none },
  { dst := (some 2), op := .assign (.const (.bool false)), ty := 4, guard := none }]
def c19_1 : AC := .region o19_1 []
theorem n19_1 : Run Cx 19 T ds ro (.code c19_1 :: k) H Q = RunOps Cx 19 T ds ro o19_1 k H Q := run_region
def o19_3 : List AO := [{ dst := (some 3), op := .fieldAddr 23 (.tmp 1) 0, ty := 0, guard := none },
  { dst := (some 4), op := .load 3 (.tmp 3), ty := 3, guard := none },
  { dst := (some 5), op := .call { callee := (.value (.func 32)), args := #[(.tmp 4)], argTypes := #[3] }, ty := 4, guard := none },
  { dst := (some 6), op := .move (.tmp 5), ty := 4, guard := none },
  { dst := (some 7), op := .fieldAddr 23 (.tmp 1) 1, ty := 0, guard := (some (6, true)) },
  { dst := (some 8), op := .load 3 (.tmp 7), ty := 3, guard := (some (6, true)) },
  { dst := (some 9), op := .call { callee := (.value (.func 32)), args := #[(.tmp 8)], argTypes := #[3] }, ty := 4, guard := (some (6, true)) },
  { dst := (some 10), op := .pick (.tmp 6) (.tmp 9) (.const (.bool false)), ty := 4, guard := none },
  { dst := (some 2), op := .assign (.tmp 10), ty := 4, guard := none }]
def c19_3 : AC := .region o19_3 []
theorem n19_3 : Run Cx 19 T ds ro (.code c19_3 :: k) H Q = RunOps Cx 19 T ds ro o19_3 k H Q := run_region
def c19_4 : AC := .ret
theorem n19_4 : Run Cx 19 T [] none (.code c19_4 :: k) H Q = RunRes Cx T H Q (resOf Cx 19) := run_ret
def c19_2 : AC := .seq c19_3 c19_4
theorem n19_2 : Run Cx 19 T ds ro (.code c19_2 :: k) H Q = Run Cx 19 T ds ro (.code c19_3 :: .code c19_4 :: k) H Q := run_seq
def c19_0 : AC := .seq c19_1 c19_2
theorem n19_0 : Run Cx 19 T ds ro (.code c19_0 :: k) H Q = Run Cx 19 T ds ro (.code c19_1 :: .code c19_2 :: k) H Q := run_seq
theorem body19 : bodyOf Cx 19 = some c19_0 := by kernel_rfl
theorem res19 : resOf Cx 19 = some [.tmp 2] := by kernel_rfl
theorem pure19 : Cx.pure 19 = true := by kernel_rfl
-- RULES 19: n19_0, n19_1, n19_2, n19_3, n19_4
def o20_1 : List AO := [{ dst := (some 2), op := .box 23 (.tmp 0), ty := 0, guard := none },
  { dst := (some 4), op := .alloc 23, ty := 0, guard := none },
  { dst := (some 5), op := .assign (.const (.int .i64 0)), ty := 24, guard := none }]
def c20_1 : AC := .region o20_1 []
theorem n20_1 : Run Cx 20 T ds ro (.code c20_1 :: k) H Q = RunOps Cx 20 T ds ro o20_1 k H Q := run_region
def o20_4 : List AO := [{ dst := (some 7), op := .load 23 (.tmp 2), ty := 23, guard := none },
  { dst := (some 8), op := .call { callee := (.value (.func 19)), args := #[(.tmp 7)], argTypes := #[23] }, ty := 4, guard := none },
  { dst := (some 9), op := .unOp .not 4 (.tmp 8), ty := 4, guard := none }]
def c20_4 : AC := .region o20_4 []
theorem n20_4 : Run Cx 20 T ds ro (.code c20_4 :: k) H Q = RunOps Cx 20 T ds ro o20_4 k H Q := run_region
def o20_7 : List AO := [{ dst := (some 10), op := .build 23 #[], ty := 23, guard := none },
  { dst := none, op := .store 23 (.tmp 4) (.tmp 10), ty := 0, guard := none },
  { dst := (some 5), op := .assign (.const (.int .i64 14)), ty := 24, guard := none }]
def c20_7 : AC := .region o20_7 []
theorem n20_7 : Run Cx 20 T ds ro (.code c20_7 :: k) H Q = RunOps Cx 20 T ds ro o20_7 k H Q := run_region
def c20_8 : AC := .ret
theorem n20_8 : Run Cx 20 T [] none (.code c20_8 :: k) H Q = RunRes Cx T H Q (resOf Cx 20) := run_ret
def c20_6 : AC := .seq c20_7 c20_8
theorem n20_6 : Run Cx 20 T ds ro (.code c20_6 :: k) H Q = Run Cx 20 T ds ro (.code c20_7 :: .code c20_8 :: k) H Q := run_seq
def c20_9 : AC := .skip
theorem n20_9 : Run Cx 20 T ds ro (.code c20_9 :: k) H Q = Run Cx 20 T ds ro (k) H Q := run_skip
def c20_5 : AC := .cond (.tmp 9) c20_6 c20_9
theorem n20_5 : Run Cx 20 T ds ro (.code c20_5 :: k) H Q = RunCond Cx 20 T ds ro (.tmp 9) (ev T (.tmp 9)) c20_6 c20_9 k H Q := run_condC
def c20_3 : AC := .seq c20_4 c20_5
theorem n20_3 : Run Cx 20 T ds ro (.code c20_3 :: k) H Q = Run Cx 20 T ds ro (.code c20_4 :: .code c20_5 :: k) H Q := run_seq
def o20_11 : List AO := [{ dst := (some 11), op := .load 23 (.tmp 2), ty := 23, guard := none },
  { dst := (some 12), op := .call { callee := (.value (.func 31)), args := #[(.tmp 11)], argTypes := #[23] }, ty := 47, guard := none },
  { dst := (some 6), op := .assign (.tmp 12), ty := 47, guard := none }]
def c20_11 : AC := .region o20_11 []
theorem n20_11 : Run Cx 20 T ds ro (.code c20_11 :: k) H Q = RunOps Cx 20 T ds ro o20_11 k H Q := run_region
def o20_14 : List AO := [{ dst := (some 13), op := .move (.tmp 1), ty := 3, guard := none },
  { dst := (some 14), op := .binOp .rem 3 (.tmp 13) (.const (.int .i64 4)) 3, ty := 3, guard := none },
  { dst := (some 15), op := .binOp .add 3 (.tmp 14) (.const (.int .i64 4)) 3, ty := 3, guard := none },
  { dst := (some 16), op := .binOp .rem 3 (.tmp 15) (.const (.int .i64 4)) 3, ty := 3, guard := none },
  { dst := (some 17), op := .move (.const (.int .i64 0)), ty := 3, guard := none }]
def c20_14 : AC := .region o20_14 []
theorem n20_14 : Run Cx 20 T ds ro (.code c20_14 :: k) H Q = RunOps Cx 20 T ds ro o20_14 k H Q := run_region
def o20_18 : List AO := [{ dst := (some 18), op := .binOp .lss 3 (.tmp 17) (.tmp 16) 3, ty := 4, guard := none }]
def c20_18 : AC := .region o20_18 []
theorem n20_18 : Run Cx 20 T ds ro (.code c20_18 :: k) H Q = RunOps Cx 20 T ds ro o20_18 k H Q := run_region
def c20_21 : AC := .skip
theorem n20_21 : Run Cx 20 T ds ro (.code c20_21 :: k) H Q = Run Cx 20 T ds ro (k) H Q := run_skip
def c20_22 : AC := .exit 0
theorem n20_22 : Run Cx 20 T ds ro (.code c20_22 :: k) H Q = RunExit Cx 20 T ds ro 0 k k H Q := run_exit_start
def c20_20 : AC := .cond (.tmp 18) c20_21 c20_22
theorem n20_20 : Run Cx 20 T ds ro (.code c20_20 :: k) H Q = RunCond Cx 20 T ds ro (.tmp 18) (ev T (.tmp 18)) c20_21 c20_22 k H Q := run_condC
def o20_25 : List AO := [{ dst := (some 19), op := .move (.tmp 6), ty := 47, guard := none },
  { dst := (some 20), op := .binOp .mul 47 (.tmp 19) (.const (.complex .f64 0 4607182418800017408)) 47, ty := 47, guard := none },
  { dst := (some 6), op := .assign (.tmp 20), ty := 47, guard := none }]
def c20_25 : AC := .region o20_25 []
theorem n20_25 : Run Cx 20 T ds ro (.code c20_25 :: k) H Q = RunOps Cx 20 T ds ro o20_25 k H Q := run_region
def c20_24 : AC := .block 1 c20_25
theorem n20_24 : Run Cx 20 T ds ro (.code c20_24 :: k) H Q = Run Cx 20 T ds ro (.code c20_25 :: .inBlock 1 :: k) H Q := run_block
def o20_26 : List AO := [{ dst := (some 21), op := .binOp .add 3 (.tmp 17) (.const (.int .i64 1)) 3, ty := 3, guard := none },
  { dst := (some 17), op := .move (.tmp 21), ty := 3, guard := none }]
def c20_26 : AC := .region o20_26 []
theorem n20_26 : Run Cx 20 T ds ro (.code c20_26 :: k) H Q = RunOps Cx 20 T ds ro o20_26 k H Q := run_region
def c20_23 : AC := .seq c20_24 c20_26
theorem n20_23 : Run Cx 20 T ds ro (.code c20_23 :: k) H Q = Run Cx 20 T ds ro (.code c20_24 :: .code c20_26 :: k) H Q := run_seq
def c20_19 : AC := .seq c20_20 c20_23
theorem n20_19 : Run Cx 20 T ds ro (.code c20_19 :: k) H Q = Run Cx 20 T ds ro (.code c20_20 :: .code c20_23 :: k) H Q := run_seq
def c20_17 : AC := .seq c20_18 c20_19
theorem n20_17 : Run Cx 20 T ds ro (.code c20_17 :: k) H Q = Run Cx 20 T ds ro (.code c20_18 :: .code c20_19 :: k) H Q := run_seq
def c20_16 : AC := .loop c20_17
theorem n20_16 : Run Cx 20 T ds ro (.code c20_16 :: k) H Q = Run Cx 20 T ds ro (.inLoop c20_17 :: k) H Q := run_loop'
def c20_15 : AC := .block 0 c20_16
theorem n20_15 : Run Cx 20 T ds ro (.code c20_15 :: k) H Q = Run Cx 20 T ds ro (.code c20_16 :: .inBlock 0 :: k) H Q := run_block
def c20_13 : AC := .seq c20_14 c20_15
theorem n20_13 : Run Cx 20 T ds ro (.code c20_13 :: k) H Q = Run Cx 20 T ds ro (.code c20_14 :: .code c20_15 :: k) H Q := run_seq
def o20_28 : List AO := [{ dst := (some 22), op := .move (.tmp 6), ty := 47, guard := none },
  { dst := (some 23), op := .call { callee := (.value (.func 30)), args := #[(.tmp 22)], argTypes := #[47] }, ty := 31, guard := none },
  { dst := (some 24), op := .extract (.tmp 23) 0, ty := 23, guard := none },
  { dst := (some 25), op := .extract (.tmp 23) 1, ty := 24, guard := none },
  { dst := none, op := .store 23 (.tmp 4) (.tmp 24), ty := 0, guard := none },
  { dst := (some 5), op := .assign (.tmp 25), ty := 24, guard := none }]
def c20_28 : AC := .region o20_28 []
theorem n20_28 : Run Cx 20 T ds ro (.code c20_28 :: k) H Q = RunOps Cx 20 T ds ro o20_28 k H Q := run_region
def c20_29 : AC := .ret
theorem n20_29 : Run Cx 20 T [] none (.code c20_29 :: k) H Q = RunRes Cx T H Q (resOf Cx 20) := run_ret
def c20_27 : AC := .seq c20_28 c20_29
theorem n20_27 : Run Cx 20 T ds ro (.code c20_27 :: k) H Q = Run Cx 20 T ds ro (.code c20_28 :: .code c20_29 :: k) H Q := run_seq
def c20_12 : AC := .seq c20_13 c20_27
theorem n20_12 : Run Cx 20 T ds ro (.code c20_12 :: k) H Q = Run Cx 20 T ds ro (.code c20_13 :: .code c20_27 :: k) H Q := run_seq
def c20_10 : AC := .seq c20_11 c20_12
theorem n20_10 : Run Cx 20 T ds ro (.code c20_10 :: k) H Q = Run Cx 20 T ds ro (.code c20_11 :: .code c20_12 :: k) H Q := run_seq
def c20_2 : AC := .seq c20_3 c20_10
theorem n20_2 : Run Cx 20 T ds ro (.code c20_2 :: k) H Q = Run Cx 20 T ds ro (.code c20_3 :: .code c20_10 :: k) H Q := run_seq
def c20_0 : AC := .seq c20_1 c20_2
theorem n20_0 : Run Cx 20 T ds ro (.code c20_0 :: k) H Q = Run Cx 20 T ds ro (.code c20_1 :: .code c20_2 :: k) H Q := run_seq
theorem body20 : bodyOf Cx 20 = some c20_0 := by kernel_rfl
theorem res20 : resOf Cx 20 = some [.cell 4 23, .tmp 5] := by kernel_rfl
theorem pure20 : Cx.pure 20 = true := by kernel_rfl
-- RULES 20: n20_0, n20_1, n20_2, n20_3, n20_4, n20_5, n20_6, n20_7, n20_8, n20_9, n20_10, n20_11, n20_12, n20_13, n20_14, n20_15, n20_16, n20_17, n20_18, n20_19, n20_20, n20_21, n20_22, n20_23, n20_24, n20_25, n20_26, n20_27, n20_28, n20_29
def o21_1 : List AO := [{ dst := (some 1), op := .box 23 (.tmp 0), ty := 0, guard := none },
  { dst := (some 2), op := .alloc 23, ty := 0, guard := none },
  { dst := (some 3), op := .assign (.const (.int .i64 0)), ty := 24, guard := none }]
def c21_1 : AC := .region o21_1 []
theorem n21_1 : Run Cx 21 T ds ro (.code c21_1 :: k) H Q = RunOps Cx 21 T ds ro o21_1 k H Q := run_region
def o21_4 : List AO := [{ dst := (some 4), op := .load 23 (.tmp 1), ty := 23, guard := none },
  { dst := (some 5), op := .call { callee := (.value (.func 19)), args := #[(.tmp 4)], argTypes := #[23] }, ty := 4, guard := none },
  { dst := (some 6), op := .unOp .not 4 (.tmp 5), ty := 4, guard := none }]
def c21_4 : AC := .region o21_4 []
theorem n21_4 : Run Cx 21 T ds ro (.code c21_4 :: k) H Q = RunOps Cx 21 T ds ro o21_4 k H Q := run_region
def o21_7 : List AO := [{ dst := (some 7), op := .build 23 #[], ty := 23, guard := none },
  { dst := none, op := .store 23 (.tmp 2) (.tmp 7), ty := 0, guard := none },
  { dst := (some 3), op := .assign (.const (.int .i64 14)), ty := 24, guard := none }]
def c21_7 : AC := .region o21_7 []
theorem n21_7 : Run Cx 21 T ds ro (.code c21_7 :: k) H Q = RunOps Cx 21 T ds ro o21_7 k H Q := run_region
def c21_8 : AC := .ret
theorem n21_8 : Run Cx 21 T [] none (.code c21_8 :: k) H Q = RunRes Cx T H Q (resOf Cx 21) := run_ret
def c21_6 : AC := .seq c21_7 c21_8
theorem n21_6 : Run Cx 21 T ds ro (.code c21_6 :: k) H Q = Run Cx 21 T ds ro (.code c21_7 :: .code c21_8 :: k) H Q := run_seq
def c21_9 : AC := .skip
theorem n21_9 : Run Cx 21 T ds ro (.code c21_9 :: k) H Q = Run Cx 21 T ds ro (k) H Q := run_skip
def c21_5 : AC := .cond (.tmp 6) c21_6 c21_9
theorem n21_5 : Run Cx 21 T ds ro (.code c21_5 :: k) H Q = RunCond Cx 21 T ds ro (.tmp 6) (ev T (.tmp 6)) c21_6 c21_9 k H Q := run_condC
def c21_3 : AC := .seq c21_4 c21_5
theorem n21_3 : Run Cx 21 T ds ro (.code c21_3 :: k) H Q = Run Cx 21 T ds ro (.code c21_4 :: .code c21_5 :: k) H Q := run_seq
def o21_11 : List AO := [{ dst := (some 8), op := .fieldAddr 23 (.tmp 1) 0, ty := 0, guard := none },
  { dst := (some 9), op := .load 3 (.tmp 8), ty := 3, guard := none },
  { dst := (some 10), op := .fieldAddr 23 (.tmp 1) 1, ty := 0, guard := none },
  { dst := (some 11), op := .load 3 (.tmp 10), ty := 3, guard := none },
  { dst := (some 12), op := .unOp .neg 3 (.tmp 11), ty := 3, guard := none },
  { dst := (some 13), op := .build 23 #[(0, (.tmp 9)), (1, (.tmp 12))], ty := 23, guard := none },
  { dst := none, op := .store 23 (.tmp 2) (.tmp 13), ty := 0, guard := none },
  { dst := (some 3), op := .assign (.const (.int .i64 0)), ty := 24, guard := none }]
def c21_11 : AC := .region o21_11 []
theorem n21_11 : Run Cx 21 T ds ro (.code c21_11 :: k) H Q = RunOps Cx 21 T ds ro o21_11 k H Q := run_region
def c21_12 : AC := .ret
theorem n21_12 : Run Cx 21 T [] none (.code c21_12 :: k) H Q = RunRes Cx T H Q (resOf Cx 21) := run_ret
def c21_10 : AC := .seq c21_11 c21_12
theorem n21_10 : Run Cx 21 T ds ro (.code c21_10 :: k) H Q = Run Cx 21 T ds ro (.code c21_11 :: .code c21_12 :: k) H Q := run_seq
def c21_2 : AC := .seq c21_3 c21_10
theorem n21_2 : Run Cx 21 T ds ro (.code c21_2 :: k) H Q = Run Cx 21 T ds ro (.code c21_3 :: .code c21_10 :: k) H Q := run_seq
def c21_0 : AC := .seq c21_1 c21_2
theorem n21_0 : Run Cx 21 T ds ro (.code c21_0 :: k) H Q = Run Cx 21 T ds ro (.code c21_1 :: .code c21_2 :: k) H Q := run_seq
theorem body21 : bodyOf Cx 21 = some c21_0 := by kernel_rfl
theorem res21 : resOf Cx 21 = some [.cell 2 23, .tmp 3] := by kernel_rfl
theorem pure21 : Cx.pure 21 = true := by kernel_rfl
-- RULES 21: n21_0, n21_1, n21_2, n21_3, n21_4, n21_5, n21_6, n21_7, n21_8, n21_9, n21_10, n21_11, n21_12
def o22_1 : List AO := [{ dst := (some 2), op := .box 23 (.tmp 0), ty := 0, guard := none },
  { dst := (some 3), op := .box 23 (.tmp 1), ty := 0, guard := none },
  { dst := (some 4), op := .alloc 23, ty := 0, guard := none }]
def c22_1 : AC := .region o22_1 []
theorem n22_1 : Run Cx 22 T ds ro (.code c22_1 :: k) H Q = RunOps Cx 22 T ds ro o22_1 k H Q := run_region
def o22_3 : List AO := [{ dst := (some 5), op := .fieldAddr 23 (.tmp 2) 0, ty := 0, guard := none },
  { dst := (some 6), op := .load 3 (.tmp 5), ty := 3, guard := none },
  { dst := (some 7), op := .fieldAddr 23 (.tmp 3) 0, ty := 0, guard := none },
  { dst := (some 8), op := .load 3 (.tmp 7), ty := 3, guard := none },
  { dst := (some 9), op := .binOp .mul 3 (.tmp 6) (.tmp 8) 3, ty := 3, guard := none },
  { dst := (some 10), op := .fieldAddr 23 (.tmp 2) 1, ty := 0, guard := none },
  { dst := (some 11), op := .load 3 (.tmp 10), ty := 3, guard := none },
  { dst := (some 12), op := .fieldAddr 23 (.tmp 3) 1, ty := 0, guard := none },
  { dst := (some 13), op := .load 3 (.tmp 12), ty := 3, guard := none },
  { dst := (some 14), op := .binOp .mul 3 (.tmp 11) (.tmp 13) 3, ty := 3, guard := none },
  { dst := (some 15), op := .binOp .sub 3 (.tmp 9) (.tmp 14) 3, ty := 3, guard := none },
  { dst := (some 16), op := .fieldAddr 23 (.tmp 2) 0, ty := 0, guard := none },
  { dst := (some 17), op := .load 3 (.tmp 16), ty := 3, guard := none },
  { dst := (some 18), op := .fieldAddr 23 (.tmp 3) 1, ty := 0, guard := none },
  { dst := (some 19), op := .load 3 (.tmp 18), ty := 3, guard := none },
  { dst := (some 20), op := .binOp .mul 3 (.tmp 17) (.tmp 19) 3, ty := 3, guard := none },
  { dst := (some 21), op := .fieldAddr 23 (.tmp 2) 1, ty := 0, guard := none },
  { dst := (some 22), op := .load 3 (.tmp 21), ty := 3, guard := none },
  { dst := (some 23), op := .fieldAddr 23 (.tmp 3) 0, ty := 0, guard := none },
  { dst := (some 24), op := .load 3 (.tmp 23), ty := 3, guard := none },
  { dst := (some 25), op := .binOp .mul 3 (.tmp 22) (.tmp 24) 3, ty := 3, guard := none },
  { dst := (some 26), op := .binOp .add 3 (.tmp 20) (.tmp 25) 3, ty := 3, guard := none },
  { dst := (some 27), op := .build 23 #[(0, (.tmp 15)), (1, (.tmp 26))], ty := 23, guard := none },
  { dst := none, op := .store 23 (.tmp 4) (.tmp 27), ty := 0, guard := none }]
def c22_3 : AC := .region o22_3 []
theorem n22_3 : Run Cx 22 T ds ro (.code c22_3 :: k) H Q = RunOps Cx 22 T ds ro o22_3 k H Q := run_region
def c22_4 : AC := .ret
theorem n22_4 : Run Cx 22 T [] none (.code c22_4 :: k) H Q = RunRes Cx T H Q (resOf Cx 22) := run_ret
def c22_2 : AC := .seq c22_3 c22_4
theorem n22_2 : Run Cx 22 T ds ro (.code c22_2 :: k) H Q = Run Cx 22 T ds ro (.code c22_3 :: .code c22_4 :: k) H Q := run_seq
def c22_0 : AC := .seq c22_1 c22_2
theorem n22_0 : Run Cx 22 T ds ro (.code c22_0 :: k) H Q = Run Cx 22 T ds ro (.code c22_1 :: .code c22_2 :: k) H Q := run_seq
theorem body22 : bodyOf Cx 22 = some c22_0 := by kernel_rfl
theorem res22 : resOf Cx 22 = some [.cell 4 23] := by kernel_rfl
theorem pure22 : Cx.pure 22 = true := by kernel_rfl
-- RULES 22: n22_0, n22_1, n22_2, n22_3, n22_4
def o23_1 : List AO := [{ dst := (some 2), op := .box 23 (.tmp 0), ty := 0, guard := none },
  { dst := (some 4), op := .alloc 23, ty := 0, guard := none },
  { dst := (some 5), op := .assign (.const (.int .i64 0)), ty := 24, guard := none }]
def c23_1 : AC := .region o23_1 []
theorem n23_1 : Run Cx 23 T ds ro (.code c23_1 :: k) H Q = RunOps Cx 23 T ds ro o23_1 k H Q := run_region
def o23_4 : List AO := [{ dst := (some 6), op := .move (.tmp 1), ty := 4, guard := none },
  { dst := (some 7), op := .move (.tmp 6), ty := 4, guard := none },
  { dst := (some 8), op := .load 23 (.tmp 2), ty := 23, guard := (some (7, true)) },
  { dst := (some 9), op := .call { callee := (.value (.func 13)), args := #[(.tmp 8)], argTypes := #[23] }, ty := 4, guard := (some (7, true)) },
  { dst := (some 10), op := .pick (.tmp 7) (.tmp 9) (.const (.bool false)), ty := 4, guard := none }]
def c23_4 : AC := .region o23_4 []
theorem n23_4 : Run Cx 23 T ds ro (.code c23_4 :: k) H Q = RunOps Cx 23 T ds ro o23_4 k H Q := run_region
def o23_7 : List AO := [{ dst := (some 11), op := .load 23 (.tmp 2), ty := 23, guard := none },
  { dst := none, op := .store 23 (.tmp 4) (.tmp 11), ty := 0, guard := none },
  { dst := (some 5), op := .assign (.const (.int .i64 0)), ty := 24, guard := none }]
def c23_7 : AC := .region o23_7 []
theorem n23_7 : Run Cx 23 T ds ro (.code c23_7 :: k) H Q = RunOps Cx 23 T ds ro o23_7 k H Q := run_region
def c23_8 : AC := .ret
theorem n23_8 : Run Cx 23 T [] none (.code c23_8 :: k) H Q = RunRes Cx T H Q (resOf Cx 23) := run_ret
def c23_6 : AC := .seq c23_7 c23_8
theorem n23_6 : Run Cx 23 T ds ro (.code c23_6 :: k) H Q = Run Cx 23 T ds ro (.code c23_7 :: .code c23_8 :: k) H Q := run_seq
def c23_9 : AC := .skip
theorem n23_9 : Run Cx 23 T ds ro (.code c23_9 :: k) H Q = Run Cx 23 T ds ro (k) H Q := run_skip
def c23_5 : AC := .cond (.tmp 10) c23_6 c23_9
theorem n23_5 : Run Cx 23 T ds ro (.code c23_5 :: k) H Q = RunCond Cx 23 T ds ro (.tmp 10) (ev T (.tmp 10)) c23_6 c23_9 k H Q := run_condC
def c23_3 : AC := .seq c23_4 c23_5
theorem n23_3 : Run Cx 23 T ds ro (.code c23_3 :: k) H Q = Run Cx 23 T ds ro (.code c23_4 :: .code c23_5 :: k) H Q := run_seq
def o23_11 : List AO := [{ dst := (some 12), op := .build 23 #[], ty := 23, guard := none },
  { dst := none, op := .store 23 (.tmp 4) (.tmp 12), ty := 0, guard := none },
  { dst := (some 5), op := .assign (.const (.int .i64 14)), ty := 24, guard := none }]
def c23_11 : AC := .region o23_11 []
theorem n23_11 : Run Cx 23 T ds ro (.code c23_11 :: k) H Q = RunOps Cx 23 T ds ro o23_11 k H Q := run_region
def c23_12 : AC := .ret
theorem n23_12 : Run Cx 23 T [] none (.code c23_12 :: k) H Q = RunRes Cx T H Q (resOf Cx 23) := run_ret
def c23_10 : AC := .seq c23_11 c23_12
theorem n23_10 : Run Cx 23 T ds ro (.code c23_10 :: k) H Q = Run Cx 23 T ds ro (.code c23_11 :: .code c23_12 :: k) H Q := run_seq
def c23_2 : AC := .seq c23_3 c23_10
theorem n23_2 : Run Cx 23 T ds ro (.code c23_2 :: k) H Q = Run Cx 23 T ds ro (.code c23_3 :: .code c23_10 :: k) H Q := run_seq
def c23_0 : AC := .seq c23_1 c23_2
theorem n23_0 : Run Cx 23 T ds ro (.code c23_0 :: k) H Q = Run Cx 23 T ds ro (.code c23_1 :: .code c23_2 :: k) H Q := run_seq
theorem body23 : bodyOf Cx 23 = some c23_0 := by kernel_rfl
theorem res23 : resOf Cx 23 = some [.cell 4 23, .tmp 5] := by kernel_rfl
theorem pure23 : Cx.pure 23 = true := by kernel_rfl
-- RULES 23: n23_0, n23_1, n23_2, n23_3, n23_4, n23_5, n23_6, n23_7, n23_8, n23_9, n23_10, n23_11, n23_12
def o24_1 : List AO := [{ dst := (some 1), op := .box 23 (.tmp 0), ty := 0, guard := none },
  { dst := (some 2), op := .assign (.const (.int .i64 0)), ty := 3, guard := none }]
def c24_1 : AC := .region o24_1 []
theorem n24_1 : Run Cx 24 T ds ro (.code c24_1 :: k) H Q = RunOps Cx 24 T ds ro o24_1 k H Q := run_region
def o24_3 : List AO := [{ dst := (some 3), op := .fieldAddr 23 (.tmp 1) 0, ty := 0, guard := none },
  { dst := (some 4), op := .load 3 (.tmp 3), ty := 3, guard := none },
  { dst := (some 5), op := .fieldAddr 23 (.tmp 1) 0, ty := 0, guard := none },
  { dst := (some 6), op := .load 3 (.tmp 5), ty := 3, guard := none },
  { dst := (some 7), op := .binOp .mul 3 (.tmp 4) (.tmp 6) 3, ty := 3, guard := none },
  { dst := (some 8), op := .fieldAddr 23 (.tmp 1) 1, ty := 0, guard := none },
  { dst := (some 9), op := .load 3 (.tmp 8), ty := 3, guard := none },
  { dst := (some 10), op := .fieldAddr 23 (.tmp 1) 1, ty := 0, guard := none },
  { dst := (some 11), op := .load 3 (.tmp 10), ty := 3, guard := none },
  { dst := (some 12), op := .binOp .mul 3 (.tmp 9) (.tmp 11) 3, ty := 3, guard := none },
  { dst := (some 13), op := .binOp .add 3 (.tmp 7) (.tmp 12) 3, ty := 3, guard := none },
  { dst := (some 2), op := .assign (.tmp 13), ty := 3, guard := none }]
def c24_3 : AC := .region o24_3 []
theorem n24_3 : Run Cx 24 T ds ro (.code c24_3 :: k) H Q = RunOps Cx 24 T ds ro o24_3 k H Q := run_region
def c24_4 : AC := .ret
theorem n24_4 : Run Cx 24 T [] none (.code c24_4 :: k) H Q = RunRes Cx T H Q (resOf Cx 24) := run_ret
def c24_2 : AC := .seq c24_3 c24_4
theorem n24_2 : Run Cx 24 T ds ro (.code c24_2 :: k) H Q = Run Cx 24 T ds ro (.code c24_3 :: .code c24_4 :: k) H Q := run_seq
def c24_0 : AC := .seq c24_1 c24_2
theorem n24_0 : Run Cx 24 T ds ro (.code c24_0 :: k) H Q = Run Cx 24 T ds ro (.code c24_1 :: .code c24_2 :: k) H Q := run_seq
theorem body24 : bodyOf Cx 24 = some c24_0 := by kernel_rfl
theorem res24 : resOf Cx 24 = some [.tmp 2] := by kernel_rfl
theorem pure24 : Cx.pure 24 = true := by kernel_rfl
-- RULES 24: n24_0, n24_1, n24_2, n24_3, n24_4
def o25_1 : List AO := [{ dst := (some 2), op := .box 23 (.tmp 0), ty := 0, guard := none },
  { dst := (some 3), op := .box 23 (.tmp 1), ty := 0, guard := none },
  { dst := (some 4), op := .assign (.const (.bool false)), ty := 4, guard := none }]
def c25_1 : AC := .region o25_1 []
theorem n25_1 : Run Cx 25 T ds ro (.code c25_1 :: k) H Q = RunOps Cx 25 T ds ro o25_1 k H Q := run_region
def o25_3 : List AO := [{ dst := (some 5), op := .fieldAddr 23 (.tmp 2) 0, ty := 0, guard := none },
  { dst := (some 6), op := .load 3 (.tmp 5), ty := 3, guard := none },
  { dst := (some 7), op := .fieldAddr 23 (.tmp 3) 0, ty := 0, guard := none },
  { dst := (some 8), op := .load 3 (.tmp 7), ty := 3, guard := none },
  { dst := (some 9), op := .call { callee := (.value (.func 34)), args := #[(.tmp 6), (.tmp 8)], argTypes := #[3, 3] }, ty := 3, guard := none },
  { dst := (some 10), op := .fieldAddr 23 (.tmp 2) 1, ty := 0, guard := none },
  { dst := (some 11), op := .load 3 (.tmp 10), ty := 3, guard := none },
  { dst := (some 12), op := .fieldAddr 23 (.tmp 3) 1, ty := 0, guard := none },
  { dst := (some 13), op := .load 3 (.tmp 12), ty := 3, guard := none },
  { dst := (some 14), op := .call { callee := (.value (.func 34)), args := #[(.tmp 11), (.tmp 13)], argTypes := #[3, 3] }, ty := 3, guard := none },
  { dst := (some 15), op := .buildSlice 52 2 #[(0, (.tmp 9)), (1, (.tmp 14))], ty := 52, guard := none },
  { dst := (some 16), op := .call { callee := (.value (.func 33)), args := #[(.tmp 15)], argTypes := #[52] }, ty := 3, guard := none },
  { dst := (some 17), op := .binOp .lss 3 (.tmp 16) (.const (.int .i64 0)) 3, ty := 4, guard := none },
  { dst := (some 4), op := .assign (.tmp 17), ty := 4, guard := none }]
def c25_3 : AC := .region o25_3 []
theorem n25_3 : Run Cx 25 T ds ro (.code c25_3 :: k) H Q = RunOps Cx 25 T ds ro o25_3 k H Q := run_region
def c25_4 : AC := .ret
theorem n25_4 : Run Cx 25 T [] none (.code c25_4 :: k) H Q = RunRes Cx T H Q (resOf Cx 25) := run_ret
def c25_2 : AC := .seq c25_3 c25_4
theorem n25_2 : Run Cx 25 T ds ro (.code c25_2 :: k) H Q = Run Cx 25 T ds ro (.code c25_3 :: .code c25_4 :: k) H Q := run_seq
def c25_0 : AC := .seq c25_1 c25_2
theorem n25_0 : Run Cx 25 T ds ro (.code c25_0 :: k) H Q = Run Cx 25 T ds ro (.code c25_1 :: .code c25_2 :: k) H Q := run_seq
theorem body25 : bodyOf Cx 25 = some c25_0 := by kernel_rfl
theorem res25 : resOf Cx 25 = some [.tmp 4] := by kernel_rfl
theorem pure25 : Cx.pure 25 = true := by kernel_rfl
-- RULES 25: n25_0, n25_1, n25_2, n25_3, n25_4
def o26_1 : List AO := [{ dst := (some 2), op := .box 23 (.tmp 0), ty := 0, guard := none },
  { dst := (some 3), op := .box 23 (.tmp 1), ty := 0, guard := none },
  { dst := (some 4), op := .alloc 23, ty := 0, guard := none },
  { dst := (some 5), op := .alloc 23, ty := 0, guard := none }]
def c26_1 : AC := .region o26_1 []
theorem n26_1 : Run Cx 26 T ds ro (.code c26_1 :: k) H Q = RunOps Cx 26 T ds ro o26_1 k H Q := run_region
def o26_3 : List AO := [{ dst := (some 10), op := .load 23 (.tmp 2), ty := 23, guard := none },
  { dst := (some 11), op := .call { callee := (.value (.func 31)), args := #[(.tmp 10)], argTypes := #[23] }, ty := 47, guard := none },
  { dst := (some 12), op := .fieldAddr 23 (.tmp 3) 0, ty := 0, guard := none },
  { dst := (some 13), op := .load 3 (.tmp 12), ty := 3, guard := none },
  { dst := (some 14), op := .fieldAddr 23 (.tmp 3) 1, ty := 0, guard := none },
  { dst := (some 15), op := .load 3 (.tmp 14), ty := 3, guard := none },
  { dst := (some 16), op := .unOp .neg 3 (.tmp 15), ty := 3, guard := none },
  { dst := (some 17), op := .build 23 #[(0, (.tmp 13)), (1, (.tmp 16))], ty := 23, guard := none },
  { dst := (some 18), op := .call { callee := (.value (.func 31)), args := #[(.tmp 17)], argTypes := #[23] }, ty := 47, guard := none },
  { dst := (some 19), op := .binOp .mul 47 (.tmp 11) (.tmp 18) 47, ty := 47, guard := none },
  { dst := (some 6), op := .assign (.tmp 19), ty := 47, guard := none }]
def c26_3 : AC := .region o26_3 []
theorem n26_3 : Run Cx 26 T ds ro (.code c26_3 :: k) H Q = RunOps Cx 26 T ds ro o26_3 k H Q := run_region
def o26_5 : List AO := [{ dst := (some 20), op := .load 23 (.tmp 3), ty := 23, guard := none },
  { dst := (some 21), op := .call { callee := (.value (.func 27)), args := #[(.tmp 20)], argTypes := #[23] }, ty := 3, guard := none },
  { dst := (some 7), op := .assign (.tmp 21), ty := 3, guard := none }]
def c26_5 : AC := .region o26_5 []
theorem n26_5 : Run Cx 26 T ds ro (.code c26_5 :: k) H Q = RunOps Cx 26 T ds ro o26_5 k H Q := run_region
def o26_7 : List AO := [{ dst := (some 22), op := .move (.tmp 6), ty := 47, guard := none },
  { dst := (some 23), op := .call { callee := (.builtin .real), args := #[(.tmp 22)], argTypes := #[47] }, ty := 51, guard := none },
  { dst := (some 24), op := .convert 51 3 (.tmp 23), ty := 3, guard := none },
  { dst := (some 25), op := .move (.tmp 7), ty := 3, guard := none },
  { dst := (some 26), op := .call { callee := (.value (.func 35)), args := #[(.tmp 24), (.tmp 25)], argTypes := #[3, 3] }, ty := 3, guard := none },
  { dst := (some 27), op := .move (.tmp 6), ty := 47, guard := none },
  { dst := (some 28), op := .call { callee := (.builtin .imag), args := #[(.tmp 27)], argTypes := #[47] }, ty := 51, guard := none },
  { dst := (some 29), op := .convert 51 3 (.tmp 28), ty := 3, guard := none },
  { dst := (some 30), op := .move (.tmp 7), ty := 3, guard := none },
  { dst := (some 31), op := .call { callee := (.value (.func 35)), args := #[(.tmp 29), (.tmp 30)], argTypes := #[3, 3] }, ty := 3, guard := none },
  { dst := (some 32), op := .build 23 #[(0, (.tmp 26)), (1, (.tmp 31))], ty := 23, guard := none },
  { dst := (some 8), op := .alloc 23, ty := 0, guard := none },
  { dst := none, op := .store 23 (.tmp 8) (.tmp 32), ty := 0, guard := none }]
def c26_7 : AC := .region o26_7 []
theorem n26_7 : Run Cx 26 T ds ro (.code c26_7 :: k) H Q = RunOps Cx 26 T ds ro o26_7 k H Q := run_region
def o26_9 : List AO := [{ dst := (some 33), op := .load 23 (.tmp 2), ty := 23, guard := none },
  { dst := (some 34), op := .call { callee := (.value (.func 31)), args := #[(.tmp 33)], argTypes := #[23] }, ty := 47, guard := none },
  { dst := (some 35), op := .load 23 (.tmp 8), ty := 23, guard := none },
  { dst := (some 36), op := .call { callee := (.value (.func 31)), args := #[(.tmp 35)], argTypes := #[23] }, ty := 47, guard := none },
  { dst := (some 37), op := .load 23 (.tmp 3), ty := 23, guard := none },
  { dst := (some 38), op := .call { callee := (.value (.func 31)), args := #[(.tmp 37)], argTypes := #[23] }, ty := 47, guard := none },
  { dst := (some 39), op := .binOp .mul 47 (.tmp 36) (.tmp 38) 47, ty := 47, guard := none },
  { dst := (some 40), op := .binOp .sub 47 (.tmp 34) (.tmp 39) 47, ty := 47, guard := none },
  { dst := (some 9), op := .assign (.tmp 40), ty := 47, guard := none }]
def c26_9 : AC := .region o26_9 []
theorem n26_9 : Run Cx 26 T ds ro (.code c26_9 :: k) H Q = RunOps Cx 26 T ds ro o26_9 k H Q := run_region
def o26_11 : List AO := [{ dst := (some 41), op := .load 23 (.tmp 8), ty := 23, guard := none },
  { dst := (some 42), op := .move (.tmp 9), ty := 47, guard := none },
  { dst := (some 43), op := .call { callee := (.builtin .real), args := #[(.tmp 42)], argTypes := #[47] }, ty := 51, guard := none },
  { dst := (some 44), op := .convert 51 3 (.tmp 43), ty := 3, guard := none },
  { dst := (some 45), op := .move (.tmp 9), ty := 47, guard := none },
  { dst := (some 46), op := .call { callee := (.builtin .imag), args := #[(.tmp 45)], argTypes := #[47] }, ty := 51, guard := none },
  { dst := (some 47), op := .convert 51 3 (.tmp 46), ty := 3, guard := none },
  { dst := (some 48), op := .build 23 #[(0, (.tmp 44)), (1, (.tmp 47))], ty := 23, guard := none },
  { dst := none, op := .store 23 (.tmp 4) (.tmp 41), ty := 0, guard := none },
  { dst := none, op := .store 23 (.tmp 5) (.tmp 48), ty := 0, guard := none }]
def c26_11 : AC := .region o26_11 []
theorem n26_11 : Run Cx 26 T ds ro (.code c26_11 :: k) H Q = RunOps Cx 26 T ds ro o26_11 k H Q := run_region
def c26_12 : AC := .ret
theorem n26_12 : Run Cx 26 T [] none (.code c26_12 :: k) H Q = RunRes Cx T H Q (resOf Cx 26) := run_ret
def c26_10 : AC := .seq c26_11 c26_12
theorem n26_10 : Run Cx 26 T ds ro (.code c26_10 :: k) H Q = Run Cx 26 T ds ro (.code c26_11 :: .code c26_12 :: k) H Q := run_seq
def c26_8 : AC := .seq c26_9 c26_10
theorem n26_8 : Run Cx 26 T ds ro (.code c26_8 :: k) H Q = Run Cx 26 T ds ro (.code c26_9 :: .code c26_10 :: k) H Q := run_seq
def c26_6 : AC := .seq c26_7 c26_8
theorem n26_6 : Run Cx 26 T ds ro (.code c26_6 :: k) H Q = Run Cx 26 T ds ro (.code c26_7 :: .code c26_8 :: k) H Q := run_seq
def c26_4 : AC := .seq c26_5 c26_6
theorem n26_4 : Run Cx 26 T ds ro (.code c26_4 :: k) H Q = Run Cx 26 T ds ro (.code c26_5 :: .code c26_6 :: k) H Q := run_seq
def c26_2 : AC := .seq c26_3 c26_4
theorem n26_2 : Run Cx 26 T ds ro (.code c26_2 :: k) H Q = Run Cx 26 T ds ro (.code c26_3 :: .code c26_4 :: k) H Q := run_seq
def c26_0 : AC := .seq c26_1 c26_2
theorem n26_0 : Run Cx 26 T ds ro (.code c26_0 :: k) H Q = Run Cx 26 T ds ro (.code c26_1 :: .code c26_2 :: k) H Q := run_seq
theorem body26 : bodyOf Cx 26 = some c26_0 := by kernel_rfl
theorem res26 : resOf Cx 26 = some [.cell 4 23, .cell 5 23] := by kernel_rfl
theorem pure26 : Cx.pure 26 = true := by kernel_rfl
-- RULES 26: n26_0, n26_1, n26_2, n26_3, n26_4, n26_5, n26_6, n26_7, n26_8, n26_9, n26_10, n26_11, n26_12
def o27_1 : List AO := [{ dst := (some 1), op := .box 23 (.tmp 0), ty := 0, guard := none },
  { dst := (some 2), op := .assign (.const (.int .i64 0)), ty := 3, guard := none }]
def c27_1 : AC := .region o27_1 []
theorem n27_1 : Run Cx 27 T ds ro (.code c27_1 :: k) H Q = RunOps Cx 27 T ds ro o27_1 k H Q := run_region
def o27_3 : List AO := [{ dst := (some 3), op := .fieldAddr 23 (.tmp 1) 0, ty := 0, guard := none },
  { dst := (some 4), op := .load 3 (.tmp 3), ty := 3, guard := none },
  { dst := (some 5), op := .fieldAddr 23 (.tmp 1) 0, ty := 0, guard := none },
  { dst := (some 6), op := .load 3 (.tmp 5), ty := 3, guard := none },
  { dst := (some 7), op := .binOp .mul 3 (.tmp 4) (.tmp 6) 3, ty := 3, guard := none },
  { dst := (some 8), op := .fieldAddr 23 (.tmp 1) 1, ty := 0, guard := none },
  { dst := (some 9), op := .load 3 (.tmp 8), ty := 3, guard := none },
  { dst := (some 10), op := .fieldAddr 23 (.tmp 1) 1, ty := 0, guard := none },
  { dst := (some 11), op := .load 3 (.tmp 10), ty := 3, guard := none },
  { dst := (some 12), op := .binOp .mul 3 (.tmp 9) (.tmp 11) 3, ty := 3, guard := none },
  { dst := (some 13), op := .binOp .add 3 (.tmp 7) (.tmp 12) 3, ty := 3, guard := none },
  { dst := (some 2), op := .assign (.tmp 13), ty := 3, guard := none }]
def c27_3 : AC := .region o27_3 []
theorem n27_3 : Run Cx 27 T ds ro (.code c27_3 :: k) H Q = RunOps Cx 27 T ds ro o27_3 k H Q := run_region
def c27_4 : AC := .ret
theorem n27_4 : Run Cx 27 T [] none (.code c27_4 :: k) H Q = RunRes Cx T H Q (resOf Cx 27) := run_ret
def c27_2 : AC := .seq c27_3 c27_4
theorem n27_2 : Run Cx 27 T ds ro (.code c27_2 :: k) H Q = Run Cx 27 T ds ro (.code c27_3 :: .code c27_4 :: k) H Q := run_seq
def c27_0 : AC := .seq c27_1 c27_2
theorem n27_0 : Run Cx 27 T ds ro (.code c27_0 :: k) H Q = Run Cx 27 T ds ro (.code c27_1 :: .code c27_2 :: k) H Q := run_seq
theorem body27 : bodyOf Cx 27 = some c27_0 := by kernel_rfl
theorem res27 : resOf Cx 27 = some [.tmp 2] := by kernel_rfl
theorem pure27 : Cx.pure 27 = true := by kernel_rfl
-- RULES 27: n27_0, n27_1, n27_2, n27_3, n27_4
def o28_1 : List AO := [{ dst := (some 1), op := .box 23 (.tmp 0), ty := 0, guard := none },
  { dst := (some 2), op := .alloc 23, ty := 0, guard := none }]
def c28_1 : AC := .region o28_1 []
theorem n28_1 : Run Cx 28 T ds ro (.code c28_1 :: k) H Q = RunOps Cx 28 T ds ro o28_1 k H Q := run_region
def o28_4 : List AO := [{ dst := (some 3), op := .assign (.const (.int .i64 0)), ty := 3, guard := none }]
def c28_4 : AC := .region o28_4 []
theorem n28_4 : Run Cx 28 T ds ro (.code c28_4 :: k) H Q = RunOps Cx 28 T ds ro o28_4 k H Q := run_region
def o28_9 : List AO := [{ dst := (some 4), op := .move (.tmp 3), ty := 3, guard := none },
  { dst := (some 5), op := .binOp .lss 3 (.tmp 4) (.const (.int .i64 4)) 3, ty := 4, guard := none }]
def c28_9 : AC := .region o28_9 []
theorem n28_9 : Run Cx 28 T ds ro (.code c28_9 :: k) H Q = RunOps Cx 28 T ds ro o28_9 k H Q := run_region
def c28_11 : AC := .skip
theorem n28_11 : Run Cx 28 T ds ro (.code c28_11 :: k) H Q = Run Cx 28 T ds ro (k) H Q := run_skip
def c28_12 : AC := .exit 0
theorem n28_12 : Run Cx 28 T ds ro (.code c28_12 :: k) H Q = RunExit Cx 28 T ds ro 0 k k H Q := run_exit_start
def c28_10 : AC := .cond (.tmp 5) c28_11 c28_12
theorem n28_10 : Run Cx 28 T ds ro (.code c28_10 :: k) H Q = RunCond Cx 28 T ds ro (.tmp 5) (ev T (.tmp 5)) c28_11 c28_12 k H Q := run_condC
def c28_8 : AC := .seq c28_9 c28_10
theorem n28_8 : Run Cx 28 T ds ro (.code c28_8 :: k) H Q = Run Cx 28 T ds ro (.code c28_9 :: .code c28_10 :: k) H Q := run_seq
def o28_17 : List AO := [{ dst := (some 8), op := .fieldAddr 23 (.tmp 1) 0, ty := 0, guard := none },
  { dst := (some 9), op := .load 3 (.tmp 8), ty := 3, guard := none },
  { dst := (some 10), op := .binOp .gtr 3 (.tmp 9) (.const (.int .i64 0)) 3, ty := 4, guard := none },
  { dst := (some 11), op := .move (.tmp 10), ty := 4, guard := none },
  { dst := (some 12), op := .fieldAddr 23 (.tmp 1) 1, ty := 0, guard := (some (11, true)) },
  { dst := (some 13), op := .load 3 (.tmp 12), ty := 3, guard := (some (11, true)) },
  { dst := (some 14), op := .binOp .geq 3 (.tmp 13) (.const (.int .i64 0)) 3, ty := 4, guard := (some (11, true)) },
  { dst := (some 15), op := .pick (.tmp 11) (.tmp 14) (.const (.bool false)), ty := 4, guard := none }]
def c28_17 : AC := .region o28_17 []
theorem n28_17 : Run Cx 28 T ds ro (.code c28_17 :: k) H Q = RunOps Cx 28 T ds ro o28_17 k H Q := run_region
def o28_20 : List AO := [{ dst := (some 16), op := .load 23 (.tmp 1), ty := 23, guard := none },
  { dst := none, op := .store 23 (.tmp 2) (.tmp 16), ty := 0, guard := none }]
def c28_20 : AC := .region o28_20 []
theorem n28_20 : Run Cx 28 T ds ro (.code c28_20 :: k) H Q = RunOps Cx 28 T ds ro o28_20 k H Q := run_region
def c28_21 : AC := .ret
theorem n28_21 : Run Cx 28 T [] none (.code c28_21 :: k) H Q = RunRes Cx T H Q (resOf Cx 28) := run_ret
def c28_19 : AC := .seq c28_20 c28_21
theorem n28_19 : Run Cx 28 T ds ro (.code c28_19 :: k) H Q = Run Cx 28 T ds ro (.code c28_20 :: .code c28_21 :: k) H Q := run_seq
def c28_22 : AC := .skip
theorem n28_22 : Run Cx 28 T ds ro (.code c28_22 :: k) H Q = Run Cx 28 T ds ro (k) H Q := run_skip
def c28_18 : AC := .cond (.tmp 15) c28_19 c28_22
theorem n28_18 : Run Cx 28 T ds ro (.code c28_18 :: k) H Q = RunCond Cx 28 T ds ro (.tmp 15) (ev T (.tmp 15)) c28_19 c28_22 k H Q := run_condC
def c28_16 : AC := .seq c28_17 c28_18
theorem n28_16 : Run Cx 28 T ds ro (.code c28_16 :: k) H Q = Run Cx 28 T ds ro (.code c28_17 :: .code c28_18 :: k) H Q := run_seq
def o28_23 : List AO := [{ dst := (some 17), op := .load 23 (.tmp 1), ty := 23, guard := none },
  { dst := (some 18), op := .build 23 #[(1, (.const (.int .i64 1)))], ty := 23, guard := none },
  { dst := (some 19), op := .call { callee := (.value (.func 22)), args := #[(.tmp 17), (.tmp 18)], argTypes := #[23, 23] }, ty := 23, guard := none },
  { dst := none, op := .store 23 (.tmp 1) (.tmp 19), ty := 0, guard := none }]
def c28_23 : AC := .region o28_23 []
theorem n28_23 : Run Cx 28 T ds ro (.code c28_23 :: k) H Q = RunOps Cx 28 T ds ro o28_23 k H Q := run_region
def c28_15 : AC := .seq c28_16 c28_23
theorem n28_15 : Run Cx 28 T ds ro (.code c28_15 :: k) H Q = Run Cx 28 T ds ro (.code c28_16 :: .code c28_23 :: k) H Q := run_seq
def c28_14 : AC := .block 1 c28_15
theorem n28_14 : Run Cx 28 T ds ro (.code c28_14 :: k) H Q = Run Cx 28 T ds ro (.code c28_15 :: .inBlock 1 :: k) H Q := run_block
def o28_24 : List AO := [{ dst := (some 6), op := .move (.tmp 3), ty := 3, guard := none },
  { dst := (some 7), op := .binOp .add 3 (.tmp 6) (.const (.int .i64 1)) 3, ty := 3, guard := none },
  { dst := (some 3), op := .assign (.tmp 7), ty := 3, guard := none }]
def c28_24 : AC := .region o28_24 []
theorem n28_24 : Run Cx 28 T ds ro (.code c28_24 :: k) H Q = RunOps Cx 28 T ds ro o28_24 k H Q := run_region
def c28_13 : AC := .seq c28_14 c28_24
theorem n28_13 : Run Cx 28 T ds ro (.code c28_13 :: k) H Q = Run Cx 28 T ds ro (.code c28_14 :: .code c28_24 :: k) H Q := run_seq
def c28_7 : AC := .seq c28_8 c28_13
theorem n28_7 : Run Cx 28 T ds ro (.code c28_7 :: k) H Q = Run Cx 28 T ds ro (.code c28_8 :: .code c28_13 :: k) H Q := run_seq
def c28_6 : AC := .loop c28_7
theorem n28_6 : Run Cx 28 T ds ro (.code c28_6 :: k) H Q = Run Cx 28 T ds ro (.inLoop c28_7 :: k) H Q := run_loop'
def c28_5 : AC := .block 0 c28_6
theorem n28_5 : Run Cx 28 T ds ro (.code c28_5 :: k) H Q = Run Cx 28 T ds ro (.code c28_6 :: .inBlock 0 :: k) H Q := run_block
def c28_3 : AC := .seq c28_4 c28_5
theorem n28_3 : Run Cx 28 T ds ro (.code c28_3 :: k) H Q = Run Cx 28 T ds ro (.code c28_4 :: .code c28_5 :: k) H Q := run_seq
def o28_26 : List AO := [{ dst := (some 20), op := .load 23 (.tmp 1), ty := 23, guard := none },
  { dst := none, op := .store 23 (.tmp 2) (.tmp 20), ty := 0, guard := none }]
def c28_26 : AC := .region o28_26 []
theorem n28_26 : Run Cx 28 T ds ro (.code c28_26 :: k) H Q = RunOps Cx 28 T ds ro o28_26 k H Q := run_region
def c28_27 : AC := .ret
theorem n28_27 : Run Cx 28 T [] none (.code c28_27 :: k) H Q = RunRes Cx T H Q (resOf Cx 28) := run_ret
def c28_25 : AC := .seq c28_26 c28_27
theorem n28_25 : Run Cx 28 T ds ro (.code c28_25 :: k) H Q = Run Cx 28 T ds ro (.code c28_26 :: .code c28_27 :: k) H Q := run_seq
def c28_2 : AC := .seq c28_3 c28_25
theorem n28_2 : Run Cx 28 T ds ro (.code c28_2 :: k) H Q = Run Cx 28 T ds ro (.code c28_3 :: .code c28_25 :: k) H Q := run_seq
def c28_0 : AC := .seq c28_1 c28_2
theorem n28_0 : Run Cx 28 T ds ro (.code c28_0 :: k) H Q = Run Cx 28 T ds ro (.code c28_1 :: .code c28_2 :: k) H Q := run_seq
theorem body28 : bodyOf Cx 28 = some c28_0 := by kernel_rfl
theorem res28 : resOf Cx 28 = some [.cell 2 23] := by kernel_rfl
theorem pure28 : Cx.pure 28 = true := by kernel_rfl
-- RULES 28: n28_0, n28_1, n28_2, n28_3, n28_4, n28_5, n28_6, n28_7, n28_8, n28_9, n28_10, n28_11, n28_12, n28_13, n28_14, n28_15, n28_16, n28_17, n28_18, n28_19, n28_20, n28_21, n28_22, n28_23, n28_24, n28_25, n28_26, n28_27
def o29_1 : List AO := [{ dst := (some 4), op := .assign (.const (.int .i64 0)), ty := 3, guard := none }]
def c29_1 : AC := .region o29_1 []
theorem n29_1 : Run Cx 29 T ds ro (.code c29_1 :: k) H Q = RunOps Cx 29 T ds ro o29_1 k H Q := run_region
def o29_3 : List AO := [{ dst := (some 7), op := .move (.tmp 0), ty := 3, guard := none },
  { dst := (some 8), op := .binOp .mul 3 (.const (.int .i64 2)) (.tmp 7) 3, ty := 3, guard := none },
  { dst := (some 9), op := .move (.tmp 1), ty := 3, guard := none },
  { dst := (some 10), op := .binOp .add 3 (.tmp 8) (.tmp 9) 3, ty := 3, guard := none },
  { dst := (some 5), op := .assign (.tmp 10), ty := 3, guard := none }]
def c29_3 : AC := .region o29_3 []
theorem n29_3 : Run Cx 29 T ds ro (.code c29_3 :: k) H Q = RunOps Cx 29 T ds ro o29_3 k H Q := run_region
def o29_5 : List AO := [{ dst := (some 11), op := .move (.tmp 5), ty := 3, guard := none },
  { dst := (some 12), op := .move (.tmp 1), ty := 3, guard := none },
  { dst := (some 13), op := .binOp .mul 3 (.const (.int .i64 2)) (.tmp 12) 3, ty := 3, guard := none },
  { dst := (some 14), op := .binOp .quo 3 (.tmp 11) (.tmp 13) 3, ty := 3, guard := none },
  { dst := (some 6), op := .assign (.tmp 14), ty := 3, guard := none }]
def c29_5 : AC := .region o29_5 []
theorem n29_5 : Run Cx 29 T ds ro (.code c29_5 :: k) H Q = RunOps Cx 29 T ds ro o29_5 k H Q := run_region
def o29_8 : List AO := [{ dst := (some 15), op := .move (.tmp 6), ty := 3, guard := none },
  { dst := (some 16), op := .binOp .mul 3 (.tmp 15) (.const (.int .i64 2)) 3, ty := 3, guard := none },
  { dst := (some 17), op := .move (.tmp 1), ty := 3, guard := none },
  { dst := (some 18), op := .binOp .mul 3 (.tmp 16) (.tmp 17) 3, ty := 3, guard := none },
  { dst := (some 19), op := .move (.tmp 5), ty := 3, guard := none },
  { dst := (some 20), op := .binOp .gtr 3 (.tmp 18) (.tmp 19) 3, ty := 4, guard := none }]
def c29_8 : AC := .region o29_8 []
theorem n29_8 : Run Cx 29 T ds ro (.code c29_8 :: k) H Q = RunOps Cx 29 T ds ro o29_8 k H Q := run_region
def o29_10 : List AO := [{ dst := (some 21), op := .move (.tmp 6), ty := 3, guard := none },
  { dst := (some 22), op := .binOp .sub 3 (.tmp 21) (.const (.int .i64 1)) 3, ty := 3, guard := none },
  { dst := (some 6), op := .assign (.tmp 22), ty := 3, guard := none }]
def c29_10 : AC := .region o29_10 []
theorem n29_10 : Run Cx 29 T ds ro (.code c29_10 :: k) H Q = RunOps Cx 29 T ds ro o29_10 k H Q := run_region
def c29_11 : AC := .skip
theorem n29_11 : Run Cx 29 T ds ro (.code c29_11 :: k) H Q = Run Cx 29 T ds ro (k) H Q := run_skip
def c29_9 : AC := .cond (.tmp 20) c29_10 c29_11
theorem n29_9 : Run Cx 29 T ds ro (.code c29_9 :: k) H Q = RunCond Cx 29 T ds ro (.tmp 20) (ev T (.tmp 20)) c29_10 c29_11 k H Q := run_condC
def c29_7 : AC := .seq c29_8 c29_9
theorem n29_7 : Run Cx 29 T ds ro (.code c29_7 :: k) H Q = Run Cx 29 T ds ro (.code c29_8 :: .code c29_9 :: k) H Q := run_seq
def o29_13 : List AO := [{ dst := (some 23), op := .move (.tmp 6), ty := 3, guard := none },
  { dst := (some 4), op := .assign (.tmp 23), ty := 3, guard := none }]
def c29_13 : AC := .region o29_13 []
theorem n29_13 : Run Cx 29 T ds ro (.code c29_13 :: k) H Q = RunOps Cx 29 T ds ro o29_13 k H Q := run_region
def c29_14 : AC := .ret
theorem n29_14 : Run Cx 29 T [] none (.code c29_14 :: k) H Q = RunRes Cx T H Q (resOf Cx 29) := run_ret
def c29_12 : AC := .seq c29_13 c29_14
theorem n29_12 : Run Cx 29 T ds ro (.code c29_12 :: k) H Q = Run Cx 29 T ds ro (.code c29_13 :: .code c29_14 :: k) H Q := run_seq
def c29_6 : AC := .seq c29_7 c29_12
theorem n29_6 : Run Cx 29 T ds ro (.code c29_6 :: k) H Q = Run Cx 29 T ds ro (.code c29_7 :: .code c29_12 :: k) H Q := run_seq
def c29_4 : AC := .seq c29_5 c29_6
theorem n29_4 : Run Cx 29 T ds ro (.code c29_4 :: k) H Q = Run Cx 29 T ds ro (.code c29_5 :: .code c29_6 :: k) H Q := run_seq
def c29_2 : AC := .seq c29_3 c29_4
theorem n29_2 : Run Cx 29 T ds ro (.code c29_2 :: k) H Q = Run Cx 29 T ds ro (.code c29_3 :: .code c29_4 :: k) H Q := run_seq
def c29_0 : AC := .seq c29_1 c29_2
theorem n29_0 : Run Cx 29 T ds ro (.code c29_0 :: k) H Q = Run Cx 29 T ds ro (.code c29_1 :: .code c29_2 :: k) H Q := run_seq
theorem body29 : bodyOf Cx 29 = some c29_0 := by kernel_rfl
theorem res29 : resOf Cx 29 = some [.tmp 4] := by kernel_rfl
theorem pure29 : Cx.pure 29 = true := by kernel_rfl
-- RULES 29: n29_0, n29_1, n29_2, n29_3, n29_4, n29_5, n29_6, n29_7, n29_8, n29_9, n29_10, n29_11, n29_12, n29_13, n29_14
def o30_1 : List AO := [{ dst := (some 2), op := .alloc 23, ty := 0, guard := none },
  { dst := (some 3), op := .assign (.const (.int .i64 0)), ty := 24, guard := none }]
def c30_1 : AC := .region o30_1 []
theorem n30_1 : Run Cx 30 T ds ro (.code c30_1 :: k) H Q = RunOps Cx 30 T ds ro o30_1 k H Q := run_region
def o30_3 : List AO := [{ dst := (some 5), op := .move (.tmp 0), ty := 47, guard := none },
  { dst := (some 6), op := .call { callee := (.builtin .real), args := #[(.tmp 5)], argTypes := #[47] }, ty := 51, guard := none },
  { dst := (some 7), op := .convert 51 3 (.tmp 6), ty := 3, guard := none },
  { dst := (some 8), op := .move (.tmp 0), ty := 47, guard := none },
  { dst := (some 9), op := .call { callee := (.builtin .imag), args := #[(.tmp 8)], argTypes := #[47] }, ty := 51, guard := none },
  { dst := (some 10), op := .convert 51 3 (.tmp 9), ty := 3, guard := none },
  { dst := (some 11), op := .build 23 #[(0, (.tmp 7)), (1, (.tmp 10))], ty := 23, guard := none },
  { dst := (some 4), op := .alloc 23, ty := 0, guard := none },
  { dst := none, op := .store 23 (.tmp 4) (.tmp 11), ty := 0, guard := none }]
def c30_3 : AC := .region o30_3 []
theorem n30_3 : Run Cx 30 T ds ro (.code c30_3 :: k) H Q = RunOps Cx 30 T ds ro o30_3 k H Q := run_region
def o30_6 : List AO := [{ dst := (some 12), op := .load 23 (.tmp 4), ty := 23, guard := none },
  { dst := (some 13), op := .call { callee := (.value (.func 19)), args := #[(.tmp 12)], argTypes := #[23] }, ty := 4, guard := none },
  { dst := (some 14), op := .unOp .not 4 (.tmp 13), ty := 4, guard := none }]
def c30_6 : AC := .region o30_6 []
theorem n30_6 : Run Cx 30 T ds ro (.code c30_6 :: k) H Q = RunOps Cx 30 T ds ro o30_6 k H Q := run_region
def o30_9 : List AO := [{ dst := (some 15), op := .build 23 #[], ty := 23, guard := none },
  { dst := none, op := .store 23 (.tmp 2) (.tmp 15), ty := 0, guard := none },
  { dst := (some 3), op := .assign (.const (.int .i64 14)), ty := 24, guard := none }]
def c30_9 : AC := .region o30_9 []
theorem n30_9 : Run Cx 30 T ds ro (.code c30_9 :: k) H Q = RunOps Cx 30 T ds ro o30_9 k H Q := run_region
def c30_10 : AC := .ret
theorem n30_10 : Run Cx 30 T [] none (.code c30_10 :: k) H Q = RunRes Cx T H Q (resOf Cx 30) := run_ret
def c30_8 : AC := .seq c30_9 c30_10
theorem n30_8 : Run Cx 30 T ds ro (.code c30_8 :: k) H Q = Run Cx 30 T ds ro (.code c30_9 :: .code c30_10 :: k) H Q := run_seq
def c30_11 : AC := .skip
theorem n30_11 : Run Cx 30 T ds ro (.code c30_11 :: k) H Q = Run Cx 30 T ds ro (k) H Q := run_skip
def c30_7 : AC := .cond (.tmp 14) c30_8 c30_11
theorem n30_7 : Run Cx 30 T ds ro (.code c30_7 :: k) H Q = RunCond Cx 30 T ds ro (.tmp 14) (ev T (.tmp 14)) c30_8 c30_11 k H Q := run_condC
def c30_5 : AC := .seq c30_6 c30_7
theorem n30_5 : Run Cx 30 T ds ro (.code c30_5 :: k) H Q = Run Cx 30 T ds ro (.code c30_6 :: .code c30_7 :: k) H Q := run_seq
def o30_13 : List AO := [{ dst := (some 16), op := .load 23 (.tmp 4), ty := 23, guard := none },
  { dst := none, op := .store 23 (.tmp 2) (.tmp 16), ty := 0, guard := none },
  { dst := (some 3), op := .assign (.const (.int .i64 0)), ty := 24, guard := none }]
def c30_13 : AC := .region o30_13 []
theorem n30_13 : Run Cx 30 T ds ro (.code c30_13 :: k) H Q = RunOps Cx 30 T ds ro o30_13 k H Q := run_region
def c30_14 : AC := .ret
theorem n30_14 : Run Cx 30 T [] none (.code c30_14 :: k) H Q = RunRes Cx T H Q (resOf Cx 30) := run_ret
def c30_12 : AC := .seq c30_13 c30_14
theorem n30_12 : Run Cx 30 T ds ro (.code c30_12 :: k) H Q = Run Cx 30 T ds ro (.code c30_13 :: .code c30_14 :: k) H Q := run_seq
def c30_4 : AC := .seq c30_5 c30_12
theorem n30_4 : Run Cx 30 T ds ro (.code c30_4 :: k) H Q = Run Cx 30 T ds ro (.code c30_5 :: .code c30_12 :: k) H Q := run_seq
def c30_2 : AC := .seq c30_3 c30_4
theorem n30_2 : Run Cx 30 T ds ro (.code c30_2 :: k) H Q = Run Cx 30 T ds ro (.code c30_3 :: .code c30_4 :: k) H Q := run_seq
def c30_0 : AC := .seq c30_1 c30_2
theorem n30_0 : Run Cx 30 T ds ro (.code c30_0 :: k) H Q = Run Cx 30 T ds ro (.code c30_1 :: .code c30_2 :: k) H Q := run_seq
theorem body30 : bodyOf Cx 30 = some c30_0 := by kernel_rfl
theorem res30 : resOf Cx 30 = some [.cell 2 23, .tmp 3] := by kernel_rfl
theorem pure30 : Cx.pure 30 = true := by kernel_rfl
-- RULES 30: n30_0, n30_1, n30_2, n30_3, n30_4, n30_5, n30_6, n30_7, n30_8, n30_9, n30_10, n30_11, n30_12, n30_13, n30_14
def o31_1 : List AO := [{ dst := (some 1), op := .box 23 (.tmp 0), ty := 0, guard := none },
  { dst := (some 2), op := .assign (.const (.complex .f64 0 0)), ty := 47, guard := none }]
def c31_1 : AC := .region o31_1 []
theorem n31_1 : Run Cx 31 T ds ro (.code c31_1 :: k) H Q = RunOps Cx 31 T ds ro o31_1 k H Q := run_region
def o31_3 : List AO := [{ dst := (some 3), op := .fieldAddr 23 (.tmp 1) 0, ty := 0, guard := none },
  { dst := (some 4), op := .load 3 (.tmp 3), ty := 3, guard := none },
  { dst := (some 5), op := .convert 3 51 (.tmp 4), ty := 51, guard := none },
  { dst := (some 6), op := .fieldAddr 23 (.tmp 1) 1, ty := 0, guard := none },
  { dst := (some 7), op := .load 3 (.tmp 6), ty := 3, guard := none },
  { dst := (some 8), op := .convert 3 51 (.tmp 7), ty := 51, guard := none },
  { dst := (some 9), op := .call { callee := (.builtin .complex), args := #[(.tmp 5), (.tmp 8)], argTypes := #[51, 51] }, ty := 47, guard := none },
  { dst := (some 2), op := .assign (.tmp 9), ty := 47, guard := none }]
def c31_3 : AC := .region o31_3 []
theorem n31_3 : Run Cx 31 T ds ro (.code c31_3 :: k) H Q = RunOps Cx 31 T ds ro o31_3 k H Q := run_region
def c31_4 : AC := .ret
theorem n31_4 : Run Cx 31 T [] none (.code c31_4 :: k) H Q = RunRes Cx T H Q (resOf Cx 31) := run_ret
def c31_2 : AC := .seq c31_3 c31_4
theorem n31_2 : Run Cx 31 T ds ro (.code c31_2 :: k) H Q = Run Cx 31 T ds ro (.code c31_3 :: .code c31_4 :: k) H Q := run_seq
def c31_0 : AC := .seq c31_1 c31_2
theorem n31_0 : Run Cx 31 T ds ro (.code c31_0 :: k) H Q = Run Cx 31 T ds ro (.code c31_1 :: .code c31_2 :: k) H Q := run_seq
theorem body31 : bodyOf Cx 31 = some c31_0 := by kernel_rfl
theorem res31 : resOf Cx 31 = some [.tmp 2] := by kernel_rfl
theorem pure31 : Cx.pure 31 = true := by kernel_rfl
-- RULES 31: n31_0, n31_1, n31_2, n31_3, n31_4
def o32_1 : List AO := [{ dst := (some 2), op := .assign (.const (.bool false)), ty := 4, guard := none }]
def c32_1 : AC := .region o32_1 []
theorem n32_1 : Run Cx 32 T ds ro (.code c32_1 :: k) H Q = RunOps Cx 32 T ds ro o32_1 k H Q := run_region
def o32_3 : List AO := [{ dst := (some 3), op := .move (.tmp 0), ty := 3, guard := none },
  { dst := (some 4), op := .binOp .geq 3 (.tmp 3) (.const (.int .i64 (-16777216))) 3, ty := 4, guard := none },
  { dst := (some 5), op := .move (.tmp 4), ty := 4, guard := none },
  { dst := (some 6), op := .move (.tmp 0), ty := 3, guard := (some (5, true)) },
  { dst := (some 7), op := .binOp .leq 3 (.tmp 6) (.const (.int .i64 16777216)) 3, ty := 4, guard := (some (5, true)) },
  { dst := (some 8), op := .pick (.tmp 5) (.tmp 7) (.const (.bool false)), ty := 4, guard := none },
  { dst := (some 2), op := .assign (.tmp 8), ty := 4, guard := none }]
def c32_3 : AC := .region o32_3 []
theorem n32_3 : Run Cx 32 T ds ro (.code c32_3 :: k) H Q = RunOps Cx 32 T ds ro o32_3 k H Q := run_region
def c32_4 : AC := .ret
theorem n32_4 : Run Cx 32 T [] none (.code c32_4 :: k) H Q = RunRes Cx T H Q (resOf Cx 32) := run_ret
def c32_2 : AC := .seq c32_3 c32_4
theorem n32_2 : Run Cx 32 T ds ro (.code c32_2 :: k) H Q = Run Cx 32 T ds ro (.code c32_3 :: .code c32_4 :: k) H Q := run_seq
def c32_0 : AC := .seq c32_1 c32_2
theorem n32_0 : Run Cx 32 T ds ro (.code c32_0 :: k) H Q = Run Cx 32 T ds ro (.code c32_1 :: .code c32_2 :: k) H Q := run_seq
theorem body32 : bodyOf Cx 32 = some c32_0 := by kernel_rfl
theorem res32 : resOf Cx 32 = some [.tmp 2] := by kernel_rfl
theorem pure32 : Cx.pure 32 = true := by kernel_rfl
-- RULES 32: n32_0, n32_1, n32_2, n32_3, n32_4
def o33_1 : List AO := [{ dst := (some 2), op := .assign (.const (.int .i64 0)), ty := 3, guard := none }]
def c33_1 : AC := .region o33_1 []
theorem n33_1 : Run Cx 33 T ds ro (.code c33_1 :: k) H Q = RunOps Cx 33 T ds ro o33_1 k H Q := run_region
def o33_3 : List AO := [{ dst := (some 3), op := .assign (.const (.int .i64 0)), ty := 3, guard := none }]
def c33_3 : AC := .region o33_3 []
theorem n33_3 : Run Cx 33 T ds ro (.code c33_3 :: k) H Q = RunOps Cx 33 T ds ro o33_3 k H Q := run_region
def o33_6 : List AO := [{ dst := (some 6), op := .move (.tmp 0), ty := 52, guard := none },
  { dst := (some 7), op := .call { callee := (.builtin .len), args := #[(.tmp 6)], argTypes := #[52] }, ty := 3, guard := none },
  { dst := (some 8), op := .move (.const (.int .i64 0)), ty := 3, guard := none }]
def c33_6 : AC := .region o33_6 []
theorem n33_6 : Run Cx 33 T ds ro (.code c33_6 :: k) H Q = RunOps Cx 33 T ds ro o33_6 k H Q := run_region
def o33_10 : List AO := [{ dst := (some 9), op := .binOp .lss 3 (.tmp 8) (.tmp 7) 3, ty := 0, guard := none }]
def c33_10 : AC := .region o33_10 []
theorem n33_10 : Run Cx 33 T ds ro (.code c33_10 :: k) H Q = RunOps Cx 33 T ds ro o33_10 k H Q := run_region
def c33_13 : AC := .skip
theorem n33_13 : Run Cx 33 T ds ro (.code c33_13 :: k) H Q = Run Cx 33 T ds ro (k) H Q := run_skip
def c33_14 : AC := .exit 0
theorem n33_14 : Run Cx 33 T ds ro (.code c33_14 :: k) H Q = RunExit Cx 33 T ds ro 0 k k H Q := run_exit_start
def c33_12 : AC := .cond (.tmp 9) c33_13 c33_14
theorem n33_12 : Run Cx 33 T ds ro (.code c33_12 :: k) H Q = RunCond Cx 33 T ds ro (.tmp 9) (ev T (.tmp 9)) c33_13 c33_14 k H Q := run_condC
def o33_18 : List AO := [{ dst := (some 10), op := .indexAddr 52 (.tmp 6) (.tmp 8), ty := 0, guard := none },
  { dst := (some 11), op := .load 3 (.tmp 10), ty := 3, guard := none },
  { dst := (some 5), op := .assign (.tmp 11), ty := 3, guard := none }]
def c33_18 : AC := .region o33_18 []
theorem n33_18 : Run Cx 33 T ds ro (.code c33_18 :: k) H Q = RunOps Cx 33 T ds ro o33_18 k H Q := run_region
def o33_20 : List AO := [{ dst := (some 12), op := .move (.tmp 5), ty := 3, guard := none },
  { dst := (some 13), op := .move (.tmp 3), ty := 3, guard := none },
  { dst := (some 14), op := .binOp .neq 3 (.tmp 12) (.tmp 13) 3, ty := 4, guard := none }]
def c33_20 : AC := .region o33_20 []
theorem n33_20 : Run Cx 33 T ds ro (.code c33_20 :: k) H Q = RunOps Cx 33 T ds ro o33_20 k H Q := run_region
def o33_23 : List AO := [{ dst := (some 15), op := .move (.tmp 5), ty := 3, guard := none },
  { dst := (some 2), op := .assign (.tmp 15), ty := 3, guard := none }]
def c33_23 : AC := .region o33_23 []
theorem n33_23 : Run Cx 33 T ds ro (.code c33_23 :: k) H Q = RunOps Cx 33 T ds ro o33_23 k H Q := run_region
def c33_24 : AC := .ret
theorem n33_24 : Run Cx 33 T [] none (.code c33_24 :: k) H Q = RunRes Cx T H Q (resOf Cx 33) := run_ret
def c33_22 : AC := .seq c33_23 c33_24
theorem n33_22 : Run Cx 33 T ds ro (.code c33_22 :: k) H Q = Run Cx 33 T ds ro (.code c33_23 :: .code c33_24 :: k) H Q := run_seq
def c33_25 : AC := .skip
theorem n33_25 : Run Cx 33 T ds ro (.code c33_25 :: k) H Q = Run Cx 33 T ds ro (k) H Q := run_skip
def c33_21 : AC := .cond (.tmp 14) c33_22 c33_25
theorem n33_21 : Run Cx 33 T ds ro (.code c33_21 :: k) H Q = RunCond Cx 33 T ds ro (.tmp 14) (ev T (.tmp 14)) c33_22 c33_25 k H Q := run_condC
def c33_19 : AC := .seq c33_20 c33_21
theorem n33_19 : Run Cx 33 T ds ro (.code c33_19 :: k) H Q = Run Cx 33 T ds ro (.code c33_20 :: .code c33_21 :: k) H Q := run_seq
def c33_17 : AC := .seq c33_18 c33_19
theorem n33_17 : Run Cx 33 T ds ro (.code c33_17 :: k) H Q = Run Cx 33 T ds ro (.code c33_18 :: .code c33_19 :: k) H Q := run_seq
def c33_16 : AC := .block 1 c33_17
theorem n33_16 : Run Cx 33 T ds ro (.code c33_16 :: k) H Q = Run Cx 33 T ds ro (.code c33_17 :: .inBlock 1 :: k) H Q := run_block
def o33_26 : List AO := [{ dst := (some 16), op := .binOp .add 3 (.tmp 8) (.const (.int .i64 1)) 3, ty := 3, guard := none },
  { dst := (some 8), op := .move (.tmp 16), ty := 3, guard := none }]
def c33_26 : AC := .region o33_26 []
theorem n33_26 : Run Cx 33 T ds ro (.code c33_26 :: k) H Q = RunOps Cx 33 T ds ro o33_26 k H Q := run_region
def c33_15 : AC := .seq c33_16 c33_26
theorem n33_15 : Run Cx 33 T ds ro (.code c33_15 :: k) H Q = Run Cx 33 T ds ro (.code c33_16 :: .code c33_26 :: k) H Q := run_seq
def c33_11 : AC := .seq c33_12 c33_15
theorem n33_11 : Run Cx 33 T ds ro (.code c33_11 :: k) H Q = Run Cx 33 T ds ro (.code c33_12 :: .code c33_15 :: k) H Q := run_seq
def c33_9 : AC := .seq c33_10 c33_11
theorem n33_9 : Run Cx 33 T ds ro (.code c33_9 :: k) H Q = Run Cx 33 T ds ro (.code c33_10 :: .code c33_11 :: k) H Q := run_seq
def c33_8 : AC := .loop c33_9
theorem n33_8 : Run Cx 33 T ds ro (.code c33_8 :: k) H Q = Run Cx 33 T ds ro (.inLoop c33_9 :: k) H Q := run_loop'
def c33_7 : AC := .block 0 c33_8
theorem n33_7 : Run Cx 33 T ds ro (.code c33_7 :: k) H Q = Run Cx 33 T ds ro (.code c33_8 :: .inBlock 0 :: k) H Q := run_block
def c33_5 : AC := .seq c33_6 c33_7
theorem n33_5 : Run Cx 33 T ds ro (.code c33_5 :: k) H Q = Run Cx 33 T ds ro (.code c33_6 :: .code c33_7 :: k) H Q := run_seq
def o33_28 : List AO := [{ dst := (some 17), op := .move (.tmp 3), ty := 3, guard := none },
  { dst := (some 2), op := .assign (.tmp 17), ty := 3, guard := none }]
def c33_28 : AC := .region o33_28 []
theorem n33_28 : Run Cx 33 T ds ro (.code c33_28 :: k) H Q = RunOps Cx 33 T ds ro o33_28 k H Q := run_region
def c33_29 : AC := .ret
theorem n33_29 : Run Cx 33 T [] none (.code c33_29 :: k) H Q = RunRes Cx T H Q (resOf Cx 33) := run_ret
def c33_27 : AC := .seq c33_28 c33_29
theorem n33_27 : Run Cx 33 T ds ro (.code c33_27 :: k) H Q = Run Cx 33 T ds ro (.code c33_28 :: .code c33_29 :: k) H Q := run_seq
def c33_4 : AC := .seq c33_5 c33_27
theorem n33_4 : Run Cx 33 T ds ro (.code c33_4 :: k) H Q = Run Cx 33 T ds ro (.code c33_5 :: .code c33_27 :: k) H Q := run_seq
def c33_2 : AC := .seq c33_3 c33_4
theorem n33_2 : Run Cx 33 T ds ro (.code c33_2 :: k) H Q = Run Cx 33 T ds ro (.code c33_3 :: .code c33_4 :: k) H Q := run_seq
def c33_0 : AC := .seq c33_1 c33_2
theorem n33_0 : Run Cx 33 T ds ro (.code c33_0 :: k) H Q = Run Cx 33 T ds ro (.code c33_1 :: .code c33_2 :: k) H Q := run_seq
theorem body33 : bodyOf Cx 33 = some c33_0 := by kernel_rfl
theorem res33 : resOf Cx 33 = some [.tmp 2] := by kernel_rfl
theorem pure33 : Cx.pure 33 = true := by kernel_rfl
-- RULES 33: n33_0, n33_1, n33_2, n33_3, n33_4, n33_5, n33_6, n33_7, n33_8, n33_9, n33_10, n33_11, n33_12, n33_13, n33_14, n33_15, n33_16, n33_17, n33_18, n33_19, n33_20, n33_21, n33_22, n33_23, n33_24, n33_25, n33_26, n33_27, n33_28, n33_29
def o34_1 : List AO := [{ dst := (some 4), op := .assign (.const (.int .i64 0)), ty := 3, guard := none }]
def c34_1 : AC := .region o34_1 []
theorem n34_1 : Run Cx 34 T ds ro (.code c34_1 :: k) H Q = RunOps Cx 34 T ds ro o34_1 k H Q := run_region
def o34_3 : List AO := [{ dst := (some 7), op := .move (.tmp 0), ty := 3, guard := none },
  { dst := (some 8), op := .call { callee := (.value (.func 36)), args := #[(.tmp 7)], argTypes := #[3] }, ty := 4, guard := none },
  { dst := (some 5), op := .assign (.tmp 8), ty := 4, guard := none }]
def c34_3 : AC := .region o34_3 []
theorem n34_3 : Run Cx 34 T ds ro (.code c34_3 :: k) H Q = RunOps Cx 34 T ds ro o34_3 k H Q := run_region
def o34_5 : List AO := [{ dst := (some 9), op := .move (.tmp 1), ty := 3, guard := none },
  { dst := (some 10), op := .call { callee := (.value (.func 36)), args := #[(.tmp 9)], argTypes := #[3] }, ty := 4, guard := none },
  { dst := (some 6), op := .assign (.tmp 10), ty := 4, guard := none }]
def c34_5 : AC := .region o34_5 []
theorem n34_5 : Run Cx 34 T ds ro (.code c34_5 :: k) H Q = RunOps Cx 34 T ds ro o34_5 k H Q := run_region
def o34_8 : List AO := [{ dst := (some 11), op := .move (.tmp 5), ty := 4, guard := none }]
def c34_8 : AC := .region o34_8 []
theorem n34_8 : Run Cx 34 T ds ro (.code c34_8 :: k) H Q = RunOps Cx 34 T ds ro o34_8 k H Q := run_region
def o34_12 : List AO := [{ dst := (some 12), op := .move (.tmp 6), ty := 4, guard := none }]
def c34_12 : AC := .region o34_12 []
theorem n34_12 : Run Cx 34 T ds ro (.code c34_12 :: k) H Q = RunOps Cx 34 T ds ro o34_12 k H Q := run_region
def o34_15 : List AO := [{ dst := (some 4), op := .assign (.const (.int .i64 0)), ty := 3, guard := none }]
def c34_15 : AC := .region o34_15 []
theorem n34_15 : Run Cx 34 T ds ro (.code c34_15 :: k) H Q = RunOps Cx 34 T ds ro o34_15 k H Q := run_region
def c34_16 : AC := .ret
theorem n34_16 : Run Cx 34 T [] none (.code c34_16 :: k) H Q = RunRes Cx T H Q (resOf Cx 34) := run_ret
def c34_14 : AC := .seq c34_15 c34_16
theorem n34_14 : Run Cx 34 T ds ro (.code c34_14 :: k) H Q = Run Cx 34 T ds ro (.code c34_15 :: .code c34_16 :: k) H Q := run_seq
def c34_17 : AC := .skip
theorem n34_17 : Run Cx 34 T ds ro (.code c34_17 :: k) H Q = Run Cx 34 T ds ro (k) H Q := run_skip
def c34_13 : AC := .cond (.tmp 12) c34_14 c34_17
theorem n34_13 : Run Cx 34 T ds ro (.code c34_13 :: k) H Q = RunCond Cx 34 T ds ro (.tmp 12) (ev T (.tmp 12)) c34_14 c34_17 k H Q := run_condC
def c34_11 : AC := .seq c34_12 c34_13
theorem n34_11 : Run Cx 34 T ds ro (.code c34_11 :: k) H Q = Run Cx 34 T ds ro (.code c34_12 :: .code c34_13 :: k) H Q := run_seq
def o34_19 : List AO := [{ dst := (some 4), op := .assign (.const (.int .i64 (-1))), ty := 3, guard := none }]
def c34_19 : AC := .region o34_19 []
theorem n34_19 : Run Cx 34 T ds ro (.code c34_19 :: k) H Q = RunOps Cx 34 T ds ro o34_19 k H Q := run_region
def c34_20 : AC := .ret
theorem n34_20 : Run Cx 34 T [] none (.code c34_20 :: k) H Q = RunRes Cx T H Q (resOf Cx 34) := run_ret
def c34_18 : AC := .seq c34_19 c34_20
theorem n34_18 : Run Cx 34 T ds ro (.code c34_18 :: k) H Q = Run Cx 34 T ds ro (.code c34_19 :: .code c34_20 :: k) H Q := run_seq
def c34_10 : AC := .seq c34_11 c34_18
theorem n34_10 : Run Cx 34 T ds ro (.code c34_10 :: k) H Q = Run Cx 34 T ds ro (.code c34_11 :: .code c34_18 :: k) H Q := run_seq
def c34_21 : AC := .skip
theorem n34_21 : Run Cx 34 T ds ro (.code c34_21 :: k) H Q = Run Cx 34 T ds ro (k) H Q := run_skip
def c34_9 : AC := .cond (.tmp 11) c34_10 c34_21
theorem n34_9 : Run Cx 34 T ds ro (.code c34_9 :: k) H Q = RunCond Cx 34 T ds ro (.tmp 11) (ev T (.tmp 11)) c34_10 c34_21 k H Q := run_condC
def c34_7 : AC := .seq c34_8 c34_9
theorem n34_7 : Run Cx 34 T ds ro (.code c34_7 :: k) H Q = Run Cx 34 T ds ro (.code c34_8 :: .code c34_9 :: k) H Q := run_seq
def o34_24 : List AO := [{ dst := (some 13), op := .move (.tmp 6), ty := 4, guard := none }]
def c34_24 : AC := .region o34_24 []
theorem n34_24 : Run Cx 34 T ds ro (.code c34_24 :: k) H Q = RunOps Cx 34 T ds ro o34_24 k H Q := run_region
def o34_27 : List AO := [{ dst := (some 4), op := .assign (.const (.int .i64 1)), ty := 3, guard := none }]
def c34_27 : AC := .region o34_27 []
theorem n34_27 : Run Cx 34 T ds ro (.code c34_27 :: k) H Q = RunOps Cx 34 T ds ro o34_27 k H Q := run_region
def c34_28 : AC := .ret
theorem n34_28 : Run Cx 34 T [] none (.code c34_28 :: k) H Q = RunRes Cx T H Q (resOf Cx 34) := run_ret
def c34_26 : AC := .seq c34_27 c34_28
theorem n34_26 : Run Cx 34 T ds ro (.code c34_26 :: k) H Q = Run Cx 34 T ds ro (.code c34_27 :: .code c34_28 :: k) H Q := run_seq
def c34_29 : AC := .skip
theorem n34_29 : Run Cx 34 T ds ro (.code c34_29 :: k) H Q = Run Cx 34 T ds ro (k) H Q := run_skip
def c34_25 : AC := .cond (.tmp 13) c34_26 c34_29
theorem n34_25 : Run Cx 34 T ds ro (.code c34_25 :: k) H Q = RunCond Cx 34 T ds ro (.tmp 13) (ev T (.tmp 13)) c34_26 c34_29 k H Q := run_condC
def c34_23 : AC := .seq c34_24 c34_25
theorem n34_23 : Run Cx 34 T ds ro (.code c34_23 :: k) H Q = Run Cx 34 T ds ro (.code c34_24 :: .code c34_25 :: k) H Q := run_seq
def o34_32 : List AO := [{ dst := (some 14), op := .move (.tmp 0), ty := 3, guard := none },
  { dst := (some 15), op := .move (.tmp 1), ty := 3, guard := none },
  { dst := (some 16), op := .binOp .lss 3 (.tmp 14) (.tmp 15) 3, ty := 4, guard := none }]
def c34_32 : AC := .region o34_32 []
theorem n34_32 : Run Cx 34 T ds ro (.code c34_32 :: k) H Q = RunOps Cx 34 T ds ro o34_32 k H Q := run_region
def o34_35 : List AO := [{ dst := (some 4), op := .assign (.const (.int .i64 (-1))), ty := 3, guard := none }]
def c34_35 : AC := .region o34_35 []
theorem n34_35 : Run Cx 34 T ds ro (.code c34_35 :: k) H Q = RunOps Cx 34 T ds ro o34_35 k H Q := run_region
def c34_36 : AC := .ret
theorem n34_36 : Run Cx 34 T [] none (.code c34_36 :: k) H Q = RunRes Cx T H Q (resOf Cx 34) := run_ret
def c34_34 : AC := .seq c34_35 c34_36
theorem n34_34 : Run Cx 34 T ds ro (.code c34_34 :: k) H Q = Run Cx 34 T ds ro (.code c34_35 :: .code c34_36 :: k) H Q := run_seq
def c34_37 : AC := .skip
theorem n34_37 : Run Cx 34 T ds ro (.code c34_37 :: k) H Q = Run Cx 34 T ds ro (k) H Q := run_skip
def c34_33 : AC := .cond (.tmp 16) c34_34 c34_37
theorem n34_33 : Run Cx 34 T ds ro (.code c34_33 :: k) H Q = RunCond Cx 34 T ds ro (.tmp 16) (ev T (.tmp 16)) c34_34 c34_37 k H Q := run_condC
def c34_31 : AC := .seq c34_32 c34_33
theorem n34_31 : Run Cx 34 T ds ro (.code c34_31 :: k) H Q = Run Cx 34 T ds ro (.code c34_32 :: .code c34_33 :: k) H Q := run_seq
def o34_40 : List AO := [{ dst := (some 17), op := .move (.tmp 0), ty := 3, guard := none },
  { dst := (some 18), op := .move (.tmp 1), ty := 3, guard := none },
  { dst := (some 19), op := .binOp .gtr 3 (.tmp 17) (.tmp 18) 3, ty := 4, guard := none }]
def c34_40 : AC := .region o34_40 []
theorem n34_40 : Run Cx 34 T ds ro (.code c34_40 :: k) H Q = RunOps Cx 34 T ds ro o34_40 k H Q := run_region
def o34_43 : List AO := [{ dst := (some 4), op := .assign (.const (.int .i64 1)), ty := 3, guard := none }]
def c34_43 : AC := .region o34_43 []
theorem n34_43 : Run Cx 34 T ds ro (.code c34_43 :: k) H Q = RunOps Cx 34 T ds ro o34_43 k H Q := run_region
def c34_44 : AC := .ret
theorem n34_44 : Run Cx 34 T [] none (.code c34_44 :: k) H Q = RunRes Cx T H Q (resOf Cx 34) := run_ret
def c34_42 : AC := .seq c34_43 c34_44
theorem n34_42 : Run Cx 34 T ds ro (.code c34_42 :: k) H Q = Run Cx 34 T ds ro (.code c34_43 :: .code c34_44 :: k) H Q := run_seq
def c34_45 : AC := .skip
theorem n34_45 : Run Cx 34 T ds ro (.code c34_45 :: k) H Q = Run Cx 34 T ds ro (k) H Q := run_skip
def c34_41 : AC := .cond (.tmp 19) c34_42 c34_45
theorem n34_41 : Run Cx 34 T ds ro (.code c34_41 :: k) H Q = RunCond Cx 34 T ds ro (.tmp 19) (ev T (.tmp 19)) c34_42 c34_45 k H Q := run_condC
def c34_39 : AC := .seq c34_40 c34_41
theorem n34_39 : Run Cx 34 T ds ro (.code c34_39 :: k) H Q = Run Cx 34 T ds ro (.code c34_40 :: .code c34_41 :: k) H Q := run_seq
def o34_47 : List AO := [{ dst := (some 4), op := .assign (.const (.int .i64 0)), ty := 3, guard := none }]
def c34_47 : AC := .region o34_47 []
theorem n34_47 : Run Cx 34 T ds ro (.code c34_47 :: k) H Q = RunOps Cx 34 T ds ro o34_47 k H Q := run_region
def c34_48 : AC := .ret
theorem n34_48 : Run Cx 34 T [] none (.code c34_48 :: k) H Q = RunRes Cx T H Q (resOf Cx 34) := run_ret
def c34_46 : AC := .seq c34_47 c34_48
theorem n34_46 : Run Cx 34 T ds ro (.code c34_46 :: k) H Q = Run Cx 34 T ds ro (.code c34_47 :: .code c34_48 :: k) H Q := run_seq
def c34_38 : AC := .seq c34_39 c34_46
theorem n34_38 : Run Cx 34 T ds ro (.code c34_38 :: k) H Q = Run Cx 34 T ds ro (.code c34_39 :: .code c34_46 :: k) H Q := run_seq
def c34_30 : AC := .seq c34_31 c34_38
theorem n34_30 : Run Cx 34 T ds ro (.code c34_30 :: k) H Q = Run Cx 34 T ds ro (.code c34_31 :: .code c34_38 :: k) H Q := run_seq
def c34_22 : AC := .seq c34_23 c34_30
theorem n34_22 : Run Cx 34 T ds ro (.code c34_22 :: k) H Q = Run Cx 34 T ds ro (.code c34_23 :: .code c34_30 :: k) H Q := run_seq
def c34_6 : AC := .seq c34_7 c34_22
theorem n34_6 : Run Cx 34 T ds ro (.code c34_6 :: k) H Q = Run Cx 34 T ds ro (.code c34_7 :: .code c34_22 :: k) H Q := run_seq
def c34_4 : AC := .seq c34_5 c34_6
theorem n34_4 : Run Cx 34 T ds ro (.code c34_4 :: k) H Q = Run Cx 34 T ds ro (.code c34_5 :: .code c34_6 :: k) H Q := run_seq
def c34_2 : AC := .seq c34_3 c34_4
theorem n34_2 : Run Cx 34 T ds ro (.code c34_2 :: k) H Q = Run Cx 34 T ds ro (.code c34_3 :: .code c34_4 :: k) H Q := run_seq
def c34_0 : AC := .seq c34_1 c34_2
theorem n34_0 : Run Cx 34 T ds ro (.code c34_0 :: k) H Q = Run Cx 34 T ds ro (.code c34_1 :: .code c34_2 :: k) H Q := run_seq
theorem body34 : bodyOf Cx 34 = some c34_0 := by kernel_rfl
theorem res34 : resOf Cx 34 = some [.tmp 4] := by kernel_rfl
theorem pure34 : Cx.pure 34 = true := by kernel_rfl
-- RULES 34: n34_0, n34_1, n34_2, n34_3, n34_4, n34_5, n34_6, n34_7, n34_8, n34_9, n34_10, n34_11, n34_12, n34_13, n34_14, n34_15, n34_16, n34_17, n34_18, n34_19, n34_20, n34_21, n34_22, n34_23, n34_24, n34_25, n34_26, n34_27, n34_28, n34_29, n34_30, n34_31, n34_32, n34_33, n34_34, n34_35, n34_36, n34_37, n34_38, n34_39, n34_40, n34_41, n34_42, n34_43, n34_44, n34_45, n34_46, n34_47, n34_48
def o35_1 : List AO := [{ dst := (some 4), op := .assign (.const (.int .i64 0)), ty := 3, guard := none }]
def c35_1 : AC := .region o35_1 []
theorem n35_1 : Run Cx 35 T ds ro (.code c35_1 :: k) H Q = RunOps Cx 35 T ds ro o35_1 k H Q := run_region
def o35_3 : List AO := [{ dst := (some 7), op := .move (.tmp 0), ty := 3, guard := none },
  { dst := (some 8), op := .binOp .mul 3 (.const (.int .i64 2)) (.tmp 7) 3, ty := 3, guard := none },
  { dst := (some 9), op := .move (.tmp 1), ty := 3, guard := none },
  { dst := (some 10), op := .binOp .add 3 (.tmp 8) (.tmp 9) 3, ty := 3, guard := none },
  { dst := (some 5), op := .assign (.tmp 10), ty := 3, guard := none }]
def c35_3 : AC := .region o35_3 []
theorem n35_3 : Run Cx 35 T ds ro (.code c35_3 :: k) H Q = RunOps Cx 35 T ds ro o35_3 k H Q := run_region
def o35_5 : List AO := [{ dst := (some 11), op := .move (.tmp 5), ty := 3, guard := none },
  { dst := (some 12), op := .move (.tmp 1), ty := 3, guard := none },
  { dst := (some 13), op := .binOp .mul 3 (.const (.int .i64 2)) (.tmp 12) 3, ty := 3, guard := none },
  { dst := (some 14), op := .binOp .quo 3 (.tmp 11) (.tmp 13) 3, ty := 3, guard := none },
  { dst := (some 6), op := .assign (.tmp 14), ty := 3, guard := none }]
def c35_5 : AC := .region o35_5 []
theorem n35_5 : Run Cx 35 T ds ro (.code c35_5 :: k) H Q = RunOps Cx 35 T ds ro o35_5 k H Q := run_region
def o35_8 : List AO := [{ dst := (some 15), op := .move (.tmp 5), ty := 3, guard := none },
  { dst := (some 16), op := .move (.tmp 1), ty := 3, guard := none },
  { dst := (some 17), op := .binOp .mul 3 (.const (.int .i64 2)) (.tmp 16) 3, ty := 3, guard := none },
  { dst := (some 18), op := .binOp .rem 3 (.tmp 15) (.tmp 17) 3, ty := 3, guard := none },
  { dst := (some 19), op := .binOp .lss 3 (.tmp 18) (.const (.int .i64 0)) 3, ty := 4, guard := none }]
def c35_8 : AC := .region o35_8 []
theorem n35_8 : Run Cx 35 T ds ro (.code c35_8 :: k) H Q = RunOps Cx 35 T ds ro o35_8 k H Q := run_region
def o35_10 : List AO := [{ dst := (some 20), op := .move (.tmp 6), ty := 3, guard := none },
  { dst := (some 21), op := .binOp .sub 3 (.tmp 20) (.const (.int .i64 1)) 3, ty := 3, guard := none },
  { dst := (some 6), op := .assign (.tmp 21), ty := 3, guard := none }]
def c35_10 : AC := .region o35_10 []
theorem n35_10 : Run Cx 35 T ds ro (.code c35_10 :: k) H Q = RunOps Cx 35 T ds ro o35_10 k H Q := run_region
def c35_11 : AC := .skip
theorem n35_11 : Run Cx 35 T ds ro (.code c35_11 :: k) H Q = Run Cx 35 T ds ro (k) H Q := run_skip
def c35_9 : AC := .cond (.tmp 19) c35_10 c35_11
theorem n35_9 : Run Cx 35 T ds ro (.code c35_9 :: k) H Q = RunCond Cx 35 T ds ro (.tmp 19) (ev T (.tmp 19)) c35_10 c35_11 k H Q := run_condC
def c35_7 : AC := .seq c35_8 c35_9
theorem n35_7 : Run Cx 35 T ds ro (.code c35_7 :: k) H Q = Run Cx 35 T ds ro (.code c35_8 :: .code c35_9 :: k) H Q := run_seq
def o35_13 : List AO := [{ dst := (some 22), op := .move (.tmp 6), ty := 3, guard := none },
  { dst := (some 4), op := .assign (.tmp 22), ty := 3, guard := none }]
def c35_13 : AC := .region o35_13 []
theorem n35_13 : Run Cx 35 T ds ro (.code c35_13 :: k) H Q = RunOps Cx 35 T ds ro o35_13 k H Q := run_region
def c35_14 : AC := .ret
theorem n35_14 : Run Cx 35 T [] none (.code c35_14 :: k) H Q = RunRes Cx T H Q (resOf Cx 35) := run_ret
def c35_12 : AC := .seq c35_13 c35_14
theorem n35_12 : Run Cx 35 T ds ro (.code c35_12 :: k) H Q = Run Cx 35 T ds ro (.code c35_13 :: .code c35_14 :: k) H Q := run_seq
def c35_6 : AC := .seq c35_7 c35_12
theorem n35_6 : Run Cx 35 T ds ro (.code c35_6 :: k) H Q = Run Cx 35 T ds ro (.code c35_7 :: .code c35_12 :: k) H Q := run_seq
def c35_4 : AC := .seq c35_5 c35_6
theorem n35_4 : Run Cx 35 T ds ro (.code c35_4 :: k) H Q = Run Cx 35 T ds ro (.code c35_5 :: .code c35_6 :: k) H Q := run_seq
def c35_2 : AC := .seq c35_3 c35_4
theorem n35_2 : Run Cx 35 T ds ro (.code c35_2 :: k) H Q = Run Cx 35 T ds ro (.code c35_3 :: .code c35_4 :: k) H Q := run_seq
def c35_0 : AC := .seq c35_1 c35_2
theorem n35_0 : Run Cx 35 T ds ro (.code c35_0 :: k) H Q = Run Cx 35 T ds ro (.code c35_1 :: .code c35_2 :: k) H Q := run_seq
theorem body35 : bodyOf Cx 35 = some c35_0 := by kernel_rfl
theorem res35 : resOf Cx 35 = some [.tmp 4] := by kernel_rfl
theorem pure35 : Cx.pure 35 = true := by kernel_rfl
-- RULES 35: n35_0, n35_1, n35_2, n35_3, n35_4, n35_5, n35_6, n35_7, n35_8, n35_9, n35_10, n35_11, n35_12, n35_13, n35_14
def o36_1 : List AO := [{ dst := (some 2), op := .assign (.const (.bool false)), ty := 4, guard := none }]
def c36_1 : AC := .region o36_1 []
theorem n36_1 : Run Cx 36 T ds ro (.code c36_1 :: k) H Q = RunOps Cx 36 T ds ro o36_1 k H Q := run_region
def o36_3 : List AO := [{ dst := (some 3), op := .move (.tmp 0), ty := 3, guard := none },
  { dst := (some 4), op := .move (.tmp 0), ty := 3, guard := none },
  { dst := (some 5), op := .binOp .neq 3 (.tmp 3) (.tmp 4) 3, ty := 4, guard := none },
  { dst := (some 2), op := .assign (.tmp 5), ty := 4, guard := none }]
def c36_3 : AC := .region o36_3 []
theorem n36_3 : Run Cx 36 T ds ro (.code c36_3 :: k) H Q = RunOps Cx 36 T ds ro o36_3 k H Q := run_region
def c36_4 : AC := .ret
theorem n36_4 : Run Cx 36 T [] none (.code c36_4 :: k) H Q = RunRes Cx T H Q (resOf Cx 36) := run_ret
def c36_2 : AC := .seq c36_3 c36_4
theorem n36_2 : Run Cx 36 T ds ro (.code c36_2 :: k) H Q = Run Cx 36 T ds ro (.code c36_3 :: .code c36_4 :: k) H Q := run_seq
def c36_0 : AC := .seq c36_1 c36_2
theorem n36_0 : Run Cx 36 T ds ro (.code c36_0 :: k) H Q = Run Cx 36 T ds ro (.code c36_1 :: .code c36_2 :: k) H Q := run_seq
theorem body36 : bodyOf Cx 36 = some c36_0 := by kernel_rfl
theorem res36 : resOf Cx 36 = some [.tmp 2] := by kernel_rfl
theorem pure36 : Cx.pure 36 = true := by kernel_rfl
-- RULES 36: n36_0, n36_1, n36_2, n36_3, n36_4
end

end Go.Proofs.Ytmmeippmkekggaa.G
