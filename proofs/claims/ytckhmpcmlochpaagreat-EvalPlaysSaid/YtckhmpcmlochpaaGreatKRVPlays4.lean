import Derived.Test.YtckhmpcmlochpaaGreatKRVPlays3
import Derived.Laws.BitsLemmas
set_option linter.unusedSimpArgs false
set_option linter.unusedVariables false
set_option linter.unnecessarySimpa false
set_option linter.unusedSectionVars false
set_option linter.defProp false
namespace Go.Proofs.YtckhmpcmlochpaaGreat.G
open Go.BX
section
variable {T : Nat → AV} {ds : List ADef} {ro : Option Nat} {k : List AItem} {H : AHeap} {Q : AV → AHeap → Prop}
theorem w0z : Cx.pure 41 = true := by kernel_rfl
theorem w1a : Cx.pure 44 = true := by kernel_rfl
abbrev o45_1 := rg [ja 2 26, ji 3 0 3, ji 4 0 34]
abbrev o45_5 := rg [jm 6 0 9, jB 7 .neq 9 (tm 6) (kS #[]) 9 4, jm 8 7 4, km 9 0 9 8 true, oG 10 (.index 9 (tm 9) (ci 0)) 5 8 true, kB 11 .eql 5 (tm 10) (kU 34) 5 4 8 true, jp 12 8 (tm 11) kF, js 5 12 4]
abbrev o45_8 := rg [jm 13 0 9, jx 14 65 #[tm 13] #[9] 94, je 15 14 0 26, je 16 14 1 3, je 17 14 2 34, jt 26 2 15, js 3 16 3, js 4 17 34]
abbrev o45_11 := rg [jm 19 0 9, jB 20 .neq 9 (tm 19) (kS #[]) 9 4, jm 21 20 4, km 22 0 9 21 true, oG 23 (.index 9 (tm 22) (ci 0)) 5 21 true, kB 24 .eql 5 (tm 23) (kU 45) 5 4 21 true, km 25 24 4 21 true, km 26 0 9 25 false, oG 27 (.index 9 (tm 26) (ci 0)) 5 25 false, kx 28 66 #[tm 27] #[5] 4 25 false, kp 29 25 kT (tm 28) 21 true, jp 30 21 (tm 29) kF, js 18 30 4]
abbrev o45_14 := rg [jm 31 0 9, jx 32 67 #[tm 31] #[9] 94, je 33 32 0 26, je 34 32 1 3, je 35 32 2 34, jt 26 2 33, js 3 34 3, js 4 35 34]
abbrev o45_18 := rg [oA 36 (.build 26 #[]) 26, jt 26 2 36, ji 3 0 3, ji 4 10 34]
def c45_2 : AC := .seq (.block 0 (.seq o45_5 (.cond (tm 5) (.seq o45_8 .ret) (.seq o45_11 (.cond (tm 18) (.seq o45_14 .ret) .skip))))) (.seq o45_18 .ret)
def c45_0 : AC := .seq o45_1 c45_2
def r45_0 := qa2 (qS 45 c45_0 rfl) (qS 45 c45_2 rfl)
theorem w1b : q0h Cx 45 = some c45_0 := by kernel_rfl
theorem x0g : q0p Cx 45 = some [.cell 2 26, .tmp 3, .tmp 4] := by kernel_rfl
theorem j7v : Cx.pure 45 = true := by kernel_rfl
abbrev o46_1 := rg [oA 1 (.box 60 (tm 0)) 0, oA 2 (.assign kF) 4]
abbrev o46_4 := rg [jf 3 60 1 0, jl 4 3 3, jB 5 .eql 3 (tm 4) (ci 1) 3 4]
abbrev o46_7 := rg [jf 6 60 1 1, jf 7 26 6 0, jl 8 3 7, jB 9 .eql 3 (tm 8) (ci 0) 3 4, jm 10 9 4, kf 11 60 1 1 10 true, kl 12 26 11 10 true, kx 13 14 #[tm 12] #[26] 4 10 true, jp 14 10 (tm 13) kF, jm 15 14 4, kf 16 60 1 1 15 true, kf 17 26 16 1 15 true, kl 18 3 17 15 true, kB 19 .geq 3 (tm 18) (ci 0) 3 4 15 true, jp 20 15 (tm 19) kF, jm 21 20 4, kf 22 60 1 1 21 true, kf 23 26 22 1 21 true, kl 24 3 23 21 true, kx 25 44 #[] #[] 92 21 true, oG 26 (cB .len #[tm 25] #[92]) 3 21 true, kq 27 .lss 3 24 26 3 4 21 true, jp 28 21 (tm 27) kF, js 2 28 4]
abbrev o46_11 := rg [jf 29 60 1 0, jl 30 3 29, jB 31 .eql 3 (tm 30) (ci 0) 3 4, jm 32 31 4, kf 33 60 1 1 32 true, kl 34 26 33 32 true, kx 35 14 #[tm 34] #[26] 4 32 true, jp 36 32 (tm 35) kF, js 2 36 4]
def c46_0 : AC := .seq o46_1 (.seq (.seq o46_4 (.cond (tm 5) (.seq o46_7 .ret) .skip)) (.seq o46_11 .ret))
def r46_0 := qS 46 c46_0 rfl
theorem w1c : q0h Cx 46 = some c46_0 := by kernel_rfl
theorem x0h : q0p Cx 46 = some [.tmp 2] := by kernel_rfl
theorem w1d : Cx.pure 46 = true := by kernel_rfl
abbrev o47_1 := rg [oA 2 (.assign kF) 4]
abbrev o47_3 := rg [jm 3 0 3, jB 4 .geq 3 (tm 3) (ci (-16777216)) 3 4, jm 5 4 4, km 6 0 3 5 true, kB 7 .leq 3 (tm 6) (ci 16777216) 3 4 5 true, jp 8 5 (tm 7) kF, js 2 8 4]
def c47_0 : AC := .seq o47_1 (.seq o47_3 .ret)
def r47_0 := qS 47 c47_0 rfl
theorem y1b : q0h Cx 47 = some c47_0 := by kernel_rfl
theorem w1e : q0p Cx 47 = some [.tmp 2] := by kernel_rfl
theorem j7w : Cx.pure 47 = true := by kernel_rfl
abbrev o48_1 := rg [ja 2 26]
abbrev o48_3 := rg [jm 3 0 9, oA 4 (.build 26 #[(0, (ci 1)), (2, (tm 3))]) 26, jt 26 2 4]
def c48_0 : AC := .seq o48_1 (.seq o48_3 .ret)
def r48_0 := qS 48 c48_0 rfl
theorem w1f : q0h Cx 48 = some c48_0 := by kernel_rfl
theorem w9a : q0p Cx 48 = some [.cell 2 26] := by kernel_rfl
theorem j3n : Cx.pure 48 = true := by kernel_rfl
abbrev o49_1 := rg [ja 2 26]
abbrev o49_3 := rg [jm 3 0 3, oA 4 (.build 26 #[(1, (tm 3))]) 26, jt 26 2 4]
def c49_0 : AC := .seq o49_1 (.seq o49_3 .ret)
def r49_0 := qS 49 c49_0 rfl
theorem w1g : q0h Cx 49 = some c49_0 := by kernel_rfl
theorem w9b : q0p Cx 49 = some [.cell 2 26] := by kernel_rfl
theorem q5j : Cx.pure 49 = true := by kernel_rfl
abbrev o50_1 := rg [oA 3 (.box 54 (tm 0)) 0, oA 4 (.box 26 (tm 1)) 0, ja 6 26]
abbrev o50_6 := rg [jf 11 26 4 0, jl 12 3 11, jB 13 .neq 3 (tm 12) (ci 0) 3 4, js 10 13 4]
abbrev o50_9 := rg [jl 14 54 3, jx 15 27 #[tm 14, ci 13] #[54, 34] 26, jt 26 6 15]
abbrev o50_12 := rg [jf 17 26 4 1, jl 18 3 17, jB 19 .lss 3 (tm 18) (ci 0) 3 4, js 16 19 4]
abbrev o50_15 := rg [jl 20 54 3, jx 21 27 #[tm 20, ci 14] #[54, 34] 26, jt 26 6 21]
abbrev o50_19 := rg [jl 22 54 3, jn 23 22, jf 24 58 23 3, jl 25 3 24, ja 7 3, jt 3 7 25]
abbrev o50_21 := rg [oA 26 (.makeFunc (.func 68) #[] #[tm 7, tm 3]) 1, oN (.defer { callee := (.value (tm 26)), args := #[], argTypes := #[] }) 0]
abbrev o50_23 := rg [jx 27 49 #[ci 0] #[3] 26, ja 8 26, jt 26 8 27]
abbrev o50_25 := rg [jl 28 54 3, jn 29 28, jf 30 58 29 3, oN (.store 3 (tm 30) (ci 0)) 0]
def c50_27 : AC := .label 0
abbrev o50_30 := rg [jl 31 54 3, jn 32 31, jf 33 58 32 3, jl 34 3 33, jf 35 26 4 1, jl 36 3 35, jb 37 .lss 3 34 36 3 4, jm 38 37 4, kl 39 54 3 38 true, oG 40 (.nilCheck (tm 39)) 0 38 true, kf 41 58 40 7 38 true, kl 42 34 41 38 true, kB 43 .eql 34 (tm 42) (ci 0) 34 4 38 true, jp 44 38 (tm 43) kF]
abbrev o50_33 := rg [jl 45 54 3, jn 46 45, jf 47 58 46 3, jl 48 3 47, js 9 48 3]
abbrev o50_35 := rg [jl 49 54 3, jm 50 2 3, jx 51 16 #[tm 49, tm 50] #[54, 3] 26, jt 26 8 51]
abbrev o50_37 := rg [jl 52 54 3, jm 53 9 3, jB 54 .add 3 (tm 53) (ci 1) 3 3, jn 55 52, jf 56 58 55 3, jt 3 56 54]
def c50_38 : AC := .goto 0
abbrev o50_41 := rg [jl 57 26 8, jt 26 6 57]
def c50_42 : AC := .ret
def c50_40 : AC := .seq o50_41 c50_42
def c50_28 : AC := .seq (.seq o50_30 (.cond (tm 44) (.seq o50_33 (.seq o50_35 (.seq o50_37 c50_38))) .skip)) c50_40
def c50_3 : AC := .seq (.block 0 (.seq o50_6 (.cond (tm 10) (.seq o50_9 .ret) (.seq o50_12 (.cond (tm 16) (.seq o50_15 .ret) .skip))))) (.seq o50_19 (.seq o50_21 (.seq o50_23 (.seq o50_25 (.seq c50_27 c50_28)))))
def c50_2 : AC := .scope c50_3
def c50_0 : AC := .seq o50_1 c50_2
def r50_0 := qa7 (qS 50 c50_0 rfl) (qP 50 c50_2 rfl) (qS 50 c50_3 rfl) (qN 50 c50_27 rfl) (qS 50 c50_28 rfl) (qS 50 c50_40 rfl) (qT 50 c50_42 rfl)
theorem w1h : q0h Cx 50 = some c50_0 := by kernel_rfl
theorem y4j : q0p Cx 50 = some [.cell 6 26] := by kernel_rfl
theorem w1i : Cx.pure 50 = false := by kernel_rfl
abbrev o51_1 := rg [ja 6 26]
abbrev o51_4 := rg [jm 11 2 79, oA 12 (.indexAddr 79 (tm 11) (ci 0)) 0, jf 13 26 12 0, jl 14 3 13, jB 15 .eql 3 (tm 14) (ci 2) 3 4, jm 16 15 4, km 17 2 79 16 true, oG 18 (.indexAddr 79 (tm 17) (ci 1)) 0 16 true, kf 19 26 18 0 16 true, kl 20 3 19 16 true, kB 21 .eql 3 (tm 20) (ci 2) 3 4 16 true, jp 22 16 (tm 21) kF]
abbrev o51_7 := rg [jm 23 0 54, jm 24 1 9, jm 25 2 79, oA 26 (.indexAddr 79 (tm 25) (ci 0)) 0, jf 27 26 26 3, jl 28 24 27, jm 29 2 79, oA 30 (.indexAddr 79 (tm 29) (ci 1)) 0, jf 31 26 30 3, jl 32 24 31, jx 33 69 #[tm 23, tm 24, tm 28, tm 32] #[54, 9, 24, 24] 26, jt 26 6 33]
abbrev o51_12 := rg [jm 34 0 54, jm 35 2 79, jx 36 70 #[tm 34, (kS #[110, 110]), (tm 35)] #[54, 9, 79] 4, oA 37 (.unOp .not 4 (tm 36)) 4]
abbrev o51_15 := rg [oA 38 (.build 26 #[]) 26, jt 26 6 38]
def c51_13 : AC := .cond (tm 37) (.seq o51_15 .ret) .skip
abbrev o51_19 := rg [jm 39 2 79, oA 40 (.indexAddr 79 (tm 39) (ci 0)) 0, jf 41 26 40 1, jl 42 3 41, jm 43 2 79, oA 44 (.indexAddr 79 (tm 43) (ci 1)) 0, jf 45 26 44 1, jl 46 3 45, js 7 42 3, js 8 46 3]
abbrev o51_22 := rg [jm 47 1 9]
abbrev o51_25 := rg [jB 49 .eql 9 (tm 47) (kS #[97, 100, 100]) 9 4, js 48 49 4]
abbrev o51_28 := rg [jm 50 0 54, jm 51 7 3, jm 52 8 3, jb 53 .add 3 51 52 3 3, jx 54 49 #[tm 53] #[3] 26, jx 55 71 #[tm 50, tm 54] #[54, 26] 26, jt 26 6 55]
abbrev o51_31 := rg [jB 57 .eql 9 (tm 47) (kS #[115, 117, 98]) 9 4, js 56 57 4]
abbrev o51_34 := rg [jm 58 0 54, jm 59 7 3, jm 60 8 3, jb 61 .sub 3 59 60 3 3, jx 62 49 #[tm 61] #[3] 26, jx 63 71 #[tm 58, tm 62] #[54, 26] 26, jt 26 6 63]
abbrev o51_37 := rg [jB 65 .eql 9 (tm 47) (kS #[109, 117, 108]) 9 4, js 64 65 4]
abbrev o51_41 := rg [jm 66 7 3, jm 67 8 3, jx 68 72 #[tm 66, tm 67] #[3, 3] 4]
abbrev o51_44 := rg [jm 69 0 54, jx 70 27 #[tm 69, ci 14] #[54, 34] 26, jt 26 6 70]
abbrev o51_48 := rg [jm 71 0 54, jm 72 7 3, jm 73 8 3, jb 74 .mul 3 72 73 3 3, jx 75 49 #[tm 74] #[3] 26, jx 76 71 #[tm 71, tm 75] #[54, 26] 26, jt 26 6 76]
def c51_32 : AC := .cond (tm 56) (.seq o51_34 .ret) (.seq o51_37 (.cond (tm 64) (.seq (.seq o51_41 (.cond (tm 68) (.seq o51_44 .ret) .skip)) (.seq o51_48 .ret)) .skip))
abbrev o51_53 := rg [jm 77 8 3, jB 78 .eql 3 (tm 77) (ci 0) 3 4]
abbrev o51_56 := rg [jm 79 0 54, jx 80 27 #[tm 79, ci 16] #[54, 34] 26, jt 26 6 80]
abbrev o51_60 := rg [jm 82 7 3, jm 83 8 3, jx 84 73 #[tm 82, tm 83] #[3, 3] 111, jm 81 84 111, je 85 81 0 3, je 86 81 1 3, js 9 85 3, js 10 86 3]
abbrev o51_63 := rg [jm 87 1 9, jB 88 .eql 9 (tm 87) (kS #[109, 111, 100]) 9 4]
abbrev o51_66 := rg [jm 89 10 3, jx 90 49 #[tm 89] #[3] 26, jt 26 6 90]
abbrev o51_70 := rg [jm 91 0 54, jm 92 9 3, jx 93 49 #[tm 92] #[3] 26, jx 94 71 #[tm 91, tm 93] #[54, 26] 26, jt 26 6 94]
def c51_51 : AC := .seq (.seq o51_53 (.cond (tm 78) (.seq o51_56 .ret) .skip)) (.seq o51_60 (.seq (.seq o51_63 (.cond (tm 88) (.seq o51_66 .ret) .skip)) (.seq o51_70 .ret)))
def c51_18 : AC := .seq o51_19 (.seq (.seq o51_22 (.block 0 (.seq o51_25 (.cond (tm 48) (.seq o51_28 .ret) (.seq o51_31 c51_32))))) c51_51)
def c51_0 : AC := .seq o51_1 (.seq (.seq o51_4 (.cond (tm 22) (.seq o51_7 .ret) .skip)) (.seq (.seq o51_12 c51_13) c51_18))
def r51_0 := qa5 (qS 51 c51_0 rfl) (qC 51 c51_13 rfl) (qS 51 c51_18 rfl) (qC 51 c51_32 rfl) (qS 51 c51_51 rfl)
theorem w1j : q0h Cx 51 = some c51_0 := by kernel_rfl
theorem z7k : q0p Cx 51 = some [.cell 6 26] := by kernel_rfl
theorem w1k : Cx.pure 51 = false := by kernel_rfl
abbrev o52_1 := rg [ja 6 26]
abbrev o52_4 := rg [jm 8 2 79, oA 9 (.indexAddr 79 (tm 8) (ci 0)) 0, jf 10 26 9 0, jl 11 3 10, jm 12 2 79, oA 13 (.indexAddr 79 (tm 12) (ci 1)) 0, jf 14 26 13 0, jl 15 3 14, jb 16 .neq 3 11 15 3 4]
abbrev o52_7 := rg [jm 17 0 54, jx 18 27 #[tm 17, ci 13] #[54, 34] 26, jt 26 6 18]
abbrev o52_11 := rg [jm 19 2 79, oA 20 (.indexAddr 79 (tm 19) (ci 0)) 0, jl 21 26 20, jm 22 2 79, oA 23 (.indexAddr 79 (tm 22) (ci 1)) 0, jl 24 26 23, jx 25 74 #[tm 21, tm 24] #[26, 26] 3, js 7 25 3]
abbrev o52_15 := rg [jm 27 1 9, jB 28 .eql 9 (tm 27) (kS #[108, 101, 115, 115]) 9 4, js 26 28 4]
abbrev o52_18 := rg [jm 29 7 3, jB 30 .lss 3 (tm 29) (ci 0) 3 4, jx 31 75 #[tm 30] #[4] 26, jt 26 6 31]
abbrev o52_22 := rg [jm 33 1 9, jB 34 .eql 9 (tm 33) (kS #[109, 97, 120]) 9 4, jm 35 34 4, km 36 7 3 35 true, kB 37 .gtr 3 (tm 36) (ci 0) 3 4 35 true, jp 38 35 (tm 37) kF, js 32 38 4]
abbrev o52_25 := rg [jm 39 1 9, jB 40 .eql 9 (tm 39) (kS #[109, 105, 110]) 9 4, jm 41 40 4, km 42 7 3 41 true, kB 43 .leq 3 (tm 42) (ci 0) 3 4 41 true, jp 44 41 (tm 43) kF, js 32 44 4]
abbrev o52_28 := rg [jm 45 2 79, oA 46 (.indexAddr 79 (tm 45) (ci 0)) 0, jl 47 26 46, jt 26 6 47]
def c52_14 : AC := .seq o52_15 (.cond (tm 26) (.seq o52_18 .ret) (.seq (.seq o52_22 (.cond (tm 32) .skip o52_25)) (.cond (tm 32) (.seq o52_28 .ret) .skip)))
abbrev o52_32 := rg [jm 48 2 79, oA 49 (.indexAddr 79 (tm 48) (ci 1)) 0, jl 50 26 49, jt 26 6 50]
def c52_0 : AC := .seq o52_1 (.seq (.seq o52_4 (.cond (tm 16) (.seq o52_7 .ret) .skip)) (.seq o52_11 (.seq (.block 0 c52_14) (.seq o52_32 .ret))))
def r52_0 := qa2 (qS 52 c52_0 rfl) (qS 52 c52_14 rfl)
theorem w1l : q0h Cx 52 = some c52_0 := by kernel_rfl
theorem x0i : q0p Cx 52 = some [.cell 6 26] := by kernel_rfl
theorem w1m : Cx.pure 52 = false := by kernel_rfl
abbrev o53_1 := rg [ja 6 26]
abbrev o53_3 := rg [oA 13 (.makeMap 113 none) 113, oN (.insert 113 (tm 13) (kS #[99, 97, 116]) (kS #[115, 115])) 0, oN (.insert 113 (tm 13) (kS #[108, 101, 110]) (kS #[115])) 0, oN (.insert 113 (tm 13) (kS #[99, 117, 116]) (kS #[115, 110, 110])) 0, oN (.insert 113 (tm 13) (kS #[119, 111, 114, 100, 115]) (kS #[115])) 0, oN (.insert 113 (tm 13) (kS #[119, 111, 114, 100]) (kS #[115, 110])) 0, oN (.insert 113 (tm 13) (kS #[110, 117, 109]) (kS #[115])) 0, jm 14 13 113, jm 15 1 9, oA 16 (.lookup 113 (tm 14) (tm 15) false) 9, js 7 16 9]
abbrev o53_6 := rg [jm 17 0 54, jm 18 7 9, jm 19 2 79, jx 20 70 #[tm 17, tm 18, tm 19] #[54, 9, 79] 4, oA 21 (.unOp .not 4 (tm 20)) 4]
abbrev o53_9 := rg [oA 22 (.build 26 #[]) 26, jt 26 6 22]
abbrev o53_13 := rg [jm 23 2 79, oA 24 (.indexAddr 79 (tm 23) (ci 0)) 0, jf 25 26 24 2, jl 26 9 25, js 8 26 9]
abbrev o53_16 := rg [jm 27 1 9]
abbrev o53_19 := rg [jB 29 .eql 9 (tm 27) (kS #[99, 97, 116]) 9 4, js 28 29 4]
abbrev o53_23 := rg [jm 30 8 9, oA 31 (cB .len #[tm 30] #[9]) 3, jm 32 2 79, oA 33 (.indexAddr 79 (tm 32) (ci 1)) 0, jf 34 26 33 2, jl 35 9 34, oA 36 (cB .len #[tm 35] #[9]) 3, jb 37 .add 3 31 36 3 3, jB 38 .gtr 3 (tm 37) (ci 4096) 3 4]
abbrev o53_26 := rg [jm 39 0 54, jx 40 27 #[tm 39, ci 3] #[54, 34] 26, jt 26 6 40]
abbrev o53_30 := rg [jm 41 8 9, jm 42 2 79, oA 43 (.indexAddr 79 (tm 42) (ci 1)) 0, jf 44 26 43 2, jl 45 9 44, jb 46 .add 9 41 45 9 9, jx 47 48 #[tm 46] #[9] 26, jt 26 6 47]
abbrev o53_33 := rg [jB 49 .eql 9 (tm 27) (kS #[108, 101, 110]) 9 4, js 48 49 4]
abbrev o53_36 := rg [jm 50 8 9, oA 51 (cB .len #[tm 50] #[9]) 3, jx 52 49 #[tm 51] #[3] 26, jt 26 6 52]
abbrev o53_39 := rg [jB 54 .eql 9 (tm 27) (kS #[99, 117, 116]) 9 4, js 53 54 4]
abbrev o53_43 := rg [jm 55 2 79, oA 56 (.indexAddr 79 (tm 55) (ci 1)) 0, jf 57 26 56 1, jl 58 3 57, jB 59 .lss 3 (tm 58) (ci 0) 3 4, jm 60 59 4, km 61 2 79 60 false, oG 62 (.indexAddr 79 (tm 61) (ci 1)) 0 60 false, kf 63 26 62 1 60 false, kl 64 3 63 60 false, km 65 2 79 60 false, oG 66 (.indexAddr 79 (tm 65) (ci 2)) 0 60 false, kf 67 26 66 1 60 false, kl 68 3 67 60 false, kq 69 .gtr 3 64 68 3 4 60 false, jp 70 60 kT (tm 69), jm 71 70 4, km 72 2 79 71 false, oG 73 (.indexAddr 79 (tm 72) (ci 2)) 0 71 false, kf 74 26 73 1 71 false, kl 75 3 74 71 false, km 76 8 9 71 false, oG 77 (cB .len #[tm 76] #[9]) 3 71 false, kq 78 .gtr 3 75 77 3 4 71 false, jp 79 71 kT (tm 78)]
abbrev o53_46 := rg [jm 80 0 54, jx 81 27 #[tm 80, ci 14] #[54, 34] 26, jt 26 6 81]
abbrev o53_50 := rg [jm 82 8 9, jm 83 2 79, oA 84 (.indexAddr 79 (tm 83) (ci 1)) 0, jf 85 26 84 1, jl 86 3 85, jm 87 2 79, oA 88 (.indexAddr 79 (tm 87) (ci 2)) 0, jf 89 26 88 1, jl 90 3 89, oA 91 (.slice 9 (tm 82) (some (tm 86)) (some (tm 90)) none) 9, jx 92 48 #[tm 91] #[9] 26, jt 26 6 92]
abbrev o53_53 := rg [jB 94 .eql 9 (tm 27) (kS #[119, 111, 114, 100, 115]) 9 4, js 93 94 4]
abbrev o53_56 := rg [jm 95 8 9, jx 96 76 #[tm 95] #[9] 92, oA 97 (cB .len #[tm 96] #[92]) 3, jx 98 49 #[tm 97] #[3] 26, jt 26 6 98]
abbrev o53_59 := rg [jB 100 .eql 9 (tm 27) (kS #[119, 111, 114, 100]) 9 4, js 99 100 4]
abbrev o53_62 := rg [jm 101 8 9, jx 102 76 #[tm 101] #[9] 92, js 9 102 92]
abbrev o53_65 := rg [jm 103 2 79, oA 104 (.indexAddr 79 (tm 103) (ci 1)) 0, jf 105 26 104 1, jl 106 3 105, jB 107 .lss 3 (tm 106) (ci 0) 3 4, jm 108 107 4, km 109 2 79 108 false, oG 110 (.indexAddr 79 (tm 109) (ci 1)) 0 108 false, kf 111 26 110 1 108 false, kl 112 3 111 108 false, km 113 9 92 108 false, oG 114 (cB .len #[tm 113] #[92]) 3 108 false, kq 115 .geq 3 112 114 3 4 108 false, jp 116 108 kT (tm 115)]
abbrev o53_68 := rg [jm 117 0 54, jx 118 27 #[tm 117, ci 14] #[54, 34] 26, jt 26 6 118]
abbrev o53_72 := rg [jm 119 9 92, jm 120 2 79, oA 121 (.indexAddr 79 (tm 120) (ci 1)) 0, jf 122 26 121 1, jl 123 3 122, oA 124 (.indexAddr 92 (tm 119) (tm 123)) 0, jl 125 9 124, jx 126 48 #[tm 125] #[9] 26, jt 26 6 126]
def c53_58 : AC := .seq o53_59 (.cond (tm 99) (.seq o53_62 (.seq (.seq o53_65 (.cond (tm 116) (.seq o53_68 .ret) .skip)) (.seq o53_72 .ret))) .skip)
def c53_40 : AC := .cond (tm 53) (.seq (.seq o53_43 (.cond (tm 79) (.seq o53_46 .ret) .skip)) (.seq o53_50 .ret)) (.seq o53_53 (.cond (tm 93) (.seq o53_56 .ret) c53_58))
def c53_20 : AC := .cond (tm 28) (.seq (.seq o53_23 (.cond (tm 38) (.seq o53_26 .ret) .skip)) (.seq o53_30 .ret)) (.seq o53_33 (.cond (tm 48) (.seq o53_36 .ret) (.seq o53_39 c53_40)))
abbrev o53_76 := rg [jm 128 8 9, jx 129 45 #[tm 128] #[9] 94, jm 127 129 94, je 130 127 0 26, je 131 127 1 3, je 132 127 2 34, ja 10 26, jt 26 10 130, js 11 131 3, js 12 132 34]
abbrev o53_79 := rg [jm 133 12 34, jB 134 .neq 34 (tm 133) (ci 0) 34 4, jm 135 134 4, km 136 11 3 135 false, km 137 8 9 135 false, oG 138 (cB .len #[tm 137] #[9]) 3 135 false, kq 139 .neq 3 136 138 3 4 135 false, jp 140 135 kT (tm 139), jm 141 140 4, kf 142 26 10 0 141 false, kl 143 3 142 141 false, kB 144 .neq 3 (tm 143) (ci 0) 3 4 141 false, jp 145 141 kT (tm 144)]
abbrev o53_82 := rg [jm 146 0 54, jx 147 27 #[tm 146, ci 6] #[54, 34] 26, jt 26 6 147]
abbrev o53_86 := rg [jl 148 26 10, jt 26 6 148]
def c53_14 : AC := .seq (.seq o53_16 (.block 0 (.seq o53_19 c53_20))) (.seq o53_76 (.seq (.seq o53_79 (.cond (tm 145) (.seq o53_82 .ret) .skip)) (.seq o53_86 .ret)))
def c53_12 : AC := .seq o53_13 c53_14
def c53_0 : AC := .seq o53_1 (.seq o53_3 (.seq (.seq o53_6 (.cond (tm 21) (.seq o53_9 .ret) .skip)) c53_12))
def r53_0 := qa6 (qS 53 c53_0 rfl) (qS 53 c53_12 rfl) (qS 53 c53_14 rfl) (qC 53 c53_20 rfl) (qC 53 c53_40 rfl) (qS 53 c53_58 rfl)
theorem w1n : q0h Cx 53 = some c53_0 := by kernel_rfl
theorem q9e : q0p Cx 53 = some [.cell 6 26] := by kernel_rfl
theorem w1o : Cx.pure 53 = false := by kernel_rfl
abbrev o54_1 := rg [ja 6 26]
abbrev o54_4 := rg [jm 10 0 54, jm 11 2 79, jx 12 70 #[tm 10, (kS #[112]), (tm 11)] #[54, 9, 79] 4, oA 13 (.unOp .not 4 (tm 12)) 4]
abbrev o54_7 := rg [oA 14 (.build 26 #[]) 26, jt 26 6 14]
abbrev o54_11 := rg [jm 15 2 79, oA 16 (.indexAddr 79 (tm 15) (ci 0)) 0, jf 17 26 16 3, jl 18 24 17, ja 7 24, jt 24 7 18]
abbrev o54_14 := rg [jm 19 1 9]
abbrev o54_17 := rg [jB 21 .eql 9 (tm 19) (kS #[114, 101]) 9 4, js 20 21 4]
abbrev o54_20 := rg [jf 22 24 7 0, jl 23 3 22, jx 24 49 #[tm 23] #[3] 26, jt 26 6 24]
abbrev o54_23 := rg [jB 26 .eql 9 (tm 19) (kS #[105, 109]) 9 4, js 25 26 4]
abbrev o54_26 := rg [jf 27 24 7 1, jl 28 3 27, jx 29 49 #[tm 28] #[3] 26, jt 26 6 29]
abbrev o54_29 := rg [jB 31 .eql 9 (tm 19) (kS #[110, 111, 114, 109]) 9 4, js 30 31 4]
abbrev o54_32 := rg [jl 33 24 7, jx 34 77 #[tm 33] #[24] 43, jm 32 34 43, je 35 32 0 3, je 36 32 1 34, js 8 35 3, js 9 36 34]
abbrev o54_34 := rg [jm 37 8 3, jx 38 49 #[tm 37] #[3] 26, jt 26 6 38]
def c54_18 : AC := .cond (tm 20) (.seq o54_20 .ret) (.seq o54_23 (.cond (tm 25) (.seq o54_26 .ret) (.seq o54_29 (.cond (tm 30) (.seq o54_32 (.seq o54_34 .ret)) .skip))))
abbrev o54_38 := rg [jm 39 0 54, jl 40 24 7, jx 41 79 #[tm 40] #[24] 117, je 42 41 0 24, je 43 41 1 34, jx 44 78 #[tm 39, tm 42, tm 43] #[54, 24, 34] 26, jt 26 6 44]
def c54_2 : AC := .seq (.seq o54_4 (.cond (tm 13) (.seq o54_7 .ret) .skip)) (.seq o54_11 (.seq (.seq o54_14 (.block 0 (.seq o54_17 c54_18))) (.seq o54_38 .ret)))
def c54_0 : AC := .seq o54_1 c54_2
def r54_0 := qa3 (qS 54 c54_0 rfl) (qS 54 c54_2 rfl) (qC 54 c54_18 rfl)
theorem w1p : q0h Cx 54 = some c54_0 := by kernel_rfl
theorem x3i : q0p Cx 54 = some [.cell 6 26] := by kernel_rfl
theorem w1q : Cx.pure 54 = false := by kernel_rfl
abbrev o55_1 := rg [ja 6 26]
abbrev o55_4 := rg [jm 7 1 9]
abbrev o55_7 := rg [jB 9 .eql 9 (tm 7) (kS #[115, 97, 109, 101]) 9 4, js 8 9 4]
abbrev o55_10 := rg [jm 10 2 79, oA 11 (.indexAddr 79 (tm 10) (ci 0)) 0, jl 12 26 11, jm 13 2 79, oA 14 (.indexAddr 79 (tm 13) (ci 1)) 0, jl 15 26 14, jb 16 .eql 26 12 15 26 4, jx 17 75 #[tm 16] #[4] 26, jt 26 6 17]
abbrev o55_13 := rg [jB 19 .eql 9 (tm 7) (kS #[116, 104, 101, 110]) 9 4, js 18 19 4]
abbrev o55_16 := rg [jm 20 2 79, oA 21 (.indexAddr 79 (tm 20) (ci 1)) 0, jl 22 26 21, jt 26 6 22]
abbrev o55_19 := rg [jB 24 .eql 9 (tm 7) (kS #[116, 101, 120, 116]) 9 4, js 23 24 4]
abbrev o55_23 := rg [jm 25 2 79, oA 26 (.indexAddr 79 (tm 25) (ci 0)) 0, jf 27 26 26 0, jl 28 3 27, jB 29 .eql 3 (tm 28) (ci 1) 3 4]
abbrev o55_26 := rg [jm 30 2 79, oA 31 (.indexAddr 79 (tm 30) (ci 0)) 0, jl 32 26 31, jt 26 6 32]
abbrev o55_30 := rg [jm 33 2 79, oA 34 (.indexAddr 79 (tm 33) (ci 0)) 0, jl 35 26 34, jx 36 80 #[tm 35] #[26] 9, jx 37 48 #[tm 36] #[9] 26, jt 26 6 37]
abbrev o55_33 := rg [jB 39 .eql 9 (tm 7) (kS #[101, 109, 105, 116]) 9 4, js 38 39 4]
abbrev o55_36 := rg [jm 40 0 54, jm 41 2 79, jx 42 81 #[tm 40, tm 41] #[54, 79] 26, jt 26 6 42]
abbrev o55_39 := rg [jB 44 .eql 9 (tm 7) (kS #[110, 111, 116]) 9 4, js 43 44 4]
abbrev o55_43 := rg [jm 45 0 54, jm 46 2 79, jx 47 70 #[tm 45, (kS #[110]), (tm 46)] #[54, 9, 79] 4, oA 48 (.unOp .not 4 (tm 47)) 4]
abbrev o55_46 := rg [oA 49 (.build 26 #[]) 26, jt 26 6 49]
abbrev o55_50 := rg [jm 50 2 79, oA 51 (.indexAddr 79 (tm 50) (ci 0)) 0, jf 52 26 51 1, jl 53 3 52, jB 54 .eql 3 (tm 53) (ci 0) 3 4, jx 55 75 #[tm 54] #[4] 26, jt 26 6 55]
abbrev o55_53 := rg [jB 57 .eql 9 (tm 7) (kS #[97, 116]) 9 4, js 56 57 4]
abbrev o55_57 := rg [jm 58 0 54, jm 59 2 79, jx 60 70 #[tm 58, (kS #[110, 110]), (tm 59)] #[54, 9, 79] 4, oA 61 (.unOp .not 4 (tm 60)) 4]
abbrev o55_60 := rg [oA 62 (.build 26 #[]) 26, jt 26 6 62]
abbrev o55_64 := rg [jm 63 0 54, jm 64 2 79, oA 65 (.indexAddr 79 (tm 64) (ci 0)) 0, jf 66 26 65 1, jl 67 3 66, jm 68 2 79, oA 69 (.indexAddr 79 (tm 68) (ci 1)) 0, jf 70 26 69 1, jl 71 3 70, oA 72 (.build 24 #[(0, (tm 67)), (1, (tm 71))]) 24, jx 73 82 #[tm 72] #[24] 26, jx 74 71 #[tm 63, tm 73] #[54, 26] 26, jt 26 6 74]
def c55_40 : AC := .cond (tm 43) (.seq (.seq o55_43 (.cond (tm 48) (.seq o55_46 .ret) .skip)) (.seq o55_50 .ret)) (.seq o55_53 (.cond (tm 56) (.seq (.seq o55_57 (.cond (tm 61) (.seq o55_60 .ret) .skip)) (.seq o55_64 .ret)) .skip))
def c55_20 : AC := .cond (tm 23) (.seq (.seq o55_23 (.cond (tm 29) (.seq o55_26 .ret) .skip)) (.seq o55_30 .ret)) (.seq o55_33 (.cond (tm 38) (.seq o55_36 .ret) (.seq o55_39 c55_40)))
def c55_3 : AC := .seq o55_4 (.block 0 (.seq o55_7 (.cond (tm 8) (.seq o55_10 .ret) (.seq o55_13 (.cond (tm 18) (.seq o55_16 .ret) (.seq o55_19 c55_20))))))
abbrev o55_69 := rg [jm 75 2 79, oA 76 (.indexAddr 79 (tm 75) (ci 0)) 0, jf 77 26 76 0, jl 78 3 77, jB 79 .eql 3 (tm 78) (ci 2) 3 4]
abbrev o55_72 := rg [jm 80 2 79, oA 81 (.indexAddr 79 (tm 80) (ci 0)) 0, jf 82 26 81 3, jf 83 24 82 0, jl 84 3 83, oA 85 (.unOp .neg 3 (tm 84)) 3, jm 86 2 79, oA 87 (.indexAddr 79 (tm 86) (ci 0)) 0, jf 88 26 87 3, jf 89 24 88 1, jl 90 3 89, oA 91 (.unOp .neg 3 (tm 90)) 3, oA 92 (.build 24 #[(0, (tm 85)), (1, (tm 91))]) 24, jx 93 82 #[tm 92] #[24] 26, jt 26 6 93]
abbrev o55_77 := rg [jm 94 0 54, jm 95 2 79, jx 96 70 #[tm 94, (kS #[110]), (tm 95)] #[54, 9, 79] 4, oA 97 (.unOp .not 4 (tm 96)) 4]
abbrev o55_80 := rg [oA 98 (.build 26 #[]) 26, jt 26 6 98]
abbrev o55_84 := rg [jm 99 2 79, oA 100 (.indexAddr 79 (tm 99) (ci 0)) 0, jf 101 26 100 1, jl 102 3 101, oA 103 (.unOp .neg 3 (tm 102)) 3, jx 104 49 #[tm 103] #[3] 26, jt 26 6 104]
def c55_67 : AC := .seq (.seq o55_69 (.cond (tm 79) (.seq o55_72 .ret) .skip)) (.seq (.seq o55_77 (.cond (tm 97) (.seq o55_80 .ret) .skip)) (.seq o55_84 .ret))
def c55_0 : AC := .seq o55_1 (.seq c55_3 c55_67)
def r55_0 := qa5 (qS 55 c55_0 rfl) (qS 55 c55_3 rfl) (qC 55 c55_20 rfl) (qC 55 c55_40 rfl) (qS 55 c55_67 rfl)
theorem y1c : q0h Cx 55 = some c55_0 := by kernel_rfl
theorem z3m : q0p Cx 55 = some [.cell 6 26] := by kernel_rfl
theorem y1d : Cx.pure 55 = false := by kernel_rfl
abbrev o56_1 := rg [oA 6 (.box 24 (tm 2)) 0, oA 7 (.box 24 (tm 3)) 0, ja 8 26]
abbrev o56_3 := rg [oA 12 (.build 26 #[(0, (ci 2))]) 26, ja 9 26, jt 26 9 12]
abbrev o56_6 := rg [jm 13 1 9]
abbrev o56_9 := rg [jB 42 .eql 9 (tm 13) (kS #[97, 100, 100]) 9 4, js 41 42 4]
abbrev o56_11 := rg [jf 43 24 6 0, jl 44 3 43, jf 45 24 7 0, jl 46 3 45, jb 47 .add 3 44 46 3 3, jf 48 24 6 1, jl 49 3 48, jf 50 24 7 1, jl 51 3 50, jb 52 .add 3 49 51 3 3, oA 53 (.build 24 #[(0, (tm 47)), (1, (tm 52))]) 24, jf 54 26 9 3, jt 24 54 53]
abbrev o56_13 := rg [jB 56 .eql 9 (tm 13) (kS #[115, 117, 98]) 9 4, js 55 56 4]
abbrev o56_15 := rg [jf 57 24 6 0, jl 58 3 57, jf 59 24 7 0, jl 60 3 59, jb 61 .sub 3 58 60 3 3, jf 62 24 6 1, jl 63 3 62, jf 64 24 7 1, jl 65 3 64, jb 66 .sub 3 63 65 3 3, oA 67 (.build 24 #[(0, (tm 61)), (1, (tm 66))]) 24, jf 68 26 9 3, jt 24 68 67]
abbrev o56_17 := rg [jB 70 .eql 9 (tm 13) (kS #[109, 117, 108]) 9 4, js 69 70 4]
abbrev o56_19 := rg [jl 71 24 6, jl 72 24 7, jx 73 83 #[tm 71, tm 72] #[24, 24] 24, jf 74 26 9 3, jt 24 74 73]
abbrev o56_22 := rg [jl 14 24 7, oA 15 (.build 24 #[]) 24, jb 16 .eql 24 14 15 24 4]
abbrev o56_25 := rg [jm 17 0 64, jx 18 35 #[tm 17, ci 16] #[64, 3] 26, jt 26 8 18]
abbrev o56_29 := rg [jl 20 24 6, jl 21 24 7, jx 22 84 #[tm 20, tm 21] #[24, 24] 122, jm 19 22 122, je 23 19 0 24, je 24 19 1 24, ja 10 24, ja 11 24, jt 24 10 23, jt 24 11 24]
abbrev o56_32 := rg [jl 25 24 10, jx 26 33 #[tm 25] #[24] 4, oA 27 (.unOp .not 4 (tm 26)) 4, jm 28 27 4, kl 29 24 11 28 false, kx 30 33 #[tm 29] #[24] 4 28 false, oG 31 (.unOp .not 4 (tm 30)) 4 28 false, jp 32 28 kT (tm 31)]
abbrev o56_35 := rg [jm 33 0 64, jx 34 35 #[tm 33, ci 14] #[64, 3] 26, jt 26 8 34]
abbrev o56_39 := rg [jl 35 24 10, jf 36 26 9 3, jt 24 36 35]
abbrev o56_41 := rg [jm 37 1 9, jB 38 .eql 9 (tm 37) (kS #[109, 111, 100]) 9 4]
abbrev o56_43 := rg [jl 39 24 11, jf 40 26 9 3, jt 24 40 39]
def c56_28 : AC := .seq o56_29 (.seq (.seq o56_32 (.cond (tm 32) (.seq o56_35 .ret) .skip)) (.seq o56_39 (.seq o56_41 (.cond (tm 38) o56_43 .skip))))
def c56_12 : AC := .seq o56_13 (.cond (tm 55) o56_15 (.seq o56_17 (.cond (tm 69) o56_19 (.seq (.seq o56_22 (.cond (tm 16) (.seq o56_25 .ret) .skip)) c56_28))))
abbrev o56_46 := rg [jm 75 0 64, jl 76 26 9, jx 77 61 #[tm 75, tm 76] #[64, 26] 26, jt 26 8 77]
def c56_0 : AC := .seq o56_1 (.seq o56_3 (.seq (.seq o56_6 (.block 0 (.seq o56_9 (.cond (tm 41) o56_11 c56_12)))) (.seq o56_46 .ret)))
def r56_0 := qa3 (qS 56 c56_0 rfl) (qS 56 c56_12 rfl) (qS 56 c56_28 rfl)
theorem w1r : q0h Cx 56 = some c56_0 := by kernel_rfl
theorem z6f : q0p Cx 56 = some [.cell 8 26] := by kernel_rfl
theorem w1s : Cx.pure 56 = false := by kernel_rfl
abbrev o57_1 := rg [oA 6 (.assign kF) 4]
abbrev o57_4 := rg [ji 7 0 3]
abbrev o57_9 := rg [jm 8 7 3, jm 9 2 62, oA 10 (cB .len #[tm 9] #[62]) 3, jb 11 .lss 3 8 10 3 4]
abbrev o57_16 := rg [jm 14 1 79, jm 15 7 3, oA 16 (.indexAddr 79 (tm 14) (tm 15)) 0, jf 17 26 16 0, jl 18 3 17, jm 19 2 62, jm 20 7 3, oA 21 (.indexAddr 62 (tm 19) (tm 20)) 0, jl 22 3 21, jb 23 .neq 3 18 22 3 4]
abbrev o57_19 := rg [jm 24 0 64, jx 25 35 #[tm 24, ci 13] #[64, 3] 26]
abbrev o57_21 := rg [oA 6 (.assign kF) 4]
abbrev o57_24 := rg [jm 12 7 3, jB 13 .add 3 (tm 12) (ci 1) 3 3, js 7 13 3]
def c57_7 : AC := .seq (.seq o57_9 (.cond (tm 11) .skip (.exit 0))) (.seq (.block 1 (.seq o57_16 (.cond (tm 23) (.seq o57_19 (.seq o57_21 .ret)) .skip))) o57_24)
abbrev o57_26 := rg [oA 6 (.assign kT) 4]
def c57_25 : AC := .seq o57_26 .ret
def c57_0 : AC := .seq o57_1 (.seq (.seq o57_4 (.block 0 (.loop c57_7))) c57_25)
def r57_0 := qa3 (qS 57 c57_0 rfl) (qS 57 c57_7 rfl) (qS 57 c57_25 rfl)
theorem w1t : q0h Cx 57 = some c57_0 := by kernel_rfl
theorem w1u : q0p Cx 57 = some [.tmp 6] := by kernel_rfl
theorem w1v : Cx.pure 57 = false := by kernel_rfl
abbrev o58_1 := rg [ja 8 26]
abbrev o58_4 := rg [jm 10 1 9]
abbrev o58_7 := rg [jB 12 .eql 9 (tm 10) (kS #[97, 100, 100]) 9 4, js 11 12 4]
abbrev o58_10 := rg [jm 13 0 64, jm 14 2 3, jm 15 3 3, jb 16 .add 3 14 15 3 3, jx 17 37 #[tm 16] #[3] 26, jx 18 61 #[tm 13, tm 17] #[64, 26] 26, jt 26 8 18]
abbrev o58_13 := rg [jB 20 .eql 9 (tm 10) (kS #[115, 117, 98]) 9 4, js 19 20 4]
abbrev o58_16 := rg [jm 21 0 64, jm 22 2 3, jm 23 3 3, jb 24 .sub 3 22 23 3 3, jx 25 37 #[tm 24] #[3] 26, jx 26 61 #[tm 21, tm 25] #[64, 26] 26, jt 26 8 26]
abbrev o58_19 := rg [jB 28 .eql 9 (tm 10) (kS #[109, 117, 108]) 9 4, js 27 28 4]
abbrev o58_23 := rg [jm 29 2 3, jB 30 .neq 3 (tm 29) (ci 0) 3 4, jm 31 30 4, km 32 3 3 31 true, km 33 2 3 31 true, kx 34 85 #[tm 33] #[3] 3 31 true, kB 35 .quo 3 (ci 9007199254740992) (tm 34) 3 3 31 true, kq 36 .gtr 3 32 35 3 4 31 true, km 37 36 4 31 true, km 38 3 3 37 false, km 39 2 3 37 false, kx 40 85 #[tm 39] #[3] 3 37 false, kB 41 .quo 3 (ci 9007199254740992) (tm 40) 3 3 37 false, oG 42 (.unOp .neg 3 (tm 41)) 3 37 false, kq 43 .lss 3 38 42 3 4 37 false, kp 44 37 kT (tm 43) 31 true, jp 45 31 (tm 44) kF]
abbrev o58_26 := rg [jm 46 0 64, jx 47 35 #[tm 46, ci 14] #[64, 3] 26, jt 26 8 47]
abbrev o58_30 := rg [jm 48 0 64, jm 49 2 3, jm 50 3 3, jb 51 .mul 3 49 50 3 3, jx 52 37 #[tm 51] #[3] 26, jx 53 61 #[tm 48, tm 52] #[64, 26] 26, jt 26 8 53]
def c58_14 : AC := .cond (tm 19) (.seq o58_16 .ret) (.seq o58_19 (.cond (tm 27) (.seq (.seq o58_23 (.cond (tm 45) (.seq o58_26 .ret) .skip)) (.seq o58_30 .ret)) .skip))
abbrev o58_35 := rg [jm 54 3 3, jB 55 .eql 3 (tm 54) (ci 0) 3 4]
abbrev o58_38 := rg [jm 56 0 64, jx 57 35 #[tm 56, ci 16] #[64, 3] 26, jt 26 8 57]
abbrev o58_42 := rg [jm 58 2 3, jm 59 3 3, jb 60 .quo 3 58 59 3 3, js 9 60 3]
abbrev o58_45 := rg [jm 61 2 3, jm 62 3 3, jb 63 .rem 3 61 62 3 3, jB 64 .neq 3 (tm 63) (ci 0) 3 4, jm 65 64 4, km 66 2 3 65 true, kB 67 .lss 3 (tm 66) (ci 0) 3 4 65 true, km 68 3 3 65 true, kB 69 .lss 3 (tm 68) (ci 0) 3 4 65 true, kq 70 .neq 4 67 69 4 4 65 true, jp 71 65 (tm 70) kF]
abbrev o58_47 := rg [jm 72 9 3, jB 73 .sub 3 (tm 72) (ci 1) 3 3, js 9 73 3]
abbrev o58_51 := rg [jm 74 1 9, jB 75 .eql 9 (tm 74) (kS #[109, 111, 100]) 9 4]
abbrev o58_54 := rg [jm 76 2 3, jm 77 9 3, jm 78 3 3, jb 79 .mul 3 77 78 3 3, jb 80 .sub 3 76 79 3 3, jx 81 37 #[tm 80] #[3] 26, jt 26 8 81]
abbrev o58_58 := rg [jm 82 0 64, jm 83 9 3, jx 84 37 #[tm 83] #[3] 26, jx 85 61 #[tm 82, tm 84] #[64, 26] 26, jt 26 8 85]
def c58_43 : AC := .seq (.seq o58_45 (.cond (tm 71) o58_47 .skip)) (.seq (.seq o58_51 (.cond (tm 75) (.seq o58_54 .ret) .skip)) (.seq o58_58 .ret))
def c58_2 : AC := .seq (.seq o58_4 (.block 0 (.seq o58_7 (.cond (tm 11) (.seq o58_10 .ret) (.seq o58_13 c58_14))))) (.seq (.seq o58_35 (.cond (tm 55) (.seq o58_38 .ret) .skip)) (.seq o58_42 c58_43))
def c58_0 : AC := .seq o58_1 c58_2
def r58_0 := qa4 (qS 58 c58_0 rfl) (qS 58 c58_2 rfl) (qC 58 c58_14 rfl) (qS 58 c58_43 rfl)
theorem w1w : q0h Cx 58 = some c58_0 := by kernel_rfl
theorem z1d : q0p Cx 58 = some [.cell 8 26] := by kernel_rfl
theorem w1x : Cx.pure 58 = false := by kernel_rfl
abbrev o59_1 := rg [oA 2 (.box 26 (tm 0)) 0, oA 3 (.box 26 (tm 1)) 0, ji 4 0 3]
abbrev o59_4 := rg [jl 5 26 2, jl 6 26 3, jx 7 86 #[tm 5, tm 6] #[26, 26] 4]
abbrev o59_7 := rg [ji 4 (-1) 3]
abbrev o59_12 := rg [jl 8 26 3, jl 9 26 2, jx 10 86 #[tm 8, tm 9] #[26, 26] 4]
abbrev o59_15 := rg [ji 4 1 3]
abbrev o59_19 := rg [ji 4 0 3]
def c59_2 : AC := .seq (.seq o59_4 (.cond (tm 7) (.seq o59_7 .ret) .skip)) (.seq (.seq o59_12 (.cond (tm 10) (.seq o59_15 .ret) .skip)) (.seq o59_19 .ret))
def c59_0 : AC := .seq o59_1 c59_2
def r59_0 := qa2 (qS 59 c59_0 rfl) (qS 59 c59_2 rfl)
theorem w1y : q0h Cx 59 = some c59_0 := by kernel_rfl
theorem w9c : q0p Cx 59 = some [.tmp 4] := by kernel_rfl
theorem j3o : Cx.pure 59 = true := by kernel_rfl
abbrev o60_1 := rg [ja 2 26]
abbrev o60_4 := rg [jm 3 0 4]
abbrev o60_7 := rg [jx 4 37 #[ci 1] #[3] 26, jt 26 2 4]
abbrev o60_11 := rg [jx 5 37 #[ci 0] #[3] 26, jt 26 2 5]
def c60_0 : AC := .seq o60_1 (.seq (.seq o60_4 (.cond (tm 3) (.seq o60_7 .ret) .skip)) (.seq o60_11 .ret))
def r60_0 := qS 60 c60_0 rfl
theorem w1z : q0h Cx 60 = some c60_0 := by kernel_rfl
theorem w2a : q0p Cx 60 = some [.cell 2 26] := by kernel_rfl
theorem x3j : Cx.pure 60 = true := by kernel_rfl
abbrev o61_1 := rg [oA 3 (.box 26 (tm 1)) 0, ja 4 26]
abbrev o61_4 := rg [jl 5 26 3, jx 6 18 #[tm 5] #[26] 4, oA 7 (.unOp .not 4 (tm 6)) 4]
abbrev o61_7 := rg [jm 8 0 64, jx 9 35 #[tm 8, ci 14] #[64, 3] 26, jt 26 4 9]
abbrev o61_11 := rg [jl 10 26 3, jt 26 4 10]
def c61_0 : AC := .seq o61_1 (.seq (.seq o61_4 (.cond (tm 7) (.seq o61_7 .ret) .skip)) (.seq o61_11 .ret))
def r61_0 := qS 61 c61_0 rfl
theorem w2b : q0h Cx 61 = some c61_0 := by kernel_rfl
theorem w2c : q0p Cx 61 = some [.cell 4 26] := by kernel_rfl
theorem w2d : Cx.pure 61 = false := by kernel_rfl
abbrev o62_1 := rg [oA 1 (.box 24 (tm 0)) 0, ji 2 0 3]
abbrev o62_3 := rg [jf 3 24 1 0, jl 4 3 3, jf 5 24 1 0, jl 6 3 5, jb 7 .mul 3 4 6 3 3, jf 8 24 1 1, jl 9 3 8, jf 10 24 1 1, jl 11 3 10, jb 12 .mul 3 9 11 3 3, jb 13 .add 3 7 12 3 3, js 2 13 3]
def c62_0 : AC := .seq o62_1 (.seq o62_3 .ret)
def r62_0 := qS 62 c62_0 rfl
theorem w2e : q0h Cx 62 = some c62_0 := by kernel_rfl
theorem w9d : q0p Cx 62 = some [.tmp 2] := by kernel_rfl
theorem y1e : Cx.pure 62 = true := by kernel_rfl
abbrev o63_1 := rg [oA 1 (.box 26 (tm 0)) 0, oA 2 (.assign (kS #[])) 9]
abbrev o63_4 := rg [jf 5 26 1 0, jl 6 3 5]
abbrev o63_7 := rg [jB 8 .eql 3 (tm 6) (ci 0) 3 4, js 7 8 4]
abbrev o63_10 := rg [jf 9 26 1 1, jl 10 3 9, jx 11 87 #[tm 10] #[3] 9, js 2 11 9]
abbrev o63_13 := rg [jB 13 .eql 3 (tm 6) (ci 2) 3 4, js 12 13 4]
abbrev o63_16 := rg [jf 14 26 1 3, jf 15 24 14 0, jl 16 3 15, jx 17 87 #[tm 16] #[3] 9, jB 18 .add 9 (tm 17) (kS #[58]) 9 9, jf 19 26 1 3, jf 20 24 19 1, jl 21 3 20, jx 22 87 #[tm 21] #[3] 9, jb 23 .add 9 18 22 9 9, js 2 23 9]
abbrev o63_20 := rg [oA 3 (.assign (kS #[34])) 9]
abbrev o63_23 := rg [ji 4 0 3]
abbrev o63_28 := rg [jm 24 4 3, jf 25 26 1 2, jl 26 9 25, oA 27 (cB .len #[tm 26] #[9]) 3, jb 28 .lss 3 24 27 3 4]
abbrev o63_35 := rg [jf 31 26 1 2, jl 32 9 31, jm 33 4 3, oA 34 (.index 9 (tm 32) (tm 33)) 5, jx 35 88 #[tm 34] #[5] 4]
abbrev o63_37 := rg [jm 36 3 9, jf 37 26 1 2, jl 38 9 37, jm 39 4 3, jm 40 4 3, jB 41 .add 3 (tm 40) (ci 1) 3 3, oA 42 (.slice 9 (tm 38) (some (tm 39)) (some (tm 41)) none) 9, jb 43 .add 9 36 42 9 9, js 3 43 9]
abbrev o63_38 := rg [jm 44 3 9, jB 45 .add 9 (tm 44) (kS #[92]) 9 9, jf 46 26 1 2, jl 47 9 46, jm 48 4 3, oA 49 (.index 9 (tm 47) (tm 48)) 5, oA 50 (.convert 5 3 (tm 49)) 3, jB 51 .quo 3 (tm 50) (ci 16) 3 3, jx 52 89 #[tm 51] #[3] 9, jb 53 .add 9 45 52 9 9, jf 54 26 1 2, jl 55 9 54, jm 56 4 3, oA 57 (.index 9 (tm 55) (tm 56)) 5, oA 58 (.convert 5 3 (tm 57)) 3, jB 59 .rem 3 (tm 58) (ci 16) 3 3, jx 60 89 #[tm 59] #[3] 9, jb 61 .add 9 53 60 9 9, js 3 61 9]
abbrev o63_39 := rg [jm 29 4 3, jB 30 .add 3 (tm 29) (ci 1) 3 3, js 4 30 3]
def c63_26 : AC := .seq (.seq o63_28 (.cond (tm 28) .skip (.exit 1))) (.seq (.block 2 (.seq o63_35 (.cond (tm 35) o63_37 o63_38))) o63_39)
abbrev o63_41 := rg [jm 62 3 9, jB 63 .add 9 (tm 62) (kS #[34]) 9 9, js 2 63 9]
def c63_40 : AC := .seq o63_41 .ret
def c63_2 : AC := .seq (.seq o63_4 (.block 0 (.seq o63_7 (.cond (tm 7) (.seq o63_10 .ret) (.seq o63_13 (.cond (tm 12) (.seq o63_16 .ret) .skip)))))) (.seq o63_20 (.seq (.seq o63_23 (.block 1 (.loop c63_26))) c63_40))
def c63_0 : AC := .seq o63_1 c63_2
def r63_0 := qa4 (qS 63 c63_0 rfl) (qS 63 c63_2 rfl) (qS 63 c63_26 rfl) (qS 63 c63_40 rfl)
theorem w2f : q0h Cx 63 = some c63_0 := by kernel_rfl
theorem y4k : q0p Cx 63 = some [.tmp 2] := by kernel_rfl
theorem w2g : Cx.pure 63 = true := by kernel_rfl
abbrev o64_1 := rg [ja 6 26]
abbrev o64_3 := rg [oA 13 (.buildSlice 62 1 #[(0, (ci 1))]) 62, js 7 13 62]
abbrev o64_6 := rg [jm 14 1 9]
abbrev o64_9 := rg [jB 17 .eql 9 (tm 14) (kS #[99, 97, 116]) 9 4, js 16 17 4]
abbrev o64_11 := rg [oA 18 (.buildSlice 62 2 #[(0, (ci 1)), (1, (ci 1))]) 62, js 7 18 62]
abbrev o64_13 := rg [jB 20 .eql 9 (tm 14) (kS #[119, 111, 114, 100]) 9 4, js 19 20 4]
abbrev o64_15 := rg [oA 21 (.buildSlice 62 2 #[(0, (ci 1)), (1, (ci 0))]) 62, js 7 21 62]
abbrev o64_17 := rg [jB 23 .eql 9 (tm 14) (kS #[99, 117, 116]) 9 4, js 22 23 4]
abbrev o64_19 := rg [oA 24 (.buildSlice 62 3 #[(0, (ci 1)), (1, (ci 0)), (2, (ci 0))]) 62, js 7 24 62]
abbrev o64_22 := rg [jB 26 .eql 9 (tm 14) (kS #[108, 101, 110]) 9 4, js 25 26 4]
abbrev o64_26 := rg [jB 27 .eql 9 (tm 14) (kS #[119, 111, 114, 100, 115]) 9 4, js 25 27 4]
abbrev o64_29 := rg [jB 28 .eql 9 (tm 14) (kS #[110, 117, 109]) 9 4, js 25 28 4]
abbrev o64_33 := rg [oA 15 (.build 26 #[]) 26, jt 26 6 15]
def c64_18 : AC := .cond (tm 22) o64_19 (.seq (.seq o64_22 (.cond (tm 25) .skip (.seq o64_26 (.cond (tm 25) .skip o64_29)))) (.cond (tm 25) .skip (.seq o64_33 .ret)))
abbrev o64_37 := rg [jm 29 0 64, jm 30 2 79, jm 31 7 62, jx 32 57 #[tm 29, tm 30, tm 31] #[64, 79, 62] 4, oA 33 (.unOp .not 4 (tm 32)) 4]
abbrev o64_40 := rg [oA 34 (.build 26 #[]) 26, jt 26 6 34]
abbrev o64_44 := rg [jm 35 2 79, oA 36 (.indexAddr 79 (tm 35) (ci 0)) 0, jf 37 26 36 2, jl 38 9 37, js 8 38 9]
abbrev o64_47 := rg [jm 39 1 9]
abbrev o64_50 := rg [jB 41 .eql 9 (tm 39) (kS #[99, 97, 116]) 9 4, js 40 41 4]
abbrev o64_54 := rg [jm 42 8 9, oA 43 (cB .len #[tm 42] #[9]) 3, jm 44 2 79, oA 45 (.indexAddr 79 (tm 44) (ci 1)) 0, jf 46 26 45 2, jl 47 9 46, oA 48 (cB .len #[tm 47] #[9]) 3, jb 49 .add 3 43 48 3 3, jB 50 .gtr 3 (tm 49) (ci 4096) 3 4]
abbrev o64_57 := rg [jm 51 0 64, jx 52 35 #[tm 51, ci 3] #[64, 3] 26, jt 26 6 52]
abbrev o64_61 := rg [jm 53 8 9, jm 54 2 79, oA 55 (.indexAddr 79 (tm 54) (ci 1)) 0, jf 56 26 55 2, jl 57 9 56, jb 58 .add 9 53 57 9 9, jx 59 36 #[tm 58] #[9] 26, jt 26 6 59]
abbrev o64_64 := rg [jB 61 .eql 9 (tm 39) (kS #[108, 101, 110]) 9 4, js 60 61 4]
abbrev o64_67 := rg [jm 62 8 9, oA 63 (cB .len #[tm 62] #[9]) 3, jx 64 37 #[tm 63] #[3] 26, jt 26 6 64]
abbrev o64_70 := rg [jB 66 .eql 9 (tm 39) (kS #[119, 111, 114, 100, 115]) 9 4, js 65 66 4]
abbrev o64_73 := rg [jm 67 8 9, jx 68 90 #[tm 67] #[9] 92, oA 69 (cB .len #[tm 68] #[92]) 3, jx 70 37 #[tm 69] #[3] 26, jt 26 6 70]
abbrev o64_76 := rg [jB 72 .eql 9 (tm 39) (kS #[119, 111, 114, 100]) 9 4, js 71 72 4]
abbrev o64_79 := rg [jm 73 8 9, jx 74 90 #[tm 73] #[9] 92, js 9 74 92]
abbrev o64_82 := rg [jm 75 2 79, oA 76 (.indexAddr 79 (tm 75) (ci 1)) 0, jf 77 26 76 1, jl 78 3 77, jB 79 .lss 3 (tm 78) (ci 0) 3 4, jm 80 79 4, km 81 2 79 80 false, oG 82 (.indexAddr 79 (tm 81) (ci 1)) 0 80 false, kf 83 26 82 1 80 false, kl 84 3 83 80 false, km 85 9 92 80 false, oG 86 (cB .len #[tm 85] #[92]) 3 80 false, kq 87 .geq 3 84 86 3 4 80 false, jp 88 80 kT (tm 87)]
abbrev o64_85 := rg [jm 89 0 64, jx 90 35 #[tm 89, ci 14] #[64, 3] 26, jt 26 6 90]
abbrev o64_89 := rg [jm 91 9 92, jm 92 2 79, oA 93 (.indexAddr 79 (tm 92) (ci 1)) 0, jf 94 26 93 1, jl 95 3 94, oA 96 (.indexAddr 92 (tm 91) (tm 95)) 0, jl 97 9 96, jx 98 36 #[tm 97] #[9] 26, jt 26 6 98]
abbrev o64_92 := rg [jB 100 .eql 9 (tm 39) (kS #[99, 117, 116]) 9 4, js 99 100 4]
abbrev o64_96 := rg [jm 101 2 79, oA 102 (.indexAddr 79 (tm 101) (ci 1)) 0, jf 103 26 102 1, jl 104 3 103, jB 105 .lss 3 (tm 104) (ci 0) 3 4, jm 106 105 4, km 107 2 79 106 false, oG 108 (.indexAddr 79 (tm 107) (ci 2)) 0 106 false, kf 109 26 108 1 106 false, kl 110 3 109 106 false, km 111 2 79 106 false, oG 112 (.indexAddr 79 (tm 111) (ci 1)) 0 106 false, kf 113 26 112 1 106 false, kl 114 3 113 106 false, kq 115 .lss 3 110 114 3 4 106 false, jp 116 106 kT (tm 115), jm 117 116 4, km 118 8 9 117 false, oG 119 (cB .len #[tm 118] #[9]) 3 117 false, km 120 2 79 117 false, oG 121 (.indexAddr 79 (tm 120) (ci 2)) 0 117 false, kf 122 26 121 1 117 false, kl 123 3 122 117 false, kq 124 .lss 3 119 123 3 4 117 false, jp 125 117 kT (tm 124)]
abbrev o64_99 := rg [jm 126 0 64, jx 127 35 #[tm 126, ci 14] #[64, 3] 26, jt 26 6 127]
abbrev o64_103 := rg [jm 128 8 9, jm 129 2 79, oA 130 (.indexAddr 79 (tm 129) (ci 1)) 0, jf 131 26 130 1, jl 132 3 131, jm 133 2 79, oA 134 (.indexAddr 79 (tm 133) (ci 2)) 0, jf 135 26 134 1, jl 136 3 135, oA 137 (.slice 9 (tm 128) (some (tm 132)) (some (tm 136)) none) 9, jx 138 36 #[tm 137] #[9] 26, jt 26 6 138]
def c64_77 : AC := .cond (tm 71) (.seq o64_79 (.seq (.seq o64_82 (.cond (tm 88) (.seq o64_85 .ret) .skip)) (.seq o64_89 .ret))) (.seq o64_92 (.cond (tm 99) (.seq (.seq o64_96 (.cond (tm 125) (.seq o64_99 .ret) .skip)) (.seq o64_103 .ret)) .skip))
def c64_51 : AC := .cond (tm 40) (.seq (.seq o64_54 (.cond (tm 50) (.seq o64_57 .ret) .skip)) (.seq o64_61 .ret)) (.seq o64_64 (.cond (tm 60) (.seq o64_67 .ret) (.seq o64_70 (.cond (tm 65) (.seq o64_73 .ret) (.seq o64_76 c64_77)))))
abbrev o64_107 := rg [jm 140 8 9, jx 141 91 #[tm 140] #[9] 125, jm 139 141 125, je 142 139 0 26, je 143 139 1 3, je 144 139 2 3, ja 10 26, jt 26 10 142, js 11 143 3, js 12 144 3]
abbrev o64_110 := rg [jm 145 12 3, jB 146 .neq 3 (tm 145) (ci 0) 3 4, jm 147 146 4, km 148 11 3 147 false, km 149 8 9 147 false, oG 150 (cB .len #[tm 149] #[9]) 3 147 false, kq 151 .lss 3 148 150 3 4 147 false, jp 152 147 kT (tm 151), jm 153 152 4, kf 154 26 10 0 153 false, kl 155 3 154 153 false, kB 156 .neq 3 (tm 155) (ci 0) 3 4 153 false, jp 157 153 kT (tm 156)]
abbrev o64_113 := rg [jm 158 0 64, jx 159 35 #[tm 158, ci 6] #[64, 3] 26, jt 26 6 159]
abbrev o64_117 := rg [jl 160 26 10, jt 26 6 160]
def c64_45 : AC := .seq (.seq o64_47 (.block 1 (.seq o64_50 c64_51))) (.seq o64_107 (.seq (.seq o64_110 (.cond (tm 157) (.seq o64_113 .ret) .skip)) (.seq o64_117 .ret)))
def c64_4 : AC := .seq (.seq o64_6 (.block 0 (.seq o64_9 (.cond (tm 16) o64_11 (.seq o64_13 (.cond (tm 19) o64_15 (.seq o64_17 c64_18))))))) (.seq (.seq o64_37 (.cond (tm 33) (.seq o64_40 .ret) .skip)) (.seq o64_44 c64_45))
def c64_0 : AC := .seq o64_1 (.seq o64_3 c64_4)
def r64_0 := qa6 (qS 64 c64_0 rfl) (qS 64 c64_4 rfl) (qC 64 c64_18 rfl) (qS 64 c64_45 rfl) (qC 64 c64_51 rfl) (qC 64 c64_77 rfl)
theorem z6g : q0h Cx 64 = some c64_0 := by kernel_rfl
theorem q5p : q0p Cx 64 = some [.cell 6 26] := by kernel_rfl
theorem z6h : Cx.pure 64 = false := by kernel_rfl
abbrev o65_1 := rg [ja 2 26, ji 3 0 3, ji 4 0 34]
abbrev o65_4 := rg [oA 5 (.assign (.const (.slice none 0 0))) 127]
abbrev o65_6 := rg [ji 6 1 3]
def c65_8 : AC := .label 0
abbrev o65_12 := rg [jm 10 6 3, jm 11 0 9, oA 12 (cB .len #[tm 11] #[9]) 3, jb 13 .geq 3 10 12 3 4, js 9 13 4]
abbrev o65_15 := rg [oA 14 (.build 26 #[]) 26, jt 26 2 14, ji 3 0 3, ji 4 2 34]
abbrev o65_18 := rg [jm 16 0 9, jm 17 6 3, oA 18 (.index 9 (tm 16) (tm 17)) 5, jB 19 .eql 5 (tm 18) (kU 34) 5 4, js 15 19 4]
abbrev o65_22 := rg [jm 20 5 127, oA 21 (cB .len #[tm 20] #[127]) 3, jB 22 .gtr 3 (tm 21) (ci 4096) 3 4]
abbrev o65_25 := rg [oA 23 (.build 26 #[]) 26, jt 26 2 23, ji 3 0 3, ji 4 3 34]
abbrev o65_29 := rg [jm 24 5 127, oA 25 (.convert 127 9 (tm 24)) 9, oA 26 (.build 26 #[(0, (ci 1)), (2, (tm 25))]) 26, jm 27 6 3, jB 28 .add 3 (tm 27) (ci 1) 3 3, jt 26 2 26, js 3 28 3, ji 4 0 34]
abbrev o65_32 := rg [jm 30 0 9, jm 31 6 3, oA 32 (.index 9 (tm 30) (tm 31)) 5, jB 33 .eql 5 (tm 32) (kU 92) 5 4, js 29 33 4]
abbrev o65_35 := rg [jm 35 0 9, jm 36 6 3, jB 37 .add 3 (tm 36) (ci 1) 3 3, jx 38 92 #[tm 35, tm 37] #[9, 3] 128, jm 34 38 128, je 39 34 0 5, je 40 34 1 34, js 7 39 5, js 8 40 34]
abbrev o65_38 := rg [jm 41 8 34, jB 42 .neq 34 (tm 41) (ci 0) 34 4]
abbrev o65_41 := rg [oA 43 (.build 26 #[]) 26, jm 44 8 34, jt 26 2 43, ji 3 0 3, js 4 44 34]
abbrev o65_45 := rg [jm 45 5 127, jm 46 7 5, oA 47 (.buildSlice 127 1 #[(0, (tm 46))]) 127, oA 48 (cB .append #[tm 45, tm 47] #[127, 127]) 127, js 5 48 127]
abbrev o65_47 := rg [jm 49 6 3, jB 50 .add 3 (tm 49) (ci 3) 3 3, js 6 50 3]
def c65_48 : AC := .goto 0
abbrev o65_50 := rg [jm 52 0 9, jm 53 6 3, oA 54 (.index 9 (tm 52) (tm 53)) 5, jx 55 93 #[tm 54] #[5] 4, oA 56 (.unOp .not 4 (tm 55)) 4, js 51 56 4]
abbrev o65_53 := rg [oA 57 (.build 26 #[]) 26, jt 26 2 57, ji 3 0 3, ji 4 6 34]
def c65_33 : AC := .cond (tm 29) (.seq o65_35 (.seq (.seq o65_38 (.cond (tm 42) (.seq o65_41 .ret) .skip)) (.seq o65_45 (.seq o65_47 c65_48)))) (.seq o65_50 (.cond (tm 51) (.seq o65_53 .ret) .skip))
def c65_17 : AC := .seq o65_18 (.cond (tm 15) (.seq (.seq o65_22 (.cond (tm 22) (.seq o65_25 .ret) .skip)) (.seq o65_29 .ret)) (.seq o65_32 c65_33))
abbrev o65_57 := rg [jm 58 5 127, jm 59 0 9, jm 60 6 3, oA 61 (.index 9 (tm 59) (tm 60)) 5, oA 62 (.buildSlice 127 1 #[(0, (tm 61))]) 127, oA 63 (cB .append #[tm 58, tm 62] #[127, 127]) 127, js 5 63 127]
abbrev o65_59 := rg [jm 64 6 3, jB 65 .add 3 (tm 64) (ci 1) 3 3, js 6 65 3]
def c65_60 : AC := .goto 0
def c65_56 : AC := .seq o65_57 (.seq o65_59 c65_60)
def c65_9 : AC := .seq (.block 0 (.seq o65_12 (.cond (tm 9) (.seq o65_15 .ret) c65_17))) c65_56
def c65_3 : AC := .seq o65_4 (.seq o65_6 (.seq c65_8 c65_9))
def c65_2 : AC := .scope c65_3
def c65_0 : AC := .seq o65_1 c65_2
def r65_0 := qa8 (qS 65 c65_0 rfl) (qP 65 c65_2 rfl) (qS 65 c65_3 rfl) (qN 65 c65_8 rfl) (qS 65 c65_9 rfl) (qS 65 c65_17 rfl) (qC 65 c65_33 rfl) (qS 65 c65_56 rfl)
theorem w2h : q0h Cx 65 = some c65_0 := by kernel_rfl
theorem x0j : q0p Cx 65 = some [.cell 2 26, .tmp 3, .tmp 4] := by kernel_rfl
theorem y1f : Cx.pure 65 = true := by kernel_rfl
abbrev o66_1 := rg [oA 2 (.assign kF) 4]
abbrev o66_3 := rg [jm 3 0 5, jB 4 .geq 5 (tm 3) (kU 48) 5 4, jm 5 4 4, km 6 0 5 5 true, kB 7 .leq 5 (tm 6) (kU 57) 5 4 5 true, jp 8 5 (tm 7) kF, js 2 8 4]
def c66_0 : AC := .seq o66_1 (.seq o66_3 .ret)
def r66_0 := qS 66 c66_0 rfl
theorem w2i : q0h Cx 66 = some c66_0 := by kernel_rfl
theorem w9e : q0p Cx 66 = some [.tmp 2] := by kernel_rfl
theorem q7z : Cx.pure 66 = true := by kernel_rfl
abbrev o67_1 := rg [ja 2 26, ji 3 0 3, ji 4 0 34]
abbrev o67_3 := rg [jm 13 0 9, jx 14 94 #[tm 13, ci 0] #[9, 3] 130, jm 12 14 130, je 15 12 0 3, je 16 12 1 3, je 17 12 2 34, js 5 15 3, js 6 16 3, js 7 17 34]
abbrev o67_6 := rg [jm 18 7 34, jB 19 .neq 34 (tm 18) (ci 0) 34 4]
abbrev o67_9 := rg [oA 20 (.build 26 #[]) 26, jm 21 7 34, jt 26 2 20, ji 3 0 3, js 4 21 34]
abbrev o67_13 := rg [jm 22 5 3, oA 23 (.build 26 #[(1, (tm 22))]) 26, ja 8 26, jt 26 8 23]
abbrev o67_16 := rg [jm 24 6 3, jm 25 0 9, oA 26 (cB .len #[tm 25] #[9]) 3, jb 27 .lss 3 24 26 3 4, jm 28 27 4, km 29 0 9 28 true, km 30 6 3 28 true, oG 31 (.index 9 (tm 29) (tm 30)) 5 28 true, kB 32 .eql 5 (tm 31) (kU 58) 5 4 28 true, jp 33 28 (tm 32) kF]
abbrev o67_19 := rg [jm 35 0 9, jm 36 6 3, jB 37 .add 3 (tm 36) (ci 1) 3 3, jx 38 94 #[tm 35, tm 37] #[9, 3] 130, jm 34 38 130, je 39 34 0 3, je 40 34 1 3, je 41 34 2 34, js 9 39 3, js 10 40 3, js 11 41 34]
abbrev o67_22 := rg [jm 42 11 34, jB 43 .neq 34 (tm 42) (ci 0) 34 4]
abbrev o67_25 := rg [oA 44 (.build 26 #[]) 26, jm 45 11 34, jt 26 2 44, ji 3 0 3, js 4 45 34]
abbrev o67_28 := rg [jm 46 5 3, jm 47 9 3, oA 48 (.build 24 #[(0, (tm 46)), (1, (tm 47))]) 24, oA 49 (.build 26 #[(0, (ci 2)), (3, (tm 48))]) 26, jm 50 10 3, jt 26 8 49, js 6 50 3]
abbrev o67_32 := rg [jl 51 26 8, jx 52 14 #[tm 51] #[26] 4, oA 53 (.unOp .not 4 (tm 52)) 4]
abbrev o67_35 := rg [oA 54 (.build 26 #[]) 26, jt 26 2 54, ji 3 0 3, ji 4 14 34]
abbrev o67_39 := rg [jl 55 26 8, jm 56 6 3, jt 26 2 55, js 3 56 3, ji 4 0 34]
def c67_14 : AC := .seq (.seq o67_16 (.cond (tm 33) (.seq o67_19 (.seq (.seq o67_22 (.cond (tm 43) (.seq o67_25 .ret) .skip)) o67_28)) .skip)) (.seq (.seq o67_32 (.cond (tm 53) (.seq o67_35 .ret) .skip)) (.seq o67_39 .ret))
def c67_0 : AC := .seq o67_1 (.seq o67_3 (.seq (.seq o67_6 (.cond (tm 19) (.seq o67_9 .ret) .skip)) (.seq o67_13 c67_14)))
def r67_0 := qa2 (qS 67 c67_0 rfl) (qS 67 c67_14 rfl)
theorem w2j : q0h Cx 67 = some c67_0 := by kernel_rfl
theorem j3p : q0p Cx 67 = some [.cell 2 26, .tmp 3, .tmp 4] := by kernel_rfl
theorem y1g : Cx.pure 67 = true := by kernel_rfl
abbrev o68_0 := rg [jl 2 54 1, jl 3 3 0, jn 4 2, jf 5 58 4 3, jt 3 5 3]
def c68_0 : AC := o68_0
def r68_0 := qR 68 c68_0 rfl
theorem w2k : q0h Cx 68 = some c68_0 := by kernel_rfl
theorem w9f : q0p Cx 68 = some [] := by kernel_rfl
abbrev o69_1 := rg [oA 6 (.box 24 (tm 2)) 0, oA 7 (.box 24 (tm 3)) 0, ja 8 26]
abbrev o69_4 := rg [jm 12 1 9]
abbrev o69_7 := rg [jB 14 .eql 9 (tm 12) (kS #[97, 100, 100]) 9 4, js 13 14 4]
abbrev o69_10 := rg [jm 15 0 54, jl 16 24 6, jl 17 24 7, jx 18 95 #[tm 16, tm 17] #[24, 24] 117, je 19 18 0 24, je 20 18 1 34, jx 21 78 #[tm 15, tm 19, tm 20] #[54, 24, 34] 26, jt 26 8 21]
abbrev o69_13 := rg [jB 23 .eql 9 (tm 12) (kS #[115, 117, 98]) 9 4, js 22 23 4]
abbrev o69_16 := rg [jm 24 0 54, jl 25 24 6, jl 26 24 7, jx 27 96 #[tm 25, tm 26] #[24, 24] 117, je 28 27 0 24, je 29 27 1 34, jx 30 78 #[tm 24, tm 28, tm 29] #[54, 24, 34] 26, jt 26 8 30]
abbrev o69_19 := rg [jB 32 .eql 9 (tm 12) (kS #[109, 117, 108]) 9 4, js 31 32 4]
abbrev o69_22 := rg [jm 33 0 54, jl 34 24 6, jl 35 24 7, jx 36 97 #[tm 34, tm 35] #[24, 24] 117, je 37 36 0 24, je 38 36 1 34, jx 39 78 #[tm 33, tm 37, tm 38] #[54, 24, 34] 26, jt 26 8 39]
def c69_8 : AC := .cond (tm 13) (.seq o69_10 .ret) (.seq o69_13 (.cond (tm 22) (.seq o69_16 .ret) (.seq o69_19 (.cond (tm 31) (.seq o69_22 .ret) .skip))))
abbrev o69_26 := rg [jl 41 24 6, jl 42 24 7, jx 43 98 #[tm 41, tm 42] #[24, 24] 133, jm 40 43 133, je 44 40 0 24, je 45 40 1 24, je 46 40 2 34, ja 9 24, ja 10 24, jt 24 9 44, jt 24 10 45, js 11 46 34]
abbrev o69_29 := rg [jm 47 1 9, jB 48 .eql 9 (tm 47) (kS #[109, 111, 100]) 9 4]
abbrev o69_32 := rg [jm 49 0 54, jl 50 24 10, jm 51 11 34, jx 52 78 #[tm 49, tm 50, tm 51] #[54, 24, 34] 26, jt 26 8 52]
abbrev o69_36 := rg [jm 53 0 54, jl 54 24 9, jm 55 11 34, jx 56 78 #[tm 53, tm 54, tm 55] #[54, 24, 34] 26, jt 26 8 56]
def c69_2 : AC := .seq (.seq o69_4 (.block 0 (.seq o69_7 c69_8))) (.seq o69_26 (.seq (.seq o69_29 (.cond (tm 48) (.seq o69_32 .ret) .skip)) (.seq o69_36 .ret)))
def c69_0 : AC := .seq o69_1 c69_2
def r69_0 := qa3 (qS 69 c69_0 rfl) (qS 69 c69_2 rfl) (qC 69 c69_8 rfl)
theorem w2l : q0h Cx 69 = some c69_0 := by kernel_rfl
theorem x3k : q0p Cx 69 = some [.cell 8 26] := by kernel_rfl
theorem w2m : Cx.pure 69 = false := by kernel_rfl
abbrev o70_1 := rg [oA 6 (.assign kF) 4]
abbrev o70_4 := rg [jm 9 2 79, oA 10 (cB .len #[tm 9] #[79]) 3, oA 11 (.move (ci 0)) 3]
abbrev o70_8 := rg [jb 12 .lss 3 11 10 3 0]
abbrev o70_16 := rg [jm 13 11 3, oA 14 (.indexAddr 79 (tm 9) (tm 11)) 0, jl 15 26 14, ja 8 26, js 7 13 3, jt 26 8 15]
abbrev o70_18 := rg [jf 16 26 8 0, jl 17 3 16, oA 18 (.index 9 (kS #[110, 115, 112]) (tm 17)) 5, jm 19 1 9, jm 20 7 3, oA 21 (.index 9 (tm 19) (tm 20)) 5, jb 22 .neq 5 18 21 5 4]
abbrev o70_21 := rg [jm 23 0 54, jx 24 27 #[tm 23, ci 13] #[54, 34] 26]
abbrev o70_23 := rg [oA 6 (.assign kF) 4]
abbrev o70_26 := rg [jB 25 .add 3 (tm 11) (ci 1) 3 3, jm 11 25 3]
def c70_9 : AC := .seq (.cond (tm 12) .skip (.exit 0)) (.seq (.block 1 (.seq o70_16 (.seq o70_18 (.cond (tm 22) (.seq o70_21 (.seq o70_23 .ret)) .skip)))) o70_26)
def c70_7 : AC := .seq o70_8 c70_9
abbrev o70_28 := rg [oA 6 (.assign kT) 4]
def c70_27 : AC := .seq o70_28 .ret
def c70_0 : AC := .seq o70_1 (.seq (.seq o70_4 (.block 0 (.loop c70_7))) c70_27)
def r70_0 := qa4 (qS 70 c70_0 rfl) (qS 70 c70_7 rfl) (qS 70 c70_9 rfl) (qS 70 c70_27 rfl)
theorem w2n : q0h Cx 70 = some c70_0 := by kernel_rfl
theorem w2o : q0p Cx 70 = some [.tmp 6] := by kernel_rfl
theorem w2p : Cx.pure 70 = false := by kernel_rfl
abbrev o71_1 := rg [oA 3 (.box 26 (tm 1)) 0, ja 4 26]
abbrev o71_4 := rg [jl 5 26 3, jx 6 14 #[tm 5] #[26] 4, oA 7 (.unOp .not 4 (tm 6)) 4]
abbrev o71_7 := rg [jm 8 0 54, jx 9 27 #[tm 8, ci 14] #[54, 34] 26, jt 26 4 9]
abbrev o71_11 := rg [jl 10 26 3, jt 26 4 10]
def c71_0 : AC := .seq o71_1 (.seq (.seq o71_4 (.cond (tm 7) (.seq o71_7 .ret) .skip)) (.seq o71_11 .ret))
def r71_0 := qS 71 c71_0 rfl
theorem w2q : q0h Cx 71 = some c71_0 := by kernel_rfl
theorem w2r : q0p Cx 71 = some [.cell 4 26] := by kernel_rfl
theorem w2s : Cx.pure 71 = false := by kernel_rfl
abbrev o72_1 := rg [oA 4 (.assign kF) 4]
abbrev o72_3 := rg [jm 5 0 3, jB 6 .neq 3 (tm 5) (ci 0) 3 4, jm 7 6 4, km 8 1 3 7 true, km 9 1 3 7 true, oG 10 (.unOp .neg 3 (tm 9)) 3 7 true, oG 11 (cB .max #[tm 8, tm 10] #[3, 3]) 3 7 true, km 12 0 3 7 true, km 13 0 3 7 true, oG 14 (.unOp .neg 3 (tm 13)) 3 7 true, oG 15 (cB .max #[tm 12, tm 14] #[3, 3]) 3 7 true, kB 16 .quo 3 (ci 9007199254740992) (tm 15) 3 3 7 true, kq 17 .gtr 3 11 16 3 4 7 true, jp 18 7 (tm 17) kF, js 4 18 4]
def c72_0 : AC := .seq o72_1 (.seq o72_3 .ret)
def r72_0 := qS 72 c72_0 rfl
theorem w2t : q0h Cx 72 = some c72_0 := by kernel_rfl
theorem w2u : q0p Cx 72 = some [.tmp 4] := by kernel_rfl
theorem y1h : Cx.pure 72 = true := by kernel_rfl
abbrev o73_1 := rg [ji 4 0 3, ji 5 0 3]
abbrev o73_3 := rg [jm 8 0 3, jm 9 1 3, jb 10 .quo 3 8 9 3 3, jm 11 0 3, jm 12 1 3, jb 13 .rem 3 11 12 3 3, js 6 10 3, js 7 13 3]
abbrev o73_6 := rg [jm 14 7 3, jB 15 .neq 3 (tm 14) (ci 0) 3 4, jm 16 15 4, km 17 7 3 16 true, kB 18 .lss 3 (tm 17) (ci 0) 3 4 16 true, km 19 1 3 16 true, kB 20 .lss 3 (tm 19) (ci 0) 3 4 16 true, kq 21 .neq 4 18 20 4 4 16 true, jp 22 16 (tm 21) kF]
abbrev o73_8 := rg [jm 23 6 3, jB 24 .sub 3 (tm 23) (ci 1) 3 3, jm 25 7 3, jm 26 1 3, jb 27 .add 3 25 26 3 3, js 6 24 3, js 7 27 3]
abbrev o73_11 := rg [jm 28 6 3, jm 29 7 3, js 4 28 3, js 5 29 3]
def c73_0 : AC := .seq o73_1 (.seq o73_3 (.seq (.seq o73_6 (.cond (tm 22) o73_8 .skip)) (.seq o73_11 .ret)))
def r73_0 := qS 73 c73_0 rfl
theorem w2v : q0h Cx 73 = some c73_0 := by kernel_rfl
theorem y4l : q0p Cx 73 = some [.tmp 4, .tmp 5] := by kernel_rfl
theorem y1i : Cx.pure 73 = true := by kernel_rfl
abbrev o74_1 := rg [oA 2 (.box 26 (tm 0)) 0, oA 3 (.box 26 (tm 1)) 0, ji 4 0 3]
abbrev o74_3 := rg [jf 5 26 2 0, jl 6 3 5, jf 7 26 3 0, jl 8 3 7, jx 9 100 #[tm 6, tm 8] #[3, 3] 3, jf 10 26 2 1, jl 11 3 10, jf 12 26 3 1, jl 13 3 12, jx 14 100 #[tm 11, tm 13] #[3, 3] 3, jf 15 26 2 2, jl 16 9 15, jf 17 26 3 2, jl 18 9 17, jx 19 101 #[tm 16, tm 18] #[9, 9] 3, jf 20 26 2 3, jf 21 24 20 0, jl 22 3 21, jf 23 26 3 3, jf 24 24 23 0, jl 25 3 24, jx 26 100 #[tm 22, tm 25] #[3, 3] 3, jf 27 26 2 3, jf 28 24 27 1, jl 29 3 28, jf 30 26 3 3, jf 31 24 30 1, jl 32 3 31, jx 33 100 #[tm 29, tm 32] #[3, 3] 3, oA 34 (.buildSlice 62 5 #[(0, (tm 9)), (1, (tm 14)), (2, (tm 19)), (3, (tm 26)), (4, (tm 33))]) 62, jx 35 99 #[tm 34] #[62] 3, js 4 35 3]
def c74_0 : AC := .seq o74_1 (.seq o74_3 .ret)
def r74_0 := qS 74 c74_0 rfl
theorem w2w : q0h Cx 74 = some c74_0 := by kernel_rfl
theorem w9g : q0p Cx 74 = some [.tmp 4] := by kernel_rfl
theorem j3q : Cx.pure 74 = true := by kernel_rfl
abbrev o75_1 := rg [ja 2 26]
abbrev o75_4 := rg [jm 3 0 4]
abbrev o75_7 := rg [jx 4 49 #[ci 1] #[3] 26, jt 26 2 4]
abbrev o75_11 := rg [jx 5 49 #[ci 0] #[3] 26, jt 26 2 5]
def c75_0 : AC := .seq o75_1 (.seq (.seq o75_4 (.cond (tm 3) (.seq o75_7 .ret) .skip)) (.seq o75_11 .ret))
def r75_0 := qS 75 c75_0 rfl
theorem w2x : q0h Cx 75 = some c75_0 := by kernel_rfl
theorem w2y : q0p Cx 75 = some [.cell 2 26] := by kernel_rfl
theorem x3l : Cx.pure 75 = true := by kernel_rfl
abbrev o76_1 := rg [oA 2 (.assign (.const (.slice none 0 0))) 92]
abbrev o76_3 := rg [jm 3 0 9, jx 4 102 #[tm 3, (.func 103)] #[9, 139] 92, js 2 4 92]
def c76_0 : AC := .seq o76_1 (.seq o76_3 .ret)
def r76_0 := qS 76 c76_0 rfl
theorem w2z : q0h Cx 76 = some c76_0 := by kernel_rfl
theorem w9h : q0p Cx 76 = some [.tmp 2] := by kernel_rfl
theorem j7x : Cx.pure 76 = true := by kernel_rfl
abbrev o77_1 := rg [oA 1 (.box 24 (tm 0)) 0, ji 2 0 3, ji 3 0 34]
abbrev o77_4 := rg [jl 4 24 1, jx 5 26 #[tm 4] #[24] 4, oA 6 (.unOp .not 4 (tm 5)) 4]
abbrev o77_7 := rg [ji 2 0 3, ji 3 14 34]
abbrev o77_11 := rg [jl 7 24 1, jx 8 104 #[tm 7] #[24] 3, js 2 8 3, ji 3 0 34]
def c77_0 : AC := .seq o77_1 (.seq (.seq o77_4 (.cond (tm 6) (.seq o77_7 .ret) .skip)) (.seq o77_11 .ret))
def r77_0 := qS 77 c77_0 rfl
theorem w3a : q0h Cx 77 = some c77_0 := by kernel_rfl
theorem w3b : q0p Cx 77 = some [.tmp 2, .tmp 3] := by kernel_rfl
theorem w3c : Cx.pure 77 = true := by kernel_rfl
abbrev o78_1 := rg [oA 4 (.box 24 (tm 1)) 0, ja 6 26]
abbrev o78_4 := rg [jm 7 2 34, jB 8 .neq 34 (tm 7) (ci 0) 34 4]
abbrev o78_7 := rg [jm 9 0 54, jm 10 2 34, jx 11 27 #[tm 9, tm 10] #[54, 34] 26, jt 26 6 11]
abbrev o78_11 := rg [jl 12 24 4, jx 13 82 #[tm 12] #[24] 26, jt 26 6 13]
def c78_0 : AC := .seq o78_1 (.seq (.seq o78_4 (.cond (tm 8) (.seq o78_7 .ret) .skip)) (.seq o78_11 .ret))
def r78_0 := qS 78 c78_0 rfl
theorem w3d : q0h Cx 78 = some c78_0 := by kernel_rfl
theorem w3e : q0p Cx 78 = some [.cell 6 26] := by kernel_rfl
theorem w3f : Cx.pure 78 = false := by kernel_rfl
abbrev o79_1 := rg [oA 1 (.box 24 (tm 0)) 0, ja 2 24, ji 3 0 34]
abbrev o79_4 := rg [jl 4 24 1, jx 5 26 #[tm 4] #[24] 4, oA 6 (.unOp .not 4 (tm 5)) 4]
abbrev o79_7 := rg [oA 7 (.build 24 #[]) 24, jt 24 2 7, ji 3 14 34]
abbrev o79_11 := rg [jf 8 24 1 0, jl 9 3 8, jf 10 24 1 1, jl 11 3 10, oA 12 (.unOp .neg 3 (tm 11)) 3, oA 13 (.build 24 #[(0, (tm 9)), (1, (tm 12))]) 24, jt 24 2 13, ji 3 0 34]
def c79_0 : AC := .seq o79_1 (.seq (.seq o79_4 (.cond (tm 6) (.seq o79_7 .ret) .skip)) (.seq o79_11 .ret))
def r79_0 := qS 79 c79_0 rfl
theorem w3g : q0h Cx 79 = some c79_0 := by kernel_rfl
theorem w3h : q0p Cx 79 = some [.cell 2 24, .tmp 3] := by kernel_rfl
theorem w3i : Cx.pure 79 = true := by kernel_rfl
abbrev o80_1 := rg [oA 1 (.box 26 (tm 0)) 0, oA 2 (.assign (kS #[])) 9]
abbrev o80_4 := rg [jl 3 26 1, jx 4 14 #[tm 3] #[26] 4, oA 5 (.unOp .not 4 (tm 4)) 4]
abbrev o80_7 := rg [oA 2 (.assign (kS #[])) 9]
abbrev o80_12 := rg [jf 6 26 1 0, jl 7 3 6]
abbrev o80_15 := rg [jB 9 .eql 3 (tm 7) (ci 0) 3 4, js 8 9 4]
abbrev o80_18 := rg [jf 10 26 1 1, jl 11 3 10, jx 12 105 #[tm 11] #[3] 9, js 2 12 9]
abbrev o80_21 := rg [jB 14 .eql 3 (tm 7) (ci 1) 3 4, js 13 14 4]
abbrev o80_24 := rg [jf 15 26 1 2, jl 16 9 15, jx 17 106 #[tm 16] #[9] 9, js 2 17 9]
abbrev o80_28 := rg [jf 18 26 1 3, jf 19 24 18 0, jl 20 3 19, jx 21 105 #[tm 20] #[3] 9, jB 22 .add 9 (tm 21) (kS #[58]) 9 9, jf 23 26 1 3, jf 24 24 23 1, jl 25 3 24, jx 26 105 #[tm 25] #[3] 9, jb 27 .add 9 22 26 9 9, js 2 27 9]
def c80_10 : AC := .seq (.seq o80_12 (.block 0 (.seq o80_15 (.cond (tm 8) (.seq o80_18 .ret) (.seq o80_21 (.cond (tm 13) (.seq o80_24 .ret) .skip)))))) (.seq o80_28 .ret)
def c80_0 : AC := .seq o80_1 (.seq (.seq o80_4 (.cond (tm 5) (.seq o80_7 .ret) .skip)) c80_10)
def r80_0 := qa2 (qS 80 c80_0 rfl) (qS 80 c80_10 rfl)
theorem w3j : q0h Cx 80 = some c80_0 := by kernel_rfl
theorem y4m : q0p Cx 80 = some [.tmp 2] := by kernel_rfl
theorem w3k : Cx.pure 80 = true := by kernel_rfl
abbrev o81_1 := rg [ja 4 26]
abbrev o81_5 := rg [jm 6 1 79, oA 7 (.indexAddr 79 (tm 6) (ci 0)) 0, jf 8 26 7 0, jl 9 3 8, jB 10 .neq 3 (tm 9) (ci 1) 3 4, js 5 10 4]
abbrev o81_8 := rg [jm 11 0 54, jx 12 27 #[tm 11, ci 13] #[54, 34] 26, jt 26 4 12]
abbrev o81_11 := rg [jm 14 1 79, oA 15 (.indexAddr 79 (tm 14) (ci 0)) 0, jf 16 26 15 2, jl 17 9 16, oA 18 (cB .len #[tm 17] #[9]) 3, jB 19 .gtr 3 (tm 18) (ci 64) 3 4, js 13 19 4]
abbrev o81_14 := rg [jm 20 0 54, jx 21 27 #[tm 20, ci 3] #[54, 34] 26, jt 26 4 21]
abbrev o81_17 := rg [jm 23 0 54, jn 24 23, jf 25 58 24 5, jl 26 31 25, oA 27 (cB .len #[tm 26] #[31]) 3, jB 28 .eql 3 (tm 27) (ci 64) 3 4, js 22 28 4]
abbrev o81_20 := rg [jm 29 0 54, jx 30 27 #[tm 29, ci 22] #[54, 34] 26, jt 26 4 30]
def c81_6 : AC := .cond (tm 5) (.seq o81_8 .ret) (.seq o81_11 (.cond (tm 13) (.seq o81_14 .ret) (.seq o81_17 (.cond (tm 22) (.seq o81_20 .ret) .skip))))
abbrev o81_24 := rg [jm 31 0 54, jm 32 0 54, jn 33 32, jf 34 58 33 5, jl 35 31 34, jm 36 1 79, oA 37 (.indexAddr 79 (tm 36) (ci 0)) 0, jf 38 26 37 2, jl 39 9 38, jm 40 1 79, oA 41 (.indexAddr 79 (tm 40) (ci 1)) 0, jl 42 26 41, oA 43 (.build 49 #[(0, (tm 39)), (1, (tm 42))]) 49, oA 44 (.buildSlice 31 1 #[(0, (tm 43))]) 31, oA 45 (cB .append #[tm 35, tm 44] #[31, 31]) 31, jn 46 31, jf 47 58 46 5, jt 31 47 45]
abbrev o81_26 := rg [jm 48 1 79, oA 49 (.indexAddr 79 (tm 48) (ci 1)) 0, jl 50 26 49, jt 26 4 50]
def c81_0 : AC := .seq o81_1 (.seq (.block 0 (.seq o81_5 c81_6)) (.seq o81_24 (.seq o81_26 .ret)))
def r81_0 := qa2 (qS 81 c81_0 rfl) (qC 81 c81_6 rfl)
theorem w3l : q0h Cx 81 = some c81_0 := by kernel_rfl
theorem x8k : q0p Cx 81 = some [.cell 4 26] := by kernel_rfl
theorem w3m : Cx.pure 81 = false := by kernel_rfl
abbrev o82_1 := rg [oA 1 (.box 24 (tm 0)) 0, ja 2 26]
abbrev o82_3 := rg [jl 3 24 1, oA 4 (.build 26 #[(0, (ci 2)), (3, (tm 3))]) 26, jt 26 2 4]
def c82_0 : AC := .seq o82_1 (.seq o82_3 .ret)
def r82_0 := qS 82 c82_0 rfl
theorem w3n : q0h Cx 82 = some c82_0 := by kernel_rfl
theorem w9i : q0p Cx 82 = some [.cell 2 26] := by kernel_rfl
theorem x3m : Cx.pure 82 = true := by kernel_rfl
abbrev o83_1 := rg [oA 2 (.box 24 (tm 0)) 0, oA 3 (.box 24 (tm 1)) 0, ja 4 24]
abbrev o83_3 := rg [jf 5 24 2 0, jl 6 3 5, jf 7 24 3 0, jl 8 3 7, jb 9 .mul 3 6 8 3 3, jf 10 24 2 1, jl 11 3 10, jf 12 24 3 1, jl 13 3 12, jb 14 .mul 3 11 13 3 3, jb 15 .sub 3 9 14 3 3, jf 16 24 2 0, jl 17 3 16, jf 18 24 3 1, jl 19 3 18, jb 20 .mul 3 17 19 3 3, jf 21 24 2 1, jl 22 3 21, jf 23 24 3 0, jl 24 3 23, jb 25 .mul 3 22 24 3 3, jb 26 .add 3 20 25 3 3, oA 27 (.build 24 #[(0, (tm 15)), (1, (tm 26))]) 24, jt 24 4 27]
def c83_0 : AC := .seq o83_1 (.seq o83_3 .ret)
def r83_0 := qS 83 c83_0 rfl
theorem w3o : q0h Cx 83 = some c83_0 := by kernel_rfl
theorem w9j : q0p Cx 83 = some [.cell 4 24] := by kernel_rfl
theorem x3n : Cx.pure 83 = true := by kernel_rfl
abbrev o84_1 := rg [oA 2 (.box 24 (tm 0)) 0, oA 3 (.box 24 (tm 1)) 0, ja 4 24, ja 5 24]
abbrev o84_3 := rg [jl 10 24 2, jf 11 24 3 0, jl 12 3 11, jf 13 24 3 1, jl 14 3 13, oA 15 (.unOp .neg 3 (tm 14)) 3, oA 16 (.build 24 #[(0, (tm 12)), (1, (tm 15))]) 24, jx 17 83 #[tm 10, tm 16] #[24, 24] 24, ja 6 24, jt 24 6 17]
abbrev o84_5 := rg [jl 18 24 3, jx 19 62 #[tm 18] #[24] 3, js 7 19 3]
abbrev o84_7 := rg [jf 20 24 6 0, jl 21 3 20, jm 22 7 3, jx 23 107 #[tm 21, tm 22] #[3, 3] 3, jf 24 24 6 1, jl 25 3 24, jm 26 7 3, jx 27 107 #[tm 25, tm 26] #[3, 3] 3, oA 28 (.build 24 #[(0, (tm 23)), (1, (tm 27))]) 24, ja 8 24, jt 24 8 28]
abbrev o84_9 := rg [jl 29 24 8, jl 30 24 3, jx 31 83 #[tm 29, tm 30] #[24, 24] 24, ja 9 24, jt 24 9 31]
abbrev o84_11 : List AO := [jl 32 24 8, jf 33 24 2 0, jl 34 3 33, jf 35 24 9 0, jl 36 3 35, jb 37 .sub 3 34 36 3 3, jf 38 24 2 1, jl 39 3 38, jf 40 24 9 1, jl 41 3 40, jb 42 .sub 3 39 41 3 3, oA 43 (.build 24 #[(0, (tm 37)), (1, (tm 42))]) 24, jt 24 4 32, jt 24 5 43]
def c84_11 : AC := .region o84_11 [[], [], [], [], [], [], [], [], [], [], [], [], [33, 35, 38, 40], []]
def c84_0 : AC := .seq o84_1 (.seq o84_3 (.seq o84_5 (.seq o84_7 (.seq o84_9 (.seq c84_11 .ret)))))
def r84_0 := qa2 (qS 84 c84_0 rfl) (qD 84 c84_11 rfl)
theorem w3p : q0h Cx 84 = some c84_0 := by kernel_rfl
theorem w9k : q0p Cx 84 = some [.cell 4 24, .cell 5 24] := by kernel_rfl
theorem z8q : Cx.pure 84 = true := by kernel_rfl
abbrev o85_1 := rg [ji 2 0 3]
abbrev o85_3 := rg [jm 3 0 3, jm 4 0 3, oA 5 (.unOp .neg 3 (tm 4)) 3, oA 6 (cB .max #[tm 3, tm 5] #[3, 3]) 3, js 2 6 3]
def c85_0 : AC := .seq o85_1 (.seq o85_3 .ret)
def r85_0 := qS 85 c85_0 rfl
theorem w3q : q0h Cx 85 = some c85_0 := by kernel_rfl
theorem w9l : q0p Cx 85 = some [.tmp 2] := by kernel_rfl
theorem x3o : Cx.pure 85 = true := by kernel_rfl
abbrev o86_1 := rg [oA 2 (.box 26 (tm 0)) 0, oA 3 (.box 26 (tm 1)) 0, oA 4 (.assign kF) 4]
abbrev o86_4 := rg [jf 6 26 2 0, jl 7 3 6, jf 8 26 3 0, jl 9 3 8, jb 10 .neq 3 7 9 3 4]
abbrev o86_7 := rg [jf 11 26 2 0, jl 12 3 11, jf 13 26 3 0, jl 14 3 13, jb 15 .lss 3 12 14 3 4, js 4 15 4]
abbrev o86_12 := rg [jf 16 26 2 0, jl 17 3 16, jB 18 .eql 3 (tm 17) (ci 0) 3 4]
abbrev o86_15 := rg [jf 19 26 2 1, jl 20 3 19, jf 21 26 3 1, jl 22 3 21, jb 23 .lss 3 20 22 3 4, js 4 23 4]
abbrev o86_20 := rg [jf 24 26 2 0, jl 25 3 24, jB 26 .eql 3 (tm 25) (ci 1) 3 4]
abbrev o86_24 := rg [ji 5 0 3]
abbrev o86_29 := rg [jm 27 5 3, jf 28 26 2 2, jl 29 9 28, oA 30 (cB .len #[tm 29] #[9]) 3, jb 31 .lss 3 27 30 3 4, jm 32 31 4, km 33 5 3 32 true, kf 34 26 3 2 32 true, kl 35 9 34 32 true, oG 36 (cB .len #[tm 35] #[9]) 3 32 true, kq 37 .lss 3 33 36 3 4 32 true, jp 38 32 (tm 37) kF]
abbrev o86_36 := rg [jf 41 26 2 2, jl 42 9 41, jm 43 5 3, oA 44 (.index 9 (tm 42) (tm 43)) 5, jf 45 26 3 2, jl 46 9 45, jm 47 5 3, oA 48 (.index 9 (tm 46) (tm 47)) 5, jb 49 .neq 5 44 48 5 4]
abbrev o86_39 := rg [jf 50 26 2 2, jl 51 9 50, jm 52 5 3, oA 53 (.index 9 (tm 51) (tm 52)) 5, jf 54 26 3 2, jl 55 9 54, jm 56 5 3, oA 57 (.index 9 (tm 55) (tm 56)) 5, jb 58 .lss 5 53 57 5 4, js 4 58 4]
abbrev o86_42 := rg [jm 39 5 3, jB 40 .add 3 (tm 39) (ci 1) 3 3, js 5 40 3]
def c86_27 : AC := .seq (.seq o86_29 (.cond (tm 38) .skip (.exit 0))) (.seq (.block 1 (.seq o86_36 (.cond (tm 49) (.seq o86_39 .ret) .skip))) o86_42)
abbrev o86_44 := rg [jf 59 26 2 2, jl 60 9 59, oA 61 (cB .len #[tm 60] #[9]) 3, jf 62 26 3 2, jl 63 9 62, oA 64 (cB .len #[tm 63] #[9]) 3, jb 65 .lss 3 61 64 3 4, js 4 65 4]
def c86_43 : AC := .seq o86_44 .ret
abbrev o86_48 := rg [jf 66 26 2 3, jf 67 24 66 0, jl 68 3 67, jf 69 26 3 3, jf 70 24 69 0, jl 71 3 70, jb 72 .lss 3 68 71 3 4, jm 73 72 4, kf 74 26 2 3 73 false, kf 75 24 74 0 73 false, kl 76 3 75 73 false, kf 77 26 3 3 73 false, kf 78 24 77 0 73 false, kl 79 3 78 73 false, kq 80 .eql 3 76 79 3 4 73 false, km 81 80 4 73 false, kf 82 26 2 3 81 true, kf 83 24 82 1 81 true, kl 84 3 83 81 true, kf 85 26 3 3 81 true, kf 86 24 85 1 81 true, kl 87 3 86 81 true, kq 88 .lss 3 84 87 3 4 81 true, kp 89 81 (tm 88) kF 73 false, jp 90 73 kT (tm 89), js 4 90 4]
def c86_47 : AC := .seq o86_48 .ret
def c86_10 : AC := .seq (.seq o86_12 (.cond (tm 18) (.seq o86_15 .ret) .skip)) (.seq (.seq o86_20 (.cond (tm 26) (.seq (.seq o86_24 (.block 0 (.loop c86_27))) c86_43) .skip)) c86_47)
def c86_0 : AC := .seq o86_1 (.seq (.seq o86_4 (.cond (tm 10) (.seq o86_7 .ret) .skip)) c86_10)
def r86_0 := qa5 (qS 86 c86_0 rfl) (qS 86 c86_10 rfl) (qS 86 c86_27 rfl) (qS 86 c86_43 rfl) (qS 86 c86_47 rfl)
theorem w3r : q0h Cx 86 = some c86_0 := by kernel_rfl
theorem j6d : q0p Cx 86 = some [.tmp 4] := by kernel_rfl
theorem y1j : Cx.pure 86 = true := by kernel_rfl
abbrev o87_1 := rg [oA 2 (.assign (kS #[])) 9]
abbrev o87_4 := rg [jm 3 0 3, jB 4 .lss 3 (tm 3) (ci 0) 3 4]
abbrev o87_7 := rg [jm 5 0 3, oA 6 (.unOp .neg 3 (tm 5)) 3, jx 7 87 #[tm 6] #[3] 9, jB 8 .add 9 (kS #[45]) (tm 7) 9 9, js 2 8 9]
abbrev o87_12 := rg [jm 9 0 3, jB 10 .lss 3 (tm 9) (ci 10) 3 4]
abbrev o87_15 := rg [jm 11 0 3, jB 12 .add 3 (ci 48) (tm 11) 3 3, oA 13 (.convert 3 5 (tm 12)) 5, oA 14 (.buildSlice 127 1 #[(0, (tm 13))]) 127, oA 15 (.convert 127 9 (tm 14)) 9, js 2 15 9]
abbrev o87_19 := rg [jm 16 0 3, jB 17 .quo 3 (tm 16) (ci 10) 3 3, jx 18 87 #[tm 17] #[3] 9, jm 19 0 3, jB 20 .rem 3 (tm 19) (ci 10) 3 3, jx 21 87 #[tm 20] #[3] 9, jb 22 .add 9 18 21 9 9, js 2 22 9]
def c87_2 : AC := .seq (.seq o87_4 (.cond (tm 4) (.seq o87_7 .ret) .skip)) (.seq (.seq o87_12 (.cond (tm 10) (.seq o87_15 .ret) .skip)) (.seq o87_19 .ret))
def c87_0 : AC := .seq o87_1 c87_2
def r87_0 := qa2 (qS 87 c87_0 rfl) (qS 87 c87_2 rfl)
theorem y1k : q0h Cx 87 = some c87_0 := by kernel_rfl
theorem y4n : q0p Cx 87 = some [.tmp 2] := by kernel_rfl
theorem z8r : Cx.pure 87 = true := by kernel_rfl
abbrev o88_1 := rg [oA 2 (.assign kF) 4]
abbrev o88_3 := rg [jm 3 0 5, jB 4 .geq 5 (tm 3) (kU 32) 5 4, jm 5 4 4, km 6 0 5 5 true, kB 7 .leq 5 (tm 6) (kU 126) 5 4 5 true, jp 8 5 (tm 7) kF, jm 9 8 4, km 10 0 5 9 true, kB 11 .neq 5 (tm 10) (kU 34) 5 4 9 true, jp 12 9 (tm 11) kF, jm 13 12 4, km 14 0 5 13 true, kB 15 .neq 5 (tm 14) (kU 92) 5 4 13 true, jp 16 13 (tm 15) kF, js 2 16 4]
def c88_0 : AC := .seq o88_1 (.seq o88_3 .ret)
def r88_0 := qS 88 c88_0 rfl
theorem w3s : q0h Cx 88 = some c88_0 := by kernel_rfl
theorem w9m : q0p Cx 88 = some [.tmp 2] := by kernel_rfl
theorem z3d : Cx.pure 88 = true := by kernel_rfl
abbrev o89_1 := rg [oA 2 (.assign (kS #[])) 9]
abbrev o89_4 := rg [jm 3 0 3, jB 4 .lss 3 (tm 3) (ci 10) 3 4]
abbrev o89_7 := rg [jm 5 0 3, jB 6 .add 3 (ci 48) (tm 5) 3 3, oA 7 (.convert 3 5 (tm 6)) 5, oA 8 (.buildSlice 127 1 #[(0, (tm 7))]) 127, oA 9 (.convert 127 9 (tm 8)) 9, js 2 9 9]
abbrev o89_11 := rg [jm 10 0 3, jB 11 .add 3 (ci 97) (tm 10) 3 3, jB 12 .sub 3 (tm 11) (ci 10) 3 3, oA 13 (.convert 3 5 (tm 12)) 5, oA 14 (.buildSlice 127 1 #[(0, (tm 13))]) 127, oA 15 (.convert 127 9 (tm 14)) 9, js 2 15 9]
def c89_0 : AC := .seq o89_1 (.seq (.seq o89_4 (.cond (tm 4) (.seq o89_7 .ret) .skip)) (.seq o89_11 .ret))
def r89_0 := qS 89 c89_0 rfl
theorem w3t : q0h Cx 89 = some c89_0 := by kernel_rfl
theorem w3u : q0p Cx 89 = some [.tmp 2] := by kernel_rfl
theorem y1l : Cx.pure 89 = true := by kernel_rfl
abbrev o90_1 := rg [oA 2 (.assign (.const (.slice none 0 0))) 92]
abbrev o90_3 := rg [oA 3 (.assign (.const (.slice none 0 0))) 92]
abbrev o90_5 := rg [ji 4 0 3]
abbrev o90_11 := rg [jm 6 4 3, jm 7 0 9, oA 8 (cB .len #[tm 7] #[9]) 3, jb 9 .lss 3 6 8 3 4]
abbrev o90_17 := rg [jm 10 4 3, js 5 10 3]
abbrev o90_23 := rg [jm 11 5 3, jm 12 0 9, oA 13 (cB .len #[tm 12] #[9]) 3, jb 14 .lss 3 11 13 3 4, jm 15 14 4, km 16 0 9 15 true, km 17 5 3 15 true, oG 18 (.index 9 (tm 16) (tm 17)) 5 15 true, kB 19 .neq 5 (tm 18) (kU 32) 5 4 15 true, jp 20 15 (tm 19) kF]
abbrev o90_28 := rg [jm 21 5 3, jB 22 .add 3 (tm 21) (ci 1) 3 3, js 5 22 3]
def c90_21 : AC := .seq (.seq o90_23 (.cond (tm 20) .skip (.exit 2))) (.block 3 o90_28)
abbrev o90_31 := rg [jm 23 5 3, jm 24 4 3, jb 25 .gtr 3 23 24 3 4]
abbrev o90_33 := rg [jm 26 3 92, jm 27 0 9, jm 28 4 3, jm 29 5 3, oA 30 (.slice 9 (tm 27) (some (tm 28)) (some (tm 29)) none) 9, oA 31 (.buildSlice 92 1 #[(0, (tm 30))]) 92, oA 32 (cB .append #[tm 26, tm 31] #[92, 92]) 92, js 3 32 92]
abbrev o90_35 := rg [jm 33 5 3, jB 34 .add 3 (tm 33) (ci 1) 3 3, js 4 34 3]
def c90_29 : AC := .seq (.seq o90_31 (.cond (tm 25) o90_33 .skip)) o90_35
def c90_9 : AC := .seq (.seq o90_11 (.cond (tm 9) .skip (.exit 0))) (.block 1 (.seq o90_17 (.seq (.block 2 (.loop c90_21)) c90_29)))
abbrev o90_37 := rg [jm 35 3 92, js 2 35 92]
def c90_36 : AC := .seq o90_37 .ret
def c90_0 : AC := .seq o90_1 (.seq o90_3 (.seq o90_5 (.seq (.block 0 (.loop c90_9)) c90_36)))
def r90_0 := qa5 (qS 90 c90_0 rfl) (qS 90 c90_9 rfl) (qS 90 c90_21 rfl) (qS 90 c90_29 rfl) (qS 90 c90_36 rfl)
theorem w3v : q0h Cx 90 = some c90_0 := by kernel_rfl
theorem w3w : q0p Cx 90 = some [.tmp 2] := by kernel_rfl
theorem j7y : Cx.pure 90 = true := by kernel_rfl
abbrev o91_1 := rg [ja 2 26, ji 3 0 3, ji 4 0 3]
abbrev o91_4 := rg [jm 18 0 9, jB 19 .eql 9 (tm 18) (kS #[]) 9 4, jm 20 19 4, km 21 0 9 20 false, oG 22 (.index 9 (tm 21) (ci 0)) 5 20 false, kB 23 .neq 5 (tm 22) (kU 34) 5 4 20 false, km 24 23 4 20 false, km 25 0 9 24 true, oG 26 (.index 9 (tm 25) (ci 0)) 5 24 true, kB 27 .neq 5 (tm 26) (kU 45) 5 4 24 true, kp 28 24 (tm 27) kF 20 false, km 29 28 4 20 false, km 30 0 9 29 true, oG 31 (.index 9 (tm 30) (ci 0)) 5 29 true, kB 32 .lss 5 (tm 31) (kU 48) 5 4 29 true, km 33 32 4 29 true, km 34 0 9 33 false, oG 35 (.index 9 (tm 34) (ci 0)) 5 33 false, kB 36 .gtr 5 (tm 35) (kU 57) 5 4 33 false, kp 37 33 kT (tm 36) 29 true, kp 38 29 (tm 37) kF 20 false, jp 39 20 kT (tm 38)]
abbrev o91_7 := rg [oA 40 (.build 26 #[]) 26, jt 26 2 40, ji 3 0 3, ji 4 10 3]
abbrev o91_12 := rg [jm 41 0 9, oA 42 (.index 9 (tm 41) (ci 0)) 5, jB 43 .neq 5 (tm 42) (kU 34) 5 4]
abbrev o91_15 := rg [jm 45 0 9, jx 46 108 #[tm 45, ci 0] #[9, 3] 141, jm 44 46 141, je 47 44 0 3, je 48 44 1 3, je 49 44 2 3, js 5 47 3, js 6 48 3, js 7 49 3]
abbrev o91_18 := rg [jm 50 7 3, jB 51 .neq 3 (tm 50) (ci 0) 3 4]
abbrev o91_21 := rg [oA 52 (.build 26 #[]) 26, jm 53 7 3, jt 26 2 52, ji 3 0 3, js 4 53 3]
abbrev o91_25 := rg [jm 54 5 3, oA 55 (.build 26 #[(1, (tm 54))]) 26, ja 8 26, jt 26 8 55]
abbrev o91_28 := rg [jm 56 6 3, jm 57 0 9, oA 58 (cB .len #[tm 57] #[9]) 3, jb 59 .lss 3 56 58 3 4, jm 60 59 4, km 61 0 9 60 true, km 62 6 3 60 true, oG 63 (.index 9 (tm 61) (tm 62)) 5 60 true, kB 64 .eql 5 (tm 63) (kU 58) 5 4 60 true, jp 65 60 (tm 64) kF]
abbrev o91_31 := rg [jm 67 0 9, jm 68 6 3, jB 69 .add 3 (tm 68) (ci 1) 3 3, jx 70 108 #[tm 67, tm 69] #[9, 3] 141, jm 66 70 141, je 71 66 0 3, je 72 66 1 3, je 73 66 2 3, js 9 71 3, js 10 72 3, js 11 73 3]
abbrev o91_34 := rg [jm 74 11 3, jB 75 .neq 3 (tm 74) (ci 0) 3 4]
abbrev o91_37 := rg [oA 76 (.build 26 #[]) 26, jm 77 11 3, jt 26 2 76, ji 3 0 3, js 4 77 3]
abbrev o91_41 := rg [jm 78 5 3, jm 79 9 3, oA 80 (.build 24 #[(0, (tm 78)), (1, (tm 79))]) 24, oA 81 (.build 26 #[(0, (ci 2)), (3, (tm 80))]) 26, jt 26 8 81]
abbrev o91_42 := rg [jm 82 10 3, js 6 82 3]
def c91_27 : AC := .seq o91_28 (.cond (tm 65) (.seq o91_31 (.seq (.seq o91_34 (.cond (tm 75) (.seq o91_37 .ret) .skip)) (.seq o91_41 o91_42))) .skip)
abbrev o91_46 := rg [jl 83 26 8, jx 84 18 #[tm 83] #[26] 4, oA 85 (.unOp .not 4 (tm 84)) 4]
abbrev o91_49 := rg [oA 86 (.build 26 #[]) 26, jt 26 2 86, ji 3 0 3, ji 4 14 3]
abbrev o91_53 := rg [jl 87 26 8, jm 88 6 3, jt 26 2 87, js 3 88 3, ji 4 0 3]
def c91_44 : AC := .seq (.seq o91_46 (.cond (tm 85) (.seq o91_49 .ret) .skip)) (.seq o91_53 .ret)
def c91_14 : AC := .seq o91_15 (.seq (.seq o91_18 (.cond (tm 51) (.seq o91_21 .ret) .skip)) (.seq o91_25 (.seq c91_27 c91_44)))
abbrev o91_57 := rg [oA 12 (.assign (.const (.slice none 0 0))) 127]
abbrev o91_60 := rg [ji 13 1 3]
abbrev o91_65 := rg [jm 89 13 3, jm 90 0 9, oA 91 (cB .len #[tm 90] #[9]) 3, jb 92 .lss 3 89 91 3 4]
abbrev o91_72 := rg [jm 95 0 9, jm 96 13 3, oA 97 (.index 9 (tm 95) (tm 96)) 5, js 14 97 5]
abbrev o91_75 := rg [jm 98 14 5, jB 99 .eql 5 (tm 98) (kU 34) 5 4]
abbrev o91_79 := rg [jm 100 12 127, oA 101 (cB .len #[tm 100] #[127]) 3, jB 102 .gtr 3 (tm 101) (ci 4096) 3 4]
abbrev o91_82 := rg [oA 103 (.build 26 #[]) 26, jt 26 2 103, ji 3 0 3, ji 4 3 3]
abbrev o91_86 := rg [jm 104 12 127, oA 105 (.convert 127 9 (tm 104)) 9, oA 106 (.build 26 #[(0, (ci 1)), (2, (tm 105))]) 26, jm 107 13 3, jB 108 .add 3 (tm 107) (ci 1) 3 3, jt 26 2 106, js 3 108 3, ji 4 0 3]
abbrev o91_91 := rg [jm 109 14 5, jB 110 .neq 5 (tm 109) (kU 92) 5 4]
abbrev o91_95 := rg [jm 111 14 5, jx 112 88 #[tm 111] #[5] 4, oA 113 (.unOp .not 4 (tm 112)) 4]
abbrev o91_98 := rg [oA 114 (.build 26 #[]) 26, jt 26 2 114, ji 3 0 3, ji 4 6 3]
abbrev o91_102 := rg [jm 115 12 127, jm 116 14 5, oA 117 (.buildSlice 127 1 #[(0, (tm 116))]) 127, oA 118 (cB .append #[tm 115, tm 117] #[127, 127]) 127, js 12 118 127]
abbrev o91_106 := rg [ji 15 0 3]
abbrev o91_109 := rg [ji 16 1 3]
abbrev o91_114 := rg [jm 119 16 3, jB 120 .leq 3 (tm 119) (ci 2) 3 4]
abbrev o91_122 := rg [jm 123 13 3, jm 124 16 3, jb 125 .add 3 123 124 3 3, jm 126 0 9, oA 127 (cB .len #[tm 126] #[9]) 3, jb 128 .geq 3 125 127 3 4]
abbrev o91_125 := rg [oA 129 (.build 26 #[]) 26, jt 26 2 129, ji 3 0 3, ji 4 2 3]
abbrev o91_129 := rg [jm 130 0 9, jm 131 13 3, jm 132 16 3, jb 133 .add 3 131 132 3 3, oA 134 (.index 9 (tm 130) (tm 133)) 5, jx 135 109 #[tm 134] #[5] 3, js 17 135 3]
abbrev o91_132 := rg [jm 136 17 3, jB 137 .lss 3 (tm 136) (ci 0) 3 4]
abbrev o91_135 := rg [oA 138 (.build 26 #[]) 26, jt 26 2 138, ji 3 0 3, ji 4 6 3]
abbrev o91_138 := rg [jm 139 15 3, jB 140 .mul 3 (tm 139) (ci 16) 3 3, jm 141 17 3, jb 142 .add 3 140 141 3 3, js 15 142 3]
def c91_120 : AC := .seq (.seq o91_122 (.cond (tm 128) (.seq o91_125 .ret) .skip)) (.seq o91_129 (.seq (.seq o91_132 (.cond (tm 137) (.seq o91_135 .ret) .skip)) o91_138))
abbrev o91_139 := rg [jm 121 16 3, jB 122 .add 3 (tm 121) (ci 1) 3 3, js 16 122 3]
def c91_112 : AC := .seq (.seq o91_114 (.cond (tm 120) .skip (.exit 2))) (.seq (.block 3 c91_120) o91_139)
abbrev o91_142 := rg [jm 143 15 3, oA 144 (.convert 3 5 (tm 143)) 5, jx 145 88 #[tm 144] #[5] 4]
abbrev o91_145 := rg [oA 146 (.build 26 #[]) 26, jt 26 2 146, ji 3 0 3, ji 4 6 3]
abbrev o91_149 := rg [jm 147 12 127, jm 148 15 3, oA 149 (.convert 3 5 (tm 148)) 5, oA 150 (.buildSlice 127 1 #[(0, (tm 149))]) 127, oA 151 (cB .append #[tm 147, tm 150] #[127, 127]) 127, js 12 151 127]
abbrev o91_150 := rg [jm 152 13 3, jB 153 .add 3 (tm 152) (ci 2) 3 3, js 13 153 3]
def c91_140 : AC := .seq (.seq o91_142 (.cond (tm 145) (.seq o91_145 .ret) .skip)) (.seq o91_149 o91_150)
def c91_89 : AC := .seq (.seq o91_91 (.cond (tm 110) (.seq (.seq o91_95 (.cond (tm 113) (.seq o91_98 .ret) .skip)) (.seq o91_102 (.exit 1))) .skip)) (.seq o91_106 (.seq (.seq o91_109 (.block 2 (.loop c91_112))) c91_140))
def c91_73 : AC := .seq (.seq o91_75 (.cond (tm 99) (.seq (.seq o91_79 (.cond (tm 102) (.seq o91_82 .ret) .skip)) (.seq o91_86 .ret)) .skip)) c91_89
abbrev o91_151 := rg [jm 93 13 3, jB 94 .add 3 (tm 93) (ci 1) 3 3, js 13 94 3]
def c91_151 : AC := o91_151
def c91_63 : AC := .seq (.seq o91_65 (.cond (tm 92) .skip (.exit 0))) (.seq (.block 1 (.seq o91_72 c91_73)) c91_151)
abbrev o91_153 := rg [oA 154 (.build 26 #[]) 26, jt 26 2 154, ji 3 0 3, ji 4 2 3]
def c91_152 : AC := .seq o91_153 .ret
def c91_56 : AC := .seq o91_57 (.seq (.seq o91_60 (.block 0 (.loop c91_63))) c91_152)
def c91_0 : AC := .seq o91_1 (.seq (.seq o91_4 (.cond (tm 39) (.seq o91_7 .ret) .skip)) (.seq (.seq o91_12 (.cond (tm 43) c91_14 .skip)) c91_56))
def r91_0 := qa8 (qS 91 c91_0 rfl) (qS 91 c91_14 rfl) (qS 91 c91_27 rfl) (qS 91 c91_44 rfl) (qS 91 c91_56 rfl) (qS 91 c91_63 rfl) (qS 91 c91_73 rfl) (qS 91 c91_89 rfl)
def r91_1 := qa5 (qS 91 c91_112 rfl) (qS 91 c91_120 rfl) (qS 91 c91_140 rfl) (qR 91 c91_151 rfl) (qS 91 c91_152 rfl)
theorem j7z : q0h Cx 91 = some c91_0 := by kernel_rfl
theorem z0a : q0p Cx 91 = some [.cell 2 26, .tmp 3, .tmp 4] := by kernel_rfl
theorem j8a : Cx.pure 91 = true := by kernel_rfl
abbrev o92_1 := rg [oA 4 (.assign (kU 0)) 5, ji 5 0 34]
abbrev o92_3 := rg [ji 6 0 3]
abbrev o92_6 := rg [jm 9 1 3, js 7 9 3]
abbrev o92_11 := rg [jm 10 7 3, jm 11 1 3, jB 12 .add 3 (tm 11) (ci 2) 3 3, jb 13 .lss 3 10 12 3 4]
abbrev o92_19 := rg [jm 16 7 3, jm 17 0 9, oA 18 (cB .len #[tm 17] #[9]) 3, jb 19 .geq 3 16 18 3 4]
abbrev o92_22 := rg [oA 4 (.assign (kU 0)) 5, ji 5 2 34]
abbrev o92_26 := rg [jm 20 0 9, jm 21 7 3, oA 22 (.index 9 (tm 20) (tm 21)) 5, jx 23 110 #[(kS #[48, 49, 50, 51, 52, 53, 54, 55, 56, 57, 97, 98, 99, 100, 101, 102]), (tm 22)] #[9, 5] 3, js 8 23 3]
abbrev o92_29 := rg [jm 24 8 3, jB 25 .lss 3 (tm 24) (ci 0) 3 4]
abbrev o92_32 := rg [oA 4 (.assign (kU 0)) 5, ji 5 6 34]
abbrev o92_35 := rg [jm 26 6 3, jB 27 .mul 3 (ci 16) (tm 26) 3 3, jm 28 8 3, jb 29 .add 3 27 28 3 3, js 6 29 3]
def c92_17 : AC := .seq (.seq o92_19 (.cond (tm 19) (.seq o92_22 .ret) .skip)) (.seq o92_26 (.seq (.seq o92_29 (.cond (tm 25) (.seq o92_32 .ret) .skip)) o92_35))
abbrev o92_36 := rg [jm 14 7 3, jB 15 .add 3 (tm 14) (ci 1) 3 3, js 7 15 3]
abbrev o92_39 := rg [jm 30 6 3, oA 31 (.convert 3 5 (tm 30)) 5, jx 32 93 #[tm 31] #[5] 4]
abbrev o92_42 := rg [oA 4 (.assign (kU 0)) 5, ji 5 6 34]
abbrev o92_46 := rg [jm 33 6 3, oA 34 (.convert 3 5 (tm 33)) 5, js 4 34 5, ji 5 0 34]
def c92_4 : AC := .seq (.seq o92_6 (.block 0 (.loop (.seq (.seq o92_11 (.cond (tm 13) .skip (.exit 0))) (.seq (.block 1 c92_17) o92_36))))) (.seq (.seq o92_39 (.cond (tm 32) (.seq o92_42 .ret) .skip)) (.seq o92_46 .ret))
def c92_0 : AC := .seq o92_1 (.seq o92_3 c92_4)
def r92_0 := qa3 (qS 92 c92_0 rfl) (qS 92 c92_4 rfl) (qS 92 c92_17 rfl)
theorem w3x : q0h Cx 92 = some c92_0 := by kernel_rfl
theorem x0k : q0p Cx 92 = some [.tmp 4, .tmp 5] := by kernel_rfl
theorem x3p : Cx.pure 92 = true := by kernel_rfl
abbrev o93_1 := rg [oA 2 (.assign kF) 4]
abbrev o93_3 := rg [jm 3 0 5, jB 4 .geq 5 (tm 3) (kU 32) 5 4, jm 5 4 4, km 6 0 5 5 true, kB 7 .leq 5 (tm 6) (kU 126) 5 4 5 true, jp 8 5 (tm 7) kF, jm 9 8 4, km 10 0 5 9 true, kB 11 .neq 5 (tm 10) (kU 34) 5 4 9 true, jp 12 9 (tm 11) kF, jm 13 12 4, km 14 0 5 13 true, kB 15 .neq 5 (tm 14) (kU 92) 5 4 13 true, jp 16 13 (tm 15) kF, js 2 16 4]
def c93_0 : AC := .seq o93_1 (.seq o93_3 .ret)
def r93_0 := qS 93 c93_0 rfl
theorem w3y : q0h Cx 93 = some c93_0 := by kernel_rfl
theorem w9n : q0p Cx 93 = some [.tmp 2] := by kernel_rfl
theorem z6i : Cx.pure 93 = true := by kernel_rfl
end
section
variable {T : Nat → AV} {ds : List ADef} {ro : Option Nat} {k : List AItem} {H : AHeap} {Q : AV → AHeap → Prop}
abbrev o94_1 := rg [ji 4 0 3, ji 5 0 3, ji 6 0 34]
abbrev o94_4 := rg [ji 7 0 3, ji 8 1 3]
abbrev o94_7 := rg [jm 10 1 3, jm 11 0 9, oA 12 (cB .len #[tm 11] #[9]) 3, jb 13 .lss 3 10 12 3 4, jm 14 13 4, km 15 0 9 14 true, km 16 1 3 14 true, oG 17 (.index 9 (tm 15) (tm 16)) 5 14 true, kB 18 .eql 5 (tm 17) (kU 45) 5 4 14 true, jp 19 14 (tm 18) kF]
abbrev o94_9 := rg [jm 20 1 3, jB 21 .add 3 (tm 20) (ci 1) 3 3, ji 8 (-1) 3, js 1 21 3]
abbrev o94_12 := rg [jm 22 1 3, js 9 22 3]
abbrev o94_16 := rg [jm 24 1 3, jm 25 0 9, oA 26 (cB .len #[tm 25] #[9]) 3, jb 27 .geq 3 24 26 3 4, js 23 27 4]
abbrev o94_19 := rg [ji 4 0 3, ji 5 0 3, ji 6 2 34]
abbrev o94_22 := rg [jm 29 0 9, jm 30 1 3, oA 31 (.index 9 (tm 29) (tm 30)) 5, jx 32 66 #[tm 31] #[5] 4, oA 33 (.unOp .not 4 (tm 32)) 4, js 28 33 4]
abbrev o94_25 := rg [ji 4 0 3, ji 5 0 3, ji 6 6 34]
def c94_29 : AC := .label 0
abbrev o94_32 := rg [jm 34 1 3, jm 35 0 9, oA 36 (cB .len #[tm 35] #[9]) 3, jb 37 .lss 3 34 36 3 4, jm 38 37 4, km 39 0 9 38 true, km 40 1 3 38 true, oG 41 (.index 9 (tm 39) (tm 40)) 5 38 true, kx 42 66 #[tm 41] #[5] 4 38 true, jp 43 38 (tm 42) kF]
abbrev o94_35 := rg [jm 44 7 3, jB 45 .mul 3 (ci 10) (tm 44) 3 3, jm 46 0 9, jm 47 1 3, oA 48 (.index 9 (tm 46) (tm 47)) 5, jB 49 .sub 5 (tm 48) (kU 48) 5 5, oA 50 (.convert 5 3 (tm 49)) 3, jb 51 .add 3 45 50 3 3, oA 52 (cB .min #[tm 51, ci 18014398509481984] #[3, 3]) 3, js 7 52 3]
abbrev o94_37 := rg [jm 53 1 3, jB 54 .add 3 (tm 53) (ci 1) 3 3, js 1 54 3]
def c94_38 : AC := .goto 0
abbrev o94_42 := rg [jm 55 0 9, jm 56 9 3, oA 57 (.index 9 (tm 55) (tm 56)) 5, jB 58 .eql 5 (tm 57) (kU 48) 5 4, jm 59 58 4, km 60 1 3 59 true, km 61 9 3 59 true, kB 62 .add 3 (tm 61) (ci 1) 3 3 59 true, kq 63 .gtr 3 60 62 3 4 59 true, km 64 63 4 59 true, km 65 8 3 64 false, kB 66 .lss 3 (tm 65) (ci 0) 3 4 64 false, kp 67 64 kT (tm 66) 59 true, jp 68 59 (tm 67) kF]
abbrev o94_45 := rg [ji 4 0 3, ji 5 0 3, ji 6 6 34]
abbrev o94_49 := rg [jm 69 8 3, jm 70 7 3, jb 71 .mul 3 69 70 3 3, jm 72 1 3, js 4 71 3, js 5 72 3, ji 6 0 34]
def c94_40 : AC := .seq (.seq o94_42 (.cond (tm 68) (.seq o94_45 .ret) .skip)) (.seq o94_49 .ret)
def c94_30 : AC := .seq (.seq o94_32 (.cond (tm 43) (.seq o94_35 (.seq o94_37 c94_38)) .skip)) c94_40
def c94_13 : AC := .seq (.block 0 (.seq o94_16 (.cond (tm 23) (.seq o94_19 .ret) (.seq o94_22 (.cond (tm 28) (.seq o94_25 .ret) .skip))))) (.seq c94_29 c94_30)
def c94_11 : AC := .seq o94_12 c94_13
def c94_3 : AC := .seq o94_4 (.seq (.seq o94_7 (.cond (tm 19) o94_9 .skip)) c94_11)
def c94_2 : AC := .scope c94_3
def c94_0 : AC := .seq o94_1 c94_2
def r94_0 := qa8 (qS 94 c94_0 rfl) (qP 94 c94_2 rfl) (qS 94 c94_3 rfl) (qS 94 c94_11 rfl) (qS 94 c94_13 rfl) (qN 94 c94_29 rfl) (qS 94 c94_30 rfl) (qS 94 c94_40 rfl)
theorem y1m : q0h Cx 94 = some c94_0 := by kernel_rfl
theorem j3r : q0p Cx 94 = some [.tmp 4, .tmp 5, .tmp 6] := by kernel_rfl
theorem q8a : Cx.pure 94 = true := by kernel_rfl
abbrev o95_1 := rg [oA 2 (.box 24 (tm 0)) 0, oA 3 (.box 24 (tm 1)) 0, ja 4 24, ji 5 0 34]
abbrev o95_4 := rg [jl 6 24 2, jx 7 26 #[tm 6] #[24] 4, oA 8 (.unOp .not 4 (tm 7)) 4, jm 9 8 4, kl 10 24 3 9 false, kx 11 26 #[tm 10] #[24] 4 9 false, oG 12 (.unOp .not 4 (tm 11)) 4 9 false, jp 13 9 kT (tm 12)]
abbrev o95_7 := rg [oA 14 (.build 24 #[]) 24, jt 24 4 14, ji 5 14 34]
abbrev o95_11 := rg [jl 15 24 2, jx 16 112 #[tm 15] #[24] 146, jl 17 24 3, jx 18 112 #[tm 17] #[24] 146, jb 19 .add 146 16 18 146 146, jx 20 111 #[tm 19] #[146] 117, je 21 20 0 24, je 22 20 1 34, jt 24 4 21, js 5 22 34]
def c95_0 : AC := .seq o95_1 (.seq (.seq o95_4 (.cond (tm 13) (.seq o95_7 .ret) .skip)) (.seq o95_11 .ret))
def r95_0 := qS 95 c95_0 rfl
theorem w3z : q0h Cx 95 = some c95_0 := by kernel_rfl
theorem x8l : q0p Cx 95 = some [.cell 4 24, .tmp 5] := by kernel_rfl
theorem w4a : Cx.pure 95 = true := by kernel_rfl
abbrev o96_1 := rg [oA 2 (.box 24 (tm 0)) 0, oA 3 (.box 24 (tm 1)) 0, ja 4 24, ji 5 0 34]
abbrev o96_4 := rg [jl 6 24 2, jx 7 26 #[tm 6] #[24] 4, oA 8 (.unOp .not 4 (tm 7)) 4, jm 9 8 4, kl 10 24 3 9 false, kx 11 26 #[tm 10] #[24] 4 9 false, oG 12 (.unOp .not 4 (tm 11)) 4 9 false, jp 13 9 kT (tm 12)]
abbrev o96_7 := rg [oA 14 (.build 24 #[]) 24, jt 24 4 14, ji 5 14 34]
abbrev o96_11 := rg [jl 15 24 2, jx 16 112 #[tm 15] #[24] 146, jl 17 24 3, jx 18 112 #[tm 17] #[24] 146, jb 19 .sub 146 16 18 146 146, jx 20 111 #[tm 19] #[146] 117, je 21 20 0 24, je 22 20 1 34, jt 24 4 21, js 5 22 34]
def c96_0 : AC := .seq o96_1 (.seq (.seq o96_4 (.cond (tm 13) (.seq o96_7 .ret) .skip)) (.seq o96_11 .ret))
def r96_0 := qS 96 c96_0 rfl
theorem w4b : q0h Cx 96 = some c96_0 := by kernel_rfl
theorem x8m : q0p Cx 96 = some [.cell 4 24, .tmp 5] := by kernel_rfl
theorem w4c : Cx.pure 96 = true := by kernel_rfl
abbrev o97_1 := rg [oA 2 (.box 24 (tm 0)) 0, oA 3 (.box 24 (tm 1)) 0, ja 4 24, ji 5 0 34]
abbrev o97_4 := rg [jl 6 24 2, jx 7 26 #[tm 6] #[24] 4, oA 8 (.unOp .not 4 (tm 7)) 4, jm 9 8 4, kl 10 24 3 9 false, kx 11 26 #[tm 10] #[24] 4 9 false, oG 12 (.unOp .not 4 (tm 11)) 4 9 false, jp 13 9 kT (tm 12)]
abbrev o97_7 := rg [oA 14 (.build 24 #[]) 24, jt 24 4 14, ji 5 14 34]
abbrev o97_11 := rg [jl 15 24 2, jx 16 112 #[tm 15] #[24] 146, jl 17 24 3, jx 18 112 #[tm 17] #[24] 146, jb 19 .mul 146 16 18 146 146, jx 20 111 #[tm 19] #[146] 117, je 21 20 0 24, je 22 20 1 34, jt 24 4 21, js 5 22 34]
def c97_0 : AC := .seq o97_1 (.seq (.seq o97_4 (.cond (tm 13) (.seq o97_7 .ret) .skip)) (.seq o97_11 .ret))
def r97_0 := qS 97 c97_0 rfl
theorem w4d : q0h Cx 97 = some c97_0 := by kernel_rfl
theorem x8n : q0p Cx 97 = some [.cell 4 24, .tmp 5] := by kernel_rfl
theorem w4e : Cx.pure 97 = true := by kernel_rfl
abbrev o98_1 := rg [oA 2 (.box 24 (tm 0)) 0, oA 3 (.box 24 (tm 1)) 0, ja 4 24, ja 5 24, ji 6 0 34]
abbrev o98_5 := rg [jl 10 24 2, jx 11 26 #[tm 10] #[24] 4, oA 12 (.unOp .not 4 (tm 11)) 4, jm 13 12 4, kl 14 24 3 13 false, kx 15 26 #[tm 14] #[24] 4 13 false, oG 16 (.unOp .not 4 (tm 15)) 4 13 false, jp 17 13 kT (tm 16), js 9 17 4]
abbrev o98_8 := rg [oA 18 (.build 24 #[]) 24, oA 19 (.build 24 #[]) 24, jt 24 4 18, jt 24 5 19, ji 6 14 34]
abbrev o98_11 := rg [jl 21 24 3, oA 22 (.build 24 #[]) 24, jb 23 .eql 24 21 22 24 4, js 20 23 4]
abbrev o98_14 := rg [oA 24 (.build 24 #[]) 24, oA 25 (.build 24 #[]) 24, jt 24 4 24, jt 24 5 25, ji 6 16 34]
abbrev o98_18 := rg [jl 27 24 2, jl 28 24 3, jx 29 113 #[tm 27, tm 28] #[24, 24] 122, jm 26 29 122, je 30 26 0 24, je 31 26 1 24, ja 7 24, ja 8 24, jt 24 7 30, jt 24 8 31]
abbrev o98_21 := rg [jl 32 24 7, jx 33 26 #[tm 32] #[24] 4, oA 34 (.unOp .not 4 (tm 33)) 4, jm 35 34 4, kl 36 24 8 35 false, kx 37 26 #[tm 36] #[24] 4 35 false, oG 38 (.unOp .not 4 (tm 37)) 4 35 false, jp 39 35 kT (tm 38)]
abbrev o98_24 := rg [oA 40 (.build 24 #[]) 24, oA 41 (.build 24 #[]) 24, jt 24 4 40, jt 24 5 41, ji 6 14 34]
abbrev o98_28 : List AO := [jl 42 24 7, jl 43 24 8, jt 24 4 42, jt 24 5 43, ji 6 0 34]
def c98_28 : AC := .region o98_28 [[], [], [8], [], []]
def c98_2 : AC := .seq (.block 0 (.seq o98_5 (.cond (tm 9) (.seq o98_8 .ret) (.seq o98_11 (.cond (tm 20) (.seq o98_14 .ret) .skip))))) (.seq o98_18 (.seq (.seq o98_21 (.cond (tm 39) (.seq o98_24 .ret) .skip)) (.seq c98_28 .ret)))
def c98_0 : AC := .seq o98_1 c98_2
def r98_0 := qa3 (qS 98 c98_0 rfl) (qS 98 c98_2 rfl) (qD 98 c98_28 rfl)
theorem w4f : q0h Cx 98 = some c98_0 := by kernel_rfl
theorem x0l : q0p Cx 98 = some [.cell 4 24, .cell 5 24, .tmp 6] := by kernel_rfl
theorem y1n : Cx.pure 98 = true := by kernel_rfl
abbrev o99_1 := rg [ji 2 0 3]
abbrev o99_3 := rg [ji 3 0 3]
abbrev o99_6 := rg [jm 6 0 62, oA 7 (cB .len #[tm 6] #[62]) 3, oA 8 (.move (ci 0)) 3]
abbrev o99_10 := rg [jb 9 .lss 3 8 7 3 0]
abbrev o99_18 := rg [oA 10 (.indexAddr 62 (tm 6) (tm 8)) 0, jl 11 3 10, js 5 11 3]
abbrev o99_20 := rg [jm 12 5 3, jm 13 3 3, jb 14 .neq 3 12 13 3 4]
abbrev o99_23 := rg [jm 15 5 3, js 2 15 3]
abbrev o99_26 := rg [jB 16 .add 3 (tm 8) (ci 1) 3 3, jm 8 16 3]
def c99_9 : AC := .seq o99_10 (.seq (.cond (tm 9) .skip (.exit 0)) (.seq (.block 1 (.seq o99_18 (.seq o99_20 (.cond (tm 14) (.seq o99_23 .ret) .skip)))) o99_26))
abbrev o99_28 := rg [jm 17 3 3, js 2 17 3]
def c99_0 : AC := .seq o99_1 (.seq o99_3 (.seq (.seq o99_6 (.block 0 (.loop c99_9))) (.seq o99_28 .ret)))
def r99_0 := qa2 (qS 99 c99_0 rfl) (qS 99 c99_9 rfl)
theorem w4g : q0h Cx 99 = some c99_0 := by kernel_rfl
theorem x0m : q0p Cx 99 = some [.tmp 2] := by kernel_rfl
theorem w4h : Cx.pure 99 = true := by kernel_rfl
abbrev o100_1 := rg [ji 4 0 3]
abbrev o100_3 := rg [jm 7 0 3, jx 8 114 #[tm 7] #[3] 4, js 5 8 4]
abbrev o100_5 := rg [jm 9 1 3, jx 10 114 #[tm 9] #[3] 4, js 6 10 4]
abbrev o100_8 := rg [jm 11 5 4]
abbrev o100_12 := rg [jm 12 6 4]
abbrev o100_15 := rg [ji 4 0 3]
abbrev o100_19 := rg [ji 4 (-1) 3]
abbrev o100_24 := rg [jm 13 6 4]
abbrev o100_27 := rg [ji 4 1 3]
abbrev o100_32 := rg [jm 14 0 3, jm 15 1 3, jb 16 .lss 3 14 15 3 4]
abbrev o100_35 := rg [ji 4 (-1) 3]
abbrev o100_40 := rg [jm 17 0 3, jm 18 1 3, jb 19 .gtr 3 17 18 3 4]
abbrev o100_43 := rg [ji 4 1 3]
abbrev o100_47 := rg [ji 4 0 3]
def c100_30 : AC := .seq (.seq o100_32 (.cond (tm 16) (.seq o100_35 .ret) .skip)) (.seq (.seq o100_40 (.cond (tm 19) (.seq o100_43 .ret) .skip)) (.seq o100_47 .ret))
def c100_6 : AC := .seq (.seq o100_8 (.cond (tm 11) (.seq (.seq o100_12 (.cond (tm 12) (.seq o100_15 .ret) .skip)) (.seq o100_19 .ret)) .skip)) (.seq (.seq o100_24 (.cond (tm 13) (.seq o100_27 .ret) .skip)) c100_30)
def c100_0 : AC := .seq o100_1 (.seq o100_3 (.seq o100_5 c100_6))
def r100_0 := qa3 (qS 100 c100_0 rfl) (qS 100 c100_6 rfl) (qS 100 c100_30 rfl)
theorem y4o : q0h Cx 100 = some c100_0 := by kernel_rfl
theorem w4i : q0p Cx 100 = some [.tmp 4] := by kernel_rfl
theorem j0f : Cx.pure 100 = true := by kernel_rfl
abbrev o101_1 := rg [ji 4 0 3]
abbrev o101_3 := rg [jm 5 0 9, jm 6 1 9, jx 7 115 #[tm 5, tm 6] #[9, 9] 3, js 4 7 3]
def c101_0 : AC := .seq o101_1 (.seq o101_3 .ret)
def r101_0 := qS 101 c101_0 rfl
theorem y4p : q0h Cx 101 = some c101_0 := by kernel_rfl
theorem w4j : q0p Cx 101 = some [.tmp 4] := by kernel_rfl
theorem y4q : Cx.pure 101 = true := by kernel_rfl
abbrev o102_1 := rg [oA 4 (.assign (.const (.slice none 0 0))) 92]
abbrev o102_3 := rg [oA 12 (.makeSlice 148 (ci 0) (ci 32)) 148, js 5 12 148]
abbrev o102_5 := rg [ji 6 (-1) 3]
abbrev o102_8 := rg [jm 13 0 9, oA 14 (.range 9 (tm 13)) 0]
abbrev o102_12 := rg [oA 15 (.next (tm 14) true) 0, je 16 15 0 4]
abbrev o102_19 := rg [je 17 15 1 3, je 18 15 2 21, js 7 17 3, js 8 18 21]
abbrev o102_21 := rg [jm 19 1 139, jm 20 8 21, oA 21 (cV 19 #[tm 20] #[21]) 4]
abbrev o102_24 := rg [jm 22 6 3, jB 23 .geq 3 (tm 22) (ci 0) 3 4]
abbrev o102_27 := rg [jm 24 5 148, jm 25 6 3, jm 26 7 3, oA 27 (.build 150 #[(0, (tm 25)), (1, (tm 26))]) 150, oA 28 (.buildSlice 148 1 #[(0, (tm 27))]) 148, oA 29 (cB .append #[tm 24, tm 28] #[148, 148]) 148, js 5 29 148]
abbrev o102_28 := rg [jm 30 6 3, oA 31 (.unOp .xor 3 (tm 30)) 3, js 6 31 3]
abbrev o102_31 := rg [jm 32 6 3, jB 33 .lss 3 (tm 32) (ci 0) 3 4]
abbrev o102_33 := rg [jm 34 7 3, js 6 34 3]
def c102_18 : AC := .seq o102_19 (.seq o102_21 (.cond (tm 21) (.seq o102_24 (.cond (tm 23) (.seq o102_27 o102_28) .skip)) (.seq o102_31 (.cond (tm 33) o102_33 .skip))))
def c102_11 : AC := .seq o102_12 (.seq (.cond (tm 16) .skip (.exit 0)) (.block 1 c102_18))
abbrev o102_37 := rg [jm 35 6 3, jB 36 .geq 3 (tm 35) (ci 0) 3 4]
abbrev o102_39 := rg [jm 37 5 148, jm 38 6 3, jm 39 0 9, oA 40 (cB .len #[tm 39] #[9]) 3, oA 41 (.build 150 #[(0, (tm 38)), (1, (tm 40))]) 150, oA 42 (.buildSlice 148 1 #[(0, (tm 41))]) 148, oA 43 (cB .append #[tm 37, tm 42] #[148, 148]) 148, js 5 43 148]
abbrev o102_42 := rg [jm 44 5 148, oA 45 (cB .len #[tm 44] #[148]) 3, oA 46 (.makeSlice 92 (tm 45) (tm 45)) 92, js 9 46 92]
abbrev o102_45 := rg [jm 47 5 148, oA 48 (cB .len #[tm 47] #[148]) 3, oA 49 (.move (ci 0)) 3]
abbrev o102_49 := rg [jb 50 .lss 3 49 48 3 0]
abbrev o102_57 := rg [jm 51 49 3, oA 52 (.indexAddr 148 (tm 47) (tm 49)) 0, jl 53 150 52, ja 11 150, js 10 51 3, jt 150 11 53]
abbrev o102_58 := rg [jm 54 9 92, jm 55 10 3, jm 56 0 9, jf 57 150 11 0, jl 58 3 57, jf 59 150 11 1, jl 60 3 59, oA 61 (.slice 9 (tm 56) (some (tm 58)) (some (tm 60)) none) 9, oA 62 (.indexAddr 92 (tm 54) (tm 55)) 0, jt 9 62 61]
abbrev o102_59 := rg [jB 63 .add 3 (tm 49) (ci 1) 3 3, jm 49 63 3]
def c102_48 : AC := .seq o102_49 (.seq (.cond (tm 50) .skip (.exit 2)) (.seq (.block 3 (.seq o102_57 o102_58)) o102_59))
abbrev o102_61 := rg [jm 64 9 92, js 4 64 92]
def c102_60 : AC := .seq o102_61 .ret
def c102_41 : AC := .seq o102_42 (.seq (.seq o102_45 (.block 2 (.loop c102_48))) c102_60)
def c102_35 : AC := .seq (.seq o102_37 (.cond (tm 36) o102_39 .skip)) c102_41
def c102_0 : AC := .seq o102_1 (.seq o102_3 (.seq o102_5 (.seq (.seq o102_8 (.block 0 (.loop c102_11))) c102_35)))
def r102_0 := qa7 (qS 102 c102_0 rfl) (qS 102 c102_11 rfl) (qS 102 c102_18 rfl) (qS 102 c102_35 rfl) (qS 102 c102_41 rfl) (qS 102 c102_48 rfl) (qS 102 c102_60 rfl)
theorem y4r : q0h Cx 102 = some c102_0 := by kernel_rfl
theorem w4k : q0p Cx 102 = some [.tmp 4] := by kernel_rfl
theorem y4s : Cx.pure 102 = false := by kernel_rfl
abbrev o103_1 := rg [oA 2 (.assign kF) 4]
abbrev o103_3 := rg [jm 3 0 21, jB 4 .eql 21 (tm 3) (.const (.int .i32 32)) 21 4, js 2 4 4]
def c103_0 : AC := .seq o103_1 (.seq o103_3 .ret)
def r103_0 := qS 103 c103_0 rfl
theorem y4t : q0h Cx 103 = some c103_0 := by kernel_rfl
theorem w4l : q0p Cx 103 = some [.tmp 2] := by kernel_rfl
theorem j0g : Cx.pure 103 = true := by kernel_rfl
abbrev o104_1 := rg [oA 1 (.box 24 (tm 0)) 0, ji 2 0 3]
abbrev o104_3 := rg [jf 3 24 1 0, jl 4 3 3, jf 5 24 1 0, jl 6 3 5, jb 7 .mul 3 4 6 3 3, jf 8 24 1 1, jl 9 3 8, jf 10 24 1 1, jl 11 3 10, jb 12 .mul 3 9 11 3 3, jb 13 .add 3 7 12 3 3, js 2 13 3]
def c104_0 : AC := .seq o104_1 (.seq o104_3 .ret)
def r104_0 := qS 104 c104_0 rfl
theorem y4u : q0h Cx 104 = some c104_0 := by kernel_rfl
theorem w4m : q0p Cx 104 = some [.tmp 2] := by kernel_rfl
theorem x3q : Cx.pure 104 = true := by kernel_rfl
abbrev o105_1 := rg [oA 2 (.assign (kS #[])) 9]
abbrev o105_4 := rg [jm 4 0 3, jB 5 .lss 3 (tm 4) (ci 0) 3 4]
abbrev o105_7 := rg [jm 6 0 3, oA 7 (.unOp .neg 3 (tm 6)) 3, jx 8 105 #[tm 7] #[3] 9, jB 9 .add 9 (kS #[45]) (tm 8) 9 9, js 2 9 9]
abbrev o105_11 := rg [oA 3 (.assign (kS #[])) 9]
abbrev o105_16 := rg [jm 10 0 3, jB 11 .rem 3 (tm 10) (ci 10) 3 3, jm 12 0 3, jB 13 .rem 3 (tm 12) (ci 10) 3 3, jB 14 .add 3 (tm 13) (ci 1) 3 3, oA 15 (.slice 9 (kS #[48, 49, 50, 51, 52, 53, 54, 55, 56, 57, 97, 98, 99, 100, 101, 102]) (some (tm 11)) (some (tm 14)) none) 9, jm 16 3 9, jb 17 .add 9 15 16 9 9, js 3 17 9]
abbrev o105_18 := rg [jm 18 0 3, jB 19 .quo 3 (tm 18) (ci 10) 3 3, js 0 19 3]
abbrev o105_20 := rg [jm 20 0 3, jB 21 .eql 3 (tm 20) (ci 0) 3 4]
abbrev o105_23 := rg [jm 22 3 9, js 2 22 9]
def c105_14 : AC := .block 1 (.seq o105_16 (.seq o105_18 (.seq o105_20 (.cond (tm 21) (.seq o105_23 .ret) .skip))))
def c105_0 : AC := .seq o105_1 (.seq (.seq o105_4 (.cond (tm 5) (.seq o105_7 .ret) .skip)) (.seq o105_11 (.block 0 (.loop c105_14))))
def r105_0 := qa2 (qS 105 c105_0 rfl) (qB 105 c105_14 rfl)
theorem x3r : q0h Cx 105 = some c105_0 := by kernel_rfl
theorem y1o : q0p Cx 105 = some [.tmp 2] := by kernel_rfl
theorem j0h : Cx.pure 105 = true := by kernel_rfl
abbrev o106_1 := rg [oA 2 (.assign (kS #[])) 9]
abbrev o106_3 := rg [ja 3 153]
abbrev o106_5 := rg [jx 6 116 #[tm 3, kU 34] #[153, 5] 155]
abbrev o106_8 := rg [jm 7 0 9, oA 8 (cB .len #[tm 7] #[9]) 3, oA 9 (.move (ci 0)) 3]
abbrev o106_12 := rg [jb 10 .lss 3 9 8 3 4]
abbrev o106_20 := rg [jm 11 9 3, js 4 11 3]
abbrev o106_22 := rg [jm 12 0 9, jm 13 4 3, oA 14 (.index 9 (tm 12) (tm 13)) 5, js 5 14 5]
abbrev o106_24 := rg [jm 15 5 5, jx 16 93 #[tm 15] #[5] 4]
abbrev o106_26 := rg [jm 17 5 5, jx 18 116 #[tm 3, tm 17] #[153, 5] 155]
abbrev o106_27 := rg [jm 19 5 5, jB 20 .quo 5 (tm 19) (kU 16) 5 5, jm 21 5 5, jB 22 .quo 5 (tm 21) (kU 16) 5 5, jB 23 .add 5 (tm 22) (kU 1) 5 5, oA 24 (.slice 9 (kS #[48, 49, 50, 51, 52, 53, 54, 55, 56, 57, 97, 98, 99, 100, 101, 102]) (some (tm 20)) (some (tm 23)) none) 9, jB 25 .add 9 (kS #[92]) (tm 24) 9 9, jm 26 5 5, jB 27 .rem 5 (tm 26) (kU 16) 5 5, jm 28 5 5, jB 29 .rem 5 (tm 28) (kU 16) 5 5, jB 30 .add 5 (tm 29) (kU 1) 5 5, oA 31 (.slice 9 (kS #[48, 49, 50, 51, 52, 53, 54, 55, 56, 57, 97, 98, 99, 100, 101, 102]) (some (tm 27)) (some (tm 30)) none) 9, jb 32 .add 9 25 31 9 9, jx 33 117 #[tm 3, tm 32] #[153, 9] 157]
abbrev o106_28 := rg [jB 34 .add 3 (tm 9) (ci 1) 3 3, jm 9 34 3]
def c106_11 : AC := .seq o106_12 (.seq (.cond (tm 10) .skip (.exit 0)) (.seq (.block 1 (.seq o106_20 (.seq o106_22 (.seq o106_24 (.cond (tm 16) o106_26 o106_27))))) o106_28))
abbrev o106_30 := rg [jx 35 116 #[tm 3, kU 34] #[153, 5] 155]
abbrev o106_32 := rg [jx 36 118 #[tm 3] #[153] 9, js 2 36 9]
def c106_29 : AC := .seq o106_30 (.seq o106_32 .ret)
def c106_0 : AC := .seq o106_1 (.seq o106_3 (.seq o106_5 (.seq (.seq o106_8 (.block 0 (.loop c106_11))) c106_29)))
def r106_0 := qa3 (qS 106 c106_0 rfl) (qS 106 c106_11 rfl) (qS 106 c106_29 rfl)
theorem y4v : q0h Cx 106 = some c106_0 := by kernel_rfl
theorem w4n : q0p Cx 106 = some [.tmp 2] := by kernel_rfl
theorem y4w : Cx.pure 106 = true := by kernel_rfl
abbrev o107_1 := rg [ji 4 0 3]
abbrev o107_3 := rg [jm 7 0 3, jB 8 .mul 3 (ci 2) (tm 7) 3 3, jm 9 1 3, jb 10 .add 3 8 9 3 3, js 5 10 3]
abbrev o107_5 := rg [jm 11 5 3, jm 12 1 3, jB 13 .mul 3 (ci 2) (tm 12) 3 3, jb 14 .quo 3 11 13 3 3, js 6 14 3]
abbrev o107_8 := rg [jm 15 6 3, jB 16 .mul 3 (tm 15) (ci 2) 3 3, jm 17 1 3, jb 18 .mul 3 16 17 3 3, jm 19 5 3, jb 20 .gtr 3 18 19 3 4]
abbrev o107_10 := rg [jm 21 6 3, jB 22 .sub 3 (tm 21) (ci 1) 3 3, js 6 22 3]
abbrev o107_13 := rg [jm 23 6 3, js 4 23 3]
def c107_0 : AC := .seq o107_1 (.seq o107_3 (.seq o107_5 (.seq (.seq o107_8 (.cond (tm 20) o107_10 .skip)) (.seq o107_13 .ret))))
def r107_0 := qS 107 c107_0 rfl
theorem y4x : q0h Cx 107 = some c107_0 := by kernel_rfl
theorem y1p : q0p Cx 107 = some [.tmp 4] := by kernel_rfl
theorem x3s : Cx.pure 107 = true := by kernel_rfl
abbrev o108_1 := rg [ji 4 0 3, ji 5 0 3, ji 6 0 3]
abbrev o108_3 := rg [jm 10 1 3, jm 11 0 9, oA 12 (cB .len #[tm 11] #[9]) 3, jb 13 .lss 3 10 12 3 4, jm 14 13 4, km 15 0 9 14 true, km 16 1 3 14 true, oG 17 (.index 9 (tm 15) (tm 16)) 5 14 true, kB 18 .eql 5 (tm 17) (kU 45) 5 4 14 true, jp 19 14 (tm 18) kF, js 7 19 4]
abbrev o108_6 := rg [jm 20 7 4]
abbrev o108_8 := rg [jm 21 1 3, jB 22 .add 3 (tm 21) (ci 1) 3 3, js 1 22 3]
abbrev o108_12 := rg [jm 23 1 3, jm 24 0 9, oA 25 (cB .len #[tm 24] #[9]) 3, jb 26 .eql 3 23 25 3 4]
abbrev o108_15 := rg [ji 4 0 3, ji 5 0 3, ji 6 2 3]
abbrev o108_19 := rg [jm 27 1 3, js 8 27 3]
abbrev o108_21 := rg [ji 9 0 3]
abbrev o108_27 := rg [jm 28 8 3, jm 29 0 9, oA 30 (cB .len #[tm 29] #[9]) 3, jb 31 .lss 3 28 30 3 4, jm 32 31 4, km 33 0 9 32 true, km 34 8 3 32 true, oG 35 (.index 9 (tm 33) (tm 34)) 5 32 true, kB 36 .geq 5 (tm 35) (kU 48) 5 4 32 true, jp 37 32 (tm 36) kF, jm 38 37 4, km 39 0 9 38 true, km 40 8 3 38 true, oG 41 (.index 9 (tm 39) (tm 40)) 5 38 true, kB 42 .leq 5 (tm 41) (kU 57) 5 4 38 true, jp 43 38 (tm 42) kF]
abbrev o108_34 := rg [jm 44 9 3, jB 45 .leq 3 (tm 44) (ci 9007199254740992) 3 4]
abbrev o108_36 := rg [jm 46 9 3, jB 47 .mul 3 (tm 46) (ci 10) 3 3, jm 48 0 9, jm 49 8 3, oA 50 (.index 9 (tm 48) (tm 49)) 5, oA 51 (.convert 5 3 (tm 50)) 3, jb 52 .add 3 47 51 3 3, jB 53 .sub 3 (tm 52) (ci 48) 3 3, js 9 53 3]
abbrev o108_38 := rg [jm 54 8 3, jB 55 .add 3 (tm 54) (ci 1) 3 3, js 8 55 3]
def c108_25 : AC := .seq (.seq o108_27 (.cond (tm 43) .skip (.exit 0))) (.block 1 (.seq (.seq o108_34 (.cond (tm 45) o108_36 .skip)) o108_38))
abbrev o108_41 := rg [jm 56 8 3, jm 57 1 3, jb 58 .eql 3 56 57 3 4, jm 59 58 4, km 60 0 9 59 false, km 61 1 3 59 false, oG 62 (.index 9 (tm 60) (tm 61)) 5 59 false, kB 63 .eql 5 (tm 62) (kU 48) 5 4 59 false, km 64 63 4 59 false, km 65 8 3 64 true, km 66 1 3 64 true, kB 67 .add 3 (tm 66) (ci 1) 3 3 64 true, kq 68 .gtr 3 65 67 3 4 64 true, km 69 68 4 64 true, km 70 7 4 69 false, kp 71 69 kT (tm 70) 64 true, kp 72 64 (tm 71) kF 59 false, jp 73 59 kT (tm 72)]
abbrev o108_44 := rg [ji 4 0 3, ji 5 0 3, ji 6 6 3]
abbrev o108_49 := rg [jm 74 7 4]
abbrev o108_51 := rg [jm 75 9 3, oA 76 (.unOp .neg 3 (tm 75)) 3, js 9 76 3]
abbrev o108_54 := rg [jm 77 9 3, jm 78 8 3, js 4 77 3, js 5 78 3, ji 6 0 3]
def c108_39 : AC := .seq (.seq o108_41 (.cond (tm 73) (.seq o108_44 .ret) .skip)) (.seq (.seq o108_49 (.cond (tm 74) o108_51 .skip)) (.seq o108_54 .ret))
def c108_10 : AC := .seq (.seq o108_12 (.cond (tm 26) (.seq o108_15 .ret) .skip)) (.seq o108_19 (.seq o108_21 (.seq (.block 0 (.loop c108_25)) c108_39)))
def c108_0 : AC := .seq o108_1 (.seq o108_3 (.seq (.seq o108_6 (.cond (tm 20) o108_8 .skip)) c108_10))
def r108_0 := qa4 (qS 108 c108_0 rfl) (qS 108 c108_10 rfl) (qS 108 c108_25 rfl) (qS 108 c108_39 rfl)
theorem y4y : q0h Cx 108 = some c108_0 := by kernel_rfl
theorem z6j : q0p Cx 108 = some [.tmp 4, .tmp 5, .tmp 6] := by kernel_rfl
theorem z0b : Cx.pure 108 = true := by kernel_rfl
abbrev o109_1 := rg [ji 2 0 3]
abbrev o109_4 := rg [jm 3 0 5, jB 4 .geq 5 (tm 3) (kU 48) 5 4, jm 5 4 4, km 6 0 5 5 true, kB 7 .leq 5 (tm 6) (kU 57) 5 4 5 true, jp 8 5 (tm 7) kF]
abbrev o109_7 := rg [jm 9 0 5, oA 10 (.convert 5 3 (tm 9)) 3, jB 11 .sub 3 (tm 10) (ci 48) 3 3, js 2 11 3]
abbrev o109_12 := rg [jm 12 0 5, jB 13 .geq 5 (tm 12) (kU 97) 5 4, jm 14 13 4, km 15 0 5 14 true, kB 16 .leq 5 (tm 15) (kU 102) 5 4 14 true, jp 17 14 (tm 16) kF]
abbrev o109_15 := rg [jm 18 0 5, oA 19 (.convert 5 3 (tm 18)) 3, jB 20 .sub 3 (tm 19) (ci 87) 3 3, js 2 20 3]
abbrev o109_19 := rg [ji 2 (-1) 3]
def c109_2 : AC := .seq (.seq o109_4 (.cond (tm 8) (.seq o109_7 .ret) .skip)) (.seq (.seq o109_12 (.cond (tm 17) (.seq o109_15 .ret) .skip)) (.seq o109_19 .ret))
def c109_0 : AC := .seq o109_1 c109_2
def r109_0 := qa2 (qS 109 c109_0 rfl) (qS 109 c109_2 rfl)
theorem y4z : q0h Cx 109 = some c109_0 := by kernel_rfl
theorem w4o : q0p Cx 109 = some [.tmp 2] := by kernel_rfl
theorem x3t : Cx.pure 109 = true := by kernel_rfl
abbrev o110_1 := rg [ji 4 0 3]
abbrev o110_3 := rg [jm 5 0 9, jm 6 1 5, jx 7 119 #[tm 5, tm 6] #[9, 5] 3, js 4 7 3]
def c110_0 : AC := .seq o110_1 (.seq o110_3 .ret)
def r110_0 := qS 110 c110_0 rfl
theorem y5a : q0h Cx 110 = some c110_0 := by kernel_rfl
theorem w4p : q0p Cx 110 = some [.tmp 4] := by kernel_rfl
theorem q8b : Cx.pure 110 = true := by kernel_rfl
abbrev o111_1 := rg [ja 2 24, ji 3 0 34]
abbrev o111_3 := rg [jm 5 0 146, oA 6 (cB .real #[tm 5] #[146]) 160, oA 7 (.convert 160 3 (tm 6)) 3, jm 8 0 146, oA 9 (cB .imag #[tm 8] #[146]) 160, oA 10 (.convert 160 3 (tm 9)) 3, oA 11 (.build 24 #[(0, (tm 7)), (1, (tm 10))]) 24, ja 4 24, jt 24 4 11]
abbrev o111_6 := rg [jl 12 24 4, jx 13 26 #[tm 12] #[24] 4, oA 14 (.unOp .not 4 (tm 13)) 4]
abbrev o111_9 := rg [oA 15 (.build 24 #[]) 24, jt 24 2 15, ji 3 14 34]
abbrev o111_13 := rg [jl 16 24 4, jt 24 2 16, ji 3 0 34]
def c111_0 : AC := .seq o111_1 (.seq o111_3 (.seq (.seq o111_6 (.cond (tm 14) (.seq o111_9 .ret) .skip)) (.seq o111_13 .ret)))
def r111_0 := qS 111 c111_0 rfl
theorem y5b : q0h Cx 111 = some c111_0 := by kernel_rfl
theorem y1q : q0p Cx 111 = some [.cell 2 24, .tmp 3] := by kernel_rfl
theorem z2b : Cx.pure 111 = true := by kernel_rfl
abbrev o112_1 := rg [oA 1 (.box 24 (tm 0)) 0, oA 2 (.assign (.const (.complex .f64 0 0))) 146]
abbrev o112_3 := rg [jf 3 24 1 0, jl 4 3 3, oA 5 (.convert 3 160 (tm 4)) 160, jf 6 24 1 1, jl 7 3 6, oA 8 (.convert 3 160 (tm 7)) 160, oA 9 (cB .complex #[tm 5, tm 8] #[160, 160]) 146, js 2 9 146]
def c112_0 : AC := .seq o112_1 (.seq o112_3 .ret)
def r112_0 := qS 112 c112_0 rfl
theorem x3u : q0h Cx 112 = some c112_0 := by kernel_rfl
theorem y1r : q0p Cx 112 = some [.tmp 2] := by kernel_rfl
theorem q3h : Cx.pure 112 = true := by kernel_rfl
abbrev o113_1 := rg [oA 2 (.box 24 (tm 0)) 0, oA 3 (.box 24 (tm 1)) 0, ja 4 24, ja 5 24]
abbrev o113_3 := rg [jl 10 24 2, jx 11 112 #[tm 10] #[24] 146, jf 12 24 3 0, jl 13 3 12, jf 14 24 3 1, jl 15 3 14, oA 16 (.unOp .neg 3 (tm 15)) 3, oA 17 (.build 24 #[(0, (tm 13)), (1, (tm 16))]) 24, jx 18 112 #[tm 17] #[24] 146, jb 19 .mul 146 11 18 146 146, js 6 19 146]
abbrev o113_5 := rg [jl 20 24 3, jx 21 104 #[tm 20] #[24] 3, js 7 21 3]
abbrev o113_7 := rg [jm 22 6 146, oA 23 (cB .real #[tm 22] #[146]) 160, oA 24 (.convert 160 3 (tm 23)) 3, jm 25 7 3, jx 26 120 #[tm 24, tm 25] #[3, 3] 3, jm 27 6 146, oA 28 (cB .imag #[tm 27] #[146]) 160, oA 29 (.convert 160 3 (tm 28)) 3, jm 30 7 3, jx 31 120 #[tm 29, tm 30] #[3, 3] 3, oA 32 (.build 24 #[(0, (tm 26)), (1, (tm 31))]) 24, ja 8 24, jt 24 8 32]
abbrev o113_9 := rg [jl 33 24 2, jx 34 112 #[tm 33] #[24] 146, jl 35 24 8, jx 36 112 #[tm 35] #[24] 146, jl 37 24 3, jx 38 112 #[tm 37] #[24] 146, jb 39 .mul 146 36 38 146 146, jb 40 .sub 146 34 39 146 146, js 9 40 146]
abbrev o113_11 := rg [jl 41 24 8, jm 42 9 146, oA 43 (cB .real #[tm 42] #[146]) 160, oA 44 (.convert 160 3 (tm 43)) 3, jm 45 9 146, oA 46 (cB .imag #[tm 45] #[146]) 160, oA 47 (.convert 160 3 (tm 46)) 3, oA 48 (.build 24 #[(0, (tm 44)), (1, (tm 47))]) 24, jt 24 4 41, jt 24 5 48]
def c113_0 : AC := .seq o113_1 (.seq o113_3 (.seq o113_5 (.seq o113_7 (.seq o113_9 (.seq o113_11 .ret)))))
def r113_0 := qS 113 c113_0 rfl
theorem y5c : q0h Cx 113 = some c113_0 := by kernel_rfl
theorem w4q : q0p Cx 113 = some [.cell 4 24, .cell 5 24] := by kernel_rfl
theorem j6e : Cx.pure 113 = true := by kernel_rfl
abbrev o114_1 := rg [oA 2 (.assign kF) 4]
abbrev o114_3 := rg [jm 3 0 3, jm 4 0 3, jb 5 .neq 3 3 4 3 4, js 2 5 4]
def c114_0 : AC := .seq o114_1 (.seq o114_3 .ret)
def r114_0 := qS 114 c114_0 rfl
theorem y5d : q0h Cx 114 = some c114_0 := by kernel_rfl
theorem w4r : q0p Cx 114 = some [.tmp 2] := by kernel_rfl
theorem x3v : Cx.pure 114 = true := by kernel_rfl
abbrev o115_1 := rg [ji 4 0 3]
abbrev o115_3 := rg [jm 5 0 9, jm 6 1 9, jx 7 121 #[tm 5, tm 6] #[9, 9] 3, js 4 7 3]
def c115_0 : AC := .seq o115_1 (.seq o115_3 .ret)
def r115_0 := qS 115 c115_0 rfl
theorem y5e : q0h Cx 115 = some c115_0 := by kernel_rfl
theorem w4s : q0p Cx 115 = some [.tmp 4] := by kernel_rfl
theorem y5f : Cx.pure 115 = true := by kernel_rfl
abbrev o116_1 := rg [oA 4 (.assign (.const .nilIface)) 155]
abbrev o116_3 := rg [jm 5 0 151, jx 6 122 #[tm 5] #[151] 0]
abbrev o116_5 := rg [jm 7 0 151, jm 8 0 151, jn 9 8, jf 10 153 9 1, jl 11 127 10, jm 12 1 5, oA 13 (.buildSlice 127 1 #[(0, (tm 12))]) 127, oA 14 (cB .append #[tm 11, tm 13] #[127, 127]) 127, jn 15 7, jf 16 153 15 1, jt 127 16 14]
abbrev o116_7 := rg [oA 4 (.assign (.const .nilIface)) 155]
def c116_0 : AC := .seq o116_1 (.seq o116_3 (.seq o116_5 (.seq o116_7 .ret)))
def r116_0 := qS 116 c116_0 rfl
theorem y5g : q0h Cx 116 = some c116_0 := by kernel_rfl
theorem y1s : q0p Cx 116 = some [.tmp 4] := by kernel_rfl
theorem y5h : Cx.pure 116 = false := by kernel_rfl
abbrev o117_1 := rg [ji 4 0 3, oA 5 (.assign (.const .nilIface)) 155]
abbrev o117_3 := rg [jm 6 0 151, jx 7 122 #[tm 6] #[151] 0]
abbrev o117_5 := rg [jm 8 0 151, jm 9 0 151, jn 10 9, jf 11 153 10 1, jl 12 127 11, jm 13 1 9, oA 14 (cB .append #[tm 12, tm 13] #[127, 9]) 127, jn 15 8, jf 16 153 15 1, jt 127 16 14]
abbrev o117_7 := rg [jm 17 1 9, oA 18 (cB .len #[tm 17] #[9]) 3, js 4 18 3, oA 5 (.assign (.const .nilIface)) 155]
def c117_0 : AC := .seq o117_1 (.seq o117_3 (.seq o117_5 (.seq o117_7 .ret)))
def r117_0 := qS 117 c117_0 rfl
theorem y5i : q0h Cx 117 = some c117_0 := by kernel_rfl
theorem j8b : q0p Cx 117 = some [.tmp 4, .tmp 5] := by kernel_rfl
theorem y5j : Cx.pure 117 = false := by kernel_rfl
abbrev o119_1 := rg [ji 4 0 3]
abbrev o119_3 := rg [jm 5 0 9, jm 6 1 5, jx 7 123 #[tm 5, tm 6] #[9, 5] 3, js 4 7 3]
def c119_0 : AC := .seq o119_1 (.seq o119_3 .ret)
def r119_0 := qS 119 c119_0 rfl
theorem y5k : q0h Cx 119 = some c119_0 := by kernel_rfl
theorem w4t : q0p Cx 119 = some [.tmp 4] := by kernel_rfl
theorem y5l : Cx.pure 119 = true := by kernel_rfl
abbrev o120_1 := rg [ji 4 0 3]
abbrev o120_3 := rg [jm 7 0 3, jB 8 .mul 3 (ci 2) (tm 7) 3 3, jm 9 1 3, jb 10 .add 3 8 9 3 3, js 5 10 3]
abbrev o120_5 := rg [jm 11 5 3, jm 12 1 3, jB 13 .mul 3 (ci 2) (tm 12) 3 3, jb 14 .quo 3 11 13 3 3, js 6 14 3]
abbrev o120_8 := rg [jm 15 5 3, jm 16 1 3, jB 17 .mul 3 (ci 2) (tm 16) 3 3, jb 18 .rem 3 15 17 3 3, jB 19 .lss 3 (tm 18) (ci 0) 3 4]
abbrev o120_10 := rg [jm 20 6 3, jB 21 .sub 3 (tm 20) (ci 1) 3 3, js 6 21 3]
abbrev o120_13 := rg [jm 22 6 3, js 4 22 3]
def c120_0 : AC := .seq o120_1 (.seq o120_3 (.seq o120_5 (.seq (.seq o120_8 (.cond (tm 19) o120_10 .skip)) (.seq o120_13 .ret))))
def r120_0 := qS 120 c120_0 rfl
theorem y5m : q0h Cx 120 = some c120_0 := by kernel_rfl
theorem y1t : q0p Cx 120 = some [.tmp 4] := by kernel_rfl
theorem x3w : Cx.pure 120 = true := by kernel_rfl
end
end Go.Proofs.YtckhmpcmlochpaaGreat.G

namespace Go.Proofs.YtckhmpcmlochpaaGreat.G
open Go.BX
variable {fn : FuncId} {T : Nat → AV} {ds : List ADef} {ro : Option Nat} {k : List AItem} {Q : AV → AHeap → Prop} {dst : Option Nat} {os : List AO}
theorem z2c : Cx.pure 122 = false := by kernel_rfl
theorem z8s : Cx.ext 122 = some (z3l 153) := rfl
theorem x8o : Cx.pure 118 = false := by kernel_rfl
theorem y5n : Cx.ext 118 = some (y0r 153 5) := rfl
theorem q6b {n : Nat} {A : Nat → Blk} {b : Nat} {g : Option Nat} {acc : Bytes} {x : UInt8} (h : IsB 153 5 ⟨n, A⟩ b g acc) (hm : acc.length + 1 ≤ q2m)
  (hk : ∀ H' z, IsB 153 5 H' b (some z) (acc ++ [x]) → Kept ⟨n, A⟩ H' b g (some z) → q0d Cx fn (putA T dst .nilI) ds ro os k H' Q) :
  q0g Cx fn T ds ro 116 [.ptr b 2 0 0, .int .u8 (x.toNat : Int)] dst os k ⟨n, A⟩ Q := by
 refine q0s y5h (q0l _) y5g ?_
 obtain ⟨lt, ⟨a, ha, hb⟩, hbuf⟩ := h
 have lt' : b < n := lt
 have e1 : (b = n) = False := eq_false (by omega)
 have e3 : (b = n + 1) = False := eq_false (by omega)
 have e6 : (n + 1 = b) = False := eq_false (by omega)
 have hm1 : 1 ≤ q2m := by unfold q2m; omega
 cases g with
 | none =>
  have y0c : acc = [] := hbuf
  subst y0c
  have hb' : A b = .cells 153 2 [[a, .nilS]] := hb
  have fin : ∀ A', A' b = .cells 153 2 [[.ptr b 2 0 0, .slc (n + 1) 1 0 1]] → A' (n + 1) = .cells 5 1 [[.int .u8 (x.toNat : Int)]] → (∀ d, d < n → d ≠ b → A' d = A d) → q0d Cx fn (putA T dst .nilI) ds ro os k ⟨n + 1 + 1, A'⟩ Q := by
   intro A' h1 h2 h3
   refine hk _ (n + 1) ⟨(by show b < n + 1 + 1; omega), ⟨_, .inr rfl, h1⟩, (by omega), (by show n + 1 < n + 1 + 1; omega), h2⟩ ⟨(by show n ≤ n + 1 + 1; omega), fun d hd hd2 _ => h3 d hd hd2, .inr ⟨n + 1, rfl, (by show n ≤ n + 1; omega)⟩⟩
  rcases ha with rfl | rfl <;>
  (simp only [hb', e1, e3, hm1, q7b z2c z8s, z3l, q0i, q1n, q2c, q3a, Nat.mul_one, r116_0, y1s, tt, bb, bc, ↓bd, Nat.reduceEqDiff, Nat.reduceAdd, Nat.reduceLeDiff, ↓reduceIte, reduceCtorEq, List.reduceReplicate]
   refine fin _ ?_ ?_ ?_
   ·simp only [q0b, ↓reduceIte]
   ·simp only [q0b, e6, ↓reduceIte]
   ·intro d h1 h2
    simp only [q0b, h2, show (d = n) = False from eq_false (by omega), show (d = n + 1) = False from eq_false (by omega), ↓reduceIte])
 | some g =>
  obtain ⟨hgb, hgn, hg⟩ := hbuf
  have hgn' : g < n := hgn
  have hg' : A g = .cells 5 1 (q0v acc) := hg
  have hb' : A b = .cells 153 2 [[a, .slc g 1 0 acc.length]] := hb
  have f1 : (g = n) = False := eq_false (by omega)
  have f5 : (g = b) = False := eq_false hgb
  have f6 : (b = g) = False := eq_false (fun e => hgb e.symm)
  have f7 : (acc.length ≤ (q0v acc).length) = True := eq_true (by rw [q3g]; omega)
  have f8 : acc.length + 1 ≤ q2m := hm
  have fin : ∀ A', A' b = .cells 153 2 [[.ptr b 2 0 0, .slc (n + 1) 1 0 (acc.length + 1)]] → A' (n + 1) = .cells 5 1 (q0v acc ++ [[.int .u8 (x.toNat : Int)]]) → (∀ d, d < n → d ≠ b → d ≠ g → A' d = A d) → q0d Cx fn (putA T dst .nilI) ds ro os k ⟨n + 1 + 1, A'⟩ Q := by
   intro A' h1 h2 h3
   rw [j0d] at h2
   refine hk _ (n + 1) ⟨(by show b < n + 1 + 1; omega), ⟨_, .inr rfl, by rw [List.length_append]; exact h1⟩, (by omega), (by show n + 1 < n + 1 + 1; omega), h2⟩ ⟨(by show n ≤ n + 1 + 1; omega), fun d hd hd2 hd3 => h3 d hd hd2 (fun e => hd3 (by rw [e])), .inr ⟨n + 1, rfl, (by show n ≤ n + 1; omega)⟩⟩
  rcases ha with rfl | rfl <;>
  (simp only [hb', hg', e1, e3, f1, f5, f6, f7, f8, q5v, q7b z2c z8s, z3l, q0i, q1n, q2c, q3a, Nat.mul_one, r116_0, y1s, tt, bb, bc, ↓bd, Nat.reduceEqDiff, Nat.reduceAdd, Nat.reduceLeDiff, ↓reduceIte, reduceCtorEq, List.reduceReplicate]
   refine fin _ ?_ ?_ ?_
   ·simp only [q0b, ↓reduceIte]
   ·simp only [q0b, e6, ↓reduceIte]
   ·intro d h1 h2 h3
    simp only [q0b, h2, h3, show (d = n) = False from eq_false (by omega), show (d = n + 1) = False from eq_false (by omega), ↓reduceIte])
end Go.Proofs.YtckhmpcmlochpaaGreat.G
namespace Go.Proofs.YtckhmpcmlochpaaGreat.G
open Go.BX
variable {fn : FuncId} {T : Nat → AV} {ds : List ADef} {ro : Option Nat} {k : List AItem} {Q : AV → AHeap → Prop} {dst : Option Nat} {os : List AO}
theorem z3n {n : Nat} {A : Nat → Blk} {b : Nat} {g : Option Nat} {acc s : Bytes} (h : IsB 153 5 ⟨n, A⟩ b g acc) (hm : acc.length + s.length ≤ q2m)
  (hk : ∀ H' g', IsB 153 5 H' b g' (acc ++ s) → Kept ⟨n, A⟩ H' b g g' → q0d Cx fn (putA T dst (.tuple [.int .i64 (s.length : Int), .nilI])) ds ro os k H' Q) :
  q0g Cx fn T ds ro 117 [.ptr b 2 0 0, .str s] dst os k ⟨n, A⟩ Q := by
 refine q0s y5j (q0l _) y5i ?_
 obtain ⟨lt, ⟨a, ha, hb⟩, hbuf⟩ := h
 have lt' : b < n := lt
 have e1 : (b = n) = False := eq_false (by omega)
 have e2 : (n = b) = False := eq_false (by omega)
 have hl : s.length ≤ q2m := by omega
 by_cases hs : s = []
 ·subst hs
  have hz : (q0v ([] : Bytes) = []) = True := eq_true rfl
  cases g with
  | none =>
   have y0c : acc = [] := hbuf
   subst y0c
   have hb' : A b = .cells 153 2 [[a, .nilS]] := hb
   have fin : ∀ A', A' b = .cells 153 2 [[.ptr b 2 0 0, .nilS]] → (∀ d, d < n → d ≠ b → A' d = A d) → q0d Cx fn (putA T dst (.tuple [.int .i64 (([] : Bytes).length : Int), .nilI])) ds ro os k ⟨n, A'⟩ Q := by
    intro A' h1 h3
    exact hk _ none ⟨lt, ⟨_, .inr rfl, h1⟩, rfl⟩ ⟨Nat.le_refl _, fun d hd hd2 _ => h3 d hd hd2, .inl rfl⟩
   rcases ha with rfl | rfl <;>
   (simp only [hb', hz, q7b z2c z8s, z3l, q0i, q1n, q2c, q3a, r117_0, j8b, tt, bb, bc, ↓bd, Nat.reduceEqDiff, Nat.reduceAdd, ↓reduceIte, reduceCtorEq]
    refine fin _ ?_ ?_
    ·simp only [q0b, ↓reduceIte]
    ·intro d h1 h2
     simp only [q0b, h2, ↓reduceIte])
  | some g =>
   obtain ⟨hgb, hgn, hg⟩ := hbuf
   have hg' : A g = .cells 5 1 (q0v acc) := hg
   have hb' : A b = .cells 153 2 [[a, .slc g 1 0 acc.length]] := hb
   have f5 : (g = b) = False := eq_false hgb
   have f8 : acc.length ≤ q2m := by omega
   have fin : ∀ A', A' b = .cells 153 2 [[.ptr b 2 0 0, .slc g 1 0 acc.length]] → A' g = A g → (∀ d, d < n → d ≠ b → d ≠ g → A' d = A d) → q0d Cx fn (putA T dst (.tuple [.int .i64 (([] : Bytes).length : Int), .nilI])) ds ro os k ⟨n, A'⟩ Q := by
    intro A' h1 h2 h3
    refine hk _ (some g) ⟨lt, ⟨_, .inr rfl, by rw [List.append_nil]; exact h1⟩, hgb, hgn, by rw [List.append_nil]; exact h2.trans hg'⟩ ⟨Nat.le_refl _, fun d hd hd2 hd3 => h3 d hd hd2 (fun e => hd3 (by rw [e])), .inl rfl⟩
   rcases ha with rfl | rfl <;>
   (simp only [hb', hg', f5, f8, hz, q7b z2c z8s, z3l, q0i, q1n, q2c, q3a, Nat.mul_one, q3g, r117_0, j8b, tt, bb, bc, ↓bd, Nat.reduceEqDiff, Nat.reduceAdd, ↓reduceIte, reduceCtorEq]
    refine fin _ ?_ ?_ ?_
    ·simp only [q0b, ↓reduceIte]
    ·simp only [q0b, f5, ↓reduceIte]
    ·intro d h1 h2 h3
     simp only [q0b, h2, ↓reduceIte])
 ·have hz : (q0v s = []) = False := eq_false (by simpa [q0v] using hs)
  cases g with
  | none =>
   have y0c : acc = [] := hbuf
   subst y0c
   have hb' : A b = .cells 153 2 [[a, .nilS]] := hb
   have fin : ∀ A', A' b = .cells 153 2 [[.ptr b 2 0 0, .slc n 1 0 s.length]] → A' n = .cells 5 1 (q0v s) → (∀ d, d < n → d ≠ b → A' d = A d) → q0d Cx fn (putA T dst (.tuple [.int .i64 (s.length : Int), .nilI])) ds ro os k ⟨n + 1, A'⟩ Q := by
    intro A' h1 h2 h3
    exact hk _ (some n) ⟨(by show b < n + 1; omega), ⟨_, .inr rfl, h1⟩, (by omega), (by show n < n + 1; omega), h2⟩ ⟨(by show n ≤ n + 1; omega), fun d hd hd2 _ => h3 d hd hd2, .inr ⟨n, rfl, Nat.le_refl _⟩⟩
   rcases ha with rfl | rfl <;>
   (simp only [hb', e1, hz, hl, q7b z2c z8s, z3l, q0i, q1n, q2c, q3a, Nat.mul_one, q3g, r117_0, j8b, tt, bb, bc, ↓bd, Nat.reduceEqDiff, Nat.reduceAdd, ↓reduceIte, reduceCtorEq]
    refine fin _ ?_ ?_ ?_
    ·simp only [q0b, ↓reduceIte]
    ·simp only [q0b, e2, ↓reduceIte]
    ·intro d h1 h2
     simp only [q0b, h2, show (d = n) = False from eq_false (by omega), ↓reduceIte])
  | some g =>
   obtain ⟨hgb, hgn, hg⟩ := hbuf
   have hg' : A g = .cells 5 1 (q0v acc) := hg
   have hb' : A b = .cells 153 2 [[a, .slc g 1 0 acc.length]] := hb
   have f5 : (g = b) = False := eq_false hgb
   have f6 : (b = g) = False := eq_false (fun e => hgb e.symm)
   have f8 : acc.length + s.length ≤ q2m := hm
   have fin : ∀ A', A' b = .cells 153 2 [[.ptr b 2 0 0, .slc n 1 0 (acc.length + s.length)]] → A' n = .cells 5 1 (q0v acc ++ q0v s) → (∀ d, d < n → d ≠ b → d ≠ g → A' d = A d) → q0d Cx fn (putA T dst (.tuple [.int .i64 (s.length : Int), .nilI])) ds ro os k ⟨n + 1, A'⟩ Q := by
    intro A' h1 h2 h3
    rw [x0c] at h2
    refine hk _ (some n) ⟨(by show b < n + 1; omega), ⟨_, .inr rfl, by rw [List.length_append]; exact h1⟩, (by omega), (by show n < n + 1; omega), h2⟩ ⟨(by show n ≤ n + 1; omega), fun d hd hd2 hd3 => h3 d hd hd2 (fun e => hd3 (by rw [e])), .inr ⟨n, rfl, Nat.le_refl _⟩⟩
   rcases ha with rfl | rfl <;>
   (simp only [hb', hg', e1, f5, f6, f8, hz, q5v, q7b z2c z8s, z3l, q0i, q1n, q2c, q3a, Nat.mul_one, q3g, r117_0, j8b, tt, bb, bc, ↓bd, Nat.reduceEqDiff, Nat.reduceAdd, ↓reduceIte, reduceCtorEq]
    refine fin _ ?_ ?_ ?_
    ·simp only [q0b, ↓reduceIte]
    ·simp only [q0b, e2, ↓reduceIte]
    ·intro d h1 h2 h3
     simp only [q0b, h2, h3, show (d = n) = False from eq_false (by omega), ↓reduceIte])
theorem j6f {n : Nat} {A : Nat → Blk} {b g : Nat} {acc : Bytes} (h : IsB 153 5 ⟨n, A⟩ b (some g) acc) (h0 : acc ≠ []) (hm : acc.length ≤ maxLen) :
  q0g Cx fn T ds ro 118 [.ptr b 2 0 0] dst os k ⟨n, A⟩ Q = q0d Cx fn (putA T dst (.str acc)) ds ro os k ⟨n, upd A g .dead⟩ Q := by
 obtain ⟨lt, ⟨a, ha, hb⟩, hgb, hgn, hg⟩ := h
 have hg' : A g = .cells 5 1 (q0v acc) := hg
 have hb' : A b = .cells 153 2 [[a, .slc g 1 0 acc.length]] := hb
 rw [q7b x8o y5n]
 have hc : y0r 153 5 [.ptr b 2 0 0] ⟨n, A⟩ = some (.str acc, ⟨n, upd A g .dead⟩) := by
  unfold y0r
  simp only [hb', hg']
  rw [if_pos ⟨trivial, trivial, by simpa using h0, by rw [q3g]; omega, hm, by rw [q5v]; exact x8c acc⟩, q5v, q5i]
  rfl
 rw [hc]
 rfl
end Go.Proofs.YtckhmpcmlochpaaGreat.G
namespace Go.Proofs.YtckhmpcmlochpaaGreat.G
open Go.BX
theorem wr64 {n : Int} (h1 : -9223372036854775808 ≤ n) (h2 : n ≤ 9223372036854775807) : IntKind.i64.wrap n = n := by
 rw [IntKind.wrap_i64]; omega
structure Pr where
 key : Bytes
 k : Int
 n : Int
 s : Bytes
 x : Int
 y : Int
def j0z (p : Pr) : List AV := [.str p.key, .int .i64 p.k, .int .i64 p.n, .str p.s, .int .i64 p.x, .int .i64 p.y]
end Go.Proofs.YtckhmpcmlochpaaGreat.G

namespace Go.Proofs.YtckhmpcmlochpaaGreat.G
open Go.BX
theorem wr8 {n : Int} (h1 : 0 ≤ n) (h2 : n ≤ 255) : IntKind.u8.wrap n = n := by
 rw [IntKind.wrap_u8]; omega
theorem x3x {n : Int} (h1 : 0 ≤ n) (h2 : n ≤ 255) : (((UInt8.ofNat n.toNat).toNat : Nat) : Int) = n := by
 rw [UInt8.toNat_ofNat']; omega
theorem x3y {n : Int} (h1 : 0 ≤ n) (h2 : n ≤ 255) : IntKind.u8.wrap n = (((UInt8.ofNat n.toNat).toNat : Nat) : Int) := by
 rw [wr8 h1 h2, x3x h1 h2]
def x0y (d : Nat) : UInt8 := UInt8.ofNat (48 + d)
def z0c (m : Nat) : Bytes := if m < 10 then [x0y m] else z0c (m / 10) ++ [x0y (m % 10)]
termination_by m
decreasing_by omega
def z7a (n : Int) : Bytes := if n < 0 then 45 :: z0c (-n).toNat else z0c n.toNat
theorem q7c {m : Nat} (h : m < 10) : z0c m = [x0y m] := by rw [z0c, if_pos h]
theorem z0d {m : Nat} (h : ¬ m < 10) : z0c m = z0c (m / 10) ++ [x0y (m % 10)] := by rw [z0c, if_neg h]
theorem z1e : ∀ {k m : Nat}, m < 10 ^ (k + 1) → (z0c m).length ≤ k + 1
 | 0, m, h => by rw [q7c (by simpa using h)]; simp
 | k + 1, m, h => by
  by_cases h1 : m < 10
  ·rw [q7c h1]; simp
  ·rw [z0d h1, List.length_append, List.length_singleton]
   have := @z1e k (m / 10) (by rw [Nat.pow_succ] at h; omega)
   omega
theorem td10 {n : Int} (h : 0 ≤ n) : n.tmod 10 = n % 10 ∧ n.tdiv 10 = n / 10 := ⟨Int.tmod_eq_emod_of_nonneg h, Int.tdiv_eq_ediv_of_nonneg h⟩
def x0z (d : Nat) : UInt8 := if d < 10 then UInt8.ofNat (48 + d) else UInt8.ofNat (87 + d)
abbrev digits : Bytes := [48, 49, 50, 51, 52, 53, 54, 55, 56, 57, 97, 98, 99, 100, 101, 102]
theorem z6k {k : IntKind} {d : Int} (h0 : 0 ≤ d) (h1 : d < 16) : q4r Cx 9 (.str digits) (some (.int k d)) (some (.int k (d + 1))) none = some (.str [x0z d.toNat]) := by
 have : d = 0 ∨ d = 1 ∨ d = 2 ∨ d = 3 ∨ d = 4 ∨ d = 5 ∨ d = 6 ∨ d = 7 ∨ d = 8 ∨ d = 9 ∨ d = 10 ∨ d = 11 ∨ d = 12 ∨ d = 13 ∨ d = 14 ∨ d = 15 := by omega
 unfold q4r
 rw [x6r]
 rcases this with rfl | rfl | rfl | rfl | rfl | rfl | rfl | rfl | rfl | rfl | rfl | rfl | rfl | rfl | rfl | rfl <;> rfl
theorem x8p {d : Nat} (h : d < 10) : x0z d = x0y d := by unfold x0z x0y; rw [if_pos h]
def PD (r : AV) (n : Int) (out : Bytes) : Prop :=
 ∀ (T : Nat → AV) (H : AHeap), T 0 = .int .i64 n → T 3 = .str out →
  Run Cx 105 T [] none [.inLoop c105_14, .inBlock 0] H (fun r0 H' => BX.freeze H' r0 = some r)
theorem x3z {n : Int} {out : Bytes} {r : AV} (h0 : 0 ≤ n) (hn : n ≤ 9007199254740992) (hl : out.length ≤ 1000) (hp : n / 10 = 0 ∧ r = .str (x0y (n % 10).toNat :: out) ∨ ¬ n / 10 = 0 ∧ PD r (n / 10) (x0y (n % 10).toNat :: out)) : PD r n out := by
 intro T H t0 t3
 rw [run_inLoop]
 obtain ⟨t1, t2⟩ := td10 (n := n) (by omega)
 have w1 : IntKind.i64.wrap (n % 10 + 1) = n % 10 + 1 := wr64 (by omega) (by omega)
 have w3 : IntKind.i64.wrap (n / 10) = n / 10 := wr64 (by omega) (by omega)
 have z : ((10 : Int) = 0) = False := by simp
 have hs := z6k (k := .i64) (d := n % 10) (by omega) (by omega)
 rw [x8p (by omega)] at hs
 have q2u : (1 + out.length ≤ 9223372036854775807) = True := eq_true (by omega)
 rcases hp with ⟨hz, rfl⟩ | ⟨hz, hp⟩
 ·have w0 : IntKind.i64.wrap 0 = 0 := rfl
  simp only [t0, t3, t1, t2, w0, w1, z, hs, hz, q2u, evo, r105_0, y1o, tt, bb, bc, ↓bd, Nat.reduceEqDiff, ↓reduceIte, reduceCtorEq]
 ·have hz' : (n / 10 == 0) = false := by simpa using hz
  simp only [t0, t3, t1, t2, w1, w3, z, hs, hz', q2u, evo, q1a, r105_0, tt, bb, ↓bd, Nat.reduceEqDiff, ↓reduceIte, reduceCtorEq]
  refine hp _ _ ?_ ?_
  all_goals simp only [q0b, Nat.reduceEqDiff, ↓reduceIte]
theorem w4u : ∀ (m : Nat) (out : Bytes), m ≤ 9007199254740992 → out.length + (z0c m).length ≤ 1000 → PD (.str (z0c m ++ out)) (m : Int) out := by
 intro m
 induction m using Nat.strongRecOn with
 | _ m ih =>
  intro out hm hl
  have e2 : ((m : Int) % 10).toNat = m % 10 := by omega
  by_cases h : m < 10
  ·rw [q7c h] at hl ⊢
   refine x3z (by omega) (by omega) (by omega) (.inl ⟨by omega, ?_⟩)
   rw [e2, Nat.mod_eq_of_lt h]; rfl
  ·rw [z0d h] at hl ⊢
   rw [List.length_append, List.length_singleton] at hl
   refine x3z (by omega) (by omega) (by omega) (.inr ⟨by omega, ?_⟩)
   rw [e2, show (m : Int) / 10 = ((m / 10 : Nat) : Int) by omega]
   have := ih (m / 10) (by omega) (x0y (m % 10) :: out) (by omega) (by rw [List.length_cons]; omega)
   rwa [List.append_assoc]
theorem z6l (n : Int) (h0 : 0 ≤ n) (hn : n ≤ 9007199254740992) : q0k Cx 105 [.int .i64 n] (.str (z0c n.toNat)) := by
 refine q0c (q0l _) x3r ?_
 have h1 : ¬ n < 0 := by omega
 have hp : PD (.str (z0c n.toNat)) n [] := by
  have hl := z1e (k := 15) (m := n.toNat) (by omega)
  have := w4u n.toNat [] (by omega) (by rw [List.length_nil]; omega)
  rwa [List.append_nil, show ((n.toNat : Nat) : Int) = n by omega] at this
 simp only [h1, r105_0.1, tt, bb, ↓bd, ↓reduceIte, reduceCtorEq]
 refine hp _ _ ?_ ?_
 all_goals simp only [q0b, q1g, List.getElem?_cons_zero, Option.getD_some, Nat.reduceEqDiff, ↓reduceIte]
theorem z4b (n : Int) (hn : n ≤ 9007199254740992) : (z0c n.toNat).length ≤ 16 := z1e (k := 15) (by omega)
theorem q7d (n : Int) (hn : -9007199254740992 ≤ n ∧ n ≤ 9007199254740992) : (z7a n).length ≤ 17 := by
 unfold z7a
 split
 ·rw [List.length_cons]; have := z4b (-n) (by omega); omega
 ·have := z4b n (by omega); omega
theorem z2d (n : Int) (hn : -9007199254740992 ≤ n ∧ n ≤ 9007199254740992) : q0k Cx 105 [.int .i64 n] (.str (z7a n)) := by
 unfold z7a
 by_cases h : n < 0
 ·rw [if_pos h]
  have hd := z6l (-n) (by omega) (by omega)
  refine q0c (q0l _) x3r ?_
  have w : IntKind.i64.wrap (0 - n) = -n := by rw [wr64 (by omega) (by omega), Int.zero_sub]
  have hl := z4b (-n) (by omega)
  have q2u : (1 + (z0c (-n).toNat).length ≤ 9223372036854775807) = True := eq_true (by omega)
  simp only [h, w, q2u, q0a j0h rfl hd, r105_0, y1o, tt, bb, bc, ↓bd, ↓reduceIte, reduceCtorEq]
 ·rw [if_neg h]
  exact z6l n (by omega) (by omega)
theorem x4a (m : Nat) (hm : m ≤ 9007199254740992) : q0k Cx 87 [.int .i64 (m : Int)] (.str (z0c m)) := by
 induction m using Nat.strongRecOn with
 | _ m ih =>
  refine q0c (q0l _) y1k ?_
  have h0 : ¬ (m : Int) < 0 := by omega
  by_cases h : m < 10
  ·have h2 : (m : Int) < 10 := by omega
   have w1 : IntKind.i64.wrap (48 + (m : Int)) = 48 + (m : Int) := wr64 (by omega) (by omega)
   have w2 := x3y (n := 48 + (m : Int)) (by omega) (by omega)
   have hb : BX.byteOf [AV.int .u8 (((UInt8.ofNat (48 + (m : Int)).toNat).toNat : Nat) : Int)] = some (x0y m) := by
    rw [x3x (by omega) (by omega)]
    show some (UInt8.ofNat (48 + (m : Int)).toNat) = some (UInt8.ofNat (48 + m))
    congr 2
   rw [q7c h]
   simp only [h0, h2, w1, w2, hb, bytesOf, r87_0, y4n, tt, bb, bc, ↓bd, Nat.reduceMul, Nat.reduceLeDiff, ↓reduceIte, reduceCtorEq, List.reduceReplicate]
  ·have h2 : ¬ (m : Int) < 10 := by omega
   obtain ⟨t1, t2⟩ := td10 (n := m) (by omega)
   have w3 : IntKind.i64.wrap ((m : Int) / 10) = ((m / 10 : Nat) : Int) := by rw [wr64 (by omega) (by omega)]; omega
   have e1 : (m : Int) % 10 = ((m % 10 : Nat) : Int) := by omega
   have z : ((10 : Int) = 0) = False := by simp
   have r1 := ih (m / 10) (by omega) (by omega)
   have r2 := ih (m % 10) (by omega) (by omega)
   rw [q7c (by omega)] at r2
   have hl := z1e (k := 15) (m := m / 10) (by omega)
   have q2u : ((z0c (m / 10)).length + 1 ≤ 9223372036854775807) = True := eq_true (by omega)
   rw [z0d h]
   simp only [h0, h2, t1, t2, w3, e1, z, q2u, q0a z8r rfl r1, q0a z8r rfl r2, r87_0, y4n, tt, bb, bc, ↓bd, Nat.reduceEqDiff, ↓reduceIte, reduceCtorEq]
theorem x4b (n : Int) (hn : -9007199254740992 ≤ n ∧ n ≤ 9007199254740992) : q0k Cx 87 [.int .i64 n] (.str (z7a n)) := by
 unfold z7a
 by_cases h : n < 0
 ·rw [if_pos h]
  have hd := x4a (-n).toNat (by omega)
  rw [show (((-n).toNat : Nat) : Int) = -n by omega] at hd
  refine q0c (q0l _) y1k ?_
  have w : IntKind.i64.wrap (0 - n) = -n := by rw [wr64 (by omega) (by omega), Int.zero_sub]
  have hl := z4b (-n) (by omega)
  have q2u : (1 + (z0c (-n).toNat).length ≤ 9223372036854775807) = True := eq_true (by omega)
  simp only [h, w, q2u, q0a z8r rfl hd, r87_0, y4n, tt, bb, bc, ↓bd, ↓reduceIte, reduceCtorEq]
 ·rw [if_neg h]
  have hd := x4a n.toNat (by omega)
  rwa [show ((n.toNat : Nat) : Int) = n by omega] at hd
def q3z (n : Int) : Bool := ((decide (32 ≤ n) && decide (n ≤ 126)) && n != 34) && n != 92
def q7h (c : UInt8) : Bool := q3z (c.toNat : Int)
theorem z4c (n : Int) : q0k Cx 93 [.int .u8 n] (.bool (q3z n)) := by
 refine q0c (q0l _) w3y ?_
 unfold q3z
 by_cases h1 : 32 ≤ n <;> by_cases h2 : n ≤ 126 <;> cases h3 : (n != 34) <;>
 simp only [h1, h2, h3, r93_0, w9n, tt, bb, bc, ↓bd, Nat.reduceEqDiff, ↓reduceIte, reduceCtorEq]
theorem q5k (n : Int) : q0k Cx 88 [.int .u8 n] (.bool (q3z n)) := by
 refine q0c (q0l _) w3s ?_
 unfold q3z
 by_cases h1 : 32 ≤ n <;> by_cases h2 : n ≤ 126 <;> cases h3 : (n != 34) <;>
 simp only [h1, h2, h3, r88_0, w9m, tt, bb, bc, ↓bd, Nat.reduceEqDiff, ↓reduceIte, reduceCtorEq]
def q1 (c : UInt8) : Bytes := if q7h c then [c] else [92, x0z (c.toNat / 16), x0z (c.toNat % 16)]
def w4v (s : Bytes) : Bytes := s.flatMap q1
def quoS (s : Bytes) : Bytes := 34 :: (w4v s ++ [34])
theorem y1u (c : UInt8) : (q1 c).length ≤ 3 := by unfold q1; split <;> simp
theorem j3s (c : UInt8) (s : Bytes) : w4v (c :: s) = q1 c ++ w4v s := rfl
theorem td16 {n : Int} (h : 0 ≤ n) : n.tmod 16 = n % 16 ∧ n.tdiv 16 = n / 16 := ⟨Int.tmod_eq_emod_of_nonneg h, Int.tdiv_eq_ediv_of_nonneg h⟩
def PQ (s : Bytes) (r : AV) (i : Nat) (acc : Bytes) : Prop :=
 ∀ (T : Nat → AV) (H : AHeap) (g : Nat), T 0 = .str s → T 3 = .ptr 0 2 0 0 → T 8 = .int .i64 (s.length : Int) → T 9 = .int .i64 (i : Int) → IsB 153 5 H 0 (some g) acc →
  Run Cx 106 T [] none [.inLoop c106_11, .inBlock 0, .code c106_29] H (fun r0 H' => BX.freeze H' r0 = some r)
theorem w4w {s acc : Bytes} (hl : acc.length ≤ 1000000) : PQ s (.str (acc ++ [34])) s.length acc := by
 intro T H g t0 t3 t8 t9 hB
 obtain ⟨n, A⟩ := H
 rw [run_inLoop]
 have h0 : ((s.length : Int) < (s.length : Int)) = False := by simp
 simp only [t3, t8, t9, h0, q2i, q7u, q7v, q5e, r106_0, tt, bb, bc, ↓bd, Nat.reduceEqDiff, ↓reduceIte]
 refine q6b (x := 34) hB (by unfold q2m; omega) ?_
 intro H' z hB' _
 obtain ⟨n', A'⟩ := H'
 simp only [t3, tt, bb, bc, ↓bd, Nat.reduceEqDiff, ↓reduceIte]
 rw [j6f hB' (by simp) (by unfold maxLen; rw [List.length_append, List.length_singleton]; omega)]
 simp only [w4n, tt, bb, bc, ↓bd, ↓reduceIte]
theorem y5o {s acc : Bytes} {i : Nat} {c : UInt8} {r : AV} (hi : s[i]? = some c) (hs : s.length ≤ 100000) (hl : acc.length ≤ 1000000) (hp : PQ s r (i + 1) (acc ++ q1 c)) : PQ s r i acc := by
 intro T H g t0 t3 t8 t9 hB
 obtain ⟨n, A⟩ := H
 rw [run_inLoop]
 have hlt : i < s.length := (List.getElem?_eq_some_iff.mp hi).1
 have h0 : ((i : Int) < (s.length : Int)) = True := eq_true (by omega)
 have w1 : IntKind.i64.wrap ((i : Int) + 1) = ((i + 1 : Nat) : Int) := by rw [wr64 (by omega) (by omega)]; omega
 have hcu := c.toNat_lt
 have hc0 : (0 : Int) ≤ (i : Int) := by omega
 have hpl := z4c (c.toNat : Int)
 unfold q1 at hp
 by_cases hc : q7h c = true
 ·have hc' : q3z (c.toNat : Int) = true := hc
  rw [if_pos hc] at hp
  simp only [t0, t3, t8, t9, h0, hi, hc', hc0, q0n, Int.toNat_natCast, q0a z6i rfl hpl, r106_0, tt, bb, bc, ↓bd, Nat.reduceEqDiff, ↓reduceIte, reduceCtorEq]
  refine q6b hB (by unfold q2m; omega) ?_
  intro H' z hB' _
  simp only [t9, w1, q1a, tt, bb, ↓bd, Nat.reduceEqDiff, ↓reduceIte]
  refine hp _ _ z ?_ ?_ ?_ ?_ hB'
  all_goals simp only [q0b, t0, t3, t8, Nat.reduceEqDiff, ↓reduceIte]
 ·have hc' : q3z (c.toNat : Int) = false := by
   show q7h c = false
   simpa using hc
  rw [if_neg hc] at hp
  obtain ⟨t1, t2⟩ := td16 (n := c.toNat) (by omega)
  have z16 : ((16 : Int) = 0) = False := by simp
  have w2 : IntKind.u8.wrap ((c.toNat : Int) / 16) = (c.toNat : Int) / 16 := wr8 (by omega) (by omega)
  have w3 : IntKind.u8.wrap ((c.toNat : Int) / 16 + 1) = (c.toNat : Int) / 16 + 1 := wr8 (by omega) (by omega)
  have w4 : IntKind.u8.wrap ((c.toNat : Int) % 16 + 1) = (c.toNat : Int) % 16 + 1 := wr8 (by omega) (by omega)
  have s1 := z6k (k := .u8) (d := (c.toNat : Int) / 16) (by omega) (by omega)
  have s2 := z6k (k := .u8) (d := (c.toNat : Int) % 16) (by omega) (by omega)
  rw [show ((c.toNat : Int) / 16).toNat = c.toNat / 16 by omega] at s1
  rw [show ((c.toNat : Int) % 16).toNat = c.toNat % 16 by omega] at s2
  simp only [t0, t3, t8, t9, h0, hi, hc', hc0, t1, t2, z16, w2, w3, w4, s1, s2, evo, q0n, Int.toNat_natCast, q0a z6i rfl hpl, r106_0, tt, bb, bc, ↓bd, Nat.reduceEqDiff, Nat.reduceAdd, Nat.reduceLeDiff, ↓reduceIte, reduceCtorEq]
  refine z3n hB (by unfold q2m; simp; omega) ?_
  intro H' g' hB' _
  have hg : ∃ z, g' = some z := by
   cases g' with
   | some z => exact ⟨z, rfl⟩
   | none => have := hB'.buf; simp at this
  obtain ⟨z, rfl⟩ := hg
  simp only [t9, w1, q1a, tt, bb, ↓bd, Nat.reduceEqDiff, Nat.reduceAdd, ↓reduceIte]
  refine hp _ _ z ?_ ?_ ?_ ?_ hB'
  all_goals simp only [q0b, t0, t3, t8, Nat.reduceEqDiff, ↓reduceIte]
theorem y1v {s : Bytes} (hs : s.length ≤ 100000) : ∀ (j i : Nat) (acc : Bytes), i + j = s.length → acc.length ≤ 1 + 3 * i → PQ s (.str (acc ++ (w4v (s.drop i) ++ [34]))) i acc
 | 0, i, acc, hij, hl => by
  have e : i = s.length := by omega
  subst e
  rw [List.drop_length]
  exact w4w (by omega)
 | j + 1, i, acc, hij, hl => by
  have hi : i < s.length := by omega
  have hd : s.drop i = s[i] :: s.drop (i + 1) := List.drop_eq_getElem_cons hi
  rw [hd, j3s]
  have := y1v hs j (i + 1) (acc ++ q1 s[i]) (by omega) (by rw [List.length_append]; have := y1u s[i]; omega)
  simp only [List.append_assoc] at this ⊢
  exact y5o (List.getElem?_eq_getElem hi) hs (by omega) this
theorem x4c (s : Bytes) (hs : s.length ≤ 100000) : q0k Cx 106 [.str s] (.str (quoS s)) := by
 refine q0c (q0l _) y4v ?_
 have hp := y1v hs s.length 0 [34] (by omega) (by simp)
 simp only [r106_0.1, tt, bb, bc, ↓bd, ↓reduceIte]
 refine q6b (x := 34) (g := none) (acc := []) ⟨by show 0 < 1; omega, ⟨.nilP, .inl rfl, by simp only [q0b, ↓reduceIte]⟩, rfl⟩ (by unfold q2m; simp) ?_
 intro H' z hB _
 simp only [tt, bb, bc, ↓bd, ↓reduceIte, reduceCtorEq]
 refine hp _ _ z ?_ ?_ ?_ ?_ hB
 all_goals simp only [q0b, q1g, List.getElem?_cons_zero, Option.getD_some, Nat.reduceEqDiff, ↓reduceIte, Int.ofNat_zero]
 all_goals rfl
abbrev spot (x y : Int) : AV := .agg [.int .i64 x, .int .i64 y]
abbrev val (k n : Int) (s : Bytes) (x y : Int) : AV := .agg [.int .i64 k, .int .i64 n, .str s, .int .i64 x, .int .i64 y]
def inR (n : Int) : Bool := decide (-16777216 ≤ n) && decide (n ≤ 16777216)
theorem inside_ok (x : Int) : q0k Cx 47 [.int .i64 x] (.bool (inR x)) := by
 refine q0c (q0l _) y1b ?_
 by_cases h : -16777216 ≤ x <;>
 simp only [h, inR, r47_0, w1e, tt, bb, bc, ↓bd, Nat.reduceEqDiff, ↓reduceIte, reduceCtorEq, Int.reduceNeg]
theorem j3t (x y : Int) : q0k Cx 26 [spot x y] (.bool (inR x && inR y)) := by
 refine q0c (q0l _) y0z ?_
 by_cases h : inR x = true
 ·simp only [h, spot, q0a j7w rfl (inside_ok x), q0a j7w rfl (inside_ok y), r26_0, x8j, tt, bb, bc, ↓bd, Nat.reduceEqDiff, Nat.reduceAdd, ↓reduceIte]
 ·simp only [Bool.not_eq_true] at h
  simp only [h, spot, q0a j7w rfl (inside_ok x), r26_0, x8j, tt, bb, bc, ↓bd, Nat.reduceEqDiff, Nat.reduceAdd, ↓reduceIte]
def q1j (k n : Int) (s : Bytes) (x y : Int) : Bool :=
 if k = 0 then ((decide (-9007199254740992 ≤ n) && decide (n ≤ 9007199254740992)) && !(s != [])) && !(!((x == 0) && (y == 0)))
 else if k = 1 then (decide ((s.length : Int) ≤ 4096) && !(n != 0)) && !(!((x == 0) && (y == 0)))
 else if k = 2 then ((inR x && inR y) && !(n != 0)) && !(s != [])
 else false
theorem Right_ok (k n : Int) (s : Bytes) (x y : Int) : q0k Cx 14 [val k n s x y] (.bool (q1j k n s x y)) := by
 refine q0c (q0l _) y9r ?_
 unfold q1j
 by_cases h0 : k = 0
 ·subst h0
  cases h1 : decide (-9007199254740992 ≤ n) with
  | false => simp only [h1, Bool.false_and, r14_0, j3k, tt, bb, bc, ↓bd, Nat.reduceEqDiff, Nat.reduceAdd, ↓reduceIte, Int.reduceNeg]
  | true =>
   cases h2 : decide (n ≤ 9007199254740992) with
   | false => simp only [h1, h2, Bool.false_and, r14_0, j3k, tt, bb, bc, ↓bd, Nat.reduceEqDiff, Nat.reduceAdd, ↓reduceIte, Int.reduceNeg]
   | true =>
    cases h3 : (s != []) <;>
    simp only [h1, h2, h3, Bool.false_and, Bool.true_and, r14_0, j3k, tt, bb, bc, ↓bd, Nat.reduceEqDiff, Nat.reduceAdd, ↓reduceIte, Int.reduceNeg]
 ·have e0 : (k == 0) = false := by simpa using h0
  by_cases h1 : k = 1
  ·subst h1
   cases h2 : decide ((s.length : Int) ≤ 4096) with
   | false => simp only [h2, Bool.false_and, r14_0, j3k, tt, bb, bc, ↓bd, Nat.reduceEqDiff, Nat.reduceAdd, ↓reduceIte, Int.reduceBEq, Int.reduceEq]
   | true =>
    cases h3 : (n != 0) <;>
    simp only [h2, h3, Bool.false_and, Bool.true_and, r14_0, j3k, tt, bb, bc, ↓bd, Nat.reduceEqDiff, Nat.reduceAdd, ↓reduceIte, Int.reduceBEq, Int.reduceEq]
  ·have e1 : (k == 1) = false := by simpa using h1
   by_cases h2 : k = 2
   ·subst h2
    cases h3 : (inR x && inR y) with
    | false => simp only [h3, q0a x3g rfl (j3t x y), Bool.false_and, r14_0, j3k, tt, bb, bc, ↓bd, Nat.reduceEqDiff, Nat.reduceAdd, ↓reduceIte, Int.reduceBEq, Int.reduceEq]
    | true =>
     cases h4 : (n != 0) <;>
     simp only [h3, h4, q0a x3g rfl (j3t x y), Bool.false_and, Bool.true_and, r14_0, j3k, tt, bb, bc, ↓bd, Nat.reduceEqDiff, Nat.reduceAdd, ↓reduceIte, Int.reduceBEq, Int.reduceEq]
   ·have e2 : (k == 2) = false := by simpa using h2
    simp only [h0, h1, h2, e0, e1, e2, q1a, r14_0, j3k, tt, bb, bc, ↓bd, Nat.reduceEqDiff, Nat.reduceAdd, ↓reduceIte]
theorem j8c (x : Int) : q0k Cx 114 [.int .i64 x] (.bool false) := by
 refine q0c (q0l _) y5d ?_
 simp only [r114_0, w4r, tt, bb, bc, ↓bd, Nat.reduceEqDiff, ↓reduceIte, reduceCtorEq]
def z8t (x y : Int) : Int := if x < y then -1 else if y < x then 1 else 0
theorem q8r (x y : Int) : q0k Cx 100 [.int .i64 x, .int .i64 y] (.int .i64 (z8t x y)) := by
 refine q0c (q0l _) y4o ?_
 unfold z8t
 by_cases h1 : x < y <;> by_cases h2 : y < x <;>
 simp only [h1, h2, q0a x3v rfl (j8c x), q0a x3v rfl (j8c y), r100_0, w4i, tt, bb, bc, ↓bd, Nat.reduceEqDiff, ↓reduceIte, reduceCtorEq, Int.reduceNeg]
theorem j3u (a b : Bytes) : q0k Cx 121 [.str a, .str b] (.int .i64 (q4t a b)) := j3i (g := y7x) rfl rfl rfl
theorem z7l : Cx.pure 121 = true := by kernel_rfl
theorem z3o (a b : Bytes) : q0k Cx 115 [.str a, .str b] (.int .i64 (q4t a b)) := by
 refine q0c (q0l _) y5e ?_
 simp only [q0a z7l rfl (j3u a b), r115_0, w4s, tt, bb, bc, ↓bd, Nat.reduceEqDiff, ↓reduceIte, reduceCtorEq]
theorem j0i (a b : Bytes) : q0k Cx 101 [.str a, .str b] (.int .i64 (q4t a b)) := by
 refine q0c (q0l _) y4p ?_
 simp only [q0a y5f rfl (z3o a b), r101_0, w4j, tt, bb, bc, ↓bd, Nat.reduceEqDiff, ↓reduceIte, reduceCtorEq]
def oc (a b : Int) : Int := if a = 0 then b else a
set_option maxRecDepth 20000 in
theorem w9o (a b c d e : Int) : q0k Cx 99 [.vec 1 [[.int .i64 a], [.int .i64 b], [.int .i64 c], [.int .i64 d], [.int .i64 e]]] (.int .i64 (oc a (oc b (oc c (oc d e))))) := by
 refine q0c (q0l _) w4g ?_
 unfold oc
 have w1 : IntKind.i64.wrap 1 = 1 := rfl
 have w2 : IntKind.i64.wrap 2 = 2 := rfl
 have w3 : IntKind.i64.wrap 3 = 3 := rfl
 have w4 : IntKind.i64.wrap 4 = 4 := rfl
 have w5 : IntKind.i64.wrap 5 = 5 := rfl
 have key : ∀ x : Int, x = 0 ∨ (x != 0) = true ∧ (x = 0) = False := fun x => by
  by_cases h : x = 0
  ·exact .inl h
  ·exact .inr ⟨by simpa using h, eq_false h⟩
 rcases key a with rfl | ⟨ea, fa⟩
 ·rcases key b with rfl | ⟨eb, fb⟩
  ·rcases key c with rfl | ⟨ec, fc⟩
   ·rcases key d with rfl | ⟨ed, fd⟩
    ·rcases key e with rfl | ⟨ee, fe⟩
     ·simp only [w1, w2, w3, w4, w5, xx, run_inLoop, r99_0, x0m, tt, bb, bc, ↓bd, Nat.reduceEqDiff, Nat.reduceAdd, ↓reduceIte, reduceCtorEq, Int.reduceLT, Int.reduceLE, Int.reduceAdd, Int.reduceToNat]
     ·simp only [ee, w1, w2, w3, w4, xx, run_inLoop, r99_0, x0m, tt, bb, bc, ↓bd, Nat.reduceEqDiff, Nat.reduceAdd, ↓reduceIte, reduceCtorEq, Int.reduceLT, Int.reduceLE, Int.reduceAdd, Int.reduceToNat]
    ·simp only [ed, fd, w1, w2, w3, xx, run_inLoop, r99_0, x0m, tt, bb, bc, ↓bd, Nat.reduceEqDiff, Nat.reduceAdd, ↓reduceIte, reduceCtorEq, Int.reduceLT, Int.reduceLE, Int.reduceAdd, Int.reduceToNat]
   ·simp only [ec, fc, w1, w2, xx, run_inLoop, r99_0, x0m, tt, bb, bc, ↓bd, Nat.reduceEqDiff, Nat.reduceAdd, ↓reduceIte, reduceCtorEq, Int.reduceLT, Int.reduceLE, Int.reduceAdd, Int.reduceToNat]
  ·simp only [eb, fb, w1, xx, run_inLoop, r99_0, x0m, tt, bb, bc, ↓bd, Nat.reduceEqDiff, Nat.reduceAdd, ↓reduceIte, reduceCtorEq, Int.reduceLT, Int.reduceLE, Int.reduceAdd]
 ·simp only [ea, fa, run_inLoop, r99_0, x0m, tt, bb, bc, ↓bd, Nat.reduceEqDiff, Nat.reduceAdd, ↓reduceIte, reduceCtorEq, Int.reduceLT, Int.reduceLE]
def x0n (k n : Int) (s : Bytes) (x y : Int) (k' n' : Int) (s' : Bytes) (x' y' : Int) : Int := oc (z8t k k') (oc (z8t n n') (oc (q4t s s') (oc (z8t x x') (z8t y y'))))
set_option maxRecDepth 20000 in
theorem x8q (k n : Int) (s : Bytes) (x y : Int) (k' n' : Int) (s' : Bytes) (x' y' : Int) : q0k Cx 74 [val k n s x y, val k' n' s' x' y'] (.int .i64 (x0n k n s x y k' n' s' x' y')) := by
 refine q0c (q0l _) w2w ?_
 unfold x0n
 simp only [q0a j0f rfl (q8r k k'), q0a j0f rfl (q8r n n'), q0a j0f rfl (q8r x x'), q0a j0f rfl (q8r y y'), q0a y4q rfl (j0i s s'), x8a w4h rfl (w9o (z8t k k') (z8t n n') (q4t s s') (z8t x x') (z8t y y')), r74_0, w9g, tt, bb, bc, ↓bd, Nat.reduceEqDiff, Nat.reduceAdd, Nat.reduceMul, Nat.reduceLeDiff, ↓reduceIte, reduceCtorEq, List.reduceReplicate]
structure IsCmp {α : Type} (c : α → α → Int) : Prop where
 rng : ∀ a b, c a b = -1 ∨ c a b = 0 ∨ c a b = 1
 anti : ∀ a b, c b a = - c a b
 zero : ∀ a b, c a b = 0 ↔ a = b
 trans : ∀ a b d, c a b ≤ 0 → c b d ≤ 0 → c a d ≤ 0
theorem cmpI_cmp : IsCmp z8t where
 rng a b := by
  unfold z8t
  split
  ·exact .inl rfl
  ·split
   ·exact .inr (.inr rfl)
   ·exact .inr (.inl rfl)
 anti a b := by
  unfold z8t
  rcases Int.lt_trichotomy a b with h | h | h
  ·rw [if_neg (by omega), if_pos h, if_pos h]; rfl
  ·subst h; simp
  ·rw [if_pos h, if_neg (by omega), if_pos h]
 zero a b := by
  unfold z8t
  rcases Int.lt_trichotomy a b with h | h | h
  ·rw [if_pos h]; constructor <;> intro h2 <;> omega
  ·subst h; simp
  ·rw [if_neg (by omega), if_pos h]; constructor <;> intro h2 <;> omega
 trans a b d h1 h2 := by
  unfold z8t at *
  split at h1 <;> split at h2 <;> split <;> (try split at h1) <;> (try split at h2) <;> (try split) <;> omega
theorem z3p (x y : UInt8) : x < y ∨ x = y ∨ y < x := by
 rcases Nat.lt_trichotomy x.toNat y.toNat with h | h | h
 ·exact .inl h
 ·exact .inr (.inl (UInt8.toNat_inj.mp h))
 ·exact .inr (.inr h)
theorem j8d : ∀ a b, q4t a b = -1 ∨ q4t a b = 0 ∨ q4t a b = 1
 | [], [] => by simp [q4t]
 | [], _ :: _ => by simp [q4t]
 | _ :: _, [] => by simp [q4t]
 | x :: xs, y :: ys => by
  unfold q4t
  have ih := j8d xs ys
  split
  ·exact ih
  ·split
   ·exact .inl rfl
   ·exact .inr (.inr rfl)
theorem j3v : ∀ a b, q4t b a = - q4t a b
 | [], [] => by simp [q4t]
 | [], _ :: _ => by simp [q4t]
 | _ :: _, [] => by simp [q4t]
 | x :: xs, y :: ys => by
  have ih := j3v xs ys
  unfold q4t
  rcases z3p x y with h | h | h
  ·have h1 : ¬ x = y := fun e => by subst e; exact absurd h (UInt8.lt_irrefl _)
   have h2 : ¬ y < x := fun e => absurd (UInt8.lt_trans h e) (UInt8.lt_irrefl _)
   rw [if_neg (fun e => h1 e.symm), if_neg h2, if_neg h1, if_pos h]; rfl
  ·subst h; simp [ih]
  ·have h1 : ¬ x = y := fun e => by subst e; exact absurd h (UInt8.lt_irrefl _)
   have h2 : ¬ x < y := fun e => absurd (UInt8.lt_trans h e) (UInt8.lt_irrefl _)
   rw [if_neg (fun e => h1 e.symm), if_pos h, if_neg h1, if_neg h2]
theorem j3w : ∀ a b, q4t a b = 0 ↔ a = b
 | [], [] => by simp [q4t]
 | [], _ :: _ => by simp [q4t]
 | _ :: _, [] => by simp [q4t]
 | x :: xs, y :: ys => by
  have ih := j3w xs ys
  unfold q4t
  by_cases h : x = y
  ·subst h; simp [ih]
  ·rw [if_neg h]
   split <;> simp [h]
theorem z8u : ∀ a b d, q4t a b ≤ 0 → q4t b d ≤ 0 → q4t a d ≤ 0
 | [], _, [] => by simp [q4t]
 | [], _, _ :: _ => by simp [q4t]
 | _ :: _, [], _ => by simp [q4t]
 | _ :: _, _ :: _, [] => by simp [q4t]
 | x :: xs, y :: ys, z :: zs => by
  have ih := z8u xs ys zs
  unfold q4t
  intro h1 h2
  by_cases hxy : x = y
  ·subst hxy
   rw [if_pos rfl] at h1
   by_cases hz : x = z
   ·subst hz
    rw [if_pos rfl] at h2 ⊢
    exact ih h1 h2
   ·rw [if_neg hz] at h2 ⊢
    exact h2
  ·rw [if_neg hxy] at h1
   have hlt : x < y := by
    by_cases h : x < y
    ·exact h
    ·rw [if_neg h] at h1; omega
   by_cases hyz : y = z
   ·subst hyz
    rw [if_neg hxy, if_pos hlt]; omega
   ·rw [if_neg hyz] at h2
    have y2z : y < z := by
     by_cases h : y < z
     ·exact h
     ·rw [if_neg h] at h2; omega
    have hxz := UInt8.lt_trans hlt y2z
    have hne : ¬ x = z := fun e => by subst e; exact absurd hxz (UInt8.lt_irrefl _)
    rw [if_neg hne, if_pos hxz]; omega
theorem cmpL_cmp : IsCmp q4t := ⟨j8d, j3v, j3w, z8u⟩
theorem j0j {α β : Type} {c : α → α → Int} {d : β → β → Int} (hc : IsCmp c) (hd : IsCmp d) : IsCmp (fun (a b : α × β) => oc (c a.1 b.1) (d a.2 b.2)) where
 rng a b := by
  unfold oc
  split
  ·exact hd.rng _ _
  ·exact hc.rng _ _
 anti a b := by
  unfold oc
  have h1 := hc.anti a.1 b.1
  have h2 := hd.anti a.2 b.2
  by_cases h : c a.1 b.1 = 0
  ·rw [if_pos h, if_pos (by omega), h2]
  ·rw [if_neg h, if_neg (by omega), h1]
 zero a b := by
  unfold oc
  have h1 := hc.zero a.1 b.1
  have h2 := hd.zero a.2 b.2
  by_cases h : c a.1 b.1 = 0
  ·rw [if_pos h, h2]
   constructor
   ·intro e; exact Prod.ext (h1.mp h) e
   ·intro e; rw [e]
  ·rw [if_neg h]
   constructor
   ·intro e; exact absurd e h
   ·intro e; exact h1.mpr (by rw [e])
 trans a b e h1 h2 := by
  unfold oc at *
  by_cases g1 : c a.1 b.1 = 0
  ·have e1 := (hc.zero _ _).mp g1
   rw [if_pos g1] at h1
   rw [e1]
   by_cases g2 : c b.1 e.1 = 0
   ·rw [if_pos g2] at h2 ⊢
    exact hd.trans _ _ _ h1 h2
   ·rw [if_neg g2] at h2 ⊢
    exact h2
  ·rw [if_neg g1] at h1
   by_cases g2 : c b.1 e.1 = 0
   ·have e2 := (hc.zero _ _).mp g2
    rw [← e2, if_neg g1]
    exact h1
   ·rw [if_neg g2] at h2
    have h3 := hc.trans _ _ _ h1 h2
    have h4 : c a.1 e.1 ≠ 0 := by
     intro h0
     have e0 := (hc.zero _ _).mp h0
     have := hc.anti b.1 e.1
     rw [← e0] at this h2 g2
     omega
    rw [if_neg h4]; exact h3
abbrev V5 := Int × Int × Bytes × Int × Int
theorem ord_cmp : IsCmp (fun (a b : V5) => x0n a.1 a.2.1 a.2.2.1 a.2.2.2.1 a.2.2.2.2 b.1 b.2.1 b.2.2.1 b.2.2.2.1 b.2.2.2.2) :=
 j0j cmpI_cmp (j0j cmpI_cmp (j0j cmpL_cmp (j0j cmpI_cmp cmpI_cmp)))
theorem x8r (k n : Int) (s : Bytes) (x y : Int) (k' n' : Int) (s' : Bytes) (x' y' : Int) :
  ((k == k') && ((n == n') && ((s == s') && ((x == x') && (y == y'))))) = (x0n k n s x y k' n' s' x' y' == 0) := by
 have h := ord_cmp.zero (k, n, s, x, y) (k', n', s', x', y')
 rw [Bool.eq_iff_iff]
 simp only [Bool.and_eq_true, beq_iff_eq]
 rw [h]
 simp only [Prod.mk.injEq]
def q6p (k n : Int) (s : Bytes) (x y : Int) : Bytes :=
 if k = 0 then z7a n else if k = 1 then quoS s else z7a x ++ [58] ++ z7a y
def half (n : Int) : Int := n % 134217728
theorem q3o {k n : Int} {s : Bytes} {x y : Int} (h : q1j k n s x y = true) :
  (k = 0 ∧ (-9007199254740992 ≤ n ∧ n ≤ 9007199254740992) ∧ s = [] ∧ x = 0 ∧ y = 0) ∨ (k = 1 ∧ s.length ≤ 4096 ∧ n = 0 ∧ x = 0 ∧ y = 0) ∨ (k = 2 ∧ (inR x = true ∧ inR y = true) ∧ n = 0 ∧ s = []) := by
 unfold q1j at h
 split at h
 ·rename_i h0
  simp at h
  exact .inl ⟨h0, ⟨h.1.1.1, h.1.1.2⟩, h.1.2, h.2.1, h.2.2⟩
 ·split at h
  ·rename_i h1
   simp at h
   exact .inr (.inl ⟨h1, by omega, h.1.2, h.2.1, h.2.2⟩)
  ·split at h
   ·rename_i h2
    simp at h
    exact .inr (.inr ⟨h2, h.1.1, h.1.2, h.2⟩)
   ·cases h
theorem inR_iff {x : Int} : inR x = true ↔ -16777216 ≤ x ∧ x ≤ 16777216 := by simp [inR]
theorem x8s {k n : Int} {s : Bytes} {x y : Int} (h : q1j k n s x y = true) : q0k Cx 80 [val k n s x y] (.str (q6p k n s x y)) := by
 refine q0c (q0l _) w3j ?_
 have r := Right_ok k n s x y
 rw [h] at r
 unfold q6p
 rcases q3o h with ⟨rfl, hn, rfl, rfl, rfl⟩ | ⟨rfl, hs, rfl, rfl, rfl⟩ | ⟨rfl, ⟨hx, hy⟩, rfl, rfl⟩
 ·simp only [q0a q2n rfl r, q0a j0h rfl (z2d n hn), r80_0, y4m, tt, bb, bc, ↓bd, Nat.reduceEqDiff, Nat.reduceAdd, ↓reduceIte]
 ·simp only [q0a q2n rfl r, q0a y4w rfl (x4c s (by omega)), r80_0, y4m, tt, bb, bc, ↓bd, Nat.reduceEqDiff, Nat.reduceAdd, ↓reduceIte, Int.reduceBEq, Int.reduceEq]
 ·rw [inR_iff] at hx hy
  have d1 := z2d x (by omega)
  have d2 := z2d y (by omega)
  have l1 := q7d x (by omega)
  have l2 := q7d y (by omega)
  have h1 : ((z7a x).length + 1 ≤ 9223372036854775807) = True := eq_true (by omega)
  have h2 : ((z7a x ++ [58]).length + (z7a y).length ≤ 9223372036854775807) = True := eq_true (by rw [List.length_append, List.length_singleton]; omega)
  simp only [h1, h2, q0a q2n rfl r, q0a j0h rfl d1, q0a j0h rfl d2, q1a, r80_0, y4m, tt, bb, bc, ↓bd, Nat.reduceEqDiff, Nat.reduceAdd, ↓reduceIte, Int.reduceBEq, Int.reduceEq]
def w9p (l : Bytes) : Nat := l.foldl (fun a c => a * 10 + (c.toNat - 48)) 0
theorem z1f {d : Nat} (h : d < 10) : (x0y d).toNat = 48 + d := by
 unfold x0y
 rw [UInt8.toNat_ofNat']; omega
theorem j8e (m : Nat) : w9p (z0c m) = m := by
 induction m using Nat.strongRecOn with
 | _ m ih =>
  by_cases h : m < 10
  ·rw [q7c h]
   unfold w9p
   simp only [List.foldl_cons, List.foldl_nil]
   rw [z1f h]; omega
  ·rw [z0d h]
   have := ih (m / 10) (by omega)
   unfold w9p at this ⊢
   rw [List.foldl_append, this]
   simp only [List.foldl_cons, List.foldl_nil]
   rw [z1f (by omega)]; omega
theorem z4d (m : Nat) : ∀ c, c ∈ z0c m → 48 ≤ c.toNat ∧ c.toNat ≤ 57 := by
 induction m using Nat.strongRecOn with
 | _ m ih =>
  intro c hc
  by_cases h : m < 10
  ·rw [q7c h] at hc
   simp only [List.mem_singleton] at hc
   subst hc
   rw [z1f h]; omega
  ·rw [z0d h] at hc
   rcases List.mem_append.mp hc with h1 | h1
   ·exact ih (m / 10) (by omega) c h1
   ·simp only [List.mem_singleton] at h1
    subst h1
    rw [z1f (by omega)]; omega
theorem j6g (m : Nat) : z0c m ≠ [] := by
 by_cases h : m < 10
 ·rw [q7c h]; simp
 ·rw [z0d h]; simp
theorem q4h {s : Bytes} {p : Nat} {c : UInt8} {r : Bytes} (h : s.drop p = c :: r) : s[p]? = some c ∧ s.drop (p + 1) = r ∧ p < s.length := by
 have hlt : p < s.length := by
  rcases Nat.lt_or_ge p s.length with h1 | h1
  ·exact h1
  ·rw [List.drop_of_length_le h1] at h; cases h
 rw [List.drop_eq_getElem_cons hlt] at h
 simp only [List.cons.injEq] at h
 exact ⟨by rw [List.getElem?_eq_getElem hlt, h.1], h.2, hlt⟩
def z7b (n : Int) : Bool := decide (48 ≤ n) && decide (n ≤ 57)
theorem q5w (n : Int) : q0k Cx 66 [.int .u8 n] (.bool (z7b n)) := by
 refine q0c (q0l _) w2i ?_
 unfold z7b
 by_cases h1 : 48 ≤ n <;>
 simp only [h1, r66_0, w9e, tt, bb, bc, ↓bd, Nat.reduceEqDiff, ↓reduceIte, reduceCtorEq]
theorem j3x : ∀ (m : Nat) {c : UInt8} {l : Bytes}, z0c m = c :: l → (c = 48 → m = 0 ∧ l = []) := by
 intro m
 induction m using Nat.strongRecOn with
 | _ m ih =>
  intro c l h hc
  by_cases h1 : m < 10
  ·rw [q7c h1] at h
   simp only [List.cons.injEq] at h
   have := z1f h1
   rw [h.1, hc] at this
   have h48 : (48 : UInt8).toNat = 48 := rfl
   exact ⟨by omega, h.2.symm⟩
  ·rw [z0d h1] at h
   cases hd : z0c (m / 10) with
   | nil => exact absurd hd (j6g _)
   | cons d r =>
    rw [hd] at h
    simp only [List.cons_append, List.cons.injEq] at h
    have := (ih (m / 10) (by omega) hd (by rw [h.1]; exact hc)).1
    omega
def y5p (a : Nat) (l : Bytes) : Nat := l.foldl (fun a c => a * 10 + (c.toNat - 48)) a
theorem y5q (l : Bytes) : ∀ a, a ≤ y5p a l := by
 induction l with
 | nil => intro a; exact Nat.le_refl _
 | cons c l ih => intro a; have := ih (a * 10 + (c.toNat - 48)); show a ≤ y5p (a * 10 + (c.toNat - 48)) l; omega
def y5r (s : Bytes) (p : Nat) : Prop := ∃ c, s[p]? = some c ∧ z7b (c.toNat : Int) = false
def PM (s : Bytes) (r : AV) (sg : Int) (from' i acc : Nat) : Prop :=
 ∀ (T : Nat → AV) (H : AHeap), T 0 = .str s → T 1 = .int .i64 (i : Int) → T 7 = .int .i64 (acc : Int) → T 8 = .int .i64 sg → T 9 = .int .i64 (from' : Int) →
  Run Cx 94 T [] none [.code c94_30, .inScope c94_3] H (fun r0 H' => BX.freeze H' r0 = some r)
theorem z6m : z1r 0 [.code c94_40, .inScope c94_3] = some [.code (.seq .skip c94_30), .inScope c94_3] := by kernel_rfl
theorem w4x {s : Bytes} {sg : Int} {from' i acc : Nat} {c : UInt8} (hs : s.length ≤ 1000000) (hi : y5r s i) (hf : s[from']? = some c) (y0c : acc ≤ 9007199254740992) (hsg : sg = 1 ∨ sg = -1) (hz : c = 48 → i ≤ from' + 1 ∧ sg = 1) :
  PM s (.tuple [.int .i64 (sg * acc), .int .i64 (i : Int), .int .i64 0]) sg from' i acc := by
 intro T H t0 t1 t7 t8 t9
 obtain ⟨d, hd, hdd⟩ := hi
 have hlt : i < s.length := (List.getElem?_eq_some_iff.mp hd).1
 have h0 : ((i : Int) < (s.length : Int)) = True := eq_true (by omega)
 have hi0 : (0 : Int) ≤ (i : Int) := by omega
 have hf0 : (0 : Int) ≤ (from' : Int) := by omega
 have hdg := q5w (d.toNat : Int)
 rw [hdd] at hdg
 have hfl : from' < s.length := (List.getElem?_eq_some_iff.mp hf).1
 have w1 : IntKind.i64.wrap ((from' : Int) + 1) = ((from' + 1 : Nat) : Int) := by rw [wr64 (by omega) (by omega)]; omega
 have w2 : IntKind.i64.wrap (sg * (acc : Int)) = sg * (acc : Int) := by rcases hsg with rfl | rfl <;> exact wr64 (by omega) (by omega)
 by_cases hc : c = 48
 ·obtain ⟨h1, rfl⟩ := hz hc
  have hc' : ((c.toNat : Int) == 48) = true := by subst hc; rfl
  have h2 : (((from' + 1 : Nat) : Int) < (i : Int)) = False := eq_false (by omega)
  simp only [t0, t1, t7, t8, t9, h0, hi0, hf0, hd, hf, hc', h2, w1, w2, q0n, Int.toNat_natCast, q0a q7z rfl hdg, r94_0, j3r, tt, bb, bc, ↓bd, Nat.reduceEqDiff, ↓reduceIte, reduceCtorEq, Int.reduceLT]
 ·have hc' : ((c.toNat : Int) == 48) = false := by
   simp only [beq_eq_false_iff_ne, ne_eq]
   intro e
   apply hc
   apply UInt8.toNat_inj.mp
   have h48 : (48 : UInt8).toNat = 48 := rfl
   omega
  simp only [t0, t1, t7, t8, t9, h0, hi0, hf0, hd, hf, hc', w2, q0n, Int.toNat_natCast, q0a q7z rfl hdg, r94_0, j3r, tt, bb, bc, ↓bd, Nat.reduceEqDiff, ↓reduceIte, reduceCtorEq]
theorem y5s {s : Bytes} {r : AV} {sg : Int} {from' i acc : Nat} {c : UInt8} (hs : s.length ≤ 1000000) (hi : s[i]? = some c) (hc : 48 ≤ c.toNat ∧ c.toNat ≤ 57) (y0c : acc * 10 + (c.toNat - 48) ≤ 9007199254740992) (hp : PM s r sg from' (i + 1) (acc * 10 + (c.toNat - 48))) : PM s r sg from' i acc := by
 intro T H t0 t1 t7 t8 t9
 have hlt : i < s.length := (List.getElem?_eq_some_iff.mp hi).1
 have h0 : ((i : Int) < (s.length : Int)) = True := eq_true (by omega)
 have hi0 : (0 : Int) ≤ (i : Int) := by omega
 have hdg := q5w (c.toNat : Int)
 have hdd : z7b (c.toNat : Int) = true := by unfold z7b; simp; omega
 rw [hdd] at hdg
 have w1 : IntKind.i64.wrap (10 * (acc : Int)) = 10 * (acc : Int) := wr64 (by omega) (by omega)
 have w2 : IntKind.u8.wrap ((c.toNat : Int) - 48) = (c.toNat : Int) - 48 := wr8 (by omega) (by omega)
 have w3 : IntKind.i64.wrap ((c.toNat : Int) - 48) = (c.toNat : Int) - 48 := wr64 (by omega) (by omega)
 have w4 : IntKind.i64.wrap (10 * (acc : Int) + ((c.toNat : Int) - 48)) = ((acc * 10 + (c.toNat - 48) : Nat) : Int) := by rw [wr64 (by omega) (by omega)]; omega
 have w5 : (18014398509481984 < ((acc * 10 + (c.toNat - 48) : Nat) : Int)) = False := eq_false (by omega)
 have w6 : IntKind.i64.wrap ((i : Int) + 1) = ((i + 1 : Nat) : Int) := by rw [wr64 (by omega) (by omega)]; omega
 simp only [t0, t1, t7, h0, hi0, hi, w1, w2, w3, w4, w5, w6, x7a, q0n, Int.toNat_natCast, q0a q7z rfl hdg, r94_0, tt, bb, bc, ↓bd, Nat.reduceEqDiff, ↓reduceIte, reduceCtorEq]
 unfold c94_38
 rw [q7a z6m, q5z, q4u]
 refine hp _ _ ?_ ?_ ?_ ?_ ?_
 all_goals simp only [q0b, t0, t8, t9, Nat.reduceEqDiff, ↓reduceIte]
theorem x4d {s : Bytes} {sg : Int} {from' : Nat} {c : UInt8} (hs : s.length ≤ 1000000) (hf : s[from']? = some c) (hsg : sg = 1 ∨ sg = -1) :
  ∀ (l : Bytes) (i acc : Nat) (rest : Bytes), s.drop i = l ++ rest → (∀ d, d ∈ l → 48 ≤ d.toNat ∧ d.toNat ≤ 57) → y5r s (i + l.length) → y5p acc l ≤ 9007199254740992 → (c = 48 → i + l.length ≤ from' + 1 ∧ sg = 1) →
  PM s (.tuple [.int .i64 (sg * y5p acc l), .int .i64 ((i + l.length : Nat) : Int), .int .i64 0]) sg from' i acc
 | [], i, acc, rest, hd, _, hst, hv, hz => w4x hs (by simpa using hst) hf hv hsg (by simpa using hz)
 | d :: l, i, acc, rest, hd, hdig, hst, hv, hz => by
  rw [List.cons_append] at hd
  obtain ⟨h1, h2, _⟩ := q4h hd
  have hv' : y5p (acc * 10 + (d.toNat - 48)) l ≤ 9007199254740992 := hv
  have hle := y5q l (acc * 10 + (d.toNat - 48))
  refine y5s hs h1 (hdig d (by simp)) (by omega) ?_
  have := x4d hs hf hsg l (i + 1) (acc * 10 + (d.toNat - 48)) rest h2 (fun e he => hdig e (by simp [he])) (by rw [Nat.add_assoc, Nat.add_comm 1]; exact hst) hv' (by rw [Nat.add_assoc, Nat.add_comm 1]; exact hz)
  rw [Nat.add_assoc, Nat.add_comm 1] at this
  exact this
theorem number_ok {s rest : Bytes} {p : Nat} {n : Int} (hs : s.length ≤ 1000000) (hd : s.drop p = z7a n ++ rest) (hst : y5r s (p + (z7a n).length)) (hn : -9007199254740992 ≤ n ∧ n ≤ 9007199254740992) :
  q0k Cx 94 [.str s, .int .i64 (p : Int)] (.tuple [.int .i64 n, .int .i64 ((p + (z7a n).length : Nat) : Int), .int .i64 0]) := by
 refine q0c (q0l _) y1m ?_
 by_cases hneg : n < 0
 ·have e : z7a n = 45 :: z0c (-n).toNat := by unfold z7a; rw [if_pos hneg]
  rw [e] at hd hst ⊢
  rw [List.cons_append] at hd
  obtain ⟨h1, h2, hlt⟩ := q4h hd
  cases hl : z0c (-n).toNat with
  | nil => exact absurd hl (j6g _)
  | cons c l =>
   have h3 : s.drop (p + 1) = c :: (l ++ rest) := by rw [h2, hl]; rfl
   obtain ⟨h4, h5, y2z⟩ := q4h h3
   have hcd := z4d _ c (by rw [hl]; simp)
   have hne : c ≠ 48 := fun hc => by have := (j3x _ hl hc).1; omega
   have hvd : y5p 0 (z0c (-n).toNat) = (-n).toNat := j8e _
   rw [List.length_cons] at hst ⊢
   have hp := x4d (sg := -1) (from' := p + 1) (c := c) hs h4 (.inr rfl) (z0c (-n).toNat) (p + 1) 0 rest h2 (fun d hdm => z4d _ d hdm) (by rw [Nat.add_assoc, Nat.add_comm 1]; exact hst) (by rw [hvd]; omega) (fun hc => absurd hc hne)
   rw [hvd, Nat.add_assoc, Nat.add_comm 1, show (-1 : Int) * (((-n).toNat : Nat) : Int) = n by omega, hl] at hp
   have g0 : ((p : Int) < (s.length : Int)) = True := eq_true (by omega)
   have g1 : (0 : Int) ≤ (p : Int) := by omega
   have g2 : (((45 : UInt8).toNat : Int) == 45) = true := rfl
   have w1 : IntKind.i64.wrap ((p : Int) + 1) = ((p + 1 : Nat) : Int) := by rw [wr64 (by omega) (by omega)]; omega
   have g3 : ((s.length : Int) ≤ ((p + 1 : Nat) : Int)) = False := eq_false (by omega)
   have g4 : (0 : Int) ≤ ((p + 1 : Nat) : Int) := by omega
   have hdg := q5w (c.toNat : Int)
   have hdd : z7b (c.toNat : Int) = true := by unfold z7b; simp; omega
   rw [hdd] at hdg
   simp only [g0, g1, g2, g3, g4, w1, h1, h4, q0n, Int.toNat_natCast, q0a q7z rfl hdg, q1a, r94_0.1, r94_0.2.1, r94_0.2.2.1, r94_0.2.2.2.1, r94_0.2.2.2.2.1, r94_0.2.2.2.2.2.1, tt, bb, bc, ↓bd, Nat.reduceEqDiff, ↓reduceIte, reduceCtorEq, Int.reduceNeg]
   refine hp _ _ ?_ ?_ ?_ ?_ ?_
   all_goals simp only [q0b, q1g, List.getElem?_cons_zero, Option.getD_some, Nat.reduceEqDiff, ↓reduceIte]
   all_goals rfl
 ·have e : z7a n = z0c n.toNat := by unfold z7a; rw [if_neg hneg]
  rw [e] at hd hst ⊢
  cases hl : z0c n.toNat with
  | nil => exact absurd hl (j6g _)
  | cons c l =>
   have h3 : s.drop p = c :: (l ++ rest) := by rw [hd, hl]; rfl
   obtain ⟨h4, h5, y2z⟩ := q4h h3
   have hcd := z4d _ c (by rw [hl]; simp)
   have hvd : y5p 0 (z0c n.toNat) = n.toNat := j8e _
   have hp := x4d (sg := 1) (from' := p) (c := c) hs h4 (.inl rfl) (z0c n.toNat) p 0 rest hd (fun d hdm => z4d _ d hdm) hst (by rw [hvd]; omega) (fun hc => by
    have := (j3x _ hl hc).2
    rw [hl, this]; exact ⟨by simp, rfl⟩)
   rw [hvd, Int.one_mul, show ((n.toNat : Nat) : Int) = n by omega, hl] at hp
   have g0 : ((p : Int) < (s.length : Int)) = True := eq_true (by omega)
   have g1 : (0 : Int) ≤ (p : Int) := by omega
   have g2 : ((c.toNat : Int) == 45) = false := by simp; omega
   have g3 : ((s.length : Int) ≤ (p : Int)) = False := eq_false (by omega)
   have hdg := q5w (c.toNat : Int)
   have hdd : z7b (c.toNat : Int) = true := by unfold z7b; simp; omega
   rw [hdd] at hdg
   simp only [g0, g1, g2, g3, h4, q0n, Int.toNat_natCast, q0a q7z rfl hdg, q1a, r94_0.1, r94_0.2.1, r94_0.2.2.1, r94_0.2.2.2.1, r94_0.2.2.2.2.1, r94_0.2.2.2.2.2.1, tt, bb, bc, ↓bd, Nat.reduceEqDiff, ↓reduceIte, reduceCtorEq]
   refine hp _ _ ?_ ?_ ?_ ?_ ?_
   all_goals simp only [q0b, q1g, qez, Nat.reduceEqDiff, ↓reduceIte]
   all_goals rfl
def y1w (a : Nat) (l : Bytes) : Nat := l.foldl (fun a c => min (10 * a + (c.toNat - 48)) 18014398509481984) a
def dg (c : UInt8) : Bool := z7b (c.toNat : Int)
def j0k (e : Int) : AV := .tuple [.int .i64 0, .int .i64 0, .int .i64 e]
def w4y (s : Bytes) (sg : Int) (fr i n : Nat) : AV := if s[fr]? = some 48 ∧ (fr + 1 < i ∨ sg < 0) then j0k 6 else .tuple [.int .i64 (sg * n), .int .i64 (i : Int), .int .i64 0]
theorem x4e {s : Bytes} {sg : Int} {fr i acc : Nat} {c : UInt8} (hs : s.length ≤ 1000000) (hst : s.length ≤ i ∨ ∃ d, s[i]? = some d ∧ dg d = false) (hi : i ≤ s.length) (hf : s[fr]? = some c) (y0c : acc ≤ 18014398509481984) (hsg : sg = 1 ∨ sg = -1) :
  PM s (w4y s sg fr i acc) sg fr i acc := by
 intro T H t0 t1 t7 t8 t9
 have hf0 : (0 : Int) ≤ (fr : Int) := by omega
 have hi0 : (0 : Int) ≤ (i : Int) := by omega
 have hfl : fr < s.length := (List.getElem?_eq_some_iff.mp hf).1
 have w1 : IntKind.i64.wrap ((fr : Int) + 1) = ((fr + 1 : Nat) : Int) := by rw [wr64 (by omega) (by omega)]; omega
 have w2 : IntKind.i64.wrap (sg * (acc : Int)) = sg * (acc : Int) := by rcases hsg with rfl | rfl <;> exact wr64 (by omega) (by omega)
 unfold w4y
 rw [hf]
 have e48 : (c = 48) ↔ ((c.toNat : Int) == 48) = true := by
  rw [beq_iff_eq]
  constructor
  ·rintro rfl; rfl
  ·intro e
   exact UInt8.toNat_inj.mp (by have : (48 : UInt8).toNat = 48 := rfl; omega)
 have fin : ∀ (T : Nat → AV), T 0 = .str s → T 1 = .int .i64 (i : Int) → T 7 = .int .i64 (acc : Int) → T 8 = .int .i64 sg → T 9 = .int .i64 (fr : Int) →
   Run Cx 94 T [] none [.code c94_40, .inScope c94_3] H (fun r0 H' => BX.freeze H' r0 = some (if some c = some 48 ∧ (fr + 1 < i ∨ sg < 0) then j0k 6 else .tuple [.int .i64 (sg * acc), .int .i64 (i : Int), .int .i64 0])) := by
  intro T t0 t1 t7 t8 t9
  by_cases hc : c = 48
  ·have hc' := e48.mp hc
   by_cases h1 : fr + 1 < i
   ·have h2 : (((fr + 1 : Nat) : Int) < (i : Int)) = True := eq_true (by omega)
    rw [if_pos ⟨by rw [hc], .inl h1⟩]
    simp only [t0, t1, t9, hf0, hf, hc', h2, w1, j0k, q0n, Int.toNat_natCast, r94_0, j3r, tt, bb, bc, ↓bd, Nat.reduceEqDiff, ↓reduceIte, reduceCtorEq]
   ·have h2 : (((fr + 1 : Nat) : Int) < (i : Int)) = False := eq_false (by omega)
    rcases hsg with rfl | rfl
    ·rw [if_neg (by rintro ⟨_, h | h⟩ <;> omega)]
     simp only [t0, t1, t7, t8, t9, hf0, hf, hc', h2, w1, w2, q0n, Int.toNat_natCast, r94_0, j3r, tt, bb, bc, ↓bd, Nat.reduceEqDiff, ↓reduceIte, Int.reduceLT]
    ·rw [if_pos ⟨by rw [hc], .inr (by omega)⟩]
     simp only [t0, t1, t8, t9, hf0, hf, hc', h2, w1, j0k, q0n, Int.toNat_natCast, r94_0, j3r, tt, bb, bc, ↓bd, Nat.reduceEqDiff, ↓reduceIte, Int.reduceLT, Int.reduceNeg]
  ·have hc' : ((c.toNat : Int) == 48) = false := by
    rw [← Bool.not_eq_true]; exact fun h => hc (e48.mpr h)
   rw [if_neg (by rintro ⟨h, _⟩; exact hc (Option.some.inj h))]
   simp only [t0, t1, t7, t8, t9, hf0, hf, hc', w2, q0n, Int.toNat_natCast, r94_0, j3r, tt, bb, bc, ↓bd, Nat.reduceEqDiff, ↓reduceIte]
 by_cases q2u : s.length ≤ i
 ·have h0 : ((i : Int) < (s.length : Int)) = False := eq_false (by omega)
  simp only [t0, t1, h0, r94_0.2.2.2.2.2.2.1, tt, bb, bc, ↓bd, Nat.reduceEqDiff, ↓reduceIte, reduceCtorEq]
  refine fin _ ?_ ?_ ?_ ?_ ?_
  all_goals simp only [q0b, t0, t1, t7, t8, t9, Nat.reduceEqDiff, ↓reduceIte]
 ·obtain ⟨d, hd, hdd⟩ := hst.resolve_left q2u
  have h0 : ((i : Int) < (s.length : Int)) = True := eq_true (by omega)
  have hdg := q5w (d.toNat : Int)
  have y2y : z7b (d.toNat : Int) = false := hdd
  rw [y2y] at hdg
  simp only [t0, t1, h0, hi0, hd, q0n, Int.toNat_natCast, q0a q7z rfl hdg, r94_0.2.2.2.2.2.2.1, tt, bb, bc, ↓bd, Nat.reduceEqDiff, ↓reduceIte, reduceCtorEq]
  refine fin _ ?_ ?_ ?_ ?_ ?_
  all_goals simp only [q0b, t0, t1, t7, t8, t9, Nat.reduceEqDiff, ↓reduceIte]
theorem x8t {s : Bytes} {r : AV} {sg : Int} {fr i acc : Nat} {c : UInt8} (hs : s.length ≤ 1000000) (hi : s[i]? = some c) (hc : dg c = true) (y0c : acc ≤ 18014398509481984) (hp : PM s r sg fr (i + 1) (min (10 * acc + (c.toNat - 48)) 18014398509481984)) : PM s r sg fr i acc := by
 intro T H t0 t1 t7 t8 t9
 have hlt : i < s.length := (List.getElem?_eq_some_iff.mp hi).1
 have h0 : ((i : Int) < (s.length : Int)) = True := eq_true (by omega)
 have hi0 : (0 : Int) ≤ (i : Int) := by omega
 have hdg := q5w (c.toNat : Int)
 have hdd : z7b (c.toNat : Int) = true := hc
 rw [hdd] at hdg
 unfold z7b at hdd
 simp only [Bool.and_eq_true, decide_eq_true_eq] at hdd
 have w1 : IntKind.i64.wrap (10 * (acc : Int)) = 10 * (acc : Int) := wr64 (by omega) (by omega)
 have w2 : IntKind.u8.wrap ((c.toNat : Int) - 48) = (c.toNat : Int) - 48 := wr8 (by omega) (by omega)
 have w3 : IntKind.i64.wrap ((c.toNat : Int) - 48) = (c.toNat : Int) - 48 := wr64 (by omega) (by omega)
 have w4 : IntKind.i64.wrap (10 * (acc : Int) + ((c.toNat : Int) - 48)) = ((10 * acc + (c.toNat - 48) : Nat) : Int) := by rw [wr64 (by omega) (by omega)]; omega
 have w5 : (if (18014398509481984 : Int) < ((10 * acc + (c.toNat - 48) : Nat) : Int) then (18014398509481984 : Int) else ((10 * acc + (c.toNat - 48) : Nat) : Int)) = ((min (10 * acc + (c.toNat - 48)) 18014398509481984 : Nat) : Int) := by
  split <;> omega
 have w6 : IntKind.i64.wrap ((i : Int) + 1) = ((i + 1 : Nat) : Int) := by rw [wr64 (by omega) (by omega)]; omega
 simp only [t0, t1, t7, h0, hi0, hi, w1, w2, w3, w4, w5, w6, x7a, q0n, Int.toNat_natCast, q0a q7z rfl hdg, r94_0, tt, bb, bc, ↓bd, Nat.reduceEqDiff, ↓reduceIte, reduceCtorEq]
 unfold c94_38
 rw [q7a z6m, q5z, q4u]
 refine hp _ _ ?_ ?_ ?_ ?_ ?_
 all_goals simp only [q0b, t0, t8, t9, Nat.reduceEqDiff, ↓reduceIte]
theorem y1x {s : Bytes} {sg : Int} {fr : Nat} {c : UInt8} (hs : s.length ≤ 1000000) (hf : s[fr]? = some c) (hsg : sg = 1 ∨ sg = -1) :
  ∀ (l : Bytes) (i acc : Nat), s.drop i = l → i ≤ s.length → acc ≤ 18014398509481984 → PM s (w4y s sg fr (i + (l.takeWhile dg).length) (y1w acc (l.takeWhile dg))) sg fr i acc
 | [], i, acc, hd, hi, ha => by
  have hl : s.length ≤ i := by
   have := congrArg List.length hd
   rw [List.length_drop] at this
   simp at this; omega
  exact x4e hs (.inl hl) hi hf ha hsg
 | d :: l, i, acc, hd, hi, ha => by
  obtain ⟨h1, h2, h3⟩ := q4h hd
  cases hdd : dg d with
  | false =>
   rw [List.takeWhile_cons_of_neg (by simp [hdd])]
   exact x4e hs (.inr ⟨d, h1, hdd⟩) hi hf ha hsg
  | true =>
   rw [List.takeWhile_cons_of_pos hdd]
   have hp := y1x hs hf hsg l (i + 1) (min (10 * acc + (d.toNat - 48)) 18014398509481984) h2 (by omega) (by omega)
   have e : i + 1 + (l.takeWhile dg).length = i + (d :: l.takeWhile dg).length := by simp; omega
   rw [e] at hp
   exact x8t hs h1 hdd ha hp
def x8u (s : Bytes) (sg : Int) (fr : Nat) : AV :=
 match s[fr]? with
 | none => j0k 2
 | some c => if dg c then w4y s sg fr (fr + ((s.drop fr).takeWhile dg).length) (y1w 0 ((s.drop fr).takeWhile dg)) else j0k 6
def x8v (s : Bytes) (i : Nat) : AV := if s[i]? = some 45 then x8u s (-1) (i + 1) else x8u s 1 i
theorem z8v {s : Bytes} {p : Nat} (hs : s.length ≤ 1000000) (hp : p ≤ s.length) : q0k Cx 94 [.str s, .int .i64 (p : Int)] (x8v s p) := by
 refine q0c (q0l _) y1m ?_
 have w1 : IntKind.i64.wrap ((p : Int) + 1) = ((p + 1 : Nat) : Int) := by rw [wr64 (by omega) (by omega)]; omega
 have g1 : (0 : Int) ≤ (p : Int) := by omega
 have go : ∀ (T : Nat → AV) (sg : Int) (fr : Nat), (sg = 1 ∨ sg = -1) → fr ≤ s.length → T 0 = .str s → T 1 = .int .i64 (fr : Int) → T 7 = .int .i64 0 → T 8 = .int .i64 sg →
   Run Cx 94 T [] none [.code c94_11, .inScope c94_3] AHeap.empty (fun r0 H' => BX.freeze H' r0 = some (x8u s sg fr)) := by
  intro T sg fr hsg hfr t0 t1 t7 t8
  have g4 : (0 : Int) ≤ (fr : Int) := by omega
  unfold x8u
  cases hq : s[fr]? with
  | none =>
   have hl : s.length ≤ fr := List.getElem?_eq_none_iff.mp hq
   have g3 : ((s.length : Int) ≤ (fr : Int)) = True := eq_true (by omega)
   simp only [t0, t1, g3, j0k, r94_0, j3r, tt, bb, bc, ↓bd, Nat.reduceEqDiff, ↓reduceIte, reduceCtorEq]
  | some c =>
   have hl : fr < s.length := (List.getElem?_eq_some_iff.mp hq).1
   have g3 : ((s.length : Int) ≤ (fr : Int)) = False := eq_false (by omega)
   have hdg := q5w (c.toNat : Int)
   have hde : z7b (c.toNat : Int) = dg c := rfl
   rw [hde] at hdg
   cases hdc : dg c with
   | false =>
    rw [hdc] at hdg
    simp only [t0, t1, g3, g4, hq, hdc, j0k, q0n, Int.toNat_natCast, q0a q7z rfl hdg, r94_0, j3r, tt, bb, bc, ↓bd, Nat.reduceEqDiff, ↓reduceIte, reduceCtorEq]
   | true =>
    rw [hdc] at hdg
    have hpm := y1x hs hq hsg (s.drop fr) fr 0 rfl hfr (by omega)
    simp only [t0, t1, g3, g4, hq, hdc, q0n, Int.toNat_natCast, q0a q7z rfl hdg, q1a, r94_0.2.2.2.1, r94_0.2.2.2.2.1, r94_0.2.2.2.2.2.1, tt, bb, bc, ↓bd, Nat.reduceEqDiff, ↓reduceIte, reduceCtorEq]
    refine hpm _ _ ?_ ?_ ?_ ?_ ?_
    all_goals simp only [q0b, t0, t1, t7, t8, Nat.reduceEqDiff, ↓reduceIte]
    all_goals rfl
 cases hq : s[p]? with
 | none =>
  have hl : s.length ≤ p := List.getElem?_eq_none_iff.mp hq
  have g0 : ((p : Int) < (s.length : Int)) = False := eq_false (by omega)
  have e : x8v s p = x8u s 1 p := by unfold x8v; rw [if_neg (by rw [hq]; simp)]
  rw [e]
  simp only [g0, r94_0.1, r94_0.2.1, r94_0.2.2.1, tt, bb, bc, ↓bd, Nat.reduceEqDiff, ↓reduceIte, reduceCtorEq]
  refine go _ 1 p (.inl rfl) hp ?_ ?_ ?_ ?_
  all_goals simp only [q0b, q1g, qez, Nat.reduceEqDiff, ↓reduceIte]
 | some c =>
  have hl : p < s.length := (List.getElem?_eq_some_iff.mp hq).1
  have g0 : ((p : Int) < (s.length : Int)) = True := eq_true (by omega)
  by_cases hc : c = 45
  ·subst hc
   have g2 : (((45 : UInt8).toNat : Int) == 45) = true := rfl
   have e : x8v s p = x8u s (-1) (p + 1) := by unfold x8v; rw [if_pos hq]
   rw [e]
   simp only [g0, g1, g2, w1, hq, q0n, Int.toNat_natCast, r94_0.1, r94_0.2.1, r94_0.2.2.1, tt, bb, bc, ↓bd, Nat.reduceEqDiff, ↓reduceIte, reduceCtorEq, Int.reduceNeg]
   refine go _ (-1) (p + 1) (.inr rfl) (by omega) ?_ ?_ ?_ ?_
   all_goals simp only [q0b, q1g, List.getElem?_cons_zero, Option.getD_some, Nat.reduceEqDiff, ↓reduceIte]
  ·have g2 : ((c.toNat : Int) == 45) = false := by
    simp only [beq_eq_false_iff_ne, ne_eq]
    intro e; exact hc (UInt8.toNat_inj.mp (by have : (45 : UInt8).toNat = 45 := rfl; omega))
   have e : x8v s p = x8u s 1 p := by unfold x8v; rw [if_neg (by rw [hq]; intro h; exact hc (Option.some.inj h))]
   rw [e]
   simp only [g0, g1, g2, hq, q0n, Int.toNat_natCast, r94_0.1, r94_0.2.1, r94_0.2.2.1, tt, bb, bc, ↓bd, Nat.reduceEqDiff, ↓reduceIte, reduceCtorEq]
   refine go _ 1 p (.inl rfl) hp ?_ ?_ ?_ ?_
   all_goals simp only [q0b, q1g, qez, Nat.reduceEqDiff, ↓reduceIte]
structure Vl where
 k : Int
 n : Int
 s : Bytes
 x : Int
 y : Int
abbrev q1o (v : Vl) : AV := .agg [.int .i64 v.k, .int .i64 v.n, .str v.s, .int .i64 v.x, .int .i64 v.y]
def okV (v : Vl) : Bool := q1j v.k v.n v.s v.x v.y
def w7v (s : Bytes) (sg : Int) (fr i n : Nat) : Except Int (Int × Nat) := if s[fr]? = some 48 ∧ (fr + 1 < i ∨ sg < 0) then .error 6 else .ok (sg * n, i)
def x6t (s : Bytes) (sg : Int) (fr : Nat) : Except Int (Int × Nat) :=
 match s[fr]? with
 | none => .error 2
 | some c => if dg c then w7v s sg fr (fr + ((s.drop fr).takeWhile dg).length) (y1w 0 ((s.drop fr).takeWhile dg)) else .error 6
def x4f (s : Bytes) (i : Nat) : Except Int (Int × Nat) := if s[i]? = some 45 then x6t s (-1) (i + 1) else x6t s 1 i
def y5t : Except Int (Int × Nat) → AV
 | .error e => j0k e
 | .ok (n, i) => .tuple [.int .i64 n, .int .i64 (i : Int), .int .i64 0]
theorem x4g (s : Bytes) (i : Nat) : x8v s i = y5t (x4f s i) := by
 have h1 : ∀ sg fr, x8u s sg fr = y5t (x6t s sg fr) := by
  intro sg fr
  unfold x8u x6t
  cases s[fr]? with
  | none => rfl
  | some c =>
   simp only
   unfold w4y w7v
   split
   ·split <;> rfl
   ·rfl
 unfold x8v x4f
 split
 ·exact h1 _ _
 ·exact h1 _ _
theorem x4h : ∀ (l : Bytes) (a : Nat), a ≤ 18014398509481984 → y1w a l ≤ 18014398509481984
 | [], a, h => h
 | c :: l, a, h => x4h l _ (Nat.min_le_right _ _)
theorem w4z (l : Bytes) : (l.takeWhile dg).length ≤ l.length := by
 induction l with
 | nil => simp
 | cons c l ih =>
  rw [List.takeWhile_cons]
  split
  ·simp; omega
  ·simp
theorem q4y (s : Bytes) (i : Nat) (hi : i ≤ s.length) : (∃ e, (e = 2 ∨ e = 6) ∧ x4f s i = .error e) ∨ ∃ n k, x4f s i = .ok (n, k) ∧ i < k ∧ k ≤ s.length ∧ -18014398509481984 ≤ n ∧ n ≤ 18014398509481984 := by
 have key : ∀ sg fr, (sg = 1 ∨ sg = -1) → i ≤ fr → (∃ e, (e = 2 ∨ e = 6) ∧ x6t s sg fr = .error e) ∨ ∃ n k, x6t s sg fr = .ok (n, k) ∧ i < k ∧ k ≤ s.length ∧ -18014398509481984 ≤ n ∧ n ≤ 18014398509481984 := by
  intro sg fr hsg hfr
  unfold x6t
  cases hq : s[fr]? with
  | none => exact .inl ⟨2, .inl rfl, rfl⟩
  | some c =>
   have hl : fr < s.length := (List.getElem?_eq_some_iff.mp hq).1
   have hc : s.drop fr = c :: s.drop (fr + 1) := by
    rw [List.drop_eq_getElem_cons hl, (List.getElem?_eq_some_iff.mp hq).2]
   simp only
   cases hdc : dg c with
   | false => exact .inl ⟨6, .inr rfl, rfl⟩
   | true =>
    simp only [if_true]
    unfold w7v
    split
    ·exact .inl ⟨6, .inr rfl, rfl⟩
    ·have h1 := w4z (s.drop fr)
     have h2 := x4h ((s.drop fr).takeWhile dg) 0 (by omega)
     have h3 : 0 < ((s.drop fr).takeWhile dg).length := by rw [hc, List.takeWhile_cons_of_pos hdc]; simp
     rw [List.length_drop] at h1
     refine .inr ⟨_, _, rfl, by omega, by omega, ?_, ?_⟩ <;> rcases hsg with rfl | rfl <;> omega
 unfold x4f
 split
 ·exact key _ _ (.inr rfl) (by omega)
 ·exact key _ _ (.inl rfl) (Nat.le_refl _)
def q2o (s : Bytes) : Except Int (Vl × Nat) :=
 match x4f s 0 with
 | .error e => .error e
 | .ok (n, i) =>
  if s[i]? = some 58 then
   match x4f s (i + 1) with
   | .error e => .error e
   | .ok (m, k) => if okV ⟨2, 0, [], n, m⟩ then .ok (⟨2, 0, [], n, m⟩, k) else .error 14
  else if okV ⟨0, n, [], 0, 0⟩ then .ok (⟨0, n, [], 0, 0⟩, i) else .error 14
def j6h : Except Int (Vl × Nat) → AV
 | .error e => .tuple [val 0 0 [] 0 0, .int .i64 0, .int .i64 e]
 | .ok (v, i) => .tuple [q1o v, .int .i64 (i : Int), .int .i64 0]
theorem j6i {s : Bytes} (hs : s.length ≤ 1000000) : q0k Cx 67 [.str s] (j6h (q2o s)) := by
 refine q0c (q0l _) w2j ?_
 have hn := z8v (p := 0) hs (Nat.zero_le _)
 rw [x4g] at hn
 have hn' : q0k Cx 94 [.str s, .int .i64 0] (y5t (x4f s 0)) := hn
 unfold q2o
 rcases q4y s 0 (Nat.zero_le _) with ⟨e, he, h⟩ | ⟨n, i, h, hi0, hi1, hn0, hn1⟩
 ·rw [h] at hn' ⊢
  have e0 : (e != 0) = true := by rcases he with rfl | rfl <;> rfl
  simp only [y5t, j0k] at hn'
  simp only [j6h, e0, q0a q8a rfl hn', r67_0, j3p, tt, bb, bc, ↓bd, Nat.reduceEqDiff, Nat.reduceAdd, ↓reduceIte, reduceCtorEq]
 ·rw [h] at hn' ⊢
  simp only [y5t] at hn'
  simp only
  have g1 : (0 : Int) ≤ (i : Int) := by omega
  have ri := Right_ok 0 n [] 0 0
  have eo : q1j 0 n [] 0 0 = okV ⟨0, n, [], 0, 0⟩ := rfl
  rw [eo] at ri
  cases hq : s[i]? with
  | none =>
   have hl : s.length ≤ i := List.getElem?_eq_none_iff.mp hq
   have g0 : ((i : Int) < (s.length : Int)) = False := eq_false (by omega)
   rw [if_neg (by simp)]
   cases ho : okV ⟨0, n, [], 0, 0⟩ with
   | false =>
    rw [ho] at ri
    simp only [j6h, g0, q0a q8a rfl hn', q0a q2n rfl ri, r67_0, j3p, tt, bb, bc, ↓bd, Nat.reduceEqDiff, Nat.reduceAdd, Nat.reduceLeDiff, ↓reduceIte, reduceCtorEq]
   | true =>
    rw [ho] at ri
    simp only [j6h, g0, q0a q8a rfl hn', q0a q2n rfl ri, r67_0, j3p, tt, bb, bc, ↓bd, Nat.reduceEqDiff, Nat.reduceAdd, Nat.reduceLeDiff, ↓reduceIte, reduceCtorEq]
  | some c =>
   have hl : i < s.length := (List.getElem?_eq_some_iff.mp hq).1
   have g0 : ((i : Int) < (s.length : Int)) = True := eq_true (by omega)
   by_cases hc : c = 58
   ·subst hc
    rw [if_pos rfl]
    have g2 : (((58 : UInt8).toNat : Int) == 58) = true := rfl
    have w1 : IntKind.i64.wrap ((i : Int) + 1) = ((i + 1 : Nat) : Int) := by rw [wr64 (by omega) (by omega)]; omega
    have hm := z8v (p := i + 1) hs (by omega)
    rw [x4g] at hm
    rcases q4y s (i + 1) (by omega) with ⟨e, he, h2⟩ | ⟨m, k, h2, hk0, hk1, hm0, hm1⟩
    ·rw [h2] at hm ⊢
     have e0 : (e != 0) = true := by rcases he with rfl | rfl <;> rfl
     simp only [y5t, j0k] at hm
     simp only [j6h, g0, g1, g2, w1, hq, e0, q0n, Int.toNat_natCast, q0a q8a rfl hn', q0a q8a rfl hm, r67_0, j3p, tt, bb, bc, ↓bd, Nat.reduceEqDiff, Nat.reduceAdd, Nat.reduceLeDiff, ↓reduceIte, reduceCtorEq]
    ·rw [h2] at hm ⊢
     simp only [y5t] at hm
     simp only
     have r2 := Right_ok 2 0 [] n m
     have eo2 : q1j 2 0 [] n m = okV ⟨2, 0, [], n, m⟩ := rfl
     rw [eo2] at r2
     cases ho : okV ⟨2, 0, [], n, m⟩ with
     | false =>
      rw [ho] at r2
      simp only [j6h, g0, g1, g2, w1, hq, q0n, Int.toNat_natCast, q0a q8a rfl hn', q0a q8a rfl hm, q0a q2n rfl r2, r67_0, j3p, tt, bb, bc, ↓bd, Nat.reduceEqDiff, Nat.reduceAdd, Nat.reduceLeDiff, ↓reduceIte, reduceCtorEq]
     | true =>
      rw [ho] at r2
      simp only [j6h, g0, g1, g2, w1, hq, q0n, Int.toNat_natCast, q0a q8a rfl hn', q0a q8a rfl hm, q0a q2n rfl r2, r67_0, j3p, tt, bb, bc, ↓bd, Nat.reduceEqDiff, Nat.reduceAdd, Nat.reduceLeDiff, ↓reduceIte, reduceCtorEq]
   ·rw [if_neg (by intro h; exact hc (Option.some.inj h))]
    have g2 : ((c.toNat : Int) == 58) = false := by
     simp only [beq_eq_false_iff_ne, ne_eq]
     intro e; exact hc (UInt8.toNat_inj.mp (by have : (58 : UInt8).toNat = 58 := rfl; omega))
    cases ho : okV ⟨0, n, [], 0, 0⟩ with
    | false =>
     rw [ho] at ri
     simp only [j6h, g0, g1, g2, hq, q0n, Int.toNat_natCast, q0a q8a rfl hn', q0a q2n rfl ri, r67_0, j3p, tt, bb, bc, ↓bd, Nat.reduceEqDiff, Nat.reduceAdd, Nat.reduceLeDiff, ↓reduceIte, reduceCtorEq]
    | true =>
     rw [ho] at ri
     simp only [j6h, g0, g1, g2, hq, q0n, Int.toNat_natCast, q0a q8a rfl hn', q0a q2n rfl ri, r67_0, j3p, tt, bb, bc, ↓bd, Nat.reduceEqDiff, Nat.reduceAdd, Nat.reduceLeDiff, ↓reduceIte, reduceCtorEq]
def hx (c : UInt8) : Int := j7s c digits 0
theorem j8f (c : UInt8) : ∀ (l : Bytes) (i : Nat), -1 ≤ j7s c l i ∧ (j7s c l i = -1 ∨ (i : Int) ≤ j7s c l i) ∧ j7s c l i < (i : Int) + l.length
 | [], i => by simp [j7s]; omega
 | x :: l, i => by
  unfold j7s
  have h := j8f c l (i + 1)
  split
  ·simp; omega
  ·simp only [List.length_cons]; omega
theorem j8g (c : UInt8) : -1 ≤ hx c ∧ hx c ≤ 15 := by
 have h := j8f c digits 0
 have hl : digits.length = 16 := rfl
 unfold hx
 omega
theorem x8w : Cx.pure 123 = true := by kernel_rfl
theorem w5a (c : UInt8) : ((c.toNat : Int)).toNat.toUInt8 = c := by
 rw [Int.toNat_natCast]
 show UInt8.ofNat c.toNat = c
 exact UInt8.ofNat_toNat
theorem z1g (c : UInt8) : q0k Cx 110 [.str digits, .int .u8 (c.toNat : Int)] (.int .i64 (hx c)) := by
 have h0 : q0k Cx 123 [.str digits, .int .u8 (c.toNat : Int)] (.int .i64 (hx c)) := by
  refine j3i (g := y7y) rfl (r0 := .int .i64 (hx c)) (H' := AHeap.empty) ?_ rfl
  show some (AV.int .i64 (j7s ((c.toNat : Int)).toNat.toUInt8 digits 0), AHeap.empty) = _
  rw [w5a]
  rfl
 have h1 : q0k Cx 119 [.str digits, .int .u8 (c.toNat : Int)] (.int .i64 (hx c)) := by
  refine q0c (q0l _) y5k ?_
  simp only [q0a x8w rfl h0, r119_0, w4t, tt, bb, bc, ↓bd, Nat.reduceEqDiff, ↓reduceIte, reduceCtorEq]
 refine q0c (q0l _) y5a ?_
 simp only [q0a y5l rfl h1, r110_0, w4p, tt, bb, bc, ↓bd, Nat.reduceEqDiff, ↓reduceIte, reduceCtorEq]
def j6j : Bytes → Except Int Int
 | [] => .error 2
 | a :: r => if hx a < 0 then .error 6 else
  match r with
  | [] => .error 2
  | b :: _ => if hx b < 0 then .error 6 else if q3z (16 * hx a + hx b) then .error 6 else .ok (16 * hx a + hx b)
def x8x : Except Int Int → AV
 | .error e => .tuple [.int .u8 0, .int .i64 e]
 | .ok c => .tuple [.int .u8 c, .int .i64 0]
theorem z6n {s : Bytes} {p : Nat} (hs : s.length ≤ 1000000) (hp : p ≤ s.length) :
  q0k Cx 92 [.str s, .int .i64 (p : Int)] (x8x (j6j (s.drop p))) := by
 refine q0c (q0l _) w3x ?_
 have w2 : IntKind.i64.wrap ((p : Int) + 2) = ((p + 2 : Nat) : Int) := by rw [wr64 (by omega) (by omega)]; omega
 have g1 : ((p : Int) < ((p + 2 : Nat) : Int)) = True := eq_true (by omega)
 have g2 : (((p + 1 : Nat) : Int) < ((p + 2 : Nat) : Int)) = True := eq_true (by omega)
 have g3 : (((p + 2 : Nat) : Int) < ((p + 2 : Nat) : Int)) = False := by simp
 have w1 : IntKind.i64.wrap ((p : Int) + 1) = ((p + 1 : Nat) : Int) := by rw [wr64 (by omega) (by omega)]; omega
 have w3 : IntKind.i64.wrap (((p + 1 : Nat) : Int) + 1) = ((p + 2 : Nat) : Int) := by rw [wr64 (by omega) (by omega)]; omega
 have g6 : (0 : Int) ≤ (p : Int) := by omega
 have g7 : (0 : Int) ≤ ((p + 1 : Nat) : Int) := by omega
 have w0 : IntKind.i64.wrap 0 = 0 := rfl
 cases hd : s.drop p with
 | nil =>
  have hl : s.length ≤ p := by
   have := congrArg List.length hd
   rw [List.length_drop] at this
   simp at this; omega
  have g4 : ((s.length : Int) ≤ (p : Int)) = True := eq_true (by omega)
  simp only [j6j, x8x, w2, g1, g4, run_inLoop, r92_0, x0k, tt, bb, bc, ↓bd, Nat.reduceEqDiff, ↓reduceIte, reduceCtorEq]
 | cons a r =>
  obtain ⟨h1, h2, l1⟩ := q4h hd
  have g4 : ((s.length : Int) ≤ (p : Int)) = False := eq_false (by omega)
  have i1 := z1g a
  obtain ⟨ra, rb⟩ := j8g a
  by_cases ha : hx a < 0
  ·simp only [j6j, x8x, ha, w2, g1, g4, g6, h1, q0n, Int.toNat_natCast, q0a q8b rfl i1, run_inLoop, r92_0, x0k, tt, bb, bc, ↓bd, Nat.reduceEqDiff, ↓reduceIte, reduceCtorEq]
  ·have wa : IntKind.i64.wrap (hx a) = hx a := wr64 (by omega) (by omega)
   have wb : IntKind.i64.wrap (16 * hx a) = 16 * hx a := wr64 (by omega) (by omega)
   cases r with
   | nil =>
    have hl : s.length ≤ p + 1 := by
     have := congrArg List.length h2
     rw [List.length_drop] at this
     simp at this; omega
    have g5 : ((s.length : Int) ≤ ((p + 1 : Nat) : Int)) = True := eq_true (by omega)
    simp only [j6j, x8x, ha, wa, w0, w1, w2, g1, g2, g4, g5, g6, h1, Int.mul_zero, Int.zero_add, q0n, Int.toNat_natCast, q0a q8b rfl i1, xx, run_inLoop, r92_0, x0k, tt, bb, bc, ↓bd, Nat.reduceEqDiff, ↓reduceIte, reduceCtorEq]
   | cons b r2 =>
    obtain ⟨h3, h4, l2⟩ := q4h h2
    have g5 : ((s.length : Int) ≤ ((p + 1 : Nat) : Int)) = False := eq_false (by omega)
    have i2 := z1g b
    obtain ⟨rc, rd⟩ := j8g b
    by_cases hb : hx b < 0
    ·simp only [j6j, x8x, ha, hb, wa, w0, w1, w2, g1, g2, g4, g5, g6, g7, h1, h3, Int.mul_zero, Int.zero_add, q0n, Int.toNat_natCast, q0a q8b rfl i1, q0a q8b rfl i2, xx, run_inLoop, r92_0, x0k, tt, bb, bc, ↓bd, Nat.reduceEqDiff, ↓reduceIte, reduceCtorEq]
    ·have wc : IntKind.i64.wrap (16 * hx a + hx b) = 16 * hx a + hx b := wr64 (by omega) (by omega)
     have wd : IntKind.u8.wrap (16 * hx a + hx b) = 16 * hx a + hx b := wr8 (by omega) (by omega)
     have hpl := z4c (16 * hx a + hx b)
     cases hp' : q3z (16 * hx a + hx b) with
     | true =>
      rw [hp'] at hpl
      simp only [j6j, x8x, ha, hb, hp', wa, wb, wc, wd, w0, w1, w2, w3, g1, g2, g3, g4, g5, g6, g7, h1, h3, Int.mul_zero, Int.zero_add, q0n, Int.toNat_natCast, q0a q8b rfl i1, q0a q8b rfl i2, q0a z6i rfl hpl, xx, run_inLoop, r92_0, x0k, tt, bb, bc, ↓bd, Nat.reduceEqDiff, ↓reduceIte, reduceCtorEq]
     | false =>
      rw [hp'] at hpl
      simp only [j6j, x8x, ha, hb, hp', wa, wb, wc, wd, w0, w1, w2, w3, g1, g2, g3, g4, g5, g6, g7, h1, h3, Int.mul_zero, Int.zero_add, q0n, Int.toNat_natCast, q0a q8b rfl i1, q0a q8b rfl i2, q0a z6i rfl hpl, xx, run_inLoop, r92_0, x0k, tt, bb, bc, ↓bd, Nat.reduceEqDiff, ↓reduceIte, reduceCtorEq]
def txX (l : Bytes) (acc : Bytes) (i : Nat) : Except Int (Bytes × Nat) :=
 match l with
 | [] => .error 2
 | c :: r =>
  if c = 34 then (if 4096 < acc.length then .error 3 else .ok (acc, i + 1))
  else if c = 92 then
   match j6j r with
   | .error e => .error e
   | .ok n => txX (r.drop 2) (acc ++ [UInt8.ofNat n.toNat]) (i + 3)
  else if q7h c then txX r (acc ++ [c]) (i + 1)
  else .error 6
termination_by l.length
decreasing_by
 all_goals simp only [List.length_cons, List.length_drop]; omega
def j8h : Except Int (Bytes × Nat) → AV
 | .error e => .tuple [val 0 0 [] 0 0, .int .i64 0, .int .i64 e]
 | .ok (t, i) => .tuple [val 1 0 t 0 0, .int .i64 (i : Int), .int .i64 0]
theorem j6k {r : Bytes} {n : Int} (h : j6j r = .ok n) : 0 ≤ n ∧ n ≤ 255 ∧ 2 ≤ r.length := by
 unfold j6j at h
 split at h
 ·cases h
 ·split at h
  ·cases h
  ·split at h
   ·cases h
   ·rename_i a _ ha b r2
    obtain ⟨h1, h2⟩ := j8g a
    obtain ⟨h3, h4⟩ := j8g b
    split at h
    ·cases h
    ·split at h
     ·cases h
     ·cases h
      refine ⟨by omega, by omega, by simp⟩
theorem j8i {r : Bytes} {e : Int} (h : j6j r = .error e) : e = 2 ∨ e = 6 := by
 unfold j6j at h
 split at h
 ·cases h; exact .inl rfl
 ·split at h
  ·cases h; exact .inr rfl
  ·split at h
   ·cases h; exact .inl rfl
   ·split at h
    ·cases h; exact .inr rfl
    ·split at h
     ·cases h; exact .inr rfl
     ·cases h
def PX (s : Bytes) (r : AV) (i : Nat) (acc : Bytes) : Prop :=
 ∀ (T : Nat → AV) (h : Nat) (A : Nat → Blk), T 0 = .str s → T 2 = .ptr 0 5 0 0 → T 6 = .int .i64 (i : Int) → A 0 = .cells 26 5 [[.int .i64 0, .int .i64 0, .str [], .int .i64 0, .int .i64 0]] → 0 < h →
  ((T 5 = .nilS ∧ acc = []) ∨ ∃ g, T 5 = .slc g 1 0 acc.length ∧ 0 < g ∧ g < h ∧ A g = .cells 5 1 (q0v acc)) →
  Run Cx 65 T [] none [.code c65_9, .inScope c65_3] ⟨h, A⟩ (fun r0 H' => BX.freeze H' r0 = some r)
theorem z8w : z1r 0 [.inBlock 0, .code c65_56, .inScope c65_3] = some [.code (.seq .skip c65_9), .inScope c65_3] := by kernel_rfl
theorem z8x : z1r 0 [.inScope c65_3] = some [.code (.seq .skip c65_9), .inScope c65_3] := by kernel_rfl
theorem q9f {c : UInt8} {n : Nat} (hn : n < 256) (h : c ≠ UInt8.ofNat n) : ((c.toNat : Int) == (n : Int)) = false := by
 simp only [beq_eq_false_iff_ne, ne_eq]
 intro e
 refine h (UInt8.toNat_inj.mp ?_)
 rw [UInt8.toNat_ofNat']
 omega
theorem j8j {s acc : Bytes} {i : Nat} (hi : s.length ≤ i) : PX s (j8h (.error 2)) i acc := by
 intro T h A t0 t2 t6 a0 hh hb
 have g1 : ((s.length : Int) ≤ (i : Int)) = True := eq_true (by omega)
 simp only [j8h, t0, t2, t6, a0, g1, r65_0, x0j, tt, bb, bc, ↓bd, Nat.reduceEqDiff, Nat.reduceAdd, ↓reduceIte, reduceCtorEq]
theorem w5b {s acc : Bytes} {i : Nat} (hs : s.length ≤ 1000000) (hi : s[i]? = some 34) :
  PX s (j8h (if 4096 < acc.length then .error 3 else .ok (acc, i + 1))) i acc := by
 intro T h A t0 t2 t6 a0 hh hb
 have hlt : i < s.length := (List.getElem?_eq_some_iff.mp hi).1
 have g1 : ((s.length : Int) ≤ (i : Int)) = False := eq_false (by omega)
 have g2 : (0 : Int) ≤ (i : Int) := by omega
 have g3 : (((34 : UInt8).toNat : Int) == 34) = true := rfl
 have w1 : IntKind.i64.wrap ((i : Int) + 1) = ((i + 1 : Nat) : Int) := by rw [wr64 (by omega) (by omega)]; omega
 rcases hb with ⟨t5, rfl⟩ | ⟨g, t5, hg0, hgh, hA⟩
 ·have g5 : ((4096 : Int) < (0 : Int)) = False := by simp
  have g6 : bytesOf ([] : List (List AV)) = some [] := rfl
  rw [if_neg (by simp)]
  simp only [j8h, t0, t2, t5, t6, a0, hi, g1, g2, g3, g5, g6, w1, q0n, Int.toNat_natCast, r65_0, x0j, tt, bb, bc, ↓bd, Nat.reduceEqDiff, Nat.reduceAdd, Nat.reduceLeDiff, ↓reduceIte, reduceCtorEq]
 ·have hbb := q5i acc
  have f7 : (acc.length ≤ (q0v acc).length) = True := eq_true (by rw [q3g]; omega)
  by_cases h4 : 4096 < acc.length
  ·have g4 : ((4096 : Int) < (acc.length : Int)) = True := eq_true (by omega)
   rw [if_pos h4]
   simp only [j8h, t0, t2, t5, t6, a0, hi, g1, g2, g3, g4, q0n, Int.toNat_natCast, r65_0, x0j, tt, bb, bc, ↓bd, Nat.reduceEqDiff, Nat.reduceAdd, ↓reduceIte, reduceCtorEq]
  ·have g4 : ((4096 : Int) < (acc.length : Int)) = False := eq_false (by omega)
   rw [if_neg h4]
   simp only [j8h, t0, t2, t5, t6, a0, hA, hi, g1, g2, g3, g4, w1, hbb, f7, q5v, q0n, Int.toNat_natCast, r65_0, x0j, tt, bb, bc, ↓bd, Nat.reduceEqDiff, Nat.reduceAdd, Nat.reduceLeDiff, ↓reduceIte, reduceCtorEq]
theorem y5u {s acc : Bytes} {i : Nat} {c : UInt8} (hs : s.length ≤ 1000000) (hi : s[i]? = some c) (h34 : c ≠ 34) (h92 : c ≠ 92) (hc : q7h c = false) : PX s (j8h (.error 6)) i acc := by
 intro T h A t0 t2 t6 a0 hh hb
 have hlt : i < s.length := (List.getElem?_eq_some_iff.mp hi).1
 have g1 : ((s.length : Int) ≤ (i : Int)) = False := eq_false (by omega)
 have g2 : (0 : Int) ≤ (i : Int) := by omega
 have g3 : ((c.toNat : Int) == 34) = false := q9f (n := 34) (by omega) h34
 have g4 : ((c.toNat : Int) == 92) = false := q9f (n := 92) (by omega) h92
 have hcc : q3z (c.toNat : Int) = false := hc
 have hpl := z4c (c.toNat : Int)
 rw [hcc] at hpl
 simp only [j8h, t0, t2, t6, a0, hi, g1, g2, g3, g4, q0n, Int.toNat_natCast, q0a z6i rfl hpl, r65_0, x0j, tt, bb, bc, ↓bd, Nat.reduceEqDiff, Nat.reduceAdd, ↓reduceIte, reduceCtorEq]
theorem x8y {s acc : Bytes} {i : Nat} {c : UInt8} {r : AV} (hs : s.length ≤ 1000000) (hi : s[i]? = some c) (h34 : c ≠ 34) (h92 : c ≠ 92) (hc : q7h c = true) (hl : acc.length ≤ 1000000) (hp : PX s r (i + 1) (acc ++ [c])) : PX s r i acc := by
 intro T h A t0 t2 t6 a0 hh hb
 have hlt : i < s.length := (List.getElem?_eq_some_iff.mp hi).1
 have g1 : ((s.length : Int) ≤ (i : Int)) = False := eq_false (by omega)
 have g2 : (0 : Int) ≤ (i : Int) := by omega
 have w1 : IntKind.i64.wrap ((i : Int) + 1) = ((i + 1 : Nat) : Int) := by rw [wr64 (by omega) (by omega)]; omega
 have hcc : q3z (c.toNat : Int) = true := hc
 have g3 : ((c.toNat : Int) == 34) = false := q9f (n := 34) (by omega) h34
 have g4 : ((c.toNat : Int) == 92) = false := q9f (n := 92) (by omega) h92
 have hpl := z4c (c.toNat : Int)
 rw [hcc] at hpl
 have hm1 : 1 ≤ q2m := by unfold q2m; omega
 have hm2 : acc.length + 1 ≤ q2m := by unfold q2m; omega
 have e0 : (0 = h) = False := eq_false (by omega)
 have e00 : (0 = h + 1) = False := eq_false (by omega)
 have hsn := j0d acc c
 rcases hb with ⟨t5, rfl⟩ | ⟨g, t5, hg0, hgh, hA⟩
 ·simp only [t0, t5, t6, hi, g1, g2, g3, g4, w1, hm1, q1n, q2c, q3a, Nat.mul_one, q0i, q0n, Int.toNat_natCast, q0a z6i rfl hpl, q1a, r65_0, tt, bb, bc, ↓bd, Nat.reduceEqDiff, Nat.reduceLeDiff, ↓reduceIte, reduceCtorEq, List.reduceReplicate]
  unfold c65_60
  rw [q7a z8x, q5z, q4u]
  refine hp _ _ _ ?_ ?_ ?_ ?_ ?_ (.inr ⟨h + 1, ?_, ?_, ?_, ?_⟩)
  all_goals first | omega | (simp only [q0b, t0, t2, a0, e0, e00, Nat.reduceEqDiff, ↓reduceIte]; done) | (simp only [q0b, Nat.reduceEqDiff, ↓reduceIte]; rfl)
 ·have f1 : (g = h) = False := eq_false (by omega)
  have f5 : (0 = g) = False := eq_false (by omega)
  have f7 : (acc.length ≤ (q0v acc).length) = True := eq_true (by rw [q3g]; omega)
  simp only [t0, t5, t6, hA, hi, g1, g2, g3, g4, w1, hm2, f1, f7, q5v, hsn, q1n, q2c, q3a, Nat.mul_one, q0i, q0n, Int.toNat_natCast, q0a z6i rfl hpl, q1a, r65_0, tt, bb, bc, ↓bd, Nat.reduceEqDiff, Nat.reduceLeDiff, ↓reduceIte, reduceCtorEq, List.reduceReplicate]
  unfold c65_60
  rw [q7a z8x, q5z, q4u]
  refine hp _ _ _ ?_ ?_ ?_ ?_ ?_ (.inr ⟨h + 1, ?_, ?_, ?_, ?_⟩)
  all_goals first | omega | (simp only [q0b, t0, t2, a0, e0, e00, f5, List.length_append, List.length_singleton, Nat.reduceEqDiff, ↓reduceIte]; done)
theorem y5v {s acc : Bytes} {i : Nat} {e : Int} (hs : s.length ≤ 1000000) (hi : s[i]? = some 92) (he : j6j (s.drop (i + 1)) = .error e) : PX s (j8h (.error e)) i acc := by
 intro T h A t0 t2 t6 a0 hh hb
 have hlt : i < s.length := (List.getElem?_eq_some_iff.mp hi).1
 have g1 : ((s.length : Int) ≤ (i : Int)) = False := eq_false (by omega)
 have g2 : (0 : Int) ≤ (i : Int) := by omega
 have w1 : IntKind.i64.wrap ((i : Int) + 1) = ((i + 1 : Nat) : Int) := by rw [wr64 (by omega) (by omega)]; omega
 have g3 : (((92 : UInt8).toNat : Int) == 34) = false := rfl
 have g4 : (((92 : UInt8).toNat : Int) == 92) = true := rfl
 have y3e := z6n (p := i + 1) hs (by omega)
 rw [he] at y3e
 simp only [x8x] at y3e
 have ge : (e != 0) = true := by rcases j8i he with rfl | rfl <;> rfl
 simp only [j8h, t0, t2, t6, a0, hi, g1, g2, g3, g4, w1, ge, q0n, Int.toNat_natCast, q0a x3p rfl y3e, r65_0, x0j, tt, bb, bc, ↓bd, Nat.reduceEqDiff, Nat.reduceAdd, ↓reduceIte, reduceCtorEq]
theorem w5c {s acc : Bytes} {i : Nat} {n : Int} {r : AV} (hs : s.length ≤ 1000000) (hi : s[i]? = some 92) (he : j6j (s.drop (i + 1)) = .ok n) (hl : acc.length ≤ 1000000) (hp : PX s r (i + 3) (acc ++ [UInt8.ofNat n.toNat])) : PX s r i acc := by
 intro T h A t0 t2 t6 a0 hh hb
 have hlt : i < s.length := (List.getElem?_eq_some_iff.mp hi).1
 have g1 : ((s.length : Int) ≤ (i : Int)) = False := eq_false (by omega)
 have g2 : (0 : Int) ≤ (i : Int) := by omega
 have w1 : IntKind.i64.wrap ((i : Int) + 1) = ((i + 1 : Nat) : Int) := by rw [wr64 (by omega) (by omega)]; omega
 have w3 : IntKind.i64.wrap ((i : Int) + 3) = ((i + 3 : Nat) : Int) := by rw [wr64 (by omega) (by omega)]; omega
 have g3 : (((92 : UInt8).toNat : Int) == 34) = false := rfl
 have g4 : (((92 : UInt8).toNat : Int) == 92) = true := rfl
 have y3e := z6n (p := i + 1) hs (by omega)
 rw [he] at y3e
 obtain ⟨n0, n1, _⟩ := j6k he
 have hn : (((UInt8.ofNat n.toNat).toNat : Nat) : Int) = n := x3x n0 n1
 simp only [x8x] at y3e
 have hm1 : 1 ≤ q2m := by unfold q2m; omega
 have hm2 : acc.length + 1 ≤ q2m := by unfold q2m; omega
 have e0 : (0 = h) = False := eq_false (by omega)
 have e00 : (0 = h + 1) = False := eq_false (by omega)
 have hsn := j0d acc (UInt8.ofNat n.toNat)
 rw [hn] at hsn
 have hsn0 : [[AV.int .u8 n]] = q0v [UInt8.ofNat n.toNat] := by
  show _ = [[AV.int .u8 (((UInt8.ofNat n.toNat).toNat : Nat) : Int)]]
  rw [hn]
 rcases hb with ⟨t5, rfl⟩ | ⟨g, t5, hg0, hgh, hA⟩
 ·simp only [t0, t5, t6, hi, g1, g2, g3, g4, w1, w3, hm1, q1n, q2c, q3a, Nat.mul_one, q0i, q0n, Int.toNat_natCast, q0a x3p rfl y3e, r65_0, tt, bb, bc, ↓bd, Nat.reduceEqDiff, Nat.reduceLeDiff, ↓reduceIte, reduceCtorEq, List.reduceReplicate]
  unfold c65_48
  rw [q7a z8w, q5z, q4u]
  refine hp _ _ _ ?_ ?_ ?_ ?_ ?_ (.inr ⟨h + 1, ?_, ?_, ?_, ?_⟩)
  all_goals first | omega | (simp only [q0b, t0, t2, a0, e0, e00, Nat.reduceEqDiff, ↓reduceIte]; done) | (simp only [q0b, Nat.reduceEqDiff, ↓reduceIte]; rfl) | (simp only [q0b, ↓reduceIte]; rw [hsn0]; rfl)
 ·have f1 : (g = h) = False := eq_false (by omega)
  have f5 : (0 = g) = False := eq_false (by omega)
  have f7 : (acc.length ≤ (q0v acc).length) = True := eq_true (by rw [q3g]; omega)
  simp only [t0, t5, t6, hA, hi, g1, g2, g3, g4, w1, w3, hm2, f1, f7, q5v, hsn, q1n, q2c, q3a, Nat.mul_one, q0i, q0n, Int.toNat_natCast, q0a x3p rfl y3e, r65_0, tt, bb, bc, ↓bd, Nat.reduceEqDiff, Nat.reduceLeDiff, ↓reduceIte, reduceCtorEq, List.reduceReplicate]
  unfold c65_48
  rw [q7a z8w, q5z, q4u]
  refine hp _ _ _ ?_ ?_ ?_ ?_ ?_ (.inr ⟨h + 1, ?_, ?_, ?_, ?_⟩)
  all_goals first | omega | (simp only [q0b, t0, t2, a0, e0, e00, f5, List.length_append, List.length_singleton, Nat.reduceEqDiff, ↓reduceIte]; done)
theorem w5d {s : Bytes} (hs : s.length ≤ 1000000) : ∀ (m : Nat) (l : Bytes) (i : Nat) (acc : Bytes), l.length ≤ m → s.drop i = l → acc.length ≤ i → i ≤ s.length → PX s (j8h (txX l acc i)) i acc := by
 intro m
 induction m with
 | zero =>
  intro l i acc hm hd ha hi
  have hl : l = [] := List.eq_nil_of_length_eq_zero (by omega)
  subst hl
  rw [txX]
  refine j8j ?_
  have := congrArg List.length hd
  rw [List.length_drop] at this
  simp at this; omega
 | succ m ih =>
  intro l i acc hm hd ha hi
  cases l with
  | nil =>
   rw [txX]
   refine j8j ?_
   have := congrArg List.length hd
   rw [List.length_drop] at this
   simp at this; omega
  | cons c r =>
   obtain ⟨h1, h2, h3⟩ := q4h hd
   rw [List.length_cons] at hm
   rw [txX]
   by_cases h34 : c = 34
   ·subst h34
    rw [if_pos rfl]
    exact w5b hs h1
   ·rw [if_neg h34]
    by_cases h92 : c = 92
    ·subst h92
     rw [if_pos rfl]
     cases he : j6j r with
     | error e =>
      exact y5v hs h1 (by rw [h2]; exact he)
     | ok n =>
      have hr := (j6k he).2.2
      have hrl : r.length = s.length - (i + 1) := by rw [← h2, List.length_drop]
      refine w5c hs h1 (by rw [h2]; exact he) (by omega) ?_
      refine ih (r.drop 2) (i + 3) _ (by rw [List.length_drop]; omega) ?_ (by simp; omega) (by omega)
      rw [← h2, List.drop_drop]
    ·rw [if_neg h92]
     cases hc : q7h c with
     | true =>
      simp only [if_true]
      exact x8y hs h1 h34 h92 hc (by omega) (ih r (i + 1) _ (by omega) h2 (by simp; omega) (by omega))
     | false =>
      simp only [Bool.false_eq_true, if_false]
      exact y5u hs h1 h34 h92 hc
theorem x8z {s : Bytes} (hs : s.length ≤ 1000000) (h1 : 1 ≤ s.length) : q0k Cx 65 [.str s] (j8h (txX (s.drop 1) [] 1)) := by
 refine q0c (q0l _) w2h ?_
 have hp := w5d hs (s.drop 1).length (s.drop 1) 1 [] (Nat.le_refl _) rfl (by simp) h1
 simp only [r65_0.1, r65_0.2.1, r65_0.2.2.1, r65_0.2.2.2.1, tt, bb, ↓bd]
 refine hp _ _ _ ?_ ?_ ?_ ?_ ?_ (.inl ⟨?_, rfl⟩)
 all_goals first | omega | (simp only [q0b, q1g, List.getElem?_cons_zero, Option.getD_some, Nat.reduceEqDiff, ↓reduceIte]; done) | (simp only [q0b, ↓reduceIte]; rfl)
def z1h (s : Bytes) : Except Int (Vl × Nat) :=
 match s with
 | [] => .error 10
 | c :: r =>
  if c = 34 then
   match txX r [] 1 with
   | .error e => .error e
   | .ok (t, i) => .ok (⟨1, 0, t, 0, 0⟩, i)
  else if c = 45 ∨ dg c = true then q2o s
  else .error 10
theorem q4f (c : UInt8) (r : Bytes) : z1h (c :: r) = if c = 34 then (match txX r [] 1 with
   | .error e => .error e
   | .ok (t, i) => .ok (⟨1, 0, t, 0, 0⟩, i)) else if c = 45 ∨ dg c = true then q2o (c :: r) else .error 10 := rfl
theorem x0o (z : Except Int (Vl × Nat)) : ∃ (v : Vl) (i e : Int), j6h z = .tuple [.agg [.int .i64 v.k, .int .i64 v.n, .str v.s, .int .i64 v.x, .int .i64 v.y], .int .i64 i, .int .i64 e] := by
 cases z with
 | error e => exact ⟨⟨0, 0, [], 0, 0⟩, 0, e, rfl⟩
 | ok p => obtain ⟨v, i⟩ := p; exact ⟨v, i, 0, rfl⟩
theorem x4i {s : Bytes} (hs : s.length ≤ 1000000) : q0k Cx 45 [.str s] (j6h (z1h s)) := by
 refine q0c (q0l _) w1b ?_
 cases s with
 | nil =>
  have e : (([] : Bytes) != []) = false := rfl
  simp only [z1h, j6h, e, q1a, r45_0, x0g, tt, bb, bc, ↓bd, Nat.reduceEqDiff, Nat.reduceAdd, ↓reduceIte, reduceCtorEq]
 | cons c r =>
  have e : ((c :: r : Bytes) != []) = true := rfl
  have g0 : (c :: r)[0]? = some c := rfl
  have p0 : (0 : Int) ≤ 0 := by omega
  rw [q4f]
  by_cases h34 : c = 34
  ·subst h34
   rw [if_pos rfl]
   have g3 : (((34 : UInt8).toNat : Int) == 34) = true := rfl
   have ht := x8z (s := 34 :: r) hs (by simp)
   have hd : (34 :: r : Bytes).drop 1 = r := rfl
   rw [hd] at ht
   cases hx : txX r [] 1 with
   | error q =>
    rw [hx] at ht
    simp only [j8h] at ht
    simp only [j6h, e, g0, g3, p0, q0n, Int.toNat_zero, q0a y1f rfl ht, r45_0, x0g, tt, bb, bc, ↓bd, Nat.reduceEqDiff, Nat.reduceAdd, ↓reduceIte, reduceCtorEq]
   | ok q =>
    obtain ⟨t, i⟩ := q
    rw [hx] at ht
    simp only [j8h] at ht
    simp only [j6h, e, g0, g3, p0, q0n, Int.toNat_zero, q0a y1f rfl ht, r45_0, x0g, tt, bb, bc, ↓bd, Nat.reduceEqDiff, Nat.reduceAdd, ↓reduceIte, reduceCtorEq]
  ·rw [if_neg h34]
   have g3 : ((c.toNat : Int) == 34) = false := q9f (n := 34) (by omega) h34
   have hn := j6i hs
   obtain ⟨v, i, q, hv⟩ := x0o (q2o (c :: r))
   by_cases h45 : c = 45
   ·subst h45
    rw [if_pos (.inl rfl)]
    have g4 : (((45 : UInt8).toNat : Int) == 45) = true := rfl
    rw [hv] at hn ⊢
    simp only [e, g0, g3, g4, p0, q0n, Int.toNat_zero, q0a y1g rfl hn, r45_0, x0g, tt, bb, bc, ↓bd, Nat.reduceEqDiff, Nat.reduceAdd, ↓reduceIte, reduceCtorEq]
   ·have g4 : ((c.toNat : Int) == 45) = false := q9f (n := 45) (by omega) h45
    have hdg := q5w (c.toNat : Int)
    have hde : z7b (c.toNat : Int) = dg c := rfl
    rw [hde] at hdg
    cases hdc : dg c with
    | true =>
     rw [hdc] at hdg
     rw [if_pos (.inr rfl), hv]
     rw [hv] at hn
     simp only [e, g0, g3, g4, p0, q0n, Int.toNat_zero, q0a q7z rfl hdg, q0a y1g rfl hn, r45_0, x0g, tt, bb, bc, ↓bd, Nat.reduceEqDiff, Nat.reduceAdd, ↓reduceIte, reduceCtorEq]
    | false =>
     rw [hdc] at hdg
     rw [if_neg (by simp [h45])]
     simp only [j6h, e, g0, g3, g4, p0, q0n, Int.toNat_zero, q0a q7z rfl hdg, q1a, r45_0, x0g, tt, bb, bc, ↓bd, Nat.reduceEqDiff, Nat.reduceAdd, ↓reduceIte, reduceCtorEq]
theorem w5e : ∀ (m : Nat) (l acc : Bytes) (i : Nat) (t : Bytes) (k : Nat), l.length ≤ m → txX l acc i = .ok (t, k) → t.length ≤ 4096 ∧ i < k ∧ k ≤ i + l.length := by
 intro m
 induction m with
 | zero =>
  intro l acc i t k hm h
  have hl : l = [] := List.eq_nil_of_length_eq_zero (by omega)
  subst hl
  rw [txX] at h
  cases h
 | succ m ih =>
  intro l acc i t k hm h
  cases l with
  | nil => rw [txX] at h; cases h
  | cons c r =>
   rw [List.length_cons] at hm ⊢
   rw [txX] at h
   split at h
   ·split at h
    ·cases h
    ·cases h; omega
   ·split at h
    ·split at h
     ·cases h
     ·rename_i n he
      have h2 := (j6k he).2.2
      have := ih (r.drop 2) _ _ _ _ (by rw [List.length_drop]; omega) h
      rw [List.length_drop] at this
      omega
    ·split at h
     ·have := ih r _ _ _ _ (by omega) h
      omega
     ·cases h
theorem y5w : ∀ (m : Nat) (l acc : Bytes) (i : Nat) (e : Int), l.length ≤ m → txX l acc i = .error e → e = 2 ∨ e = 3 ∨ e = 6 := by
 intro m
 induction m with
 | zero =>
  intro l acc i e hm h
  have hl : l = [] := List.eq_nil_of_length_eq_zero (by omega)
  subst hl
  rw [txX] at h
  cases h; exact .inl rfl
 | succ m ih =>
  intro l acc i e hm h
  cases l with
  | nil => rw [txX] at h; cases h; exact .inl rfl
  | cons c r =>
   rw [List.length_cons] at hm
   rw [txX] at h
   split at h
   ·split at h
    ·cases h; exact .inr (.inl rfl)
    ·cases h
   ·split at h
    ·split at h
     ·rename_i e' he
      cases h
      rcases j8i he with rfl | rfl
      ·exact .inl rfl
      ·exact .inr (.inr rfl)
     ·exact ih _ _ _ _ (by rw [List.length_drop]; omega) h
    ·split at h
     ·exact ih r _ _ _ (by omega) h
     ·cases h; exact .inr (.inr rfl)
theorem x4j {s : Bytes} {v : Vl} {n : Nat} (h : z1h s = .ok (v, n)) : okV v = true ∧ 0 < n ∧ n ≤ s.length := by
 have y7p : ∀ {s : Bytes} {v : Vl} {n : Nat}, q2o s = .ok (v, n) → okV v = true ∧ 0 < n ∧ n ≤ s.length := by
  intro s v n h
  unfold q2o at h
  rcases q4y s 0 (Nat.zero_le _) with ⟨e, _, h1⟩ | ⟨a, i, h1, hi0, hi1, _, _⟩
  ·rw [h1] at h; cases h
  ·rw [h1] at h
   simp only at h
   split at h
   ·rcases q4y s (i + 1) (by
     rename_i hq
     have := (List.getElem?_eq_some_iff.mp hq).1
     omega) with ⟨e, _, h2⟩ | ⟨b, k, h2, hk0, hk1, _, _⟩
    ·rw [h2] at h; cases h
    ·rw [h2] at h
     simp only at h
     split at h
     ·cases h
      exact ⟨by assumption, by omega, by omega⟩
     ·cases h
   ·split at h
    ·cases h
     exact ⟨by assumption, by omega, by omega⟩
    ·cases h
 cases s with
 | nil => cases h
 | cons c r =>
  rw [q4f] at h
  split at h
  ·split at h
   ·cases h
   ·rename_i t i ht
    cases h
    have := w5e r.length r [] 1 t n (Nat.le_refl _) ht
    refine ⟨?_, by omega, by rw [List.length_cons]; omega⟩
    unfold okV q1j
    simp
    omega
  ·split at h
   ·exact y7p h
   ·cases h
theorem x0p {s : Bytes} {e : Int} (h : z1h s = .error e) : e = 2 ∨ e = 3 ∨ e = 6 ∨ e = 10 ∨ e = 14 := by
 have y7p : ∀ {s : Bytes} {e : Int}, q2o s = .error e → e = 2 ∨ e = 6 ∨ e = 14 := by
  intro s e h
  unfold q2o at h
  rcases q4y s 0 (Nat.zero_le _) with ⟨e', he, h1⟩ | ⟨a, i, h1, hi0, hi1, _, _⟩
  ·rw [h1] at h; cases h; omega
  ·rw [h1] at h
   simp only at h
   split at h
   ·rcases q4y s (i + 1) (by
     rename_i hq
     have := (List.getElem?_eq_some_iff.mp hq).1
     omega) with ⟨e', he, h2⟩ | ⟨b, k, h2, hk0, hk1, _, _⟩
    ·rw [h2] at h; cases h; omega
    ·rw [h2] at h
     simp only at h
     split at h
     ·cases h
     ·cases h; omega
   ·split at h
    ·cases h
    ·cases h; omega
 cases s with
 | nil => cases h; omega
 | cons c r =>
  rw [q4f] at h
  split at h
  ·split at h
   ·rename_i e' ht
    cases h
    have := y5w r.length r [] 1 e (Nat.le_refl _) ht
    omega
   ·cases h
  ·split at h
   ·have := y7p h
    omega
   ·cases h; omega
structure Nd where
 op : Int
 v : Vl
abbrev q2y (n : Nd) : List AV := [.int .i64 n.op, .int .i64 n.v.k, .int .i64 n.v.n, .str n.v.s, .int .i64 n.v.x, .int .i64 n.v.y]
abbrev ndA (n : Nd) : AV := .agg [.int .i64 n.op, .int .i64 n.v.k, .int .i64 n.v.n, .str n.v.s, .int .i64 n.v.x, .int .i64 n.v.y]
def ops : List (Bytes × Nat) := [([97, 100, 100], 2), ([115, 117, 98], 2), ([109, 117, 108], 2), ([100, 105, 118], 2), ([109, 111, 100], 2), ([110, 101, 103], 1), ([108, 101, 115, 115], 2), ([115, 97, 109, 101], 2), ([110, 111, 116], 1), ([105, 102], 3), ([109, 97, 120], 2), ([109, 105, 110], 2), ([99, 97, 116], 2), ([108, 101, 110], 1), ([99, 117, 116], 3), ([119, 111, 114, 100], 2), ([119, 111, 114, 100, 115], 1), ([110, 117, 109], 1), ([116, 101, 120, 116], 1), ([97, 116], 2), ([114, 101], 1), ([105, 109], 1), ([110, 111, 114, 109], 1), ([99, 111, 110, 106], 1), ([101, 109, 105, 116], 2), ([116, 104, 101, 110], 2), ([101, 97, 99, 104], 2), ([108, 101, 116], 2)]
def q4n (op : Int) : Bool := decide (2 ≤ op) && decide (op ≤ 29)
def w5f (op : Int) : Bytes × Nat := if q4n op then ops.getD (op - 2).toNat ([], 0) else ([], 0)
def q0e (op : Int) : Bytes := (w5f op).1
def q1b (op : Int) : Nat := (w5f op).2
theorem y5x : ops.length = 28 := rfl
theorem j6l {op : Int} (h : q4n op = true) : ∃ h2 : (op - 2).toNat < ops.length, w5f op = ops[(op - 2).toNat] := by
 unfold q4n at h
 simp only [Bool.and_eq_true, decide_eq_true_eq] at h
 have h2 : (op - 2).toNat < ops.length := by rw [y5x]; omega
 refine ⟨h2, ?_⟩
 unfold w5f q4n
 rw [if_pos (by simp; omega)]
 simp [List.getD, List.getElem?_eq_getElem h2]
theorem q2h {op : Int} (h : q4n op = true) : 1 ≤ q1b op ∧ q1b op ≤ 3 := by
 obtain ⟨h2, e⟩ := j6l h
 unfold q1b
 rw [e]
 have key : ∀ x, x ∈ ops → 1 ≤ x.2 ∧ x.2 ≤ 3 := by decide
 exact key _ (List.getElem_mem h2)
theorem q8s {op : Int} (h : q4n op = false) : q1b op = 0 ∧ q0e op = [] := by
 unfold q1b q0e w5f
 rw [h]
 exact ⟨rfl, rfl⟩
def z3q (v : Vl) : Bool := v.k == 0 && (v.n == 0 && (v.s == [] && (v.x == 0 && v.y == 0)))
def q2v (n : Nd) : Bool :=
 if n.op = 1 then ((n.v.k == 0 && okV n.v) && decide (0 ≤ n.v.n)) && decide (n.v.n < 5)
 else n.op == 0 && okV n.v
def q2q (n : Nd) : Nat × Bool := if q4n n.op then (q1b n.op, z3q n.v) else (0, q2v n)
theorem q8t {n : Nd} (h : q2v n = true) : q4n n.op = false ∧ (n.op = 0 ∨ n.op = 1) := by
 unfold q2v at h
 split at h
 ·rename_i e
  rw [e]
  exact ⟨rfl, .inr rfl⟩
 ·rw [Bool.and_eq_true, beq_iff_eq] at h
  rw [h.1]
  exact ⟨rfl, .inl rfl⟩
theorem x9a {n : Nd} (h : q2v n = true) : okV n.v = true := by
 unfold q2v at h
 split at h
 ·simp only [Bool.and_eq_true] at h; exact h.1.1.2
 ·simp only [Bool.and_eq_true] at h; exact h.2
def w9q (n : Int) : Bytes := [[107, 101, 121], [118, 97, 108], [97, 99, 99], [105], [105, 116]].getD n.toNat []
def w5g (n : Nd) : Bytes := if n.op = 0 then q6p n.v.k n.v.n n.v.s n.v.x n.v.y else w9q n.v.n
def x9b (n : Nd) (cs : List Bytes) : Bytes := 40 :: (q0e n.op ++ (cs.flatMap (fun c => 32 :: c) ++ [41]))
inductive Es : Nat → Nat → List Nd → List Bytes → Prop
 | nil (d : Nat) : Es d 0 [] []
 | leaf {d k : Nat} {n : Nd} {ls : List Nd} {bs : List Bytes} (h : q2v n = true) (hs : Es d k ls bs) : Es d (k + 1) (n :: ls) (w5g n :: bs)
 | node {d k : Nat} {n : Nd} {ps ls : List Nd} {cs bs : List Bytes} (h : q4n n.op = true) (hz : z3q n.v = true) (hp : Es d (q1b n.op) ps cs) (hs : Es (d + 1) k ls bs) : Es (d + 1) (k + 1) (n :: (ps ++ ls)) (x9b n cs :: bs)
theorem Es.up {d k : Nat} {l : List Nd} {bs : List Bytes} (h : Es d k l bs) : ∀ {d' : Nat}, d ≤ d' → Es d' k l bs := by
 induction h with
 | nil => intro d' _; exact .nil _
 | leaf h hs ih => intro d' hd; exact .leaf h (ih hd)
 | node h hz hp hs ih1 ih2 =>
  intro d' hd
  obtain ⟨e, rfl⟩ : ∃ e, d' = e + 1 := ⟨d' - 1, by omega⟩
  exact .node h hz (ih1 (by omega)) (ih2 (by omega))
theorem Es.len {d k : Nat} {l : List Nd} {bs : List Bytes} (h : Es d k l bs) : k ≤ l.length ∧ bs.length = k := by
 induction h with
 | nil => exact ⟨Nat.le_refl _, rfl⟩
 | leaf h hs ih => simp only [List.length_cons]; omega
 | node h hz hp hs ih1 ih2 => simp only [List.length_cons, List.length_append]; omega
theorem Es.split {d k : Nat} {l : List Nd} {bs : List Bytes} (h : Es d (k + 1) l bs) : ∃ e ls b bs', l = e ++ ls ∧ bs = b :: bs' ∧ Es d 1 e [b] ∧ Es d k ls bs' := by
 cases h with
 | leaf h hs => exact ⟨[_], _, _, _, rfl, rfl, .leaf h (.nil _), hs⟩
 | node h hz hp hs => exact ⟨_, _, _, _, (by rw [List.cons_append]), rfl, by have := Es.node h hz hp (.nil _); rwa [List.append_nil] at this, hs⟩
theorem Es.uniq {d k : Nat} {l : List Nd} {bs : List Bytes} (h : Es d k l bs) : ∀ {d' : Nat} {l' : List Nd} {bs' : List Bytes} {p p' : List Nd}, Es d' k l' bs' → l ++ p = l' ++ p' → l = l' ∧ p = p' ∧ bs = bs' := by
 induction h with
 | nil =>
  intro d' l' bs' p p' h' e
  cases h'
  exact ⟨rfl, e, rfl⟩
 | leaf h hs ih =>
  intro d' l' bs' p p' h' e
  cases h' with
  | leaf h2 hs2 =>
   rw [List.cons_append, List.cons_append] at e
   obtain ⟨rfl, e2⟩ := List.cons.inj e
   obtain ⟨rfl, rfl, rfl⟩ := ih hs2 e2
   exact ⟨rfl, rfl, rfl⟩
  | node h2 hz2 hp2 hs2 =>
   rw [List.cons_append, List.cons_append] at e
   obtain ⟨rfl, e2⟩ := List.cons.inj e
   have := (q8t h).1
   rw [h2] at this
   cases this
 | node h hz hp hs ih1 ih2 =>
  intro d' l' bs' p p' h' e
  cases h' with
  | leaf h2 hs2 =>
   rw [List.cons_append, List.cons_append] at e
   obtain ⟨rfl, e2⟩ := List.cons.inj e
   have := (q8t h2).1
   rw [h] at this
   cases this
  | node h2 hz2 hp2 hs2 =>
   rw [List.cons_append, List.cons_append, List.append_assoc, List.append_assoc] at e
   obtain ⟨rfl, e2⟩ := List.cons.inj e
   obtain ⟨rfl, e3, rfl⟩ := ih1 hp2 e2
   obtain ⟨rfl, rfl, rfl⟩ := ih2 hs2 e3
   exact ⟨rfl, rfl, rfl⟩
theorem Es.at {d k : Nat} {l : List Nd} {bs : List Bytes} (h : Es d k l bs) : ∀ (i : Nat), i < l.length → ∃ d' e post b, l.drop i = e ++ post ∧ Es d' 1 e [b] ∧ d' ≤ d := by
 induction h with
 | nil => intro i hi; simp at hi
 | @leaf d k n ls bs h hs ih =>
  intro i hi
  cases i with
  | zero => exact ⟨d, [n], ls, _, rfl, .leaf h (.nil _), Nat.le_refl _⟩
  | succ i =>
   obtain ⟨d', e, post, b, h1, h2, h3⟩ := ih i (by simpa using hi)
   exact ⟨d', e, post, b, h1, h2, h3⟩
 | @node d k n ps ls cs bs h hz hp hs ih1 ih2 =>
  intro i hi
  cases i with
  | zero =>
   refine ⟨d + 1, n :: ps, ls, _, (by simp), by have := Es.node h hz hp (.nil (d + 1)); rwa [List.append_nil] at this, Nat.le_refl _⟩
  | succ i =>
   by_cases hi1 : i < ps.length
   ·obtain ⟨d', e, post, b, h1, h2, h3⟩ := ih1 i hi1
    refine ⟨d', e, post ++ ls, b, ?_, h2, by omega⟩
    rw [List.drop_succ_cons, List.drop_append_of_le_length (by omega), h1, List.append_assoc]
   ·obtain ⟨d', e, post, b, h1, h2, h3⟩ := ih2 (i - ps.length) (by simp at hi; omega)
    refine ⟨d', e, post, b, ?_, h2, h3⟩
    rw [List.drop_succ_cons, List.drop_append, List.drop_of_length_le (by omega), h1]
    rfl
def j4s : List Nat → List Nat
 | 0 :: r => j4s r
 | l => l
def z1i (st : List Nat) (n : Nd) : Option (List Nat) :=
 match st with
 | [] => none
 | t :: r => if (q2q n).2 = true ∧ r.length ≤ 24 then some (j4s ((q2q n).1 :: (t - 1) :: r)) else none
def z3r : List Nat → List Nd → Option (List Nat)
 | st, [] => some st
 | st, n :: l => match z1i st n with
  | some st' => z3r st' l
  | none => none
def q2w (l : List Nd) : Bool := (!(l.isEmpty || decide (400 < l.length))) && (z3r [1] l == some [])
theorem q8u {t : Nat} {r : List Nat} (h : 1 ≤ t) : j4s (t :: r) = t :: r := by
 cases t with
 | zero => omega
 | succ t => rfl
theorem w5h {d k : Nat} {e : List Nd} {bs : List Bytes} (h : Es d k e bs) : ∀ {t : Nat} {r : List Nat} {post : List Nd}, r.length + d = 24 → 1 ≤ k → z3r ((k + t) :: r) (e ++ post) = z3r (j4s (t :: r)) post := by
 induction h with
 | nil => intro t r post hd hk; omega
 | @leaf d k n ls bs h hs ih =>
  intro t r post hd hk
  have hp : q2q n = (0, true) := by unfold q2q; rw [(q8t h).1, h]; rfl
  rw [List.cons_append]
  show (match z1i ((k + 1 + t) :: r) n with | some st' => z3r st' (ls ++ post) | none => none) = _
  unfold z1i
  rw [hp]
  simp only [true_and]
  rw [if_pos (by omega)]
  simp only
  show z3r (j4s ((k + 1 + t - 1) :: r)) (ls ++ post) = _
  rw [show k + 1 + t - 1 = k + t by omega]
  by_cases hk0 : k = 0
  ·subst hk0
   cases hs
   rw [Nat.zero_add]
   rfl
  ·rw [q8u (by omega)]
   exact ih hd (by omega)
 | @node d k n ps ls cs bs h hz hp hs ih1 ih2 =>
  intro t r post hd hk
  have hpn : q2q n = (q1b n.op, true) := by unfold q2q; rw [h, hz]; rfl
  have hpp := (q2h h).1
  rw [List.cons_append]
  show (match z1i ((k + 1 + t) :: r) n with | some st' => z3r st' (ps ++ ls ++ post) | none => none) = _
  unfold z1i
  rw [hpn]
  simp only [true_and]
  rw [if_pos (by omega)]
  simp only
  rw [q8u hpp, show k + 1 + t - 1 = k + t by omega, List.append_assoc]
  have h1 := ih1 (t := 0) (r := (k + t) :: r) (post := ls ++ post) (by rw [List.length_cons]; omega) hpp
  rw [Nat.add_zero] at h1
  rw [h1]
  show z3r (j4s ((k + t) :: r)) (ls ++ post) = _
  by_cases hk0 : k = 0
  ·subst hk0
   cases hs
   rw [Nat.zero_add]
   rfl
  ·rw [q8u (by omega)]
   exact ih2 hd (by omega)
theorem w5i : ∀ (m : Nat) (l : List Nd) (t d : Nat) (r : List Nat), l.length ≤ m → 1 ≤ t → r.length + d = 24 → z3r (t :: r) l = some [] → ∃ e post bs, l = e ++ post ∧ Es d t e bs ∧ z3r (j4s r) post = some [] := by
 intro m
 induction m with
 | zero =>
  intro l t d r hm ht hd h
  have hl : l = [] := List.eq_nil_of_length_eq_zero (by omega)
  subst hl
  cases h
 | succ m ih =>
  intro l t d r hm ht hd h
  cases l with
  | nil => cases h
  | cons n l =>
   rw [List.length_cons] at hm
   replace h : (match z1i (t :: r) n with | some st' => z3r st' l | none => none) = some [] := h
   unfold z1i at h
   simp only at h
   split at h
   ·rename_i st' hst
    split at hst
    ·rename_i hc
     cases hst
     cases ho : q4n n.op with
     | false =>
      have hp : q2q n = (0, q2v n) := by unfold q2q; rw [ho]; rfl
      rw [hp] at hc h
      have ha : q2v n = true := hc.1
      replace h : z3r (j4s ((t - 1) :: r)) l = some [] := h
      by_cases ht1 : t = 1
      ·subst ht1
       exact ⟨[n], l, _, rfl, .leaf ha (.nil _), h⟩
      ·rw [q8u (by omega)] at h
       obtain ⟨e, post, bs, rfl, h2, h3⟩ := ih l (t - 1) d r (by omega) (by omega) hd h
       refine ⟨n :: e, post, w5g n :: bs, rfl, ?_, h3⟩
       have := Es.leaf ha h2
       rwa [show t - 1 + 1 = t by omega] at this
     | true =>
      have hp : q2q n = (q1b n.op, z3q n.v) := by unfold q2q; rw [ho]; rfl
      rw [hp] at hc h
      have hz : z3q n.v = true := hc.1
      have hpp := (q2h ho).1
      rw [q8u hpp] at h
      have hd1 : 1 ≤ d := by
       cases l with
       | nil => cases h
       | cons n2 l2 =>
        replace h : (match z1i (q1b n.op :: (t - 1) :: r) n2 with | some st' => z3r st' l2 | none => none) = some [] := h
        unfold z1i at h
        simp only at h
        split at h
        ·rename_i st2 hst2
         split at hst2
         ·rename_i hc2
          have := hc2.2
          rw [List.length_cons] at this
          omega
         ·cases hst2
        ·cases h
      obtain ⟨d, rfl⟩ : ∃ d', d = d' + 1 := ⟨d - 1, by omega⟩
      obtain ⟨ps, post, cs, rfl, h2, h3⟩ := ih l (q1b n.op) d ((t - 1) :: r) (by omega) hpp (by rw [List.length_cons]; omega) h
      by_cases ht1 : t = 1
      ·subst ht1
       refine ⟨n :: ps, post, [x9b n cs], rfl, ?_, h3⟩
       have := Es.node ho hz h2 (.nil (d + 1))
       rwa [List.append_nil] at this
      ·rw [q8u (by omega)] at h3
       rw [List.length_append] at hm
       obtain ⟨e, post2, bs, rfl, h4, h5⟩ := ih post (t - 1) (d + 1) r (by omega) (by omega) hd h3
       refine ⟨n :: (ps ++ e), post2, x9b n cs :: bs, by simp, ?_, h5⟩
       have := Es.node ho hz h2 h4
       rwa [show t - 1 + 1 = t by omega] at this
    ·cases hst
   ·cases h
theorem right_iff {l : List Nd} : q2w l = true ↔ l.length ≤ 400 ∧ ∃ b, Es 24 1 l [b] := by
 unfold q2w
 rw [Bool.and_eq_true, beq_iff_eq, Bool.not_eq_true', Bool.or_eq_false_iff, decide_eq_false_iff_not]
 constructor
 ·rintro ⟨⟨_, h1⟩, h2⟩
  obtain ⟨e, post, bs, rfl, h3, h4⟩ := w5i l.length l 1 24 [] (Nat.le_refl _) (Nat.le_refl _) rfl h2
  have y7t : post = [] := by
   cases post with
   | nil => rfl
   | cons n p => cases h4
  subst y7t
  refine ⟨by omega, ?_⟩
  rw [List.append_nil]
  match bs, h3.len.2 with
  | [b], _ => exact ⟨b, h3⟩
 ·rintro ⟨h1, b, h2⟩
  refine ⟨⟨?_, by omega⟩, ?_⟩
  ·have := h2.len.1
   cases l with
   | nil => simp at this
   | cons n l => rfl
  ·have := w5h h2 (t := 0) (r := []) (post := []) rfl (Nat.le_refl _)
   rw [List.append_nil] at this
   exact this
abbrev WQ (w : Bytes) (b0 b1 b2 b3 b4 b5 b6 b7 b8 b9 b10 b11 b12 b13 b14 b15 b16 b17 b18 b19 b20 b21 b22 b23 b24 b25 b26 b27 : Bool) : Prop := (w == [100, 105, 118]) = b0 ∧ (w == [101, 109, 105, 116]) = b1 ∧ (w == [101, 97, 99, 104]) = b2 ∧ (w == [105, 102]) = b3 ∧ (w == [105, 109]) = b4 ∧ (w == [108, 101, 110]) = b5 ∧ (w == [108, 101, 115, 115]) = b6 ∧ (w == [108, 101, 116]) = b7 ∧ (w == [109, 105, 110]) = b8 ∧ (w == [109, 111, 100]) = b9 ∧ (w == [109, 117, 108]) = b10 ∧ (w == [109, 97, 120]) = b11 ∧ (w == [110, 101, 103]) = b12 ∧ (w == [110, 111, 114, 109]) = b13 ∧ (w == [110, 111, 116]) = b14 ∧ (w == [110, 117, 109]) = b15 ∧ (w == [114, 101]) = b16 ∧ (w == [115, 117, 98]) = b17 ∧ (w == [115, 97, 109, 101]) = b18 ∧ (w == [116, 101, 120, 116]) = b19 ∧ (w == [116, 104, 101, 110]) = b20 ∧ (w == [119, 111, 114, 100, 115]) = b21 ∧ (w == [119, 111, 114, 100]) = b22 ∧ (w == [97, 100, 100]) = b23 ∧ (w == [97, 116]) = b24 ∧ (w == [99, 111, 110, 106]) = b25 ∧ (w == [99, 117, 116]) = b26 ∧ (w == [99, 97, 116]) = b27
theorem wq2 : WQ (q0e 2) false false false false false false false false false false false false false false false false false false false false false false false true false false false false := by decide
theorem wq3 : WQ (q0e 3) false false false false false false false false false false false false false false false false false true false false false false false false false false false false := by decide
theorem wq4 : WQ (q0e 4) false false false false false false false false false false true false false false false false false false false false false false false false false false false false := by decide
theorem wq5 : WQ (q0e 5) true false false false false false false false false false false false false false false false false false false false false false false false false false false false := by decide
theorem wq6 : WQ (q0e 6) false false false false false false false false false true false false false false false false false false false false false false false false false false false false := by decide
theorem wq7 : WQ (q0e 7) false false false false false false false false false false false false true false false false false false false false false false false false false false false false := by decide
theorem wq8 : WQ (q0e 8) false false false false false false true false false false false false false false false false false false false false false false false false false false false false := by decide
theorem wq9 : WQ (q0e 9) false false false false false false false false false false false false false false false false false false true false false false false false false false false false := by decide
theorem wq10 : WQ (q0e 10) false false false false false false false false false false false false false false true false false false false false false false false false false false false false := by decide
theorem y8a : WQ (q0e 11) false false false true false false false false false false false false false false false false false false false false false false false false false false false false := by decide
theorem w9r : WQ (q0e 12) false false false false false false false false false false false true false false false false false false false false false false false false false false false false := by decide
theorem w9s : WQ (q0e 13) false false false false false false false false true false false false false false false false false false false false false false false false false false false false := by decide
theorem y8b : WQ (q0e 14) false false false false false false false false false false false false false false false false false false false false false false false false false false false true := by decide
theorem w7w : WQ (q0e 15) false false false false false true false false false false false false false false false false false false false false false false false false false false false false := by decide
theorem x6u : WQ (q0e 16) false false false false false false false false false false false false false false false false false false false false false false false false false false true false := by decide
theorem y1y : WQ (q0e 17) false false false false false false false false false false false false false false false false false false false false false false true false false false false false := by decide
theorem w7x : WQ (q0e 18) false false false false false false false false false false false false false false false false false false false false false true false false false false false false := by decide
theorem x6v : WQ (q0e 19) false false false false false false false false false false false false false false false true false false false false false false false false false false false false := by decide
theorem w7y : WQ (q0e 20) false false false false false false false false false false false false false false false false false false false true false false false false false false false false := by decide
theorem wq21 : WQ (q0e 21) false false false false false false false false false false false false false false false false false false false false false false false false true false false false := by decide
theorem wq22 : WQ (q0e 22) false false false false false false false false false false false false false false false false true false false false false false false false false false false false := by decide
theorem wq23 : WQ (q0e 23) false false false false true false false false false false false false false false false false false false false false false false false false false false false false := by decide
theorem wq24 : WQ (q0e 24) false false false false false false false false false false false false false true false false false false false false false false false false false false false false := by decide
theorem wq25 : WQ (q0e 25) false false false false false false false false false false false false false false false false false false false false false false false false false true false false := by decide
theorem w7z : WQ (q0e 26) false true false false false false false false false false false false false false false false false false false false false false false false false false false false := by decide
theorem wq27 : WQ (q0e 27) false false false false false false false false false false false false false false false false false false false false true false false false false false false false := by decide
theorem w8a : WQ (q0e 28) false false true false false false false false false false false false false false false false false false false false false false false false false false false false := by decide
theorem wq29 : WQ (q0e 29) false false false false false false false true false false false false false false false false false false false false false false false false false false false false := by decide
end Go.Proofs.YtckhmpcmlochpaaGreat.G
namespace Go.Proofs.YtckhmpcmlochpaaGreat.G.Gs
open Go.BX
abbrev spot (x y : Int) : AV := .agg [.int .i64 x, .int .i64 y]
def inR (n : Int) : Bool := decide (-16777216 ≤ n) && decide (n ≤ 16777216)
theorem inside_ok (x : Int) : q0k Cx 47 [.int .i64 x] (.bool (inR x)) := by
 refine q0c (q0l _) y1b ?_
 by_cases h : -16777216 ≤ x <;>
 simp only [h, inR, r47_0, w1e, tt, bb, bc, ↓bd, Nat.reduceEqDiff, ↓reduceIte, reduceCtorEq, Int.reduceNeg]
theorem number_ok (x y : Int) (hx : inR x = true) (hy : inR y = true) : q0k Cx 112 [spot x y] (.cpx x y) := by
 refine q0c (q0l _) x3u ?_
 simp only [inR, Bool.and_eq_true, decide_eq_true_eq] at hx hy
 have fx : q4a x = true := by simp [q4a]; omega
 have fy : q4a y = true := by simp [q4a]; omega
 simp only [spot, fx, fy, r112_0, y1r, tt, bb, bc, ↓bd, Nat.reduceEqDiff, Nat.reduceAdd, ↓reduceIte]
theorem z6o {x : Int} {fn : FuncId} {T : Nat → AV} {ds : List ADef} {ro : Option Nat} {dst : Option Nat} {os : List AO} {k : List AItem} {H : AHeap} {Q : AV → AHeap → Prop} :
  q0g Cx fn T ds ro 47 [.int .i64 x] dst os k H Q = q0d Cx fn (putA T dst (.bool (inR x))) ds ro os k H Q := q0a j7w rfl (inside_ok x)
theorem Right_ok (x y : Int) : q0k Cx 26 [spot x y] (.bool (inR x && inR y)) := by
 refine q0c (q0l _) y0z ?_
 by_cases h : inR x = true
 ·simp only [h, spot, z6o, r26_0, x8j, tt, bb, bc, ↓bd, Nat.reduceEqDiff, Nat.reduceAdd, ↓reduceIte]
 ·simp only [Bool.not_eq_true] at h
  simp only [h, spot, z6o, r26_0, x8j, tt, bb, bc, ↓bd, Nat.reduceEqDiff, Nat.reduceAdd, ↓reduceIte]
theorem wr64 {n : Int} (h1 : -9223372036854775808 ≤ n) (h2 : n ≤ 9223372036854775807) : IntKind.i64.wrap n = n := by
 rw [IntKind.wrap_i64]; omega
def nr (n d : Int) : Int := (2 * n + d) / (2 * d)
theorem z8y {a b : Int} (hb : 0 < b) : a / b = if a.tmod b < 0 then a.tdiv b - 1 else a.tdiv b := by
 have e := Int.tmod_add_mul_tdiv a b
 have h1 := Int.tmod_lt_of_pos a hb
 have h2 : -b < a.tmod b := by
  have := Int.tmod_lt_of_pos (-a) hb
  rw [Int.neg_tmod] at this
  omega
 split
 ·refine ((Int.ediv_emod_unique (r := a.tmod b + b) hb).mpr ⟨?_, by omega, by omega⟩).1
  rw [Int.mul_sub]; omega
 ·exact ((Int.ediv_emod_unique (r := a.tmod b) hb).mpr ⟨e, by omega, by omega⟩).1
theorem z8z (n d : Int) (hn : -1125899906842624 ≤ n ∧ n ≤ 1125899906842624) (hd : 0 < d ∧ d ≤ 1125899906842624) : q0k Cx 120 [.int .i64 n, .int .i64 d] (.int .i64 (nr n d)) := by
 refine q0c (q0l _) y5m ?_
 have w1 : IntKind.i64.wrap (2 * n) = 2 * n := wr64 (by omega) (by omega)
 have w2 : IntKind.i64.wrap (2 * n + d) = 2 * n + d := wr64 (by omega) (by omega)
 have w3 : IntKind.i64.wrap (2 * d) = 2 * d := wr64 (by omega) (by omega)
 have h0 : (2 * d = 0) = False := by simp; omega
 have hf := z8y (a := 2 * n + d) (b := 2 * d) (by omega)
 have e := Int.tmod_add_mul_tdiv (2 * n + d) (2 * d)
 have hb : -9223372036854775808 ≤ (2 * n + d).tdiv (2 * d) - 1 ∧ (2 * n + d).tdiv (2 * d) ≤ 9223372036854775807 := by
  have u1 : (2 * n + d) / (2 * d) ≤ 4503599627370496 := Int.ediv_le_of_le_mul (by omega) (by omega)
  have u2 : -4503599627370496 ≤ (2 * n + d) / (2 * d) := Int.le_ediv_of_mul_le (by omega) (by omega)
  rw [hf] at u1 u2
  split at u1 <;> simp_all <;> omega
 have w4 : IntKind.i64.wrap ((2 * n + d).tdiv (2 * d)) = (2 * n + d).tdiv (2 * d) := wr64 (by omega) (by omega)
 have w5 : IntKind.i64.wrap ((2 * n + d).tdiv (2 * d) - 1) = (2 * n + d).tdiv (2 * d) - 1 := wr64 (by omega) (by omega)
 by_cases h : (2 * n + d).tmod (2 * d) < 0
 ·simp only [h, w1, w2, w3, w4, w5, h0, nr, hf, r120_0, y1t, tt, bb, bc, ↓bd, Nat.reduceEqDiff, ↓reduceIte, reduceCtorEq]
 ·simp only [h, w1, w2, w3, w4, h0, nr, hf, r120_0, y1t, tt, bb, bc, ↓bd, Nat.reduceEqDiff, ↓reduceIte, reduceCtorEq]
theorem inR_iff {x : Int} : inR x = true ↔ -16777216 ≤ x ∧ x ≤ 16777216 := by simp [inR]
theorem q1q {x : Int} (h : -9007199254740992 ≤ x ∧ x ≤ 9007199254740992) : q4a x = true := by simp [q4a]; omega
theorem q8v (x y : Int) (fx : q4a x = true) (fy : q4a y = true) : q0k Cx 112 [spot x y] (.cpx x y) := by
 refine q0c (q0l _) x3u ?_
 simp only [fx, fy, r112_0, y1r, tt, bb, bc, ↓bd, Nat.reduceEqDiff, Nat.reduceAdd, ↓reduceIte]
theorem z3e {a b M : Int} {A : Int} (ha : -A ≤ a ∧ a ≤ A) (hb : -M ≤ b ∧ b ≤ M) : -(A * M) ≤ a * b ∧ a * b ≤ A * M := by
 have h1 := Int.mul_nonneg (a := A - a) (b := M - b) (by omega) (by omega)
 have h2 := Int.mul_nonneg (a := A + a) (b := M + b) (by omega) (by omega)
 have h3 := Int.mul_nonneg (a := A - a) (b := M + b) (by omega) (by omega)
 have h4 := Int.mul_nonneg (a := A + a) (b := M - b) (by omega) (by omega)
 simp only [Int.sub_mul, Int.mul_sub, Int.add_mul, Int.mul_add] at h1 h2 h3 h4
 omega
def nrm (x y : Int) : Int := x * x + y * y
theorem q8c {x y : Int} (hx : inR x = true) (hy : inR y = true) : 0 ≤ x * x ∧ 0 ≤ y * y ∧ x * x ≤ 281474976710656 ∧ y * y ≤ 281474976710656 := by
 rw [inR_iff] at hx hy
 have h1 := z3e hx hx
 have h2 := z3e hy hy
 have h3 : 0 ≤ x * x := by rcases Int.le_total 0 x with h | h
                           ·exact Int.mul_nonneg h h
                           ·exact Int.mul_nonneg_of_nonpos_of_nonpos h h
 have h4 : 0 ≤ y * y := by rcases Int.le_total 0 y with h | h
                           ·exact Int.mul_nonneg h h
                           ·exact Int.mul_nonneg_of_nonpos_of_nonpos h h
 omega
theorem x4k (x y : Int) (hx : inR x = true) (hy : inR y = true) : q0k Cx 104 [spot x y] (.int .i64 (nrm x y)) := by
 refine q0c (q0l _) y4u ?_
 obtain ⟨h1, h2, h3, h4⟩ := q8c hx hy
 have w1 : IntKind.i64.wrap (x * x) = x * x := wr64 (by omega) (by omega)
 have w2 : IntKind.i64.wrap (y * y) = y * y := wr64 (by omega) (by omega)
 have w3 : IntKind.i64.wrap (x * x + y * y) = x * x + y * y := wr64 (by omega) (by omega)
 simp only [w1, w2, w3, nrm, r104_0, w4m, tt, bb, bc, ↓bd, Nat.reduceEqDiff, Nat.reduceAdd, ↓reduceIte]
end Go.Proofs.YtckhmpcmlochpaaGreat.G.Gs
