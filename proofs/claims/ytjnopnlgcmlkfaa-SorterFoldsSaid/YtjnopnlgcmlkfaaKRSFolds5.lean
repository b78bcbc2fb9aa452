import Derived.Test.YtjnopnlgcmlkfaaKRSFolds4
import Derived.Test.YtjnopnlgcmlkfaaKRSFolds3
import Derived.Laws.BitsLemmas
namespace Go.Proofs.Ytjnopnlgcmlkfaa.G
open Go.BX
section
variable {T : Nat → AV} {ds : List ADef} {ro : Option Nat} {k : List AItem} {H : AHeap} {Q : AV → AHeap → Prop}
abbrev o65_1 : List AO := [oA 2 (.assign (.const (.bool false))) 4]
def c65_1 : AC := .region o65_1 []
abbrev o65_3 : List AO := [oA 3 (.move (tm 0)) 9,
  oA 4 (.move (tm 0)) 9,
  oA 5 (.binOp .neq 9 (tm 3) (tm 4) 9) 4,
  oA 2 (.assign (tm 5)) 4]
def c65_3 : AC := .region o65_3 []
def c65_4 : AC := .ret
def c65_2 : AC := .seq c65_3 c65_4
def c65_0 : AC := .seq c65_1 c65_2
theorem r65_0 : SeqR Cx 65 c65_0 c65_1 c65_2 ∧ RegR Cx 65 c65_1 o65_1 ∧ SeqR Cx 65 c65_2 c65_3 c65_4 ∧ RegR Cx 65 c65_3 o65_3 ∧ RetR Cx 65 c65_4 := ⟨run_seq, run_region, run_seq, run_region, run_ret⟩
theorem body65 : bodyOf Cx 65 = some c65_0 := by kernel_rfl
theorem res65 : resOf Cx 65 = some [.tmp 2] := by kernel_rfl
theorem pure65 : Cx.pure 65 = true := by kernel_rfl
abbrev o66_1 : List AO := [oA 1 (.box 43 (tm 0)) 0,
  oA 2 (.assign (.const (.bool false))) 4]
def c66_1 : AC := .region o66_1 []
abbrev o66_3 : List AO := [oA 3 (.fieldAddr 43 (tm 1) 0) 0,
  oA 4 (.load 3 (tm 3)) 3,
  oA 5 (.binOp .geq 3 (tm 4) (ci (-16777216)) 3) 4,
  oA 6 (.move (tm 5)) 4,
  oG 7 (.fieldAddr 43 (tm 1) 0) 0 6 true,
  oG 8 (.load 3 (tm 7)) 3 6 true,
  oG 9 (.binOp .leq 3 (tm 8) (ci 16777216) 3) 4 6 true,
  oA 10 (.pick (tm 6) (tm 9) (.const (.bool false))) 4,
  oA 11 (.move (tm 10)) 4,
  oG 12 (.fieldAddr 43 (tm 1) 1) 0 11 true,
  oG 13 (.load 3 (tm 12)) 3 11 true,
  oG 14 (.binOp .geq 3 (tm 13) (ci (-16777216)) 3) 4 11 true,
  oA 15 (.pick (tm 11) (tm 14) (.const (.bool false))) 4,
  oA 16 (.move (tm 15)) 4,
  oG 17 (.fieldAddr 43 (tm 1) 1) 0 16 true,
  oG 18 (.load 3 (tm 17)) 3 16 true,
  oG 19 (.binOp .leq 3 (tm 18) (ci 16777216) 3) 4 16 true,
  oA 20 (.pick (tm 16) (tm 19) (.const (.bool false))) 4,
  oA 2 (.assign (tm 20)) 4]
def c66_3 : AC := .region o66_3 []
def c66_4 : AC := .ret
def c66_2 : AC := .seq c66_3 c66_4
def c66_0 : AC := .seq c66_1 c66_2
theorem r66_0 : SeqR Cx 66 c66_0 c66_1 c66_2 ∧ RegR Cx 66 c66_1 o66_1 ∧ SeqR Cx 66 c66_2 c66_3 c66_4 ∧ RegR Cx 66 c66_3 o66_3 ∧ RetR Cx 66 c66_4 := ⟨run_seq, run_region, run_seq, run_region, run_ret⟩
abbrev o67_1 : List AO := [oA 2 (.box 45 (tm 0)) 0,
  oA 3 (.box 45 (tm 1)) 0,
  oA 4 (.assign (.const (.bool false))) 4]
def c67_1 : AC := .region o67_1 []
abbrev o67_4 : List AO := [oA 6 (.fieldAddr 45 (tm 2) 0) 0,
  oA 7 (.load 3 (tm 6)) 3,
  oA 8 (.fieldAddr 45 (tm 3) 0) 0,
  oA 9 (.load 3 (tm 8)) 3,
  oA 10 (.binOp .neq 3 (tm 7) (tm 9) 3) 4]
def c67_4 : AC := .region o67_4 []
abbrev o67_7 : List AO := [oA 11 (.fieldAddr 45 (tm 2) 0) 0,
  oA 12 (.load 3 (tm 11)) 3,
  oA 13 (.fieldAddr 45 (tm 3) 0) 0,
  oA 14 (.load 3 (tm 13)) 3,
  oA 15 (.binOp .lss 3 (tm 12) (tm 14) 3) 4,
  oA 4 (.assign (tm 15)) 4]
def c67_7 : AC := .region o67_7 []
def c67_8 : AC := .ret
def c67_6 : AC := .seq c67_7 c67_8
def c67_9 : AC := .skip
def c67_5 : AC := .cond (tm 10) c67_6 c67_9
def c67_3 : AC := .seq c67_4 c67_5
abbrev o67_12 : List AO := [oA 16 (.fieldAddr 45 (tm 2) 0) 0,
  oA 17 (.load 3 (tm 16)) 3,
  oA 18 (.binOp .eql 3 (tm 17) (ci 0) 3) 4]
def c67_12 : AC := .region o67_12 []
abbrev o67_15 : List AO := [oA 19 (.fieldAddr 45 (tm 2) 1) 0,
  oA 20 (.load 3 (tm 19)) 3,
  oA 21 (.fieldAddr 45 (tm 3) 1) 0,
  oA 22 (.load 3 (tm 21)) 3,
  oA 23 (.binOp .lss 3 (tm 20) (tm 22) 3) 4,
  oA 4 (.assign (tm 23)) 4]
def c67_15 : AC := .region o67_15 []
def c67_16 : AC := .ret
def c67_14 : AC := .seq c67_15 c67_16
def c67_17 : AC := .skip
def c67_13 : AC := .cond (tm 18) c67_14 c67_17
def c67_11 : AC := .seq c67_12 c67_13
abbrev o67_20 : List AO := [oA 24 (.fieldAddr 45 (tm 2) 0) 0,
  oA 25 (.load 3 (tm 24)) 3,
  oA 26 (.binOp .eql 3 (tm 25) (ci 1) 3) 4]
def c67_20 : AC := .region o67_20 []
abbrev o67_24 : List AO := [oA 5 (.assign (ci 0)) 3]
def c67_24 : AC := .region o67_24 []
abbrev o67_29 : List AO := [oA 27 (.move (tm 5)) 3,
  oA 28 (.fieldAddr 45 (tm 2) 2) 0,
  oA 29 (.load 9 (tm 28)) 9,
  oA 30 (cB .len #[(tm 29)] #[9]) 3,
  oA 31 (.binOp .lss 3 (tm 27) (tm 30) 3) 4,
  oA 32 (.move (tm 31)) 4,
  oG 33 (.move (tm 5)) 3 32 true,
  oG 34 (.fieldAddr 45 (tm 3) 2) 0 32 true,
  oG 35 (.load 9 (tm 34)) 9 32 true,
  oG 36 (cB .len #[(tm 35)] #[9]) 3 32 true,
  oG 37 (.binOp .lss 3 (tm 33) (tm 36) 3) 4 32 true,
  oA 38 (.pick (tm 32) (tm 37) (.const (.bool false))) 4]
def c67_29 : AC := .region o67_29 []
def c67_31 : AC := .skip
def c67_32 : AC := .exit 0
def c67_30 : AC := .cond (tm 38) c67_31 c67_32
def c67_28 : AC := .seq c67_29 c67_30
abbrev o67_36 : List AO := [oA 41 (.fieldAddr 45 (tm 2) 2) 0,
  oA 42 (.load 9 (tm 41)) 9,
  oA 43 (.move (tm 5)) 3,
  oA 44 (.index 9 (tm 42) (tm 43)) 5,
  oA 45 (.fieldAddr 45 (tm 3) 2) 0,
  oA 46 (.load 9 (tm 45)) 9,
  oA 47 (.move (tm 5)) 3,
  oA 48 (.index 9 (tm 46) (tm 47)) 5,
  oA 49 (.binOp .neq 5 (tm 44) (tm 48) 5) 4]
def c67_36 : AC := .region o67_36 []
abbrev o67_39 : List AO := [oA 50 (.fieldAddr 45 (tm 2) 2) 0,
  oA 51 (.load 9 (tm 50)) 9,
  oA 52 (.move (tm 5)) 3,
  oA 53 (.index 9 (tm 51) (tm 52)) 5,
  oA 54 (.fieldAddr 45 (tm 3) 2) 0,
  oA 55 (.load 9 (tm 54)) 9,
  oA 56 (.move (tm 5)) 3,
  oA 57 (.index 9 (tm 55) (tm 56)) 5,
  oA 58 (.binOp .lss 5 (tm 53) (tm 57) 5) 4,
  oA 4 (.assign (tm 58)) 4]
def c67_39 : AC := .region o67_39 []
def c67_40 : AC := .ret
def c67_38 : AC := .seq c67_39 c67_40
def c67_41 : AC := .skip
def c67_37 : AC := .cond (tm 49) c67_38 c67_41
def c67_35 : AC := .seq c67_36 c67_37
def c67_34 : AC := .block 1 c67_35
abbrev o67_42 : List AO := [oA 39 (.move (tm 5)) 3,
  oA 40 (.binOp .add 3 (tm 39) (ci 1) 3) 3,
  oA 5 (.assign (tm 40)) 3]
def c67_42 : AC := .region o67_42 []
def c67_33 : AC := .seq c67_34 c67_42
def c67_27 : AC := .seq c67_28 c67_33
def c67_26 : AC := .loop c67_27
def c67_25 : AC := .block 0 c67_26
def c67_23 : AC := .seq c67_24 c67_25
abbrev o67_44 : List AO := [oA 59 (.fieldAddr 45 (tm 2) 2) 0,
  oA 60 (.load 9 (tm 59)) 9,
  oA 61 (cB .len #[(tm 60)] #[9]) 3,
  oA 62 (.fieldAddr 45 (tm 3) 2) 0,
  oA 63 (.load 9 (tm 62)) 9,
  oA 64 (cB .len #[(tm 63)] #[9]) 3,
  oA 65 (.binOp .lss 3 (tm 61) (tm 64) 3) 4,
  oA 4 (.assign (tm 65)) 4]
def c67_44 : AC := .region o67_44 []
def c67_45 : AC := .ret
def c67_43 : AC := .seq c67_44 c67_45
def c67_22 : AC := .seq c67_23 c67_43
def c67_46 : AC := .skip
def c67_21 : AC := .cond (tm 26) c67_22 c67_46
def c67_19 : AC := .seq c67_20 c67_21
abbrev o67_48 : List AO := [oA 66 (.fieldAddr 45 (tm 2) 3) 0,
  oA 67 (.fieldAddr 43 (tm 66) 0) 0,
  oA 68 (.load 3 (tm 67)) 3,
  oA 69 (.fieldAddr 45 (tm 3) 3) 0,
  oA 70 (.fieldAddr 43 (tm 69) 0) 0,
  oA 71 (.load 3 (tm 70)) 3,
  oA 72 (.binOp .lss 3 (tm 68) (tm 71) 3) 4,
  oA 73 (.move (tm 72)) 4,
  oG 74 (.fieldAddr 45 (tm 2) 3) 0 73 false,
  oG 75 (.fieldAddr 43 (tm 74) 0) 0 73 false,
  oG 76 (.load 3 (tm 75)) 3 73 false,
  oG 77 (.fieldAddr 45 (tm 3) 3) 0 73 false,
  oG 78 (.fieldAddr 43 (tm 77) 0) 0 73 false,
  oG 79 (.load 3 (tm 78)) 3 73 false,
  oG 80 (.binOp .eql 3 (tm 76) (tm 79) 3) 4 73 false,
  oG 81 (.move (tm 80)) 4 73 false,
  oG 82 (.fieldAddr 45 (tm 2) 3) 0 81 true,
  oG 83 (.fieldAddr 43 (tm 82) 1) 0 81 true,
  oG 84 (.load 3 (tm 83)) 3 81 true,
  oG 85 (.fieldAddr 45 (tm 3) 3) 0 81 true,
  oG 86 (.fieldAddr 43 (tm 85) 1) 0 81 true,
  oG 87 (.load 3 (tm 86)) 3 81 true,
  oG 88 (.binOp .lss 3 (tm 84) (tm 87) 3) 4 81 true,
  oG 89 (.pick (tm 81) (tm 88) (.const (.bool false))) 4 73 false,
  oA 90 (.pick (tm 73) (.const (.bool true)) (tm 89)) 4,
  oA 4 (.assign (tm 90)) 4]
def c67_48 : AC := .region o67_48 []
def c67_49 : AC := .ret
def c67_47 : AC := .seq c67_48 c67_49
def c67_18 : AC := .seq c67_19 c67_47
def c67_10 : AC := .seq c67_11 c67_18
def c67_2 : AC := .seq c67_3 c67_10
def c67_0 : AC := .seq c67_1 c67_2
theorem r67_0 : SeqR Cx 67 c67_0 c67_1 c67_2 ∧ RegR Cx 67 c67_1 o67_1 ∧ SeqR Cx 67 c67_2 c67_3 c67_10 ∧ SeqR Cx 67 c67_3 c67_4 c67_5 ∧ RegR Cx 67 c67_4 o67_4 ∧ CondR Cx 67 c67_5 (tm 10) c67_6 c67_9 ∧ SeqR Cx 67 c67_6 c67_7 c67_8 ∧ RegR Cx 67 c67_7 o67_7 := ⟨run_seq, run_region, run_seq, run_seq, run_region, run_condC, run_seq, run_region⟩
theorem r67_1 : RetR Cx 67 c67_8 ∧ SkipR Cx 67 c67_9 ∧ SeqR Cx 67 c67_10 c67_11 c67_18 ∧ SeqR Cx 67 c67_11 c67_12 c67_13 ∧ RegR Cx 67 c67_12 o67_12 ∧ CondR Cx 67 c67_13 (tm 18) c67_14 c67_17 ∧ SeqR Cx 67 c67_14 c67_15 c67_16 ∧ RegR Cx 67 c67_15 o67_15 := ⟨run_ret, run_skip, run_seq, run_seq, run_region, run_condC, run_seq, run_region⟩
theorem r67_2 : RetR Cx 67 c67_16 ∧ SkipR Cx 67 c67_17 ∧ SeqR Cx 67 c67_18 c67_19 c67_47 ∧ SeqR Cx 67 c67_19 c67_20 c67_21 ∧ RegR Cx 67 c67_20 o67_20 ∧ CondR Cx 67 c67_21 (tm 26) c67_22 c67_46 ∧ SeqR Cx 67 c67_22 c67_23 c67_43 ∧ SeqR Cx 67 c67_23 c67_24 c67_25 := ⟨run_ret, run_skip, run_seq, run_seq, run_region, run_condC, run_seq, run_seq⟩
theorem r67_3 : RegR Cx 67 c67_24 o67_24 ∧ BlkR Cx 67 c67_25 0 c67_26 ∧ LoopR Cx 67 c67_26 c67_27 ∧ SeqR Cx 67 c67_27 c67_28 c67_33 ∧ SeqR Cx 67 c67_28 c67_29 c67_30 ∧ RegR Cx 67 c67_29 o67_29 ∧ CondR Cx 67 c67_30 (tm 38) c67_31 c67_32 ∧ SkipR Cx 67 c67_31 := ⟨run_region, run_block, run_loop', run_seq, run_seq, run_region, run_condC, run_skip⟩
theorem r67_4 : ExitR Cx 67 c67_32 0 ∧ SeqR Cx 67 c67_33 c67_34 c67_42 ∧ BlkR Cx 67 c67_34 1 c67_35 ∧ SeqR Cx 67 c67_35 c67_36 c67_37 ∧ RegR Cx 67 c67_36 o67_36 ∧ CondR Cx 67 c67_37 (tm 49) c67_38 c67_41 ∧ SeqR Cx 67 c67_38 c67_39 c67_40 ∧ RegR Cx 67 c67_39 o67_39 := ⟨run_exit_start, run_seq, run_block, run_seq, run_region, run_condC, run_seq, run_region⟩
theorem r67_5 : RetR Cx 67 c67_40 ∧ SkipR Cx 67 c67_41 ∧ RegR Cx 67 c67_42 o67_42 ∧ SeqR Cx 67 c67_43 c67_44 c67_45 ∧ RegR Cx 67 c67_44 o67_44 ∧ RetR Cx 67 c67_45 ∧ SkipR Cx 67 c67_46 ∧ SeqR Cx 67 c67_47 c67_48 c67_49 := ⟨run_ret, run_skip, run_region, run_seq, run_region, run_ret, run_skip, run_seq⟩
theorem r67_6 : RegR Cx 67 c67_48 o67_48 ∧ RetR Cx 67 c67_49 := ⟨run_region, run_ret⟩
abbrev o68_1 : List AO := [oA 1 (.box 43 (tm 0)) 0,
  oA 2 (.alloc 43) 0]
def c68_1 : AC := .region o68_1 []
abbrev o68_4 : List AO := [oA 3 (.assign (ci 0)) 3]
def c68_4 : AC := .region o68_4 []
abbrev o68_9 : List AO := [oA 4 (.move (tm 3)) 3,
  oA 5 (.binOp .lss 3 (tm 4) (ci 4) 3) 4]
def c68_9 : AC := .region o68_9 []
def c68_11 : AC := .skip
def c68_12 : AC := .exit 0
def c68_10 : AC := .cond (tm 5) c68_11 c68_12
def c68_8 : AC := .seq c68_9 c68_10
abbrev o68_17 : List AO := [oA 8 (.fieldAddr 43 (tm 1) 0) 0,
  oA 9 (.load 3 (tm 8)) 3,
  oA 10 (.binOp .gtr 3 (tm 9) (ci 0) 3) 4,
  oA 11 (.move (tm 10)) 4,
  oG 12 (.fieldAddr 43 (tm 1) 1) 0 11 true,
  oG 13 (.load 3 (tm 12)) 3 11 true,
  oG 14 (.binOp .geq 3 (tm 13) (ci 0) 3) 4 11 true,
  oA 15 (.pick (tm 11) (tm 14) (.const (.bool false))) 4]
def c68_17 : AC := .region o68_17 []
abbrev o68_20 : List AO := [oA 16 (.load 43 (tm 1)) 43,
  oN (.store 43 (tm 2) (tm 16)) 0]
def c68_20 : AC := .region o68_20 []
def c68_21 : AC := .ret
def c68_19 : AC := .seq c68_20 c68_21
def c68_22 : AC := .skip
def c68_18 : AC := .cond (tm 15) c68_19 c68_22
def c68_16 : AC := .seq c68_17 c68_18
abbrev o68_23 : List AO := [oA 17 (.load 43 (tm 1)) 43,
  oA 18 (.build 43 #[(1, (ci 1))]) 43,
  oA 19 (cF 74 #[(tm 17), (tm 18)] #[43, 43]) 43,
  oN (.store 43 (tm 1) (tm 19)) 0]
def c68_23 : AC := .region o68_23 []
def c68_15 : AC := .seq c68_16 c68_23
def c68_14 : AC := .block 1 c68_15
abbrev o68_24 : List AO := [oA 6 (.move (tm 3)) 3,
  oA 7 (.binOp .add 3 (tm 6) (ci 1) 3) 3,
  oA 3 (.assign (tm 7)) 3]
def c68_24 : AC := .region o68_24 []
def c68_13 : AC := .seq c68_14 c68_24
def c68_7 : AC := .seq c68_8 c68_13
def c68_6 : AC := .loop c68_7
def c68_5 : AC := .block 0 c68_6
def c68_3 : AC := .seq c68_4 c68_5
abbrev o68_26 : List AO := [oA 20 (.load 43 (tm 1)) 43,
  oN (.store 43 (tm 2) (tm 20)) 0]
def c68_26 : AC := .region o68_26 []
def c68_27 : AC := .ret
def c68_25 : AC := .seq c68_26 c68_27
def c68_2 : AC := .seq c68_3 c68_25
def c68_0 : AC := .seq c68_1 c68_2
theorem r68_0 : SeqR Cx 68 c68_0 c68_1 c68_2 ∧ RegR Cx 68 c68_1 o68_1 ∧ SeqR Cx 68 c68_2 c68_3 c68_25 ∧ SeqR Cx 68 c68_3 c68_4 c68_5 ∧ RegR Cx 68 c68_4 o68_4 ∧ BlkR Cx 68 c68_5 0 c68_6 ∧ LoopR Cx 68 c68_6 c68_7 ∧ SeqR Cx 68 c68_7 c68_8 c68_13 := ⟨run_seq, run_region, run_seq, run_seq, run_region, run_block, run_loop', run_seq⟩
theorem r68_1 : SeqR Cx 68 c68_8 c68_9 c68_10 ∧ RegR Cx 68 c68_9 o68_9 ∧ CondR Cx 68 c68_10 (tm 5) c68_11 c68_12 ∧ SkipR Cx 68 c68_11 ∧ ExitR Cx 68 c68_12 0 ∧ SeqR Cx 68 c68_13 c68_14 c68_24 ∧ BlkR Cx 68 c68_14 1 c68_15 ∧ SeqR Cx 68 c68_15 c68_16 c68_23 := ⟨run_seq, run_region, run_condC, run_skip, run_exit_start, run_seq, run_block, run_seq⟩
theorem r68_2 : SeqR Cx 68 c68_16 c68_17 c68_18 ∧ RegR Cx 68 c68_17 o68_17 ∧ CondR Cx 68 c68_18 (tm 15) c68_19 c68_22 ∧ SeqR Cx 68 c68_19 c68_20 c68_21 ∧ RegR Cx 68 c68_20 o68_20 ∧ RetR Cx 68 c68_21 ∧ SkipR Cx 68 c68_22 ∧ RegR Cx 68 c68_23 o68_23 := ⟨run_seq, run_region, run_condC, run_seq, run_region, run_ret, run_skip, run_region⟩
theorem r68_3 : RegR Cx 68 c68_24 o68_24 ∧ SeqR Cx 68 c68_25 c68_26 c68_27 ∧ RegR Cx 68 c68_26 o68_26 ∧ RetR Cx 68 c68_27 := ⟨run_region, run_seq, run_region, run_ret⟩
abbrev o69_1 : List AO := [oA 2 (.box 43 (tm 0)) 0,
  oA 3 (.box 43 (tm 1)) 0,
  oA 4 (.alloc 43) 0,
  oA 5 (.alloc 43) 0]
def c69_1 : AC := .region o69_1 []
abbrev o69_3 : List AO := [oA 10 (.load 43 (tm 2)) 43,
  oA 11 (.fieldAddr 43 (tm 3) 0) 0,
  oA 12 (.load 3 (tm 11)) 3,
  oA 13 (.fieldAddr 43 (tm 3) 1) 0,
  oA 14 (.load 3 (tm 13)) 3,
  oA 15 (.unOp .neg 3 (tm 14)) 3,
  oA 16 (.build 43 #[(0, (tm 12)), (1, (tm 15))]) 43,
  oA 17 (cF 74 #[(tm 10), (tm 16)] #[43, 43]) 43,
  oA 6 (.alloc 43) 0,
  oN (.store 43 (tm 6) (tm 17)) 0]
def c69_3 : AC := .region o69_3 []
abbrev o69_5 : List AO := [oA 18 (.load 43 (tm 3)) 43,
  oA 19 (cF 75 #[(tm 18)] #[43]) 3,
  oA 7 (.assign (tm 19)) 3]
def c69_5 : AC := .region o69_5 []
abbrev o69_7 : List AO := [oA 20 (.fieldAddr 43 (tm 6) 0) 0,
  oA 21 (.load 3 (tm 20)) 3,
  oA 22 (.move (tm 7)) 3,
  oA 23 (cF 76 #[(tm 21), (tm 22)] #[3, 3]) 3,
  oA 24 (.fieldAddr 43 (tm 6) 1) 0,
  oA 25 (.load 3 (tm 24)) 3,
  oA 26 (.move (tm 7)) 3,
  oA 27 (cF 76 #[(tm 25), (tm 26)] #[3, 3]) 3,
  oA 28 (.build 43 #[(0, (tm 23)), (1, (tm 27))]) 43,
  oA 8 (.alloc 43) 0,
  oN (.store 43 (tm 8) (tm 28)) 0]
def c69_7 : AC := .region o69_7 []
abbrev o69_9 : List AO := [oA 29 (.load 43 (tm 8)) 43,
  oA 30 (.load 43 (tm 3)) 43,
  oA 31 (cF 74 #[(tm 29), (tm 30)] #[43, 43]) 43,
  oA 9 (.alloc 43) 0,
  oN (.store 43 (tm 9) (tm 31)) 0]
def c69_9 : AC := .region o69_9 []
abbrev o69_11 : List AO := [oA 32 (.load 43 (tm 8)) 43,
  oA 33 (.fieldAddr 43 (tm 2) 0) 0,
  oA 34 (.load 3 (tm 33)) 3,
  oA 35 (.fieldAddr 43 (tm 9) 0) 0,
  oA 36 (.load 3 (tm 35)) 3,
  oA 37 (.binOp .sub 3 (tm 34) (tm 36) 3) 3,
  oA 38 (.fieldAddr 43 (tm 2) 1) 0,
  oA 39 (.load 3 (tm 38)) 3,
  oA 40 (.fieldAddr 43 (tm 9) 1) 0,
  oA 41 (.load 3 (tm 40)) 3,
  oA 42 (.binOp .sub 3 (tm 39) (tm 41) 3) 3,
  oA 43 (.build 43 #[(0, (tm 37)), (1, (tm 42))]) 43,
  oN (.store 43 (tm 4) (tm 32)) 0,
  oN (.store 43 (tm 5) (tm 43)) 0]
def c69_11 : AC := .region o69_11 [[], [], [], [], [], [], [], [], [], [], [], [], [33, 35, 38, 40], []]
def c69_12 : AC := .ret
def c69_10 : AC := .seq c69_11 c69_12
def c69_8 : AC := .seq c69_9 c69_10
def c69_6 : AC := .seq c69_7 c69_8
def c69_4 : AC := .seq c69_5 c69_6
def c69_2 : AC := .seq c69_3 c69_4
def c69_0 : AC := .seq c69_1 c69_2
theorem r69_0 : SeqR Cx 69 c69_0 c69_1 c69_2 ∧ RegR Cx 69 c69_1 o69_1 ∧ SeqR Cx 69 c69_2 c69_3 c69_4 ∧ RegR Cx 69 c69_3 o69_3 ∧ SeqR Cx 69 c69_4 c69_5 c69_6 ∧ RegR Cx 69 c69_5 o69_5 ∧ SeqR Cx 69 c69_6 c69_7 c69_8 ∧ RegR Cx 69 c69_7 o69_7 := ⟨run_seq, run_region, run_seq, run_region, run_seq, run_region, run_seq, run_region⟩
theorem r69_1 : SeqR Cx 69 c69_8 c69_9 c69_10 ∧ RegR Cx 69 c69_9 o69_9 ∧ SeqR Cx 69 c69_10 c69_11 c69_12 ∧ RegD Cx 69 c69_11 o69_11 [[], [], [], [], [], [], [], [], [], [], [], [], [33, 35, 38, 40], []] ∧ RetR Cx 69 c69_12 := ⟨run_seq, run_region, run_seq, run_regionD, run_ret⟩
abbrev o70_1 : List AO := [oA 2 (.assign (.const (.bool false))) 4]
def c70_1 : AC := .region o70_1 []
abbrev o70_3 : List AO := [oA 3 (.move (tm 0)) 3,
  oA 4 (.move (tm 0)) 3,
  oA 5 (.binOp .neq 3 (tm 3) (tm 4) 3) 4,
  oA 2 (.assign (tm 5)) 4]
def c70_3 : AC := .region o70_3 []
def c70_4 : AC := .ret
def c70_2 : AC := .seq c70_3 c70_4
def c70_0 : AC := .seq c70_1 c70_2
theorem r70_0 : SeqR Cx 70 c70_0 c70_1 c70_2 ∧ RegR Cx 70 c70_1 o70_1 ∧ SeqR Cx 70 c70_2 c70_3 c70_4 ∧ RegR Cx 70 c70_3 o70_3 ∧ RetR Cx 70 c70_4 := ⟨run_seq, run_region, run_seq, run_region, run_ret⟩
theorem body70 : bodyOf Cx 70 = some c70_0 := by kernel_rfl
theorem res70 : resOf Cx 70 = some [.tmp 2] := by kernel_rfl
theorem pure70 : Cx.pure 70 = true := by kernel_rfl
abbrev o71_1 : List AO := [oA 4 (.assign (ci 0)) 3]
def c71_1 : AC := .region o71_1 []
abbrev o71_3 : List AO := [oA 5 (.move (tm 0)) 9,
  oA 6 (.move (tm 1)) 9,
  oA 7 (cF 77 #[(tm 5), (tm 6)] #[9, 9]) 3,
  oA 4 (.assign (tm 7)) 3]
def c71_3 : AC := .region o71_3 []
def c71_4 : AC := .ret
def c71_2 : AC := .seq c71_3 c71_4
def c71_0 : AC := .seq c71_1 c71_2
theorem r71_0 : SeqR Cx 71 c71_0 c71_1 c71_2 ∧ RegR Cx 71 c71_1 o71_1 ∧ SeqR Cx 71 c71_2 c71_3 c71_4 ∧ RegR Cx 71 c71_3 o71_3 ∧ RetR Cx 71 c71_4 := ⟨run_seq, run_region, run_seq, run_region, run_ret⟩
theorem body71 : bodyOf Cx 71 = some c71_0 := by kernel_rfl
theorem res71 : resOf Cx 71 = some [.tmp 4] := by kernel_rfl
theorem pure71 : Cx.pure 71 = true := by kernel_rfl
abbrev o72_1 : List AO := [oA 2 (.box 43 (tm 0)) 0,
  oA 3 (.box 43 (tm 1)) 0,
  oA 4 (.alloc 43) 0,
  oA 5 (.alloc 43) 0]
def c72_1 : AC := .region o72_1 []
abbrev o72_3 : List AO := [oA 10 (.load 43 (tm 2)) 43,
  oA 11 (cF 78 #[(tm 10)] #[43]) 108,
  oA 12 (.fieldAddr 43 (tm 3) 0) 0,
  oA 13 (.load 3 (tm 12)) 3,
  oA 14 (.fieldAddr 43 (tm 3) 1) 0,
  oA 15 (.load 3 (tm 14)) 3,
  oA 16 (.unOp .neg 3 (tm 15)) 3,
  oA 17 (.build 43 #[(0, (tm 13)), (1, (tm 16))]) 43,
  oA 18 (cF 78 #[(tm 17)] #[43]) 108,
  oA 19 (.binOp .mul 108 (tm 11) (tm 18) 108) 108,
  oA 6 (.assign (tm 19)) 108]
def c72_3 : AC := .region o72_3 []
abbrev o72_5 : List AO := [oA 20 (.load 43 (tm 3)) 43,
  oA 21 (cF 79 #[(tm 20)] #[43]) 3,
  oA 7 (.assign (tm 21)) 3]
def c72_5 : AC := .region o72_5 []
abbrev o72_7 : List AO := [oA 22 (.move (tm 6)) 108,
  oA 23 (cB .real #[(tm 22)] #[108]) 110,
  oA 24 (.convert 110 3 (tm 23)) 3,
  oA 25 (.move (tm 7)) 3,
  oA 26 (cF 80 #[(tm 24), (tm 25)] #[3, 3]) 3,
  oA 27 (.move (tm 6)) 108,
  oA 28 (cB .imag #[(tm 27)] #[108]) 110,
  oA 29 (.convert 110 3 (tm 28)) 3,
  oA 30 (.move (tm 7)) 3,
  oA 31 (cF 80 #[(tm 29), (tm 30)] #[3, 3]) 3,
  oA 32 (.build 43 #[(0, (tm 26)), (1, (tm 31))]) 43,
  oA 8 (.alloc 43) 0,
  oN (.store 43 (tm 8) (tm 32)) 0]
def c72_7 : AC := .region o72_7 []
abbrev o72_9 : List AO := [oA 33 (.load 43 (tm 2)) 43,
  oA 34 (cF 78 #[(tm 33)] #[43]) 108,
  oA 35 (.load 43 (tm 8)) 43,
  oA 36 (cF 78 #[(tm 35)] #[43]) 108,
  oA 37 (.load 43 (tm 3)) 43,
  oA 38 (cF 78 #[(tm 37)] #[43]) 108,
  oA 39 (.binOp .mul 108 (tm 36) (tm 38) 108) 108,
  oA 40 (.binOp .sub 108 (tm 34) (tm 39) 108) 108,
  oA 9 (.assign (tm 40)) 108]
def c72_9 : AC := .region o72_9 []
abbrev o72_11 : List AO := [oA 41 (.load 43 (tm 8)) 43,
  oA 42 (.move (tm 9)) 108,
  oA 43 (cB .real #[(tm 42)] #[108]) 110,
  oA 44 (.convert 110 3 (tm 43)) 3,
  oA 45 (.move (tm 9)) 108,
  oA 46 (cB .imag #[(tm 45)] #[108]) 110,
  oA 47 (.convert 110 3 (tm 46)) 3,
  oA 48 (.build 43 #[(0, (tm 44)), (1, (tm 47))]) 43,
  oN (.store 43 (tm 4) (tm 41)) 0,
  oN (.store 43 (tm 5) (tm 48)) 0]
def c72_11 : AC := .region o72_11 []
def c72_12 : AC := .ret
def c72_10 : AC := .seq c72_11 c72_12
def c72_8 : AC := .seq c72_9 c72_10
def c72_6 : AC := .seq c72_7 c72_8
def c72_4 : AC := .seq c72_5 c72_6
def c72_2 : AC := .seq c72_3 c72_4
def c72_0 : AC := .seq c72_1 c72_2
theorem r72_0 : SeqR Cx 72 c72_0 c72_1 c72_2 ∧ RegR Cx 72 c72_1 o72_1 ∧ SeqR Cx 72 c72_2 c72_3 c72_4 ∧ RegR Cx 72 c72_3 o72_3 ∧ SeqR Cx 72 c72_4 c72_5 c72_6 ∧ RegR Cx 72 c72_5 o72_5 ∧ SeqR Cx 72 c72_6 c72_7 c72_8 ∧ RegR Cx 72 c72_7 o72_7 := ⟨run_seq, run_region, run_seq, run_region, run_seq, run_region, run_seq, run_region⟩
theorem r72_1 : SeqR Cx 72 c72_8 c72_9 c72_10 ∧ RegR Cx 72 c72_9 o72_9 ∧ SeqR Cx 72 c72_10 c72_11 c72_12 ∧ RegR Cx 72 c72_11 o72_11 ∧ RetR Cx 72 c72_12 := ⟨run_seq, run_region, run_seq, run_region, run_ret⟩
theorem body72 : bodyOf Cx 72 = some c72_0 := by kernel_rfl
theorem res72 : resOf Cx 72 = some [.cell 4 43, .cell 5 43] := by kernel_rfl
theorem pure72 : Cx.pure 72 = true := by kernel_rfl
abbrev o73_1 : List AO := [oA 12 (.move (tm 2)) 3,
  oA 13 (.move (tm 1)) 3,
  oA 14 (.binOp .sub 3 (tm 12) (tm 13) 3) 3,
  oA 10 (.assign (tm 14)) 3]
def c73_1 : AC := .region o73_1 []
abbrev o73_3 : List AO := [oA 15 (.move (tm 3)) 3,
  oA 16 (.move (tm 2)) 3,
  oA 17 (.binOp .sub 3 (tm 15) (tm 16) 3) 3,
  oA 11 (.assign (tm 17)) 3]
def c73_3 : AC := .region o73_3 []
abbrev o73_9 : List AO := [oA 18 (.move (tm 10)) 3,
  oA 19 (.move (tm 11)) 3,
  oA 20 (.binOp .neq 3 (tm 18) (tm 19) 3) 4]
def c73_9 : AC := .region o73_9 []
def c73_11 : AC := .skip
def c73_12 : AC := .exit 0
def c73_10 : AC := .cond (tm 20) c73_11 c73_12
def c73_8 : AC := .seq c73_9 c73_10
abbrev o73_15 : List AO := [oA 21 (.move (tm 10)) 3,
  oA 22 (.move (tm 11)) 3,
  oA 23 (.binOp .gtr 3 (tm 21) (tm 22) 3) 4]
def c73_15 : AC := .region o73_15 []
abbrev o73_18 : List AO := [oA 24 (.move (tm 0)) 22,
  oA 25 (.move (tm 2)) 3,
  oA 26 (.move (tm 10)) 3,
  oA 27 (.binOp .sub 3 (tm 25) (tm 26) 3) 3,
  oA 28 (.move (tm 2)) 3,
  oA 29 (.move (tm 11)) 3,
  oA 30 (.move (tm 4)) 60,
  oA 31 (cF 81 #[(tm 24), (tm 27), (tm 28), (tm 29), (tm 30)] #[22, 3, 3, 3, 60]) 0]
def c73_18 : AC := .region o73_18 []
abbrev o73_19 : List AO := [oA 32 (.move (tm 10)) 3,
  oA 33 (.move (tm 11)) 3,
  oA 34 (.binOp .sub 3 (tm 32) (tm 33) 3) 3,
  oA 10 (.assign (tm 34)) 3]
def c73_19 : AC := .region o73_19 []
def c73_17 : AC := .seq c73_18 c73_19
abbrev o73_21 : List AO := [oA 35 (.move (tm 0)) 22,
  oA 36 (.move (tm 2)) 3,
  oA 37 (.move (tm 10)) 3,
  oA 38 (.binOp .sub 3 (tm 36) (tm 37) 3) 3,
  oA 39 (.move (tm 2)) 3,
  oA 40 (.move (tm 11)) 3,
  oA 41 (.binOp .add 3 (tm 39) (tm 40) 3) 3,
  oA 42 (.move (tm 10)) 3,
  oA 43 (.binOp .sub 3 (tm 41) (tm 42) 3) 3,
  oA 44 (.move (tm 10)) 3,
  oA 45 (.move (tm 4)) 60,
  oA 46 (cF 81 #[(tm 35), (tm 38), (tm 43), (tm 44), (tm 45)] #[22, 3, 3, 3, 60]) 0]
def c73_21 : AC := .region o73_21 []
abbrev o73_22 : List AO := [oA 47 (.move (tm 11)) 3,
  oA 48 (.move (tm 10)) 3,
  oA 49 (.binOp .sub 3 (tm 47) (tm 48) 3) 3,
  oA 11 (.assign (tm 49)) 3]
def c73_22 : AC := .region o73_22 []
def c73_20 : AC := .seq c73_21 c73_22
def c73_16 : AC := .cond (tm 23) c73_17 c73_20
def c73_14 : AC := .seq c73_15 c73_16
def c73_13 : AC := .block 1 c73_14
def c73_7 : AC := .seq c73_8 c73_13
def c73_6 : AC := .loop c73_7
def c73_5 : AC := .block 0 c73_6
abbrev o73_23 : List AO := [oA 50 (.move (tm 0)) 22,
  oA 51 (.move (tm 2)) 3,
  oA 52 (.move (tm 10)) 3,
  oA 53 (.binOp .sub 3 (tm 51) (tm 52) 3) 3,
  oA 54 (.move (tm 2)) 3,
  oA 55 (.move (tm 10)) 3,
  oA 56 (.move (tm 4)) 60,
  oA 57 (cF 81 #[(tm 50), (tm 53), (tm 54), (tm 55), (tm 56)] #[22, 3, 3, 3, 60]) 0]
def c73_23 : AC := .region o73_23 []
def c73_4 : AC := .seq c73_5 c73_23
def c73_2 : AC := .seq c73_3 c73_4
def c73_0 : AC := .seq c73_1 c73_2
theorem r73_0 : SeqR Cx 73 c73_0 c73_1 c73_2 ∧ RegR Cx 73 c73_1 o73_1 ∧ SeqR Cx 73 c73_2 c73_3 c73_4 ∧ RegR Cx 73 c73_3 o73_3 ∧ SeqR Cx 73 c73_4 c73_5 c73_23 ∧ BlkR Cx 73 c73_5 0 c73_6 ∧ LoopR Cx 73 c73_6 c73_7 ∧ SeqR Cx 73 c73_7 c73_8 c73_13 := ⟨run_seq, run_region, run_seq, run_region, run_seq, run_block, run_loop', run_seq⟩
theorem r73_1 : SeqR Cx 73 c73_8 c73_9 c73_10 ∧ RegR Cx 73 c73_9 o73_9 ∧ CondR Cx 73 c73_10 (tm 20) c73_11 c73_12 ∧ SkipR Cx 73 c73_11 ∧ ExitR Cx 73 c73_12 0 ∧ BlkR Cx 73 c73_13 1 c73_14 ∧ SeqR Cx 73 c73_14 c73_15 c73_16 ∧ RegR Cx 73 c73_15 o73_15 := ⟨run_seq, run_region, run_condC, run_skip, run_exit_start, run_block, run_seq, run_region⟩
theorem r73_2 : CondR Cx 73 c73_16 (tm 23) c73_17 c73_20 ∧ SeqR Cx 73 c73_17 c73_18 c73_19 ∧ RegR Cx 73 c73_18 o73_18 ∧ RegR Cx 73 c73_19 o73_19 ∧ SeqR Cx 73 c73_20 c73_21 c73_22 ∧ RegR Cx 73 c73_21 o73_21 ∧ RegR Cx 73 c73_22 o73_22 ∧ RegR Cx 73 c73_23 o73_23 := ⟨run_condC, run_seq, run_region, run_region, run_seq, run_region, run_region, run_region⟩
theorem body73 : bodyOf Cx 73 = some c73_0 := by kernel_rfl
theorem res73 : resOf Cx 73 = some [] := by kernel_rfl
theorem pure73 : Cx.pure 73 = false := by kernel_rfl
abbrev o74_1 : List AO := [oA 2 (.box 43 (tm 0)) 0,
  oA 3 (.box 43 (tm 1)) 0,
  oA 4 (.alloc 43) 0]
def c74_1 : AC := .region o74_1 []
abbrev o74_3 : List AO := [oA 5 (.fieldAddr 43 (tm 2) 0) 0,
  oA 6 (.load 3 (tm 5)) 3,
  oA 7 (.fieldAddr 43 (tm 3) 0) 0,
  oA 8 (.load 3 (tm 7)) 3,
  oA 9 (.binOp .mul 3 (tm 6) (tm 8) 3) 3,
  oA 10 (.fieldAddr 43 (tm 2) 1) 0,
  oA 11 (.load 3 (tm 10)) 3,
  oA 12 (.fieldAddr 43 (tm 3) 1) 0,
  oA 13 (.load 3 (tm 12)) 3,
  oA 14 (.binOp .mul 3 (tm 11) (tm 13) 3) 3,
  oA 15 (.binOp .sub 3 (tm 9) (tm 14) 3) 3,
  oA 16 (.fieldAddr 43 (tm 2) 0) 0,
  oA 17 (.load 3 (tm 16)) 3,
  oA 18 (.fieldAddr 43 (tm 3) 1) 0,
  oA 19 (.load 3 (tm 18)) 3,
  oA 20 (.binOp .mul 3 (tm 17) (tm 19) 3) 3,
  oA 21 (.fieldAddr 43 (tm 2) 1) 0,
  oA 22 (.load 3 (tm 21)) 3,
  oA 23 (.fieldAddr 43 (tm 3) 0) 0,
  oA 24 (.load 3 (tm 23)) 3,
  oA 25 (.binOp .mul 3 (tm 22) (tm 24) 3) 3,
  oA 26 (.binOp .add 3 (tm 20) (tm 25) 3) 3,
  oA 27 (.build 43 #[(0, (tm 15)), (1, (tm 26))]) 43,
  oN (.store 43 (tm 4) (tm 27)) 0]
def c74_3 : AC := .region o74_3 []
def c74_4 : AC := .ret
def c74_2 : AC := .seq c74_3 c74_4
def c74_0 : AC := .seq c74_1 c74_2
theorem r74_0 : SeqR Cx 74 c74_0 c74_1 c74_2 ∧ RegR Cx 74 c74_1 o74_1 ∧ SeqR Cx 74 c74_2 c74_3 c74_4 ∧ RegR Cx 74 c74_3 o74_3 ∧ RetR Cx 74 c74_4 := ⟨run_seq, run_region, run_seq, run_region, run_ret⟩
abbrev o75_1 : List AO := [oA 1 (.box 43 (tm 0)) 0,
  oA 2 (.assign (ci 0)) 3]
def c75_1 : AC := .region o75_1 []
abbrev o75_3 : List AO := [oA 3 (.fieldAddr 43 (tm 1) 0) 0,
  oA 4 (.load 3 (tm 3)) 3,
  oA 5 (.fieldAddr 43 (tm 1) 0) 0,
  oA 6 (.load 3 (tm 5)) 3,
  oA 7 (.binOp .mul 3 (tm 4) (tm 6) 3) 3,
  oA 8 (.fieldAddr 43 (tm 1) 1) 0,
  oA 9 (.load 3 (tm 8)) 3,
  oA 10 (.fieldAddr 43 (tm 1) 1) 0,
  oA 11 (.load 3 (tm 10)) 3,
  oA 12 (.binOp .mul 3 (tm 9) (tm 11) 3) 3,
  oA 13 (.binOp .add 3 (tm 7) (tm 12) 3) 3,
  oA 2 (.assign (tm 13)) 3]
def c75_3 : AC := .region o75_3 []
def c75_4 : AC := .ret
def c75_2 : AC := .seq c75_3 c75_4
def c75_0 : AC := .seq c75_1 c75_2
theorem r75_0 : SeqR Cx 75 c75_0 c75_1 c75_2 ∧ RegR Cx 75 c75_1 o75_1 ∧ SeqR Cx 75 c75_2 c75_3 c75_4 ∧ RegR Cx 75 c75_3 o75_3 ∧ RetR Cx 75 c75_4 := ⟨run_seq, run_region, run_seq, run_region, run_ret⟩
abbrev o76_1 : List AO := [oA 4 (.assign (ci 0)) 3]
def c76_1 : AC := .region o76_1 []
abbrev o76_3 : List AO := [oA 7 (.move (tm 0)) 3,
  oA 8 (.binOp .mul 3 (ci 2) (tm 7) 3) 3,
  oA 9 (.move (tm 1)) 3,
  oA 10 (.binOp .add 3 (tm 8) (tm 9) 3) 3,
  oA 5 (.assign (tm 10)) 3]
def c76_3 : AC := .region o76_3 []
abbrev o76_5 : List AO := [oA 11 (.move (tm 5)) 3,
  oA 12 (.move (tm 1)) 3,
  oA 13 (.binOp .mul 3 (ci 2) (tm 12) 3) 3,
  oA 14 (.binOp .quo 3 (tm 11) (tm 13) 3) 3,
  oA 6 (.assign (tm 14)) 3]
def c76_5 : AC := .region o76_5 []
abbrev o76_8 : List AO := [oA 15 (.move (tm 6)) 3,
  oA 16 (.binOp .mul 3 (tm 15) (ci 2) 3) 3,
  oA 17 (.move (tm 1)) 3,
  oA 18 (.binOp .mul 3 (tm 16) (tm 17) 3) 3,
  oA 19 (.move (tm 5)) 3,
  oA 20 (.binOp .gtr 3 (tm 18) (tm 19) 3) 4]
def c76_8 : AC := .region o76_8 []
abbrev o76_10 : List AO := [oA 21 (.move (tm 6)) 3,
  oA 22 (.binOp .sub 3 (tm 21) (ci 1) 3) 3,
  oA 6 (.assign (tm 22)) 3]
def c76_10 : AC := .region o76_10 []
def c76_11 : AC := .skip
def c76_9 : AC := .cond (tm 20) c76_10 c76_11
def c76_7 : AC := .seq c76_8 c76_9
abbrev o76_13 : List AO := [oA 23 (.move (tm 6)) 3,
  oA 4 (.assign (tm 23)) 3]
def c76_13 : AC := .region o76_13 []
def c76_14 : AC := .ret
def c76_12 : AC := .seq c76_13 c76_14
def c76_6 : AC := .seq c76_7 c76_12
def c76_4 : AC := .seq c76_5 c76_6
def c76_2 : AC := .seq c76_3 c76_4
def c76_0 : AC := .seq c76_1 c76_2
theorem r76_0 : SeqR Cx 76 c76_0 c76_1 c76_2 ∧ RegR Cx 76 c76_1 o76_1 ∧ SeqR Cx 76 c76_2 c76_3 c76_4 ∧ RegR Cx 76 c76_3 o76_3 ∧ SeqR Cx 76 c76_4 c76_5 c76_6 ∧ RegR Cx 76 c76_5 o76_5 ∧ SeqR Cx 76 c76_6 c76_7 c76_12 ∧ SeqR Cx 76 c76_7 c76_8 c76_9 := ⟨run_seq, run_region, run_seq, run_region, run_seq, run_region, run_seq, run_seq⟩
theorem r76_1 : RegR Cx 76 c76_8 o76_8 ∧ CondR Cx 76 c76_9 (tm 20) c76_10 c76_11 ∧ RegR Cx 76 c76_10 o76_10 ∧ SkipR Cx 76 c76_11 ∧ SeqR Cx 76 c76_12 c76_13 c76_14 ∧ RegR Cx 76 c76_13 o76_13 ∧ RetR Cx 76 c76_14 := ⟨run_region, run_condC, run_region, run_skip, run_seq, run_region, run_ret⟩
abbrev o78_1 : List AO := [oA 1 (.box 43 (tm 0)) 0,
  oA 2 (.assign (.const (.complex .f64 0 0))) 108]
def c78_1 : AC := .region o78_1 []
abbrev o78_3 : List AO := [oA 3 (.fieldAddr 43 (tm 1) 0) 0,
  oA 4 (.load 3 (tm 3)) 3,
  oA 5 (.convert 3 110 (tm 4)) 110,
  oA 6 (.fieldAddr 43 (tm 1) 1) 0,
  oA 7 (.load 3 (tm 6)) 3,
  oA 8 (.convert 3 110 (tm 7)) 110,
  oA 9 (cB .complex #[(tm 5), (tm 8)] #[110, 110]) 108,
  oA 2 (.assign (tm 9)) 108]
def c78_3 : AC := .region o78_3 []
def c78_4 : AC := .ret
def c78_2 : AC := .seq c78_3 c78_4
def c78_0 : AC := .seq c78_1 c78_2
theorem r78_0 : SeqR Cx 78 c78_0 c78_1 c78_2 ∧ RegR Cx 78 c78_1 o78_1 ∧ SeqR Cx 78 c78_2 c78_3 c78_4 ∧ RegR Cx 78 c78_3 o78_3 ∧ RetR Cx 78 c78_4 := ⟨run_seq, run_region, run_seq, run_region, run_ret⟩
theorem body78 : bodyOf Cx 78 = some c78_0 := by kernel_rfl
theorem res78 : resOf Cx 78 = some [.tmp 2] := by kernel_rfl
theorem pure78 : Cx.pure 78 = true := by kernel_rfl
abbrev o79_1 : List AO := [oA 1 (.box 43 (tm 0)) 0,
  oA 2 (.assign (ci 0)) 3]
def c79_1 : AC := .region o79_1 []
abbrev o79_3 : List AO := [oA 3 (.fieldAddr 43 (tm 1) 0) 0,
  oA 4 (.load 3 (tm 3)) 3,
  oA 5 (.fieldAddr 43 (tm 1) 0) 0,
  oA 6 (.load 3 (tm 5)) 3,
  oA 7 (.binOp .mul 3 (tm 4) (tm 6) 3) 3,
  oA 8 (.fieldAddr 43 (tm 1) 1) 0,
  oA 9 (.load 3 (tm 8)) 3,
  oA 10 (.fieldAddr 43 (tm 1) 1) 0,
  oA 11 (.load 3 (tm 10)) 3,
  oA 12 (.binOp .mul 3 (tm 9) (tm 11) 3) 3,
  oA 13 (.binOp .add 3 (tm 7) (tm 12) 3) 3,
  oA 2 (.assign (tm 13)) 3]
def c79_3 : AC := .region o79_3 []
def c79_4 : AC := .ret
def c79_2 : AC := .seq c79_3 c79_4
def c79_0 : AC := .seq c79_1 c79_2
theorem r79_0 : SeqR Cx 79 c79_0 c79_1 c79_2 ∧ RegR Cx 79 c79_1 o79_1 ∧ SeqR Cx 79 c79_2 c79_3 c79_4 ∧ RegR Cx 79 c79_3 o79_3 ∧ RetR Cx 79 c79_4 := ⟨run_seq, run_region, run_seq, run_region, run_ret⟩
theorem body79 : bodyOf Cx 79 = some c79_0 := by kernel_rfl
theorem res79 : resOf Cx 79 = some [.tmp 2] := by kernel_rfl
theorem pure79 : Cx.pure 79 = true := by kernel_rfl
abbrev o80_1 : List AO := [oA 4 (.assign (ci 0)) 3]
def c80_1 : AC := .region o80_1 []
abbrev o80_3 : List AO := [oA 7 (.move (tm 0)) 3,
  oA 8 (.binOp .mul 3 (ci 2) (tm 7) 3) 3,
  oA 9 (.move (tm 1)) 3,
  oA 10 (.binOp .add 3 (tm 8) (tm 9) 3) 3,
  oA 5 (.assign (tm 10)) 3]
def c80_3 : AC := .region o80_3 []
abbrev o80_5 : List AO := [oA 11 (.move (tm 5)) 3,
  oA 12 (.move (tm 1)) 3,
  oA 13 (.binOp .mul 3 (ci 2) (tm 12) 3) 3,
  oA 14 (.binOp .quo 3 (tm 11) (tm 13) 3) 3,
  oA 6 (.assign (tm 14)) 3]
def c80_5 : AC := .region o80_5 []
abbrev o80_8 : List AO := [oA 15 (.move (tm 5)) 3,
  oA 16 (.move (tm 1)) 3,
  oA 17 (.binOp .mul 3 (ci 2) (tm 16) 3) 3,
  oA 18 (.binOp .rem 3 (tm 15) (tm 17) 3) 3,
  oA 19 (.binOp .lss 3 (tm 18) (ci 0) 3) 4]
def c80_8 : AC := .region o80_8 []
abbrev o80_10 : List AO := [oA 20 (.move (tm 6)) 3,
  oA 21 (.binOp .sub 3 (tm 20) (ci 1) 3) 3,
  oA 6 (.assign (tm 21)) 3]
def c80_10 : AC := .region o80_10 []
def c80_11 : AC := .skip
def c80_9 : AC := .cond (tm 19) c80_10 c80_11
def c80_7 : AC := .seq c80_8 c80_9
abbrev o80_13 : List AO := [oA 22 (.move (tm 6)) 3,
  oA 4 (.assign (tm 22)) 3]
def c80_13 : AC := .region o80_13 []
def c80_14 : AC := .ret
def c80_12 : AC := .seq c80_13 c80_14
def c80_6 : AC := .seq c80_7 c80_12
def c80_4 : AC := .seq c80_5 c80_6
def c80_2 : AC := .seq c80_3 c80_4
def c80_0 : AC := .seq c80_1 c80_2
theorem r80_0 : SeqR Cx 80 c80_0 c80_1 c80_2 ∧ RegR Cx 80 c80_1 o80_1 ∧ SeqR Cx 80 c80_2 c80_3 c80_4 ∧ RegR Cx 80 c80_3 o80_3 ∧ SeqR Cx 80 c80_4 c80_5 c80_6 ∧ RegR Cx 80 c80_5 o80_5 ∧ SeqR Cx 80 c80_6 c80_7 c80_12 ∧ SeqR Cx 80 c80_7 c80_8 c80_9 := ⟨run_seq, run_region, run_seq, run_region, run_seq, run_region, run_seq, run_seq⟩
theorem r80_1 : RegR Cx 80 c80_8 o80_8 ∧ CondR Cx 80 c80_9 (tm 19) c80_10 c80_11 ∧ RegR Cx 80 c80_10 o80_10 ∧ SkipR Cx 80 c80_11 ∧ SeqR Cx 80 c80_12 c80_13 c80_14 ∧ RegR Cx 80 c80_13 o80_13 ∧ RetR Cx 80 c80_14 := ⟨run_region, run_condC, run_region, run_skip, run_seq, run_region, run_ret⟩
theorem body80 : bodyOf Cx 80 = some c80_0 := by kernel_rfl
theorem res80 : resOf Cx 80 = some [.tmp 4] := by kernel_rfl
theorem pure80 : Cx.pure 80 = true := by kernel_rfl
abbrev o81_1 : List AO := [oA 10 (.assign (ci 0)) 3]
def c81_1 : AC := .region o81_1 []
abbrev o81_6 : List AO := [oA 11 (.move (tm 10)) 3,
  oA 12 (.move (tm 3)) 3,
  oA 13 (.binOp .lss 3 (tm 11) (tm 12) 3) 4]
def c81_6 : AC := .region o81_6 []
def c81_8 : AC := .skip
def c81_9 : AC := .exit 0
def c81_7 : AC := .cond (tm 13) c81_8 c81_9
def c81_5 : AC := .seq c81_6 c81_7
abbrev o81_12 : List AO := [oA 16 (.move (tm 0)) 22,
  oA 17 (.move (tm 1)) 3,
  oA 18 (.move (tm 10)) 3,
  oA 19 (.binOp .add 3 (tm 17) (tm 18) 3) 3,
  oA 20 (.move (tm 0)) 22,
  oA 21 (.move (tm 2)) 3,
  oA 22 (.move (tm 10)) 3,
  oA 23 (.binOp .add 3 (tm 21) (tm 22) 3) 3,
  oA 24 (.move (tm 0)) 22,
  oA 25 (.move (tm 2)) 3,
  oA 26 (.move (tm 10)) 3,
  oA 27 (.binOp .add 3 (tm 25) (tm 26) 3) 3,
  oA 28 (.indexAddr 22 (tm 24) (tm 27)) 0,
  oA 29 (.load 47 (tm 28)) 47,
  oA 30 (.move (tm 0)) 22,
  oA 31 (.move (tm 1)) 3,
  oA 32 (.move (tm 10)) 3,
  oA 33 (.binOp .add 3 (tm 31) (tm 32) 3) 3,
  oA 34 (.indexAddr 22 (tm 30) (tm 33)) 0,
  oA 35 (.load 47 (tm 34)) 47,
  oA 36 (.indexAddr 22 (tm 16) (tm 19)) 0,
  oN (.store 47 (tm 36) (tm 29)) 0,
  oA 37 (.indexAddr 22 (tm 20) (tm 23)) 0,
  oN (.store 47 (tm 37) (tm 35)) 0]
def c81_12 : AC := .region o81_12 []
def c81_11 : AC := .block 1 c81_12
abbrev o81_13 : List AO := [oA 14 (.move (tm 10)) 3,
  oA 15 (.binOp .add 3 (tm 14) (ci 1) 3) 3,
  oA 10 (.assign (tm 15)) 3]
def c81_13 : AC := .region o81_13 []
def c81_10 : AC := .seq c81_11 c81_13
def c81_4 : AC := .seq c81_5 c81_10
def c81_3 : AC := .loop c81_4
def c81_2 : AC := .block 0 c81_3
def c81_0 : AC := .seq c81_1 c81_2
theorem r81_0 : SeqR Cx 81 c81_0 c81_1 c81_2 ∧ RegR Cx 81 c81_1 o81_1 ∧ BlkR Cx 81 c81_2 0 c81_3 ∧ LoopR Cx 81 c81_3 c81_4 ∧ SeqR Cx 81 c81_4 c81_5 c81_10 ∧ SeqR Cx 81 c81_5 c81_6 c81_7 ∧ RegR Cx 81 c81_6 o81_6 ∧ CondR Cx 81 c81_7 (tm 13) c81_8 c81_9 := ⟨run_seq, run_region, run_block, run_loop', run_seq, run_seq, run_region, run_condC⟩
theorem r81_1 : SkipR Cx 81 c81_8 ∧ ExitR Cx 81 c81_9 0 ∧ SeqR Cx 81 c81_10 c81_11 c81_13 ∧ BlkR Cx 81 c81_11 1 c81_12 ∧ RegR Cx 81 c81_12 o81_12 ∧ RegR Cx 81 c81_13 o81_13 := ⟨run_skip, run_exit_start, run_seq, run_block, run_region, run_region⟩
theorem body81 : bodyOf Cx 81 = some c81_0 := by kernel_rfl
theorem res81 : resOf Cx 81 = some [] := by kernel_rfl
theorem pure81 : Cx.pure 81 = false := by kernel_rfl
end
end Go.Proofs.Ytjnopnlgcmlkfaa.G


namespace Go.Proofs.Ytjnopnlgcmlkfaa.G
open Go.BX
set_option linter.unusedSimpArgs false
set_option linter.unusedVariables false
theorem wr64 {n : Int} (h1 : -9223372036854775808 ≤ n) (h2 : n ≤ 9223372036854775807) : IntKind.i64.wrap n = n := by
  rw [IntKind.wrap_i64]; omega
structure Pr where
  key : Bytes
  k : Int
  n : Int
  s : Bytes
  x : Int
  y : Int
def encP (p : Pr) : List AV := [.str p.key, .int .i64 p.k, .int .i64 p.n, .str p.s, .int .i64 p.x, .int .i64 p.y]
abbrev pairA (p : Pr) : AV := .agg [.str p.key, .int .i64 p.k, .int .i64 p.n, .str p.s, .int .i64 p.x, .int .i64 p.y]
def InL (v : AV) (l : List Pr) : Prop := (v = .nilS ∧ l = []) ∨ v = .vec 6 (l.map encP)
theorem enc_get {l : List Pr} {i : Nat} {p : Pr} (h : l[i]? = some p) : (l.map encP)[i]? = some [.str p.key, .int .i64 p.k, .int .i64 p.n, .str p.s, .int .i64 p.x, .int .i64 p.y] := by
  rw [List.getElem?_map, h]; rfl
end Go.Proofs.Ytjnopnlgcmlkfaa.G

namespace Go.Proofs.Ytjnopnlgcmlkfaa.G
open Go.BX
set_option linter.unusedSimpArgs false
set_option linter.unusedVariables false
abbrev spot (x y : Int) : AV := .agg [.int .i64 x, .int .i64 y]
abbrev val (k n : Int) (s : Bytes) (x y : Int) : AV := .agg [.int .i64 k, .int .i64 n, .str s, .int .i64 x, .int .i64 y]
def inR (n : Int) : Bool := decide (-16777216 ≤ n) && decide (n ≤ 16777216)
theorem inside_ok (x : Int) : PCall Cx 55 [.int .i64 x] (.bool (inR x)) := by
  refine pcall_run (noext _) body55 ?_
  by_cases h : -16777216 ≤ x <;>
  simp only [h, inR, r55_0, res55, bb, bc, ↓bd, Nat.reduceEqDiff, Nat.reduceAdd, Nat.reduceMul, Nat.reduceLeDiff, Nat.reduceLT, ↓reduceIte, reduceCtorEq, Nat.reduceBeqDiff, Nat.reduceBneDiff, Int.reduceBNe, Int.reduceBEq, Int.reduceEq, Int.reduceLT, Int.reduceLE, Int.reduceAdd, Int.reduceSub, Int.reduceMul, Int.reduceNeg, List.reduceReplicate, Int.reduceToNat]
theorem gRight_ok (x y : Int) : PCall Cx 33 [spot x y] (.bool (inR x && inR y)) := by
  refine pcall_run (noext _) body33 ?_
  by_cases h : inR x = true
  · simp only [h, spot, call_pure pure55 rfl (inside_ok x), call_pure pure55 rfl (inside_ok y), r33_0, res33, tt, bb, bc, ↓bd, Nat.reduceEqDiff, Nat.reduceAdd, Nat.reduceMul, Nat.reduceLeDiff, Nat.reduceLT, ↓reduceIte, reduceCtorEq, Nat.reduceBeqDiff, Nat.reduceBneDiff, Int.reduceBNe, Int.reduceBEq, Int.reduceEq, Int.reduceLT, Int.reduceLE, Int.reduceAdd, Int.reduceSub, Int.reduceMul, Int.reduceNeg, List.reduceReplicate, Int.reduceToNat]
  · simp only [Bool.not_eq_true] at h
    simp only [h, spot, call_pure pure55 rfl (inside_ok x), r33_0, res33, tt, bb, bc, ↓bd, Nat.reduceEqDiff, Nat.reduceAdd, Nat.reduceMul, Nat.reduceLeDiff, Nat.reduceLT, ↓reduceIte, reduceCtorEq, Nat.reduceBeqDiff, Nat.reduceBneDiff, Int.reduceBNe, Int.reduceBEq, Int.reduceEq, Int.reduceLT, Int.reduceLE, Int.reduceAdd, Int.reduceSub, Int.reduceMul, Int.reduceNeg, List.reduceReplicate, Int.reduceToNat]
def rightV (k n : Int) (s : Bytes) (x y : Int) : Bool :=
  if k = 0 then ((decide (-9007199254740992 ≤ n) && decide (n ≤ 9007199254740992)) && !(s != [])) && !(!((x == 0) && (y == 0)))
  else if k = 1 then (decide ((s.length : Int) ≤ 4096) && !(n != 0)) && !(!((x == 0) && (y == 0)))
  else if k = 2 then ((inR x && inR y) && !(n != 0)) && !(s != [])
  else false
theorem Right_ok (k n : Int) (s : Bytes) (x y : Int) : PCall Cx 20 [val k n s x y] (.bool (rightV k n s x y)) := by
  refine pcall_run (noext _) body20 ?_
  unfold rightV
  by_cases h0 : k = 0
  · subst h0
    cases h1 : decide (-9007199254740992 ≤ n) with
    | false => simp only [h1, Bool.false_and, run_exit_start, exit_here, exit_code, run_inBlock, r20_0, r20_1, r20_2, r20_3, res20, tt, bb, bc, ↓bd, Nat.reduceEqDiff, Nat.reduceAdd, Nat.reduceMul, Nat.reduceLeDiff, Nat.reduceLT, ↓reduceIte, reduceCtorEq, Nat.reduceBeqDiff, Nat.reduceBneDiff, Int.reduceBNe, Int.reduceBEq, Int.reduceEq, Int.reduceLT, Int.reduceLE, Int.reduceAdd, Int.reduceSub, Int.reduceMul, Int.reduceNeg, List.reduceReplicate, Int.reduceToNat]
    | true =>
      cases h2 : decide (n ≤ 9007199254740992) with
      | false => simp only [h1, h2, Bool.false_and, run_exit_start, exit_here, exit_code, run_inBlock, r20_0, r20_1, r20_2, r20_3, res20, tt, bb, bc, ↓bd, Nat.reduceEqDiff, Nat.reduceAdd, Nat.reduceMul, Nat.reduceLeDiff, Nat.reduceLT, ↓reduceIte, reduceCtorEq, Nat.reduceBeqDiff, Nat.reduceBneDiff, Int.reduceBNe, Int.reduceBEq, Int.reduceEq, Int.reduceLT, Int.reduceLE, Int.reduceAdd, Int.reduceSub, Int.reduceMul, Int.reduceNeg, List.reduceReplicate, Int.reduceToNat]
      | true =>
        cases h3 : (s != []) <;>
        simp only [h1, h2, h3, Bool.false_and, Bool.true_and, run_exit_start, exit_here, exit_code, run_inBlock, r20_0, r20_1, r20_2, r20_3, res20, tt, bb, bc, ↓bd, Nat.reduceEqDiff, Nat.reduceAdd, Nat.reduceMul, Nat.reduceLeDiff, Nat.reduceLT, ↓reduceIte, reduceCtorEq, Nat.reduceBeqDiff, Nat.reduceBneDiff, Int.reduceBNe, Int.reduceBEq, Int.reduceEq, Int.reduceLT, Int.reduceLE, Int.reduceAdd, Int.reduceSub, Int.reduceMul, Int.reduceNeg, List.reduceReplicate, Int.reduceToNat]
  · have e0 : (k == 0) = false := by simpa using h0
    by_cases h1 : k = 1
    · subst h1
      cases h2 : decide ((s.length : Int) ≤ 4096) with
      | false => simp only [h2, Bool.false_and, run_exit_start, exit_here, exit_code, run_inBlock, r20_0, r20_1, r20_2, r20_3, res20, tt, bb, bc, ↓bd, Nat.reduceEqDiff, Nat.reduceAdd, Nat.reduceMul, Nat.reduceLeDiff, Nat.reduceLT, ↓reduceIte, reduceCtorEq, Nat.reduceBeqDiff, Nat.reduceBneDiff, Int.reduceBNe, Int.reduceBEq, Int.reduceEq, Int.reduceLT, Int.reduceLE, Int.reduceAdd, Int.reduceSub, Int.reduceMul, Int.reduceNeg, List.reduceReplicate, Int.reduceToNat]
      | true =>
        cases h3 : (n != 0) <;>
        simp only [h2, h3, Bool.false_and, Bool.true_and, run_exit_start, exit_here, exit_code, run_inBlock, r20_0, r20_1, r20_2, r20_3, res20, tt, bb, bc, ↓bd, Nat.reduceEqDiff, Nat.reduceAdd, Nat.reduceMul, Nat.reduceLeDiff, Nat.reduceLT, ↓reduceIte, reduceCtorEq, Nat.reduceBeqDiff, Nat.reduceBneDiff, Int.reduceBNe, Int.reduceBEq, Int.reduceEq, Int.reduceLT, Int.reduceLE, Int.reduceAdd, Int.reduceSub, Int.reduceMul, Int.reduceNeg, List.reduceReplicate, Int.reduceToNat]
    · have e1 : (k == 1) = false := by simpa using h1
      by_cases h2 : k = 2
      · subst h2
        cases h3 : (inR x && inR y) with
        | false => simp only [h3, call_pure pure33 rfl (gRight_ok x y), Bool.false_and, run_exit_start, exit_here, exit_code, run_inBlock, r20_0, r20_1, r20_2, r20_3, res20, tt, bb, bc, ↓bd, Nat.reduceEqDiff, Nat.reduceAdd, Nat.reduceMul, Nat.reduceLeDiff, Nat.reduceLT, ↓reduceIte, reduceCtorEq, Nat.reduceBeqDiff, Nat.reduceBneDiff, Int.reduceBNe, Int.reduceBEq, Int.reduceEq, Int.reduceLT, Int.reduceLE, Int.reduceAdd, Int.reduceSub, Int.reduceMul, Int.reduceNeg, List.reduceReplicate, Int.reduceToNat]
        | true =>
          cases h4 : (n != 0) <;>
          simp only [h3, h4, call_pure pure33 rfl (gRight_ok x y), Bool.false_and, Bool.true_and, run_exit_start, exit_here, exit_code, run_inBlock, r20_0, r20_1, r20_2, r20_3, res20, tt, bb, bc, ↓bd, Nat.reduceEqDiff, Nat.reduceAdd, Nat.reduceMul, Nat.reduceLeDiff, Nat.reduceLT, ↓reduceIte, reduceCtorEq, Nat.reduceBeqDiff, Nat.reduceBneDiff, Int.reduceBNe, Int.reduceBEq, Int.reduceEq, Int.reduceLT, Int.reduceLE, Int.reduceAdd, Int.reduceSub, Int.reduceMul, Int.reduceNeg, List.reduceReplicate, Int.reduceToNat]
      · have e2 : (k == 2) = false := by simpa using h2
        simp only [h0, h1, h2, e0, e1, e2, run_exit_start, exit_here, exit_code, run_inBlock, r20_0, r20_1, r20_2, r20_3, res20, tt, bb, bc, ↓bd, Nat.reduceEqDiff, Nat.reduceAdd, Nat.reduceMul, Nat.reduceLeDiff, Nat.reduceLT, ↓reduceIte, reduceCtorEq, Nat.reduceBeqDiff, Nat.reduceBneDiff, Int.reduceBNe, Int.reduceBEq, Int.reduceEq, Int.reduceLT, Int.reduceLE, Int.reduceAdd, Int.reduceSub, Int.reduceMul, Int.reduceNeg, List.reduceReplicate, Int.reduceToNat]
theorem isNaN_ok (x : Int) : PCall Cx 70 [.int .i64 x] (.bool false) := by
  refine pcall_run (noext _) body70 ?_
  simp only [r70_0, res70, tt, bb, bc, ↓bd, Nat.reduceEqDiff, Nat.reduceAdd, Nat.reduceMul, Nat.reduceLeDiff, Nat.reduceLT, ↓reduceIte, reduceCtorEq, Nat.reduceBeqDiff, Nat.reduceBneDiff, Int.reduceBNe, Int.reduceBEq, Int.reduceEq, Int.reduceLT, Int.reduceLE, Int.reduceAdd, Int.reduceSub, Int.reduceMul, Int.reduceNeg, List.reduceReplicate, Int.reduceToNat]
def cmpI (x y : Int) : Int := if x < y then -1 else if y < x then 1 else 0
theorem Compare_ok (x y : Int) : PCall Cx 58 [.int .i64 x, .int .i64 y] (.int .i64 (cmpI x y)) := by
  refine pcall_run (noext _) body58 ?_
  unfold cmpI
  by_cases h1 : x < y <;> by_cases h2 : y < x <;>
  simp only [h1, h2, call_pure pure70 rfl (isNaN_ok x), call_pure pure70 rfl (isNaN_ok y), r58_0, r58_1, r58_2, r58_3, r58_4, r58_5, r58_6, res58, tt, bb, bc, ↓bd, Nat.reduceEqDiff, Nat.reduceAdd, Nat.reduceMul, Nat.reduceLeDiff, Nat.reduceLT, ↓reduceIte, reduceCtorEq, Nat.reduceBeqDiff, Nat.reduceBneDiff, Int.reduceBNe, Int.reduceBEq, Int.reduceEq, Int.reduceLT, Int.reduceLE, Int.reduceAdd, Int.reduceSub, Int.reduceMul, Int.reduceNeg, List.reduceReplicate, Int.reduceToNat]
theorem cmpstring_ok (a b : Bytes) : PCall Cx 77 [.str a, .str b] (.int .i64 (cmpL a b)) := pcall_ext (g := cmpG) rfl rfl rfl
theorem pure_cmpstring : Cx.pure 77 = true := by kernel_rfl
theorem CompareString_ok (a b : Bytes) : PCall Cx 71 [.str a, .str b] (.int .i64 (cmpL a b)) := by
  refine pcall_run (noext _) body71 ?_
  simp only [call_pure pure_cmpstring rfl (cmpstring_ok a b), r71_0, res71, tt, bb, bc, ↓bd, Nat.reduceEqDiff, Nat.reduceAdd, Nat.reduceMul, Nat.reduceLeDiff, Nat.reduceLT, ↓reduceIte, reduceCtorEq, Nat.reduceBeqDiff, Nat.reduceBneDiff, Int.reduceBNe, Int.reduceBEq, Int.reduceEq, Int.reduceLT, Int.reduceLE, Int.reduceAdd, Int.reduceSub, Int.reduceMul, Int.reduceNeg, List.reduceReplicate, Int.reduceToNat]
theorem strCompare_ok (a b : Bytes) : PCall Cx 59 [.str a, .str b] (.int .i64 (cmpL a b)) := by
  refine pcall_run (noext _) body59 ?_
  simp only [call_pure pure71 rfl (CompareString_ok a b), r59_0, res59, tt, bb, bc, ↓bd, Nat.reduceEqDiff, Nat.reduceAdd, Nat.reduceMul, Nat.reduceLeDiff, Nat.reduceLT, ↓reduceIte, reduceCtorEq, Nat.reduceBeqDiff, Nat.reduceBneDiff, Int.reduceBNe, Int.reduceBEq, Int.reduceEq, Int.reduceLT, Int.reduceLE, Int.reduceAdd, Int.reduceSub, Int.reduceMul, Int.reduceNeg, List.reduceReplicate, Int.reduceToNat]
def oc (a b : Int) : Int := if a = 0 then b else a
set_option maxRecDepth 20000 in
theorem Or_ok (a b c d e : Int) : PCall Cx 57 [.vec 1 [[.int .i64 a], [.int .i64 b], [.int .i64 c], [.int .i64 d], [.int .i64 e]]] (.int .i64 (oc a (oc b (oc c (oc d e))))) := by
  refine pcall_run (noext _) body57 ?_
  unfold oc
  have w1 : IntKind.i64.wrap 1 = 1 := rfl
  have w2 : IntKind.i64.wrap 2 = 2 := rfl
  have w3 : IntKind.i64.wrap 3 = 3 := rfl
  have w4 : IntKind.i64.wrap 4 = 4 := rfl
  have w5 : IntKind.i64.wrap 5 = 5 := rfl
  have key : ∀ x : Int, x = 0 ∨ (x != 0) = true ∧ (x = 0) = False := fun x => by
    by_cases h : x = 0
    · exact .inl h
    · exact .inr ⟨by simpa using h, eq_false h⟩
  rcases key a with rfl | ⟨ea, fa⟩
  · rcases key b with rfl | ⟨eb, fb⟩
    · rcases key c with rfl | ⟨ec, fc⟩
      · rcases key d with rfl | ⟨ed, fd⟩
        · rcases key e with rfl | ⟨ee, fe⟩
          · simp only [w1, w2, w3, w4, w5, xx, run_inLoop, r57_0, r57_1, r57_2, r57_3, res57, tt, bb, bc, ↓bd, Nat.reduceEqDiff, Nat.reduceAdd, Nat.reduceMul, Nat.reduceLeDiff, Nat.reduceLT, ↓reduceIte, reduceCtorEq, Nat.reduceBeqDiff, Nat.reduceBneDiff, Int.reduceBNe, Int.reduceBEq, Int.reduceEq, Int.reduceLT, Int.reduceLE, Int.reduceAdd, Int.reduceSub, Int.reduceMul, Int.reduceNeg, List.reduceReplicate, Int.reduceToNat]
          · simp only [ee, fe, w1, w2, w3, w4, w5, xx, run_inLoop, r57_0, r57_1, r57_2, r57_3, res57, tt, bb, bc, ↓bd, Nat.reduceEqDiff, Nat.reduceAdd, Nat.reduceMul, Nat.reduceLeDiff, Nat.reduceLT, ↓reduceIte, reduceCtorEq, Nat.reduceBeqDiff, Nat.reduceBneDiff, Int.reduceBNe, Int.reduceBEq, Int.reduceEq, Int.reduceLT, Int.reduceLE, Int.reduceAdd, Int.reduceSub, Int.reduceMul, Int.reduceNeg, List.reduceReplicate, Int.reduceToNat]
        · simp only [ed, fd, w1, w2, w3, w4, w5, xx, run_inLoop, r57_0, r57_1, r57_2, r57_3, res57, tt, bb, bc, ↓bd, Nat.reduceEqDiff, Nat.reduceAdd, Nat.reduceMul, Nat.reduceLeDiff, Nat.reduceLT, ↓reduceIte, reduceCtorEq, Nat.reduceBeqDiff, Nat.reduceBneDiff, Int.reduceBNe, Int.reduceBEq, Int.reduceEq, Int.reduceLT, Int.reduceLE, Int.reduceAdd, Int.reduceSub, Int.reduceMul, Int.reduceNeg, List.reduceReplicate, Int.reduceToNat]
      · simp only [ec, fc, w1, w2, w3, w4, w5, xx, run_inLoop, r57_0, r57_1, r57_2, r57_3, res57, tt, bb, bc, ↓bd, Nat.reduceEqDiff, Nat.reduceAdd, Nat.reduceMul, Nat.reduceLeDiff, Nat.reduceLT, ↓reduceIte, reduceCtorEq, Nat.reduceBeqDiff, Nat.reduceBneDiff, Int.reduceBNe, Int.reduceBEq, Int.reduceEq, Int.reduceLT, Int.reduceLE, Int.reduceAdd, Int.reduceSub, Int.reduceMul, Int.reduceNeg, List.reduceReplicate, Int.reduceToNat]
    · simp only [eb, fb, w1, w2, w3, w4, w5, xx, run_inLoop, r57_0, r57_1, r57_2, r57_3, res57, tt, bb, bc, ↓bd, Nat.reduceEqDiff, Nat.reduceAdd, Nat.reduceMul, Nat.reduceLeDiff, Nat.reduceLT, ↓reduceIte, reduceCtorEq, Nat.reduceBeqDiff, Nat.reduceBneDiff, Int.reduceBNe, Int.reduceBEq, Int.reduceEq, Int.reduceLT, Int.reduceLE, Int.reduceAdd, Int.reduceSub, Int.reduceMul, Int.reduceNeg, List.reduceReplicate, Int.reduceToNat]
  · simp only [ea, fa, w1, w2, w3, w4, w5, xx, run_inLoop, r57_0, r57_1, r57_2, r57_3, res57, tt, bb, bc, ↓bd, Nat.reduceEqDiff, Nat.reduceAdd, Nat.reduceMul, Nat.reduceLeDiff, Nat.reduceLT, ↓reduceIte, reduceCtorEq, Nat.reduceBeqDiff, Nat.reduceBneDiff, Int.reduceBNe, Int.reduceBEq, Int.reduceEq, Int.reduceLT, Int.reduceLE, Int.reduceAdd, Int.reduceSub, Int.reduceMul, Int.reduceNeg, List.reduceReplicate, Int.reduceToNat]
def ordV (k n : Int) (s : Bytes) (x y : Int) (k' n' : Int) (s' : Bytes) (x' y' : Int) : Int := oc (cmpI k k') (oc (cmpI n n') (oc (cmpL s s') (oc (cmpI x x') (cmpI y y'))))
set_option maxRecDepth 20000 in
theorem Order_ok (k n : Int) (s : Bytes) (x y : Int) (k' n' : Int) (s' : Bytes) (x' y' : Int) : PCall Cx 38 [val k n s x y, val k' n' s' x' y'] (.int .i64 (ordV k n s x y k' n' s' x' y')) := by
  refine pcall_run (noext _) body38 ?_
  unfold ordV
  simp only [call_pure pure58 rfl (Compare_ok k k'), call_pure pure58 rfl (Compare_ok n n'), call_pure pure58 rfl (Compare_ok x x'), call_pure pure58 rfl (Compare_ok y y'), call_pure pure59 rfl (strCompare_ok s s'), call_any pure57 rfl (Or_ok (cmpI k k') (cmpI n n') (cmpL s s') (cmpI x x') (cmpI y y')), r38_0, res38, tt, bb, bc, ↓bd, Nat.reduceEqDiff, Nat.reduceAdd, Nat.reduceMul, Nat.reduceLeDiff, Nat.reduceLT, ↓reduceIte, reduceCtorEq, Nat.reduceBeqDiff, Nat.reduceBneDiff, Int.reduceBNe, Int.reduceBEq, Int.reduceEq, Int.reduceLT, Int.reduceLE, Int.reduceAdd, Int.reduceSub, Int.reduceMul, Int.reduceNeg, List.reduceReplicate, Int.reduceToNat]
end Go.Proofs.Ytjnopnlgcmlkfaa.G

namespace Go.Proofs.Ytjnopnlgcmlkfaa.G
open Go.BX
set_option linter.unusedSimpArgs false
set_option linter.unusedVariables false
def badP (p : Pr) : Bool := decide ((64 : Int) < (p.key.length : Int)) || !rightV p.k p.n p.s p.x p.y
theorem bad_ok (p : Pr) : PCall Cx 19 [pairA p] (.bool (badP p)) := by
  refine pcall_run (noext _) body19 ?_
  unfold badP
  by_cases h : (64 : Int) < (p.key.length : Int)
  · simp only [h, Bool.true_or, r19_0, res19, tt, bb, bc, ↓bd, Nat.reduceEqDiff, Nat.reduceAdd, Nat.reduceMul, Nat.reduceLeDiff, Nat.reduceLT, ↓reduceIte, reduceCtorEq, Nat.reduceBeqDiff, Nat.reduceBneDiff, Int.reduceBNe, Int.reduceBEq, Int.reduceEq, Int.reduceLT, Int.reduceLE, Int.reduceAdd, Int.reduceSub, Int.reduceMul, Int.reduceNeg, List.reduceReplicate, Int.reduceToNat]
  · simp only [h, Bool.false_or, call_pure pure20 rfl (Right_ok p.k p.n p.s p.x p.y), r19_0, res19, tt, bb, bc, ↓bd, Nat.reduceEqDiff, Nat.reduceAdd, Nat.reduceMul, Nat.reduceLeDiff, Nat.reduceLT, ↓reduceIte, reduceCtorEq, Nat.reduceBeqDiff, Nat.reduceBneDiff, Int.reduceBNe, Int.reduceBEq, Int.reduceEq, Int.reduceLT, Int.reduceLE, Int.reduceAdd, Int.reduceSub, Int.reduceMul, Int.reduceNeg, List.reduceReplicate, Int.reduceToNat]
def idxB : List Pr → Int → Int
  | [], _ => -1
  | p :: l, i => if badP p = true then i else idxB l (i + 1)
theorem idxB_good : ∀ (l : List Pr) (i : Int), 0 ≤ i → (idxB l i < 0 ↔ ∀ p, p ∈ l → badP p = false)
  | [], i, h => by simp [idxB]
  | p :: l, i, h => by
    unfold idxB
    have ih := idxB_good l (i + 1) (by omega)
    cases hb : badP p with
    | true => simp [hb]; omega
    | false => simp [hb, ih]
section
variable {fn : FuncId} {T : Nat → AV} {ds : List ADef} {ro : Option Nat} {k : List AItem} {Q : AV → AHeap → Prop} {dst : Option Nat} {os : List AO} {H : AHeap}
def PI (l : List Pr) (H : AHeap) (Q : AV → AHeap → Prop) (i : Nat) : Prop :=
  ∀ (T : Nat → AV), T 0 = .vec 6 (l.map encP) → T 1 = .fn 19 [] [] → T 7 = .int .i64 ((l.map encP).length : Int) → T 8 = .int .i64 (i : Int) →
    Run Cx 32 T [] none [.inLoop c32_7, .inBlock 0, .code c32_25] H Q
theorem pi_all {l : List Pr} {H : AHeap} {Q : AV → AHeap → Prop} (hl : l.length ≤ 100000) : ∀ (j i : Nat), i + j = l.length → Q (.int .i64 (idxB (l.drop i) (i : Int))) H → PI l H Q i
  | 0, i, hij, hQ => by
    intro T t0 t1 t7 t8
    rw [run_inLoop]
    have h0 : ((i : Int) < ((l.map encP).length : Int)) = False := eq_false (by rw [List.length_map]; omega)
    rw [List.drop_of_length_le (show l.length ≤ i by omega)] at hQ
    have hQ' : Q (.int .i64 (-1)) H := hQ
    simp only [t0, t1, t7, t8, h0, xx, r32_0, r32_1, r32_2, r32_3, res32, tt, bb, bc, ↓bd, Nat.reduceEqDiff, Nat.reduceAdd, Nat.reduceMul, Nat.reduceLeDiff, Nat.reduceLT, ↓reduceIte, reduceCtorEq, Nat.reduceBeqDiff, Nat.reduceBneDiff, Int.reduceBNe, Int.reduceBEq, Int.reduceEq, Int.reduceLT, Int.reduceLE, Int.reduceAdd, Int.reduceSub, Int.reduceMul, Int.reduceNeg, List.reduceReplicate, Int.reduceToNat]
    exact hQ'
  | j + 1, i, hij, hQ => by
    intro T t0 t1 t7 t8
    rw [run_inLoop]
    have hi : i < l.length := by omega
    have h0 : ((i : Int) < ((l.map encP).length : Int)) = True := eq_true (by rw [List.length_map]; omega)
    have hi0 : (0 : Int) ≤ (i : Int) := by omega
    have hg := enc_get (List.getElem?_eq_getElem hi)
    have hb := bad_ok l[i]
    have w1 : IntKind.i64.wrap ((i : Int) + 1) = ((i + 1 : Nat) : Int) := by rw [wr64 (by omega) (by omega)]; omega
    rw [List.drop_eq_getElem_cons hi] at hQ
    unfold idxB at hQ
    cases hbb : badP l[i] with
    | true =>
      rw [if_pos hbb] at hQ
      rw [hbb] at hb
      simp only [t0, t1, t7, t8, h0, hi0, hg, Int.toNat_natCast, call_pure pure19 rfl hb, xx, r32_0, r32_1, r32_2, r32_3, res32, tt, bb, bc, ↓bd, Nat.reduceEqDiff, Nat.reduceAdd, Nat.reduceMul, Nat.reduceLeDiff, Nat.reduceLT, ↓reduceIte, reduceCtorEq, Nat.reduceBeqDiff, Nat.reduceBneDiff, Int.reduceBNe, Int.reduceBEq, Int.reduceEq, Int.reduceLT, Int.reduceLE, Int.reduceAdd, Int.reduceSub, Int.reduceMul, Int.reduceNeg, List.reduceReplicate, Int.reduceToNat]
      exact hQ
    | false =>
      rw [if_neg (by rw [hbb]; simp)] at hQ
      rw [hbb] at hb
      simp only [t0, t1, t7, t8, h0, hi0, hg, w1, Int.toNat_natCast, call_pure pure19 rfl hb, xx, r32_0, r32_1, r32_2, r32_3, res32, tt, bb, bc, ↓bd, Nat.reduceEqDiff, Nat.reduceAdd, Nat.reduceMul, Nat.reduceLeDiff, Nat.reduceLT, ↓reduceIte, reduceCtorEq, Nat.reduceBeqDiff, Nat.reduceBneDiff, Int.reduceBNe, Int.reduceBEq, Int.reduceEq, Int.reduceLT, Int.reduceLE, Int.reduceAdd, Int.reduceSub, Int.reduceMul, Int.reduceNeg, List.reduceReplicate, Int.reduceToNat]
      refine pi_all hl j (i + 1) (by omega) (by rw [show ((i + 1 : Nat) : Int) = (i : Int) + 1 by omega]; exact hQ) _ ?_ ?_ ?_ ?_
      all_goals simp only [upd_app, t0, t1, t7, Nat.reduceEqDiff, ↓reduceIte]
theorem IndexFunc_call {v : AV} {l : List Pr} (hv : InL v l) (hl : l.length ≤ 100000) (hk : RunOps Cx fn (putA T dst (.int .i64 (idxB l 0))) ds ro os k H Q) :
    RunCall Cx fn T ds ro 32 [v, .fn 19 [] []] dst os k H Q := by
  refine call_body pure32 (noext _) body32 ?_
  rcases hv with ⟨rfl, rfl⟩ | rfl
  · have hk' : RunOps Cx fn (putA T dst (.int .i64 (-1))) ds ro os k H Q := hk
    simp only [xx, run_inLoop, r32_0, r32_1, r32_2, r32_3, res32, tt, bb, bc, ↓bd, Nat.reduceEqDiff, Nat.reduceAdd, Nat.reduceMul, Nat.reduceLeDiff, Nat.reduceLT, ↓reduceIte, reduceCtorEq, Nat.reduceBeqDiff, Nat.reduceBneDiff, Int.reduceBNe, Int.reduceBEq, Int.reduceEq, Int.reduceLT, Int.reduceLE, Int.reduceAdd, Int.reduceSub, Int.reduceMul, Int.reduceNeg, List.reduceReplicate, Int.reduceToNat]
    exact hk'
  · have hp := pi_all (H := H) (Q := fun r H1 => RunOps Cx fn (putA T dst r) ds ro os k H1 Q) hl l.length 0 (by omega) (by rw [List.drop_zero]; exact hk)
    simp only [r32_0.1, r32_0.2.1, r32_0.2.2.1, r32_0.2.2.2.1, r32_0.2.2.2.2.1, r32_0.2.2.2.2.2.1, r32_0.2.2.2.2.2.2.1, r32_1, r32_2, r32_3.1, r32_3.2.2.1, r32_3.2.2.2, res32, tt, bb, bc, ↓bd, Nat.reduceEqDiff, Nat.reduceAdd, Nat.reduceMul, Nat.reduceLeDiff, Nat.reduceLT, ↓reduceIte, reduceCtorEq, Nat.reduceBeqDiff, Nat.reduceBneDiff, Int.reduceBNe, Int.reduceBEq, Int.reduceEq, Int.reduceLT, Int.reduceLE, Int.reduceAdd, Int.reduceSub, Int.reduceMul, Int.reduceNeg, List.reduceReplicate, Int.reduceToNat]
    refine hp _ ?_ ?_ ?_ ?_
    all_goals simp only [upd_app, enterT, List.getElem?_cons_zero, List.getElem?_cons_succ, Option.getD_some, Nat.reduceEqDiff, ↓reduceIte]
    all_goals rfl
end
def rightL (l : List Pr) : Bool := decide (idxB l 0 < 0)
theorem rightL_iff (l : List Pr) : rightL l = true ↔ ∀ p, p ∈ l → badP p = false := by
  unfold rightL
  rw [decide_eq_true_eq]
  exact idxB_good l 0 (by omega)
theorem pRight_ok {v : AV} {l : List Pr} (hv : InL v l) (hl : l.length ≤ 100000) : PCall Cx 7 [v] (.bool (rightL l)) := by
  refine pcall_run (noext _) body7 ?_
  have e : (!decide (0 ≤ idxB l 0)) = rightL l := by
    unfold rightL
    rw [Bool.eq_iff_iff]
    simp
  simp only [r7_0, res7, tt, bb, bc, ↓bd, Nat.reduceEqDiff, Nat.reduceAdd, Nat.reduceMul, Nat.reduceLeDiff, Nat.reduceLT, ↓reduceIte, reduceCtorEq, Nat.reduceBeqDiff, Nat.reduceBneDiff, Int.reduceBNe, Int.reduceBEq, Int.reduceEq, Int.reduceLT, Int.reduceLE, Int.reduceAdd, Int.reduceSub, Int.reduceMul, Int.reduceNeg, List.reduceReplicate, Int.reduceToNat]
  refine call_body pure18 (noext _) body18 ?_
  simp only [r18_0, res18, tt, bb, bc, ↓bd, Nat.reduceEqDiff, Nat.reduceAdd, Nat.reduceMul, Nat.reduceLeDiff, Nat.reduceLT, ↓reduceIte, reduceCtorEq, Nat.reduceBeqDiff, Nat.reduceBneDiff, Int.reduceBNe, Int.reduceBEq, Int.reduceEq, Int.reduceLT, Int.reduceLE, Int.reduceAdd, Int.reduceSub, Int.reduceMul, Int.reduceNeg, List.reduceReplicate, Int.reduceToNat]
  refine IndexFunc_call hv hl ?_
  simp only [e, r7_0, res7, r18_0, res18, tt, bb, bc, ↓bd, Nat.reduceEqDiff, Nat.reduceAdd, Nat.reduceMul, Nat.reduceLeDiff, Nat.reduceLT, ↓reduceIte, reduceCtorEq, Nat.reduceBeqDiff, Nat.reduceBneDiff, Int.reduceBNe, Int.reduceBEq, Int.reduceEq, Int.reduceLT, Int.reduceLE, Int.reduceAdd, Int.reduceSub, Int.reduceMul, Int.reduceNeg, List.reduceReplicate, Int.reduceToNat]
end Go.Proofs.Ytjnopnlgcmlkfaa.G

namespace Go.Proofs.Ytjnopnlgcmlkfaa.G
open Go.BX
set_option linter.unusedSimpArgs false
set_option linter.unusedVariables false
theorem job_goto : gotoA 0 [.code c61_13, .inScope c61_3] = some [.code (.seq .skip c61_5), .inScope c61_3] := by kernel_rfl
def PGc (r : Int) (a b : Int) : Prop :=
  ∀ (T : Nat → AV) (H : AHeap), T 0 = .int .i64 a → T 1 = .int .i64 b → Run Cx 61 T [] none [.code c61_5, .inScope c61_3] H (fun r0 H' => BX.freeze H' r0 = some (.int .i64 r))
theorem maxA2 (a b : Int) : maxA .i64 a [.int .i64 b] = some (max a b) := by
  simp only [maxA, ↓reduceIte, Option.some.injEq]
  split <;> omega
theorem pgc_end {a : Int} (h1 : -9223372036854775807 ≤ a) (h2 : a ≤ 9223372036854775807) : PGc (a.natAbs : Int) a 0 := by
  intro T H t0 t1
  have w : IntKind.i64.wrap (0 - a) = 0 - a := wr64 (by omega) (by omega)
  have e : max a (0 - a) = (a.natAbs : Int) := by omega
  simp only [t0, t1, w, maxA2, e, Option.map_some, runVH_some, bne_self_eq_false, xx, r61_0, r61_1, res61, tt, bb, bc, ↓bd, Nat.reduceEqDiff, Nat.reduceAdd, Nat.reduceMul, Nat.reduceLeDiff, Nat.reduceLT, ↓reduceIte, reduceCtorEq, Nat.reduceBeqDiff, Nat.reduceBneDiff, Int.reduceBNe, Int.reduceBEq, Int.reduceEq, Int.reduceLT, Int.reduceLE, Int.reduceAdd, Int.reduceSub, Int.reduceMul, Int.reduceNeg, List.reduceReplicate, Int.reduceToNat]
theorem tmod_in {a b : Int} (hb : b ≠ 0) : (a.tmod b).natAbs < b.natAbs := by
  rw [Int.natAbs_tmod]
  exact Nat.mod_lt _ (by omega)
theorem pgc_all : ∀ (m : Nat) (a b : Int), b.natAbs ≤ m → a.natAbs ≤ 4611686018427387904 → b.natAbs ≤ 4611686018427387904 → PGc (Int.gcd a b : Int) a b := by
  intro m
  induction m with
  | zero =>
    intro a b hm ha hb
    have : b = 0 := by omega
    subst this
    rw [Int.gcd_zero_right]
    exact pgc_end (by omega) (by omega)
  | succ m ih =>
    intro a b hm ha hb
    by_cases h0 : b = 0
    · subst h0
      rw [Int.gcd_zero_right]
      exact pgc_end (by omega) (by omega)
    · have hlt := tmod_in (a := a) h0
      have hg : Int.gcd b (a.tmod b) = Int.gcd a b := by
        unfold Int.gcd
        rw [Int.natAbs_tmod, Nat.gcd_comm a.natAbs b.natAbs, Nat.gcd_rec b.natAbs a.natAbs, Nat.gcd_comm]
      have hp := ih b (a.tmod b) (by omega) hb (by omega)
      rw [hg] at hp
      intro T H t0 t1
      have e0 : (b != 0) = true := by simpa using h0
      have w : IntKind.i64.wrap (a.tmod b) = a.tmod b := wr64 (by omega) (by omega)
      have z : (b = 0) = False := eq_false h0
      simp only [t0, t1, e0, w, z, xx, r61_0, r61_1, res61, tt, bb, bc, ↓bd, Nat.reduceEqDiff, Nat.reduceAdd, Nat.reduceMul, Nat.reduceLeDiff, Nat.reduceLT, ↓reduceIte, reduceCtorEq, Nat.reduceBeqDiff, Nat.reduceBneDiff, Int.reduceBNe, Int.reduceBEq, Int.reduceEq, Int.reduceLT, Int.reduceLE, Int.reduceAdd, Int.reduceSub, Int.reduceMul, Int.reduceNeg, List.reduceReplicate, Int.reduceToNat]
      unfold c61_11
      rw [run_goto job_goto, run_seq, run_skip]
      refine hp _ _ ?_ ?_
      all_goals simp only [upd_app, Nat.reduceEqDiff, ↓reduceIte]
theorem common_ok (a b : Int) (ha : a.natAbs ≤ 4611686018427387904) (hb : b.natAbs ≤ 4611686018427387904) : PCall Cx 61 [.int .i64 a, .int .i64 b] (.int .i64 (Int.gcd a b : Int)) := by
  refine pcall_run (noext _) body61 ?_
  simp only [xx, r61_0.1, r61_0.2.1, r61_0.2.2.1, r61_0.2.2.2.1, r61_0.2.2.2.2.1, r61_0.2.2.2.2.2.2.1, r61_0.2.2.2.2.2.2.2, r61_1, res61, tt, bb, bc, ↓bd, Nat.reduceEqDiff, Nat.reduceAdd, Nat.reduceMul, Nat.reduceLeDiff, Nat.reduceLT, ↓reduceIte, reduceCtorEq, Nat.reduceBeqDiff, Nat.reduceBneDiff, Int.reduceBNe, Int.reduceBEq, Int.reduceEq, Int.reduceLT, Int.reduceLE, Int.reduceAdd, Int.reduceSub, Int.reduceMul, Int.reduceNeg, List.reduceReplicate, Int.reduceToNat]
  refine pgc_all b.natAbs a b (Nat.le_refl _) ha hb _ _ ?_ ?_
  all_goals simp only [upd_app, enterT, List.getElem?_cons_zero, List.getElem?_cons_succ, Option.getD_some, Nat.reduceEqDiff, ↓reduceIte]
def wrapM (n L : Int) : Int := if n < -L then n + 2 * L else if L ≤ n then n - 2 * L else n
theorem wrapped_ok (n L : Int) (hL : 0 < L ∧ L ≤ 9007199254740992) (hn : -(2 * L) ≤ n ∧ n ≤ 2 * L) : PCall Cx 60 [.int .i64 n, .int .i64 L] (.int .i64 (wrapM n L)) := by
  refine pcall_run (noext _) body60 ?_
  have w1 : IntKind.i64.wrap (0 - L) = -L := by rw [wr64 (by omega) (by omega)]; omega
  have w2 : IntKind.i64.wrap (2 * L) = 2 * L := wr64 (by omega) (by omega)
  unfold wrapM
  by_cases h1 : n < -L
  · have w3 : IntKind.i64.wrap (n + 2 * L) = n + 2 * L := wr64 (by omega) (by omega)
    simp only [h1, w1, w2, w3, xx, r60_0, r60_1, r60_2, res60, tt, bb, bc, ↓bd, Nat.reduceEqDiff, Nat.reduceAdd, Nat.reduceMul, Nat.reduceLeDiff, Nat.reduceLT, ↓reduceIte, reduceCtorEq, Nat.reduceBeqDiff, Nat.reduceBneDiff, Int.reduceBNe, Int.reduceBEq, Int.reduceEq, Int.reduceLT, Int.reduceLE, Int.reduceAdd, Int.reduceSub, Int.reduceMul, Int.reduceNeg, List.reduceReplicate, Int.reduceToNat]
  · by_cases h2 : L ≤ n
    · have w3 : IntKind.i64.wrap (n - 2 * L) = n - 2 * L := wr64 (by omega) (by omega)
      simp only [h1, h2, w1, w2, w3, xx, r60_0, r60_1, r60_2, res60, tt, bb, bc, ↓bd, Nat.reduceEqDiff, Nat.reduceAdd, Nat.reduceMul, Nat.reduceLeDiff, Nat.reduceLT, ↓reduceIte, reduceCtorEq, Nat.reduceBeqDiff, Nat.reduceBneDiff, Int.reduceBNe, Int.reduceBEq, Int.reduceEq, Int.reduceLT, Int.reduceLE, Int.reduceAdd, Int.reduceSub, Int.reduceMul, Int.reduceNeg, List.reduceReplicate, Int.reduceToNat]
    · simp only [h1, h2, w1, w2, xx, r60_0, r60_1, r60_2, res60, tt, bb, bc, ↓bd, Nat.reduceEqDiff, Nat.reduceAdd, Nat.reduceMul, Nat.reduceLeDiff, Nat.reduceLT, ↓reduceIte, reduceCtorEq, Nat.reduceBeqDiff, Nat.reduceBneDiff, Int.reduceBNe, Int.reduceBEq, Int.reduceEq, Int.reduceLT, Int.reduceLE, Int.reduceAdd, Int.reduceSub, Int.reduceMul, Int.reduceNeg, List.reduceReplicate, Int.reduceToNat]
end Go.Proofs.Ytjnopnlgcmlkfaa.G

namespace Go.Proofs.Ytjnopnlgcmlkfaa.G
open Go.BX
set_option linter.unusedSimpArgs false
structure IsCmp {α : Type} (c : α → α → Int) : Prop where
  rng : ∀ a b, c a b = -1 ∨ c a b = 0 ∨ c a b = 1
  anti : ∀ a b, c b a = - c a b
  zero : ∀ a b, c a b = 0 ↔ a = b
  trans : ∀ a b d, c a b ≤ 0 → c b d ≤ 0 → c a d ≤ 0
theorem cmpI_cmp : IsCmp cmpI where
  rng a b := by
    unfold cmpI
    split
    · exact .inl rfl
    · split
      · exact .inr (.inr rfl)
      · exact .inr (.inl rfl)
  anti a b := by
    unfold cmpI
    rcases Int.lt_trichotomy a b with h | h | h
    · rw [if_neg (by omega), if_pos h, if_pos h]; rfl
    · subst h; simp
    · rw [if_pos h, if_neg (by omega), if_pos h]
  zero a b := by
    unfold cmpI
    rcases Int.lt_trichotomy a b with h | h | h
    · rw [if_pos h]; constructor <;> intro h2 <;> omega
    · subst h; simp
    · rw [if_neg (by omega), if_pos h]; constructor <;> intro h2 <;> omega
  trans a b d h1 h2 := by
    unfold cmpI at *
    split at h1 <;> split at h2 <;> split <;> (try split at h1) <;> (try split at h2) <;> (try split) <;> omega
theorem u8_lt_trichotomy (x y : UInt8) : x < y ∨ x = y ∨ y < x := by
  rcases Nat.lt_trichotomy x.toNat y.toNat with h | h | h
  · exact .inl h
  · exact .inr (.inl (UInt8.toNat_inj.mp h))
  · exact .inr (.inr h)
theorem cmpL_rng : ∀ a b, cmpL a b = -1 ∨ cmpL a b = 0 ∨ cmpL a b = 1
  | [], [] => by simp [cmpL]
  | [], _ :: _ => by simp [cmpL]
  | _ :: _, [] => by simp [cmpL]
  | x :: xs, y :: ys => by
    unfold cmpL
    have ih := cmpL_rng xs ys
    split
    · exact ih
    · split
      · exact .inl rfl
      · exact .inr (.inr rfl)
theorem cmpL_anti : ∀ a b, cmpL b a = - cmpL a b
  | [], [] => by simp [cmpL]
  | [], _ :: _ => by simp [cmpL]
  | _ :: _, [] => by simp [cmpL]
  | x :: xs, y :: ys => by
    have ih := cmpL_anti xs ys
    unfold cmpL
    rcases u8_lt_trichotomy x y with h | h | h
    · have h1 : ¬ x = y := fun e => by subst e; exact absurd h (UInt8.lt_irrefl _)
      have h2 : ¬ y < x := fun e => absurd (UInt8.lt_trans h e) (UInt8.lt_irrefl _)
      rw [if_neg (fun e => h1 e.symm), if_neg h2, if_neg h1, if_pos h]; rfl
    · subst h; simp [ih]
    · have h1 : ¬ x = y := fun e => by subst e; exact absurd h (UInt8.lt_irrefl _)
      have h2 : ¬ x < y := fun e => absurd (UInt8.lt_trans h e) (UInt8.lt_irrefl _)
      rw [if_neg (fun e => h1 e.symm), if_pos h, if_neg h1, if_neg h2]
theorem cmpL_zero : ∀ a b, cmpL a b = 0 ↔ a = b
  | [], [] => by simp [cmpL]
  | [], _ :: _ => by simp [cmpL]
  | _ :: _, [] => by simp [cmpL]
  | x :: xs, y :: ys => by
    have ih := cmpL_zero xs ys
    unfold cmpL
    by_cases h : x = y
    · subst h; simp [ih]
    · rw [if_neg h]
      split <;> simp [h]
theorem cmpL_trans : ∀ a b d, cmpL a b ≤ 0 → cmpL b d ≤ 0 → cmpL a d ≤ 0
  | [], _, [] => by simp [cmpL]
  | [], _, _ :: _ => by simp [cmpL]
  | _ :: _, [], _ => by simp [cmpL]
  | _ :: _, _ :: _, [] => by simp [cmpL]
  | x :: xs, y :: ys, z :: zs => by
    have ih := cmpL_trans xs ys zs
    unfold cmpL
    intro h1 h2
    by_cases hxy : x = y
    · subst hxy
      rw [if_pos rfl] at h1
      by_cases hz : x = z
      · subst hz
        rw [if_pos rfl] at h2 ⊢
        exact ih h1 h2
      · rw [if_neg hz] at h2 ⊢
        exact h2
    · rw [if_neg hxy] at h1
      have hlt : x < y := by
        by_cases h : x < y
        · exact h
        · rw [if_neg h] at h1; omega
      by_cases hyz : y = z
      · subst hyz
        rw [if_neg hxy, if_pos hlt]; omega
      · rw [if_neg hyz] at h2
        have hlt2 : y < z := by
          by_cases h : y < z
          · exact h
          · rw [if_neg h] at h2; omega
        have hxz := UInt8.lt_trans hlt hlt2
        have hne : ¬ x = z := fun e => by subst e; exact absurd hxz (UInt8.lt_irrefl _)
        rw [if_neg hne, if_pos hxz]; omega
theorem cmpL_cmp : IsCmp cmpL := ⟨cmpL_rng, cmpL_anti, cmpL_zero, cmpL_trans⟩
theorem lex_cmp {α β : Type} {c : α → α → Int} {d : β → β → Int} (hc : IsCmp c) (hd : IsCmp d) : IsCmp (fun (a b : α × β) => oc (c a.1 b.1) (d a.2 b.2)) where
  rng a b := by
    unfold oc
    split
    · exact hd.rng _ _
    · exact hc.rng _ _
  anti a b := by
    unfold oc
    have h1 := hc.anti a.1 b.1
    have h2 := hd.anti a.2 b.2
    by_cases h : c a.1 b.1 = 0
    · rw [if_pos h, if_pos (by omega), h2]
    · rw [if_neg h, if_neg (by omega), h1]
  zero a b := by
    unfold oc
    have h1 := hc.zero a.1 b.1
    have h2 := hd.zero a.2 b.2
    by_cases h : c a.1 b.1 = 0
    · rw [if_pos h, h2]
      constructor
      · intro e; exact Prod.ext (h1.mp h) e
      · intro e; rw [e]
    · rw [if_neg h]
      constructor
      · intro e; exact absurd e h
      · intro e; exact h1.mpr (by rw [e])
  trans a b e h1 h2 := by
    unfold oc at *
    by_cases g1 : c a.1 b.1 = 0
    · have e1 := (hc.zero _ _).mp g1
      rw [if_pos g1] at h1
      rw [e1]
      by_cases g2 : c b.1 e.1 = 0
      · rw [if_pos g2] at h2 ⊢
        exact hd.trans _ _ _ h1 h2
      · rw [if_neg g2] at h2 ⊢
        exact h2
    · rw [if_neg g1] at h1
      by_cases g2 : c b.1 e.1 = 0
      · have e2 := (hc.zero _ _).mp g2
        rw [← e2, if_neg g1]
        exact h1
      · rw [if_neg g2] at h2
        have h3 := hc.trans _ _ _ h1 h2
        have h4 : c a.1 e.1 ≠ 0 := by
          intro h0
          have e0 := (hc.zero _ _).mp h0
          have := hc.anti b.1 e.1
          rw [← e0] at this h2 g2
          omega
        rw [if_neg h4]; exact h3
abbrev V5 := Int × Int × Bytes × Int × Int
theorem ord_cmp : IsCmp (fun (a b : V5) => ordV a.1 a.2.1 a.2.2.1 a.2.2.2.1 a.2.2.2.2 b.1 b.2.1 b.2.2.1 b.2.2.2.1 b.2.2.2.2) :=
  lex_cmp cmpI_cmp (lex_cmp cmpI_cmp (lex_cmp cmpL_cmp (lex_cmp cmpI_cmp cmpI_cmp)))
end Go.Proofs.Ytjnopnlgcmlkfaa.G
namespace Go.Proofs.Ytjnopnlgcmlkfaa.G.Od
open Go.BX
set_option linter.unusedSimpArgs false
set_option linter.unusedVariables false
theorem right_cases {k n : Int} {s : Bytes} {x y : Int} (h : rightV k n s x y = true) :
    (k = 0 ∧ (-9007199254740992 ≤ n ∧ n ≤ 9007199254740992) ∧ s = [] ∧ x = 0 ∧ y = 0) ∨ (k = 1 ∧ s.length ≤ 4096 ∧ n = 0 ∧ x = 0 ∧ y = 0) ∨ (k = 2 ∧ (inR x = true ∧ inR y = true) ∧ n = 0 ∧ s = []) := by
  unfold rightV at h
  split at h
  · rename_i h0
    simp at h
    exact .inl ⟨h0, ⟨h.1.1.1, h.1.1.2⟩, h.1.2, h.2.1, h.2.2⟩
  · split at h
    · rename_i h1
      simp at h
      exact .inr (.inl ⟨h1, by omega, h.1.2, h.2.1, h.2.2⟩)
    · split at h
      · rename_i h2
        simp at h
        exact .inr (.inr ⟨h2, h.1.1, h.1.2, h.2⟩)
      · cases h
theorem inR_iff {x : Int} : inR x = true ↔ -16777216 ≤ x ∧ x ≤ 16777216 := by simp [inR]
end Go.Proofs.Ytjnopnlgcmlkfaa.G.Od

namespace Go.Proofs.Ytjnopnlgcmlkfaa.G.Gs
open Go.BX
set_option linter.unusedSimpArgs false
abbrev spot (x y : Int) : AV := .agg [.int .i64 x, .int .i64 y]
def inR (n : Int) : Bool := decide (-16777216 ≤ n) && decide (n ≤ 16777216)
theorem inside_ok (x : Int) : PCall Cx 55 [.int .i64 x] (.bool (inR x)) := by
  refine pcall_run (noext _) body55 ?_
  by_cases h : -16777216 ≤ x <;>
  simp only [h, inR, r55_0, res55, bb, bc, ↓bd, Nat.reduceEqDiff, Nat.reduceAdd, Nat.reduceMul, Nat.reduceLeDiff, Nat.reduceLT, ↓reduceIte, reduceCtorEq, Nat.reduceBeqDiff, Nat.reduceBneDiff, Int.reduceBNe, Int.reduceBEq, Int.reduceEq, Int.reduceLT, Int.reduceLE, Int.reduceAdd, Int.reduceSub, Int.reduceMul, Int.reduceNeg, List.reduceReplicate, Int.reduceToNat]
theorem inside_call {x : Int} {fn : FuncId} {T : Nat → AV} {ds : List ADef} {ro : Option Nat} {dst : Option Nat} {os : List AO} {k : List AItem} {H : AHeap} {Q : AV → AHeap → Prop} :
    RunCall Cx fn T ds ro 55 [.int .i64 x] dst os k H Q = RunOps Cx fn (putA T dst (.bool (inR x))) ds ro os k H Q := call_pure pure55 rfl (inside_ok x)
theorem Right_ok (x y : Int) : PCall Cx 33 [spot x y] (.bool (inR x && inR y)) := by
  refine pcall_run (noext _) body33 ?_
  by_cases h : inR x = true
  · simp only [h, spot, inside_call, r33_0, res33, tt, bb, bc, ↓bd, Nat.reduceEqDiff, Nat.reduceAdd, Nat.reduceMul, Nat.reduceLeDiff, Nat.reduceLT, ↓reduceIte, reduceCtorEq, Nat.reduceBeqDiff, Nat.reduceBneDiff, Int.reduceBNe, Int.reduceBEq, Int.reduceEq, Int.reduceLT, Int.reduceLE, Int.reduceAdd, Int.reduceSub, Int.reduceMul, Int.reduceNeg, List.reduceReplicate, Int.reduceToNat]
  · simp only [Bool.not_eq_true] at h
    simp only [h, spot, inside_call, r33_0, res33, tt, bb, bc, ↓bd, Nat.reduceEqDiff, Nat.reduceAdd, Nat.reduceMul, Nat.reduceLeDiff, Nat.reduceLT, ↓reduceIte, reduceCtorEq, Nat.reduceBeqDiff, Nat.reduceBneDiff, Int.reduceBNe, Int.reduceBEq, Int.reduceEq, Int.reduceLT, Int.reduceLE, Int.reduceAdd, Int.reduceSub, Int.reduceMul, Int.reduceNeg, List.reduceReplicate, Int.reduceToNat]
end Go.Proofs.Ytjnopnlgcmlkfaa.G.Gs

namespace Go.Proofs.Ytjnopnlgcmlkfaa.G.Gs
open Go.BX
set_option linter.unusedSimpArgs false
theorem wr64 {n : Int} (h1 : -9223372036854775808 ≤ n) (h2 : n ≤ 9223372036854775807) : IntKind.i64.wrap n = n := by
  rw [IntKind.wrap_i64]; omega
def nr (n d : Int) : Int := (2 * n + d) / (2 * d)
theorem tdiv_floor {a b : Int} (hb : 0 < b) : a / b = if a.tmod b < 0 then a.tdiv b - 1 else a.tdiv b := by
  have e := Int.tmod_add_mul_tdiv a b
  have h1 := Int.tmod_lt_of_pos a hb
  have h2 : -b < a.tmod b := by
    have := Int.tmod_lt_of_pos (-a) hb
    rw [Int.neg_tmod] at this
    omega
  split
  · refine ((Int.ediv_emod_unique (r := a.tmod b + b) hb).mpr ⟨?_, by omega, by omega⟩).1
    rw [Int.mul_sub]; omega
  · exact ((Int.ediv_emod_unique (r := a.tmod b) hb).mpr ⟨e, by omega, by omega⟩).1
theorem nearest_ok (n d : Int) (hn : -1125899906842624 ≤ n ∧ n ≤ 1125899906842624) (hd : 0 < d ∧ d ≤ 1125899906842624) : PCall Cx 80 [.int .i64 n, .int .i64 d] (.int .i64 (nr n d)) := by
  refine pcall_run (noext _) body80 ?_
  have w1 : IntKind.i64.wrap (2 * n) = 2 * n := wr64 (by omega) (by omega)
  have w2 : IntKind.i64.wrap (2 * n + d) = 2 * n + d := wr64 (by omega) (by omega)
  have w3 : IntKind.i64.wrap (2 * d) = 2 * d := wr64 (by omega) (by omega)
  have h0 : (2 * d = 0) = False := by simp; omega
  have hf := tdiv_floor (a := 2 * n + d) (b := 2 * d) (by omega)
  have e := Int.tmod_add_mul_tdiv (2 * n + d) (2 * d)
  have hb : -9223372036854775808 ≤ (2 * n + d).tdiv (2 * d) - 1 ∧ (2 * n + d).tdiv (2 * d) ≤ 9223372036854775807 := by
    have u1 : (2 * n + d) / (2 * d) ≤ 4503599627370496 := Int.ediv_le_of_le_mul (by omega) (by omega)
    have u2 : -4503599627370496 ≤ (2 * n + d) / (2 * d) := Int.le_ediv_of_mul_le (by omega) (by omega)
    rw [hf] at u1 u2
    split at u1 <;> simp_all <;> omega
  have w4 : IntKind.i64.wrap ((2 * n + d).tdiv (2 * d)) = (2 * n + d).tdiv (2 * d) := wr64 (by omega) (by omega)
  have w5 : IntKind.i64.wrap ((2 * n + d).tdiv (2 * d) - 1) = (2 * n + d).tdiv (2 * d) - 1 := wr64 (by omega) (by omega)
  by_cases h : (2 * n + d).tmod (2 * d) < 0
  · simp only [h, w1, w2, w3, w4, w5, h0, nr, hf, r80_0, r80_1, res80, bb, bc, ↓bd, Nat.reduceEqDiff, Nat.reduceAdd, Nat.reduceMul, Nat.reduceLeDiff, Nat.reduceLT, ↓reduceIte, reduceCtorEq, Nat.reduceBeqDiff, Nat.reduceBneDiff, Int.reduceBNe, Int.reduceBEq, Int.reduceEq, Int.reduceLT, Int.reduceLE, Int.reduceAdd, Int.reduceSub, Int.reduceMul, Int.reduceNeg, List.reduceReplicate, Int.reduceToNat]
  · simp only [h, w1, w2, w3, w4, w5, h0, nr, hf, r80_0, r80_1, res80, bb, bc, ↓bd, Nat.reduceEqDiff, Nat.reduceAdd, Nat.reduceMul, Nat.reduceLeDiff, Nat.reduceLT, ↓reduceIte, reduceCtorEq, Nat.reduceBeqDiff, Nat.reduceBneDiff, Int.reduceBNe, Int.reduceBEq, Int.reduceEq, Int.reduceLT, Int.reduceLE, Int.reduceAdd, Int.reduceSub, Int.reduceMul, Int.reduceNeg, List.reduceReplicate, Int.reduceToNat]
end Go.Proofs.Ytjnopnlgcmlkfaa.G.Gs

namespace Go.Proofs.Ytjnopnlgcmlkfaa.G.Gs
open Go.BX
set_option linter.unusedSimpArgs false
theorem inR_iff {x : Int} : inR x = true ↔ -16777216 ≤ x ∧ x ≤ 16777216 := by simp [inR]
theorem fits_of {x : Int} (h : -9007199254740992 ≤ x ∧ x ≤ 9007199254740992) : fits x = true := by simp [fits]; omega
theorem number_ok' (x y : Int) (fx : fits x = true) (fy : fits y = true) : PCall Cx 78 [spot x y] (.cpx x y) := by
  refine pcall_run (noext _) body78 ?_
  simp only [fx, fy, r78_0, res78, tt, bb, bc, ↓bd, Nat.reduceEqDiff, Nat.reduceAdd, Nat.reduceMul, Nat.reduceLeDiff, Nat.reduceLT, ↓reduceIte, reduceCtorEq, Nat.reduceBeqDiff, Nat.reduceBneDiff, Int.reduceBNe, Int.reduceBEq, Int.reduceEq, Int.reduceLT, Int.reduceLE, Int.reduceAdd, Int.reduceSub, Int.reduceMul, Int.reduceNeg, List.reduceReplicate, Int.reduceToNat]
theorem mulB {a b M : Int} {A : Int} (ha : -A ≤ a ∧ a ≤ A) (hb : -M ≤ b ∧ b ≤ M) : -(A * M) ≤ a * b ∧ a * b ≤ A * M := by
  have h1 := Int.mul_nonneg (a := A - a) (b := M - b) (by omega) (by omega)
  have h2 := Int.mul_nonneg (a := A + a) (b := M + b) (by omega) (by omega)
  have h3 := Int.mul_nonneg (a := A - a) (b := M + b) (by omega) (by omega)
  have h4 := Int.mul_nonneg (a := A + a) (b := M - b) (by omega) (by omega)
  simp only [Int.sub_mul, Int.mul_sub, Int.add_mul, Int.mul_add] at h1 h2 h3 h4
  omega
def nrm (x y : Int) : Int := x * x + y * y
theorem nrm_bound {x y : Int} (hx : inR x = true) (hy : inR y = true) : 0 ≤ x * x ∧ 0 ≤ y * y ∧ x * x ≤ 281474976710656 ∧ y * y ≤ 281474976710656 := by
  rw [inR_iff] at hx hy
  have h1 := mulB hx hx
  have h2 := mulB hy hy
  have h3 : 0 ≤ x * x := by rcases Int.le_total 0 x with h | h
                            · exact Int.mul_nonneg h h
                            · exact Int.mul_nonneg_of_nonpos_of_nonpos h h
  have h4 : 0 ≤ y * y := by rcases Int.le_total 0 y with h | h
                            · exact Int.mul_nonneg h h
                            · exact Int.mul_nonneg_of_nonpos_of_nonpos h h
  omega
theorem norm_ok (x y : Int) (hx : inR x = true) (hy : inR y = true) : PCall Cx 79 [spot x y] (.int .i64 (nrm x y)) := by
  refine pcall_run (noext _) body79 ?_
  obtain ⟨h1, h2, h3, h4⟩ := nrm_bound hx hy
  have w1 : IntKind.i64.wrap (x * x) = x * x := wr64 (by omega) (by omega)
  have w2 : IntKind.i64.wrap (y * y) = y * y := wr64 (by omega) (by omega)
  have w3 : IntKind.i64.wrap (x * x + y * y) = x * x + y * y := wr64 (by omega) (by omega)
  simp only [w1, w2, w3, nrm, r79_0, res79, tt, bb, bc, ↓bd, Nat.reduceEqDiff, Nat.reduceAdd, Nat.reduceMul, Nat.reduceLeDiff, Nat.reduceLT, ↓reduceIte, reduceCtorEq, Nat.reduceBeqDiff, Nat.reduceBneDiff, Int.reduceBNe, Int.reduceBEq, Int.reduceEq, Int.reduceLT, Int.reduceLE, Int.reduceAdd, Int.reduceSub, Int.reduceMul, Int.reduceNeg, List.reduceReplicate, Int.reduceToNat]
end Go.Proofs.Ytjnopnlgcmlkfaa.G.Gs

namespace Go.Proofs.Ytjnopnlgcmlkfaa.G.Gs
open Go.BX
set_option linter.unusedSimpArgs false
def zx (a b c d : Int) : Int := a * c - b * (0 - d)
def zy (a b c d : Int) : Int := a * (0 - d) + b * c
def qX (a b c d : Int) : Int := nr (zx a b c d) (nrm c d)
def qY (a b c d : Int) : Int := nr (zy a b c d) (nrm c d)
def rX (a b c d : Int) : Int := a - (qX a b c d * c - qY a b c d * d)
def rY (a b c d : Int) : Int := b - (qX a b c d * d + qY a b c d * c)
theorem sq_ge (x : Int) : x ≤ x * x ∧ -x ≤ x * x := by
  constructor
  · rcases Int.le_total 1 x with h | h
    · have := Int.mul_nonneg (a := x) (b := x - 1) (by omega) (by omega)
      rw [Int.mul_sub] at this; omega
    · have := Int.mul_nonneg (a := 1 - x) (b := 1 - x) (by omega) (by omega)
      simp only [Int.sub_mul, Int.mul_sub] at this
      rcases Int.le_total x 0 with h0 | h0
      · have := Int.mul_nonneg_of_nonpos_of_nonpos h0 h0; omega
      · have : x = 0 ∨ x = 1 := by omega
        rcases this with rfl | rfl <;> simp
  · rcases Int.le_total x (-1) with h | h
    · have := Int.mul_nonneg (a := -x) (b := -x - 1) (by omega) (by omega)
      simp only [Int.mul_sub, Int.neg_mul, Int.mul_neg, Int.mul_one] at this; omega
    · rcases Int.le_total 0 x with h0 | h0
      · have := Int.mul_nonneg h0 h0; omega
      · have : x = 0 ∨ x = -1 := by omega
        rcases this with rfl | rfl <;> simp
theorem nrm_pos {c d : Int} (h : ¬ (c = 0 ∧ d = 0)) : 0 < nrm c d := by
  have h1 := sq_ge c
  have h2 := sq_ge d
  unfold nrm
  by_cases hc : c = 0
  · have hd : d ≠ 0 := fun e => h ⟨hc, e⟩
    subst hc
    omega
  · omega
theorem z_bound {a b c d : Int} (ha : inR a = true) (hb : inR b = true) : -(16777216 * nrm c d) ≤ a * c - b * (0 - d) ∧ a * c - b * (0 - d) ≤ 16777216 * nrm c d ∧ -(16777216 * nrm c d) ≤ a * (0 - d) + b * c ∧ a * (0 - d) + b * c ≤ 16777216 * nrm c d := by
  rw [inR_iff] at ha hb
  obtain ⟨c1, c2⟩ := sq_ge c
  obtain ⟨d1, d2⟩ := sq_ge d
  have e1 := mulB (A := 16777216) (M := c * c) ha (b := c) (by omega)
  have e2 := mulB (A := 16777216) (M := d * d) hb (b := 0 - d) (by omega)
  have e3 := mulB (A := 16777216) (M := d * d) ha (b := 0 - d) (by omega)
  have e4 := mulB (A := 16777216) (M := c * c) hb (b := c) (by omega)
  unfold nrm
  rw [Int.mul_add]
  omega
theorem nr_bound {n d : Int} (hd : 0 < d) (h : -(16777216 * d) ≤ n ∧ n ≤ 16777216 * d) : -16777216 ≤ nr n d ∧ nr n d ≤ 16777217 := by
  unfold nr
  constructor
  · exact Int.le_ediv_of_mul_le (by omega) (by omega)
  · exact Int.ediv_le_of_le_mul (by omega) (by omega)
theorem div_ok (a b c d : Int) (ha : inR a = true) (hb : inR b = true) (hc : inR c = true) (hd : inR d = true) (h0 : ¬ (c = 0 ∧ d = 0)) :
    PCall Cx 72 [spot a b, spot c d] (.tuple [spot (qX a b c d) (qY a b c d), spot (rX a b c d) (rY a b c d)]) := by
  refine pcall_run (noext _) body72 ?_
  have hp := nrm_pos h0
  have hN := nrm_bound hc hd
  have hNm : nrm c d ≤ 562949953421312 := by unfold nrm; omega
  obtain ⟨z1, z2, z3, z4⟩ := z_bound (c := c) (d := d) ha hb
  have ha' := inR_iff.mp ha
  have hb' := inR_iff.mp hb
  have hc' := inR_iff.mp hc
  have hd' := inR_iff.mp hd
  have m1 := mulB ha' hc'
  have m2 := mulB hb' (b := 0 - d) (M := 16777216) (by omega)
  have m3 := mulB ha' (b := 0 - d) (M := 16777216) (by omega)
  have m4 := mulB hb' hc'
  have q1 : -16777216 ≤ qX a b c d ∧ qX a b c d ≤ 16777217 := nr_bound hp ⟨z1, z2⟩
  have q2 : -16777216 ≤ qY a b c d ∧ qY a b c d ≤ 16777217 := nr_bound hp ⟨z3, z4⟩
  have p1 := mulB (a := qX a b c d) (A := 16777217) (by omega) hc'
  have p2 := mulB (a := qY a b c d) (A := 16777217) (by omega) hd'
  have p3 := mulB (a := qX a b c d) (A := 16777217) (by omega) hd'
  have p4 := mulB (a := qY a b c d) (A := 16777217) (by omega) hc'
  have w1 : IntKind.i64.wrap (0 - d) = 0 - d := wr64 (by omega) (by omega)
  have f0 : fits (0 - d) = true := fits_of (by omega)
  have f1 : fits (a * c) = true := fits_of (by omega)
  have f2 : fits (b * (0 - d)) = true := fits_of (by omega)
  have f3 : fits (a * c - b * (0 - d)) = true := fits_of (by omega)
  have f4 : fits (a * (0 - d)) = true := fits_of (by omega)
  have f5 : fits (b * c) = true := fits_of (by omega)
  have f6 : fits (a * (0 - d) + b * c) = true := fits_of (by omega)
  have fa : fits a = true := fits_of (by omega)
  have fb : fits b = true := fits_of (by omega)
  have fc : fits c = true := fits_of (by omega)
  have fd : fits d = true := fits_of (by omega)
  have fq1 : fits (qX a b c d) = true := fits_of (by omega)
  have fq2 : fits (qY a b c d) = true := fits_of (by omega)
  have g1 : fits (qX a b c d * c) = true := fits_of (by omega)
  have g2 : fits (qY a b c d * d) = true := fits_of (by omega)
  have g3 : fits (qX a b c d * d) = true := fits_of (by omega)
  have g4 : fits (qY a b c d * c) = true := fits_of (by omega)
  have g5 : fits (qX a b c d * c - qY a b c d * d) = true := fits_of (by omega)
  have g6 : fits (qX a b c d * d + qY a b c d * c) = true := fits_of (by omega)
  have g7 : fits (a - (qX a b c d * c - qY a b c d * d)) = true := fits_of (by omega)
  have g8 : fits (b - (qX a b c d * d + qY a b c d * c)) = true := fits_of (by omega)
  have hmin : IntKind.i64.min = -9223372036854775808 := rfl
  have hmax : IntKind.i64.max = 9223372036854775807 := rfl
  have v1 : (-9223372036854775808 ≤ a * c - b * (0 - d) ∧ a * c - b * (0 - d) ≤ 9223372036854775807) = True := eq_true (by omega)
  have v2 : (-9223372036854775808 ≤ a * (0 - d) + b * c ∧ a * (0 - d) + b * c ≤ 9223372036854775807) = True := eq_true (by omega)
  have v3 : (-9223372036854775808 ≤ a - (qX a b c d * c - qY a b c d * d) ∧ a - (qX a b c d * c - qY a b c d * d) ≤ 9223372036854775807) = True := eq_true (by omega)
  have v4 : (-9223372036854775808 ≤ b - (qX a b c d * d + qY a b c d * c) ∧ b - (qX a b c d * d + qY a b c d * c) ≤ 9223372036854775807) = True := eq_true (by omega)
  have e1 : PCall Cx 80 [.int .i64 (a * c - b * (0 - d)), .int .i64 (nrm c d)] (.int .i64 (qX a b c d)) := nearest_ok _ _ (by omega) (by omega)
  have e2 : PCall Cx 80 [.int .i64 (a * (0 - d) + b * c), .int .i64 (nrm c d)] (.int .i64 (qY a b c d)) := nearest_ok _ _ (by omega) (by omega)
  simp only [w1, f0, f1, f2, f3, f4, f5, f6, g1, g2, g3, g4, g5, g6, g7, g8, hmin, hmax, v1, v2, v3, v4, cpxBin, call_pure pure78 rfl (number_ok' a b fa fb), call_pure pure78 rfl (number_ok' c (0 - d) fc f0), call_pure pure78 rfl (number_ok' c d fc fd), call_pure pure78 rfl (number_ok' (qX a b c d) (qY a b c d) fq1 fq2), call_pure pure79 rfl (norm_ok c d hc hd), call_pure pure80 rfl e1, call_pure pure80 rfl e2, rX, rY, r72_0, r72_1, res72, tt, bb, bc, ↓bd, Nat.reduceEqDiff, Nat.reduceAdd, Nat.reduceMul, Nat.reduceLeDiff, Nat.reduceLT, ↓reduceIte, reduceCtorEq, Nat.reduceBeqDiff, Nat.reduceBneDiff, Int.reduceBNe, Int.reduceBEq, Int.reduceEq, Int.reduceLT, Int.reduceLE, Int.reduceAdd, Int.reduceSub, Int.reduceMul, Int.reduceNeg, List.reduceReplicate, Int.reduceToNat]
end Go.Proofs.Ytjnopnlgcmlkfaa.G.Gs

namespace Go.Proofs.Ytjnopnlgcmlkfaa.G.Gs
open Go.BX
set_option linter.unusedSimpArgs false
theorem Right_call {x y : Int} {fn : FuncId} {T : Nat → AV} {ds : List ADef} {ro : Option Nat} {dst : Option Nat} {os : List AO} {k : List AItem} {H : AHeap} {Q : AV → AHeap → Prop} :
    RunCall Cx fn T ds ro 33 [spot x y] dst os k H Q = RunOps Cx fn (putA T dst (.bool (inR x && inR y))) ds ro os k H Q := call_pure pure33 rfl (Right_ok x y)
end Go.Proofs.Ytjnopnlgcmlkfaa.G.Gs
namespace Go.Proofs.Ytjnopnlgcmlkfaa.G.Gs
open Go.BX
set_option linter.unusedSimpArgs false
theorem nr_rest {n d : Int} (hd : 0 < d) : -d ≤ 2 * (n - nr n d * d) ∧ 2 * (n - nr n d * d) ≤ d := by
  unfold nr
  have h1 := Int.emod_nonneg (2 * n + d) (b := 2 * d) (by omega)
  have h2 := Int.emod_lt_of_pos (2 * n + d) (b := 2 * d) (by omega)
  have h3 := Int.emod_add_mul_ediv (2 * n + d) (2 * d)
  generalize (2 * n + d) / (2 * d) = q at *
  generalize (2 * n + d) % (2 * d) = r at *
  have e : 2 * d * q = 2 * (q * d) := by grind
  omega
theorem half {x N : Int} (h : -N ≤ 2 * x ∧ 2 * x ≤ N) : 4 * (x * x) ≤ N * N := by
  have h1 := Int.mul_nonneg (a := N - 2 * x) (b := N + 2 * x) (by omega) (by omega)
  have e : (N - 2 * x) * (N + 2 * x) = N * N - 4 * (x * x) := by grind
  omega
theorem rest_norm {a b c d : Int} (h0 : ¬ (c = 0 ∧ d = 0)) : 2 * nrm (rX a b c d) (rY a b c d) ≤ nrm c d := by
  have hp := nrm_pos h0
  have hx := half (nr_rest (n := zx a b c d) hp)
  have hy := half (nr_rest (n := zy a b c d) hp)
  have e1 : zx a b c d - qX a b c d * nrm c d = c * rX a b c d + d * rY a b c d := by
    unfold zx rX rY nrm; grind
  have e2 : zy a b c d - qY a b c d * nrm c d = c * rY a b c d - d * rX a b c d := by
    unfold zy rX rY nrm; grind
  change 4 * ((zx a b c d - qX a b c d * nrm c d) * (zx a b c d - qX a b c d * nrm c d)) ≤ _ at hx
  change 4 * ((zy a b c d - qY a b c d * nrm c d) * (zy a b c d - qY a b c d * nrm c d)) ≤ _ at hy
  rw [e1] at hx
  rw [e2] at hy
  have e3 : (c * rX a b c d + d * rY a b c d) * (c * rX a b c d + d * rY a b c d) + (c * rY a b c d - d * rX a b c d) * (c * rY a b c d - d * rX a b c d) = nrm c d * nrm (rX a b c d) (rY a b c d) := by
    unfold nrm; grind
  have h2 : nrm c d * (2 * nrm (rX a b c d) (rY a b c d)) ≤ nrm c d * nrm c d := by
    have : nrm c d * (2 * nrm (rX a b c d) (rY a b c d)) = 2 * (nrm c d * nrm (rX a b c d) (rY a b c d)) := by grind
    omega
  exact Int.le_of_mul_le_mul_left h2 hp
theorem nrm_nonneg (x y : Int) : 0 ≤ nrm x y := by
  unfold nrm
  have := sq_ge x
  have := sq_ge y
  omega
end Go.Proofs.Ytjnopnlgcmlkfaa.G.Gs
namespace Go.Proofs.Ytjnopnlgcmlkfaa.G.Gs
open Go.BX
set_option linter.unusedSimpArgs false
def errS : AV := .tuple [spot 0 0, .int .i64 14]
def two (a b c d : Int) (r : AV) : AV := if (inR a && inR b) && (inR c && inR d) then r else errS
end Go.Proofs.Ytjnopnlgcmlkfaa.G.Gs
namespace Go.Proofs.Ytjnopnlgcmlkfaa.G.Gs
open Go.BX
set_option linter.unusedSimpArgs false
abbrev spotB (a b : Int) : Blk := .cells 43 2 [[.int .i64 a, .int .i64 b]]
def PF (r : AV) (a b : Int) : Prop :=
  ∀ (T : Nat → AV) (n : Nat) (A : Nat → Blk), T 2 = .ptr 0 2 0 0 → T 4 = .ptr 2 2 0 0 → A 0 = spotB a b → A 2 = spotB 0 0 → 3 ≤ n →
    Run Cx 62 T [] none [.inLoop c62_26, .inBlock 0, .code c62_34, .inScope c62_3] { next := n, at_ := A } (fun r0 H' => BX.freeze H' r0 = some r)
theorem pf_exit {a b : Int} (h : a = 0 ∧ b = 0 ∨ 0 < a ∧ 0 ≤ b) : PF (.tuple [spot a b, .int .i64 0]) a b := by
  intro T n A t2 t4 a0 a2 hn
  rw [run_inLoop]
  rcases h with ⟨rfl, rfl⟩ | ⟨h1, h2⟩
  · simp only [t2, t4, a0, a2, run_exit_start, exit_here, exit_code, exit_inLoop, r62_0, r62_1, r62_2, r62_3, r62_4, res62, tt, bb, bc, ↓bd, Nat.reduceEqDiff, Nat.reduceAdd, Nat.reduceMul, Nat.reduceLeDiff, Nat.reduceLT, ↓reduceIte, reduceCtorEq, Nat.reduceBeqDiff, Nat.reduceBneDiff, Int.reduceBNe, Int.reduceBEq, Int.reduceEq, Int.reduceLT, Int.reduceLE, Int.reduceAdd, Int.reduceSub, Int.reduceMul, Int.reduceNeg, List.reduceReplicate, Int.reduceToNat]
  · have e1 : (a == 0) = false := by simp; omega
    have e2 : (a ≤ 0) = False := eq_false (by omega)
    have e3 : (b < 0) = False := eq_false (by omega)
    simp only [e1, e2, e3, t2, t4, a0, a2, run_exit_start, exit_here, exit_code, exit_inLoop, r62_0, r62_1, r62_2, r62_3, r62_4, res62, tt, bb, bc, ↓bd, Nat.reduceEqDiff, Nat.reduceAdd, Nat.reduceMul, Nat.reduceLeDiff, Nat.reduceLT, ↓reduceIte, reduceCtorEq, Nat.reduceBeqDiff, Nat.reduceBneDiff, Int.reduceBNe, Int.reduceBEq, Int.reduceEq, Int.reduceLT, Int.reduceLE, Int.reduceAdd, Int.reduceSub, Int.reduceMul, Int.reduceNeg, List.reduceReplicate, Int.reduceToNat]
theorem pf_step {a b : Int} {r : AV} (ha : inR a = true) (hb : inR b = true) (h : ¬ (a = 0 ∧ b = 0) ∧ ¬ (0 < a ∧ 0 ≤ b)) (hp : PF r (-b) a) : PF r a b := by
  intro T n A t2 t4 a0 a2 hn
  rw [run_inLoop]
  rw [inR_iff] at ha hb
  have w : IntKind.i64.wrap (0 - b) = -b := by rw [wr64 (by omega) (by omega), Int.zero_sub]
  have hd : ∀ p q : Bool, (p && q) = false ↔ ¬ (p = true ∧ q = true) := by decide
  have e1 : ((a == 0) && (b == 0)) = false := by rw [hd]; simp; omega
  by_cases h2 : a ≤ 0
  · simp only [e1, h2, w, t2, t4, a0, a2, xx, r62_0, r62_1, r62_2, r62_3, r62_4, res62, tt, bb, bc, ↓bd, Nat.reduceEqDiff, Nat.reduceAdd, Nat.reduceMul, Nat.reduceLeDiff, Nat.reduceLT, ↓reduceIte, reduceCtorEq, Nat.reduceBeqDiff, Nat.reduceBneDiff, Int.reduceBNe, Int.reduceBEq, Int.reduceEq, Int.reduceLT, Int.reduceLE, Int.reduceAdd, Int.reduceSub, Int.reduceMul, Int.reduceNeg, List.reduceReplicate, Int.reduceToNat]
    have := hp
    refine (hp _ _ _ ?_ ?_ ?_ ?_ ?_)
    all_goals first | assumption | omega | simp only [upd_app, t2, t4, a0, a2, Nat.reduceEqDiff, ↓reduceIte]
  · have h3 : b < 0 := by omega
    simp only [e1, h2, h3, w, t2, t4, a0, a2, xx, r62_0, r62_1, r62_2, r62_3, r62_4, res62, tt, bb, bc, ↓bd, Nat.reduceEqDiff, Nat.reduceAdd, Nat.reduceMul, Nat.reduceLeDiff, Nat.reduceLT, ↓reduceIte, reduceCtorEq, Nat.reduceBeqDiff, Nat.reduceBneDiff, Int.reduceBNe, Int.reduceBEq, Int.reduceEq, Int.reduceLT, Int.reduceLE, Int.reduceAdd, Int.reduceSub, Int.reduceMul, Int.reduceNeg, List.reduceReplicate, Int.reduceToNat]
    refine (hp _ _ _ ?_ ?_ ?_ ?_ ?_)
    all_goals first | assumption | omega | simp only [upd_app, t2, t4, a0, a2, Nat.reduceEqDiff, ↓reduceIte]
def fst2 (a b : Int) : Int × Int :=
  if a = 0 ∧ b = 0 then (0, 0) else if 0 < a ∧ 0 ≤ b then (a, b) else if 0 < -b ∧ 0 ≤ a then (-b, a) else if 0 < -a ∧ 0 ≤ -b then (-a, -b) else (b, -a)
theorem pf_all {a b : Int} (ha : inR a = true) (hb : inR b = true) : PF (.tuple [spot (fst2 a b).1 (fst2 a b).2, .int .i64 0]) a b := by
  have na : inR (-a) = true := by rw [inR_iff] at *; omega
  have nb : inR (-b) = true := by rw [inR_iff] at *; omega
  unfold fst2
  by_cases h0 : a = 0 ∧ b = 0
  · rw [if_pos h0]; obtain ⟨rfl, rfl⟩ := h0; exact pf_exit (by omega)
  rw [if_neg h0]
  by_cases h1 : 0 < a ∧ 0 ≤ b
  · rw [if_pos h1]; exact pf_exit (by omega)
  rw [if_neg h1]
  refine pf_step ha hb ⟨h0, h1⟩ ?_
  by_cases h2 : 0 < -b ∧ 0 ≤ a
  · rw [if_pos h2]; exact pf_exit (by omega)
  rw [if_neg h2]
  refine pf_step nb ha (by omega) ?_
  by_cases h3 : 0 < -a ∧ 0 ≤ -b
  · rw [if_pos h3]; exact pf_exit (by omega)
  rw [if_neg h3]
  refine pf_step na nb (by omega) ?_
  rw [Int.neg_neg]
  exact pf_exit (by omega)
theorem sq_le {x : Int} (h : x * x ≤ 281474976710656) : inR x = true := by
  rw [inR_iff]
  constructor
  · rcases Int.lt_or_le x (-16777216) with h1 | h1
    · have := Int.mul_nonneg (a := -16777217 - x) (b := 16777217 - x) (by omega) (by omega)
      have e : (-16777217 - x) * (16777217 - x) = x * x - 281475010265089 := by grind
      omega
    · exact h1
  · rcases Int.lt_or_le 16777216 x with h1 | h1
    · have := Int.mul_nonneg (a := x - 16777217) (b := x + 16777217) (by omega) (by omega)
      have e : (x - 16777217) * (x + 16777217) = x * x - 281475010265089 := by grind
      omega
    · exact h1
theorem sq_nonneg (x : Int) : 0 ≤ x * x := by have := sq_ge x; omega
theorem rest_in {a b c d : Int} (hc : inR c = true) (hd : inR d = true) (h0 : ¬ (c = 0 ∧ d = 0)) : inR (rX a b c d) = true ∧ inR (rY a b c d) = true := by
  have h := rest_norm (a := a) (b := b) h0
  have hN := nrm_bound hc hd
  have h1 := sq_nonneg (rX a b c d)
  have h2 := sq_nonneg (rY a b c d)
  unfold nrm at h
  exact ⟨sq_le (by omega), sq_le (by omega)⟩
def gcdG (a b c d : Int) : Int × Int :=
  if h : c = 0 ∧ d = 0 then (a, b) else gcdG c d (rX a b c d) (rY a b c d)
termination_by (nrm c d).toNat
decreasing_by
  have h1 := rest_norm (a := a) (b := b) h
  have h2 := nrm_pos h
  have h3 := nrm_nonneg (rX a b c d) (rY a b c d)
  omega
def PG (r : AV) (a b c d : Int) : Prop :=
  ∀ (T : Nat → AV) (n : Nat) (A : Nat → Blk), T 2 = .ptr 0 2 0 0 → T 3 = .ptr 1 2 0 0 → T 4 = .ptr 2 2 0 0 → A 0 = spotB a b → A 1 = spotB c d → A 2 = spotB 0 0 → 3 ≤ n →
    Run Cx 62 T [] none [.code c62_13, .inScope c62_3] { next := n, at_ := A } (fun r0 H' => BX.freeze H' r0 = some r)
theorem goto_eq : gotoA 0 [.code c62_23, .inScope c62_3] = some [.code (.seq .skip c62_13), .inScope c62_3] := by kernel_rfl
theorem pg_exit {a b : Int} {r : AV} (h : PF r a b) : PG r a b 0 0 := by
  intro T n A t2 t3 t4 a0 a1 a2 hn
  simp only [t2, t3, t4, a0, a1, a2, r62_0, r62_1, r62_2, r62_3, r62_4, res62, tt, bb, bc, ↓bd, Nat.reduceEqDiff, Nat.reduceAdd, Nat.reduceMul, Nat.reduceLeDiff, Nat.reduceLT, ↓reduceIte, reduceCtorEq, Nat.reduceBeqDiff, Nat.reduceBneDiff, Int.reduceBNe, Int.reduceBEq, Int.reduceEq, Int.reduceLT, Int.reduceLE, Int.reduceAdd, Int.reduceSub, Int.reduceMul, Int.reduceNeg, List.reduceReplicate, Int.reduceToNat]
  refine (h _ _ _ ?_ ?_ ?_ ?_ ?_)
  all_goals first | assumption | omega | simp only [upd_app, t2, t3, t4, a0, a1, a2, Nat.reduceEqDiff, ↓reduceIte]
theorem pg_step {a b c d : Int} {r : AV} (ha : inR a = true) (hb : inR b = true) (hc : inR c = true) (hd : inR d = true) (h0 : ¬ (c = 0 ∧ d = 0)) (h : PG r c d (rX a b c d) (rY a b c d)) : PG r a b c d := by
  intro T n A t2 t3 t4 a0 a1 a2 hn
  have hq : ∀ p q : Bool, (p && q) = false ↔ ¬ (p = true ∧ q = true) := by decide
  have e1 : ((c == 0) && (d == 0)) = false := by rw [hq]; simpa using h0
  have k0 : (0 = n) = False := eq_false (by omega)
  have k1 : (1 = n) = False := eq_false (by omega)
  have k2 : (2 = n) = False := eq_false (by omega)
  have k3 : (0 = n + 1) = False := eq_false (by omega)
  have k4 : (1 = n + 1) = False := eq_false (by omega)
  have k5 : (2 = n + 1) = False := eq_false (by omega)
  have k6 : (n = n + 1) = False := eq_false (by omega)
  have k7 : (n = 0) = False := eq_false (by omega)
  have k8 : (n = 1) = False := eq_false (by omega)
  have k9 : (n + 1 = 0) = False := eq_false (by omega)
  have k10 : (n + 1 = 1) = False := eq_false (by omega)
  have k11 : (n + 1 = n) = False := eq_false (by omega)
  have hdv := div_ok a b c d ha hb hc hd h0
  simp only [e1, t2, t3, t4, a0, a1, a2, k0, k1, k2, k3, k4, k5, k6, k7, k8, k9, k10, k11, call_pure pure72 rfl hdv, r62_0, r62_1, r62_2, r62_3, r62_4, res62, tt, bb, bc, ↓bd, Nat.reduceEqDiff, Nat.reduceAdd, Nat.reduceMul, Nat.reduceLeDiff, Nat.reduceLT, ↓reduceIte, reduceCtorEq, Nat.reduceBeqDiff, Nat.reduceBneDiff, Int.reduceBNe, Int.reduceBEq, Int.reduceEq, Int.reduceLT, Int.reduceLE, Int.reduceAdd, Int.reduceSub, Int.reduceMul, Int.reduceNeg, List.reduceReplicate, Int.reduceToNat]
  unfold c62_21
  rw [run_goto goto_eq, run_seq, run_skip]
  refine (h _ _ _ ?_ ?_ ?_ ?_ ?_ ?_ ?_)
  all_goals first | assumption | omega | simp only [upd_app, t2, t3, t4, a0, a1, a2, k0, k1, k2, k3, k4, k5, k6, k7, k8, k9, k10, k11, Nat.reduceEqDiff, ↓reduceIte]
end Go.Proofs.Ytjnopnlgcmlkfaa.G.Gs

namespace Go.Proofs.Ytjnopnlgcmlkfaa.G.Gs
open Go.BX
set_option linter.unusedSimpArgs false
theorem gcd_in (a b c d : Int) (ha : inR a = true) (hb : inR b = true) (hc : inR c = true) (hd : inR d = true) : inR (gcdG a b c d).1 = true ∧ inR (gcdG a b c d).2 = true := by
  induction a, b, c, d using gcdG.induct with
  | case1 a b c d h => rw [gcdG, dif_pos h]; exact ⟨ha, hb⟩
  | case2 a b c d h ih =>
    rw [gcdG, dif_neg h]
    have hr := rest_in (a := a) (b := b) hc hd h
    exact ih hc hd hr.1 hr.2
def CommV (a b c d : Int) : Int × Int := fst2 (gcdG a b c d).1 (gcdG a b c d).2
theorem pg_all (a b c d : Int) (ha : inR a = true) (hb : inR b = true) (hc : inR c = true) (hd : inR d = true) :
    PG (.tuple [spot (CommV a b c d).1 (CommV a b c d).2, .int .i64 0]) a b c d := by
  induction a, b, c, d using gcdG.induct with
  | case1 a b c d h =>
    have e : CommV a b c d = fst2 a b := by unfold CommV; rw [gcdG, dif_pos h]
    rw [e]
    obtain ⟨rfl, rfl⟩ := h
    exact pg_exit (pf_all ha hb)
  | case2 a b c d h ih =>
    have e : CommV a b c d = CommV c d (rX a b c d) (rY a b c d) := by unfold CommV; rw [gcdG, dif_neg h]
    rw [e]
    have hr := rest_in (a := a) (b := b) hc hd h
    exact pg_step ha hb hc hd h (ih hc hd hr.1 hr.2)
def CommR (a b c d : Int) : AV := if (inR a && inR b) && (inR c && inR d) then .tuple [spot (CommV a b c d).1 (CommV a b c d).2, .int .i64 0] else errS
theorem Common_ok (a b c d : Int) : PCall Cx 62 [spot a b, spot c d] (CommR a b c d) := by
  refine pcall_run (noext _) body62 ?_
  unfold CommR errS
  cases h1 : (inR a && inR b) with
  | false => simp only [h1, Right_call, r62_0, r62_1, r62_2, r62_3, r62_4, res62, tt, bb, bc, ↓bd, Nat.reduceEqDiff, Nat.reduceAdd, Nat.reduceMul, Nat.reduceLeDiff, Nat.reduceLT, ↓reduceIte, reduceCtorEq, Nat.reduceBeqDiff, Nat.reduceBneDiff, Int.reduceBNe, Int.reduceBEq, Int.reduceEq, Int.reduceLT, Int.reduceLE, Int.reduceAdd, Int.reduceSub, Int.reduceMul, Int.reduceNeg, List.reduceReplicate, Int.reduceToNat]
  | true =>
    cases h2 : (inR c && inR d) with
    | false => simp only [h1, h2, Right_call, r62_0, r62_1, r62_2, r62_3, r62_4, res62, tt, bb, bc, ↓bd, Nat.reduceEqDiff, Nat.reduceAdd, Nat.reduceMul, Nat.reduceLeDiff, Nat.reduceLT, ↓reduceIte, reduceCtorEq, Nat.reduceBeqDiff, Nat.reduceBneDiff, Int.reduceBNe, Int.reduceBEq, Int.reduceEq, Int.reduceLT, Int.reduceLE, Int.reduceAdd, Int.reduceSub, Int.reduceMul, Int.reduceNeg, List.reduceReplicate, Int.reduceToNat]
    | true =>
      have h1' := h1
      have h2' := h2
      simp only [Bool.and_eq_true] at h1' h2'
      have hp := pg_all a b c d h1'.1 h1'.2 h2'.1 h2'.2
      rw [r62_0.1]
      simp only [h1, h2, Right_call, r62_0.2.1, r62_0.2.2.1, r62_0.2.2.2.1, r62_0.2.2.2.2.1, r62_0.2.2.2.2.2.1, r62_0.2.2.2.2.2.2.1, r62_1.2.2.1, r62_1.2.2.2.1, r62_1.2.2.2.2.1, o62_1, o62_5, tt, bb, bc, ↓bd, Nat.reduceEqDiff, Nat.reduceAdd, Nat.reduceMul, Nat.reduceLeDiff, Nat.reduceLT, ↓reduceIte, reduceCtorEq, Nat.reduceBeqDiff, Nat.reduceBneDiff, Int.reduceBNe, Int.reduceBEq, Int.reduceEq, Int.reduceLT, Int.reduceLE, Int.reduceAdd, Int.reduceSub, Int.reduceMul, Int.reduceNeg, List.reduceReplicate, Int.reduceToNat]
      refine (hp _ _ _ ?_ ?_ ?_ ?_ ?_ ?_ ?_)
      all_goals first | assumption | simp only [upd_app, Nat.reduceEqDiff, ↓reduceIte, Nat.le_refl]
end Go.Proofs.Ytjnopnlgcmlkfaa.G.Gs

namespace Go.Proofs.Ytjnopnlgcmlkfaa.G.Gs
open Go.BX
set_option linter.unusedSimpArgs false
end Go.Proofs.Ytjnopnlgcmlkfaa.G.Gs

namespace Go.Proofs.Ytjnopnlgcmlkfaa.G
open Go.BX
set_option linter.unusedSimpArgs false
set_option linter.unusedVariables false
theorem updS (A : Nat → Blk) (g : Nat) (x y : Blk) : upd (upd A g x) g y = upd A g y := by
  funext c
  unfold upd
  split <;> rfl
structure Vl where
  k : Int
  n : Int
  s : Bytes
  x : Int
  y : Int
abbrev valA (v : Vl) : AV := .agg [.int .i64 v.k, .int .i64 v.n, .str v.s, .int .i64 v.x, .int .i64 v.y]
def okV (v : Vl) : Bool := rightV v.k v.n v.s v.x v.y
def ordA (a b : Vl) : Int := ordV a.k a.n a.s a.x a.y b.k b.n b.s b.x b.y
def sumW : Bytes := [115, 117, 109]
def maxW : Bytes := [109, 97, 120]
def minW : Bytes := [109, 105, 110]
def gcdW : Bytes := [103, 99, 100]
def isF (w : Bytes) : Bool := ((w == sumW || w == maxW) || w == minW) || w == gcdW
def zeroL : Vl := ⟨0, 0, [], 0, 0⟩
def numF (w : Bytes) (a b : Int) : Vl := if w = sumW then ⟨0, wrapM (a + b) 9007199254740992, [], 0, 0⟩ else ⟨0, (Int.gcd a b : Int), [], 0, 0⟩
def ptF (w : Bytes) (x y x' y' : Int) : Vl := if w = sumW then ⟨2, 0, [], wrapM (x + x') 16777216, wrapM (y + y') 16777216⟩ else ⟨2, 0, [], (Gs.CommV x y x' y').1, (Gs.CommV x y x' y').2⟩
def foldR (w : Bytes) (a b : Vl) : Vl × Int :=
  if ((isF w && okV a) && okV b) = false then (zeroL, 1)
  else if a.k ≠ b.k then (zeroL, 13)
  else if w = maxW then (if 0 < ordA a b then a else b, 0)
  else if w = minW then (if ordA a b < 0 then a else b, 0)
  else if a.k = 0 then (numF w a.n b.n, 0)
  else if a.k = 2 then (ptF w a.x a.y b.x b.y, 0)
  else (zeroL, 13)
theorem numbersFolded_ok (w : Bytes) (a b : Int) (ha : -9007199254740992 ≤ a ∧ a ≤ 9007199254740992) (hb : -9007199254740992 ≤ b ∧ b ≤ 9007199254740992) : PCall Cx 39 [.str w, .int .i64 a, .int .i64 b] (valA (numF w a b)) := by
  refine pcall_run (noext _) body39 ?_
  unfold numF valA
  by_cases h : w = sumW
  · have e : (w == [115, 117, 109]) = true := by simp [h, sumW]
    have w1 : IntKind.i64.wrap (a + b) = a + b := wr64 (by omega) (by omega)
    have hw := wrapped_ok (a + b) 9007199254740992 (by omega) (by omega)
    rw [if_pos h]
    simp only [e, w1, call_pure pure60 rfl hw, xx, r39_0, r39_1, res39, tt, bb, bc, ↓bd, Nat.reduceEqDiff, Nat.reduceAdd, Nat.reduceMul, Nat.reduceLeDiff, Nat.reduceLT, ↓reduceIte, reduceCtorEq, Nat.reduceBeqDiff, Nat.reduceBneDiff, Int.reduceBNe, Int.reduceBEq, Int.reduceEq, Int.reduceLT, Int.reduceLE, Int.reduceAdd, Int.reduceSub, Int.reduceMul, Int.reduceNeg, List.reduceReplicate, Int.reduceToNat]
  · have e : (w == [115, 117, 109]) = false := by simpa [sumW] using h
    have hw := common_ok a b (by omega) (by omega)
    rw [if_neg h]
    simp only [e, call_pure pure61 rfl hw, xx, r39_0, r39_1, res39, tt, bb, bc, ↓bd, Nat.reduceEqDiff, Nat.reduceAdd, Nat.reduceMul, Nat.reduceLeDiff, Nat.reduceLT, ↓reduceIte, reduceCtorEq, Nat.reduceBeqDiff, Nat.reduceBneDiff, Int.reduceBNe, Int.reduceBEq, Int.reduceEq, Int.reduceLT, Int.reduceLE, Int.reduceAdd, Int.reduceSub, Int.reduceMul, Int.reduceNeg, List.reduceReplicate, Int.reduceToNat]
theorem pointsFolded_ok (w : Bytes) (x y x' y' : Int) (hx : inR x = true) (hy : inR y = true) (hx' : inR x' = true) (hy' : inR y' = true) : PCall Cx 40 [.str w, .agg [.int .i64 x, .int .i64 y], .agg [.int .i64 x', .int .i64 y']] (valA (ptF w x y x' y')) := by
  refine pcall_run (noext _) body40 ?_
  unfold ptF valA
  have i1 := Od.inR_iff.mp hx
  have i2 := Od.inR_iff.mp hy
  have i3 := Od.inR_iff.mp hx'
  have i4 := Od.inR_iff.mp hy'
  by_cases h : w = sumW
  · have e : (w == [115, 117, 109]) = true := by simp [h, sumW]
    have w1 : IntKind.i64.wrap (x + x') = x + x' := wr64 (by omega) (by omega)
    have w2 : IntKind.i64.wrap (y + y') = y + y' := wr64 (by omega) (by omega)
    have hw1 := wrapped_ok (x + x') 16777216 (by omega) (by omega)
    have hw2 := wrapped_ok (y + y') 16777216 (by omega) (by omega)
    rw [if_pos h]
    simp only [e, w1, w2, call_pure pure60 rfl hw1, call_pure pure60 rfl hw2, xx, r40_0, r40_1, res40, tt, bb, bc, ↓bd, Nat.reduceEqDiff, Nat.reduceAdd, Nat.reduceMul, Nat.reduceLeDiff, Nat.reduceLT, ↓reduceIte, reduceCtorEq, Nat.reduceBeqDiff, Nat.reduceBneDiff, Int.reduceBNe, Int.reduceBEq, Int.reduceEq, Int.reduceLT, Int.reduceLE, Int.reduceAdd, Int.reduceSub, Int.reduceMul, Int.reduceNeg, List.reduceReplicate, Int.reduceToNat]
  · have e : (w == [115, 117, 109]) = false := by simpa [sumW] using h
    have hc := Gs.Common_ok x y x' y'
    have hr : Gs.CommR x y x' y' = .tuple [.agg [.int .i64 (Gs.CommV x y x' y').1, .int .i64 (Gs.CommV x y x' y').2], .int .i64 0] := by
      unfold Gs.CommR
      rw [if_pos (by
        show ((inR x && inR y) && (inR x' && inR y')) = true
        rw [hx, hy, hx', hy']; rfl)]
    rw [hr] at hc
    rw [if_neg h]
    simp only [e, updS, call_pure pure62 rfl hc, xx, r40_0, r40_1, res40, tt, bb, bc, ↓bd, Nat.reduceEqDiff, Nat.reduceAdd, Nat.reduceMul, Nat.reduceLeDiff, Nat.reduceLT, ↓reduceIte, reduceCtorEq, Nat.reduceBeqDiff, Nat.reduceBneDiff, Int.reduceBNe, Int.reduceBEq, Int.reduceEq, Int.reduceLT, Int.reduceLE, Int.reduceAdd, Int.reduceSub, Int.reduceMul, Int.reduceNeg, List.reduceReplicate, Int.reduceToNat]
def PNs (w : Bytes) (i : Nat) (r : Int) : Prop :=
  ∀ (T : Nat → AV) (H : AHeap), T 0 = .vec 1 [[.str sumW], [.str maxW], [.str minW], [.str gcdW]] → T 1 = .str w → T 7 = .int .i64 4 → T 8 = .int .i64 (i : Int) →
    Run Cx 56 T [] none [.inLoop c56_7, .inBlock 0, .code c56_25] H (fun r0 H' => BX.freeze H' r0 = some (.int .i64 r))
theorem pns_end {w : Bytes} : PNs w 4 (-1) := by
  intro T H t0 t1 t7 t8
  rw [run_inLoop]
  have c0 : ¬ ((4 : Nat) : Int) < 4 := by omega
  simp only [t0, t1, t7, t8, c0, lenOf, i64, xx, r56_0, r56_1, r56_2, r56_3, res56, tt, bb, bc, ↓bd, Nat.reduceEqDiff, Nat.reduceAdd, Nat.reduceMul, Nat.reduceLeDiff, Nat.reduceLT, ↓reduceIte, reduceCtorEq, Nat.reduceBeqDiff, Nat.reduceBneDiff, Int.reduceBNe, Int.reduceBEq, Int.reduceEq, Int.reduceLT, Int.reduceLE, Int.reduceAdd, Int.reduceSub, Int.reduceMul, Int.reduceNeg, List.reduceReplicate, Int.reduceToNat]
theorem pns_step {w b : Bytes} {i : Nat} {r : Int} (hi : i < 4) (hg : ([[.str sumW], [.str maxW], [.str minW], [.str gcdW]] : List (List AV))[i]? = some [.str b]) (h : w = b ∧ r = (i : Int) ∨ w ≠ b ∧ PNs w (i + 1) r) : PNs w i r := by
  intro T H t0 t1 t7 t8
  rw [run_inLoop]
  have c0 : (i : Int) < 4 := by omega
  have p0 : (0 : Int) ≤ (i : Int) := by omega
  have w1 : IntKind.i64.wrap ((i : Int) + 1) = ((i + 1 : Nat) : Int) := by rw [wr64 (by omega) (by omega)]; omega
  have w4 : IntKind.i64.wrap 4 = 4 := rfl
  have l0 : (i : Int) < ((0 + 1 + 1 + 1 + 1 : Nat) : Int) := by omega
  rcases h with ⟨rfl, rfl⟩ | ⟨hne, hp⟩
  · have e : (w == w) = true := by simp
    simp only [t0, t1, t7, t8, c0, p0, hg, e, List.length_cons, List.length_nil, l0, lenOf, i64, Int.toNat_natCast, xx, r56_0, r56_1, r56_2, r56_3, res56, tt, bb, bc, ↓bd, Nat.reduceEqDiff, Nat.reduceAdd, Nat.reduceMul, Nat.reduceLeDiff, Nat.reduceLT, ↓reduceIte, reduceCtorEq, Nat.reduceBeqDiff, Nat.reduceBneDiff, Int.reduceBNe, Int.reduceBEq, Int.reduceEq, Int.reduceLT, Int.reduceLE, Int.reduceAdd, Int.reduceSub, Int.reduceMul, Int.reduceNeg, List.reduceReplicate, Int.reduceToNat]
  · have e : (w == b) = false := by simpa using hne
    simp only [t0, t1, t7, t8, c0, p0, hg, e, w1, List.length_cons, List.length_nil, l0, lenOf, i64, Int.toNat_natCast, xx, r56_0, r56_1, r56_2, r56_3.1, r56_3.2.2.1, r56_3.2.2.2, res56, tt, bb, bc, ↓bd, Nat.reduceEqDiff, Nat.reduceAdd, Nat.reduceMul, Nat.reduceLeDiff, Nat.reduceLT, ↓reduceIte, reduceCtorEq, Nat.reduceBeqDiff, Nat.reduceBneDiff, Int.reduceBNe, Int.reduceBEq, Int.reduceEq, Int.reduceLT, Int.reduceLE, Int.reduceAdd, Int.reduceSub, Int.reduceMul, Int.reduceNeg, List.reduceReplicate, Int.reduceToNat]
    refine hp _ _ ?_ ?_ ?_ ?_
    all_goals simp only [upd_app, t0, t1, t7, Nat.reduceEqDiff, ↓reduceIte]
def idxF (w : Bytes) : Int := if w = sumW then 0 else if w = maxW then 1 else if w = minW then 2 else if w = gcdW then 3 else -1
theorem idxF_ok (w : Bytes) : PCall Cx 56 [.vec 1 [[.str sumW], [.str maxW], [.str minW], [.str gcdW]], .str w] (.int .i64 (idxF w)) := by
  have hp : PNs w 0 (idxF w) := by
    unfold idxF
    by_cases h0 : w = sumW
    · rw [if_pos h0]; exact pns_step (b := sumW) (by omega) rfl (.inl ⟨h0, rfl⟩)
    rw [if_neg h0]
    refine pns_step (b := sumW) (by omega) rfl (.inr ⟨h0, ?_⟩)
    by_cases h1 : w = maxW
    · rw [if_pos h1]; exact pns_step (b := maxW) (by omega) rfl (.inl ⟨h1, rfl⟩)
    rw [if_neg h1]
    refine pns_step (b := maxW) (by omega) rfl (.inr ⟨h1, ?_⟩)
    by_cases h2 : w = minW
    · rw [if_pos h2]; exact pns_step (b := minW) (by omega) rfl (.inl ⟨h2, rfl⟩)
    rw [if_neg h2]
    refine pns_step (b := minW) (by omega) rfl (.inr ⟨h2, ?_⟩)
    by_cases h3 : w = gcdW
    · rw [if_pos h3]; exact pns_step (b := gcdW) (by omega) rfl (.inl ⟨h3, rfl⟩)
    rw [if_neg h3]
    exact pns_step (b := gcdW) (by omega) rfl (.inr ⟨h3, pns_end⟩)
  refine pcall_run (noext _) body56 ?_
  simp only [lenOf, i64, List.length_cons, List.length_nil, r56_0.1, r56_0.2.1, r56_0.2.2.1, r56_0.2.2.2.1, r56_0.2.2.2.2.1, r56_0.2.2.2.2.2.1, r56_0.2.2.2.2.2.2.1, r56_1, r56_2, r56_3.1, r56_3.2.2.1, r56_3.2.2.2, res56, tt, bb, bc, ↓bd, Nat.reduceEqDiff, Nat.reduceAdd, Nat.reduceMul, Nat.reduceLeDiff, Nat.reduceLT, ↓reduceIte, reduceCtorEq, Nat.reduceBeqDiff, Nat.reduceBneDiff, Int.reduceBNe, Int.reduceBEq, Int.reduceEq, Int.reduceLT, Int.reduceLE, Int.reduceAdd, Int.reduceSub, Int.reduceMul, Int.reduceNeg, List.reduceReplicate, Int.reduceToNat]
  refine hp _ _ ?_ ?_ ?_ ?_
  all_goals simp only [upd_app, enterT, List.getElem?_cons_zero, List.getElem?_cons_succ, Option.getD_some, Nat.reduceEqDiff, ↓reduceIte]
  all_goals rfl
theorem idxF_is (w : Bytes) : decide (0 ≤ idxF w) = isF w := by
  by_cases h0 : w = sumW
  · rw [h0]; rfl
  by_cases h1 : w = maxW
  · rw [h1]; rfl
  by_cases h2 : w = minW
  · rw [h2]; rfl
  by_cases h3 : w = gcdW
  · rw [h3]; rfl
  unfold idxF isF
  simp [h0, h1, h2, h3]
theorem contains_ok (w : Bytes) : PCall Cx 36 [.vec 1 [[.str sumW], [.str maxW], [.str minW], [.str gcdW]], .str w] (.bool (isF w)) := by
  refine pcall_run (noext _) body36 ?_
  have h := idxF_is w
  simp only [h, call_pure pure56 rfl (idxF_ok w), xx, r36_0, res36, tt, bb, bc, ↓bd, Nat.reduceEqDiff, Nat.reduceAdd, Nat.reduceMul, Nat.reduceLeDiff, Nat.reduceLT, ↓reduceIte, reduceCtorEq, Nat.reduceBeqDiff, Nat.reduceBneDiff, Int.reduceBNe, Int.reduceBEq, Int.reduceEq, Int.reduceLT, Int.reduceLE, Int.reduceAdd, Int.reduceSub, Int.reduceMul, Int.reduceNeg, List.reduceReplicate, Int.reduceToNat]
theorem folds_ok : PCall Cx 37 [] (.vec 1 [[.str sumW], [.str maxW], [.str minW], [.str gcdW]]) := ⟨60, by kernel_rfl⟩
theorem jobFold_ok (w : Bytes) (a b : Vl) : PCall Cx 23 [.str w, valA a, valA b] (.tuple [valA (foldR w a b).1, .int .i64 (foldR w a b).2]) := by
  refine pcall_run (noext _) body23 ?_
  have hc := contains_ok w
  have ra := Right_ok a.k a.n a.s a.x a.y
  have rb := Right_ok b.k b.n b.s b.x b.y
  have ho := Order_ok a.k a.n a.s a.x a.y b.k b.n b.s b.x b.y
  have hf := folds_ok
  unfold foldR
  cases h1 : isF w with
  | false =>
    rw [h1] at hc
    simp only [Bool.false_and, if_true, zeroL, call_pure pure37 rfl hf, call_pure pure36 rfl hc, xx, r23_0, r23_1.1, r23_1.2.1, r23_1.2.2.1, r23_1.2.2.2.1, r23_1.2.2.2.2.2.1, r23_1.2.2.2.2.2.2.1, r23_1.2.2.2.2.2.2.2, r23_2, r23_3, r23_4, r23_5, res23, tt, bb, bc, ↓bd, Nat.reduceEqDiff, Nat.reduceAdd, Nat.reduceMul, Nat.reduceLeDiff, Nat.reduceLT, ↓reduceIte, reduceCtorEq, Nat.reduceBeqDiff, Nat.reduceBneDiff, Int.reduceBNe, Int.reduceBEq, Int.reduceEq, Int.reduceLT, Int.reduceLE, Int.reduceAdd, Int.reduceSub, Int.reduceMul, Int.reduceNeg, List.reduceReplicate, Int.reduceToNat]
  | true =>
    rw [h1] at hc
    cases h2 : okV a with
    | false =>
      rw [show rightV a.k a.n a.s a.x a.y = false from h2] at ra
      simp only [Bool.and_false, Bool.false_and, if_true, zeroL, call_pure pure37 rfl hf, call_pure pure36 rfl hc, call_pure pure20 rfl ra, xx, r23_0, r23_1.1, r23_1.2.1, r23_1.2.2.1, r23_1.2.2.2.1, r23_1.2.2.2.2.2.1, r23_1.2.2.2.2.2.2.1, r23_1.2.2.2.2.2.2.2, r23_2, r23_3, r23_4, r23_5, res23, tt, bb, bc, ↓bd, Nat.reduceEqDiff, Nat.reduceAdd, Nat.reduceMul, Nat.reduceLeDiff, Nat.reduceLT, ↓reduceIte, reduceCtorEq, Nat.reduceBeqDiff, Nat.reduceBneDiff, Int.reduceBNe, Int.reduceBEq, Int.reduceEq, Int.reduceLT, Int.reduceLE, Int.reduceAdd, Int.reduceSub, Int.reduceMul, Int.reduceNeg, List.reduceReplicate, Int.reduceToNat]
    | true =>
      rw [show rightV a.k a.n a.s a.x a.y = true from h2] at ra
      cases h3 : okV b with
      | false =>
        rw [show rightV b.k b.n b.s b.x b.y = false from h3] at rb
        simp only [Bool.and_false, Bool.and_true, if_true, zeroL, call_pure pure37 rfl hf, call_pure pure36 rfl hc, call_pure pure20 rfl ra, call_pure pure20 rfl rb, xx, r23_0, r23_1.1, r23_1.2.1, r23_1.2.2.1, r23_1.2.2.2.1, r23_1.2.2.2.2.2.1, r23_1.2.2.2.2.2.2.1, r23_1.2.2.2.2.2.2.2, r23_2, r23_3, r23_4, r23_5, res23, tt, bb, bc, ↓bd, Nat.reduceEqDiff, Nat.reduceAdd, Nat.reduceMul, Nat.reduceLeDiff, Nat.reduceLT, ↓reduceIte, reduceCtorEq, Nat.reduceBeqDiff, Nat.reduceBneDiff, Int.reduceBNe, Int.reduceBEq, Int.reduceEq, Int.reduceLT, Int.reduceLE, Int.reduceAdd, Int.reduceSub, Int.reduceMul, Int.reduceNeg, List.reduceReplicate, Int.reduceToNat]
      | true =>
        rw [show rightV b.k b.n b.s b.x b.y = true from h3] at rb
        have cA := Od.right_cases (show rightV a.k a.n a.s a.x a.y = true from h2)
        have cB := Od.right_cases (show rightV b.k b.n b.s b.x b.y = true from h3)
        rw [if_neg (by decide)]
        have hoA : ordV a.k a.n a.s a.x a.y b.k b.n b.s b.x b.y = ordA a b := rfl
        rw [hoA] at ho
        generalize ordA a b = o at ho
        by_cases hk : a.k = b.k
        · have ek : (a.k != b.k) = false := by simp [hk]
          rw [if_neg (by simpa using hk)]
          by_cases hmx : w = maxW
          · have e1 : (w == [109, 97, 120]) = true := by simp [hmx, maxW]
            rw [if_pos hmx]
            by_cases h0 : 0 < o
            · rw [if_pos h0]
              simp only [ek, e1, h0, call_pure pure37 rfl hf, call_pure pure36 rfl hc, call_pure pure20 rfl ra, call_pure pure20 rfl rb, call_pure pure38 rfl ho, xx, r23_0, r23_1, r23_2, r23_3, r23_4, r23_5, res23, tt, bb, bc, ↓bd, Nat.reduceEqDiff, Nat.reduceAdd, Nat.reduceMul, Nat.reduceLeDiff, Nat.reduceLT, ↓reduceIte, reduceCtorEq, Nat.reduceBeqDiff, Nat.reduceBneDiff, Int.reduceBNe, Int.reduceBEq, Int.reduceEq, Int.reduceLT, Int.reduceLE, Int.reduceAdd, Int.reduceSub, Int.reduceMul, Int.reduceNeg, List.reduceReplicate, Int.reduceToNat]
            · rw [if_neg h0]
              have e2 : (w == [109, 105, 110]) = false := by rw [hmx]; rfl
              simp only [ek, e1, e2, h0, call_pure pure37 rfl hf, call_pure pure36 rfl hc, call_pure pure20 rfl ra, call_pure pure20 rfl rb, call_pure pure38 rfl ho, xx, r23_0, r23_1, r23_2, r23_3, r23_4, r23_5, res23, tt, bb, bc, ↓bd, Nat.reduceEqDiff, Nat.reduceAdd, Nat.reduceMul, Nat.reduceLeDiff, Nat.reduceLT, ↓reduceIte, reduceCtorEq, Nat.reduceBeqDiff, Nat.reduceBneDiff, Int.reduceBNe, Int.reduceBEq, Int.reduceEq, Int.reduceLT, Int.reduceLE, Int.reduceAdd, Int.reduceSub, Int.reduceMul, Int.reduceNeg, List.reduceReplicate, Int.reduceToNat]
          · have e1 : (w == [109, 97, 120]) = false := by simpa [maxW] using hmx
            rw [if_neg hmx]
            by_cases hmn : w = minW
            · have e2 : (w == [109, 105, 110]) = true := by simp [hmn, minW]
              rw [if_pos hmn]
              by_cases h0 : o < 0
              · rw [if_pos h0]
                simp only [ek, e1, e2, h0, call_pure pure37 rfl hf, call_pure pure36 rfl hc, call_pure pure20 rfl ra, call_pure pure20 rfl rb, call_pure pure38 rfl ho, xx, r23_0, r23_1, r23_2, r23_3, r23_4, r23_5, res23, tt, bb, bc, ↓bd, Nat.reduceEqDiff, Nat.reduceAdd, Nat.reduceMul, Nat.reduceLeDiff, Nat.reduceLT, ↓reduceIte, reduceCtorEq, Nat.reduceBeqDiff, Nat.reduceBneDiff, Int.reduceBNe, Int.reduceBEq, Int.reduceEq, Int.reduceLT, Int.reduceLE, Int.reduceAdd, Int.reduceSub, Int.reduceMul, Int.reduceNeg, List.reduceReplicate, Int.reduceToNat]
              · rw [if_neg h0]
                simp only [ek, e1, e2, h0, call_pure pure37 rfl hf, call_pure pure36 rfl hc, call_pure pure20 rfl ra, call_pure pure20 rfl rb, call_pure pure38 rfl ho, xx, r23_0, r23_1, r23_2, r23_3, r23_4, r23_5, res23, tt, bb, bc, ↓bd, Nat.reduceEqDiff, Nat.reduceAdd, Nat.reduceMul, Nat.reduceLeDiff, Nat.reduceLT, ↓reduceIte, reduceCtorEq, Nat.reduceBeqDiff, Nat.reduceBneDiff, Int.reduceBNe, Int.reduceBEq, Int.reduceEq, Int.reduceLT, Int.reduceLE, Int.reduceAdd, Int.reduceSub, Int.reduceMul, Int.reduceNeg, List.reduceReplicate, Int.reduceToNat]
            · have e2 : (w == [109, 105, 110]) = false := by simpa [minW] using hmn
              rw [if_neg hmn]
              rcases cA with ⟨k0, n0, _⟩ | ⟨k1, _⟩ | ⟨k2, ⟨x0, y0⟩, _⟩
              · rcases cB with ⟨q0, m0, _⟩ | ⟨q1, _⟩ | ⟨q2, _⟩
                · have hnf := numbersFolded_ok w a.n b.n n0 m0
                  have e3 : (a.k == 0) = true := by simp [k0]
                  rw [if_pos k0]
                  simp only [ek, e1, e2, e3, call_pure pure39 rfl hnf, call_pure pure37 rfl hf, call_pure pure36 rfl hc, call_pure pure20 rfl ra, call_pure pure20 rfl rb, call_pure pure38 rfl ho, xx, r23_0, r23_1, r23_2, r23_3, r23_4, r23_5, res23, tt, bb, bc, ↓bd, Nat.reduceEqDiff, Nat.reduceAdd, Nat.reduceMul, Nat.reduceLeDiff, Nat.reduceLT, ↓reduceIte, reduceCtorEq, Nat.reduceBeqDiff, Nat.reduceBneDiff, Int.reduceBNe, Int.reduceBEq, Int.reduceEq, Int.reduceLT, Int.reduceLE, Int.reduceAdd, Int.reduceSub, Int.reduceMul, Int.reduceNeg, List.reduceReplicate, Int.reduceToNat]
                · omega
                · omega
              · have e3 : (a.k == 0) = false := by rw [k1]; rfl
                have e4 : (a.k == 2) = false := by rw [k1]; rfl
                rw [if_neg (by rw [k1]; decide), if_neg (by rw [k1]; decide)]
                simp only [ek, e1, e2, e3, e4, zeroL, call_pure pure37 rfl hf, call_pure pure36 rfl hc, call_pure pure20 rfl ra, call_pure pure20 rfl rb, call_pure pure38 rfl ho, xx, r23_0, r23_1, r23_2, r23_3, r23_4, r23_5, res23, tt, bb, bc, ↓bd, Nat.reduceEqDiff, Nat.reduceAdd, Nat.reduceMul, Nat.reduceLeDiff, Nat.reduceLT, ↓reduceIte, reduceCtorEq, Nat.reduceBeqDiff, Nat.reduceBneDiff, Int.reduceBNe, Int.reduceBEq, Int.reduceEq, Int.reduceLT, Int.reduceLE, Int.reduceAdd, Int.reduceSub, Int.reduceMul, Int.reduceNeg, List.reduceReplicate, Int.reduceToNat]
              · rcases cB with ⟨q0, m0, _⟩ | ⟨q1, _⟩ | ⟨q2, ⟨x1, y1⟩, _⟩
                · omega
                · omega
                · have hpf := pointsFolded_ok w a.x a.y b.x b.y x0 y0 x1 y1
                  have e3 : (a.k == 0) = false := by rw [k2]; rfl
                  have e4 : (a.k == 2) = true := by rw [k2]; rfl
                  rw [if_neg (by rw [k2]; decide), if_pos k2]
                  simp only [ek, e1, e2, e3, e4, call_pure pure40 rfl hpf, call_pure pure37 rfl hf, call_pure pure36 rfl hc, call_pure pure20 rfl ra, call_pure pure20 rfl rb, call_pure pure38 rfl ho, xx, r23_0, r23_1, r23_2, r23_3, r23_4, r23_5, res23, tt, bb, bc, ↓bd, Nat.reduceEqDiff, Nat.reduceAdd, Nat.reduceMul, Nat.reduceLeDiff, Nat.reduceLT, ↓reduceIte, reduceCtorEq, Nat.reduceBeqDiff, Nat.reduceBneDiff, Int.reduceBNe, Int.reduceBEq, Int.reduceEq, Int.reduceLT, Int.reduceLE, Int.reduceAdd, Int.reduceSub, Int.reduceMul, Int.reduceNeg, List.reduceReplicate, Int.reduceToNat]
        · have ek : (a.k != b.k) = true := by simpa using hk
          rw [if_pos hk]
          simp only [ek, zeroL, call_pure pure37 rfl hf, call_pure pure36 rfl hc, call_pure pure20 rfl ra, call_pure pure20 rfl rb, call_pure pure38 rfl ho, xx, r23_0, r23_1, r23_2, r23_3, r23_4, r23_5, res23, tt, bb, bc, ↓bd, Nat.reduceEqDiff, Nat.reduceAdd, Nat.reduceMul, Nat.reduceLeDiff, Nat.reduceLT, ↓reduceIte, reduceCtorEq, Nat.reduceBeqDiff, Nat.reduceBneDiff, Int.reduceBNe, Int.reduceBEq, Int.reduceEq, Int.reduceLT, Int.reduceLE, Int.reduceAdd, Int.reduceSub, Int.reduceMul, Int.reduceNeg, List.reduceReplicate, Int.reduceToNat]
end Go.Proofs.Ytjnopnlgcmlkfaa.G

namespace Go.Proofs.Ytjnopnlgcmlkfaa.G.Gs
open Go.BX
set_option linter.unusedSimpArgs false
end Go.Proofs.Ytjnopnlgcmlkfaa.G.Gs
namespace Go.Proofs.Ytjnopnlgcmlkfaa.G.Gs
open Go.BX
set_option linter.unusedSimpArgs false
set_option linter.unusedVariables false
def Dv (c d a b : Int) : Prop := ∃ x y, a = x * c - y * d ∧ b = x * d + y * c
theorem dv_refl (c d : Int) : Dv c d c d := ⟨1, 0, by grind, by grind⟩
theorem dv_zero (c d : Int) : Dv c d 0 0 := ⟨0, 0, by grind, by grind⟩
theorem dv_trans {p q c d a b : Int} (h1 : Dv p q c d) (h2 : Dv c d a b) : Dv p q a b := by
  obtain ⟨x, y, e1, e2⟩ := h1
  obtain ⟨u, v, e3, e4⟩ := h2
  exact ⟨u * x - v * y, u * y + v * x, by rw [e3, e1, e2]; grind, by rw [e4, e1, e2]; grind⟩
theorem dv_rest {p q a b c d : Int} (h1 : Dv p q a b) (h2 : Dv p q c d) : Dv p q (rX a b c d) (rY a b c d) := by
  obtain ⟨x, y, e1, e2⟩ := h1
  obtain ⟨u, v, e3, e4⟩ := h2
  unfold rX rY
  generalize qX a b c d = s
  generalize qY a b c d = t
  exact ⟨x - (s * u - t * v), y - (s * v + t * u), by rw [e1, e3, e4]; grind, by rw [e2, e3, e4]; grind⟩
theorem dv_back {p q a b c d : Int} (h1 : Dv p q c d) (h2 : Dv p q (rX a b c d) (rY a b c d)) : Dv p q a b := by
  obtain ⟨u, v, e3, e4⟩ := h1
  obtain ⟨x, y, e1, e2⟩ := h2
  unfold rX at e1
  unfold rY at e2
  generalize qX a b c d = s at *
  generalize qY a b c d = t at *
  refine ⟨x + (s * u - t * v), y + (s * v + t * u), ?_, ?_⟩
  · rw [e3, e4] at e1; grind
  · rw [e3, e4] at e2; grind
theorem gcd_dv (a b c d : Int) : Dv (gcdG a b c d).1 (gcdG a b c d).2 a b ∧ Dv (gcdG a b c d).1 (gcdG a b c d).2 c d := by
  induction a, b, c, d using gcdG.induct with
  | case1 a b c d h => rw [gcdG, dif_pos h]; obtain ⟨rfl, rfl⟩ := h; exact ⟨dv_refl _ _, dv_zero _ _⟩
  | case2 a b c d h ih => rw [gcdG, dif_neg h]; exact ⟨dv_back ih.1 ih.2, ih.1⟩
theorem gcd_most (p q a b c d : Int) (h1 : Dv p q a b) (h2 : Dv p q c d) : Dv p q (gcdG a b c d).1 (gcdG a b c d).2 := by
  induction a, b, c, d using gcdG.induct with
  | case1 a b c d h => rw [gcdG, dif_pos h]; exact h1
  | case2 a b c d h ih => rw [gcdG, dif_neg h]; exact ih h2 (dv_rest h1 h2)
theorem fst_dv (a b : Int) : Dv a b (fst2 a b).1 (fst2 a b).2 ∧ Dv (fst2 a b).1 (fst2 a b).2 a b := by
  unfold fst2
  split
  · rename_i h; obtain ⟨rfl, rfl⟩ := h; exact ⟨dv_refl _ _, dv_refl _ _⟩
  split
  · exact ⟨dv_refl _ _, dv_refl _ _⟩
  split
  · exact ⟨⟨0, 1, by grind, by grind⟩, ⟨0, -1, by grind, by grind⟩⟩
  split
  · exact ⟨⟨-1, 0, by grind, by grind⟩, ⟨-1, 0, by grind, by grind⟩⟩
  · exact ⟨⟨0, -1, by grind, by grind⟩, ⟨0, 1, by grind, by grind⟩⟩
theorem fst_sign (a b : Int) : (fst2 a b).1 = 0 ∧ (fst2 a b).2 = 0 ∨ 0 < (fst2 a b).1 ∧ 0 ≤ (fst2 a b).2 := by
  unfold fst2
  split
  · exact Or.inl ⟨rfl, rfl⟩
  split
  · right; assumption
  split
  · right; assumption
  split
  · right; assumption
  · right; show 0 < b ∧ 0 ≤ -a; omega
theorem comm_dv (a b c d : Int) : Dv (CommV a b c d).1 (CommV a b c d).2 a b ∧ Dv (CommV a b c d).1 (CommV a b c d).2 c d := by
  have h1 := gcd_dv a b c d
  have h2 := fst_dv (gcdG a b c d).1 (gcdG a b c d).2
  exact ⟨dv_trans h2.2 h1.1, dv_trans h2.2 h1.2⟩
theorem comm_most (p q a b c d : Int) (h1 : Dv p q a b) (h2 : Dv p q c d) : Dv p q (CommV a b c d).1 (CommV a b c d).2 :=
  dv_trans (gcd_most p q a b c d h1 h2) (fst_dv _ _).1
theorem fst_in {a b : Int} (ha : inR a = true) (hb : inR b = true) : inR (fst2 a b).1 = true ∧ inR (fst2 a b).2 = true := by
  unfold fst2
  simp only [inR_iff] at *
  split
  · exact ⟨by show _ ≤ (0:Int) ∧ _; omega, by show _ ≤ (0:Int) ∧ _; omega⟩
  split
  · exact ⟨ha, hb⟩
  split
  · exact ⟨by show _ ≤ -b ∧ _; omega, ha⟩
  split
  · exact ⟨by show _ ≤ -a ∧ _; omega, by show _ ≤ -b ∧ _; omega⟩
  · exact ⟨hb, by show _ ≤ -a ∧ _; omega⟩
theorem comm_in {a b c d : Int} (ha : inR a = true) (hb : inR b = true) (hc : inR c = true) (hd : inR d = true) : inR (CommV a b c d).1 = true ∧ inR (CommV a b c d).2 = true := by
  have h := gcd_in a b c d ha hb hc hd
  exact fst_in h.1 h.2
theorem one_of {c : Int} (h : c * c ≤ 1) : c = 0 ∨ c = 1 ∨ c = -1 := by have := sq_ge c; omega
end Go.Proofs.Ytjnopnlgcmlkfaa.G.Gs
namespace Go.Proofs.Ytjnopnlgcmlkfaa.G.Gs
open Go.BX
set_option linter.unusedSimpArgs false
set_option linter.unusedVariables false
theorem dv_anti {p q r s : Int} (h1 : Dv p q r s) (h2 : Dv r s p q) (s1 : p = 0 ∧ q = 0 ∨ 0 < p ∧ 0 ≤ q) (s2 : r = 0 ∧ s = 0 ∨ 0 < r ∧ 0 ≤ s) : p = r ∧ q = s := by
  obtain ⟨x, y, e1, e2⟩ := h1
  obtain ⟨u, v, e3, e4⟩ := h2
  rcases s1 with ⟨rfl, rfl⟩ | ⟨p1, p2⟩
  · simp only [Int.mul_zero, Int.sub_zero, Int.add_zero] at e1 e2
    exact ⟨e1.symm, e2.symm⟩
  · have hN : nrm p q = nrm x y * nrm u v * nrm p q := by
      have a1 : nrm r s = nrm x y * nrm p q := by rw [e1, e2]; unfold nrm; grind
      have a2 : nrm p q = nrm u v * nrm r s := by
        have b1 := e3
        have b2 := e4
        have : nrm p q = nrm (u * r - v * s) (u * s + v * r) := by rw [← b1, ← b2]
        rw [this]; unfold nrm; grind
      rw [a1] at a2
      have : nrm u v * (nrm x y * nrm p q) = nrm x y * nrm u v * nrm p q := by grind
      omega
    have hp : 0 < nrm p q := nrm_pos (by omega)
    have n1 := nrm_nonneg x y
    have n2 := nrm_nonneg u v
    have h1 : nrm x y * nrm u v = 1 := by
      have : (nrm x y * nrm u v) * nrm p q = 1 * nrm p q := by omega
      exact Int.eq_of_mul_eq_mul_right (by omega) this
    have hx1 : nrm x y = 1 := by
      have d1 : nrm x y ∣ 1 := ⟨nrm u v, h1.symm⟩
      have := Int.le_of_dvd (by omega) d1
      have h0 : nrm x y ≠ 0 := by intro h; rw [h] at h1; simp at h1
      omega
    have hx2 := sq_nonneg x
    have hy2 := sq_nonneg y
    unfold nrm at hx1
    have hx := one_of (c := x) (by omega)
    have hy := one_of (c := y) (by omega)
    rcases hx with rfl | rfl | rfl <;> rcases hy with rfl | rfl | rfl <;> simp at hx1 e1 e2 <;> omega
theorem comm_sign (a b c d : Int) : (CommV a b c d).1 = 0 ∧ (CommV a b c d).2 = 0 ∨ 0 < (CommV a b c d).1 ∧ 0 ≤ (CommV a b c d).2 := fst_sign _ _
theorem comm_assoc (a b c d e f : Int) : CommV (CommV a b c d).1 (CommV a b c d).2 e f = CommV a b (CommV c d e f).1 (CommV c d e f).2 := by
  have l1 := comm_dv (CommV a b c d).1 (CommV a b c d).2 e f
  have l2 := comm_dv a b c d
  have r1 := comm_dv a b (CommV c d e f).1 (CommV c d e f).2
  have r2 := comm_dv c d e f
  have g1 : Dv (CommV (CommV a b c d).1 (CommV a b c d).2 e f).1 (CommV (CommV a b c d).1 (CommV a b c d).2 e f).2 (CommV a b (CommV c d e f).1 (CommV c d e f).2).1 (CommV a b (CommV c d e f).1 (CommV c d e f).2).2 :=
    comm_most _ _ _ _ _ _ (dv_trans l1.1 l2.1) (comm_most _ _ _ _ _ _ (dv_trans l1.1 l2.2) l1.2)
  have g2 : Dv (CommV a b (CommV c d e f).1 (CommV c d e f).2).1 (CommV a b (CommV c d e f).1 (CommV c d e f).2).2 (CommV (CommV a b c d).1 (CommV a b c d).2 e f).1 (CommV (CommV a b c d).1 (CommV a b c d).2 e f).2 :=
    comm_most _ _ _ _ _ _ (comm_most _ _ _ _ _ _ r1.1 (dv_trans r1.2 r2.1)) (dv_trans r1.2 r2.2)
  have h := dv_anti g1 g2 (comm_sign _ _ _ _) (comm_sign _ _ _ _)
  exact Prod.ext h.1 h.2
end Go.Proofs.Ytjnopnlgcmlkfaa.G.Gs
namespace Go.Proofs.Ytjnopnlgcmlkfaa.G
open Go.BX
set_option linter.unusedSimpArgs false
set_option linter.unusedVariables false
theorem wrapM_in {n L : Int} (hL : 0 < L) (h : -(2 * L) ≤ n ∧ n ≤ 2 * L) : -L ≤ wrapM n L ∧ wrapM n L < L := by
  unfold wrapM; split
  · omega
  · split <;> omega
theorem wrapM_assoc {a b c L : Int} (hL : 0 < L) (ha : -L ≤ a ∧ a ≤ L) (hb : -L ≤ b ∧ b ≤ L) (hc : -L ≤ c ∧ c ≤ L) : wrapM (wrapM (a + b) L + c) L = wrapM (a + wrapM (b + c) L) L := by
  unfold wrapM
  (repeat' split) <;> omega
def mxC {α : Type} (c : α → α → Int) (a b : α) : α := if 0 < c a b then a else b
def mnC {α : Type} (c : α → α → Int) (a b : α) : α := if c a b < 0 then a else b
theorem mx_assoc {α : Type} {c : α → α → Int} (h : IsCmp c) (x y z : α) : mxC c (mxC c x y) z = mxC c x (mxC c y z) := by
  have hxy := h.anti x y
  have hyz := h.anti y z
  have hxz := h.anti x z
  have t1 := h.trans x y z
  have t2 := h.trans y x z
  have t3 := h.trans x z y
  have t4 := h.trans z y x
  unfold mxC
  by_cases a1 : 0 < c x y
  · rw [if_pos a1]
    by_cases a2 : 0 < c y z
    · rw [if_pos a2, if_pos a1]
      by_cases a3 : 0 < c x z
      · rw [if_pos a3]
      · rw [if_neg a3]; exact absurd (t2 (by omega) (by omega)) (by omega)
    · rw [if_neg a2]
  · rw [if_neg a1]
    by_cases a2 : 0 < c y z
    · rw [if_pos a2, if_neg a1]
    · rw [if_neg a2, if_neg]
      have := t1 (by omega) (by omega)
      omega
theorem mn_assoc {α : Type} {c : α → α → Int} (h : IsCmp c) (x y z : α) : mnC c (mnC c x y) z = mnC c x (mnC c y z) := by
  have hxy := h.anti x y
  have hyz := h.anti y z
  have hxz := h.anti x z
  have t1 := h.trans x y z
  have t2 := h.trans x z y
  have zz := h.zero x z
  have zy := h.zero x y
  unfold mnC
  by_cases a1 : c x y < 0
  · rw [if_pos a1]
    by_cases a2 : c y z < 0
    · rw [if_pos a2, if_pos a1, if_pos]
      have := t1 (by omega) (by omega)
      by_cases e : c x z = 0
      · obtain rfl := zz.mp e
        omega
      · omega
    · rw [if_neg a2]
  · rw [if_neg a1]
    by_cases a2 : c y z < 0
    · rw [if_pos a2, if_neg a1]
    · rw [if_neg a2]
      by_cases a3 : c x z < 0
      · have := t2 (by omega) (by omega)
        have e : c x y = 0 := by omega
        obtain rfl := zy.mp e
        exact absurd a3 a2
      · rw [if_neg a3]
abbrev v5 (a : Vl) : V5 := (a.k, a.n, a.s, a.x, a.y)
theorem ordA_cmp : IsCmp ordA where
  rng a b := ord_cmp.rng (v5 a) (v5 b)
  anti a b := ord_cmp.anti (v5 a) (v5 b)
  zero a b := by
    have := ord_cmp.zero (v5 a) (v5 b)
    refine this.trans ⟨fun e => ?_, fun e => by rw [e]⟩
    cases a; cases b
    simp only [v5, Prod.mk.injEq] at e
    obtain ⟨rfl, rfl, rfl, rfl, rfl⟩ := e
    rfl
  trans a b d := ord_cmp.trans (v5 a) (v5 b) (v5 d)
def goodK (w : Bytes) (k : Int) : Prop := w = maxW ∨ w = minW ∨ k ≠ 1
def gF (w : Bytes) (a b : Vl) : Vl := if w = maxW then mxC ordA a b else if w = minW then mnC ordA a b else if a.k = 0 then numF w a.n b.n else ptF w a.x a.y b.x b.y
theorem ok_kind {a : Vl} (h : okV a = true) : a.k = 0 ∧ (-9007199254740992 ≤ a.n ∧ a.n ≤ 9007199254740992) ∨ a.k = 1 ∨ a.k = 2 ∧ inR a.x = true ∧ inR a.y = true := by
  rcases Od.right_cases (show rightV a.k a.n a.s a.x a.y = true from h) with ⟨k0, n0, _⟩ | ⟨k1, _⟩ | ⟨k2, ⟨x0, y0⟩, _⟩
  · exact .inl ⟨k0, n0⟩
  · exact .inr (.inl k1)
  · exact .inr (.inr ⟨k2, x0, y0⟩)
theorem foldR_13 {w : Bytes} {a b : Vl} (hw : isF w = true) (ha : okV a = true) (hb : okV b = true) (h : ¬ (a.k = b.k ∧ goodK w a.k)) : foldR w a b = (zeroL, 13) := by
  unfold foldR
  rw [if_neg (by rw [hw, ha, hb]; decide)]
  by_cases hk : a.k = b.k
  · rw [if_neg (by simpa using hk)]
    have hg : ¬ goodK w a.k := fun hg => h ⟨hk, hg⟩
    unfold goodK at hg
    rw [not_or, not_or] at hg
    obtain ⟨g1, g2, g3⟩ := hg
    have g3 : a.k = 1 := by omega
    rw [if_neg g1, if_neg g2, if_neg (by omega), if_neg (by omega)]
  · rw [if_pos hk]
theorem foldR_g {w : Bytes} {a b : Vl} (hw : isF w = true) (ha : okV a = true) (hb : okV b = true) (hk : a.k = b.k) (hg : goodK w a.k) : foldR w a b = (gF w a b, 0) := by
  unfold foldR gF
  rw [if_neg (by rw [hw, ha, hb]; decide), if_neg (by simpa using hk)]
  by_cases g1 : w = maxW
  · rw [if_pos g1, if_pos g1]; rfl
  rw [if_neg g1, if_neg g1]
  by_cases g2 : w = minW
  · rw [if_pos g2, if_pos g2]; rfl
  rw [if_neg g2, if_neg g2]
  by_cases g0 : a.k = 0
  · rw [if_pos g0, if_pos g0]
  rw [if_neg g0, if_neg g0]
  have : a.k = 2 := by
    have h1 : a.k ≠ 1 := by
      rcases hg with h | h | h
      · exact absurd h g1
      · exact absurd h g2
      · exact h
    rcases ok_kind ha with h | h | h <;> omega
  rw [if_pos this]
theorem gcd_in' {a b : Int} (ha : -9007199254740992 ≤ a ∧ a ≤ 9007199254740992) (hb : -9007199254740992 ≤ b ∧ b ≤ 9007199254740992) : (Int.gcd a b : Int) ≤ 9007199254740992 := by
  by_cases h : a = 0
  · subst h
    rw [Int.gcd_zero_left]; omega
  · have := Int.gcd_le_natAbs_left b h
    omega
theorem num_ok {w : Bytes} {a b : Int} (ha : -9007199254740992 ≤ a ∧ a ≤ 9007199254740992) (hb : -9007199254740992 ≤ b ∧ b ≤ 9007199254740992) : okV (numF w a b) = true ∧ (numF w a b).k = 0 := by
  unfold numF
  split
  · have h := wrapM_in (n := a + b) (L := 9007199254740992) (by omega) (by omega)
    refine ⟨?_, rfl⟩
    unfold okV rightV
    simp only [if_true]
    simp
    omega
  · have h := gcd_in' ha hb
    refine ⟨?_, rfl⟩
    unfold okV rightV
    simp only [if_true]
    simp
    omega
theorem pt_ok {w : Bytes} {a b c d : Int} (ha : inR a = true) (hb : inR b = true) (hc : inR c = true) (hd : inR d = true) : okV (ptF w a b c d) = true ∧ (ptF w a b c d).k = 2 := by
  unfold ptF
  have z2 : ((2 : Int) = 0) = False := by decide
  have z1 : ((2 : Int) = 1) = False := by decide
  split
  · have i1 := Od.inR_iff.mp ha
    have i2 := Od.inR_iff.mp hb
    have i3 := Od.inR_iff.mp hc
    have i4 := Od.inR_iff.mp hd
    have h1 := wrapM_in (n := a + c) (L := 16777216) (by omega) (by omega)
    have h2 := wrapM_in (n := b + d) (L := 16777216) (by omega) (by omega)
    refine ⟨?_, rfl⟩
    unfold okV rightV
    have j1 : inR (wrapM (a + c) 16777216) = true := Od.inR_iff.mpr (by omega)
    have j2 : inR (wrapM (b + d) 16777216) = true := Od.inR_iff.mpr (by omega)
    simp only [z1, z2, if_false, if_true, j1, j2]
    decide
  · obtain ⟨j1, j2⟩ := Gs.comm_in ha hb hc hd
    refine ⟨?_, rfl⟩
    unfold okV rightV
    have j1' : inR (Gs.CommV a b c d).1 = true := j1
    have j2' : inR (Gs.CommV a b c d).2 = true := j2
    simp only [z1, z2, if_false, if_true, j1', j2']
    decide
theorem gF_ok {w : Bytes} {a b : Vl} (ha : okV a = true) (hb : okV b = true) (hk : a.k = b.k) (hg : goodK w a.k) : okV (gF w a b) = true ∧ (gF w a b).k = a.k := by
  unfold gF
  split
  · unfold mxC; split
    · exact ⟨ha, rfl⟩
    · exact ⟨hb, hk.symm⟩
  rename_i g1
  split
  · unfold mnC; split
    · exact ⟨ha, rfl⟩
    · exact ⟨hb, hk.symm⟩
  rename_i g2
  rcases ok_kind ha with ⟨k0, n0⟩ | k1 | ⟨k2, x0, y0⟩
  · rw [if_pos k0]
    rcases ok_kind hb with ⟨q0, m0⟩ | q1 | ⟨q2, _⟩
    · have := num_ok (w := w) n0 m0
      exact ⟨this.1, by rw [this.2, k0]⟩
    · omega
    · omega
  · rcases hg with h | h | h
    · exact absurd h g1
    · exact absurd h g2
    · exact absurd k1 h
  · rw [if_neg (by omega)]
    rcases ok_kind hb with ⟨q0, m0⟩ | q1 | ⟨q2, x1, y1⟩
    · omega
    · omega
    · have := pt_ok (w := w) x0 y0 x1 y1
      exact ⟨this.1, by rw [this.2, k2]⟩
theorem num_assoc {w : Bytes} {a b c : Int} (ha : -9007199254740992 ≤ a ∧ a ≤ 9007199254740992) (hb : -9007199254740992 ≤ b ∧ b ≤ 9007199254740992) (hc : -9007199254740992 ≤ c ∧ c ≤ 9007199254740992) : numF w (numF w a b).n c = numF w a (numF w b c).n := by
  unfold numF
  by_cases h : w = sumW
  · simp only [if_pos h]
    have := wrapM_assoc (L := 9007199254740992) (by omega) ha hb hc
    rw [this]
  · simp only [if_neg h]
    have : Int.gcd ((Int.gcd a b : Nat) : Int) c = Int.gcd a ((Int.gcd b c : Nat) : Int) := by
      unfold Int.gcd
      rw [Int.natAbs_natCast, Int.natAbs_natCast, Nat.gcd_assoc]
    rw [this]
theorem pt_assoc {w : Bytes} {a b c d e f : Int} (ha : inR a = true) (hb : inR b = true) (hc : inR c = true) (hd : inR d = true) (he : inR e = true) (hf : inR f = true) : ptF w (ptF w a b c d).x (ptF w a b c d).y e f = ptF w a b (ptF w c d e f).x (ptF w c d e f).y := by
  unfold ptF
  by_cases h : w = sumW
  · simp only [if_pos h]
    have i1 := Od.inR_iff.mp ha
    have i2 := Od.inR_iff.mp hb
    have i3 := Od.inR_iff.mp hc
    have i4 := Od.inR_iff.mp hd
    have i5 := Od.inR_iff.mp he
    have i6 := Od.inR_iff.mp hf
    rw [wrapM_assoc (L := 16777216) (by omega) i1 i3 i5, wrapM_assoc (L := 16777216) (by omega) i2 i4 i6]
  · simp only [if_neg h]
    rw [Gs.comm_assoc]
theorem gF_assoc {w : Bytes} {a b c : Vl} (ha : okV a = true) (hb : okV b = true) (hc : okV c = true) (h1 : a.k = b.k) (h2 : b.k = c.k) (hg : goodK w a.k) : gF w (gF w a b) c = gF w a (gF w b c) := by
  have kab := (gF_ok ha hb h1 hg).2
  unfold gF at kab ⊢
  by_cases g1 : w = maxW
  · simp only [if_pos g1]; exact mx_assoc ordA_cmp a b c
  by_cases g2 : w = minW
  · simp only [if_neg g1, if_pos g2]; exact mn_assoc ordA_cmp a b c
  simp only [if_neg g1, if_neg g2] at kab ⊢
  rcases ok_kind ha with ⟨k0, n0⟩ | k1 | ⟨k2, x0, y0⟩
  · have q0 : b.k = 0 := by omega
    rcases ok_kind hb with ⟨_, m0⟩ | q1 | ⟨q2, _⟩ <;> rcases ok_kind hc with ⟨_, o0⟩ | r1 | ⟨r2, _⟩ <;> try omega
    simp only [if_pos k0, if_pos q0] at kab ⊢
    rw [if_pos (by omega)]
    exact num_assoc n0 m0 o0
  · rcases hg with h | h | h
    · exact absurd h g1
    · exact absurd h g2
    · exact absurd k1 h
  · have q0 : ¬ b.k = 0 := by omega
    have p0 : ¬ a.k = 0 := by omega
    rcases ok_kind hb with ⟨_, m0⟩ | q1 | ⟨q2, x1, y1⟩ <;> rcases ok_kind hc with ⟨_, o0⟩ | r1 | ⟨r2, x2, y2⟩ <;> try omega
    simp only [if_neg p0, if_neg q0] at kab ⊢
    rw [if_neg (by omega)]
    exact pt_assoc x0 y0 x1 y1 x2 y2
end Go.Proofs.Ytjnopnlgcmlkfaa.G

namespace Go.Proofs.Ytjnopnlgcmlkfaa.G
open Go.BX
set_option linter.unusedSimpArgs false
set_option linter.unusedVariables false
end Go.Proofs.Ytjnopnlgcmlkfaa.G

namespace Go.Proofs.Ytjnopnlgcmlkfaa.G
open Go.BX
set_option linter.unusedSimpArgs false
set_option linter.unusedVariables false
def PS (l : List Pr) (r : AV) (i : Nat) (acc : Int) : Prop :=
  ∀ (T : Nat → AV) (H : AHeap), T 0 = .vec 6 (l.map encP) → T 3 = .int .i64 acc → T 4 = .int .i64 (i : Int) →
    Run Cx 6 T [] none [.inLoop c6_9, .inBlock 0, .code c6_19] H (fun r0 H' => BX.freeze H' r0 = some r)
theorem ps_end {l : List Pr} {i : Nat} {acc : Int} (hl : l.length ≤ maxLen) (hi : l.length ≤ i ∨ 100 < i) : ∃ r : Int, (r = 0 ∨ r = 1 ∧ l.length ≤ 100) ∧ PS l (.int .i64 r) i acc := by
  by_cases h100 : (100 : Int) < ((l.map encP).length : Int)
  · refine ⟨0, .inl rfl, ?_⟩
    intro T H t0 t3 t4
    rw [run_inLoop]
    by_cases h1 : (i : Int) < ((l.map encP).length : Int)
    · have h2 : ¬ (i : Int) ≤ 100 := by rw [List.length_map] at h1; omega
      simp only [t0, t3, t4, h1, h2, h100, xx, r6_0, r6_1, r6_2, r6_3, res6, tt, bb, bc, ↓bd, Nat.reduceEqDiff, Nat.reduceAdd, Nat.reduceMul, Nat.reduceLeDiff, Nat.reduceLT, ↓reduceIte, reduceCtorEq, Nat.reduceBeqDiff, Nat.reduceBneDiff, Int.reduceBNe, Int.reduceBEq, Int.reduceEq, Int.reduceLT, Int.reduceLE, Int.reduceAdd, Int.reduceSub, Int.reduceMul, Int.reduceNeg, List.reduceReplicate, Int.reduceToNat]
    · simp only [t0, t3, t4, h1, h100, xx, r6_0, r6_1, r6_2, r6_3, res6, tt, bb, bc, ↓bd, Nat.reduceEqDiff, Nat.reduceAdd, Nat.reduceMul, Nat.reduceLeDiff, Nat.reduceLT, ↓reduceIte, reduceCtorEq, Nat.reduceBeqDiff, Nat.reduceBneDiff, Int.reduceBNe, Int.reduceBEq, Int.reduceEq, Int.reduceLT, Int.reduceLE, Int.reduceAdd, Int.reduceSub, Int.reduceMul, Int.reduceNeg, List.reduceReplicate, Int.reduceToNat]
  · have hle : l.length ≤ 100 := by rw [List.length_map] at h100; omega
    have h1 : ¬ (i : Int) < ((l.map encP).length : Int) := by rw [List.length_map]; omega
    by_cases h3 : (10000 : Int) < acc
    · refine ⟨0, .inl rfl, ?_⟩
      intro T H t0 t3 t4
      rw [run_inLoop]
      simp only [t0, t3, t4, h1, h3, h100, xx, r6_0, r6_1, r6_2, r6_3, res6, tt, bb, bc, ↓bd, Nat.reduceEqDiff, Nat.reduceAdd, Nat.reduceMul, Nat.reduceLeDiff, Nat.reduceLT, ↓reduceIte, reduceCtorEq, Nat.reduceBeqDiff, Nat.reduceBneDiff, Int.reduceBNe, Int.reduceBEq, Int.reduceEq, Int.reduceLT, Int.reduceLE, Int.reduceAdd, Int.reduceSub, Int.reduceMul, Int.reduceNeg, List.reduceReplicate, Int.reduceToNat]
    · refine ⟨1, .inr ⟨rfl, hle⟩, ?_⟩
      intro T H t0 t3 t4
      rw [run_inLoop]
      simp only [t0, t3, t4, h1, h3, h100, xx, r6_0, r6_1, r6_2, r6_3, res6, tt, bb, bc, ↓bd, Nat.reduceEqDiff, Nat.reduceAdd, Nat.reduceMul, Nat.reduceLeDiff, Nat.reduceLT, ↓reduceIte, reduceCtorEq, Nat.reduceBeqDiff, Nat.reduceBneDiff, Int.reduceBNe, Int.reduceBEq, Int.reduceEq, Int.reduceLT, Int.reduceLE, Int.reduceAdd, Int.reduceSub, Int.reduceMul, Int.reduceNeg, List.reduceReplicate, Int.reduceToNat]
theorem ps_all {l : List Pr} (hl : l.length ≤ maxLen) : ∀ (j i : Nat) (acc : Int), 101 ≤ i + j → i ≤ 101 → 0 ≤ acc → acc ≤ 200000 * i → ∃ r : Int, (r = 0 ∨ r = 1 ∧ l.length ≤ 100) ∧ PS l (.int .i64 r) i acc
  | 0, i, acc, hj, hi, h0, h1 => ps_end hl (.inr (by omega))
  | j + 1, i, acc, hj, hi, h0, h1 => by
    by_cases hil : l.length ≤ i
    · exact ps_end hl (.inl hil)
    by_cases hi100 : 100 < i
    · exact ps_end hl (.inr hi100)
    have hlt : i < l.length := by omega
    have hg := enc_get (List.getElem?_eq_getElem hlt)
    have k1 : (i : Int) < ((l.map encP).length : Int) := by rw [List.length_map]; omega
    have k2 : (i : Int) ≤ 100 := by omega
    have k0 : (0 : Int) ≤ (i : Int) := by omega
    have w3 : IntKind.i64.wrap ((i : Int) + 1) = ((i + 1 : Nat) : Int) := by rw [wr64 (by omega) (by omega)]; omega
    have m1 : ∀ a : Nat, 0 ≤ (if (100000 : Int) < (a : Int) then (100000 : Int) else (a : Int)) ∧ (if (100000 : Int) < (a : Int) then (100000 : Int) else (a : Int)) ≤ 100000 := by
      intro a; split <;> omega
    have ma := m1 l[i].key.length
    have mb := m1 l[i].s.length
    obtain ⟨r, hr, hp⟩ := ps_all hl j (i + 1) (acc + (if (100000 : Int) < (l[i].key.length : Int) then 100000 else (l[i].key.length : Int)) + (if (100000 : Int) < (l[i].s.length : Int) then 100000 else (l[i].s.length : Int))) (by omega) (by omega) (by omega) (by omega)
    refine ⟨r, hr, ?_⟩
    intro T H t0 t3 t4
    rw [run_inLoop]
    generalize hA : (if (100000 : Int) < (l[i].key.length : Int) then (100000 : Int) else (l[i].key.length : Int)) = a at *
    generalize hB : (if (100000 : Int) < (l[i].s.length : Int) then (100000 : Int) else (l[i].s.length : Int)) = b at *
    have w1 : IntKind.i64.wrap (acc + a) = acc + a := wr64 (by omega) (by omega)
    have w2 : IntKind.i64.wrap (acc + a + b) = acc + a + b := wr64 (by omega) (by omega)
    simp only [t0, t3, t4, k0, k1, k2, hg, w1, w2, w3, hA, hB, minA, Int.toNat_natCast, xx, r6_0, r6_1, r6_2, r6_3, res6, tt, bb, bc, ↓bd, Nat.reduceEqDiff, Nat.reduceAdd, Nat.reduceMul, Nat.reduceLeDiff, Nat.reduceLT, ↓reduceIte, reduceCtorEq, Nat.reduceBeqDiff, Nat.reduceBneDiff, Int.reduceBNe, Int.reduceBEq, Int.reduceEq, Int.reduceLT, Int.reduceLE, Int.reduceAdd, Int.reduceSub, Int.reduceMul, Int.reduceNeg, List.reduceReplicate, Int.reduceToNat]
    refine hp _ _ ?_ ?_ ?_
    all_goals simp only [upd_app, t0, Nat.reduceEqDiff, ↓reduceIte]
theorem Small_ok {v : AV} {l : List Pr} (hv : InL v l) (hl : l.length ≤ maxLen) : ∃ r : Int, (r = 0 ∨ r = 1 ∧ l.length ≤ 100) ∧ PCall Cx 6 [v] (.int .i64 r) := by
  rcases hv with ⟨rfl, rfl⟩ | rfl
  · refine ⟨1, .inr ⟨rfl, by simp⟩, ?_⟩
    refine pcall_run (noext _) body6 ?_
    simp only [xx, run_inLoop, r6_0, r6_1, r6_2, r6_3, res6, tt, bb, bc, ↓bd, Nat.reduceEqDiff, Nat.reduceAdd, Nat.reduceMul, Nat.reduceLeDiff, Nat.reduceLT, ↓reduceIte, reduceCtorEq, Nat.reduceBeqDiff, Nat.reduceBneDiff, Int.reduceBNe, Int.reduceBEq, Int.reduceEq, Int.reduceLT, Int.reduceLE, Int.reduceAdd, Int.reduceSub, Int.reduceMul, Int.reduceNeg, List.reduceReplicate, Int.reduceToNat]
  · obtain ⟨r, hr, hp⟩ := ps_all hl 101 0 0 (by omega) (by omega) (by omega) (by omega)
    refine ⟨r, hr, pcall_run (noext _) body6 ?_⟩
    simp only [r6_0, r6_1.1, r6_1.2.2.1, r6_1.2.2.2.1, r6_1.2.2.2.2.1, r6_1.2.2.2.2.2.1, r6_1.2.2.2.2.2.2.1, r6_1.2.2.2.2.2.2.2, r6_2.1, r6_2.2.1, r6_2.2.2.1, r6_2.2.2.2.2.1, r6_2.2.2.2.2.2.1, r6_2.2.2.2.2.2.2.1, r6_2.2.2.2.2.2.2.2, r6_3, res6, tt, bb, bc, ↓bd, Nat.reduceEqDiff, Nat.reduceAdd, Nat.reduceMul, Nat.reduceLeDiff, Nat.reduceLT, ↓reduceIte, reduceCtorEq, Nat.reduceBeqDiff, Nat.reduceBneDiff, Int.reduceBNe, Int.reduceBEq, Int.reduceEq, Int.reduceLT, Int.reduceLE, Int.reduceAdd, Int.reduceSub, Int.reduceMul, Int.reduceNeg, List.reduceReplicate, Int.reduceToNat]
    refine hp _ _ ?_ ?_ ?_
    all_goals simp only [upd_app, enterT, List.getElem?_cons_zero, Option.getD_some, Nat.reduceEqDiff, ↓reduceIte]
    all_goals rfl
def PE (l : List Pr) (i : Nat) : Prop :=
  ∀ (T : Nat → AV) (H : AHeap), T 0 = .vec 6 (l.map encP) → T 1 = .vec 6 (l.map encP) → T 5 = .int .i64 (i : Int) →
    Run Cx 11 T [] none [.inLoop c11_15, .inBlock 0, .code c11_31] H (fun r0 H' => BX.freeze H' r0 = some (.bool true))
theorem pe_all {l : List Pr} (hl : l.length ≤ 100000) : ∀ (j i : Nat), i + j = l.length → PE l i
  | 0, i, hij => by
    intro T H t0 t1 t5
    rw [run_inLoop]
    have h0 : ((i : Int) < ((l.map encP).length : Int)) = False := eq_false (by rw [List.length_map]; omega)
    simp only [t0, t1, t5, h0, xx, r11_0, r11_1, r11_2, r11_3, r11_4, res11, tt, bb, bc, ↓bd, Nat.reduceEqDiff, Nat.reduceAdd, Nat.reduceMul, Nat.reduceLeDiff, Nat.reduceLT, ↓reduceIte, reduceCtorEq, Nat.reduceBeqDiff, Nat.reduceBneDiff, Int.reduceBNe, Int.reduceBEq, Int.reduceEq, Int.reduceLT, Int.reduceLE, Int.reduceAdd, Int.reduceSub, Int.reduceMul, Int.reduceNeg, List.reduceReplicate, Int.reduceToNat]
  | j + 1, i, hij => by
    intro T H t0 t1 t5
    rw [run_inLoop]
    have hi : i < l.length := by omega
    have h0 : ((i : Int) < ((l.map encP).length : Int)) = True := eq_true (by rw [List.length_map]; omega)
    have hi0 : (0 : Int) ≤ (i : Int) := by omega
    have hg := enc_get (List.getElem?_eq_getElem hi)
    have w1 : IntKind.i64.wrap ((i : Int) + 1) = ((i + 1 : Nat) : Int) := by rw [wr64 (by omega) (by omega)]; omega
    simp only [t0, t1, t5, h0, hi0, hg, w1, Int.toNat_natCast, xx, r11_0, r11_1, r11_2, r11_3, r11_4, res11, tt, bb, bc, ↓bd, Nat.reduceEqDiff, Nat.reduceAdd, Nat.reduceMul, Nat.reduceLeDiff, Nat.reduceLT, ↓reduceIte, reduceCtorEq, Nat.reduceBeqDiff, Nat.reduceBneDiff, Int.reduceBNe, Int.reduceBEq, Int.reduceEq, Int.reduceLT, Int.reduceLE, Int.reduceAdd, Int.reduceSub, Int.reduceMul, Int.reduceNeg, List.reduceReplicate, Int.reduceToNat]
    refine pe_all hl j (i + 1) (by omega) _ _ ?_ ?_ ?_
    all_goals simp only [upd_app, t0, t1, Nat.reduceEqDiff, ↓reduceIte]
theorem SamePairs_ok {v w : AV} {l : List Pr} (hv : InL v l) (hw : InL w l) (hl : l.length ≤ 100000) : PCall Cx 11 [v, w] (.bool true) := by
  refine pcall_run (noext _) body11 ?_
  by_cases he : l = []
  · subst he
    rcases hv with ⟨rfl, _⟩ | rfl <;> rcases hw with ⟨rfl, _⟩ | rfl <;>
    simp only [List.map_nil, xx, run_inLoop, r11_0, r11_1, r11_2, r11_3, r11_4, res11, tt, bb, bc, ↓bd, Nat.reduceEqDiff, Nat.reduceAdd, Nat.reduceMul, Nat.reduceLeDiff, Nat.reduceLT, ↓reduceIte, reduceCtorEq, Nat.reduceBeqDiff, Nat.reduceBneDiff, Int.reduceBNe, Int.reduceBEq, Int.reduceEq, Int.reduceLT, Int.reduceLE, Int.reduceAdd, Int.reduceSub, Int.reduceMul, Int.reduceNeg, List.reduceReplicate, Int.reduceToNat]
  · have hv' : v = .vec 6 (l.map encP) := by rcases hv with ⟨_, h⟩ | h; exact absurd h he; exact h
    have hw' : w = .vec 6 (l.map encP) := by rcases hw with ⟨_, h⟩ | h; exact absurd h he; exact h
    subst hv' hw'
    have hp := pe_all hl l.length 0 (by omega)
    simp only [r11_0, r11_1.1, r11_1.2.1, r11_1.2.2.1, r11_1.2.2.2.1, r11_1.2.2.2.2.1, r11_1.2.2.2.2.2.1, r11_1.2.2.2.2.2.2.1, r11_2, r11_3.1, r11_3.2.1, r11_3.2.2.1, r11_3.2.2.2.1, r11_3.2.2.2.2.1, r11_3.2.2.2.2.2.1, r11_3.2.2.2.2.2.2.1, r11_4, res11, tt, bb, bc, ↓bd, Nat.reduceEqDiff, Nat.reduceAdd, Nat.reduceMul, Nat.reduceLeDiff, Nat.reduceLT, ↓reduceIte, reduceCtorEq, Nat.reduceBeqDiff, Nat.reduceBneDiff, Int.reduceBNe, Int.reduceBEq, Int.reduceEq, Int.reduceLT, Int.reduceLE, Int.reduceAdd, Int.reduceSub, Int.reduceMul, Int.reduceNeg, List.reduceReplicate, Int.reduceToNat]
    refine hp _ _ ?_ ?_ ?_
    all_goals simp only [upd_app, enterT, List.getElem?_cons_zero, List.getElem?_cons_succ, Option.getD_some, Nat.reduceEqDiff, ↓reduceIte]
    all_goals rfl
end Go.Proofs.Ytjnopnlgcmlkfaa.G

namespace Go.Proofs.Ytjnopnlgcmlkfaa.G
open Go.BX
set_option linter.unusedSimpArgs false
set_option linter.unusedVariables false
theorem bl_irr : ∀ (a : Bytes), lessB a a = false
  | [] => rfl
  | x :: a => by
    show (decide (x < x) || (x == x && lessB a a)) = false
    rw [bl_irr a]
    simp
theorem bl_trans : ∀ (a b c : Bytes), lessB a b = true → lessB b c = true → lessB a c = true
  | [], [], c, h1, h2 => by cases h1
  | [], y :: b, [], h1, h2 => by cases h2
  | [], y :: b, z :: c, h1, h2 => rfl
  | x :: a, [], c, h1, h2 => by cases h1
  | x :: a, y :: b, [], h1, h2 => by cases h2
  | x :: a, y :: b, z :: c, h1, h2 => by
    have h1' : (decide (x < y) || (x == y && lessB a b)) = true := h1
    have h2' : (decide (y < z) || (y == z && lessB b c)) = true := h2
    show (decide (x < z) || (x == z && lessB a c)) = true
    simp only [Bool.or_eq_true, Bool.and_eq_true, decide_eq_true_eq, beq_iff_eq] at h1' h2' ⊢
    rcases h1' with k1 | ⟨e1, k1⟩ <;> rcases h2' with k2 | ⟨e2, k2⟩
    · exact .inl (UInt8.lt_trans k1 k2)
    · exact .inl (e2 ▸ k1)
    · exact .inl (e1 ▸ k2)
    · exact .inr ⟨e1.trans e2, bl_trans a b c k1 k2⟩
theorem bl_tot : ∀ (a b : Bytes), lessB a b = false → lessB b a = false → a = b
  | [], [], h1, h2 => rfl
  | [], y :: b, h1, h2 => by cases h1
  | x :: a, [], h1, h2 => by cases h2
  | x :: a, y :: b, h1, h2 => by
    have h1' : (decide (x < y) || (x == y && lessB a b)) = false := h1
    have h2' : (decide (y < x) || (y == x && lessB b a)) = false := h2
    simp only [Bool.or_eq_false_iff, Bool.and_eq_false_imp, decide_eq_false_iff_not, beq_iff_eq] at h1' h2'
    have e : x = y := by
      rcases UInt8.lt_or_lt_of_ne (a := x) (b := y) |> fun h => Classical.or_iff_not_imp_left.mpr (fun hn : ¬ x = y => h hn) with h | h | h
      · exact h
      · exact absurd h h1'.1
      · exact absurd h h2'.1
    subst e
    rw [bl_tot a b (h1'.2 rfl) (h2'.2 rfl)]
theorem bl_asym {a b : Bytes} (h : lessB a b = true) : lessB b a = false := by
  cases h2 : lessB b a with
  | false => rfl
  | true => have := bl_trans a b a h h2; rw [bl_irr] at this; cases this
theorem bl_le {a b c : Bytes} (h1 : lessB b a = false) (h2 : lessB c b = false) : lessB c a = false := by
  cases h : lessB c a with
  | false => rfl
  | true =>
    cases hb : lessB b c with
    | true => have := bl_trans b c a hb h; rw [h1] at this; cases this
    | false => have e := bl_tot b c hb h2; subst e; rw [h1] at h; cases h
theorem bl_lt_le {a b c : Bytes} (h1 : lessB a b = true) (h2 : lessB c b = false) : lessB a c = true := by
  cases h : lessB a c with
  | true => rfl
  | false => have := bl_le h2 h; rw [h1] at this; cases this
theorem bl_le_lt {a b c : Bytes} (h1 : lessB b a = false) (h2 : lessB b c = true) : lessB a c = true := by
  cases h : lessB a c with
  | true => rfl
  | false => have := bl_le h h1; rw [h2] at this; cases this
theorem bl_ne {a b : Bytes} (h : lessB a b = true) : a ≠ b := by
  intro e; subst e; rw [bl_irr] at h; cases h
abbrev ltP (p q : Pr) : Bool := lessB p.key q.key
def sw (f : Nat → Pr) (i j : Nat) : Nat → Pr := fun k => if k = i then f j else if k = j then f i else f k
def swp (f : Nat → Pr) (a b m : Nat) : Nat → Pr := fun k => if a ≤ k ∧ k < a + m then f (k - a + b) else if b ≤ k ∧ k < b + m then f (k - b + a) else f k
def rot (f : Nat → Pr) (a m b : Nat) : Nat → Pr := fun k => if a ≤ k ∧ k < a + (b - m) then f (k - a + m) else if a + (b - m) ≤ k ∧ k < b then f (k - (b - m)) else f k
theorem swp_zero (f : Nat → Pr) (a b : Nat) : swp f a b 0 = f := by
  funext k
  unfold swp
  rw [if_neg (by omega), if_neg (by omega)]
theorem swp_succ (f : Nat → Pr) {a b m i : Nat} (hab : a + m ≤ b) (hi : i < m) : sw (swp f a b i) (a + i) (b + i) = swp f a b (i + 1) := by
  funext k
  unfold sw swp
  repeat' split
  all_goals first | (exfalso; omega) | exact congrArg f (by omega)
theorem rot_gt (f : Nat → Pr) {m i j : Nat} (hi : i ≤ m) (h : j < i) : rot f (m - i) m (m + j) = rot (swp f (m - i) m j) (m - (i - j)) m (m + j) := by
  funext k
  unfold rot swp
  repeat' split
  all_goals first | (exfalso; omega) | exact congrArg f (by omega)
theorem rot_lt (f : Nat → Pr) {m i j : Nat} (hi : i ≤ m) (h : i < j) : rot f (m - i) m (m + j) = rot (swp f (m - i) (m + j - i) i) (m - i) m (m + (j - i)) := by
  funext k
  unfold rot swp
  repeat' split
  all_goals first | (exfalso; omega) | exact congrArg f (by omega)
theorem rot_eq (f : Nat → Pr) {m i : Nat} (hi : i ≤ m) : rot f (m - i) m (m + i) = swp f (m - i) m i := by
  funext k
  unfold rot swp
  repeat' split
  all_goals first | (exfalso; omega) | exact congrArg f (by omega)
theorem rot_nil (f : Nat → Pr) (a b : Nat) : rot f a a b = f := by
  funext k
  unfold rot
  repeat' split
  all_goals first | (exfalso; omega) | exact congrArg f (by omega)
theorem rot_nil' (f : Nat → Pr) (a b : Nat) : rot f a b b = f := by
  funext k
  unfold rot
  repeat' split
  all_goals first | (exfalso; omega) | exact congrArg f (by omega)
theorem rot_sw (f : Nat → Pr) (j : Nat) : rot f j (j + 1) (j + 2) = sw f j (j + 1) := by
  funext k
  unfold rot sw
  repeat' split
  all_goals first | (exfalso; omega) | exact congrArg f (by omega)
theorem rot_up (f : Nat → Pr) {a k : Nat} (h : a ≤ k) : sw (rot f a (a + 1) (k + 1)) k (k + 1) = rot f a (a + 1) (k + 2) := by
  funext x
  unfold rot sw
  dsimp only
  repeat' split
  all_goals first | (exfalso; omega) | exact congrArg f (by omega)
theorem rot_down (f : Nat → Pr) {k m : Nat} (h : k < m) : sw (rot f (k + 1) m (m + 1)) (k + 1) k = rot f k m (m + 1) := by
  funext x
  unfold rot sw
  dsimp only
  repeat' split
  all_goals first | (exfalso; omega) | exact congrArg f (by omega)
def seg (f : Nat → Pr) (a m : Nat) : List Pr := (List.range m).map fun i => f (a + i)
theorem seg_len (f : Nat → Pr) (a m : Nat) : (seg f a m).length = m := by simp [seg]
theorem seg_congr {f g : Nat → Pr} {a b m : Nat} (h : ∀ i, i < m → f (a + i) = g (b + i)) : seg f a m = seg g b m := by
  unfold seg
  exact List.map_congr_left fun i hi => h i (List.mem_range.mp hi)
theorem seg_add (f : Nat → Pr) (a m k : Nat) : seg f a (m + k) = seg f a m ++ seg f (a + m) k := by
  unfold seg
  rw [List.range_add, List.map_append, List.map_map]
  congr 1
  apply List.map_congr_left
  intro i _
  simp only [Function.comp]
  congr 1
  omega
theorem mem_seg {f : Nat → Pr} {a m : Nat} {p : Pr} : p ∈ seg f a m ↔ ∃ i, a ≤ i ∧ i < a + m ∧ f i = p := by
  unfold seg
  rw [List.mem_map]
  constructor
  · rintro ⟨i, hi, rfl⟩
    have := List.mem_range.mp hi
    exact ⟨a + i, by omega, by omega, rfl⟩
  · rintro ⟨i, h1, h2, rfl⟩
    exact ⟨i - a, List.mem_range.mpr (by omega), by rw [show a + (i - a) = i by omega]⟩
def ofKey (κ : Bytes) (l : List Pr) : List Pr := l.filter fun p => p.key == κ
theorem ofKey_app (κ : Bytes) (a b : List Pr) : ofKey κ (a ++ b) = ofKey κ a ++ ofKey κ b := by
  unfold ofKey
  exact List.filter_append ..
theorem ofKey_none {κ : Bytes} {l : List Pr} (h : ∀ p, p ∈ l → p.key ≠ κ) : ofKey κ l = [] := by
  unfold ofKey
  rw [List.filter_eq_nil_iff]
  intro p hp
  simpa using h p hp
theorem ofKey_swap {κ : Bytes} {a b : List Pr} (h : ∀ p q, p ∈ a → q ∈ b → p.key ≠ q.key) : ofKey κ (a ++ b) = ofKey κ (b ++ a) := by
  rw [ofKey_app, ofKey_app]
  by_cases ha : ∃ p, p ∈ a ∧ p.key = κ
  · obtain ⟨p, hp, rfl⟩ := ha
    rw [ofKey_none (l := b) (fun q hq e => h p q hp hq e.symm), List.append_nil, List.nil_append]
  · rw [ofKey_none (l := a) (fun p hp e => ha ⟨p, hp, e⟩), List.append_nil, List.nil_append]
def Mv (a b : Nat) (f g : Nat → Pr) : Prop := (∀ k, k < a ∨ b ≤ k → g k = f k) ∧ ∀ κ, ofKey κ (seg g a (b - a)) = ofKey κ (seg f a (b - a))
theorem Mv.refl (a b : Nat) (f : Nat → Pr) : Mv a b f f := ⟨fun _ _ => rfl, fun _ => rfl⟩
theorem Mv.trans {a b : Nat} {f g h : Nat → Pr} (x : Mv a b f g) (y : Mv a b g h) : Mv a b f h :=
  ⟨fun k hk => (y.1 k hk).trans (x.1 k hk), fun κ => (y.2 κ).trans (x.2 κ)⟩
theorem Mv.wide {a b a' b' : Nat} {f g : Nat → Pr} (x : Mv a b f g) (ha : a' ≤ a) (hab : a ≤ b) (hb : b ≤ b') : Mv a' b' f g := by
  refine ⟨fun k hk => x.1 k (by omega), fun κ => ?_⟩
  have e : b' - a' = (a - a') + ((b - a) + (b' - b)) := by omega
  rw [e, seg_add, seg_add, seg_add, seg_add, ofKey_app, ofKey_app, ofKey_app, ofKey_app]
  rw [show a' + (a - a') = a by omega, x.2 κ]
  rw [seg_congr (f := g) (g := f) (a := a') (b := a') (fun i hi => x.1 _ (by omega)), seg_congr (f := g) (g := f) (a := a + (b - a)) (b := a + (b - a)) (fun i hi => x.1 _ (by omega))]
theorem Mv.mem {a b : Nat} {f g : Nat → Pr} (x : Mv a b f g) {i : Nat} (h1 : a ≤ i) (h2 : i < b) : ∃ j, a ≤ j ∧ j < b ∧ f j = g i := by
  have hm : g i ∈ ofKey (g i).key (seg g a (b - a)) := by
    unfold ofKey
    rw [List.mem_filter]
    exact ⟨mem_seg.mpr ⟨i, h1, by omega, rfl⟩, by simp⟩
  rw [x.2] at hm
  unfold ofKey at hm
  rw [List.mem_filter] at hm
  obtain ⟨j, j1, j2, j3⟩ := mem_seg.mp hm.1
  exact ⟨j, j1, by omega, j3⟩
theorem rot_mv {f : Nat → Pr} {a m b : Nat} (h1 : a ≤ m) (h2 : m ≤ b) (h : ∀ p q, a ≤ p → p < m → m ≤ q → q < b → (f p).key ≠ (f q).key) : Mv a b f (rot f a m b) := by
  constructor
  · intro k hk
    unfold rot
    rw [if_neg (by omega), if_neg (by omega)]
  · intro κ
    have e1 : b - a = (m - a) + (b - m) := by omega
    have e2 : b - a = (b - m) + (m - a) := by omega
    have s1 : seg f a (b - a) = seg f a (m - a) ++ seg f m (b - m) := by
      rw [e1, seg_add, show a + (m - a) = m by omega]
    have s2 : seg (rot f a m b) a (b - a) = seg f m (b - m) ++ seg f a (m - a) := by
      rw [e2, seg_add]
      congr 1
      · apply seg_congr
        intro i hi
        unfold rot
        rw [if_pos (by omega)]
        exact congrArg f (by omega)
      · apply seg_congr
        intro i hi
        unfold rot
        rw [if_neg (by omega), if_pos (by omega)]
        exact congrArg f (by omega)
    rw [s1, s2]
    refine (ofKey_swap ?_).symm
    intro p q hp hq
    obtain ⟨i, i1, i2, rfl⟩ := mem_seg.mp hp
    obtain ⟨j, j1, j2, rfl⟩ := mem_seg.mp hq
    exact h i j i1 (by omega) j1 (by omega)
def Srt (f : Nat → Pr) (a b : Nat) : Prop := ∀ i j, a ≤ i → i < j → j < b → ltP (f j) (f i) = false
theorem Srt.sub {f : Nat → Pr} {a b a' b' : Nat} (h : Srt f a b) (h1 : a ≤ a') (h2 : b' ≤ b) : Srt f a' b' := fun i j x y z => h i j (by omega) y (by omega)
theorem Srt.le {f : Nat → Pr} {a b : Nat} (h : Srt f a b) {i j : Nat} (h1 : a ≤ i) (h2 : i ≤ j) (h3 : j < b) : ltP (f j) (f i) = false := by
  by_cases e : i = j
  · subst e; exact bl_irr _
  · exact h i j h1 (by omega) h3
theorem Srt.congr {f g : Nat → Pr} {a b : Nat} (h : Srt f a b) (e : ∀ k, a ≤ k → k < b → g k = f k) : Srt g a b := by
  intro i j h1 h2 h3
  rw [e i h1 (by omega), e j (by omega) h3]
  exact h i j h1 h2 h3
theorem Srt.one {f : Nat → Pr} {a b : Nat} (h : b ≤ a + 1) : Srt f a b := fun i j x y z => absurd z (by omega)
theorem Srt.glue {f : Nat → Pr} {a m b : Nat} (h1 : Srt f a m) (h2 : Srt f m b) (h : ∀ i j, a ≤ i → i < m → m ≤ j → j < b → ltP (f j) (f i) = false) : Srt f a b := by
  intro i j x y z
  by_cases c1 : j < m
  · exact h1 i j x y c1
  · by_cases c2 : m ≤ i
    · exact h2 i j c2 y z
    · exact h i j x (by omega) (by omega) z
def Ins (f : Nat → Pr) (a i j : Nat) : Prop := (∀ p q, a ≤ p → p < q → q ≤ i → p ≠ j → q ≠ j → ltP (f q) (f p) = false) ∧ ∀ q, j < q → q ≤ i → ltP (f j) (f q) = true
theorem Ins.start {f : Nat → Pr} {a i : Nat} (h : Srt f a i) : Ins f a i i := ⟨fun p q h1 h2 h3 h4 h5 => h p q h1 h2 (by omega), fun q h1 h2 => absurd h1 (by omega)⟩
theorem Ins.stop {f : Nat → Pr} {a i j : Nat} (h : Ins f a i j) (ha : a ≤ j) (hj : j ≤ i) (he : j = a ∨ ltP (f j) (f (j - 1)) = false) : Srt f a (i + 1) := by
  intro p q h1 h2 h3
  by_cases e1 : p = j
  · subst e1
    exact bl_asym (h.2 q h2 (by omega))
  · by_cases e2 : q = j
    · subst e2
      rcases he with he | he
      · omega
      · by_cases e3 : p = q - 1
        · subst e3; exact he
        · exact bl_le (h.1 p (q - 1) h1 (by omega) (by omega) (by omega) (by omega)) he
    · exact h.1 p q h1 h2 (by omega) e1 e2
theorem Ins.step {f : Nat → Pr} {a i j : Nat} (h : Ins f a i (j + 1)) (ha : a ≤ j) (hj : j + 1 ≤ i) (he : ltP (f (j + 1)) (f j) = true) : Ins (sw f (j + 1) j) a i j ∧ Mv a (i + 1) f (sw f (j + 1) j) := by
  have e0 : sw f (j + 1) j (j + 1) = f j := by unfold sw; rw [if_pos rfl]
  have e1 : sw f (j + 1) j j = f (j + 1) := by unfold sw; rw [if_neg (by omega), if_pos rfl]
  have e2 : ∀ k, k ≠ j → k ≠ j + 1 → sw f (j + 1) j k = f k := fun k h1 h2 => by unfold sw; rw [if_neg h2, if_neg h1]
  refine ⟨⟨?_, ?_⟩, ?_⟩
  · intro p q h1 h2 h3 h4 h5
    by_cases c : q = j + 1
    · subst c
      rw [e0, e2 p h4 (by omega)]
      exact h.1 p j h1 (by omega) (by omega) (by omega) (by omega)
    · rw [e2 q h5 c]
      by_cases d : p = j + 1
      · subst d
        rw [e0]
        exact h.1 j q ha (by omega) h3 (by omega) c
      · rw [e2 p h4 d]
        exact h.1 p q h1 h2 h3 d c
  · intro q h1 h2
    rw [e1]
    by_cases c : q = j + 1
    · subst c; rw [e0]; exact he
    · rw [e2 q (by omega) c]
      exact h.2 q (by omega) h2
  · have es : sw f (j + 1) j = rot f j (j + 1) (j + 2) := by
      rw [rot_sw]
      funext k
      unfold sw
      repeat' split
      all_goals first | (exfalso; omega) | rfl
    rw [es]
    refine (rot_mv (by omega) (by omega) ?_).wide ha (by omega) (by omega)
    intro p q h1 h2 h3 h4
    rw [show p = j by omega, show q = j + 1 by omega]
    exact fun e => bl_ne he e.symm
theorem mrg_one {f : Nat → Pr} {a b i : Nat} (h1 : a + 1 ≤ i) (h2 : i ≤ b) (hs : Srt f (a + 1) b) (hl : ∀ q, a + 1 ≤ q → q < i → ltP (f q) (f a) = true) (hr : ∀ q, i ≤ q → q < b → ltP (f q) (f a) = false) :
    Mv a b f (rot f a (a + 1) i) ∧ Srt (rot f a (a + 1) i) a b := by
  refine ⟨(rot_mv (by omega) h1 ?_).wide (by omega) (by omega) h2, ?_⟩
  · intro p q x y z w
    rw [show p = a by omega]
    exact fun e => bl_ne (hl q z w) e.symm
  · intro p q x y z
    unfold rot
    repeat' split
    all_goals first | (exfalso; omega) | skip
    · exact hs _ _ (by omega) (by omega) (by omega)
    · have e : q - (i - (a + 1)) = a := by omega
      rw [e]
      exact bl_asym (hl _ (by omega) (by omega))
    · exact hs _ _ (by omega) (by omega) (by omega)
    · have e : p - (i - (a + 1)) = a := by omega
      rw [e]
      exact hr q (by omega) z
    · exact hs _ _ (by omega) (by omega) (by omega)
theorem mrg_last {f : Nat → Pr} {a m i : Nat} (h1 : a ≤ i) (h2 : i ≤ m) (hs : Srt f a m) (hl : ∀ q, a ≤ q → q < i → ltP (f m) (f q) = false) (hr : ∀ q, i ≤ q → q < m → ltP (f m) (f q) = true) :
    Mv a (m + 1) f (rot f i m (m + 1)) ∧ Srt (rot f i m (m + 1)) a (m + 1) := by
  refine ⟨(rot_mv h2 (by omega) ?_).wide h1 (by omega) (by omega), ?_⟩
  · intro p q x y z w
    rw [show q = m by omega]
    exact fun e => bl_ne (hr p x y) e.symm
  · intro p q x y z
    unfold rot
    repeat' split
    all_goals first | (exfalso; omega) | skip
    · have e : q - i + m = m := by omega
      rw [e]
      exact hl _ x (by omega)
    · have e : p - i + m = m := by omega
      rw [e]
      exact bl_asym (hr _ (by omega) (by omega))
    all_goals exact hs _ _ (by omega) (by omega) (by omega)
structure Cut (f : Nat → Pr) (a m b mid s : Nat) : Prop where
  am : a < m
  mb : m < b
  lo : a ≤ s
  hi : s ≤ m
  mi : s ≤ mid
  me : mid + m - s ≤ b
  ms : m ≤ mid + m - s
  gt : ∀ p q, s ≤ p → p < m → m ≤ q → q < mid + m - s → ltP (f q) (f p) = true
  le : ∀ p q, a ≤ p → p < s → mid + m - s ≤ q → q < b → ltP (f q) (f p) = false
theorem Cut.mv {f : Nat → Pr} {a m b mid s : Nat} (c : Cut f a m b mid s) : Mv a b f (rot f s m (mid + m - s)) := by
  obtain ⟨h1, h2, h3, h4, h5, h6, h7, h8, h9⟩ := c
  refine (rot_mv h4 h7 ?_).wide h3 (by omega) h6
  intro p q x y z w
  exact fun e => bl_ne (h8 p q x y z w) e.symm
theorem Cut.srt {f : Nat → Pr} {a m b mid s : Nat} (c : Cut f a m b mid s) (s1 : Srt f a m) (s2 : Srt f m b) :
    Srt (rot f s m (mid + m - s)) a s ∧ Srt (rot f s m (mid + m - s)) s mid ∧ Srt (rot f s m (mid + m - s)) mid (mid + m - s) ∧ Srt (rot f s m (mid + m - s)) (mid + m - s) b := by
  obtain ⟨h1, h2, h3, h4, h5, h6, h7, h8, h9⟩ := c
  refine ⟨?_, ?_, ?_, ?_⟩
  all_goals
    intro p q x y z
    unfold rot
    repeat' split
    all_goals first | (exfalso; omega) | exact s1 _ _ (by omega) (by omega) (by omega) | exact s2 _ _ (by omega) (by omega) (by omega)
theorem Cut.cross {f : Nat → Pr} {a m b mid s : Nat} (c : Cut f a m b mid s) (s1 : Srt f a m) (s2 : Srt f m b) :
    ∀ p q, a ≤ p → p < mid → mid ≤ q → q < b → ltP (rot f s m (mid + m - s) q) (rot f s m (mid + m - s) p) = false := by
  obtain ⟨h1, h2, h3, h4, h5, h6, h7, h8, h9⟩ := c
  intro p q x y z w
  unfold rot
  repeat' split
  all_goals first | (exfalso; omega) | skip
  all_goals first | exact bl_asym (h8 _ _ (by omega) (by omega) (by omega) (by omega)) | exact s1 _ _ (by omega) (by omega) (by omega) | exact s2 _ _ (by omega) (by omega) (by omega) | exact h9 _ _ (by omega) (by omega) (by omega) (by omega)
theorem halves {f g h : Nat → Pr} {a mid b : Nat} (h1 : a ≤ mid) (h2 : mid ≤ b) (hc : ∀ p q, a ≤ p → p < mid → mid ≤ q → q < b → ltP (f q) (f p) = false) (m1 : Mv a mid f g) (m2 : Mv mid b g h) (s1 : Srt g a mid) (s2 : Srt h mid b) :
    Mv a b f h ∧ Srt h a b := by
  refine ⟨(m1.wide (Nat.le_refl _) h1 h2).trans (m2.wide h1 h2 (Nat.le_refl _)), ?_⟩
  refine (s1.congr (fun k x y => m2.1 k (.inl y))).glue s2 ?_
  intro i j x y z w
  rw [m2.1 i (.inl y)]
  obtain ⟨i', i1, i2, i3⟩ := m1.mem x y
  obtain ⟨j', j1, j2, j3⟩ := m2.mem z w
  rw [← i3, ← j3, m1.1 j' (.inr j1)]
  exact hc i' j' i1 i2 j1 j2
end Go.Proofs.Ytjnopnlgcmlkfaa.G


namespace Go.Proofs.Ytjnopnlgcmlkfaa.G
open Go.BX
set_option linter.unusedSimpArgs false
set_option linter.unusedVariables false
def R (n : Nat) (f : Nat → Pr) : List (List AV) := (List.range n).map fun i => encP (f i)
theorem R_len (n : Nat) (f : Nat → Pr) : (R n f).length = n := by simp [R]
theorem R_get {n : Nat} {f : Nat → Pr} {i : Nat} (h : i < n) : (R n f)[i]? = some [.str (f i).key, .int .i64 (f i).k, .int .i64 (f i).n, .str (f i).s, .int .i64 (f i).x, .int .i64 (f i).y] := by
  unfold R
  rw [List.getElem?_map, List.getElem?_range h]
  rfl
theorem R_set {n : Nat} {f : Nat → Pr} {i : Nat} (p : Pr) : (R n f).set i [.str p.key, .int .i64 p.k, .int .i64 p.n, .str p.s, .int .i64 p.x, .int .i64 p.y] = R n (fun k => if k = i then p else f k) := by
  apply List.ext_getElem?
  intro j
  by_cases hj : j < n
  · rw [R_get hj]
    by_cases e : j = i
    · subst e
      rw [List.getElem?_set_self (by rw [R_len]; exact hj)]
      simp only [↓reduceIte]
    · rw [List.getElem?_set_ne (fun h => e h.symm), R_get hj]
      simp only [e, ↓reduceIte]
  · rw [List.getElem?_eq_none (by rw [List.length_set, R_len]; omega), List.getElem?_eq_none (by rw [R_len]; omega)]
theorem upd2 (A : Nat → Blk) (g : Nat) (x y : Blk) : upd (upd A g x) g y = upd A g y := by
  funext k
  simp only [upd_app]
  split <;> rfl
theorem upd_same {A : Nat → Blk} {g : Nat} {x : Blk} (h : A g = x) : upd A g x = A := by
  funext k
  simp only [upd_app]
  split
  · rename_i e; rw [e, h]
  · rfl
abbrev SB (A : Nat → Blk) (g n : Nat) (f : Nat → Pr) : Nat → Blk := upd A g (.cells 47 6 (R n f))
theorem sw_eq (f : Nat → Pr) (i j : Nat) : (fun k => if k = j then f i else if k = i then f j else f k) = sw f i j := by
  funext k
  unfold sw
  repeat' split
  all_goals first | (subst_vars; rfl) | rfl
def PW (n : Nat) (h : Nat) (A : Nat → Blk) (g a b m : Nat) (f : Nat → Pr) (Q : AV → AHeap → Prop) (i : Nat) : Prop :=
  ∀ (T : Nat → AV), T 0 = .slc g 6 0 n → T 1 = .int .i64 (a : Int) → T 2 = .int .i64 (b : Int) → T 3 = .int .i64 (m : Int) → T 10 = .int .i64 (i : Int) →
    Run Cx 81 T [] none [.inLoop c81_4, .inBlock 0] ⟨h, SB A g n (swp f a b i)⟩ Q
theorem pw_all {n h : Nat} {A : Nat → Blk} {g a b m : Nat} {f : Nat → Pr} {Q : AV → AHeap → Prop} (hn : n ≤ 1000000) (hab : a + m ≤ b) (hbn : b + m ≤ n) (hQ : Q (.tuple []) ⟨h, SB A g n (swp f a b m)⟩) :
    ∀ (j i : Nat), i + j = m → PW n h A g a b m f Q i
  | 0, i, hij => by
    intro T t0 t1 t2 t3 t10
    obtain rfl : i = m := by omega
    rw [run_inLoop]
    have h0 : ((i : Int) < (i : Int)) = False := eq_false (by omega)
    simp only [t0, t1, t2, t3, t10, h0, run_nil, xx, r81_0, r81_1, res81, tt, bb, bc, ↓bd, Nat.reduceEqDiff, Nat.reduceAdd, Nat.reduceMul, Nat.reduceLeDiff, Nat.reduceLT, ↓reduceIte, reduceCtorEq, Nat.reduceBeqDiff, Nat.reduceBneDiff, Int.reduceBNe, Int.reduceBEq, Int.reduceEq, Int.reduceLT, Int.reduceLE, Int.reduceAdd, Int.reduceSub, Int.reduceMul, Int.reduceNeg, List.reduceReplicate, Int.reduceToNat]
    exact hQ
  | j + 1, i, hij => by
    intro T t0 t1 t2 t3 t10
    rw [run_inLoop]
    have h0 : ((i : Int) < (m : Int)) = True := eq_true (by omega)
    have w1 : IntKind.i64.wrap ((i : Int) + 1) = ((i + 1 : Nat) : Int) := by rw [wr64 (by omega) (by omega)]; omega
    have w2 : IntKind.i64.wrap ((a : Int) + (i : Int)) = ((a + i : Nat) : Int) := by rw [wr64 (by omega) (by omega)]; omega
    have w3 : IntKind.i64.wrap ((b : Int) + (i : Int)) = ((b + i : Nat) : Int) := by rw [wr64 (by omega) (by omega)]; omega
    have l1 : ((a + i : Nat) : Int) < (n : Int) := by omega
    have l2 : ((b + i : Nat) : Int) < (n : Int) := by omega
    have p1 : (0 : Int) ≤ ((a + i : Nat) : Int) := by omega
    have p2 : (0 : Int) ≤ ((b + i : Nat) : Int) := by omega
    have g1 : ∀ f', (R n f')[a + i]? = _ := fun f' => R_get (n := n) (f := f') (show a + i < n by omega)
    have g2 : ∀ f', (R n f')[b + i]? = _ := fun f' => R_get (n := n) (f := f') (show b + i < n by omega)
    simp only [t0, t1, t2, t3, t10, h0, w1, w2, w3, l1, l2, p1, p2, g1, g2, Int.toNat_natCast, R_set, upd2, sw_eq, xx, r81_0, r81_1, res81, tt, bb, bc, ↓bd, Nat.reduceEqDiff, Nat.reduceAdd, Nat.reduceMul, Nat.reduceLeDiff, Nat.reduceLT, ↓reduceIte, reduceCtorEq, Nat.reduceBeqDiff, Nat.reduceBneDiff, Int.reduceBNe, Int.reduceBEq, Int.reduceEq, Int.reduceLT, Int.reduceLE, Int.reduceAdd, Int.reduceSub, Int.reduceMul, Int.reduceNeg, List.reduceReplicate, Int.reduceToNat]
    rw [swp_succ f hab (by omega)]
    refine pw_all hn hab hbn hQ j (i + 1) (by omega) _ ?_ ?_ ?_ ?_ ?_
    all_goals simp only [upd_app, t0, t1, t2, t3, Nat.reduceEqDiff, ↓reduceIte]
section
variable {fn : FuncId} {T : Nat → AV} {ds : List ADef} {ro : Option Nat} {k : List AItem} {Q : AV → AHeap → Prop} {dst : Option Nat} {os : List AO} {h n : Nat} {A : Nat → Blk} {g : Nat} {f : Nat → Pr}
theorem swapRange_call {a b m : Nat} {c : AV} (hn : n ≤ 1000000) (hab : a + m ≤ b) (hbn : b + m ≤ n) (hk : RunOps Cx fn (putA T dst (.tuple [])) ds ro os k ⟨h, SB A g n (swp f a b m)⟩ Q) :
    RunCall Cx fn T ds ro 81 [.slc g 6 0 n, .int .i64 (a : Int), .int .i64 (b : Int), .int .i64 (m : Int), c] dst os k ⟨h, SB A g n f⟩ Q := by
  refine call_body pure81 (noext _) body81 ?_
  have hp := pw_all (Q := fun r H1 => RunOps Cx fn (putA T dst r) ds ro os k H1 Q) hn hab hbn hk m 0 (by omega)
  unfold PW at hp
  rw [swp_zero] at hp
  simp only [r81_0.1, r81_0.2.1, r81_0.2.2.1, r81_0.2.2.2.1, r81_0.2.2.2.2.2.1, r81_0.2.2.2.2.2.2.1, r81_0.2.2.2.2.2.2.2, r81_1, res81, tt, bb, bc, ↓bd, Nat.reduceEqDiff, Nat.reduceAdd, Nat.reduceMul, Nat.reduceLeDiff, Nat.reduceLT, ↓reduceIte, reduceCtorEq, Nat.reduceBeqDiff, Nat.reduceBneDiff, Int.reduceBNe, Int.reduceBEq, Int.reduceEq, Int.reduceLT, Int.reduceLE, Int.reduceAdd, Int.reduceSub, Int.reduceMul, Int.reduceNeg, List.reduceReplicate, Int.reduceToNat]
  refine hp _ ?_ ?_ ?_ ?_ ?_
  all_goals simp only [upd_app, enterT, List.getElem?_cons_zero, List.getElem?_cons_succ, Option.getD_some, Nat.reduceEqDiff, ↓reduceIte]
  all_goals rfl
def PO (n h : Nat) (A : Nat → Blk) (g m : Nat) (c : AV) (G : Nat → Pr) (Q : AV → AHeap → Prop) (i j : Nat) : Prop :=
  ∀ (T : Nat → AV) (f : Nat → Pr), T 0 = .slc g 6 0 n → T 2 = .int .i64 (m : Int) → T 4 = c → T 10 = .int .i64 (i : Int) → T 11 = .int .i64 (j : Int) → rot f (m - i) m (m + j) = G →
    Run Cx 73 T [] none [.inLoop c73_7, .inBlock 0, .code c73_23] ⟨h, SB A g n f⟩ Q
theorem po_all {n h : Nat} {A : Nat → Blk} {g m : Nat} {c : AV} {G : Nat → Pr} {Q : AV → AHeap → Prop} (hn : n ≤ 1000000) (hQ : Q (.tuple []) ⟨h, SB A g n G⟩) :
    ∀ (N i j : Nat), i + j ≤ N → 0 < i → 0 < j → i ≤ m → m + j ≤ n → PO n h A g m c G Q i j
  | 0, i, j, hN, hi, hj, him, hmj => absurd hi (by omega)
  | N + 1, i, j, hN, hi, hj, him, hmj => by
    intro T f t0 t2 t4 t10 t11 hG
    rw [run_inLoop]
    have w1 : IntKind.i64.wrap ((m : Int) - (i : Int)) = ((m - i : Nat) : Int) := by rw [wr64 (by omega) (by omega)]; omega
    by_cases e : i = j
    · subst e
      have h0 : ((i : Int) != (i : Int)) = false := by simp
      simp only [t0, t2, t4, t10, t11, h0, w1, xx, r73_0, r73_1, r73_2, res73, tt, bb, bc, ↓bd, Nat.reduceEqDiff, Nat.reduceAdd, Nat.reduceMul, Nat.reduceLeDiff, Nat.reduceLT, ↓reduceIte, reduceCtorEq, Nat.reduceBeqDiff, Nat.reduceBneDiff, Int.reduceBNe, Int.reduceBEq, Int.reduceEq, Int.reduceLT, Int.reduceLE, Int.reduceAdd, Int.reduceSub, Int.reduceMul, Int.reduceNeg, List.reduceReplicate, Int.reduceToNat]
      refine swapRange_call hn (by omega) hmj ?_
      rw [← rot_eq f him, hG]
      simp only [run_nil, r73_0, r73_1, r73_2, res73, tt, bb, bc, ↓bd, Nat.reduceEqDiff, Nat.reduceAdd, Nat.reduceMul, Nat.reduceLeDiff, Nat.reduceLT, ↓reduceIte, reduceCtorEq, Nat.reduceBeqDiff, Nat.reduceBneDiff, Int.reduceBNe, Int.reduceBEq, Int.reduceEq, Int.reduceLT, Int.reduceLE, Int.reduceAdd, Int.reduceSub, Int.reduceMul, Int.reduceNeg, List.reduceReplicate, Int.reduceToNat]
      exact hQ
    · have h0 : ((i : Int) != (j : Int)) = true := by simp; omega
      by_cases hij : j < i
      · have h1 : (j : Int) < (i : Int) := by omega
        have w2 : IntKind.i64.wrap ((i : Int) - (j : Int)) = ((i - j : Nat) : Int) := by rw [wr64 (by omega) (by omega)]; omega
        simp only [t0, t2, t4, t10, t11, h0, h1, w1, xx, r73_0, r73_1, r73_2, res73, tt, bb, bc, ↓bd, Nat.reduceEqDiff, Nat.reduceAdd, Nat.reduceMul, Nat.reduceLeDiff, Nat.reduceLT, ↓reduceIte, reduceCtorEq, Nat.reduceBeqDiff, Nat.reduceBneDiff, Int.reduceBNe, Int.reduceBEq, Int.reduceEq, Int.reduceLT, Int.reduceLE, Int.reduceAdd, Int.reduceSub, Int.reduceMul, Int.reduceNeg, List.reduceReplicate, Int.reduceToNat]
        refine swapRange_call hn (by omega) hmj ?_
        simp only [t10, t11, w2, xx, r73_0, r73_1, r73_2, res73, tt, bb, bc, ↓bd, Nat.reduceEqDiff, Nat.reduceAdd, Nat.reduceMul, Nat.reduceLeDiff, Nat.reduceLT, ↓reduceIte, reduceCtorEq, Nat.reduceBeqDiff, Nat.reduceBneDiff, Int.reduceBNe, Int.reduceBEq, Int.reduceEq, Int.reduceLT, Int.reduceLE, Int.reduceAdd, Int.reduceSub, Int.reduceMul, Int.reduceNeg, List.reduceReplicate, Int.reduceToNat]
        refine po_all (c := c) hn hQ N (i - j) j (by omega) (by omega) hj (by omega) hmj _ _ ?_ ?_ ?_ ?_ ?_ ?_
        all_goals first | (simp only [upd_app, t0, t2, t4, t10, t11, Nat.reduceEqDiff, ↓reduceIte]; done) | skip
        rw [← rot_gt f him hij]; exact hG
      · have h1 : ¬ (j : Int) < (i : Int) := by omega
        have w2 : IntKind.i64.wrap ((j : Int) - (i : Int)) = ((j - i : Nat) : Int) := by rw [wr64 (by omega) (by omega)]; omega
        have w3 : IntKind.i64.wrap ((m : Int) + (j : Int)) = ((m + j : Nat) : Int) := by rw [wr64 (by omega) (by omega)]; omega
        have w4 : IntKind.i64.wrap (((m + j : Nat) : Int) - (i : Int)) = ((m + j - i : Nat) : Int) := by rw [wr64 (by omega) (by omega)]; omega
        simp only [t0, t2, t4, t10, t11, h0, h1, w1, w3, w4, xx, r73_0, r73_1, r73_2, res73, tt, bb, bc, ↓bd, Nat.reduceEqDiff, Nat.reduceAdd, Nat.reduceMul, Nat.reduceLeDiff, Nat.reduceLT, ↓reduceIte, reduceCtorEq, Nat.reduceBeqDiff, Nat.reduceBneDiff, Int.reduceBNe, Int.reduceBEq, Int.reduceEq, Int.reduceLT, Int.reduceLE, Int.reduceAdd, Int.reduceSub, Int.reduceMul, Int.reduceNeg, List.reduceReplicate, Int.reduceToNat]
        refine swapRange_call hn (by omega) (by omega) ?_
        simp only [t10, t11, w2, xx, r73_0, r73_1, r73_2, res73, tt, bb, bc, ↓bd, Nat.reduceEqDiff, Nat.reduceAdd, Nat.reduceMul, Nat.reduceLeDiff, Nat.reduceLT, ↓reduceIte, reduceCtorEq, Nat.reduceBeqDiff, Nat.reduceBneDiff, Int.reduceBNe, Int.reduceBEq, Int.reduceEq, Int.reduceLT, Int.reduceLE, Int.reduceAdd, Int.reduceSub, Int.reduceMul, Int.reduceNeg, List.reduceReplicate, Int.reduceToNat]
        refine po_all (c := c) hn hQ N i (j - i) (by omega) hi (by omega) him (by omega) _ _ ?_ ?_ ?_ ?_ ?_ ?_
        all_goals first | (simp only [upd_app, t0, t2, t4, t10, t11, Nat.reduceEqDiff, ↓reduceIte]; done) | skip
        rw [← rot_lt f him (by omega)]; exact hG
theorem rotate_call {a m b : Nat} {c : AV} (hn : n ≤ 1000000) (ham : a < m) (hmb : m < b) (hbn : b ≤ n) (hk : RunOps Cx fn (putA T dst (.tuple [])) ds ro os k ⟨h, SB A g n (rot f a m b)⟩ Q) :
    RunCall Cx fn T ds ro 73 [.slc g 6 0 n, .int .i64 (a : Int), .int .i64 (m : Int), .int .i64 (b : Int), c] dst os k ⟨h, SB A g n f⟩ Q := by
  refine call_body pure73 (noext _) body73 ?_
  have hp := po_all (c := c) (m := m) (Q := fun r H1 => RunOps Cx fn (putA T dst r) ds ro os k H1 Q) hn hk (m - a + (b - m)) (m - a) (b - m) (by omega) (by omega) (by omega) (by omega) (by omega)
  unfold PO at hp
  have w1 : IntKind.i64.wrap ((m : Int) - (a : Int)) = ((m - a : Nat) : Int) := by rw [wr64 (by omega) (by omega)]; omega
  have w2 : IntKind.i64.wrap ((b : Int) - (m : Int)) = ((b - m : Nat) : Int) := by rw [wr64 (by omega) (by omega)]; omega
  simp only [w1, w2, r73_0.1, r73_0.2.1, r73_0.2.2.1, r73_0.2.2.2.1, r73_0.2.2.2.2.1, r73_0.2.2.2.2.2.1, r73_0.2.2.2.2.2.2.1, r73_1, r73_2.1, r73_2.2.1, r73_2.2.2.1, r73_2.2.2.2.1, r73_2.2.2.2.2.1, r73_2.2.2.2.2.2.1, r73_2.2.2.2.2.2.2.1, res73, tt, bb, bc, ↓bd, Nat.reduceEqDiff, Nat.reduceAdd, Nat.reduceMul, Nat.reduceLeDiff, Nat.reduceLT, ↓reduceIte, reduceCtorEq, Nat.reduceBeqDiff, Nat.reduceBneDiff, Int.reduceBNe, Int.reduceBEq, Int.reduceEq, Int.reduceLT, Int.reduceLE, Int.reduceAdd, Int.reduceSub, Int.reduceMul, Int.reduceNeg, List.reduceReplicate, Int.reduceToNat]
  refine hp _ f ?_ ?_ ?_ ?_ ?_ ?_
  all_goals first | (simp only [upd_app, enterT, List.getElem?_cons_zero, List.getElem?_cons_succ, Option.getD_some, Nat.reduceEqDiff, ↓reduceIte]; done) | skip
  rw [show m - (m - a) = a by omega, show m + (b - m) = b by omega]
end
def cmpK (p q : Pr) : Int := if lessB p.key q.key = true then -1 else if (p.key == q.key) = true then 0 else 1
theorem cmpK_lt (p q : Pr) : (cmpK p q < 0) = (ltP p q = true) := by
  unfold cmpK
  by_cases h : lessB p.key q.key = true
  · simp [h]
  · by_cases h2 : (p.key == q.key) = true
    · simp [h, h2]
    · simp [h, h2]
theorem isNaN_no (s : Bytes) : PCall Cx 65 [.str s] (.bool false) := by
  refine pcall_run (noext _) body65 ?_
  simp only [r65_0, res65, tt, bb, bc, ↓bd, Nat.reduceEqDiff, Nat.reduceAdd, Nat.reduceMul, Nat.reduceLeDiff, Nat.reduceLT, ↓reduceIte, reduceCtorEq, Nat.reduceBeqDiff, Nat.reduceBneDiff, Int.reduceBNe, Int.reduceBEq, Int.reduceEq, Int.reduceLT, Int.reduceLE, Int.reduceAdd, Int.reduceSub, Int.reduceMul, Int.reduceNeg, List.reduceReplicate, Int.reduceToNat]
theorem compare_ok (p q : Pr) : PCall Cx 42 [.str p.key, .str q.key] (.int .i64 (cmpK p q)) := by
  refine pcall_run (noext _) body42 ?_
  unfold cmpK
  by_cases h : lessB p.key q.key = true
  · simp only [h, call_pure pure65 rfl (isNaN_no _), r42_0, r42_1, r42_2, r42_3, r42_4, r42_5, r42_6, res42, tt, bb, bc, ↓bd, Nat.reduceEqDiff, Nat.reduceAdd, Nat.reduceMul, Nat.reduceLeDiff, Nat.reduceLT, ↓reduceIte, reduceCtorEq, Nat.reduceBeqDiff, Nat.reduceBneDiff, Int.reduceBNe, Int.reduceBEq, Int.reduceEq, Int.reduceLT, Int.reduceLE, Int.reduceAdd, Int.reduceSub, Int.reduceMul, Int.reduceNeg, List.reduceReplicate, Int.reduceToNat]
  · have h' : lessB p.key q.key = false := by simpa using h
    by_cases h2 : (p.key == q.key) = true
    · simp only [h', h2, Bool.or_true, call_pure pure65 rfl (isNaN_no _), r42_0, r42_1, r42_2, r42_3, r42_4, r42_5, r42_6, res42, tt, bb, bc, ↓bd, Nat.reduceEqDiff, Nat.reduceAdd, Nat.reduceMul, Nat.reduceLeDiff, Nat.reduceLT, ↓reduceIte, reduceCtorEq, Nat.reduceBeqDiff, Nat.reduceBneDiff, Int.reduceBNe, Int.reduceBEq, Int.reduceEq, Int.reduceLT, Int.reduceLE, Int.reduceAdd, Int.reduceSub, Int.reduceMul, Int.reduceNeg, List.reduceReplicate, Int.reduceToNat]
    · have h2' : (p.key == q.key) = false := by simpa using h2
      simp only [h', h2', Bool.or_false, call_pure pure65 rfl (isNaN_no _), r42_0, r42_1, r42_2, r42_3, r42_4, r42_5, r42_6, res42, tt, bb, bc, ↓bd, Nat.reduceEqDiff, Nat.reduceAdd, Nat.reduceMul, Nat.reduceLeDiff, Nat.reduceLT, ↓reduceIte, reduceCtorEq, Nat.reduceBeqDiff, Nat.reduceBneDiff, Int.reduceBNe, Int.reduceBEq, Int.reduceEq, Int.reduceLT, Int.reduceLE, Int.reduceAdd, Int.reduceSub, Int.reduceMul, Int.reduceNeg, List.reduceReplicate, Int.reduceToNat]
theorem byKey_ok (p q : Pr) : PCall Cx 26 [pairA p, pairA q] (.int .i64 (cmpK p q)) := by
  refine pcall_run (noext _) body26 ?_
  simp only [call_pure pure42 rfl (compare_ok p q), r26_0, res26, tt, bb, bc, ↓bd, Nat.reduceEqDiff, Nat.reduceAdd, Nat.reduceMul, Nat.reduceLeDiff, Nat.reduceLT, ↓reduceIte, reduceCtorEq, Nat.reduceBeqDiff, Nat.reduceBneDiff, Int.reduceBNe, Int.reduceBEq, Int.reduceEq, Int.reduceLT, Int.reduceLE, Int.reduceAdd, Int.reduceSub, Int.reduceMul, Int.reduceNeg, List.reduceReplicate, Int.reduceToNat]
end Go.Proofs.Ytjnopnlgcmlkfaa.G

namespace Go.Proofs.Ytjnopnlgcmlkfaa.G
open Go.BX
set_option linter.unusedSimpArgs false
set_option linter.unusedVariables false
theorem pi2_all {n h : Nat} {A : Nat → Blk} {g a b i : Nat} {f0 : Nat → Pr} {Q : AV → AHeap → Prop} (hn : n ≤ 1000000) (hin : i < n)
    (hK : ∀ (T : Nat → AV) (f : Nat → Pr), T 0 = .slc g 6 0 n → T 1 = .int .i64 (a : Int) → T 2 = .int .i64 (b : Int) → T 3 = .fn 26 [] [] → T 8 = .int .i64 (i : Int) → Mv a (i + 1) f0 f → Srt f a (i + 1) →
      Run Cx 63 T [] none [.inBlock 1, .code c63_26, .inLoop c63_4, .inBlock 0] ⟨h, SB A g n f⟩ Q) :
    ∀ (j : Nat) (T : Nat → AV) (f : Nat → Pr), a ≤ j → j ≤ i → T 0 = .slc g 6 0 n → T 1 = .int .i64 (a : Int) → T 2 = .int .i64 (b : Int) → T 3 = .fn 26 [] [] → T 8 = .int .i64 (i : Int) → T 9 = .int .i64 (j : Int) → Mv a (i + 1) f0 f → Ins f a i j →
      Run Cx 63 T [] none [.inLoop c63_16, .inBlock 2, .inBlock 1, .code c63_26, .inLoop c63_4, .inBlock 0] ⟨h, SB A g n f⟩ Q := by
  intro j
  induction j with
  | zero =>
    intro T f haj hji t0 t1 t2 t3 t8 t9 hm hI
    rw [run_inLoop]
    have h0 : ((a : Int) < 0) = False := eq_false (by omega)
    replace t9 : T 9 = .int .i64 0 := t9
    simp only [t0, t1, t2, t3, t8, t9, h0, xx, r63_0, r63_1, r63_2, r63_3.1, r63_3.2.1, res63, tt, bb, bc, ↓bd, Nat.reduceEqDiff, Nat.reduceAdd, Nat.reduceMul, Nat.reduceLeDiff, Nat.reduceLT, ↓reduceIte, reduceCtorEq, Nat.reduceBeqDiff, Nat.reduceBneDiff, Int.reduceBNe, Int.reduceBEq, Int.reduceEq, Int.reduceLT, Int.reduceLE, Int.reduceAdd, Int.reduceSub, Int.reduceMul, Int.reduceNeg, List.reduceReplicate, Int.reduceToNat]
    simp only [run_inBlock] at hK
    refine hK _ f ?_ ?_ ?_ ?_ ?_ hm (hI.stop haj hji (.inl (by omega)))
    all_goals simp only [upd_app, t0, t1, t2, t3, t8, Nat.reduceEqDiff, ↓reduceIte]
  | succ j ih =>
    intro T f haj hji t0 t1 t2 t3 t8 t9 hm hI
    rw [run_inLoop]
    by_cases e : a = j + 1
    · have h0 : ((a : Int) < ((j + 1 : Nat) : Int)) = False := eq_false (by omega)
      simp only [t0, t1, t2, t3, t8, t9, h0, xx, r63_0, r63_1, r63_2, r63_3.1, r63_3.2.1, res63, tt, bb, bc, ↓bd, Nat.reduceEqDiff, Nat.reduceAdd, Nat.reduceMul, Nat.reduceLeDiff, Nat.reduceLT, ↓reduceIte, reduceCtorEq, Nat.reduceBeqDiff, Nat.reduceBneDiff, Int.reduceBNe, Int.reduceBEq, Int.reduceEq, Int.reduceLT, Int.reduceLE, Int.reduceAdd, Int.reduceSub, Int.reduceMul, Int.reduceNeg, List.reduceReplicate, Int.reduceToNat]
      simp only [run_inBlock] at hK
      refine hK _ f ?_ ?_ ?_ ?_ ?_ hm (hI.stop haj hji (.inl e.symm))
      all_goals simp only [upd_app, t0, t1, t2, t3, t8, Nat.reduceEqDiff, ↓reduceIte]
    · have h0 : ((a : Int) < ((j + 1 : Nat) : Int)) = True := eq_true (by omega)
      have w1 : IntKind.i64.wrap (((j + 1 : Nat) : Int) - 1) = (j : Int) := by rw [wr64 (by omega) (by omega)]; omega
      have l1 : ((j + 1 : Nat) : Int) < (n : Int) := by omega
      have l2 : (j : Int) < (n : Int) := by omega
      have p1 : (0 : Int) ≤ ((j + 1 : Nat) : Int) := by omega
      have p2 : (0 : Int) ≤ (j : Int) := by omega
      have g1 : ∀ f', (R n f')[j + 1]? = _ := fun f' => R_get (n := n) (f := f') (show j + 1 < n by omega)
      have g2 : ∀ f', (R n f')[j]? = _ := fun f' => R_get (n := n) (f := f') (show j < n by omega)
      have hc := byKey_ok (f (j + 1)) (f j)
      have hlt := cmpK_lt (f (j + 1)) (f j)
      by_cases hl : ltP (f (j + 1)) (f j) = true
      · have hlt' : (cmpK (f (j + 1)) (f j) < 0) = True := by rw [hlt]; exact eq_true hl
        obtain ⟨hI', hm'⟩ := hI.step (by omega) hji hl
        simp only [t0, t1, t2, t3, t8, t9, h0, w1, l1, l2, p1, p2, g1, g2, hlt', call_pure pure26 rfl hc, Int.toNat_natCast, R_set, upd2, sw_eq, xx, r63_0, r63_1, r63_2, r63_3.1, r63_3.2.1, res63, tt, bb, bc, ↓bd, Nat.reduceEqDiff, Nat.reduceAdd, Nat.reduceMul, Nat.reduceLeDiff, Nat.reduceLT, ↓reduceIte, reduceCtorEq, Nat.reduceBeqDiff, Nat.reduceBneDiff, Int.reduceBNe, Int.reduceBEq, Int.reduceEq, Int.reduceLT, Int.reduceLE, Int.reduceAdd, Int.reduceSub, Int.reduceMul, Int.reduceNeg, List.reduceReplicate, Int.reduceToNat]
        refine ih _ _ (by omega) (by omega) ?_ ?_ ?_ ?_ ?_ ?_ (hm.trans hm') hI'
        all_goals simp only [upd_app, t0, t1, t2, t3, t8, Nat.reduceEqDiff, ↓reduceIte]
      · have hlt' : (cmpK (f (j + 1)) (f j) < 0) = False := by rw [hlt]; exact eq_false hl
        simp only [t0, t1, t2, t3, t8, t9, h0, w1, l1, l2, p1, p2, g1, g2, hlt', call_pure pure26 rfl hc, Int.toNat_natCast, xx, r63_0, r63_1, r63_2, r63_3.1, r63_3.2.1, res63, tt, bb, bc, ↓bd, Nat.reduceEqDiff, Nat.reduceAdd, Nat.reduceMul, Nat.reduceLeDiff, Nat.reduceLT, ↓reduceIte, reduceCtorEq, Nat.reduceBeqDiff, Nat.reduceBneDiff, Int.reduceBNe, Int.reduceBEq, Int.reduceEq, Int.reduceLT, Int.reduceLE, Int.reduceAdd, Int.reduceSub, Int.reduceMul, Int.reduceNeg, List.reduceReplicate, Int.reduceToNat]
        simp only [run_inBlock] at hK
        refine hK _ f ?_ ?_ ?_ ?_ ?_ hm (hI.stop haj hji (.inr (by simpa using hl)))
        all_goals simp only [upd_app, t0, t1, t2, t3, t8, Nat.reduceEqDiff, ↓reduceIte]
theorem pi1_all {n h : Nat} {A : Nat → Blk} {g a b : Nat} {f0 : Nat → Pr} {Q : AV → AHeap → Prop} (hn : n ≤ 1000000) (hab : a ≤ b) (hbn : b ≤ n) (hQ : ∀ f, Mv a b f0 f → Srt f a b → Q (.tuple []) ⟨h, SB A g n f⟩) :
    ∀ (d i : Nat) (T : Nat → AV) (f : Nat → Pr), b ≤ i + d → a < i → T 0 = .slc g 6 0 n → T 1 = .int .i64 (a : Int) → T 2 = .int .i64 (b : Int) → T 3 = .fn 26 [] [] → T 8 = .int .i64 (i : Int) → i ≤ n + 1 → Mv a b f0 f → Srt f a i →
      Run Cx 63 T [] none [.inLoop c63_4, .inBlock 0] ⟨h, SB A g n f⟩ Q
  | 0, i, T, f, hd, hai, t0, t1, t2, t3, t8, hi, hm, hs => by
    rw [run_inLoop]
    have h0 : ((i : Int) < (b : Int)) = False := eq_false (by omega)
    simp only [t0, t1, t2, t3, t8, h0, run_nil, xx, r63_0, r63_1, r63_2, r63_3, res63, tt, bb, bc, ↓bd, Nat.reduceEqDiff, Nat.reduceAdd, Nat.reduceMul, Nat.reduceLeDiff, Nat.reduceLT, ↓reduceIte, reduceCtorEq, Nat.reduceBeqDiff, Nat.reduceBneDiff, Int.reduceBNe, Int.reduceBEq, Int.reduceEq, Int.reduceLT, Int.reduceLE, Int.reduceAdd, Int.reduceSub, Int.reduceMul, Int.reduceNeg, List.reduceReplicate, Int.reduceToNat]
    exact hQ f hm (hs.sub (Nat.le_refl _) (by omega))
  | d + 1, i, T, f, hd, hai, t0, t1, t2, t3, t8, hi, hm, hs => by
    rw [run_inLoop]
    by_cases hib : i < b
    · have h0 : ((i : Int) < (b : Int)) = True := eq_true (by omega)
      simp only [t0, t1, t2, t3, t8, h0, run_nil, xx, r63_0, r63_1, r63_2.2.1, r63_2.2.2.1, r63_2.2.2.2.1, r63_2.2.2.2.2.1, r63_2.2.2.2.2.2.1, r63_2.2.2.2.2.2.2.1, r63_2.2.2.2.2.2.2.2, r63_3.1, r63_3.2.1, res63, tt, bb, bc, ↓bd, Nat.reduceEqDiff, Nat.reduceAdd, Nat.reduceMul, Nat.reduceLeDiff, Nat.reduceLT, ↓reduceIte, reduceCtorEq, Nat.reduceBeqDiff, Nat.reduceBneDiff, Int.reduceBNe, Int.reduceBEq, Int.reduceEq, Int.reduceLT, Int.reduceLE, Int.reduceAdd, Int.reduceSub, Int.reduceMul, Int.reduceNeg, List.reduceReplicate, Int.reduceToNat]
      refine pi2_all (a := a) (b := b) (i := i) (f0 := f) hn (by omega) ?_ i _ f (by omega) (Nat.le_refl _) ?_ ?_ ?_ ?_ ?_ ?_ (Mv.refl _ _ _) (Ins.start hs)
      · intro T' f' t0' t1' t2' t3' t8' hm' hs'
        have w1 : IntKind.i64.wrap ((i : Int) + 1) = ((i + 1 : Nat) : Int) := by rw [wr64 (by omega) (by omega)]; omega
        simp only [t8', w1, run_inBlock, r63_0, r63_1, r63_2, r63_3, res63, tt, bb, bc, ↓bd, Nat.reduceEqDiff, Nat.reduceAdd, Nat.reduceMul, Nat.reduceLeDiff, Nat.reduceLT, ↓reduceIte, reduceCtorEq, Nat.reduceBeqDiff, Nat.reduceBneDiff, Int.reduceBNe, Int.reduceBEq, Int.reduceEq, Int.reduceLT, Int.reduceLE, Int.reduceAdd, Int.reduceSub, Int.reduceMul, Int.reduceNeg, List.reduceReplicate, Int.reduceToNat]
        refine pi1_all hn hab hbn hQ d (i + 1) _ f' (by omega) (by omega) ?_ ?_ ?_ ?_ ?_ (by omega) (hm.trans (hm'.wide (Nat.le_refl _) (by omega) (by omega))) hs'
        all_goals simp only [upd_app, t0', t1', t2', t3', Nat.reduceEqDiff, ↓reduceIte]
      all_goals simp only [upd_app, t0, t1, t2, t3, t8, Nat.reduceEqDiff, ↓reduceIte]
    · have h0 : ((i : Int) < (b : Int)) = False := eq_false (by omega)
      simp only [t0, t1, t2, t3, t8, h0, run_nil, xx, r63_0, r63_1, r63_2, r63_3, res63, tt, bb, bc, ↓bd, Nat.reduceEqDiff, Nat.reduceAdd, Nat.reduceMul, Nat.reduceLeDiff, Nat.reduceLT, ↓reduceIte, reduceCtorEq, Nat.reduceBeqDiff, Nat.reduceBneDiff, Int.reduceBNe, Int.reduceBEq, Int.reduceEq, Int.reduceLT, Int.reduceLE, Int.reduceAdd, Int.reduceSub, Int.reduceMul, Int.reduceNeg, List.reduceReplicate, Int.reduceToNat]
      exact hQ f hm (hs.sub (Nat.le_refl _) (by omega))
section
variable {fn : FuncId} {T : Nat → AV} {ds : List ADef} {ro : Option Nat} {k : List AItem} {Q : AV → AHeap → Prop} {dst : Option Nat} {os : List AO} {h n : Nat} {A : Nat → Blk} {g : Nat} {f : Nat → Pr}
theorem insertion_call {a b : Nat} (hn : n ≤ 1000000) (hab : a ≤ b) (hbn : b ≤ n) (hk : ∀ f', Mv a b f f' → Srt f' a b → RunOps Cx fn (putA T dst (.tuple [])) ds ro os k ⟨h, SB A g n f'⟩ Q) :
    RunCall Cx fn T ds ro 63 [.slc g 6 0 n, .int .i64 (a : Int), .int .i64 (b : Int), .fn 26 [] []] dst os k ⟨h, SB A g n f⟩ Q := by
  refine call_body pure63 (noext _) body63 ?_
  have w1 : IntKind.i64.wrap ((a : Int) + 1) = ((a + 1 : Nat) : Int) := by rw [wr64 (by omega) (by omega)]; omega
  simp only [w1, r63_0, r63_1, r63_2, r63_3, res63, tt, bb, bc, ↓bd, Nat.reduceEqDiff, Nat.reduceAdd, Nat.reduceMul, Nat.reduceLeDiff, Nat.reduceLT, ↓reduceIte, reduceCtorEq, Nat.reduceBeqDiff, Nat.reduceBneDiff, Int.reduceBNe, Int.reduceBEq, Int.reduceEq, Int.reduceLT, Int.reduceLE, Int.reduceAdd, Int.reduceSub, Int.reduceMul, Int.reduceNeg, List.reduceReplicate, Int.reduceToNat]
  refine pi1_all (a := a) (b := b) (f0 := f) (Q := fun r H1 => RunOps Cx fn (putA T dst r) ds ro os k H1 Q) hn hab hbn hk b (a + 1) _ f (by omega) (by omega) ?_ ?_ ?_ ?_ ?_ (by omega) (Mv.refl _ _ _) (Srt.one (by omega))
  all_goals simp only [upd_app, enterT, List.getElem?_cons_zero, List.getElem?_cons_succ, Option.getD_some, Nat.reduceEqDiff, ↓reduceIte]
  all_goals rfl
end
end Go.Proofs.Ytjnopnlgcmlkfaa.G

namespace Go.Proofs.Ytjnopnlgcmlkfaa.G
open Go.BX
set_option linter.unusedSimpArgs false
set_option linter.unusedVariables false
theorem u64_half {N : Nat} (h : N ≤ 4000000) : IntKind.i64.wrap ((IntKind.u64.wrap ((N : Nat) : Int)).fdiv (2 ^ min 1 IntKind.u64.bits)) = ((N / 2 : Nat) : Int) := by
  have e1 : IntKind.u64.wrap ((N : Nat) : Int) = (N : Int) := by
    unfold IntKind.wrap
    simp only [show IntKind.u64.signed = false from rfl, show IntKind.u64.bits = 64 from rfl, Bool.false_eq_true, if_false]
    first | omega | (rw [if_neg (by simp)]; omega)
  rw [e1, show min 1 IntKind.u64.bits = 1 from rfl, Int.fdiv_eq_ediv_of_nonneg _ (by omega)]
  rw [wr64 (by omega) (by omega)]
  omega
section
variable {n h : Nat} {A : Nat → Blk} {g a m b : Nat} {f : Nat → Pr} {Q : AV → AHeap → Prop}
theorem bs1_all (hn : n ≤ 1000000) (ham : a < m) (hbn : b ≤ n) (hs : Srt f m b)
    (hK : ∀ (T : Nat → AV) (i : Nat), T 0 = .slc g 6 0 n → T 1 = .int .i64 (a : Int) → T 10 = .int .i64 (i : Int) → m ≤ i → i ≤ b → (∀ q, m ≤ q → q < i → ltP (f q) (f a) = true) → (∀ q, i ≤ q → q < b → ltP (f q) (f a) = false) →
      Run Cx 64 T [] none [.code c64_25, .code c64_42] ⟨h, SB A g n f⟩ Q) :
    ∀ (d i j : Nat) (T : Nat → AV), j ≤ i + d → m ≤ i → i ≤ j → j ≤ b → T 0 = .slc g 6 0 n → T 1 = .int .i64 (a : Int) → T 4 = .fn 26 [] [] → T 10 = .int .i64 (i : Int) → T 11 = .int .i64 (j : Int) → (∀ q, m ≤ q → q < i → ltP (f q) (f a) = true) → (∀ q, j ≤ q → q < b → ltP (f q) (f a) = false) →
      Run Cx 64 T [] none [.inLoop c64_11, .inBlock 0, .code c64_25, .code c64_42] ⟨h, SB A g n f⟩ Q := by
  intro d
  induction d with
  | zero =>
    intro i j T hd hi hij hj t0 t1 t4 t10 t11 hl hr
    obtain rfl : i = j := by omega
    rw [run_inLoop]
    have h0 : ((i : Int) < (i : Int)) = False := eq_false (by omega)
    simp only [t0, t1, t4, t10, t11, h0, xx, r64_0, r64_1, r64_2, r64_3.1, r64_3.2.2.1, r64_3.2.2.2.1, r64_3.2.2.2.2.1, r64_3.2.2.2.2.2.1, r64_3.2.2.2.2.2.2.1, r64_3.2.2.2.2.2.2.2, r64_4, r64_5.1, r64_5.2.1, r64_5.2.2.2.1, r64_5.2.2.2.2.1, r64_5.2.2.2.2.2.1, r64_5.2.2.2.2.2.2.1, r64_5.2.2.2.2.2.2.2, r64_6, r64_7, r64_8, r64_9, r64_10, r64_11, r64_12, r64_13, r64_14, r64_15, r64_16, r64_17, res64, tt, bb, bc, ↓bd, Nat.reduceEqDiff, Nat.reduceAdd, Nat.reduceMul, Nat.reduceLeDiff, Nat.reduceLT, ↓reduceIte, reduceCtorEq, Nat.reduceBeqDiff, Nat.reduceBneDiff, Int.reduceBNe, Int.reduceBEq, Int.reduceEq, Int.reduceLT, Int.reduceLE, Int.reduceAdd, Int.reduceSub, Int.reduceMul, Int.reduceNeg, List.reduceReplicate, Int.reduceToNat]
    refine hK _ i ?_ ?_ ?_ hi hj hl hr
    all_goals simp only [upd_app, t0, t1, t10, Nat.reduceEqDiff, ↓reduceIte]
  | succ d ih =>
    intro i j T hd hi hij hj t0 t1 t4 t10 t11 hl hr
    rw [run_inLoop]
    by_cases e : i = j
    · subst e
      have h0 : ((i : Int) < (i : Int)) = False := eq_false (by omega)
      simp only [t0, t1, t4, t10, t11, h0, xx, r64_0, r64_1, r64_2, r64_3.1, r64_3.2.2.1, r64_3.2.2.2.1, r64_3.2.2.2.2.1, r64_3.2.2.2.2.2.1, r64_3.2.2.2.2.2.2.1, r64_3.2.2.2.2.2.2.2, r64_4, r64_5.1, r64_5.2.1, r64_5.2.2.2.1, r64_5.2.2.2.2.1, r64_5.2.2.2.2.2.1, r64_5.2.2.2.2.2.2.1, r64_5.2.2.2.2.2.2.2, r64_6, r64_7, r64_8, r64_9, r64_10, r64_11, r64_12, r64_13, r64_14, r64_15, r64_16, r64_17, res64, tt, bb, bc, ↓bd, Nat.reduceEqDiff, Nat.reduceAdd, Nat.reduceMul, Nat.reduceLeDiff, Nat.reduceLT, ↓reduceIte, reduceCtorEq, Nat.reduceBeqDiff, Nat.reduceBneDiff, Int.reduceBNe, Int.reduceBEq, Int.reduceEq, Int.reduceLT, Int.reduceLE, Int.reduceAdd, Int.reduceSub, Int.reduceMul, Int.reduceNeg, List.reduceReplicate, Int.reduceToNat]
      refine hK _ i ?_ ?_ ?_ hi hj hl hr
      all_goals simp only [upd_app, t0, t1, t10, Nat.reduceEqDiff, ↓reduceIte]
    · have h0 : ((i : Int) < (j : Int)) = True := eq_true (by omega)
      have w1 : IntKind.i64.wrap ((i : Int) + (j : Int)) = ((i + j : Nat) : Int) := by rw [wr64 (by omega) (by omega)]; omega
      have w2 := u64_half (N := i + j) (by omega)
      generalize hc0 : (i + j) / 2 = c at w2
      have w3 : IntKind.i64.wrap ((c : Int) + 1) = ((c + 1 : Nat) : Int) := by rw [wr64 (by omega) (by omega)]; omega
      have l1 : (c : Int) < (n : Int) := by omega
      have l2 : (a : Int) < (n : Int) := by omega
      have p1 : (0 : Int) ≤ (c : Int) := by omega
      have p2 : (0 : Int) ≤ (a : Int) := by omega
      have g1 : ∀ f', (R n f')[c]? = _ := fun f' => R_get (n := n) (f := f') (show c < n by omega)
      have g2 : ∀ f', (R n f')[a]? = _ := fun f' => R_get (n := n) (f := f') (show a < n by omega)
      have hc := byKey_ok (f c) (f a)
      have hlt := cmpK_lt (f c) (f a)
      by_cases hl' : ltP (f c) (f a) = true
      · have hlt' : (cmpK (f c) (f a) < 0) = True := by rw [hlt]; exact eq_true hl'
        simp only [t0, t1, t4, t10, t11, h0, w1, w2, w3, l1, l2, p1, p2, g1, g2, hlt', shiftBin, call_pure pure26 rfl hc, Int.toNat_natCast, xx, r64_0, r64_1, r64_2, r64_3.1, r64_3.2.2.1, r64_3.2.2.2.1, r64_3.2.2.2.2.1, r64_3.2.2.2.2.2.1, r64_3.2.2.2.2.2.2.1, r64_3.2.2.2.2.2.2.2, r64_4, r64_5.1, r64_5.2.1, r64_5.2.2.2.1, r64_5.2.2.2.2.1, r64_5.2.2.2.2.2.1, r64_5.2.2.2.2.2.2.1, r64_5.2.2.2.2.2.2.2, r64_6, r64_7, r64_8, r64_9, r64_10, r64_11, r64_12, r64_13, r64_14, r64_15, r64_16, r64_17, res64, tt, bb, bc, ↓bd, Nat.reduceEqDiff, Nat.reduceAdd, Nat.reduceMul, Nat.reduceLeDiff, Nat.reduceLT, ↓reduceIte, reduceCtorEq, Nat.reduceBeqDiff, Nat.reduceBneDiff, Int.reduceBNe, Int.reduceBEq, Int.reduceEq, Int.reduceLT, Int.reduceLE, Int.reduceAdd, Int.reduceSub, Int.reduceMul, Int.reduceNeg, List.reduceReplicate, Int.reduceToNat]
        refine ih (c + 1) j _ (by omega) (by omega) (by omega) hj ?_ ?_ ?_ ?_ ?_ ?_ hr
        all_goals first | (simp only [upd_app, t0, t1, t4, t10, t11, Nat.reduceEqDiff, ↓reduceIte]; done) | skip
        intro q x y
        exact bl_le_lt (hs.le x (show q ≤ c by omega) (by omega)) hl'
      · have hlt' : (cmpK (f c) (f a) < 0) = False := by rw [hlt]; exact eq_false hl'
        simp only [t0, t1, t4, t10, t11, h0, w1, w2, w3, l1, l2, p1, p2, g1, g2, hlt', shiftBin, call_pure pure26 rfl hc, Int.toNat_natCast, xx, r64_0, r64_1, r64_2, r64_3.1, r64_3.2.2.1, r64_3.2.2.2.1, r64_3.2.2.2.2.1, r64_3.2.2.2.2.2.1, r64_3.2.2.2.2.2.2.1, r64_3.2.2.2.2.2.2.2, r64_4, r64_5.1, r64_5.2.1, r64_5.2.2.2.1, r64_5.2.2.2.2.1, r64_5.2.2.2.2.2.1, r64_5.2.2.2.2.2.2.1, r64_5.2.2.2.2.2.2.2, r64_6, r64_7, r64_8, r64_9, r64_10, r64_11, r64_12, r64_13, r64_14, r64_15, r64_16, r64_17, res64, tt, bb, bc, ↓bd, Nat.reduceEqDiff, Nat.reduceAdd, Nat.reduceMul, Nat.reduceLeDiff, Nat.reduceLT, ↓reduceIte, reduceCtorEq, Nat.reduceBeqDiff, Nat.reduceBneDiff, Int.reduceBNe, Int.reduceBEq, Int.reduceEq, Int.reduceLT, Int.reduceLE, Int.reduceAdd, Int.reduceSub, Int.reduceMul, Int.reduceNeg, List.reduceReplicate, Int.reduceToNat]
        refine ih i c _ (by omega) hi (by omega) (by omega) ?_ ?_ ?_ ?_ ?_ hl ?_
        all_goals first | (simp only [upd_app, t0, t1, t4, t10, t11, Nat.reduceEqDiff, ↓reduceIte]; done) | skip
        intro q x y
        exact bl_le (by simpa using hl') (hs.le (show m ≤ c by omega) x y)
theorem up_all {i : Nat} (hn : n ≤ 1000000) (hai : a < i) (hin : i ≤ n) (hQ : Q (.tuple []) ⟨h, SB A g n (rot f a (a + 1) i)⟩) :
    ∀ (d k : Nat) (T : Nat → AV), k + 1 + d = i → a ≤ k → T 0 = .slc g 6 0 n → T 10 = .int .i64 (i : Int) → T 13 = .int .i64 (k : Int) →
      Run Cx 64 T [] none [.inLoop c64_30, .inBlock 2, .code c64_40, .code c64_42] ⟨h, SB A g n (rot f a (a + 1) (k + 1))⟩ Q
  | 0, k, T, hd, hak, t0, t10, t13 => by
    obtain rfl : i = k + 1 := by omega
    rw [run_inLoop]
    have w1 : IntKind.i64.wrap (((k + 1 : Nat) : Int) - 1) = (k : Int) := by rw [wr64 (by omega) (by omega)]; omega
    have h0 : ((k : Int) < (k : Int)) = False := eq_false (by omega)
    simp only [t0, t10, t13, w1, h0, xx, r64_0, r64_1, r64_2, r64_3, r64_4, r64_5, r64_6, r64_7, r64_8, r64_9, r64_10, r64_11, r64_12, r64_13, r64_14, r64_15, r64_16, r64_17, res64, tt, bb, bc, ↓bd, Nat.reduceEqDiff, Nat.reduceAdd, Nat.reduceMul, Nat.reduceLeDiff, Nat.reduceLT, ↓reduceIte, reduceCtorEq, Nat.reduceBeqDiff, Nat.reduceBneDiff, Int.reduceBNe, Int.reduceBEq, Int.reduceEq, Int.reduceLT, Int.reduceLE, Int.reduceAdd, Int.reduceSub, Int.reduceMul, Int.reduceNeg, List.reduceReplicate, Int.reduceToNat]
    exact hQ
  | d + 1, k, T, hd, hak, t0, t10, t13 => by
    rw [run_inLoop]
    have w1 : IntKind.i64.wrap ((i : Int) - 1) = ((i - 1 : Nat) : Int) := by rw [wr64 (by omega) (by omega)]; omega
    have w2 : IntKind.i64.wrap ((k : Int) + 1) = ((k + 1 : Nat) : Int) := by rw [wr64 (by omega) (by omega)]; omega
    have h0 : ((k : Int) < ((i - 1 : Nat) : Int)) = True := eq_true (by omega)
    have l1 : (k : Int) < (n : Int) := by omega
    have l2 : ((k + 1 : Nat) : Int) < (n : Int) := by omega
    have p1 : (0 : Int) ≤ (k : Int) := by omega
    have p2 : (0 : Int) ≤ ((k + 1 : Nat) : Int) := by omega
    have g1 : ∀ f', (R n f')[k]? = _ := fun f' => R_get (n := n) (f := f') (show k < n by omega)
    have g2 : ∀ f', (R n f')[k + 1]? = _ := fun f' => R_get (n := n) (f := f') (show k + 1 < n by omega)
    simp only [t0, t10, t13, w1, w2, h0, l1, l2, p1, p2, g1, g2, Int.toNat_natCast, R_set, upd2, sw_eq, xx, r64_0, r64_1, r64_2, r64_3, r64_4, r64_5.2.1, r64_5.2.2.2.1, r64_5.2.2.2.2.1, r64_5.2.2.2.2.2.1, r64_5.2.2.2.2.2.2.1, r64_5.2.2.2.2.2.2.2, r64_6, r64_7, r64_8, r64_9, r64_10, r64_11, r64_12, r64_13, r64_14, r64_15, r64_16, r64_17, res64, tt, bb, bc, ↓bd, Nat.reduceEqDiff, Nat.reduceAdd, Nat.reduceMul, Nat.reduceLeDiff, Nat.reduceLT, ↓reduceIte, reduceCtorEq, Nat.reduceBeqDiff, Nat.reduceBneDiff, Int.reduceBNe, Int.reduceBEq, Int.reduceEq, Int.reduceLT, Int.reduceLE, Int.reduceAdd, Int.reduceSub, Int.reduceMul, Int.reduceNeg, List.reduceReplicate, Int.reduceToNat]
    rw [rot_up f hak]
    refine up_all hn hai hin hQ d (k + 1) _ (by omega) (by omega) ?_ ?_ ?_
    all_goals simp only [upd_app, t0, t10, Nat.reduceEqDiff, ↓reduceIte]
theorem bs2_all (hn : n ≤ 1000000) (hmn : m < n) (hs : Srt f a m)
    (hK : ∀ (T : Nat → AV) (i : Nat), T 0 = .slc g 6 0 n → T 2 = .int .i64 (m : Int) → T 14 = .int .i64 (i : Int) → a ≤ i → i ≤ m → (∀ q, a ≤ q → q < i → ltP (f m) (f q) = false) → (∀ q, i ≤ q → q < m → ltP (f m) (f q) = true) →
      Run Cx 64 T [] none [.code c64_67, .code c64_84] ⟨h, SB A g n f⟩ Q) :
    ∀ (d i j : Nat) (T : Nat → AV), j ≤ i + d → a ≤ i → i ≤ j → j ≤ m → T 0 = .slc g 6 0 n → T 2 = .int .i64 (m : Int) → T 4 = .fn 26 [] [] → T 14 = .int .i64 (i : Int) → T 15 = .int .i64 (j : Int) → (∀ q, a ≤ q → q < i → ltP (f m) (f q) = false) → (∀ q, j ≤ q → q < m → ltP (f m) (f q) = true) →
      Run Cx 64 T [] none [.inLoop c64_53, .inBlock 4, .code c64_67, .code c64_84] ⟨h, SB A g n f⟩ Q := by
  intro d
  induction d with
  | zero =>
    intro i j T hd hi hij hj t0 t2 t4 t14 t15 hl hr
    obtain rfl : i = j := by omega
    rw [run_inLoop]
    have h0 : ((i : Int) < (i : Int)) = False := eq_false (by omega)
    simp only [t0, t2, t4, t14, t15, h0, xx, r64_0, r64_1, r64_2, r64_3, r64_4, r64_5, r64_6, r64_7, r64_8.1, r64_8.2.1, r64_8.2.2.1, r64_8.2.2.2.2.1, r64_8.2.2.2.2.2.1, r64_8.2.2.2.2.2.2.1, r64_8.2.2.2.2.2.2.2, r64_9, r64_10.1, r64_10.2.1, r64_10.2.2.1, r64_10.2.2.2.1, r64_10.2.2.2.2.2.1, r64_10.2.2.2.2.2.2.1, r64_10.2.2.2.2.2.2.2, r64_11, r64_12, r64_13, r64_14, r64_15, r64_16, r64_17, res64, tt, bb, bc, ↓bd, Nat.reduceEqDiff, Nat.reduceAdd, Nat.reduceMul, Nat.reduceLeDiff, Nat.reduceLT, ↓reduceIte, reduceCtorEq, Nat.reduceBeqDiff, Nat.reduceBneDiff, Int.reduceBNe, Int.reduceBEq, Int.reduceEq, Int.reduceLT, Int.reduceLE, Int.reduceAdd, Int.reduceSub, Int.reduceMul, Int.reduceNeg, List.reduceReplicate, Int.reduceToNat]
    refine hK _ i ?_ ?_ ?_ hi hj hl hr
    all_goals simp only [upd_app, t0, t2, t14, Nat.reduceEqDiff, ↓reduceIte]
  | succ d ih =>
    intro i j T hd hi hij hj t0 t2 t4 t14 t15 hl hr
    rw [run_inLoop]
    by_cases e : i = j
    · subst e
      have h0 : ((i : Int) < (i : Int)) = False := eq_false (by omega)
      simp only [t0, t2, t4, t14, t15, h0, xx, r64_0, r64_1, r64_2, r64_3, r64_4, r64_5, r64_6, r64_7, r64_8.1, r64_8.2.1, r64_8.2.2.1, r64_8.2.2.2.2.1, r64_8.2.2.2.2.2.1, r64_8.2.2.2.2.2.2.1, r64_8.2.2.2.2.2.2.2, r64_9, r64_10.1, r64_10.2.1, r64_10.2.2.1, r64_10.2.2.2.1, r64_10.2.2.2.2.2.1, r64_10.2.2.2.2.2.2.1, r64_10.2.2.2.2.2.2.2, r64_11, r64_12, r64_13, r64_14, r64_15, r64_16, r64_17, res64, tt, bb, bc, ↓bd, Nat.reduceEqDiff, Nat.reduceAdd, Nat.reduceMul, Nat.reduceLeDiff, Nat.reduceLT, ↓reduceIte, reduceCtorEq, Nat.reduceBeqDiff, Nat.reduceBneDiff, Int.reduceBNe, Int.reduceBEq, Int.reduceEq, Int.reduceLT, Int.reduceLE, Int.reduceAdd, Int.reduceSub, Int.reduceMul, Int.reduceNeg, List.reduceReplicate, Int.reduceToNat]
      refine hK _ i ?_ ?_ ?_ hi hj hl hr
      all_goals simp only [upd_app, t0, t2, t14, Nat.reduceEqDiff, ↓reduceIte]
    · have h0 : ((i : Int) < (j : Int)) = True := eq_true (by omega)
      have w1 : IntKind.i64.wrap ((i : Int) + (j : Int)) = ((i + j : Nat) : Int) := by rw [wr64 (by omega) (by omega)]; omega
      have w2 := u64_half (N := i + j) (by omega)
      generalize hc0 : (i + j) / 2 = c at w2
      have w3 : IntKind.i64.wrap ((c : Int) + 1) = ((c + 1 : Nat) : Int) := by rw [wr64 (by omega) (by omega)]; omega
      have l1 : (c : Int) < (n : Int) := by omega
      have l2 : (m : Int) < (n : Int) := by omega
      have p1 : (0 : Int) ≤ (c : Int) := by omega
      have p2 : (0 : Int) ≤ (m : Int) := by omega
      have g1 : ∀ f', (R n f')[c]? = _ := fun f' => R_get (n := n) (f := f') (show c < n by omega)
      have g2 : ∀ f', (R n f')[m]? = _ := fun f' => R_get (n := n) (f := f') (show m < n by omega)
      have hc := byKey_ok (f m) (f c)
      have hlt := cmpK_lt (f m) (f c)
      by_cases hl' : ltP (f m) (f c) = true
      · have hlt' : (cmpK (f m) (f c) < 0) = True := by rw [hlt]; exact eq_true hl'
        simp only [t0, t2, t4, t14, t15, h0, w1, w2, w3, l1, l2, p1, p2, g1, g2, hlt', un, shiftBin, call_pure pure26 rfl hc, Int.toNat_natCast, xx, r64_0, r64_1, r64_2, r64_3, r64_4, r64_5, r64_6, r64_7, r64_8.1, r64_8.2.1, r64_8.2.2.1, r64_8.2.2.2.2.1, r64_8.2.2.2.2.2.1, r64_8.2.2.2.2.2.2.1, r64_8.2.2.2.2.2.2.2, r64_9, r64_10.1, r64_10.2.1, r64_10.2.2.1, r64_10.2.2.2.1, r64_10.2.2.2.2.2.1, r64_10.2.2.2.2.2.2.1, r64_10.2.2.2.2.2.2.2, r64_11, r64_12, r64_13, r64_14, r64_15, r64_16, r64_17, res64, tt, bb, bc, ↓bd, Nat.reduceEqDiff, Nat.reduceAdd, Nat.reduceMul, Nat.reduceLeDiff, Nat.reduceLT, ↓reduceIte, reduceCtorEq, Nat.reduceBeqDiff, Nat.reduceBneDiff, Int.reduceBNe, Int.reduceBEq, Int.reduceEq, Int.reduceLT, Int.reduceLE, Int.reduceAdd, Int.reduceSub, Int.reduceMul, Int.reduceNeg, List.reduceReplicate, Int.reduceToNat]
        refine ih i c _ (by omega) hi (by omega) (by omega) ?_ ?_ ?_ ?_ ?_ hl ?_
        all_goals first | (simp only [upd_app, t0, t2, t4, t14, t15, Nat.reduceEqDiff, ↓reduceIte]; done) | skip
        intro q x y
        exact bl_lt_le hl' (hs.le (show a ≤ c by omega) x y)
      · have hlt' : (cmpK (f m) (f c) < 0) = False := by rw [hlt]; exact eq_false hl'
        simp only [t0, t2, t4, t14, t15, h0, w1, w2, w3, l1, l2, p1, p2, g1, g2, hlt', un, shiftBin, call_pure pure26 rfl hc, Int.toNat_natCast, xx, r64_0, r64_1, r64_2, r64_3, r64_4, r64_5, r64_6, r64_7, r64_8.1, r64_8.2.1, r64_8.2.2.1, r64_8.2.2.2.2.1, r64_8.2.2.2.2.2.1, r64_8.2.2.2.2.2.2.1, r64_8.2.2.2.2.2.2.2, r64_9, r64_10.1, r64_10.2.1, r64_10.2.2.1, r64_10.2.2.2.1, r64_10.2.2.2.2.2.1, r64_10.2.2.2.2.2.2.1, r64_10.2.2.2.2.2.2.2, r64_11, r64_12, r64_13, r64_14, r64_15, r64_16, r64_17, res64, tt, bb, bc, ↓bd, Nat.reduceEqDiff, Nat.reduceAdd, Nat.reduceMul, Nat.reduceLeDiff, Nat.reduceLT, ↓reduceIte, reduceCtorEq, Nat.reduceBeqDiff, Nat.reduceBneDiff, Int.reduceBNe, Int.reduceBEq, Int.reduceEq, Int.reduceLT, Int.reduceLE, Int.reduceAdd, Int.reduceSub, Int.reduceMul, Int.reduceNeg, List.reduceReplicate, Int.reduceToNat]
        refine ih (c + 1) j _ (by omega) (by omega) (by omega) hj ?_ ?_ ?_ ?_ ?_ ?_ hr
        all_goals first | (simp only [upd_app, t0, t2, t4, t14, t15, Nat.reduceEqDiff, ↓reduceIte]; done) | skip
        intro q x y
        exact bl_le (hs.le x (show q ≤ c by omega) (by omega)) (by simpa using hl')
theorem down_all {i : Nat} (hn : n ≤ 1000000) (him : i ≤ m) (hmn : m < n) (hQ : Q (.tuple []) ⟨h, SB A g n (rot f i m (m + 1))⟩) :
    ∀ (d k : Nat) (T : Nat → AV), k = i + d → k ≤ m → T 0 = .slc g 6 0 n → T 14 = .int .i64 (i : Int) → T 17 = .int .i64 (k : Int) →
      Run Cx 64 T [] none [.inLoop c64_72, .inBlock 6, .code c64_82, .code c64_84] ⟨h, SB A g n (rot f k m (m + 1))⟩ Q
  | 0, k, T, hd, hkm, t0, t14, t17 => by
    obtain rfl : k = i := by omega
    rw [run_inLoop]
    have h0 : ((k : Int) < (k : Int)) = False := eq_false (by omega)
    simp only [t0, t14, t17, h0, xx, r64_0, r64_1, r64_2, r64_3, r64_4, r64_5, r64_6, r64_7, r64_8, r64_9, r64_10, r64_11, r64_12, r64_13, r64_14, r64_15, r64_16, r64_17, res64, tt, bb, bc, ↓bd, Nat.reduceEqDiff, Nat.reduceAdd, Nat.reduceMul, Nat.reduceLeDiff, Nat.reduceLT, ↓reduceIte, reduceCtorEq, Nat.reduceBeqDiff, Nat.reduceBneDiff, Int.reduceBNe, Int.reduceBEq, Int.reduceEq, Int.reduceLT, Int.reduceLE, Int.reduceAdd, Int.reduceSub, Int.reduceMul, Int.reduceNeg, List.reduceReplicate, Int.reduceToNat]
    exact hQ
  | d + 1, k, T, hd, hkm, t0, t14, t17 => by
    obtain ⟨k, rfl⟩ : ∃ k', k = k' + 1 := ⟨k - 1, by omega⟩
    rw [run_inLoop]
    have w1 : IntKind.i64.wrap (((k + 1 : Nat) : Int) - 1) = (k : Int) := by rw [wr64 (by omega) (by omega)]; omega
    have h0 : ((i : Int) < ((k + 1 : Nat) : Int)) = True := eq_true (by omega)
    have l1 : (k : Int) < (n : Int) := by omega
    have l2 : ((k + 1 : Nat) : Int) < (n : Int) := by omega
    have p1 : (0 : Int) ≤ (k : Int) := by omega
    have p2 : (0 : Int) ≤ ((k + 1 : Nat) : Int) := by omega
    have g1 : ∀ f', (R n f')[k]? = _ := fun f' => R_get (n := n) (f := f') (show k < n by omega)
    have g2 : ∀ f', (R n f')[k + 1]? = _ := fun f' => R_get (n := n) (f := f') (show k + 1 < n by omega)
    simp only [t0, t14, t17, w1, h0, l1, l2, p1, p2, g1, g2, Int.toNat_natCast, R_set, upd2, sw_eq, xx, r64_0, r64_1, r64_2, r64_3, r64_4, r64_5, r64_6, r64_7, r64_8, r64_9, r64_10.1, r64_10.2.1, r64_10.2.2.2.1, r64_10.2.2.2.2.2.1, r64_10.2.2.2.2.2.2.1, r64_10.2.2.2.2.2.2.2, r64_11, r64_12, r64_13, r64_14, r64_15, r64_16, r64_17, res64, tt, bb, bc, ↓bd, Nat.reduceEqDiff, Nat.reduceAdd, Nat.reduceMul, Nat.reduceLeDiff, Nat.reduceLT, ↓reduceIte, reduceCtorEq, Nat.reduceBeqDiff, Nat.reduceBneDiff, Int.reduceBNe, Int.reduceBEq, Int.reduceEq, Int.reduceLT, Int.reduceLE, Int.reduceAdd, Int.reduceSub, Int.reduceMul, Int.reduceNeg, List.reduceReplicate, Int.reduceToNat]
    rw [rot_down f (by omega)]
    refine down_all hn him hmn hQ d k _ (by omega) (by omega) ?_ ?_ ?_
    all_goals simp only [upd_app, t0, t14, Nat.reduceEqDiff, ↓reduceIte]
theorem bs3_all {p lo r0 : Nat} {mv nv : AV} (hn : n ≤ 1000000) (hbn : b ≤ n) (hmb : m ≤ b) (hp : p ≤ 2000000) (h1 : Srt f a m) (h2 : Srt f m b) (hrng : ∀ c, lo ≤ c → c < r0 → a ≤ c ∧ c < m ∧ m + c ≤ p ∧ p < b + c) (hlr : r0 ≤ n)
    (hK : ∀ (T : Nat → AV) (s : Nat), T 0 = .slc g 6 0 n → T 1 = .int .i64 (a : Int) → T 2 = .int .i64 (m : Int) → T 3 = .int .i64 (b : Int) → T 4 = .fn 26 [] [] → T 18 = mv → T 19 = nv → T 20 = .int .i64 (s : Int) → lo ≤ s → s ≤ r0 → (∀ c, lo ≤ c → c < s → ltP (f (p - c)) (f c) = false) → (∀ c, s ≤ c → c < r0 → ltP (f (p - c)) (f c) = true) →
      Run Cx 64 T [] none [.code c64_119] ⟨h, SB A g n f⟩ Q) :
    ∀ (d s r : Nat) (T : Nat → AV), r ≤ s + d → lo ≤ s → s ≤ r → r ≤ r0 → T 0 = .slc g 6 0 n → T 1 = .int .i64 (a : Int) → T 2 = .int .i64 (m : Int) → T 3 = .int .i64 (b : Int) → T 4 = .fn 26 [] [] → T 18 = mv → T 19 = nv → T 20 = .int .i64 (s : Int) → T 21 = .int .i64 (r : Int) → T 22 = .int .i64 (p : Int) → (∀ c, lo ≤ c → c < s → ltP (f (p - c)) (f c) = false) → (∀ c, r ≤ c → c < r0 → ltP (f (p - c)) (f c) = true) →
      Run Cx 64 T [] none [.inLoop c64_105, .inBlock 8, .code c64_119] ⟨h, SB A g n f⟩ Q := by
  intro d
  induction d with
  | zero =>
    intro s r T hd hi hij hj t0 t1 t2 t3 t4 t18 t19 t20 t21 t22 hl hr
    obtain rfl : s = r := by omega
    rw [run_inLoop]
    have h0 : ((s : Int) < (s : Int)) = False := eq_false (by omega)
    simp only [t0, t20, t21, h0, xx, r64_0, r64_1, r64_2, r64_3, r64_4, r64_5, r64_6, r64_7, r64_8, r64_9, r64_10, r64_11, r64_12, r64_13, r64_14.1, r64_14.2.1, r64_14.2.2.1, r64_14.2.2.2.1, r64_14.2.2.2.2.1, r64_14.2.2.2.2.2.1, r64_14.2.2.2.2.2.2.1, r64_15, r64_16, r64_17, res64, tt, bb, bc, ↓bd, Nat.reduceEqDiff, Nat.reduceAdd, Nat.reduceMul, Nat.reduceLeDiff, Nat.reduceLT, ↓reduceIte, reduceCtorEq, Nat.reduceBeqDiff, Nat.reduceBneDiff, Int.reduceBNe, Int.reduceBEq, Int.reduceEq, Int.reduceLT, Int.reduceLE, Int.reduceAdd, Int.reduceSub, Int.reduceMul, Int.reduceNeg, List.reduceReplicate, Int.reduceToNat]
    refine hK _ s ?_ ?_ ?_ ?_ ?_ ?_ ?_ ?_ hi hj hl hr
    all_goals simp only [upd_app, t0, t1, t2, t3, t4, t18, t19, t20, Nat.reduceEqDiff, ↓reduceIte]
  | succ d ih =>
    intro s r T hd hi hij hj t0 t1 t2 t3 t4 t18 t19 t20 t21 t22 hl hr
    rw [run_inLoop]
    by_cases e : s = r
    · subst e
      have h0 : ((s : Int) < (s : Int)) = False := eq_false (by omega)
      simp only [t0, t20, t21, h0, xx, r64_0, r64_1, r64_2, r64_3, r64_4, r64_5, r64_6, r64_7, r64_8, r64_9, r64_10, r64_11, r64_12, r64_13, r64_14.1, r64_14.2.1, r64_14.2.2.1, r64_14.2.2.2.1, r64_14.2.2.2.2.1, r64_14.2.2.2.2.2.1, r64_14.2.2.2.2.2.2.1, r64_15, r64_16, r64_17, res64, tt, bb, bc, ↓bd, Nat.reduceEqDiff, Nat.reduceAdd, Nat.reduceMul, Nat.reduceLeDiff, Nat.reduceLT, ↓reduceIte, reduceCtorEq, Nat.reduceBeqDiff, Nat.reduceBneDiff, Int.reduceBNe, Int.reduceBEq, Int.reduceEq, Int.reduceLT, Int.reduceLE, Int.reduceAdd, Int.reduceSub, Int.reduceMul, Int.reduceNeg, List.reduceReplicate, Int.reduceToNat]
      refine hK _ s ?_ ?_ ?_ ?_ ?_ ?_ ?_ ?_ hi hj hl hr
      all_goals simp only [upd_app, t0, t1, t2, t3, t4, t18, t19, t20, Nat.reduceEqDiff, ↓reduceIte]
    · have h0 : ((s : Int) < (r : Int)) = True := eq_true (by omega)
      have w1 : IntKind.i64.wrap ((s : Int) + (r : Int)) = ((s + r : Nat) : Int) := by rw [wr64 (by omega) (by omega)]; omega
      have w2 := u64_half (N := s + r) (by omega)
      generalize hc0 : (s + r) / 2 = c at w2
      obtain ⟨r1, r2, r3, r4⟩ := hrng c (by omega) (by omega)
      have w3 : IntKind.i64.wrap ((c : Int) + 1) = ((c + 1 : Nat) : Int) := by rw [wr64 (by omega) (by omega)]; omega
      have w4 : IntKind.i64.wrap ((p : Int) - (c : Int)) = ((p - c : Nat) : Int) := by rw [wr64 (by omega) (by omega)]; omega
      have l1 : (c : Int) < (n : Int) := by omega
      have l2 : ((p - c : Nat) : Int) < (n : Int) := by omega
      have p1 : (0 : Int) ≤ (c : Int) := by omega
      have p2 : (0 : Int) ≤ ((p - c : Nat) : Int) := by omega
      have g1 : ∀ f', (R n f')[c]? = _ := fun f' => R_get (n := n) (f := f') (show c < n by omega)
      have g2 : ∀ f', (R n f')[p - c]? = _ := fun f' => R_get (n := n) (f := f') (show p - c < n by omega)
      have hc := byKey_ok (f (p - c)) (f c)
      have hlt := cmpK_lt (f (p - c)) (f c)
      by_cases hl' : ltP (f (p - c)) (f c) = true
      · have hlt' : (cmpK (f (p - c)) (f c) < 0) = True := by rw [hlt]; exact eq_true hl'
        simp only [t0, t4, t20, t21, t22, h0, w1, w2, w3, w4, l1, l2, p1, p2, g1, g2, hlt', un, shiftBin, call_pure pure26 rfl hc, Int.toNat_natCast, xx, r64_0, r64_1, r64_2, r64_3, r64_4, r64_5, r64_6, r64_7, r64_8, r64_9, r64_10, r64_11, r64_12, r64_13, r64_14.1, r64_14.2.1, r64_14.2.2.1, r64_14.2.2.2.1, r64_14.2.2.2.2.1, r64_14.2.2.2.2.2.1, r64_14.2.2.2.2.2.2.1, r64_15, r64_16, r64_17, res64, tt, bb, bc, ↓bd, Nat.reduceEqDiff, Nat.reduceAdd, Nat.reduceMul, Nat.reduceLeDiff, Nat.reduceLT, ↓reduceIte, reduceCtorEq, Nat.reduceBeqDiff, Nat.reduceBneDiff, Int.reduceBNe, Int.reduceBEq, Int.reduceEq, Int.reduceLT, Int.reduceLE, Int.reduceAdd, Int.reduceSub, Int.reduceMul, Int.reduceNeg, List.reduceReplicate, Int.reduceToNat]
        refine ih s c _ (by omega) hi (by omega) (by omega) ?_ ?_ ?_ ?_ ?_ ?_ ?_ ?_ ?_ ?_ hl ?_
        all_goals first | (simp only [upd_app, t0, t1, t2, t3, t4, t18, t19, t20, t21, t22, Nat.reduceEqDiff, ↓reduceIte]; done) | skip
        intro q x y
        obtain ⟨q1, q2, q3, q4⟩ := hrng q (by omega) y
        exact bl_lt_le (bl_le_lt (h2.le (show m ≤ p - q by omega) (show p - q ≤ p - c by omega) (by omega)) hl') (h1.le r1 x q2)
      · have hlt' : (cmpK (f (p - c)) (f c) < 0) = False := by rw [hlt]; exact eq_false hl'
        simp only [t0, t4, t20, t21, t22, h0, w1, w2, w3, w4, l1, l2, p1, p2, g1, g2, hlt', un, shiftBin, call_pure pure26 rfl hc, Int.toNat_natCast, xx, r64_0, r64_1, r64_2, r64_3, r64_4, r64_5, r64_6, r64_7, r64_8, r64_9, r64_10, r64_11, r64_12, r64_13, r64_14.1, r64_14.2.1, r64_14.2.2.1, r64_14.2.2.2.1, r64_14.2.2.2.2.1, r64_14.2.2.2.2.2.1, r64_14.2.2.2.2.2.2.1, r64_15, r64_16, r64_17, res64, tt, bb, bc, ↓bd, Nat.reduceEqDiff, Nat.reduceAdd, Nat.reduceMul, Nat.reduceLeDiff, Nat.reduceLT, ↓reduceIte, reduceCtorEq, Nat.reduceBeqDiff, Nat.reduceBneDiff, Int.reduceBNe, Int.reduceBEq, Int.reduceEq, Int.reduceLT, Int.reduceLE, Int.reduceAdd, Int.reduceSub, Int.reduceMul, Int.reduceNeg, List.reduceReplicate, Int.reduceToNat]
        refine ih (c + 1) r _ (by omega) (by omega) (by omega) hj ?_ ?_ ?_ ?_ ?_ ?_ ?_ ?_ ?_ ?_ ?_ hr
        all_goals first | (simp only [upd_app, t0, t1, t2, t3, t4, t18, t19, t20, t21, t22, Nat.reduceEqDiff, ↓reduceIte]; done) | skip
        intro q x y
        obtain ⟨q1, q2, q3, q4⟩ := hrng q x (by omega)
        exact bl_le (bl_le (h1.le q1 (show q ≤ c by omega) r2) (by simpa using hl')) (h2.le (show m ≤ p - c by omega) (show p - c ≤ p - q by omega) (by omega))
end
end Go.Proofs.Ytjnopnlgcmlkfaa.G

