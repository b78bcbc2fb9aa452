import Derived.Test.YtbfjkomlnpolmaaKRSPlays3
import Derived.Laws.BitsLemmas
namespace Go.Proofs.Ytbfjkomlnpolmaa.G
open Go.BX
section
variable {T : Nat → AV} {ds : List ADef} {ro : Option Nat} {k : List AItem} {H : AHeap} {Q : AV → AHeap → Prop}
def o3_1 : List AO := [oA 4 (.assign (.const (.bool false))) 4]
def c3_1 : AC := .region o3_1 []
theorem n3_1 : RegR Cx 3 c3_1 o3_1 := run_region
def o3_4 : List AO := [oA 11 (cF 7 #[] #[]) 4,
  oA 12 (.unOp .not 4 (tm 11)) 4,
  oA 13 (.move (tm 12)) 4,
  oG 14 (.move (tm 0)) 22 13 false,
  oG 15 (cF 8 #[(tm 14)] #[22]) 3 13 false,
  oG 16 (.binOp .eql 3 (tm 15) (ci 0) 3) 4 13 false,
  oA 17 (.pick (tm 13) (.const (.bool true)) (tm 16)) 4,
  oA 18 (.move (tm 17)) 4,
  oG 19 (.move (tm 0)) 22 18 false,
  oG 20 (cF 9 #[(tm 19)] #[22]) 4 18 false,
  oG 21 (.unOp .not 4 (tm 20)) 4 18 false,
  oA 22 (.pick (tm 18) (.const (.bool true)) (tm 21)) 4]
def c3_4 : AC := .region o3_4 []
theorem n3_4 : RegR Cx 3 c3_4 o3_4 := run_region
def o3_7 : List AO := [oA 23 (cF 7 #[] #[]) 4,
  oA 4 (.assign (tm 23)) 4]
def c3_7 : AC := .region o3_7 []
theorem n3_7 : RegR Cx 3 c3_7 o3_7 := run_region
def c3_8 : AC := .ret
theorem n3_8 : RetR Cx 3 c3_8 := run_ret
def c3_6 : AC := .seq c3_7 c3_8
theorem n3_6 : SeqR Cx 3 c3_6 c3_7 c3_8 := run_seq
def c3_9 : AC := .skip
theorem n3_9 : SkipR Cx 3 c3_9 := run_skip
def c3_5 : AC := .cond (tm 22) c3_6 c3_9
theorem n3_5 : CondR Cx 3 c3_5 (tm 22) c3_6 c3_9 := run_condC
def c3_3 : AC := .seq c3_4 c3_5
theorem n3_3 : SeqR Cx 3 c3_3 c3_4 c3_5 := run_seq
def o3_11 : List AO := [oA 24 (.move (tm 1)) 5,
  oA 25 (.convert 5 3 (tm 24)) 3,
  oA 26 (.binOp .add 3 (ci 1) (tm 25) 3) 3,
  oA 5 (.assign (tm 26)) 3]
def c3_11 : AC := .region o3_11 []
theorem n3_11 : RegR Cx 3 c3_11 o3_11 := run_region
def o3_13 : List AO := [oA 28 (.move (tm 0)) 22,
  oA 29 (.move (tm 5)) 3,
  oA 30 (cF 10 #[(tm 28), (tm 29)] #[22, 3]) 27,
  oA 27 (.move (tm 30)) 27,
  oA 31 (.extract (tm 27) 0) 26,
  oA 32 (.extract (tm 27) 1) 4,
  oA 6 (.assign (tm 31)) 26,
  oA 7 (.assign (tm 32)) 4]
def c3_13 : AC := .region o3_13 []
theorem n3_13 : RegR Cx 3 c3_13 o3_13 := run_region
def o3_16 : List AO := [oA 33 (.move (tm 7)) 4,
  oA 34 (.unOp .not 4 (tm 33)) 4]
def c3_16 : AC := .region o3_16 []
theorem n3_16 : RegR Cx 3 c3_16 o3_16 := run_region
def o3_19 : List AO := [oA 4 (.assign (.const (.bool false))) 4]
def c3_19 : AC := .region o3_19 []
theorem n3_19 : RegR Cx 3 c3_19 o3_19 := run_region
def c3_20 : AC := .ret
theorem n3_20 : RetR Cx 3 c3_20 := run_ret
def c3_18 : AC := .seq c3_19 c3_20
theorem n3_18 : SeqR Cx 3 c3_18 c3_19 c3_20 := run_seq
def c3_21 : AC := .skip
theorem n3_21 : SkipR Cx 3 c3_21 := run_skip
def c3_17 : AC := .cond (tm 34) c3_18 c3_21
theorem n3_17 : CondR Cx 3 c3_17 (tm 34) c3_18 c3_21 := run_condC
def c3_15 : AC := .seq c3_16 c3_17
theorem n3_15 : SeqR Cx 3 c3_15 c3_16 c3_17 := run_seq
def o3_23 : List AO := [oA 35 (.move (tm 6)) 26,
  oA 36 (cF 11 #[(tm 35)] #[26]) 29,
  oA 8 (.assign (tm 36)) 29]
def c3_23 : AC := .region o3_23 []
theorem n3_23 : RegR Cx 3 c3_23 o3_23 := run_region
def o3_25 : List AO := [oA 9 (.assign (ci 0)) 3]
def c3_25 : AC := .region o3_25 []
theorem n3_25 : RegR Cx 3 c3_25 o3_25 := run_region
def o3_28 : List AO := [oA 10 (.assign (ci 0)) 3]
def c3_28 : AC := .region o3_28 []
theorem n3_28 : RegR Cx 3 c3_28 o3_28 := run_region
def o3_33 : List AO := [oA 37 (.move (tm 10)) 3,
  oA 38 (.move (tm 8)) 29,
  oA 39 (cB .len #[(tm 38)] #[29]) 3,
  oA 40 (.binOp .lss 3 (tm 37) (tm 39) 3) 4]
def c3_33 : AC := .region o3_33 []
theorem n3_33 : RegR Cx 3 c3_33 o3_33 := run_region
def c3_35 : AC := .skip
theorem n3_35 : SkipR Cx 3 c3_35 := run_skip
def c3_36 : AC := .exit 0
theorem n3_36 : ExitR Cx 3 c3_36 0 := run_exit_start
def c3_34 : AC := .cond (tm 40) c3_35 c3_36
theorem n3_34 : CondR Cx 3 c3_34 (tm 40) c3_35 c3_36 := run_condC
def c3_32 : AC := .seq c3_33 c3_34
theorem n3_32 : SeqR Cx 3 c3_32 c3_33 c3_34 := run_seq
def o3_41 : List AO := [oA 43 (.move (tm 8)) 29,
  oA 44 (.move (tm 10)) 3,
  oA 45 (.indexAddr 29 (tm 43) (tm 44)) 0,
  oA 46 (.load 22 (tm 45)) 22,
  oA 47 (cF 12 #[(tm 46)] #[22]) 4,
  oA 48 (.unOp .not 4 (tm 47)) 4,
  oA 49 (.move (tm 48)) 4,
  oG 50 (.move (tm 8)) 29 49 false,
  oG 51 (.move (tm 10)) 3 49 false,
  oG 52 (.indexAddr 29 (tm 50) (tm 51)) 0 49 false,
  oG 53 (.load 22 (tm 52)) 22 49 false,
  oG 54 (cB .len #[(tm 53)] #[22]) 3 49 false,
  oG 55 (.binOp .eql 3 (tm 54) (ci 0) 3) 4 49 false,
  oA 56 (.pick (tm 49) (.const (.bool true)) (tm 55)) 4,
  oA 57 (.move (tm 56)) 4,
  oG 58 (.move (tm 8)) 29 57 false,
  oG 59 (.move (tm 10)) 3 57 false,
  oG 60 (.indexAddr 29 (tm 58) (tm 59)) 0 57 false,
  oG 61 (.load 22 (tm 60)) 22 57 false,
  oG 62 (cB .len #[(tm 61)] #[22]) 3 57 false,
  oG 63 (.move (tm 5)) 3 57 false,
  oG 64 (.binOp .gtr 3 (tm 62) (tm 63) 3) 4 57 false,
  oA 65 (.pick (tm 57) (.const (.bool true)) (tm 64)) 4,
  oA 66 (.move (tm 65)) 4,
  oG 67 (.move (tm 10)) 3 66 false,
  oG 68 (.move (tm 8)) 29 66 false,
  oG 69 (cB .len #[(tm 68)] #[29]) 3 66 false,
  oG 70 (.binOp .sub 3 (tm 69) (ci 1) 3) 3 66 false,
  oG 71 (.binOp .lss 3 (tm 67) (tm 70) 3) 4 66 false,
  oG 72 (.move (tm 71)) 4 66 false,
  oG 73 (.move (tm 8)) 29 72 true,
  oG 74 (.move (tm 10)) 3 72 true,
  oG 75 (.indexAddr 29 (tm 73) (tm 74)) 0 72 true,
  oG 76 (.load 22 (tm 75)) 22 72 true,
  oG 77 (cB .len #[(tm 76)] #[22]) 3 72 true,
  oG 78 (.move (tm 5)) 3 72 true,
  oG 79 (.binOp .neq 3 (tm 77) (tm 78) 3) 4 72 true,
  oG 80 (.pick (tm 72) (tm 79) (.const (.bool false))) 4 66 false,
  oA 81 (.pick (tm 66) (.const (.bool true)) (tm 80)) 4]
def c3_41 : AC := .region o3_41 []
theorem n3_41 : RegR Cx 3 c3_41 o3_41 := run_region
def o3_44 : List AO := [oA 4 (.assign (.const (.bool false))) 4]
def c3_44 : AC := .region o3_44 []
theorem n3_44 : RegR Cx 3 c3_44 o3_44 := run_region
def c3_45 : AC := .ret
theorem n3_45 : RetR Cx 3 c3_45 := run_ret
def c3_43 : AC := .seq c3_44 c3_45
theorem n3_43 : SeqR Cx 3 c3_43 c3_44 c3_45 := run_seq
def c3_46 : AC := .skip
theorem n3_46 : SkipR Cx 3 c3_46 := run_skip
def c3_42 : AC := .cond (tm 81) c3_43 c3_46
theorem n3_42 : CondR Cx 3 c3_42 (tm 81) c3_43 c3_46 := run_condC
def c3_40 : AC := .seq c3_41 c3_42
theorem n3_40 : SeqR Cx 3 c3_40 c3_41 c3_42 := run_seq
def o3_47 : List AO := [oA 82 (.move (tm 9)) 3,
  oA 83 (.move (tm 8)) 29,
  oA 84 (.move (tm 10)) 3,
  oA 85 (.indexAddr 29 (tm 83) (tm 84)) 0,
  oA 86 (.load 22 (tm 85)) 22,
  oA 87 (cB .len #[(tm 86)] #[22]) 3,
  oA 88 (.binOp .add 3 (tm 82) (tm 87) 3) 3,
  oA 9 (.assign (tm 88)) 3]
def c3_47 : AC := .region o3_47 []
theorem n3_47 : RegR Cx 3 c3_47 o3_47 := run_region
def c3_39 : AC := .seq c3_40 c3_47
theorem n3_39 : SeqR Cx 3 c3_39 c3_40 c3_47 := run_seq
def c3_38 : AC := .block 1 c3_39
theorem n3_38 : BlkR Cx 3 c3_38 1 c3_39 := run_block
def o3_48 : List AO := [oA 41 (.move (tm 10)) 3,
  oA 42 (.binOp .add 3 (tm 41) (ci 1) 3) 3,
  oA 10 (.assign (tm 42)) 3]
def c3_48 : AC := .region o3_48 []
theorem n3_48 : RegR Cx 3 c3_48 o3_48 := run_region
def c3_37 : AC := .seq c3_38 c3_48
theorem n3_37 : SeqR Cx 3 c3_37 c3_38 c3_48 := run_seq
def c3_31 : AC := .seq c3_32 c3_37
theorem n3_31 : SeqR Cx 3 c3_31 c3_32 c3_37 := run_seq
def c3_30 : AC := .loop c3_31
theorem n3_30 : LoopR Cx 3 c3_30 c3_31 := run_loop'
def c3_29 : AC := .block 0 c3_30
theorem n3_29 : BlkR Cx 3 c3_29 0 c3_30 := run_block
def c3_27 : AC := .seq c3_28 c3_29
theorem n3_27 : SeqR Cx 3 c3_27 c3_28 c3_29 := run_seq
def o3_50 : List AO := [oA 89 (.move (tm 9)) 3,
  oA 90 (.move (tm 0)) 22,
  oA 91 (cB .len #[(tm 90)] #[22]) 3,
  oA 92 (.binOp .eql 3 (tm 89) (tm 91) 3) 4,
  oA 93 (.move (tm 92)) 4,
  oG 94 (.move (tm 9)) 3 93 true,
  oG 95 (.move (tm 6)) 26 93 true,
  oG 96 (cF 13 #[(tm 95)] #[26]) 3 93 true,
  oG 97 (.binOp .eql 3 (tm 94) (tm 96) 3) 4 93 true,
  oA 98 (.pick (tm 93) (tm 97) (.const (.bool false))) 4,
  oA 4 (.assign (tm 98)) 4]
def c3_50 : AC := .region o3_50 []
theorem n3_50 : RegR Cx 3 c3_50 o3_50 := run_region
def c3_51 : AC := .ret
theorem n3_51 : RetR Cx 3 c3_51 := run_ret
def c3_49 : AC := .seq c3_50 c3_51
theorem n3_49 : SeqR Cx 3 c3_49 c3_50 c3_51 := run_seq
def c3_26 : AC := .seq c3_27 c3_49
theorem n3_26 : SeqR Cx 3 c3_26 c3_27 c3_49 := run_seq
def c3_24 : AC := .seq c3_25 c3_26
theorem n3_24 : SeqR Cx 3 c3_24 c3_25 c3_26 := run_seq
def c3_22 : AC := .seq c3_23 c3_24
theorem n3_22 : SeqR Cx 3 c3_22 c3_23 c3_24 := run_seq
def c3_14 : AC := .seq c3_15 c3_22
theorem n3_14 : SeqR Cx 3 c3_14 c3_15 c3_22 := run_seq
def c3_12 : AC := .seq c3_13 c3_14
theorem n3_12 : SeqR Cx 3 c3_12 c3_13 c3_14 := run_seq
def c3_10 : AC := .seq c3_11 c3_12
theorem n3_10 : SeqR Cx 3 c3_10 c3_11 c3_12 := run_seq
def c3_2 : AC := .seq c3_3 c3_10
theorem n3_2 : SeqR Cx 3 c3_2 c3_3 c3_10 := run_seq
def c3_0 : AC := .seq c3_1 c3_2
theorem n3_0 : SeqR Cx 3 c3_0 c3_1 c3_2 := run_seq
theorem body3 : bodyOf Cx 3 = some c3_0 := by kernel_rfl
theorem res3 : resOf Cx 3 = some [.tmp 4] := by kernel_rfl
theorem pure3 : Cx.pure 3 = true := by kernel_rfl
def o4_1 : List AO := [oA 5 (.box 5 (tm 2)) 0,
  oA 6 (.alloc 4) 0]
def c4_1 : AC := .region o4_1 []
theorem n4_1 : RegR Cx 4 c4_1 o4_1 := run_region
def o4_4 : List AO := [oA 19 (cF 7 #[] #[]) 4,
  oA 20 (.unOp .not 4 (tm 19)) 4,
  oA 21 (.move (tm 20)) 4,
  oG 22 (.move (tm 0)) 22 21 false,
  oG 23 (cF 8 #[(tm 22)] #[22]) 3 21 false,
  oG 24 (.binOp .eql 3 (tm 23) (ci 0) 3) 4 21 false,
  oA 25 (.pick (tm 21) (.const (.bool true)) (tm 24)) 4]
def c4_4 : AC := .region o4_4 []
theorem n4_4 : RegR Cx 4 c4_4 o4_4 := run_region
def o4_7 : List AO := [oA 26 (cF 7 #[] #[]) 4,
  oN (.store 4 (tm 6) (tm 26)) 0]
def c4_7 : AC := .region o4_7 []
theorem n4_7 : RegR Cx 4 c4_7 o4_7 := run_region
def c4_8 : AC := .ret
theorem n4_8 : RetR Cx 4 c4_8 := run_ret
def c4_6 : AC := .seq c4_7 c4_8
theorem n4_6 : SeqR Cx 4 c4_6 c4_7 c4_8 := run_seq
def c4_9 : AC := .skip
theorem n4_9 : SkipR Cx 4 c4_9 := run_skip
def c4_5 : AC := .cond (tm 25) c4_6 c4_9
theorem n4_5 : CondR Cx 4 c4_5 (tm 25) c4_6 c4_9 := run_condC
def c4_3 : AC := .seq c4_4 c4_5
theorem n4_3 : SeqR Cx 4 c4_3 c4_4 c4_5 := run_seq
def o4_11 : List AO := [oA 28 (.move (tm 1)) 3,
  oA 29 (cF 14 #[(tm 28)] #[3]) 34,
  oA 27 (.move (tm 29)) 34,
  oA 30 (.extract (tm 27) 0) 26,
  oA 31 (.extract (tm 27) 1) 33,
  oA 7 (.assign (tm 30)) 26,
  oA 8 (.assign (tm 31)) 33]
def c4_11 : AC := .region o4_11 []
theorem n4_11 : RegR Cx 4 c4_11 o4_11 := run_region
def o4_14 : List AO := [oA 32 (.move (tm 1)) 3,
  oA 33 (.binOp .lss 3 (tm 32) (ci 1) 3) 4,
  oA 34 (.move (tm 33)) 4,
  oG 35 (.move (tm 1)) 3 34 false,
  oG 36 (.binOp .gtr 3 (tm 35) (ci 4096) 3) 4 34 false,
  oA 37 (.pick (tm 34) (.const (.bool true)) (tm 36)) 4]
def c4_14 : AC := .region o4_14 []
theorem n4_14 : RegR Cx 4 c4_14 o4_14 := run_region
def o4_17 : List AO := [oA 38 (.move (tm 8)) 33,
  oA 39 (.binOp .eql 33 (tm 38) (ci 1) 33) 4,
  oA 40 (.move (tm 39)) 4,
  oG 41 (.move (tm 7)) 26 40 true,
  oG 42 (.binOp .eql 26 (tm 41) (.const (.pointer none)) 26) 4 40 true,
  oA 43 (.pick (tm 40) (tm 42) (.const (.bool false))) 4,
  oN (.store 4 (tm 6) (tm 43)) 0]
def c4_17 : AC := .region o4_17 []
theorem n4_17 : RegR Cx 4 c4_17 o4_17 := run_region
def c4_18 : AC := .ret
theorem n4_18 : RetR Cx 4 c4_18 := run_ret
def c4_16 : AC := .seq c4_17 c4_18
theorem n4_16 : SeqR Cx 4 c4_16 c4_17 c4_18 := run_seq
def c4_19 : AC := .skip
theorem n4_19 : SkipR Cx 4 c4_19 := run_skip
def c4_15 : AC := .cond (tm 37) c4_16 c4_19
theorem n4_15 : CondR Cx 4 c4_15 (tm 37) c4_16 c4_19 := run_condC
def c4_13 : AC := .seq c4_14 c4_15
theorem n4_13 : SeqR Cx 4 c4_13 c4_14 c4_15 := run_seq
def o4_21 : List AO := [oA 9 (.assign (.const (.slice none 0 0))) 22]
def c4_21 : AC := .region o4_21 []
theorem n4_21 : RegR Cx 4 c4_21 o4_21 := run_region
def o4_24 : List AO := [oA 10 (.assign (ci 0)) 3]
def c4_24 : AC := .region o4_24 []
theorem n4_24 : RegR Cx 4 c4_24 o4_24 := run_region
def o4_29 : List AO := [oA 44 (.move (tm 10)) 3,
  oA 45 (.move (tm 0)) 22,
  oA 46 (cB .len #[(tm 45)] #[22]) 3,
  oA 47 (.binOp .lss 3 (tm 44) (tm 46) 3) 4]
def c4_29 : AC := .region o4_29 []
theorem n4_29 : RegR Cx 4 c4_29 o4_29 := run_region
def c4_31 : AC := .skip
theorem n4_31 : SkipR Cx 4 c4_31 := run_skip
def c4_32 : AC := .exit 0
theorem n4_32 : ExitR Cx 4 c4_32 0 := run_exit_start
def c4_30 : AC := .cond (tm 47) c4_31 c4_32
theorem n4_30 : CondR Cx 4 c4_30 (tm 47) c4_31 c4_32 := run_condC
def c4_28 : AC := .seq c4_29 c4_30
theorem n4_28 : SeqR Cx 4 c4_28 c4_29 c4_30 := run_seq
def o4_36 : List AO := [oA 50 (.move (tm 7)) 26,
  oA 51 (.move (tm 0)) 22,
  oA 52 (.move (tm 10)) 3,
  oA 53 (.indexAddr 22 (tm 51) (tm 52)) 0,
  oA 54 (.load 42 (tm 53)) 42,
  oA 55 (cF 15 #[(tm 50), (tm 54)] #[26, 42]) 33,
  oA 11 (.assign (tm 55)) 33]
def c4_36 : AC := .region o4_36 []
theorem n4_36 : RegR Cx 4 c4_36 o4_36 := run_region
def o4_38 : List AO := [oA 56 (.move (tm 0)) 22,
  oA 57 (.move (tm 10)) 3,
  oA 58 (.move (tm 10)) 3,
  oA 59 (.binOp .add 3 (tm 58) (ci 1) 3) 3,
  oA 60 (.slice 22 (tm 56) (some (tm 57)) (some (tm 59)) none) 22,
  oA 61 (cF 16 #[(tm 60)] #[22]) 4,
  oA 12 (.assign (tm 61)) 4]
def c4_38 : AC := .region o4_38 []
theorem n4_38 : RegR Cx 4 c4_38 o4_38 := run_region
def o4_41 : List AO := [oA 62 (.move (tm 12)) 4]
def c4_41 : AC := .region o4_41 []
theorem n4_41 : RegR Cx 4 c4_41 o4_41 := run_region
def o4_43 : List AO := [oA 63 (.move (tm 9)) 22,
  oA 64 (.move (tm 0)) 22,
  oA 65 (.move (tm 10)) 3,
  oA 66 (.indexAddr 22 (tm 64) (tm 65)) 0,
  oA 67 (.load 42 (tm 66)) 42,
  oA 68 (.buildSlice 22 1 #[(0, (tm 67))]) 22,
  oA 69 (cB .append #[(tm 63), (tm 68)] #[22, 22]) 22,
  oA 9 (.assign (tm 69)) 22]
def c4_43 : AC := .region o4_43 []
theorem n4_43 : RegR Cx 4 c4_43 o4_43 := run_region
def c4_44 : AC := .skip
theorem n4_44 : SkipR Cx 4 c4_44 := run_skip
def c4_42 : AC := .cond (tm 62) c4_43 c4_44
theorem n4_42 : CondR Cx 4 c4_42 (tm 62) c4_43 c4_44 := run_condC
def c4_40 : AC := .seq c4_41 c4_42
theorem n4_40 : SeqR Cx 4 c4_40 c4_41 c4_42 := run_seq
def o4_46 : List AO := [oA 70 (.move (tm 12)) 4,
  oA 71 (.move (tm 11)) 33,
  oA 72 (.binOp .eql 33 (tm 71) (ci 0) 33) 4,
  oA 73 (.binOp .neq 4 (tm 70) (tm 72) 4) 4,
  oA 74 (.move (tm 73)) 4,
  oG 75 (.move (tm 7)) 26 74 false,
  oG 76 (cF 13 #[(tm 75)] #[26]) 3 74 false,
  oG 77 (.move (tm 9)) 22 74 false,
  oG 78 (cB .len #[(tm 77)] #[22]) 3 74 false,
  oG 79 (.binOp .neq 3 (tm 76) (tm 78) 3) 4 74 false,
  oA 80 (.pick (tm 74) (.const (.bool true)) (tm 79)) 4]
def c4_46 : AC := .region o4_46 []
theorem n4_46 : RegR Cx 4 c4_46 o4_46 := run_region
def o4_49 : List AO := [oN (.store 4 (tm 6) (.const (.bool false))) 0]
def c4_49 : AC := .region o4_49 []
theorem n4_49 : RegR Cx 4 c4_49 o4_49 := run_region
def c4_50 : AC := .ret
theorem n4_50 : RetR Cx 4 c4_50 := run_ret
def c4_48 : AC := .seq c4_49 c4_50
theorem n4_48 : SeqR Cx 4 c4_48 c4_49 c4_50 := run_seq
def c4_51 : AC := .skip
theorem n4_51 : SkipR Cx 4 c4_51 := run_skip
def c4_47 : AC := .cond (tm 80) c4_48 c4_51
theorem n4_47 : CondR Cx 4 c4_47 (tm 80) c4_48 c4_51 := run_condC
def c4_45 : AC := .seq c4_46 c4_47
theorem n4_45 : SeqR Cx 4 c4_45 c4_46 c4_47 := run_seq
def c4_39 : AC := .seq c4_40 c4_45
theorem n4_39 : SeqR Cx 4 c4_39 c4_40 c4_45 := run_seq
def c4_37 : AC := .seq c4_38 c4_39
theorem n4_37 : SeqR Cx 4 c4_37 c4_38 c4_39 := run_seq
def c4_35 : AC := .seq c4_36 c4_37
theorem n4_35 : SeqR Cx 4 c4_35 c4_36 c4_37 := run_seq
def c4_34 : AC := .block 1 c4_35
theorem n4_34 : BlkR Cx 4 c4_34 1 c4_35 := run_block
def o4_52 : List AO := [oA 48 (.move (tm 10)) 3,
  oA 49 (.binOp .add 3 (tm 48) (ci 1) 3) 3,
  oA 10 (.assign (tm 49)) 3]
def c4_52 : AC := .region o4_52 []
theorem n4_52 : RegR Cx 4 c4_52 o4_52 := run_region
def c4_33 : AC := .seq c4_34 c4_52
theorem n4_33 : SeqR Cx 4 c4_33 c4_34 c4_52 := run_seq
def c4_27 : AC := .seq c4_28 c4_33
theorem n4_27 : SeqR Cx 4 c4_27 c4_28 c4_33 := run_seq
def c4_26 : AC := .loop c4_27
theorem n4_26 : LoopR Cx 4 c4_26 c4_27 := run_loop'
def c4_25 : AC := .block 0 c4_26
theorem n4_25 : BlkR Cx 4 c4_25 0 c4_26 := run_block
def c4_23 : AC := .seq c4_24 c4_25
theorem n4_23 : SeqR Cx 4 c4_23 c4_24 c4_25 := run_seq
def o4_54 : List AO := [oA 81 (.move (tm 7)) 26,
  oA 82 (cF 11 #[(tm 81)] #[26]) 29,
  oA 83 (.move (tm 9)) 22,
  oA 84 (.move (tm 1)) 3,
  oA 85 (cF 17 #[(tm 83), (tm 84)] #[22, 3]) 29,
  oA 13 (.assign (tm 82)) 29,
  oA 14 (.assign (tm 85)) 29]
def c4_54 : AC := .region o4_54 []
theorem n4_54 : RegR Cx 4 c4_54 o4_54 := run_region
def o4_57 : List AO := [oA 86 (.move (tm 13)) 29,
  oA 87 (cB .len #[(tm 86)] #[29]) 3,
  oA 88 (.move (tm 14)) 29,
  oA 89 (cB .len #[(tm 88)] #[29]) 3,
  oA 90 (.binOp .neq 3 (tm 87) (tm 89) 3) 4]
def c4_57 : AC := .region o4_57 []
theorem n4_57 : RegR Cx 4 c4_57 o4_57 := run_region
def o4_60 : List AO := [oN (.store 4 (tm 6) (.const (.bool false))) 0]
def c4_60 : AC := .region o4_60 []
theorem n4_60 : RegR Cx 4 c4_60 o4_60 := run_region
def c4_61 : AC := .ret
theorem n4_61 : RetR Cx 4 c4_61 := run_ret
def c4_59 : AC := .seq c4_60 c4_61
theorem n4_59 : SeqR Cx 4 c4_59 c4_60 c4_61 := run_seq
def c4_62 : AC := .skip
theorem n4_62 : SkipR Cx 4 c4_62 := run_skip
def c4_58 : AC := .cond (tm 90) c4_59 c4_62
theorem n4_58 : CondR Cx 4 c4_58 (tm 90) c4_59 c4_62 := run_condC
def c4_56 : AC := .seq c4_57 c4_58
theorem n4_56 : SeqR Cx 4 c4_56 c4_57 c4_58 := run_seq
def o4_65 : List AO := [oA 15 (.assign (ci 0)) 3]
def c4_65 : AC := .region o4_65 []
theorem n4_65 : RegR Cx 4 c4_65 o4_65 := run_region
def o4_70 : List AO := [oA 91 (.move (tm 15)) 3,
  oA 92 (.move (tm 13)) 29,
  oA 93 (cB .len #[(tm 92)] #[29]) 3,
  oA 94 (.binOp .lss 3 (tm 91) (tm 93) 3) 4]
def c4_70 : AC := .region o4_70 []
theorem n4_70 : RegR Cx 4 c4_70 o4_70 := run_region
def c4_72 : AC := .skip
theorem n4_72 : SkipR Cx 4 c4_72 := run_skip
def c4_73 : AC := .exit 2
theorem n4_73 : ExitR Cx 4 c4_73 2 := run_exit_start
def c4_71 : AC := .cond (tm 94) c4_72 c4_73
theorem n4_71 : CondR Cx 4 c4_71 (tm 94) c4_72 c4_73 := run_condC
def c4_69 : AC := .seq c4_70 c4_71
theorem n4_69 : SeqR Cx 4 c4_69 c4_70 c4_71 := run_seq
def o4_77 : List AO := [oA 97 (.move (tm 13)) 29,
  oA 98 (.move (tm 15)) 3,
  oA 99 (.indexAddr 29 (tm 97) (tm 98)) 0,
  oA 100 (.load 22 (tm 99)) 22,
  oA 101 (.move (tm 14)) 29,
  oA 102 (.move (tm 15)) 3,
  oA 103 (.indexAddr 29 (tm 101) (tm 102)) 0,
  oA 104 (.load 22 (tm 103)) 22,
  oA 105 (cF 18 #[(tm 100), (tm 104)] #[22, 22]) 4,
  oA 106 (.unOp .not 4 (tm 105)) 4]
def c4_77 : AC := .region o4_77 []
theorem n4_77 : RegR Cx 4 c4_77 o4_77 := run_region
def o4_80 : List AO := [oN (.store 4 (tm 6) (.const (.bool false))) 0]
def c4_80 : AC := .region o4_80 []
theorem n4_80 : RegR Cx 4 c4_80 o4_80 := run_region
def c4_81 : AC := .ret
theorem n4_81 : RetR Cx 4 c4_81 := run_ret
def c4_79 : AC := .seq c4_80 c4_81
theorem n4_79 : SeqR Cx 4 c4_79 c4_80 c4_81 := run_seq
def c4_82 : AC := .skip
theorem n4_82 : SkipR Cx 4 c4_82 := run_skip
def c4_78 : AC := .cond (tm 106) c4_79 c4_82
theorem n4_78 : CondR Cx 4 c4_78 (tm 106) c4_79 c4_82 := run_condC
def c4_76 : AC := .seq c4_77 c4_78
theorem n4_76 : SeqR Cx 4 c4_76 c4_77 c4_78 := run_seq
def c4_75 : AC := .block 3 c4_76
theorem n4_75 : BlkR Cx 4 c4_75 3 c4_76 := run_block
def o4_83 : List AO := [oA 95 (.move (tm 15)) 3,
  oA 96 (.binOp .add 3 (tm 95) (ci 1) 3) 3,
  oA 15 (.assign (tm 96)) 3]
def c4_83 : AC := .region o4_83 []
theorem n4_83 : RegR Cx 4 c4_83 o4_83 := run_region
def c4_74 : AC := .seq c4_75 c4_83
theorem n4_74 : SeqR Cx 4 c4_74 c4_75 c4_83 := run_seq
def c4_68 : AC := .seq c4_69 c4_74
theorem n4_68 : SeqR Cx 4 c4_68 c4_69 c4_74 := run_seq
def c4_67 : AC := .loop c4_68
theorem n4_67 : LoopR Cx 4 c4_67 c4_68 := run_loop'
def c4_66 : AC := .block 2 c4_67
theorem n4_66 : BlkR Cx 4 c4_66 2 c4_67 := run_block
def c4_64 : AC := .seq c4_65 c4_66
theorem n4_64 : SeqR Cx 4 c4_64 c4_65 c4_66 := run_seq
def o4_85 : List AO := [oA 107 (.move (tm 9)) 22,
  oA 108 (cF 19 #[(tm 107)] #[22]) 22,
  oA 16 (.alloc 22) 0,
  oN (.store 22 (tm 16) (tm 108)) 0]
def c4_85 : AC := .region o4_85 []
theorem n4_85 : RegR Cx 4 c4_85 o4_85 := run_region
def o4_87 : List AO := [oA 17 (.alloc 3) 0,
  oN (.store 3 (tm 17) (ci 0)) 0]
def c4_87 : AC := .region o4_87 []
theorem n4_87 : RegR Cx 4 c4_87 o4_87 := run_region
def o4_90 : List AO := [oA 109 (.move (tm 7)) 26,
  oA 110 (cF 20 #[(tm 109)] #[26]) 47]
def c4_90 : AC := .region o4_90 []
theorem n4_90 : RegR Cx 4 c4_90 o4_90 := run_region
def o4_93 : List AO := [oA 18 (.alloc 42) 0,
  oN (.store 42 (tm 18) (tm 111)) 0]
def c4_93 : AC := .region o4_93 []
theorem n4_93 : RegR Cx 4 c4_93 o4_93 := run_region
def o4_97 : List AO := [oA 112 (.load 3 (tm 17)) 3,
  oA 113 (.load 22 (tm 16)) 22,
  oA 114 (cB .len #[(tm 113)] #[22]) 3,
  oA 115 (.binOp .geq 3 (tm 112) (tm 114) 3) 4,
  oA 116 (.move (tm 115)) 4,
  oG 117 (.load 42 (tm 18)) 42 116 false,
  oG 118 (.load 22 (tm 16)) 22 116 false,
  oG 119 (.load 3 (tm 17)) 3 116 false,
  oG 120 (.indexAddr 22 (tm 118) (tm 119)) 0 116 false,
  oG 121 (.load 42 (tm 120)) 42 116 false,
  oG 122 (.binOp .neq 42 (tm 117) (tm 121) 42) 4 116 false,
  oA 123 (.pick (tm 116) (.const (.bool true)) (tm 122)) 4]
def c4_97 : AC := .region o4_97 []
theorem n4_97 : RegR Cx 4 c4_97 o4_97 := run_region
def o4_100 : List AO := [oN (.store 4 (tm 6) (.const (.bool false))) 0]
def c4_100 : AC := .region o4_100 []
theorem n4_100 : RegR Cx 4 c4_100 o4_100 := run_region
def c4_101 : AC := .ret
theorem n4_101 : RetR Cx 4 c4_101 := run_ret
def c4_99 : AC := .seq c4_100 c4_101
theorem n4_99 : SeqR Cx 4 c4_99 c4_100 c4_101 := run_seq
def c4_102 : AC := .skip
theorem n4_102 : SkipR Cx 4 c4_102 := run_skip
def c4_98 : AC := .cond (tm 123) c4_99 c4_102
theorem n4_98 : CondR Cx 4 c4_98 (tm 123) c4_99 c4_102 := run_condC
def c4_96 : AC := .seq c4_97 c4_98
theorem n4_96 : SeqR Cx 4 c4_96 c4_97 c4_98 := run_seq
def o4_104 : List AO := [oA 124 (.load 3 (tm 17)) 3,
  oA 125 (.binOp .add 3 (tm 124) (ci 1) 3) 3,
  oN (.store 3 (tm 17) (tm 125)) 0]
def c4_104 : AC := .region o4_104 []
theorem n4_104 : RegR Cx 4 c4_104 o4_104 := run_region
def o4_106 : List AO := [oA 126 (.load 3 (tm 17)) 3,
  oA 127 (.load 5 (tm 5)) 5,
  oA 128 (.convert 5 3 (tm 127)) 3,
  oA 129 (.binOp .eql 3 (tm 126) (tm 128) 3) 4]
def c4_106 : AC := .region o4_106 []
theorem n4_106 : RegR Cx 4 c4_106 o4_106 := run_region
def o4_109 : List AO := [oN (.store 4 (tm 6) (.const (.bool true))) 0]
def c4_109 : AC := .region o4_109 []
theorem n4_109 : RegR Cx 4 c4_109 o4_109 := run_region
def c4_110 : AC := .ret
theorem n4_110 : RetR Cx 4 c4_110 := run_ret
def c4_108 : AC := .seq c4_109 c4_110
theorem n4_108 : SeqR Cx 4 c4_108 c4_109 c4_110 := run_seq
def c4_111 : AC := .skip
theorem n4_111 : SkipR Cx 4 c4_111 := run_skip
def c4_107 : AC := .cond (tm 129) c4_108 c4_111
theorem n4_107 : CondR Cx 4 c4_107 (tm 129) c4_108 c4_111 := run_condC
def c4_105 : AC := .seq c4_106 c4_107
theorem n4_105 : SeqR Cx 4 c4_105 c4_106 c4_107 := run_seq
def c4_103 : AC := .seq c4_104 c4_105
theorem n4_103 : SeqR Cx 4 c4_103 c4_104 c4_105 := run_seq
def c4_95 : AC := .seq c4_96 c4_103
theorem n4_95 : SeqR Cx 4 c4_95 c4_96 c4_103 := run_seq
def c4_94 : AC := .block 5 c4_95
theorem n4_94 : BlkR Cx 4 c4_94 5 c4_95 := run_block
def c4_92 : AC := .rangeFunc (tm 110) [111] c4_93 c4_94
def c4_91 : AC := .block 4 c4_92
theorem n4_91 : BlkR Cx 4 c4_91 4 c4_92 := run_block
def c4_89 : AC := .seq c4_90 c4_91
theorem n4_89 : SeqR Cx 4 c4_89 c4_90 c4_91 := run_seq
def o4_113 : List AO := [oA 130 (.load 3 (tm 17)) 3,
  oA 131 (.load 22 (tm 16)) 22,
  oA 132 (cB .len #[(tm 131)] #[22]) 3,
  oA 133 (.binOp .eql 3 (tm 130) (tm 132) 3) 4,
  oN (.store 4 (tm 6) (tm 133)) 0]
def c4_113 : AC := .region o4_113 []
theorem n4_113 : RegR Cx 4 c4_113 o4_113 := run_region
def c4_114 : AC := .ret
theorem n4_114 : RetR Cx 4 c4_114 := run_ret
def c4_112 : AC := .seq c4_113 c4_114
theorem n4_112 : SeqR Cx 4 c4_112 c4_113 c4_114 := run_seq
def c4_88 : AC := .seq c4_89 c4_112
theorem n4_88 : SeqR Cx 4 c4_88 c4_89 c4_112 := run_seq
def c4_86 : AC := .seq c4_87 c4_88
theorem n4_86 : SeqR Cx 4 c4_86 c4_87 c4_88 := run_seq
def c4_84 : AC := .seq c4_85 c4_86
theorem n4_84 : SeqR Cx 4 c4_84 c4_85 c4_86 := run_seq
def c4_63 : AC := .seq c4_64 c4_84
theorem n4_63 : SeqR Cx 4 c4_63 c4_64 c4_84 := run_seq
def c4_55 : AC := .seq c4_56 c4_63
theorem n4_55 : SeqR Cx 4 c4_55 c4_56 c4_63 := run_seq
def c4_53 : AC := .seq c4_54 c4_55
theorem n4_53 : SeqR Cx 4 c4_53 c4_54 c4_55 := run_seq
def c4_22 : AC := .seq c4_23 c4_53
theorem n4_22 : SeqR Cx 4 c4_22 c4_23 c4_53 := run_seq
def c4_20 : AC := .seq c4_21 c4_22
theorem n4_20 : SeqR Cx 4 c4_20 c4_21 c4_22 := run_seq
def c4_12 : AC := .seq c4_13 c4_20
theorem n4_12 : SeqR Cx 4 c4_12 c4_13 c4_20 := run_seq
def c4_10 : AC := .seq c4_11 c4_12
theorem n4_10 : SeqR Cx 4 c4_10 c4_11 c4_12 := run_seq
def c4_2 : AC := .seq c4_3 c4_10
theorem n4_2 : SeqR Cx 4 c4_2 c4_3 c4_10 := run_seq
def c4_0 : AC := .seq c4_1 c4_2
theorem n4_0 : SeqR Cx 4 c4_0 c4_1 c4_2 := run_seq
theorem body4 : bodyOf Cx 4 = some c4_0 := by kernel_rfl
theorem res4 : resOf Cx 4 = some [.cell 6 4] := by kernel_rfl
theorem pure4 : Cx.pure 4 = true := by kernel_rfl
def o5_1 : List AO := [oA 1 (.box 42 (tm 0)) 0,
  oA 2 (.alloc 4) 0]
def c5_1 : AC := .region o5_1 []
theorem n5_1 : RegR Cx 5 c5_1 o5_1 := run_region
def o5_4 : List AO := [oA 4 (cF 7 #[] #[]) 4,
  oA 5 (.unOp .not 4 (tm 4)) 4]
def c5_4 : AC := .region o5_4 []
theorem n5_4 : RegR Cx 5 c5_4 o5_4 := run_region
def o5_7 : List AO := [oN (.store 4 (tm 2) (.const (.bool false))) 0]
def c5_7 : AC := .region o5_7 []
theorem n5_7 : RegR Cx 5 c5_7 o5_7 := run_region
def c5_8 : AC := .ret
theorem n5_8 : RetR Cx 5 c5_8 := run_ret
def c5_6 : AC := .seq c5_7 c5_8
theorem n5_6 : SeqR Cx 5 c5_6 c5_7 c5_8 := run_seq
def c5_9 : AC := .skip
theorem n5_9 : SkipR Cx 5 c5_9 := run_skip
def c5_5 : AC := .cond (tm 5) c5_6 c5_9
theorem n5_5 : CondR Cx 5 c5_5 (tm 5) c5_6 c5_9 := run_condC
def c5_3 : AC := .seq c5_4 c5_5
theorem n5_3 : SeqR Cx 5 c5_3 c5_4 c5_5 := run_seq
def o5_11 : List AO := [oA 3 (.assign (.const (.pointer none))) 26]
def c5_11 : AC := .region o5_11 []
theorem n5_11 : RegR Cx 5 c5_11 o5_11 := run_region
def o5_14 : List AO := [oA 6 (.move (tm 3)) 26,
  oA 7 (cF 20 #[(tm 6)] #[26]) 47]
def c5_14 : AC := .region o5_14 []
theorem n5_14 : RegR Cx 5 c5_14 o5_14 := run_region
def c5_17 : AC := .skip
theorem n5_17 : SkipR Cx 5 c5_17 := run_skip
def o5_20 : List AO := [oN (.store 4 (tm 2) (.const (.bool false))) 0]
def c5_20 : AC := .region o5_20 []
theorem n5_20 : RegR Cx 5 c5_20 o5_20 := run_region
def c5_21 : AC := .ret
theorem n5_21 : RetR Cx 5 c5_21 := run_ret
def c5_19 : AC := .seq c5_20 c5_21
theorem n5_19 : SeqR Cx 5 c5_19 c5_20 c5_21 := run_seq
def c5_18 : AC := .block 1 c5_19
theorem n5_18 : BlkR Cx 5 c5_18 1 c5_19 := run_block
def c5_16 : AC := .rangeFunc (tm 7) [8] c5_17 c5_18
def c5_15 : AC := .block 0 c5_16
theorem n5_15 : BlkR Cx 5 c5_15 0 c5_16 := run_block
def c5_13 : AC := .seq c5_14 c5_15
theorem n5_13 : SeqR Cx 5 c5_13 c5_14 c5_15 := run_seq
def o5_23 : List AO := [oA 9 (.move (tm 3)) 26,
  oA 10 (.load 42 (tm 1)) 42,
  oA 11 (cF 15 #[(tm 9), (tm 10)] #[26, 42]) 33,
  oA 12 (.binOp .eql 33 (tm 11) (ci 1) 33) 4,
  oA 13 (.move (tm 12)) 4,
  oG 14 (.move (tm 3)) 26 13 true,
  oG 15 (cF 13 #[(tm 14)] #[26]) 3 13 true,
  oG 16 (.binOp .eql 3 (tm 15) (ci 0) 3) 4 13 true,
  oA 17 (.pick (tm 13) (tm 16) (.const (.bool false))) 4,
  oA 18 (.move (tm 17)) 4,
  oG 19 (.move (tm 3)) 26 18 true,
  oG 20 (cF 11 #[(tm 19)] #[26]) 29 18 true,
  oG 21 (cB .len #[(tm 20)] #[29]) 3 18 true,
  oG 22 (.binOp .eql 3 (tm 21) (ci 0) 3) 4 18 true,
  oA 23 (.pick (tm 18) (tm 22) (.const (.bool false))) 4,
  oN (.store 4 (tm 2) (tm 23)) 0]
def c5_23 : AC := .region o5_23 []
theorem n5_23 : RegR Cx 5 c5_23 o5_23 := run_region
def c5_24 : AC := .ret
theorem n5_24 : RetR Cx 5 c5_24 := run_ret
def c5_22 : AC := .seq c5_23 c5_24
theorem n5_22 : SeqR Cx 5 c5_22 c5_23 c5_24 := run_seq
def c5_12 : AC := .seq c5_13 c5_22
theorem n5_12 : SeqR Cx 5 c5_12 c5_13 c5_22 := run_seq
def c5_10 : AC := .seq c5_11 c5_12
theorem n5_10 : SeqR Cx 5 c5_10 c5_11 c5_12 := run_seq
def c5_2 : AC := .seq c5_3 c5_10
theorem n5_2 : SeqR Cx 5 c5_2 c5_3 c5_10 := run_seq
def c5_0 : AC := .seq c5_1 c5_2
theorem n5_0 : SeqR Cx 5 c5_0 c5_1 c5_2 := run_seq
theorem body5 : bodyOf Cx 5 = some c5_0 := by kernel_rfl
theorem res5 : resOf Cx 5 = some [.cell 2 4] := by kernel_rfl
theorem pure5 : Cx.pure 5 = true := by kernel_rfl
def o6_1 : List AO := [oA 6 (.assign (.const (.bool false))) 4]
def c6_1 : AC := .region o6_1 []
theorem n6_1 : RegR Cx 6 c6_1 o6_1 := run_region
def o6_4 : List AO := [oA 15 (cF 7 #[] #[]) 4,
  oA 16 (.unOp .not 4 (tm 15)) 4,
  oA 17 (.move (tm 16)) 4,
  oG 18 (.move (tm 0)) 22 17 false,
  oG 19 (cF 8 #[(tm 18)] #[22]) 3 17 false,
  oG 20 (.binOp .eql 3 (tm 19) (ci 0) 3) 4 17 false,
  oA 21 (.pick (tm 17) (.const (.bool true)) (tm 20)) 4,
  oA 22 (.move (tm 21)) 4,
  oG 23 (.move (tm 0)) 22 22 false,
  oG 24 (cF 9 #[(tm 23)] #[22]) 4 22 false,
  oG 25 (.unOp .not 4 (tm 24)) 4 22 false,
  oA 26 (.pick (tm 22) (.const (.bool true)) (tm 25)) 4]
def c6_4 : AC := .region o6_4 []
theorem n6_4 : RegR Cx 6 c6_4 o6_4 := run_region
def o6_7 : List AO := [oA 27 (cF 7 #[] #[]) 4,
  oA 6 (.assign (tm 27)) 4]
def c6_7 : AC := .region o6_7 []
theorem n6_7 : RegR Cx 6 c6_7 o6_7 := run_region
def c6_8 : AC := .ret
theorem n6_8 : RetR Cx 6 c6_8 := run_ret
def c6_6 : AC := .seq c6_7 c6_8
theorem n6_6 : SeqR Cx 6 c6_6 c6_7 c6_8 := run_seq
def c6_9 : AC := .skip
theorem n6_9 : SkipR Cx 6 c6_9 := run_skip
def c6_5 : AC := .cond (tm 26) c6_6 c6_9
theorem n6_5 : CondR Cx 6 c6_5 (tm 26) c6_6 c6_9 := run_condC
def c6_3 : AC := .seq c6_4 c6_5
theorem n6_3 : SeqR Cx 6 c6_3 c6_4 c6_5 := run_seq
def o6_11 : List AO := [oA 29 (.move (tm 0)) 22,
  oA 30 (.move (tm 1)) 5,
  oA 31 (.convert 5 3 (tm 30)) 3,
  oA 32 (.binOp .add 3 (ci 1) (tm 31) 3) 3,
  oA 33 (cF 10 #[(tm 29), (tm 32)] #[22, 3]) 27,
  oA 28 (.move (tm 33)) 27,
  oA 34 (.extract (tm 28) 0) 26,
  oA 35 (.extract (tm 28) 1) 4,
  oA 7 (.assign (tm 34)) 26,
  oA 8 (.assign (tm 35)) 4]
def c6_11 : AC := .region o6_11 []
theorem n6_11 : RegR Cx 6 c6_11 o6_11 := run_region
def o6_13 : List AO := [oA 37 (.move (tm 0)) 22,
  oA 38 (.move (tm 2)) 5,
  oA 39 (.convert 5 3 (tm 38)) 3,
  oA 40 (.binOp .add 3 (ci 1) (tm 39) 3) 3,
  oA 41 (cF 10 #[(tm 37), (tm 40)] #[22, 3]) 27,
  oA 36 (.move (tm 41)) 27,
  oA 42 (.extract (tm 36) 0) 26,
  oA 43 (.extract (tm 36) 1) 4,
  oA 9 (.assign (tm 42)) 26,
  oA 10 (.assign (tm 43)) 4]
def c6_13 : AC := .region o6_13 []
theorem n6_13 : RegR Cx 6 c6_13 o6_13 := run_region
def o6_16 : List AO := [oA 44 (.move (tm 8)) 4,
  oA 45 (.unOp .not 4 (tm 44)) 4,
  oA 46 (.move (tm 45)) 4,
  oG 47 (.move (tm 10)) 4 46 false,
  oG 48 (.unOp .not 4 (tm 47)) 4 46 false,
  oA 49 (.pick (tm 46) (.const (.bool true)) (tm 48)) 4,
  oA 50 (.move (tm 49)) 4,
  oG 51 (.move (tm 7)) 26 50 false,
  oG 52 (cF 13 #[(tm 51)] #[26]) 3 50 false,
  oG 53 (.move (tm 0)) 22 50 false,
  oG 54 (cB .len #[(tm 53)] #[22]) 3 50 false,
  oG 55 (.binOp .neq 3 (tm 52) (tm 54) 3) 4 50 false,
  oA 56 (.pick (tm 50) (.const (.bool true)) (tm 55)) 4]
def c6_16 : AC := .region o6_16 []
theorem n6_16 : RegR Cx 6 c6_16 o6_16 := run_region
def o6_19 : List AO := [oA 6 (.assign (.const (.bool false))) 4]
def c6_19 : AC := .region o6_19 []
theorem n6_19 : RegR Cx 6 c6_19 o6_19 := run_region
def c6_20 : AC := .ret
theorem n6_20 : RetR Cx 6 c6_20 := run_ret
def c6_18 : AC := .seq c6_19 c6_20
theorem n6_18 : SeqR Cx 6 c6_18 c6_19 c6_20 := run_seq
def c6_21 : AC := .skip
theorem n6_21 : SkipR Cx 6 c6_21 := run_skip
def c6_17 : AC := .cond (tm 56) c6_18 c6_21
theorem n6_17 : CondR Cx 6 c6_17 (tm 56) c6_18 c6_21 := run_condC
def c6_15 : AC := .seq c6_16 c6_17
theorem n6_15 : SeqR Cx 6 c6_15 c6_16 c6_17 := run_seq
def o6_23 : List AO := [oA 58 (.move (tm 7)) 26,
  oA 59 (cF 11 #[(tm 58)] #[26]) 29,
  oA 60 (cF 21 #[(tm 59)] #[29]) 51,
  oA 57 (.move (tm 60)) 51,
  oA 61 (.extract (tm 57) 0) 22,
  oA 62 (.extract (tm 57) 1) 33,
  oA 11 (.assign (tm 61)) 22,
  oA 12 (.assign (tm 62)) 33]
def c6_23 : AC := .region o6_23 []
theorem n6_23 : RegR Cx 6 c6_23 o6_23 := run_region
def o6_25 : List AO := [oA 64 (.move (tm 9)) 26,
  oA 65 (cF 11 #[(tm 64)] #[26]) 29,
  oA 66 (cF 21 #[(tm 65)] #[29]) 51,
  oA 63 (.move (tm 66)) 51,
  oA 67 (.extract (tm 63) 0) 22,
  oA 68 (.extract (tm 63) 1) 33,
  oA 13 (.assign (tm 67)) 22,
  oA 14 (.assign (tm 68)) 33]
def c6_25 : AC := .region o6_25 []
theorem n6_25 : RegR Cx 6 c6_25 o6_25 := run_region
def o6_27 : List AO := [oA 69 (.move (tm 12)) 33,
  oA 70 (.binOp .eql 33 (tm 69) (ci 0) 33) 4,
  oA 71 (.move (tm 70)) 4,
  oG 72 (.move (tm 14)) 33 71 true,
  oG 73 (.binOp .eql 33 (tm 72) (ci 0) 33) 4 71 true,
  oA 74 (.pick (tm 71) (tm 73) (.const (.bool false))) 4,
  oA 75 (.move (tm 74)) 4,
  oG 76 (.move (tm 11)) 22 75 true,
  oG 77 (.move (tm 0)) 22 75 true,
  oG 78 (cF 22 #[(tm 77)] #[22]) 22 75 true,
  oG 79 (cF 18 #[(tm 76), (tm 78)] #[22, 22]) 4 75 true,
  oA 80 (.pick (tm 75) (tm 79) (.const (.bool false))) 4,
  oA 81 (.move (tm 80)) 4,
  oG 82 (.move (tm 11)) 22 81 true,
  oG 83 (.move (tm 13)) 22 81 true,
  oG 84 (cF 18 #[(tm 82), (tm 83)] #[22, 22]) 4 81 true,
  oA 85 (.pick (tm 81) (tm 84) (.const (.bool false))) 4,
  oA 6 (.assign (tm 85)) 4]
def c6_27 : AC := .region o6_27 []
theorem n6_27 : RegR Cx 6 c6_27 o6_27 := run_region
def c6_28 : AC := .ret
theorem n6_28 : RetR Cx 6 c6_28 := run_ret
def c6_26 : AC := .seq c6_27 c6_28
theorem n6_26 : SeqR Cx 6 c6_26 c6_27 c6_28 := run_seq
def c6_24 : AC := .seq c6_25 c6_26
theorem n6_24 : SeqR Cx 6 c6_24 c6_25 c6_26 := run_seq
def c6_22 : AC := .seq c6_23 c6_24
theorem n6_22 : SeqR Cx 6 c6_22 c6_23 c6_24 := run_seq
def c6_14 : AC := .seq c6_15 c6_22
theorem n6_14 : SeqR Cx 6 c6_14 c6_15 c6_22 := run_seq
def c6_12 : AC := .seq c6_13 c6_14
theorem n6_12 : SeqR Cx 6 c6_12 c6_13 c6_14 := run_seq
def c6_10 : AC := .seq c6_11 c6_12
theorem n6_10 : SeqR Cx 6 c6_10 c6_11 c6_12 := run_seq
def c6_2 : AC := .seq c6_3 c6_10
theorem n6_2 : SeqR Cx 6 c6_2 c6_3 c6_10 := run_seq
def c6_0 : AC := .seq c6_1 c6_2
theorem n6_0 : SeqR Cx 6 c6_0 c6_1 c6_2 := run_seq
theorem body6 : bodyOf Cx 6 = some c6_0 := by kernel_rfl
theorem res6 : resOf Cx 6 = some [.tmp 6] := by kernel_rfl
theorem pure6 : Cx.pure 6 = true := by kernel_rfl
def o7_1 : List AO := [oA 0 (.assign (.const (.bool false))) 4]
def c7_1 : AC := .region o7_1 []
theorem n7_1 : RegR Cx 7 c7_1 o7_1 := run_region
def o7_3 : List AO := [oA 5 (cF 14 #[(ci 2)] #[3]) 34,
  oA 4 (.move (tm 5)) 34,
  oA 6 (.extract (tm 4) 0) 26,
  oA 7 (.extract (tm 4) 1) 33,
  oA 1 (.assign (tm 6)) 26,
  oA 2 (.assign (tm 7)) 33]
def c7_3 : AC := .region o7_3 []
theorem n7_3 : RegR Cx 7 c7_3 o7_3 := run_region
def o7_5 : List AO := [oA 8 (.move (tm 1)) 26,
  oA 9 (.build 42 #[(0, (.const (.string ⟨#[98]⟩)))]) 42,
  oA 10 (cF 15 #[(tm 8), (tm 9)] #[26, 42]) 33]
def c7_5 : AC := .region o7_5 []
theorem n7_5 : RegR Cx 7 c7_5 o7_5 := run_region
def o7_7 : List AO := [oA 11 (.move (tm 1)) 26,
  oA 12 (.build 42 #[(0, (.const (.string ⟨#[97]⟩)))]) 42,
  oA 13 (cF 15 #[(tm 11), (tm 12)] #[26, 42]) 33]
def c7_7 : AC := .region o7_7 []
theorem n7_7 : RegR Cx 7 c7_7 o7_7 := run_region
def o7_9 : List AO := [oA 14 (.move (tm 1)) 26,
  oA 15 (.build 42 #[(0, (.const (.string ⟨#[99]⟩)))]) 42,
  oA 16 (cF 15 #[(tm 14), (tm 15)] #[26, 42]) 33]
def c7_9 : AC := .region o7_9 []
theorem n7_9 : RegR Cx 7 c7_9 o7_9 := run_region
def o7_11 : List AO := [oA 17 (.move (tm 1)) 26,
  oA 18 (cF 11 #[(tm 17)] #[26]) 29,
  oA 3 (.assign (tm 18)) 29]
def c7_11 : AC := .region o7_11 []
theorem n7_11 : RegR Cx 7 c7_11 o7_11 := run_region
def o7_13 : List AO := [oA 19 (.move (tm 2)) 33,
  oA 20 (.binOp .eql 33 (tm 19) (ci 0) 33) 4,
  oA 21 (.move (tm 20)) 4,
  oG 22 (.move (tm 3)) 29 21 true,
  oG 23 (cB .len #[(tm 22)] #[29]) 3 21 true,
  oG 24 (.binOp .eql 3 (tm 23) (ci 2) 3) 4 21 true,
  oA 25 (.pick (tm 21) (tm 24) (.const (.bool false))) 4,
  oA 26 (.move (tm 25)) 4,
  oG 27 (.move (tm 3)) 29 26 true,
  oG 28 (.indexAddr 29 (tm 27) (ci 0)) 0 26 true,
  oG 29 (.load 22 (tm 28)) 22 26 true,
  oG 30 (cB .len #[(tm 29)] #[22]) 3 26 true,
  oG 31 (.binOp .eql 3 (tm 30) (ci 2) 3) 4 26 true,
  oA 32 (.pick (tm 26) (tm 31) (.const (.bool false))) 4,
  oA 33 (.move (tm 32)) 4,
  oG 34 (.move (tm 3)) 29 33 true,
  oG 35 (.indexAddr 29 (tm 34) (ci 0)) 0 33 true,
  oG 36 (.load 22 (tm 35)) 22 33 true,
  oG 37 (.indexAddr 22 (tm 36) (ci 0)) 0 33 true,
  oG 38 (.fieldAddr 42 (tm 37) 0) 0 33 true,
  oG 39 (.load 9 (tm 38)) 9 33 true,
  oG 40 (.binOp .eql 9 (tm 39) (.const (.string ⟨#[97]⟩)) 9) 4 33 true,
  oA 41 (.pick (tm 33) (tm 40) (.const (.bool false))) 4,
  oA 42 (.move (tm 41)) 4,
  oG 43 (.move (tm 3)) 29 42 true,
  oG 44 (.indexAddr 29 (tm 43) (ci 1)) 0 42 true,
  oG 45 (.load 22 (tm 44)) 22 42 true,
  oG 46 (.indexAddr 22 (tm 45) (ci 0)) 0 42 true,
  oG 47 (.fieldAddr 42 (tm 46) 0) 0 42 true,
  oG 48 (.load 9 (tm 47)) 9 42 true,
  oG 49 (.binOp .eql 9 (tm 48) (.const (.string ⟨#[99]⟩)) 9) 4 42 true,
  oA 50 (.pick (tm 42) (tm 49) (.const (.bool false))) 4,
  oA 0 (.assign (tm 50)) 4]
def c7_13 : AC := .region o7_13 []
theorem n7_13 : RegR Cx 7 c7_13 o7_13 := run_region
def c7_14 : AC := .ret
theorem n7_14 : RetR Cx 7 c7_14 := run_ret
def c7_12 : AC := .seq c7_13 c7_14
theorem n7_12 : SeqR Cx 7 c7_12 c7_13 c7_14 := run_seq
def c7_10 : AC := .seq c7_11 c7_12
theorem n7_10 : SeqR Cx 7 c7_10 c7_11 c7_12 := run_seq
def c7_8 : AC := .seq c7_9 c7_10
theorem n7_8 : SeqR Cx 7 c7_8 c7_9 c7_10 := run_seq
def c7_6 : AC := .seq c7_7 c7_8
theorem n7_6 : SeqR Cx 7 c7_6 c7_7 c7_8 := run_seq
def c7_4 : AC := .seq c7_5 c7_6
theorem n7_4 : SeqR Cx 7 c7_4 c7_5 c7_6 := run_seq
def c7_2 : AC := .seq c7_3 c7_4
theorem n7_2 : SeqR Cx 7 c7_2 c7_3 c7_4 := run_seq
def c7_0 : AC := .seq c7_1 c7_2
theorem n7_0 : SeqR Cx 7 c7_0 c7_1 c7_2 := run_seq
theorem body7 : bodyOf Cx 7 = some c7_0 := by kernel_rfl
theorem res7 : resOf Cx 7 = some [.tmp 0] := by kernel_rfl
theorem pure7 : Cx.pure 7 = true := by kernel_rfl
def o8_1 : List AO := [oA 2 (.assign (ci 0)) 3]
def c8_1 : AC := .region o8_1 []
theorem n8_1 : RegR Cx 8 c8_1 o8_1 := run_region
def o8_3 : List AO := [oA 3 (.assign (ci 0)) 3]
def c8_3 : AC := .region o8_3 []
theorem n8_3 : RegR Cx 8 c8_3 o8_3 := run_region
def o8_6 : List AO := [oA 4 (.assign (ci 0)) 3]
def c8_6 : AC := .region o8_6 []
theorem n8_6 : RegR Cx 8 c8_6 o8_6 := run_region
def o8_11 : List AO := [oA 5 (.move (tm 4)) 3,
  oA 6 (.move (tm 0)) 22,
  oA 7 (cB .len #[(tm 6)] #[22]) 3,
  oA 8 (.binOp .lss 3 (tm 5) (tm 7) 3) 4,
  oA 9 (.move (tm 8)) 4,
  oG 10 (.move (tm 4)) 3 9 true,
  oG 11 (.binOp .leq 3 (tm 10) (ci 100) 3) 4 9 true,
  oA 12 (.pick (tm 9) (tm 11) (.const (.bool false))) 4]
def c8_11 : AC := .region o8_11 []
theorem n8_11 : RegR Cx 8 c8_11 o8_11 := run_region
def c8_13 : AC := .skip
theorem n8_13 : SkipR Cx 8 c8_13 := run_skip
def c8_14 : AC := .exit 0
theorem n8_14 : ExitR Cx 8 c8_14 0 := run_exit_start
def c8_12 : AC := .cond (tm 12) c8_13 c8_14
theorem n8_12 : CondR Cx 8 c8_12 (tm 12) c8_13 c8_14 := run_condC
def c8_10 : AC := .seq c8_11 c8_12
theorem n8_10 : SeqR Cx 8 c8_10 c8_11 c8_12 := run_seq
def o8_17 : List AO := [oA 15 (.move (tm 3)) 3,
  oA 16 (.move (tm 0)) 22,
  oA 17 (.move (tm 4)) 3,
  oA 18 (.indexAddr 22 (tm 16) (tm 17)) 0,
  oA 19 (.fieldAddr 42 (tm 18) 0) 0,
  oA 20 (.load 9 (tm 19)) 9,
  oA 21 (cB .len #[(tm 20)] #[9]) 3,
  oA 22 (cB .min #[(tm 21), (ci 100000)] #[3, 3]) 3,
  oA 23 (.binOp .add 3 (tm 15) (tm 22) 3) 3,
  oA 24 (.move (tm 0)) 22,
  oA 25 (.move (tm 4)) 3,
  oA 26 (.indexAddr 22 (tm 24) (tm 25)) 0,
  oA 27 (.fieldAddr 42 (tm 26) 1) 0,
  oA 28 (.fieldAddr 40 (tm 27) 2) 0,
  oA 29 (.load 9 (tm 28)) 9,
  oA 30 (cB .len #[(tm 29)] #[9]) 3,
  oA 31 (cB .min #[(tm 30), (ci 100000)] #[3, 3]) 3,
  oA 32 (.binOp .add 3 (tm 23) (tm 31) 3) 3,
  oA 3 (.assign (tm 32)) 3]
def c8_17 : AC := .region o8_17 []
theorem n8_17 : RegR Cx 8 c8_17 o8_17 := run_region
def c8_16 : AC := .block 1 c8_17
theorem n8_16 : BlkR Cx 8 c8_16 1 c8_17 := run_block
def o8_18 : List AO := [oA 13 (.move (tm 4)) 3,
  oA 14 (.binOp .add 3 (tm 13) (ci 1) 3) 3,
  oA 4 (.assign (tm 14)) 3]
def c8_18 : AC := .region o8_18 []
theorem n8_18 : RegR Cx 8 c8_18 o8_18 := run_region
def c8_15 : AC := .seq c8_16 c8_18
theorem n8_15 : SeqR Cx 8 c8_15 c8_16 c8_18 := run_seq
def c8_9 : AC := .seq c8_10 c8_15
theorem n8_9 : SeqR Cx 8 c8_9 c8_10 c8_15 := run_seq
def c8_8 : AC := .loop c8_9
theorem n8_8 : LoopR Cx 8 c8_8 c8_9 := run_loop'
def c8_7 : AC := .block 0 c8_8
theorem n8_7 : BlkR Cx 8 c8_7 0 c8_8 := run_block
def c8_5 : AC := .seq c8_6 c8_7
theorem n8_5 : SeqR Cx 8 c8_5 c8_6 c8_7 := run_seq
def o8_21 : List AO := [oA 33 (.move (tm 0)) 22,
  oA 34 (cB .len #[(tm 33)] #[22]) 3,
  oA 35 (.binOp .gtr 3 (tm 34) (ci 100) 3) 4,
  oA 36 (.move (tm 35)) 4,
  oG 37 (.move (tm 3)) 3 36 false,
  oG 38 (.binOp .gtr 3 (tm 37) (ci 10000) 3) 4 36 false,
  oA 39 (.pick (tm 36) (.const (.bool true)) (tm 38)) 4]
def c8_21 : AC := .region o8_21 []
theorem n8_21 : RegR Cx 8 c8_21 o8_21 := run_region
def o8_24 : List AO := [oA 2 (.assign (ci 0)) 3]
def c8_24 : AC := .region o8_24 []
theorem n8_24 : RegR Cx 8 c8_24 o8_24 := run_region
def c8_25 : AC := .ret
theorem n8_25 : RetR Cx 8 c8_25 := run_ret
def c8_23 : AC := .seq c8_24 c8_25
theorem n8_23 : SeqR Cx 8 c8_23 c8_24 c8_25 := run_seq
def c8_26 : AC := .skip
theorem n8_26 : SkipR Cx 8 c8_26 := run_skip
def c8_22 : AC := .cond (tm 39) c8_23 c8_26
theorem n8_22 : CondR Cx 8 c8_22 (tm 39) c8_23 c8_26 := run_condC
def c8_20 : AC := .seq c8_21 c8_22
theorem n8_20 : SeqR Cx 8 c8_20 c8_21 c8_22 := run_seq
def o8_28 : List AO := [oA 2 (.assign (ci 1)) 3]
def c8_28 : AC := .region o8_28 []
theorem n8_28 : RegR Cx 8 c8_28 o8_28 := run_region
def c8_29 : AC := .ret
theorem n8_29 : RetR Cx 8 c8_29 := run_ret
def c8_27 : AC := .seq c8_28 c8_29
theorem n8_27 : SeqR Cx 8 c8_27 c8_28 c8_29 := run_seq
def c8_19 : AC := .seq c8_20 c8_27
theorem n8_19 : SeqR Cx 8 c8_19 c8_20 c8_27 := run_seq
def c8_4 : AC := .seq c8_5 c8_19
theorem n8_4 : SeqR Cx 8 c8_4 c8_5 c8_19 := run_seq
def c8_2 : AC := .seq c8_3 c8_4
theorem n8_2 : SeqR Cx 8 c8_2 c8_3 c8_4 := run_seq
def c8_0 : AC := .seq c8_1 c8_2
theorem n8_0 : SeqR Cx 8 c8_0 c8_1 c8_2 := run_seq
theorem body8 : bodyOf Cx 8 = some c8_0 := by kernel_rfl
theorem res8 : resOf Cx 8 = some [.tmp 2] := by kernel_rfl
theorem pure8 : Cx.pure 8 = true := by kernel_rfl
def o9_1 : List AO := [oA 2 (.assign (.const (.bool false))) 4]
def c9_1 : AC := .region o9_1 []
theorem n9_1 : RegR Cx 9 c9_1 o9_1 := run_region
def o9_3 : List AO := [oA 3 (.move (tm 0)) 22,
  oA 4 (cF 23 #[(tm 3), (.func 24)] #[22, 50]) 4,
  oA 5 (.unOp .not 4 (tm 4)) 4,
  oA 2 (.assign (tm 5)) 4]
def c9_3 : AC := .region o9_3 []
theorem n9_3 : RegR Cx 9 c9_3 o9_3 := run_region
def c9_4 : AC := .ret
theorem n9_4 : RetR Cx 9 c9_4 := run_ret
def c9_2 : AC := .seq c9_3 c9_4
theorem n9_2 : SeqR Cx 9 c9_2 c9_3 c9_4 := run_seq
def c9_0 : AC := .seq c9_1 c9_2
theorem n9_0 : SeqR Cx 9 c9_0 c9_1 c9_2 := run_seq
theorem body9 : bodyOf Cx 9 = some c9_0 := by kernel_rfl
theorem res9 : resOf Cx 9 = some [.tmp 2] := by kernel_rfl
theorem pure9 : Cx.pure 9 = true := by kernel_rfl
def o10_1 : List AO := [oA 4 (.assign (.const (.pointer none))) 26,
  oA 5 (.assign (.const (.bool false))) 4]
def c10_1 : AC := .region o10_1 []
theorem n10_1 : RegR Cx 10 c10_1 o10_1 := run_region
def o10_3 : List AO := [oA 10 (.move (tm 1)) 3,
  oA 11 (cF 14 #[(tm 10)] #[3]) 34,
  oA 9 (.move (tm 11)) 34,
  oA 12 (.extract (tm 9) 0) 26,
  oA 13 (.extract (tm 9) 1) 33,
  oA 6 (.assign (tm 12)) 26,
  oA 7 (.assign (tm 13)) 33]
def c10_3 : AC := .region o10_3 []
theorem n10_3 : RegR Cx 10 c10_3 o10_3 := run_region
def o10_6 : List AO := [oA 8 (.assign (ci 0)) 3]
def c10_6 : AC := .region o10_6 []
theorem n10_6 : RegR Cx 10 c10_6 o10_6 := run_region
def o10_11 : List AO := [oA 14 (.move (tm 8)) 3,
  oA 15 (.move (tm 0)) 22,
  oA 16 (cB .len #[(tm 15)] #[22]) 3,
  oA 17 (.binOp .lss 3 (tm 14) (tm 16) 3) 4,
  oA 18 (.move (tm 17)) 4,
  oG 19 (.move (tm 7)) 33 18 true,
  oG 20 (.binOp .eql 33 (tm 19) (ci 0) 33) 4 18 true,
  oA 21 (.pick (tm 18) (tm 20) (.const (.bool false))) 4]
def c10_11 : AC := .region o10_11 []
theorem n10_11 : RegR Cx 10 c10_11 o10_11 := run_region
def c10_13 : AC := .skip
theorem n10_13 : SkipR Cx 10 c10_13 := run_skip
def c10_14 : AC := .exit 0
theorem n10_14 : ExitR Cx 10 c10_14 0 := run_exit_start
def c10_12 : AC := .cond (tm 21) c10_13 c10_14
theorem n10_12 : CondR Cx 10 c10_12 (tm 21) c10_13 c10_14 := run_condC
def c10_10 : AC := .seq c10_11 c10_12
theorem n10_10 : SeqR Cx 10 c10_10 c10_11 c10_12 := run_seq
def o10_18 : List AO := [oA 24 (.move (tm 6)) 26,
  oA 25 (.move (tm 0)) 22,
  oA 26 (.move (tm 8)) 3,
  oA 27 (.indexAddr 22 (tm 25) (tm 26)) 0,
  oA 28 (.load 42 (tm 27)) 42,
  oA 29 (cF 15 #[(tm 24), (tm 28)] #[26, 42]) 33,
  oA 30 (.binOp .neq 33 (tm 29) (ci 0) 33) 4]
def c10_18 : AC := .region o10_18 []
theorem n10_18 : RegR Cx 10 c10_18 o10_18 := run_region
def o10_21 : List AO := [oA 4 (.assign (.const (.pointer none))) 26,
  oA 5 (.assign (.const (.bool false))) 4]
def c10_21 : AC := .region o10_21 []
theorem n10_21 : RegR Cx 10 c10_21 o10_21 := run_region
def c10_22 : AC := .ret
theorem n10_22 : RetR Cx 10 c10_22 := run_ret
def c10_20 : AC := .seq c10_21 c10_22
theorem n10_20 : SeqR Cx 10 c10_20 c10_21 c10_22 := run_seq
def c10_23 : AC := .skip
theorem n10_23 : SkipR Cx 10 c10_23 := run_skip
def c10_19 : AC := .cond (tm 30) c10_20 c10_23
theorem n10_19 : CondR Cx 10 c10_19 (tm 30) c10_20 c10_23 := run_condC
def c10_17 : AC := .seq c10_18 c10_19
theorem n10_17 : SeqR Cx 10 c10_17 c10_18 c10_19 := run_seq
def c10_16 : AC := .block 1 c10_17
theorem n10_16 : BlkR Cx 10 c10_16 1 c10_17 := run_block
def o10_24 : List AO := [oA 22 (.move (tm 8)) 3,
  oA 23 (.binOp .add 3 (tm 22) (ci 1) 3) 3,
  oA 8 (.assign (tm 23)) 3]
def c10_24 : AC := .region o10_24 []
theorem n10_24 : RegR Cx 10 c10_24 o10_24 := run_region
def c10_15 : AC := .seq c10_16 c10_24
theorem n10_15 : SeqR Cx 10 c10_15 c10_16 c10_24 := run_seq
def c10_9 : AC := .seq c10_10 c10_15
theorem n10_9 : SeqR Cx 10 c10_9 c10_10 c10_15 := run_seq
def c10_8 : AC := .loop c10_9
theorem n10_8 : LoopR Cx 10 c10_8 c10_9 := run_loop'
def c10_7 : AC := .block 0 c10_8
theorem n10_7 : BlkR Cx 10 c10_7 0 c10_8 := run_block
def c10_5 : AC := .seq c10_6 c10_7
theorem n10_5 : SeqR Cx 10 c10_5 c10_6 c10_7 := run_seq
def o10_26 : List AO := [oA 31 (.move (tm 6)) 26,
  oA 32 (.move (tm 7)) 33,
  oA 33 (.binOp .eql 33 (tm 32) (ci 0) 33) 4,
  oA 4 (.assign (tm 31)) 26,
  oA 5 (.assign (tm 33)) 4]
def c10_26 : AC := .region o10_26 []
theorem n10_26 : RegR Cx 10 c10_26 o10_26 := run_region
def c10_27 : AC := .ret
theorem n10_27 : RetR Cx 10 c10_27 := run_ret
def c10_25 : AC := .seq c10_26 c10_27
theorem n10_25 : SeqR Cx 10 c10_25 c10_26 c10_27 := run_seq
def c10_4 : AC := .seq c10_5 c10_25
theorem n10_4 : SeqR Cx 10 c10_4 c10_5 c10_25 := run_seq
def c10_2 : AC := .seq c10_3 c10_4
theorem n10_2 : SeqR Cx 10 c10_2 c10_3 c10_4 := run_seq
def c10_0 : AC := .seq c10_1 c10_2
theorem n10_0 : SeqR Cx 10 c10_0 c10_1 c10_2 := run_seq
theorem body10 : bodyOf Cx 10 = some c10_0 := by kernel_rfl
theorem res10 : resOf Cx 10 = some [.tmp 4, .tmp 5] := by kernel_rfl
theorem pure10 : Cx.pure 10 = false := by kernel_rfl
def o11_1 : List AO := [oA 2 (.assign (.const (.slice none 0 0))) 29]
def c11_1 : AC := .region o11_1 []
theorem n11_1 : RegR Cx 11 c11_1 o11_1 := run_region
def o11_4 : List AO := [oA 6 (.move (tm 0)) 26,
  oA 7 (.binOp .eql 26 (tm 6) (.const (.pointer none)) 26) 4]
def c11_4 : AC := .region o11_4 []
theorem n11_4 : RegR Cx 11 c11_4 o11_4 := run_region
def o11_7 : List AO := [oA 2 (.assign (.const (.slice none 0 0))) 29]
def c11_7 : AC := .region o11_7 []
theorem n11_7 : RegR Cx 11 c11_7 o11_7 := run_region
def c11_8 : AC := .ret
theorem n11_8 : RetR Cx 11 c11_8 := run_ret
def c11_6 : AC := .seq c11_7 c11_8
theorem n11_6 : SeqR Cx 11 c11_6 c11_7 c11_8 := run_seq
def c11_9 : AC := .skip
theorem n11_9 : SkipR Cx 11 c11_9 := run_skip
def c11_5 : AC := .cond (tm 7) c11_6 c11_9
theorem n11_5 : CondR Cx 11 c11_5 (tm 7) c11_6 c11_9 := run_condC
def c11_3 : AC := .seq c11_4 c11_5
theorem n11_3 : SeqR Cx 11 c11_3 c11_4 c11_5 := run_seq
def o11_11 : List AO := [oA 3 (.assign (.const (.slice none 0 0))) 29]
def c11_11 : AC := .region o11_11 []
theorem n11_11 : RegR Cx 11 c11_11 o11_11 := run_region
def o11_14 : List AO := [oA 8 (.move (tm 0)) 26,
  oA 9 (.nilCheck (tm 8)) 0,
  oA 10 (.fieldAddr 57 (tm 9) 2) 0,
  oA 11 (.load 29 (tm 10)) 29,
  oA 12 (cB .len #[(tm 11)] #[29]) 3,
  oA 13 (.move (ci 0)) 3]
def c11_14 : AC := .region o11_14 []
theorem n11_14 : RegR Cx 11 c11_14 o11_14 := run_region
def o11_18 : List AO := [oA 14 (.binOp .lss 3 (tm 13) (tm 12) 3) 0]
def c11_18 : AC := .region o11_18 []
theorem n11_18 : RegR Cx 11 c11_18 o11_18 := run_region
def c11_21 : AC := .skip
theorem n11_21 : SkipR Cx 11 c11_21 := run_skip
def c11_22 : AC := .exit 0
theorem n11_22 : ExitR Cx 11 c11_22 0 := run_exit_start
def c11_20 : AC := .cond (tm 14) c11_21 c11_22
theorem n11_20 : CondR Cx 11 c11_20 (tm 14) c11_21 c11_22 := run_condC
def o11_26 : List AO := [oA 15 (.indexAddr 29 (tm 11) (tm 13)) 0,
  oA 16 (.load 22 (tm 15)) 22,
  oA 5 (.assign (tm 16)) 22]
def c11_26 : AC := .region o11_26 []
theorem n11_26 : RegR Cx 11 c11_26 o11_26 := run_region
def o11_27 : List AO := [oA 17 (.move (tm 3)) 29,
  oA 18 (.move (tm 5)) 22,
  oA 19 (cF 26 #[(tm 18)] #[22]) 22,
  oA 20 (.buildSlice 29 1 #[(0, (tm 19))]) 29,
  oA 21 (cB .append #[(tm 17), (tm 20)] #[29, 29]) 29,
  oA 3 (.assign (tm 21)) 29]
def c11_27 : AC := .region o11_27 []
theorem n11_27 : RegR Cx 11 c11_27 o11_27 := run_region
def c11_25 : AC := .seq c11_26 c11_27
theorem n11_25 : SeqR Cx 11 c11_25 c11_26 c11_27 := run_seq
def c11_24 : AC := .block 1 c11_25
theorem n11_24 : BlkR Cx 11 c11_24 1 c11_25 := run_block
def o11_28 : List AO := [oA 22 (.binOp .add 3 (tm 13) (ci 1) 3) 3,
  oA 13 (.move (tm 22)) 3]
def c11_28 : AC := .region o11_28 []
theorem n11_28 : RegR Cx 11 c11_28 o11_28 := run_region
def c11_23 : AC := .seq c11_24 c11_28
theorem n11_23 : SeqR Cx 11 c11_23 c11_24 c11_28 := run_seq
def c11_19 : AC := .seq c11_20 c11_23
theorem n11_19 : SeqR Cx 11 c11_19 c11_20 c11_23 := run_seq
def c11_17 : AC := .seq c11_18 c11_19
theorem n11_17 : SeqR Cx 11 c11_17 c11_18 c11_19 := run_seq
def c11_16 : AC := .loop c11_17
theorem n11_16 : LoopR Cx 11 c11_16 c11_17 := run_loop'
def c11_15 : AC := .block 0 c11_16
theorem n11_15 : BlkR Cx 11 c11_15 0 c11_16 := run_block
def c11_13 : AC := .seq c11_14 c11_15
theorem n11_13 : SeqR Cx 11 c11_13 c11_14 c11_15 := run_seq
def o11_31 : List AO := [oA 23 (.move (tm 0)) 26,
  oA 24 (.nilCheck (tm 23)) 0,
  oA 25 (.fieldAddr 57 (tm 24) 1) 0,
  oA 26 (.load 22 (tm 25)) 22,
  oA 27 (cB .len #[(tm 26)] #[22]) 3,
  oA 28 (.binOp .gtr 3 (tm 27) (ci 0) 3) 4]
def c11_31 : AC := .region o11_31 []
theorem n11_31 : RegR Cx 11 c11_31 o11_31 := run_region
def o11_33 : List AO := [oA 29 (.move (tm 3)) 29,
  oA 30 (.move (tm 0)) 26,
  oA 31 (.nilCheck (tm 30)) 0,
  oA 32 (.fieldAddr 57 (tm 31) 1) 0,
  oA 33 (.load 22 (tm 32)) 22,
  oA 34 (cF 22 #[(tm 33)] #[22]) 22,
  oA 35 (.buildSlice 29 1 #[(0, (tm 34))]) 29,
  oA 36 (cB .append #[(tm 29), (tm 35)] #[29, 29]) 29,
  oA 3 (.assign (tm 36)) 29]
def c11_33 : AC := .region o11_33 []
theorem n11_33 : RegR Cx 11 c11_33 o11_33 := run_region
def c11_34 : AC := .skip
theorem n11_34 : SkipR Cx 11 c11_34 := run_skip
def c11_32 : AC := .cond (tm 28) c11_33 c11_34
theorem n11_32 : CondR Cx 11 c11_32 (tm 28) c11_33 c11_34 := run_condC
def c11_30 : AC := .seq c11_31 c11_32
theorem n11_30 : SeqR Cx 11 c11_30 c11_31 c11_32 := run_seq
def o11_36 : List AO := [oA 37 (.move (tm 3)) 29,
  oA 2 (.assign (tm 37)) 29]
def c11_36 : AC := .region o11_36 []
theorem n11_36 : RegR Cx 11 c11_36 o11_36 := run_region
def c11_37 : AC := .ret
theorem n11_37 : RetR Cx 11 c11_37 := run_ret
def c11_35 : AC := .seq c11_36 c11_37
theorem n11_35 : SeqR Cx 11 c11_35 c11_36 c11_37 := run_seq
def c11_29 : AC := .seq c11_30 c11_35
theorem n11_29 : SeqR Cx 11 c11_29 c11_30 c11_35 := run_seq
def c11_12 : AC := .seq c11_13 c11_29
theorem n11_12 : SeqR Cx 11 c11_12 c11_13 c11_29 := run_seq
def c11_10 : AC := .seq c11_11 c11_12
theorem n11_10 : SeqR Cx 11 c11_10 c11_11 c11_12 := run_seq
def c11_2 : AC := .seq c11_3 c11_10
theorem n11_2 : SeqR Cx 11 c11_2 c11_3 c11_10 := run_seq
def c11_0 : AC := .seq c11_1 c11_2
theorem n11_0 : SeqR Cx 11 c11_0 c11_1 c11_2 := run_seq
theorem body11 : bodyOf Cx 11 = some c11_0 := by kernel_rfl
theorem res11 : resOf Cx 11 = some [.tmp 2] := by kernel_rfl
theorem pure11 : Cx.pure 11 = false := by kernel_rfl
def o12_1 : List AO := [oA 2 (.assign (.const (.bool false))) 4]
def c12_1 : AC := .region o12_1 []
theorem n12_1 : RegR Cx 12 c12_1 o12_1 := run_region
def o12_3 : List AO := [oA 3 (.move (tm 0)) 22,
  oA 4 (cF 27 #[(tm 3), (.func 28)] #[22, 59]) 4,
  oA 2 (.assign (tm 4)) 4]
def c12_3 : AC := .region o12_3 []
theorem n12_3 : RegR Cx 12 c12_3 o12_3 := run_region
def c12_4 : AC := .ret
theorem n12_4 : RetR Cx 12 c12_4 := run_ret
def c12_2 : AC := .seq c12_3 c12_4
theorem n12_2 : SeqR Cx 12 c12_2 c12_3 c12_4 := run_seq
def c12_0 : AC := .seq c12_1 c12_2
theorem n12_0 : SeqR Cx 12 c12_0 c12_1 c12_2 := run_seq
theorem body12 : bodyOf Cx 12 = some c12_0 := by kernel_rfl
theorem res12 : resOf Cx 12 = some [.tmp 2] := by kernel_rfl
theorem pure12 : Cx.pure 12 = true := by kernel_rfl
def o13_1 : List AO := [oA 2 (.assign (ci 0)) 3]
def c13_1 : AC := .region o13_1 []
theorem n13_1 : RegR Cx 13 c13_1 o13_1 := run_region
def o13_4 : List AO := [oA 3 (.move (tm 0)) 26,
  oA 4 (.binOp .eql 26 (tm 3) (.const (.pointer none)) 26) 4]
def c13_4 : AC := .region o13_4 []
theorem n13_4 : RegR Cx 13 c13_4 o13_4 := run_region
def o13_7 : List AO := [oA 2 (.assign (ci 0)) 3]
def c13_7 : AC := .region o13_7 []
theorem n13_7 : RegR Cx 13 c13_7 o13_7 := run_region
def c13_8 : AC := .ret
theorem n13_8 : RetR Cx 13 c13_8 := run_ret
def c13_6 : AC := .seq c13_7 c13_8
theorem n13_6 : SeqR Cx 13 c13_6 c13_7 c13_8 := run_seq
def c13_9 : AC := .skip
theorem n13_9 : SkipR Cx 13 c13_9 := run_skip
def c13_5 : AC := .cond (tm 4) c13_6 c13_9
theorem n13_5 : CondR Cx 13 c13_5 (tm 4) c13_6 c13_9 := run_condC
def c13_3 : AC := .seq c13_4 c13_5
theorem n13_3 : SeqR Cx 13 c13_3 c13_4 c13_5 := run_seq
def o13_11 : List AO := [oA 5 (.move (tm 0)) 26,
  oA 6 (.nilCheck (tm 5)) 0,
  oA 7 (.fieldAddr 57 (tm 6) 3) 0,
  oA 8 (.load 3 (tm 7)) 3,
  oA 2 (.assign (tm 8)) 3]
def c13_11 : AC := .region o13_11 []
theorem n13_11 : RegR Cx 13 c13_11 o13_11 := run_region
def c13_12 : AC := .ret
theorem n13_12 : RetR Cx 13 c13_12 := run_ret
def c13_10 : AC := .seq c13_11 c13_12
theorem n13_10 : SeqR Cx 13 c13_10 c13_11 c13_12 := run_seq
def c13_2 : AC := .seq c13_3 c13_10
theorem n13_2 : SeqR Cx 13 c13_2 c13_3 c13_10 := run_seq
def c13_0 : AC := .seq c13_1 c13_2
theorem n13_0 : SeqR Cx 13 c13_0 c13_1 c13_2 := run_seq
theorem body13 : bodyOf Cx 13 = some c13_0 := by kernel_rfl
theorem res13 : resOf Cx 13 = some [.tmp 2] := by kernel_rfl
theorem pure13 : Cx.pure 13 = false := by kernel_rfl
def o14_1 : List AO := [oA 2 (.assign (.const (.pointer none))) 26,
  oA 3 (.assign (ci 0)) 33]
def c14_1 : AC := .region o14_1 []
theorem n14_1 : RegR Cx 14 c14_1 o14_1 := run_region
def o14_4 : List AO := [oA 4 (.move (tm 0)) 3,
  oA 5 (.binOp .lss 3 (tm 4) (ci 1) 3) 4,
  oA 6 (.move (tm 5)) 4,
  oG 7 (.move (tm 0)) 3 6 false,
  oG 8 (.binOp .gtr 3 (tm 7) (ci 4096) 3) 4 6 false,
  oA 9 (.pick (tm 6) (.const (.bool true)) (tm 8)) 4]
def c14_4 : AC := .region o14_4 []
theorem n14_4 : RegR Cx 14 c14_4 o14_4 := run_region
def o14_7 : List AO := [oA 2 (.assign (.const (.pointer none))) 26,
  oA 3 (.assign (ci 1)) 33]
def c14_7 : AC := .region o14_7 []
theorem n14_7 : RegR Cx 14 c14_7 o14_7 := run_region
def c14_8 : AC := .ret
theorem n14_8 : RetR Cx 14 c14_8 := run_ret
def c14_6 : AC := .seq c14_7 c14_8
theorem n14_6 : SeqR Cx 14 c14_6 c14_7 c14_8 := run_seq
def c14_9 : AC := .skip
theorem n14_9 : SkipR Cx 14 c14_9 := run_skip
def c14_5 : AC := .cond (tm 9) c14_6 c14_9
theorem n14_5 : CondR Cx 14 c14_5 (tm 9) c14_6 c14_9 := run_condC
def c14_3 : AC := .seq c14_4 c14_5
theorem n14_3 : SeqR Cx 14 c14_3 c14_4 c14_5 := run_seq
def o14_11 : List AO := [oA 10 (.move (tm 0)) 3,
  oA 11 (.build 57 #[(0, (tm 10))]) 57,
  oA 12 (.box 57 (tm 11)) 26,
  oA 2 (.assign (tm 12)) 26,
  oA 3 (.assign (ci 0)) 33]
def c14_11 : AC := .region o14_11 []
theorem n14_11 : RegR Cx 14 c14_11 o14_11 := run_region
def c14_12 : AC := .ret
theorem n14_12 : RetR Cx 14 c14_12 := run_ret
def c14_10 : AC := .seq c14_11 c14_12
theorem n14_10 : SeqR Cx 14 c14_10 c14_11 c14_12 := run_seq
def c14_2 : AC := .seq c14_3 c14_10
theorem n14_2 : SeqR Cx 14 c14_2 c14_3 c14_10 := run_seq
def c14_0 : AC := .seq c14_1 c14_2
theorem n14_0 : SeqR Cx 14 c14_0 c14_1 c14_2 := run_seq
theorem body14 : bodyOf Cx 14 = some c14_0 := by kernel_rfl
theorem res14 : resOf Cx 14 = some [.tmp 2, .tmp 3] := by kernel_rfl
theorem pure14 : Cx.pure 14 = false := by kernel_rfl
def o15_1 : List AO := [oA 3 (.box 42 (tm 1)) 0,
  oA 4 (.assign (ci 0)) 33]
def c15_1 : AC := .region o15_1 []
theorem n15_1 : RegR Cx 15 c15_1 o15_1 := run_region
def o15_4 : List AO := [oA 5 (.move (tm 0)) 26,
  oA 6 (.binOp .eql 26 (tm 5) (.const (.pointer none)) 26) 4,
  oA 7 (.move (tm 6)) 4,
  oG 8 (.load 42 (tm 3)) 42 7 false,
  oG 9 (.buildSlice 22 1 #[(0, (tm 8))]) 22 7 false,
  oG 10 (cF 9 #[(tm 9)] #[22]) 4 7 false,
  oG 11 (.unOp .not 4 (tm 10)) 4 7 false,
  oA 12 (.pick (tm 7) (.const (.bool true)) (tm 11)) 4]
def c15_4 : AC := .region o15_4 []
theorem n15_4 : RegR Cx 15 c15_4 o15_4 := run_region
def o15_7 : List AO := [oA 4 (.assign (ci 1)) 33]
def c15_7 : AC := .region o15_7 []
theorem n15_7 : RegR Cx 15 c15_7 o15_7 := run_region
def c15_8 : AC := .ret
theorem n15_8 : RetR Cx 15 c15_8 := run_ret
def c15_6 : AC := .seq c15_7 c15_8
theorem n15_6 : SeqR Cx 15 c15_6 c15_7 c15_8 := run_seq
def c15_9 : AC := .skip
theorem n15_9 : SkipR Cx 15 c15_9 := run_skip
def c15_5 : AC := .cond (tm 12) c15_6 c15_9
theorem n15_5 : CondR Cx 15 c15_5 (tm 12) c15_6 c15_9 := run_condC
def c15_3 : AC := .seq c15_4 c15_5
theorem n15_3 : SeqR Cx 15 c15_3 c15_4 c15_5 := run_seq
def o15_11 : List AO := [oA 13 (.move (tm 0)) 26,
  oA 14 (.nilCheck (tm 13)) 0,
  oA 15 (.fieldAddr 57 (tm 14) 3) 0,
  oA 16 (.load 3 (tm 15)) 3,
  oA 17 (.binOp .add 3 (tm 16) (ci 1) 3) 3,
  oA 18 (.nilCheck (tm 13)) 0,
  oA 19 (.fieldAddr 57 (tm 18) 3) 0,
  oN (.store 3 (tm 19) (tm 17)) 0]
def c15_11 : AC := .region o15_11 []
theorem n15_11 : RegR Cx 15 c15_11 o15_11 := run_region
def o15_13 : List AO := [oA 20 (.move (tm 0)) 26,
  oA 21 (.move (tm 0)) 26,
  oA 22 (.nilCheck (tm 21)) 0,
  oA 23 (.fieldAddr 57 (tm 22) 1) 0,
  oA 24 (.load 22 (tm 23)) 22,
  oA 25 (.load 42 (tm 3)) 42,
  oA 26 (.buildSlice 22 1 #[(0, (tm 25))]) 22,
  oA 27 (cB .append #[(tm 24), (tm 26)] #[22, 22]) 22,
  oA 28 (.nilCheck (tm 20)) 0,
  oA 29 (.fieldAddr 57 (tm 28) 1) 0,
  oN (.store 22 (tm 29) (tm 27)) 0]
def c15_13 : AC := .region o15_13 []
theorem n15_13 : RegR Cx 15 c15_13 o15_13 := run_region
def o15_16 : List AO := [oA 30 (.move (tm 0)) 26,
  oA 31 (.nilCheck (tm 30)) 0,
  oA 32 (.fieldAddr 57 (tm 31) 1) 0,
  oA 33 (.load 22 (tm 32)) 22,
  oA 34 (cB .len #[(tm 33)] #[22]) 3,
  oA 35 (.move (tm 0)) 26,
  oA 36 (.nilCheck (tm 35)) 0,
  oA 37 (.fieldAddr 57 (tm 36) 0) 0,
  oA 38 (.load 3 (tm 37)) 3,
  oA 39 (.binOp .eql 3 (tm 34) (tm 38) 3) 4]
def c15_16 : AC := .region o15_16 []
theorem n15_16 : RegR Cx 15 c15_16 o15_16 := run_region
def o15_18 : List AO := [oA 40 (.move (tm 0)) 26,
  oA 41 (.move (tm 0)) 26,
  oA 42 (.move (tm 0)) 26,
  oA 43 (.nilCheck (tm 42)) 0,
  oA 44 (.fieldAddr 57 (tm 43) 2) 0,
  oA 45 (.load 29 (tm 44)) 29,
  oA 46 (.move (tm 0)) 26,
  oA 47 (.nilCheck (tm 46)) 0,
  oA 48 (.fieldAddr 57 (tm 47) 1) 0,
  oA 49 (.load 22 (tm 48)) 22,
  oA 50 (cF 22 #[(tm 49)] #[22]) 22,
  oA 51 (.buildSlice 29 1 #[(0, (tm 50))]) 29,
  oA 52 (cB .append #[(tm 45), (tm 51)] #[29, 29]) 29,
  oA 53 (.nilCheck (tm 40)) 0,
  oA 54 (.fieldAddr 57 (tm 53) 2) 0,
  oN (.store 29 (tm 54) (tm 52)) 0,
  oA 55 (.nilCheck (tm 41)) 0,
  oA 56 (.fieldAddr 57 (tm 55) 1) 0,
  oN (.store 22 (tm 56) (.const (.slice none 0 0))) 0]
def c15_18 : AC := .region o15_18 []
theorem n15_18 : RegR Cx 15 c15_18 o15_18 := run_region
def c15_19 : AC := .skip
theorem n15_19 : SkipR Cx 15 c15_19 := run_skip
def c15_17 : AC := .cond (tm 39) c15_18 c15_19
theorem n15_17 : CondR Cx 15 c15_17 (tm 39) c15_18 c15_19 := run_condC
def c15_15 : AC := .seq c15_16 c15_17
theorem n15_15 : SeqR Cx 15 c15_15 c15_16 c15_17 := run_seq
def o15_21 : List AO := [oA 4 (.assign (ci 0)) 33]
def c15_21 : AC := .region o15_21 []
theorem n15_21 : RegR Cx 15 c15_21 o15_21 := run_region
def c15_22 : AC := .ret
theorem n15_22 : RetR Cx 15 c15_22 := run_ret
def c15_20 : AC := .seq c15_21 c15_22
theorem n15_20 : SeqR Cx 15 c15_20 c15_21 c15_22 := run_seq
def c15_14 : AC := .seq c15_15 c15_20
theorem n15_14 : SeqR Cx 15 c15_14 c15_15 c15_20 := run_seq
def c15_12 : AC := .seq c15_13 c15_14
theorem n15_12 : SeqR Cx 15 c15_12 c15_13 c15_14 := run_seq
def c15_10 : AC := .seq c15_11 c15_12
theorem n15_10 : SeqR Cx 15 c15_10 c15_11 c15_12 := run_seq
def c15_2 : AC := .seq c15_3 c15_10
theorem n15_2 : SeqR Cx 15 c15_2 c15_3 c15_10 := run_seq
def c15_0 : AC := .seq c15_1 c15_2
theorem n15_0 : SeqR Cx 15 c15_0 c15_1 c15_2 := run_seq
theorem body15 : bodyOf Cx 15 = some c15_0 := by kernel_rfl
theorem res15 : resOf Cx 15 = some [.tmp 4] := by kernel_rfl
theorem pure15 : Cx.pure 15 = false := by kernel_rfl
def o16_1 : List AO := [oA 2 (.assign (.const (.bool false))) 4]
def c16_1 : AC := .region o16_1 []
theorem n16_1 : RegR Cx 16 c16_1 o16_1 := run_region
def o16_4 : List AO := [oA 3 (.assign (ci 0)) 3]
def c16_4 : AC := .region o16_4 []
theorem n16_4 : RegR Cx 16 c16_4 o16_4 := run_region
def o16_9 : List AO := [oA 4 (.move (tm 3)) 3,
  oA 5 (.move (tm 0)) 22,
  oA 6 (cB .len #[(tm 5)] #[22]) 3,
  oA 7 (.binOp .lss 3 (tm 4) (tm 6) 3) 4]
def c16_9 : AC := .region o16_9 []
theorem n16_9 : RegR Cx 16 c16_9 o16_9 := run_region
def c16_11 : AC := .skip
theorem n16_11 : SkipR Cx 16 c16_11 := run_skip
def c16_12 : AC := .exit 0
theorem n16_12 : ExitR Cx 16 c16_12 0 := run_exit_start
def c16_10 : AC := .cond (tm 7) c16_11 c16_12
theorem n16_10 : CondR Cx 16 c16_10 (tm 7) c16_11 c16_12 := run_condC
def c16_8 : AC := .seq c16_9 c16_10
theorem n16_8 : SeqR Cx 16 c16_8 c16_9 c16_10 := run_seq
def o16_16 : List AO := [oA 10 (.move (tm 0)) 22,
  oA 11 (.move (tm 3)) 3,
  oA 12 (.indexAddr 22 (tm 10) (tm 11)) 0,
  oA 13 (.fieldAddr 42 (tm 12) 0) 0,
  oA 14 (.load 9 (tm 13)) 9,
  oA 15 (cB .len #[(tm 14)] #[9]) 3,
  oA 16 (.binOp .gtr 3 (tm 15) (ci 64) 3) 4,
  oA 17 (.move (tm 16)) 4,
  oG 18 (.move (tm 0)) 22 17 false,
  oG 19 (.move (tm 3)) 3 17 false,
  oG 20 (.indexAddr 22 (tm 18) (tm 19)) 0 17 false,
  oG 21 (.fieldAddr 42 (tm 20) 1) 0 17 false,
  oG 22 (.load 40 (tm 21)) 40 17 false,
  oG 23 (cF 29 #[(tm 22)] #[40]) 4 17 false,
  oG 24 (.unOp .not 4 (tm 23)) 4 17 false,
  oA 25 (.pick (tm 17) (.const (.bool true)) (tm 24)) 4]
def c16_16 : AC := .region o16_16 []
theorem n16_16 : RegR Cx 16 c16_16 o16_16 := run_region
def o16_19 : List AO := [oA 2 (.assign (.const (.bool false))) 4]
def c16_19 : AC := .region o16_19 []
theorem n16_19 : RegR Cx 16 c16_19 o16_19 := run_region
def c16_20 : AC := .ret
theorem n16_20 : RetR Cx 16 c16_20 := run_ret
def c16_18 : AC := .seq c16_19 c16_20
theorem n16_18 : SeqR Cx 16 c16_18 c16_19 c16_20 := run_seq
def c16_21 : AC := .skip
theorem n16_21 : SkipR Cx 16 c16_21 := run_skip
def c16_17 : AC := .cond (tm 25) c16_18 c16_21
theorem n16_17 : CondR Cx 16 c16_17 (tm 25) c16_18 c16_21 := run_condC
def c16_15 : AC := .seq c16_16 c16_17
theorem n16_15 : SeqR Cx 16 c16_15 c16_16 c16_17 := run_seq
def c16_14 : AC := .block 1 c16_15
theorem n16_14 : BlkR Cx 16 c16_14 1 c16_15 := run_block
def o16_22 : List AO := [oA 8 (.move (tm 3)) 3,
  oA 9 (.binOp .add 3 (tm 8) (ci 1) 3) 3,
  oA 3 (.assign (tm 9)) 3]
def c16_22 : AC := .region o16_22 []
theorem n16_22 : RegR Cx 16 c16_22 o16_22 := run_region
def c16_13 : AC := .seq c16_14 c16_22
theorem n16_13 : SeqR Cx 16 c16_13 c16_14 c16_22 := run_seq
def c16_7 : AC := .seq c16_8 c16_13
theorem n16_7 : SeqR Cx 16 c16_7 c16_8 c16_13 := run_seq
def c16_6 : AC := .loop c16_7
theorem n16_6 : LoopR Cx 16 c16_6 c16_7 := run_loop'
def c16_5 : AC := .block 0 c16_6
theorem n16_5 : BlkR Cx 16 c16_5 0 c16_6 := run_block
def c16_3 : AC := .seq c16_4 c16_5
theorem n16_3 : SeqR Cx 16 c16_3 c16_4 c16_5 := run_seq
def o16_24 : List AO := [oA 2 (.assign (.const (.bool true))) 4]
def c16_24 : AC := .region o16_24 []
theorem n16_24 : RegR Cx 16 c16_24 o16_24 := run_region
def c16_25 : AC := .ret
theorem n16_25 : RetR Cx 16 c16_25 := run_ret
def c16_23 : AC := .seq c16_24 c16_25
theorem n16_23 : SeqR Cx 16 c16_23 c16_24 c16_25 := run_seq
def c16_2 : AC := .seq c16_3 c16_23
theorem n16_2 : SeqR Cx 16 c16_2 c16_3 c16_23 := run_seq
def c16_0 : AC := .seq c16_1 c16_2
theorem n16_0 : SeqR Cx 16 c16_0 c16_1 c16_2 := run_seq
theorem body16 : bodyOf Cx 16 = some c16_0 := by kernel_rfl
theorem res16 : resOf Cx 16 = some [.tmp 2] := by kernel_rfl
theorem pure16 : Cx.pure 16 = true := by kernel_rfl
def o17_1 : List AO := [oA 4 (.assign (.const (.slice none 0 0))) 29]
def c17_1 : AC := .region o17_1 []
theorem n17_1 : RegR Cx 17 c17_1 o17_1 := run_region
def o17_3 : List AO := [oA 5 (.assign (.const (.slice none 0 0))) 29]
def c17_3 : AC := .region o17_3 []
theorem n17_3 : RegR Cx 17 c17_3 o17_3 := run_region
def o17_6 : List AO := [oA 6 (.assign (ci 0)) 3]
def c17_6 : AC := .region o17_6 []
theorem n17_6 : RegR Cx 17 c17_6 o17_6 := run_region
def o17_11 : List AO := [oA 7 (.move (tm 6)) 3,
  oA 8 (.move (tm 0)) 22,
  oA 9 (cB .len #[(tm 8)] #[22]) 3,
  oA 10 (.binOp .lss 3 (tm 7) (tm 9) 3) 4]
def c17_11 : AC := .region o17_11 []
theorem n17_11 : RegR Cx 17 c17_11 o17_11 := run_region
def c17_13 : AC := .skip
theorem n17_13 : SkipR Cx 17 c17_13 := run_skip
def c17_14 : AC := .exit 0
theorem n17_14 : ExitR Cx 17 c17_14 0 := run_exit_start
def c17_12 : AC := .cond (tm 10) c17_13 c17_14
theorem n17_12 : CondR Cx 17 c17_12 (tm 10) c17_13 c17_14 := run_condC
def c17_10 : AC := .seq c17_11 c17_12
theorem n17_10 : SeqR Cx 17 c17_10 c17_11 c17_12 := run_seq
def o17_17 : List AO := [oA 14 (.move (tm 5)) 29,
  oA 15 (.move (tm 0)) 22,
  oA 16 (.move (tm 6)) 3,
  oA 17 (.move (tm 6)) 3,
  oA 18 (.move (tm 1)) 3,
  oA 19 (.binOp .add 3 (tm 17) (tm 18) 3) 3,
  oA 20 (.move (tm 0)) 22,
  oA 21 (cB .len #[(tm 20)] #[22]) 3,
  oA 22 (cB .min #[(tm 19), (tm 21)] #[3, 3]) 3,
  oA 23 (.slice 22 (tm 15) (some (tm 16)) (some (tm 22)) none) 22,
  oA 24 (cF 19 #[(tm 23)] #[22]) 22,
  oA 25 (.buildSlice 29 1 #[(0, (tm 24))]) 29,
  oA 26 (cB .append #[(tm 14), (tm 25)] #[29, 29]) 29,
  oA 5 (.assign (tm 26)) 29]
def c17_17 : AC := .region o17_17 []
theorem n17_17 : RegR Cx 17 c17_17 o17_17 := run_region
def c17_16 : AC := .block 1 c17_17
theorem n17_16 : BlkR Cx 17 c17_16 1 c17_17 := run_block
def o17_18 : List AO := [oA 11 (.move (tm 6)) 3,
  oA 12 (.move (tm 1)) 3,
  oA 13 (.binOp .add 3 (tm 11) (tm 12) 3) 3,
  oA 6 (.assign (tm 13)) 3]
def c17_18 : AC := .region o17_18 []
theorem n17_18 : RegR Cx 17 c17_18 o17_18 := run_region
def c17_15 : AC := .seq c17_16 c17_18
theorem n17_15 : SeqR Cx 17 c17_15 c17_16 c17_18 := run_seq
def c17_9 : AC := .seq c17_10 c17_15
theorem n17_9 : SeqR Cx 17 c17_9 c17_10 c17_15 := run_seq
def c17_8 : AC := .loop c17_9
theorem n17_8 : LoopR Cx 17 c17_8 c17_9 := run_loop'
def c17_7 : AC := .block 0 c17_8
theorem n17_7 : BlkR Cx 17 c17_7 0 c17_8 := run_block
def c17_5 : AC := .seq c17_6 c17_7
theorem n17_5 : SeqR Cx 17 c17_5 c17_6 c17_7 := run_seq
def o17_20 : List AO := [oA 27 (.move (tm 5)) 29,
  oA 4 (.assign (tm 27)) 29]
def c17_20 : AC := .region o17_20 []
theorem n17_20 : RegR Cx 17 c17_20 o17_20 := run_region
def c17_21 : AC := .ret
theorem n17_21 : RetR Cx 17 c17_21 := run_ret
def c17_19 : AC := .seq c17_20 c17_21
theorem n17_19 : SeqR Cx 17 c17_19 c17_20 c17_21 := run_seq
def c17_4 : AC := .seq c17_5 c17_19
theorem n17_4 : SeqR Cx 17 c17_4 c17_5 c17_19 := run_seq
def c17_2 : AC := .seq c17_3 c17_4
theorem n17_2 : SeqR Cx 17 c17_2 c17_3 c17_4 := run_seq
def c17_0 : AC := .seq c17_1 c17_2
theorem n17_0 : SeqR Cx 17 c17_0 c17_1 c17_2 := run_seq
theorem body17 : bodyOf Cx 17 = some c17_0 := by kernel_rfl
theorem res17 : resOf Cx 17 = some [.tmp 4] := by kernel_rfl
theorem pure17 : Cx.pure 17 = false := by kernel_rfl
def o18_1 : List AO := [oA 4 (.assign (.const (.bool false))) 4]
def c18_1 : AC := .region o18_1 []
theorem n18_1 : RegR Cx 18 c18_1 o18_1 := run_region
def o18_4 : List AO := [oA 6 (.move (tm 0)) 22,
  oA 7 (cB .len #[(tm 6)] #[22]) 3,
  oA 8 (.move (tm 1)) 22,
  oA 9 (cB .len #[(tm 8)] #[22]) 3,
  oA 10 (.binOp .neq 3 (tm 7) (tm 9) 3) 4]
def c18_4 : AC := .region o18_4 []
theorem n18_4 : RegR Cx 18 c18_4 o18_4 := run_region
def o18_7 : List AO := [oA 4 (.assign (.const (.bool false))) 4]
def c18_7 : AC := .region o18_7 []
theorem n18_7 : RegR Cx 18 c18_7 o18_7 := run_region
def c18_8 : AC := .ret
theorem n18_8 : RetR Cx 18 c18_8 := run_ret
def c18_6 : AC := .seq c18_7 c18_8
theorem n18_6 : SeqR Cx 18 c18_6 c18_7 c18_8 := run_seq
def c18_9 : AC := .skip
theorem n18_9 : SkipR Cx 18 c18_9 := run_skip
def c18_5 : AC := .cond (tm 10) c18_6 c18_9
theorem n18_5 : CondR Cx 18 c18_5 (tm 10) c18_6 c18_9 := run_condC
def c18_3 : AC := .seq c18_4 c18_5
theorem n18_3 : SeqR Cx 18 c18_3 c18_4 c18_5 := run_seq
def o18_12 : List AO := [oA 5 (.assign (ci 0)) 3]
def c18_12 : AC := .region o18_12 []
theorem n18_12 : RegR Cx 18 c18_12 o18_12 := run_region
def o18_17 : List AO := [oA 11 (.move (tm 5)) 3,
  oA 12 (.move (tm 0)) 22,
  oA 13 (cB .len #[(tm 12)] #[22]) 3,
  oA 14 (.binOp .lss 3 (tm 11) (tm 13) 3) 4]
def c18_17 : AC := .region o18_17 []
theorem n18_17 : RegR Cx 18 c18_17 o18_17 := run_region
def c18_19 : AC := .skip
theorem n18_19 : SkipR Cx 18 c18_19 := run_skip
def c18_20 : AC := .exit 0
theorem n18_20 : ExitR Cx 18 c18_20 0 := run_exit_start
def c18_18 : AC := .cond (tm 14) c18_19 c18_20
theorem n18_18 : CondR Cx 18 c18_18 (tm 14) c18_19 c18_20 := run_condC
def c18_16 : AC := .seq c18_17 c18_18
theorem n18_16 : SeqR Cx 18 c18_16 c18_17 c18_18 := run_seq
def o18_24 : List AO := [oA 17 (.move (tm 0)) 22,
  oA 18 (.move (tm 5)) 3,
  oA 19 (.indexAddr 22 (tm 17) (tm 18)) 0,
  oA 20 (.load 42 (tm 19)) 42,
  oA 21 (.move (tm 1)) 22,
  oA 22 (.move (tm 5)) 3,
  oA 23 (.indexAddr 22 (tm 21) (tm 22)) 0,
  oA 24 (.load 42 (tm 23)) 42,
  oA 25 (.binOp .neq 42 (tm 20) (tm 24) 42) 4]
def c18_24 : AC := .region o18_24 []
theorem n18_24 : RegR Cx 18 c18_24 o18_24 := run_region
def o18_27 : List AO := [oA 4 (.assign (.const (.bool false))) 4]
def c18_27 : AC := .region o18_27 []
theorem n18_27 : RegR Cx 18 c18_27 o18_27 := run_region
def c18_28 : AC := .ret
theorem n18_28 : RetR Cx 18 c18_28 := run_ret
def c18_26 : AC := .seq c18_27 c18_28
theorem n18_26 : SeqR Cx 18 c18_26 c18_27 c18_28 := run_seq
def c18_29 : AC := .skip
theorem n18_29 : SkipR Cx 18 c18_29 := run_skip
def c18_25 : AC := .cond (tm 25) c18_26 c18_29
theorem n18_25 : CondR Cx 18 c18_25 (tm 25) c18_26 c18_29 := run_condC
def c18_23 : AC := .seq c18_24 c18_25
theorem n18_23 : SeqR Cx 18 c18_23 c18_24 c18_25 := run_seq
def c18_22 : AC := .block 1 c18_23
theorem n18_22 : BlkR Cx 18 c18_22 1 c18_23 := run_block
def o18_30 : List AO := [oA 15 (.move (tm 5)) 3,
  oA 16 (.binOp .add 3 (tm 15) (ci 1) 3) 3,
  oA 5 (.assign (tm 16)) 3]
def c18_30 : AC := .region o18_30 []
theorem n18_30 : RegR Cx 18 c18_30 o18_30 := run_region
def c18_21 : AC := .seq c18_22 c18_30
theorem n18_21 : SeqR Cx 18 c18_21 c18_22 c18_30 := run_seq
def c18_15 : AC := .seq c18_16 c18_21
theorem n18_15 : SeqR Cx 18 c18_15 c18_16 c18_21 := run_seq
def c18_14 : AC := .loop c18_15
theorem n18_14 : LoopR Cx 18 c18_14 c18_15 := run_loop'
def c18_13 : AC := .block 0 c18_14
theorem n18_13 : BlkR Cx 18 c18_13 0 c18_14 := run_block
def c18_11 : AC := .seq c18_12 c18_13
theorem n18_11 : SeqR Cx 18 c18_11 c18_12 c18_13 := run_seq
def o18_32 : List AO := [oA 4 (.assign (.const (.bool true))) 4]
def c18_32 : AC := .region o18_32 []
theorem n18_32 : RegR Cx 18 c18_32 o18_32 := run_region
def c18_33 : AC := .ret
theorem n18_33 : RetR Cx 18 c18_33 := run_ret
def c18_31 : AC := .seq c18_32 c18_33
theorem n18_31 : SeqR Cx 18 c18_31 c18_32 c18_33 := run_seq
def c18_10 : AC := .seq c18_11 c18_31
theorem n18_10 : SeqR Cx 18 c18_10 c18_11 c18_31 := run_seq
def c18_2 : AC := .seq c18_3 c18_10
theorem n18_2 : SeqR Cx 18 c18_2 c18_3 c18_10 := run_seq
def c18_0 : AC := .seq c18_1 c18_2
theorem n18_0 : SeqR Cx 18 c18_0 c18_1 c18_2 := run_seq
theorem body18 : bodyOf Cx 18 = some c18_0 := by kernel_rfl
theorem res18 : resOf Cx 18 = some [.tmp 4] := by kernel_rfl
theorem pure18 : Cx.pure 18 = true := by kernel_rfl
def o19_1 : List AO := [oA 2 (.assign (.const (.slice none 0 0))) 22]
def c19_1 : AC := .region o19_1 []
theorem n19_1 : RegR Cx 19 c19_1 o19_1 := run_region
def o19_3 : List AO := [oA 3 (.assign (.const (.slice none 0 0))) 22]
def c19_3 : AC := .region o19_3 []
theorem n19_3 : RegR Cx 19 c19_3 o19_3 := run_region
def o19_6 : List AO := [oA 4 (.assign (ci 0)) 3]
def c19_6 : AC := .region o19_6 []
theorem n19_6 : RegR Cx 19 c19_6 o19_6 := run_region
def o19_11 : List AO := [oA 7 (.move (tm 4)) 3,
  oA 8 (.move (tm 0)) 22,
  oA 9 (cB .len #[(tm 8)] #[22]) 3,
  oA 10 (.binOp .lss 3 (tm 7) (tm 9) 3) 4]
def c19_11 : AC := .region o19_11 []
theorem n19_11 : RegR Cx 19 c19_11 o19_11 := run_region
def c19_13 : AC := .skip
theorem n19_13 : SkipR Cx 19 c19_13 := run_skip
def c19_14 : AC := .exit 0
theorem n19_14 : ExitR Cx 19 c19_14 0 := run_exit_start
def c19_12 : AC := .cond (tm 10) c19_13 c19_14
theorem n19_12 : CondR Cx 19 c19_12 (tm 10) c19_13 c19_14 := run_condC
def c19_10 : AC := .seq c19_11 c19_12
theorem n19_10 : SeqR Cx 19 c19_10 c19_11 c19_12 := run_seq
def o19_18 : List AO := [oA 13 (.move (tm 3)) 22,
  oA 14 (cB .len #[(tm 13)] #[22]) 3,
  oA 5 (.assign (tm 14)) 3]
def c19_18 : AC := .region o19_18 []
theorem n19_18 : RegR Cx 19 c19_18 o19_18 := run_region
def o19_24 : List AO := [oA 15 (.move (tm 5)) 3,
  oA 16 (.binOp .gtr 3 (tm 15) (ci 0) 3) 4,
  oA 17 (.move (tm 16)) 4,
  oG 18 (.move (tm 3)) 22 17 true,
  oG 19 (.move (tm 5)) 3 17 true,
  oG 20 (.binOp .sub 3 (tm 19) (ci 1) 3) 3 17 true,
  oG 21 (.indexAddr 22 (tm 18) (tm 20)) 0 17 true,
  oG 22 (.fieldAddr 42 (tm 21) 0) 0 17 true,
  oG 23 (.load 9 (tm 22)) 9 17 true,
  oG 24 (.move (tm 0)) 22 17 true,
  oG 25 (.move (tm 4)) 3 17 true,
  oG 26 (.indexAddr 22 (tm 24) (tm 25)) 0 17 true,
  oG 27 (.fieldAddr 42 (tm 26) 0) 0 17 true,
  oG 28 (.load 9 (tm 27)) 9 17 true,
  oG 29 (.binOp .gtr 9 (tm 23) (tm 28) 9) 4 17 true,
  oA 30 (.pick (tm 17) (tm 29) (.const (.bool false))) 4]
def c19_24 : AC := .region o19_24 []
theorem n19_24 : RegR Cx 19 c19_24 o19_24 := run_region
def c19_26 : AC := .skip
theorem n19_26 : SkipR Cx 19 c19_26 := run_skip
def c19_27 : AC := .exit 2
theorem n19_27 : ExitR Cx 19 c19_27 2 := run_exit_start
def c19_25 : AC := .cond (tm 30) c19_26 c19_27
theorem n19_25 : CondR Cx 19 c19_25 (tm 30) c19_26 c19_27 := run_condC
def c19_23 : AC := .seq c19_24 c19_25
theorem n19_23 : SeqR Cx 19 c19_23 c19_24 c19_25 := run_seq
def o19_29 : List AO := [oA 31 (.move (tm 5)) 3,
  oA 32 (.binOp .sub 3 (tm 31) (ci 1) 3) 3,
  oA 5 (.assign (tm 32)) 3]
def c19_29 : AC := .region o19_29 []
theorem n19_29 : RegR Cx 19 c19_29 o19_29 := run_region
def c19_28 : AC := .block 3 c19_29
theorem n19_28 : BlkR Cx 19 c19_28 3 c19_29 := run_block
def c19_22 : AC := .seq c19_23 c19_28
theorem n19_22 : SeqR Cx 19 c19_22 c19_23 c19_28 := run_seq
def c19_21 : AC := .loop c19_22
theorem n19_21 : LoopR Cx 19 c19_21 c19_22 := run_loop'
def c19_20 : AC := .block 2 c19_21
theorem n19_20 : BlkR Cx 19 c19_20 2 c19_21 := run_block
def o19_31 : List AO := [oA 33 (.move (tm 3)) 22,
  oA 34 (.move (tm 0)) 22,
  oA 35 (.move (tm 4)) 3,
  oA 36 (.indexAddr 22 (tm 34) (tm 35)) 0,
  oA 37 (.load 42 (tm 36)) 42,
  oA 38 (.buildSlice 22 1 #[(0, (tm 37))]) 22,
  oA 39 (cB .append #[(tm 33), (tm 38)] #[22, 22]) 22,
  oA 3 (.assign (tm 39)) 22]
def c19_31 : AC := .region o19_31 []
theorem n19_31 : RegR Cx 19 c19_31 o19_31 := run_region
def o19_34 : List AO := [oA 40 (.move (tm 3)) 22,
  oA 41 (cB .len #[(tm 40)] #[22]) 3,
  oA 42 (.binOp .sub 3 (tm 41) (ci 1) 3) 3,
  oA 6 (.assign (tm 42)) 3]
def c19_34 : AC := .region o19_34 []
theorem n19_34 : RegR Cx 19 c19_34 o19_34 := run_region
def o19_39 : List AO := [oA 43 (.move (tm 6)) 3,
  oA 44 (.move (tm 5)) 3,
  oA 45 (.binOp .gtr 3 (tm 43) (tm 44) 3) 4]
def c19_39 : AC := .region o19_39 []
theorem n19_39 : RegR Cx 19 c19_39 o19_39 := run_region
def c19_41 : AC := .skip
theorem n19_41 : SkipR Cx 19 c19_41 := run_skip
def c19_42 : AC := .exit 4
theorem n19_42 : ExitR Cx 19 c19_42 4 := run_exit_start
def c19_40 : AC := .cond (tm 45) c19_41 c19_42
theorem n19_40 : CondR Cx 19 c19_40 (tm 45) c19_41 c19_42 := run_condC
def c19_38 : AC := .seq c19_39 c19_40
theorem n19_38 : SeqR Cx 19 c19_38 c19_39 c19_40 := run_seq
def o19_45 : List AO := [oA 48 (.move (tm 3)) 22,
  oA 49 (.move (tm 6)) 3,
  oA 50 (.move (tm 3)) 22,
  oA 51 (.move (tm 6)) 3,
  oA 52 (.binOp .sub 3 (tm 51) (ci 1) 3) 3,
  oA 53 (.indexAddr 22 (tm 50) (tm 52)) 0,
  oA 54 (.load 42 (tm 53)) 42,
  oA 55 (.indexAddr 22 (tm 48) (tm 49)) 0,
  oN (.store 42 (tm 55) (tm 54)) 0]
def c19_45 : AC := .region o19_45 []
theorem n19_45 : RegR Cx 19 c19_45 o19_45 := run_region
def c19_44 : AC := .block 5 c19_45
theorem n19_44 : BlkR Cx 19 c19_44 5 c19_45 := run_block
def o19_46 : List AO := [oA 46 (.move (tm 6)) 3,
  oA 47 (.binOp .sub 3 (tm 46) (ci 1) 3) 3,
  oA 6 (.assign (tm 47)) 3]
def c19_46 : AC := .region o19_46 []
theorem n19_46 : RegR Cx 19 c19_46 o19_46 := run_region
def c19_43 : AC := .seq c19_44 c19_46
theorem n19_43 : SeqR Cx 19 c19_43 c19_44 c19_46 := run_seq
def c19_37 : AC := .seq c19_38 c19_43
theorem n19_37 : SeqR Cx 19 c19_37 c19_38 c19_43 := run_seq
def c19_36 : AC := .loop c19_37
theorem n19_36 : LoopR Cx 19 c19_36 c19_37 := run_loop'
def c19_35 : AC := .block 4 c19_36
theorem n19_35 : BlkR Cx 19 c19_35 4 c19_36 := run_block
def c19_33 : AC := .seq c19_34 c19_35
theorem n19_33 : SeqR Cx 19 c19_33 c19_34 c19_35 := run_seq
def o19_47 : List AO := [oA 56 (.move (tm 3)) 22,
  oA 57 (.move (tm 5)) 3,
  oA 58 (.move (tm 0)) 22,
  oA 59 (.move (tm 4)) 3,
  oA 60 (.indexAddr 22 (tm 58) (tm 59)) 0,
  oA 61 (.load 42 (tm 60)) 42,
  oA 62 (.indexAddr 22 (tm 56) (tm 57)) 0,
  oN (.store 42 (tm 62) (tm 61)) 0]
def c19_47 : AC := .region o19_47 []
theorem n19_47 : RegR Cx 19 c19_47 o19_47 := run_region
def c19_32 : AC := .seq c19_33 c19_47
theorem n19_32 : SeqR Cx 19 c19_32 c19_33 c19_47 := run_seq
def c19_30 : AC := .seq c19_31 c19_32
theorem n19_30 : SeqR Cx 19 c19_30 c19_31 c19_32 := run_seq
def c19_19 : AC := .seq c19_20 c19_30
theorem n19_19 : SeqR Cx 19 c19_19 c19_20 c19_30 := run_seq
def c19_17 : AC := .seq c19_18 c19_19
theorem n19_17 : SeqR Cx 19 c19_17 c19_18 c19_19 := run_seq
def c19_16 : AC := .block 1 c19_17
theorem n19_16 : BlkR Cx 19 c19_16 1 c19_17 := run_block
def o19_48 : List AO := [oA 11 (.move (tm 4)) 3,
  oA 12 (.binOp .add 3 (tm 11) (ci 1) 3) 3,
  oA 4 (.assign (tm 12)) 3]
def c19_48 : AC := .region o19_48 []
theorem n19_48 : RegR Cx 19 c19_48 o19_48 := run_region
def c19_15 : AC := .seq c19_16 c19_48
theorem n19_15 : SeqR Cx 19 c19_15 c19_16 c19_48 := run_seq
def c19_9 : AC := .seq c19_10 c19_15
theorem n19_9 : SeqR Cx 19 c19_9 c19_10 c19_15 := run_seq
def c19_8 : AC := .loop c19_9
theorem n19_8 : LoopR Cx 19 c19_8 c19_9 := run_loop'
def c19_7 : AC := .block 0 c19_8
theorem n19_7 : BlkR Cx 19 c19_7 0 c19_8 := run_block
def c19_5 : AC := .seq c19_6 c19_7
theorem n19_5 : SeqR Cx 19 c19_5 c19_6 c19_7 := run_seq
def o19_50 : List AO := [oA 63 (.move (tm 3)) 22,
  oA 2 (.assign (tm 63)) 22]
def c19_50 : AC := .region o19_50 []
theorem n19_50 : RegR Cx 19 c19_50 o19_50 := run_region
def c19_51 : AC := .ret
theorem n19_51 : RetR Cx 19 c19_51 := run_ret
def c19_49 : AC := .seq c19_50 c19_51
theorem n19_49 : SeqR Cx 19 c19_49 c19_50 c19_51 := run_seq
def c19_4 : AC := .seq c19_5 c19_49
theorem n19_4 : SeqR Cx 19 c19_4 c19_5 c19_49 := run_seq
def c19_2 : AC := .seq c19_3 c19_4
theorem n19_2 : SeqR Cx 19 c19_2 c19_3 c19_4 := run_seq
def c19_0 : AC := .seq c19_1 c19_2
theorem n19_0 : SeqR Cx 19 c19_0 c19_1 c19_2 := run_seq
theorem body19 : bodyOf Cx 19 = some c19_0 := by kernel_rfl
theorem res19 : resOf Cx 19 = some [.tmp 2] := by kernel_rfl
theorem pure19 : Cx.pure 19 = true := by kernel_rfl
def o20_1 : List AO := [oA 2 (.assign (.const .nilFunc)) 47]
def c20_1 : AC := .region o20_1 []
theorem n20_1 : RegR Cx 20 c20_1 o20_1 := run_region
def o20_3 : List AO := [oA 3 (.move (tm 0)) 26,
  oA 4 (cF 11 #[(tm 3)] #[26]) 29,
  oA 5 (cF 30 #[(tm 4)] #[29]) 47,
  oA 2 (.assign (tm 5)) 47]
def c20_3 : AC := .region o20_3 []
theorem n20_3 : RegR Cx 20 c20_3 o20_3 := run_region
def c20_4 : AC := .ret
theorem n20_4 : RetR Cx 20 c20_4 := run_ret
def c20_2 : AC := .seq c20_3 c20_4
theorem n20_2 : SeqR Cx 20 c20_2 c20_3 c20_4 := run_seq
def c20_0 : AC := .seq c20_1 c20_2
theorem n20_0 : SeqR Cx 20 c20_0 c20_1 c20_2 := run_seq
theorem body20 : bodyOf Cx 20 = some c20_0 := by kernel_rfl
theorem res20 : resOf Cx 20 = some [.tmp 2] := by kernel_rfl
theorem pure20 : Cx.pure 20 = false := by kernel_rfl
def o21_1 : List AO := [oA 2 (.assign (.const (.slice none 0 0))) 22,
  oA 3 (.assign (ci 0)) 33]
def c21_1 : AC := .region o21_1 []
theorem n21_1 : RegR Cx 21 c21_1 o21_1 := run_region
def o21_4 : List AO := [oA 6 (.move (tm 0)) 29,
  oA 7 (cF 31 #[(tm 6), (.func 32)] #[29, 25]) 4]
def c21_4 : AC := .region o21_4 []
theorem n21_4 : RegR Cx 21 c21_4 o21_4 := run_region
def o21_7 : List AO := [oA 2 (.assign (.const (.slice none 0 0))) 22,
  oA 3 (.assign (ci 17)) 33]
def c21_7 : AC := .region o21_7 []
theorem n21_7 : RegR Cx 21 c21_7 o21_7 := run_region
def c21_8 : AC := .ret
theorem n21_8 : RetR Cx 21 c21_8 := run_ret
def c21_6 : AC := .seq c21_7 c21_8
theorem n21_6 : SeqR Cx 21 c21_6 c21_7 c21_8 := run_seq
def c21_9 : AC := .skip
theorem n21_9 : SkipR Cx 21 c21_9 := run_skip
def c21_5 : AC := .cond (tm 7) c21_6 c21_9
theorem n21_5 : CondR Cx 21 c21_5 (tm 7) c21_6 c21_9 := run_condC
def c21_3 : AC := .seq c21_4 c21_5
theorem n21_3 : SeqR Cx 21 c21_3 c21_4 c21_5 := run_seq
def o21_11 : List AO := [oA 4 (.alloc 22) 0]
def c21_11 : AC := .region o21_11 []
theorem n21_11 : RegR Cx 21 c21_11 o21_11 := run_region
def o21_14 : List AO := [oA 8 (.move (tm 0)) 29,
  oA 9 (cF 30 #[(tm 8)] #[29]) 47]
def c21_14 : AC := .region o21_14 []
theorem n21_14 : RegR Cx 21 c21_14 o21_14 := run_region
def o21_17 : List AO := [oA 5 (.alloc 42) 0,
  oN (.store 42 (tm 5) (tm 10)) 0]
def c21_17 : AC := .region o21_17 []
theorem n21_17 : RegR Cx 21 c21_17 o21_17 := run_region
def o21_19 : List AO := [oA 11 (.load 22 (tm 4)) 22,
  oA 12 (.load 42 (tm 5)) 42,
  oA 13 (.buildSlice 22 1 #[(0, (tm 12))]) 22,
  oA 14 (cB .append #[(tm 11), (tm 13)] #[22, 22]) 22,
  oN (.store 22 (tm 4) (tm 14)) 0]
def c21_19 : AC := .region o21_19 []
theorem n21_19 : RegR Cx 21 c21_19 o21_19 := run_region
def c21_18 : AC := .block 1 c21_19
theorem n21_18 : BlkR Cx 21 c21_18 1 c21_19 := run_block
def c21_16 : AC := .rangeFunc (tm 9) [10] c21_17 c21_18
def c21_15 : AC := .block 0 c21_16
theorem n21_15 : BlkR Cx 21 c21_15 0 c21_16 := run_block
def c21_13 : AC := .seq c21_14 c21_15
theorem n21_13 : SeqR Cx 21 c21_13 c21_14 c21_15 := run_seq
def o21_21 : List AO := [oA 15 (.load 22 (tm 4)) 22,
  oA 2 (.assign (tm 15)) 22,
  oA 3 (.assign (ci 0)) 33]
def c21_21 : AC := .region o21_21 []
theorem n21_21 : RegR Cx 21 c21_21 o21_21 := run_region
def c21_22 : AC := .ret
theorem n21_22 : RetR Cx 21 c21_22 := run_ret
def c21_20 : AC := .seq c21_21 c21_22
theorem n21_20 : SeqR Cx 21 c21_20 c21_21 c21_22 := run_seq
def c21_12 : AC := .seq c21_13 c21_20
theorem n21_12 : SeqR Cx 21 c21_12 c21_13 c21_20 := run_seq
def c21_10 : AC := .seq c21_11 c21_12
theorem n21_10 : SeqR Cx 21 c21_10 c21_11 c21_12 := run_seq
def c21_2 : AC := .seq c21_3 c21_10
theorem n21_2 : SeqR Cx 21 c21_2 c21_3 c21_10 := run_seq
def c21_0 : AC := .seq c21_1 c21_2
theorem n21_0 : SeqR Cx 21 c21_0 c21_1 c21_2 := run_seq
theorem body21 : bodyOf Cx 21 = some c21_0 := by kernel_rfl
theorem res21 : resOf Cx 21 = some [.tmp 2, .tmp 3] := by kernel_rfl
theorem pure21 : Cx.pure 21 = true := by kernel_rfl
def o22_1 : List AO := [oA 2 (.assign (.const (.slice none 0 0))) 22]
def c22_1 : AC := .region o22_1 []
theorem n22_1 : RegR Cx 22 c22_1 o22_1 := run_region
def o22_3 : List AO := [oA 4 (.move (tm 0)) 22,
  oA 5 (cF 26 #[(tm 4)] #[22]) 22,
  oA 3 (.assign (tm 5)) 22]
def c22_3 : AC := .region o22_3 []
theorem n22_3 : RegR Cx 22 c22_3 o22_3 := run_region
def o22_5 : List AO := [oA 6 (.move (tm 3)) 22,
  oA 7 (cF 33 #[(tm 6), (.func 28)] #[22, 59]) 0]
def c22_5 : AC := .region o22_5 []
theorem n22_5 : RegR Cx 22 c22_5 o22_5 := run_region
def o22_7 : List AO := [oA 8 (.move (tm 3)) 22,
  oA 2 (.assign (tm 8)) 22]
def c22_7 : AC := .region o22_7 []
theorem n22_7 : RegR Cx 22 c22_7 o22_7 := run_region
def c22_8 : AC := .ret
theorem n22_8 : RetR Cx 22 c22_8 := run_ret
def c22_6 : AC := .seq c22_7 c22_8
theorem n22_6 : SeqR Cx 22 c22_6 c22_7 c22_8 := run_seq
def c22_4 : AC := .seq c22_5 c22_6
theorem n22_4 : SeqR Cx 22 c22_4 c22_5 c22_6 := run_seq
def c22_2 : AC := .seq c22_3 c22_4
theorem n22_2 : SeqR Cx 22 c22_2 c22_3 c22_4 := run_seq
def c22_0 : AC := .seq c22_1 c22_2
theorem n22_0 : SeqR Cx 22 c22_0 c22_1 c22_2 := run_seq
theorem body22 : bodyOf Cx 22 = some c22_0 := by kernel_rfl
theorem res22 : resOf Cx 22 = some [.tmp 2] := by kernel_rfl
theorem pure22 : Cx.pure 22 = true := by kernel_rfl
def o23_1 : List AO := [oA 4 (.assign (.const (.bool false))) 4]
def c23_1 : AC := .region o23_1 []
theorem n23_1 : RegR Cx 23 c23_1 o23_1 := run_region
def o23_3 : List AO := [oA 5 (.move (tm 0)) 22,
  oA 6 (.move (tm 1)) 50,
  oA 7 (cF 34 #[(tm 5), (tm 6)] #[22, 50]) 3,
  oA 8 (.binOp .geq 3 (tm 7) (ci 0) 3) 4,
  oA 4 (.assign (tm 8)) 4]
def c23_3 : AC := .region o23_3 []
theorem n23_3 : RegR Cx 23 c23_3 o23_3 := run_region
def c23_4 : AC := .ret
theorem n23_4 : RetR Cx 23 c23_4 := run_ret
def c23_2 : AC := .seq c23_3 c23_4
theorem n23_2 : SeqR Cx 23 c23_2 c23_3 c23_4 := run_seq
def c23_0 : AC := .seq c23_1 c23_2
theorem n23_0 : SeqR Cx 23 c23_0 c23_1 c23_2 := run_seq
theorem body23 : bodyOf Cx 23 = some c23_0 := by kernel_rfl
theorem res23 : resOf Cx 23 = some [.tmp 4] := by kernel_rfl
theorem pure23 : Cx.pure 23 = false := by kernel_rfl
def o24_1 : List AO := [oA 1 (.box 42 (tm 0)) 0,
  oA 2 (.assign (.const (.bool false))) 4]
def c24_1 : AC := .region o24_1 []
theorem n24_1 : RegR Cx 24 c24_1 o24_1 := run_region
def o24_3 : List AO := [oA 3 (.fieldAddr 42 (tm 1) 0) 0,
  oA 4 (.load 9 (tm 3)) 9,
  oA 5 (cB .len #[(tm 4)] #[9]) 3,
  oA 6 (.binOp .gtr 3 (tm 5) (ci 64) 3) 4,
  oA 7 (.move (tm 6)) 4,
  oG 8 (.fieldAddr 42 (tm 1) 1) 0 7 false,
  oG 9 (.load 40 (tm 8)) 40 7 false,
  oG 10 (cF 25 #[(tm 9)] #[40]) 4 7 false,
  oG 11 (.unOp .not 4 (tm 10)) 4 7 false,
  oA 12 (.pick (tm 7) (.const (.bool true)) (tm 11)) 4,
  oA 2 (.assign (tm 12)) 4]
def c24_3 : AC := .region o24_3 []
theorem n24_3 : RegR Cx 24 c24_3 o24_3 := run_region
def c24_4 : AC := .ret
theorem n24_4 : RetR Cx 24 c24_4 := run_ret
def c24_2 : AC := .seq c24_3 c24_4
theorem n24_2 : SeqR Cx 24 c24_2 c24_3 c24_4 := run_seq
def c24_0 : AC := .seq c24_1 c24_2
theorem n24_0 : SeqR Cx 24 c24_0 c24_1 c24_2 := run_seq
theorem body24 : bodyOf Cx 24 = some c24_0 := by kernel_rfl
theorem res24 : resOf Cx 24 = some [.tmp 2] := by kernel_rfl
theorem pure24 : Cx.pure 24 = true := by kernel_rfl
def o25_1 : List AO := [oA 1 (.box 40 (tm 0)) 0,
  oA 2 (.assign (.const (.bool false))) 4]
def c25_1 : AC := .region o25_1 []
theorem n25_1 : RegR Cx 25 c25_1 o25_1 := run_region
def o25_3 : List AO := [oA 6 (.fieldAddr 40 (tm 1) 1) 0,
  oA 7 (.load 3 (tm 6)) 3,
  oA 8 (.binOp .neq 3 (tm 7) (ci 0) 3) 4,
  oA 9 (.fieldAddr 40 (tm 1) 2) 0,
  oA 10 (.load 9 (tm 9)) 9,
  oA 11 (.binOp .neq 9 (tm 10) (.const (.string ⟨#[]⟩)) 9) 4,
  oA 12 (.fieldAddr 40 (tm 1) 3) 0,
  oA 13 (.load 38 (tm 12)) 38,
  oA 14 (.build 38 #[]) 38,
  oA 15 (.binOp .neq 38 (tm 13) (tm 14) 38) 4,
  oA 3 (.assign (tm 8)) 4,
  oA 4 (.assign (tm 11)) 4,
  oA 5 (.assign (tm 15)) 4]
def c25_3 : AC := .region o25_3 []
theorem n25_3 : RegR Cx 25 c25_3 o25_3 := run_region
def o25_6 : List AO := [oA 16 (.fieldAddr 40 (tm 1) 0) 0,
  oA 17 (.load 3 (tm 16)) 3]
def c25_6 : AC := .region o25_6 []
theorem n25_6 : RegR Cx 25 c25_6 o25_6 := run_region
def o25_9 : List AO := [oA 19 (.binOp .eql 3 (tm 17) (ci 0) 3) 4,
  oA 18 (.assign (tm 19)) 4]
def c25_9 : AC := .region o25_9 []
theorem n25_9 : RegR Cx 25 c25_9 o25_9 := run_region
def o25_12 : List AO := [oA 20 (.fieldAddr 40 (tm 1) 1) 0,
  oA 21 (.load 3 (tm 20)) 3,
  oA 22 (.binOp .geq 3 (tm 21) (ci (-9007199254740992)) 3) 4,
  oA 23 (.move (tm 22)) 4,
  oG 24 (.fieldAddr 40 (tm 1) 1) 0 23 true,
  oG 25 (.load 3 (tm 24)) 3 23 true,
  oG 26 (.binOp .leq 3 (tm 25) (ci 9007199254740992) 3) 4 23 true,
  oA 27 (.pick (tm 23) (tm 26) (.const (.bool false))) 4,
  oA 28 (.move (tm 27)) 4,
  oG 29 (.move (tm 4)) 4 28 true,
  oG 30 (.unOp .not 4 (tm 29)) 4 28 true,
  oA 31 (.pick (tm 28) (tm 30) (.const (.bool false))) 4,
  oA 32 (.move (tm 31)) 4,
  oG 33 (.move (tm 5)) 4 32 true,
  oG 34 (.unOp .not 4 (tm 33)) 4 32 true,
  oA 35 (.pick (tm 32) (tm 34) (.const (.bool false))) 4,
  oA 2 (.assign (tm 35)) 4]
def c25_12 : AC := .region o25_12 []
theorem n25_12 : RegR Cx 25 c25_12 o25_12 := run_region
def c25_13 : AC := .ret
theorem n25_13 : RetR Cx 25 c25_13 := run_ret
def c25_11 : AC := .seq c25_12 c25_13
theorem n25_11 : SeqR Cx 25 c25_11 c25_12 c25_13 := run_seq
def o25_15 : List AO := [oA 37 (.binOp .eql 3 (tm 17) (ci 1) 3) 4,
  oA 36 (.assign (tm 37)) 4]
def c25_15 : AC := .region o25_15 []
theorem n25_15 : RegR Cx 25 c25_15 o25_15 := run_region
def o25_18 : List AO := [oA 38 (.fieldAddr 40 (tm 1) 2) 0,
  oA 39 (.load 9 (tm 38)) 9,
  oA 40 (cB .len #[(tm 39)] #[9]) 3,
  oA 41 (.binOp .leq 3 (tm 40) (ci 4096) 3) 4,
  oA 42 (.move (tm 41)) 4,
  oG 43 (.move (tm 3)) 4 42 true,
  oG 44 (.unOp .not 4 (tm 43)) 4 42 true,
  oA 45 (.pick (tm 42) (tm 44) (.const (.bool false))) 4,
  oA 46 (.move (tm 45)) 4,
  oG 47 (.move (tm 5)) 4 46 true,
  oG 48 (.unOp .not 4 (tm 47)) 4 46 true,
  oA 49 (.pick (tm 46) (tm 48) (.const (.bool false))) 4,
  oA 2 (.assign (tm 49)) 4]
def c25_18 : AC := .region o25_18 []
theorem n25_18 : RegR Cx 25 c25_18 o25_18 := run_region
def c25_19 : AC := .ret
theorem n25_19 : RetR Cx 25 c25_19 := run_ret
def c25_17 : AC := .seq c25_18 c25_19
theorem n25_17 : SeqR Cx 25 c25_17 c25_18 c25_19 := run_seq
def o25_21 : List AO := [oA 51 (.binOp .eql 3 (tm 17) (ci 2) 3) 4,
  oA 50 (.assign (tm 51)) 4]
def c25_21 : AC := .region o25_21 []
theorem n25_21 : RegR Cx 25 c25_21 o25_21 := run_region
def o25_24 : List AO := [oA 52 (.fieldAddr 40 (tm 1) 3) 0,
  oA 53 (.load 38 (tm 52)) 38,
  oA 54 (cF 35 #[(tm 53)] #[38]) 4,
  oA 55 (.move (tm 54)) 4,
  oG 56 (.move (tm 3)) 4 55 true,
  oG 57 (.unOp .not 4 (tm 56)) 4 55 true,
  oA 58 (.pick (tm 55) (tm 57) (.const (.bool false))) 4,
  oA 59 (.move (tm 58)) 4,
  oG 60 (.move (tm 4)) 4 59 true,
  oG 61 (.unOp .not 4 (tm 60)) 4 59 true,
  oA 62 (.pick (tm 59) (tm 61) (.const (.bool false))) 4,
  oA 2 (.assign (tm 62)) 4]
def c25_24 : AC := .region o25_24 []
theorem n25_24 : RegR Cx 25 c25_24 o25_24 := run_region
def c25_25 : AC := .ret
theorem n25_25 : RetR Cx 25 c25_25 := run_ret
def c25_23 : AC := .seq c25_24 c25_25
theorem n25_23 : SeqR Cx 25 c25_23 c25_24 c25_25 := run_seq
def c25_26 : AC := .skip
theorem n25_26 : SkipR Cx 25 c25_26 := run_skip
def c25_22 : AC := .cond (tm 50) c25_23 c25_26
theorem n25_22 : CondR Cx 25 c25_22 (tm 50) c25_23 c25_26 := run_condC
def c25_20 : AC := .seq c25_21 c25_22
theorem n25_20 : SeqR Cx 25 c25_20 c25_21 c25_22 := run_seq
def c25_16 : AC := .cond (tm 36) c25_17 c25_20
theorem n25_16 : CondR Cx 25 c25_16 (tm 36) c25_17 c25_20 := run_condC
def c25_14 : AC := .seq c25_15 c25_16
theorem n25_14 : SeqR Cx 25 c25_14 c25_15 c25_16 := run_seq
def c25_10 : AC := .cond (tm 18) c25_11 c25_14
theorem n25_10 : CondR Cx 25 c25_10 (tm 18) c25_11 c25_14 := run_condC
def c25_8 : AC := .seq c25_9 c25_10
theorem n25_8 : SeqR Cx 25 c25_8 c25_9 c25_10 := run_seq
def c25_7 : AC := .block 0 c25_8
theorem n25_7 : BlkR Cx 25 c25_7 0 c25_8 := run_block
def c25_5 : AC := .seq c25_6 c25_7
theorem n25_5 : SeqR Cx 25 c25_5 c25_6 c25_7 := run_seq
def o25_28 : List AO := [oA 2 (.assign (.const (.bool false))) 4]
def c25_28 : AC := .region o25_28 []
theorem n25_28 : RegR Cx 25 c25_28 o25_28 := run_region
def c25_29 : AC := .ret
theorem n25_29 : RetR Cx 25 c25_29 := run_ret
def c25_27 : AC := .seq c25_28 c25_29
theorem n25_27 : SeqR Cx 25 c25_27 c25_28 c25_29 := run_seq
def c25_4 : AC := .seq c25_5 c25_27
theorem n25_4 : SeqR Cx 25 c25_4 c25_5 c25_27 := run_seq
def c25_2 : AC := .seq c25_3 c25_4
theorem n25_2 : SeqR Cx 25 c25_2 c25_3 c25_4 := run_seq
def c25_0 : AC := .seq c25_1 c25_2
theorem n25_0 : SeqR Cx 25 c25_0 c25_1 c25_2 := run_seq
theorem body25 : bodyOf Cx 25 = some c25_0 := by kernel_rfl
theorem res25 : resOf Cx 25 = some [.tmp 2] := by kernel_rfl
theorem pure25 : Cx.pure 25 = true := by kernel_rfl
def o26_1 : List AO := [oA 2 (.assign (.const (.slice none 0 0))) 22]
def c26_1 : AC := .region o26_1 []
theorem n26_1 : RegR Cx 26 c26_1 o26_1 := run_region
def o26_4 : List AO := [oA 3 (.move (tm 0)) 22,
  oA 4 (.binOp .eql 22 (tm 3) (.const (.slice none 0 0)) 22) 4]
def c26_4 : AC := .region o26_4 []
theorem n26_4 : RegR Cx 26 c26_4 o26_4 := run_region
def o26_7 : List AO := [oA 2 (.assign (.const (.slice none 0 0))) 22]
def c26_7 : AC := .region o26_7 []
theorem n26_7 : RegR Cx 26 c26_7 o26_7 := run_region
def c26_8 : AC := .ret
theorem n26_8 : RetR Cx 26 c26_8 := run_ret
def c26_6 : AC := .seq c26_7 c26_8
theorem n26_6 : SeqR Cx 26 c26_6 c26_7 c26_8 := run_seq
def c26_9 : AC := .skip
theorem n26_9 : SkipR Cx 26 c26_9 := run_skip
def c26_5 : AC := .cond (tm 4) c26_6 c26_9
theorem n26_5 : CondR Cx 26 c26_5 (tm 4) c26_6 c26_9 := run_condC
def c26_3 : AC := .seq c26_4 c26_5
theorem n26_3 : SeqR Cx 26 c26_3 c26_4 c26_5 := run_seq
def o26_11 : List AO := [oA 5 (.buildSlice 22 0 #[]) 22,
  oA 6 (.move (tm 0)) 22,
  oA 7 (cB .append #[(tm 5), (tm 6)] #[22, 22]) 22,
  oA 2 (.assign (tm 7)) 22]
def c26_11 : AC := .region o26_11 []
theorem n26_11 : RegR Cx 26 c26_11 o26_11 := run_region
def c26_12 : AC := .ret
theorem n26_12 : RetR Cx 26 c26_12 := run_ret
def c26_10 : AC := .seq c26_11 c26_12
theorem n26_10 : SeqR Cx 26 c26_10 c26_11 c26_12 := run_seq
def c26_2 : AC := .seq c26_3 c26_10
theorem n26_2 : SeqR Cx 26 c26_2 c26_3 c26_10 := run_seq
def c26_0 : AC := .seq c26_1 c26_2
theorem n26_0 : SeqR Cx 26 c26_0 c26_1 c26_2 := run_seq
theorem body26 : bodyOf Cx 26 = some c26_0 := by kernel_rfl
theorem res26 : resOf Cx 26 = some [.tmp 2] := by kernel_rfl
theorem pure26 : Cx.pure 26 = false := by kernel_rfl
def o27_1 : List AO := [oA 4 (.assign (.const (.bool false))) 4]
def c27_1 : AC := .region o27_1 []
theorem n27_1 : RegR Cx 27 c27_1 o27_1 := run_region
def o27_4 : List AO := [oA 6 (.move (tm 0)) 22,
  oA 7 (cB .len #[(tm 6)] #[22]) 3,
  oA 8 (.binOp .sub 3 (tm 7) (ci 1) 3) 3,
  oA 5 (.assign (tm 8)) 3]
def c27_4 : AC := .region o27_4 []
theorem n27_4 : RegR Cx 27 c27_4 o27_4 := run_region
def o27_9 : List AO := [oA 9 (.move (tm 5)) 3,
  oA 10 (.binOp .gtr 3 (tm 9) (ci 0) 3) 4]
def c27_9 : AC := .region o27_9 []
theorem n27_9 : RegR Cx 27 c27_9 o27_9 := run_region
def c27_11 : AC := .skip
theorem n27_11 : SkipR Cx 27 c27_11 := run_skip
def c27_12 : AC := .exit 0
theorem n27_12 : ExitR Cx 27 c27_12 0 := run_exit_start
def c27_10 : AC := .cond (tm 10) c27_11 c27_12
theorem n27_10 : CondR Cx 27 c27_10 (tm 10) c27_11 c27_12 := run_condC
def c27_8 : AC := .seq c27_9 c27_10
theorem n27_8 : SeqR Cx 27 c27_8 c27_9 c27_10 := run_seq
def o27_16 : List AO := [oA 13 (.move (tm 1)) 59,
  oA 14 (.move (tm 0)) 22,
  oA 15 (.move (tm 5)) 3,
  oA 16 (.indexAddr 22 (tm 14) (tm 15)) 0,
  oA 17 (.load 42 (tm 16)) 42,
  oA 18 (.move (tm 0)) 22,
  oA 19 (.move (tm 5)) 3,
  oA 20 (.binOp .sub 3 (tm 19) (ci 1) 3) 3,
  oA 21 (.indexAddr 22 (tm 18) (tm 20)) 0,
  oA 22 (.load 42 (tm 21)) 42,
  oA 23 (cV 13 #[(tm 17), (tm 22)] #[42, 42]) 3,
  oA 24 (.binOp .lss 3 (tm 23) (ci 0) 3) 4]
def c27_16 : AC := .region o27_16 []
theorem n27_16 : RegR Cx 27 c27_16 o27_16 := run_region
def o27_19 : List AO := [oA 4 (.assign (.const (.bool false))) 4]
def c27_19 : AC := .region o27_19 []
theorem n27_19 : RegR Cx 27 c27_19 o27_19 := run_region
def c27_20 : AC := .ret
theorem n27_20 : RetR Cx 27 c27_20 := run_ret
def c27_18 : AC := .seq c27_19 c27_20
theorem n27_18 : SeqR Cx 27 c27_18 c27_19 c27_20 := run_seq
def c27_21 : AC := .skip
theorem n27_21 : SkipR Cx 27 c27_21 := run_skip
def c27_17 : AC := .cond (tm 24) c27_18 c27_21
theorem n27_17 : CondR Cx 27 c27_17 (tm 24) c27_18 c27_21 := run_condC
def c27_15 : AC := .seq c27_16 c27_17
theorem n27_15 : SeqR Cx 27 c27_15 c27_16 c27_17 := run_seq
def c27_14 : AC := .block 1 c27_15
theorem n27_14 : BlkR Cx 27 c27_14 1 c27_15 := run_block
def o27_22 : List AO := [oA 11 (.move (tm 5)) 3,
  oA 12 (.binOp .sub 3 (tm 11) (ci 1) 3) 3,
  oA 5 (.assign (tm 12)) 3]
def c27_22 : AC := .region o27_22 []
theorem n27_22 : RegR Cx 27 c27_22 o27_22 := run_region
def c27_13 : AC := .seq c27_14 c27_22
theorem n27_13 : SeqR Cx 27 c27_13 c27_14 c27_22 := run_seq
def c27_7 : AC := .seq c27_8 c27_13
theorem n27_7 : SeqR Cx 27 c27_7 c27_8 c27_13 := run_seq
def c27_6 : AC := .loop c27_7
theorem n27_6 : LoopR Cx 27 c27_6 c27_7 := run_loop'
def c27_5 : AC := .block 0 c27_6
theorem n27_5 : BlkR Cx 27 c27_5 0 c27_6 := run_block
def c27_3 : AC := .seq c27_4 c27_5
theorem n27_3 : SeqR Cx 27 c27_3 c27_4 c27_5 := run_seq
def o27_24 : List AO := [oA 4 (.assign (.const (.bool true))) 4]
def c27_24 : AC := .region o27_24 []
theorem n27_24 : RegR Cx 27 c27_24 o27_24 := run_region
def c27_25 : AC := .ret
theorem n27_25 : RetR Cx 27 c27_25 := run_ret
def c27_23 : AC := .seq c27_24 c27_25
theorem n27_23 : SeqR Cx 27 c27_23 c27_24 c27_25 := run_seq
def c27_2 : AC := .seq c27_3 c27_23
theorem n27_2 : SeqR Cx 27 c27_2 c27_3 c27_23 := run_seq
def c27_0 : AC := .seq c27_1 c27_2
theorem n27_0 : SeqR Cx 27 c27_0 c27_1 c27_2 := run_seq
theorem body27 : bodyOf Cx 27 = some c27_0 := by kernel_rfl
theorem res27 : resOf Cx 27 = some [.tmp 4] := by kernel_rfl
theorem pure27 : Cx.pure 27 = false := by kernel_rfl
def o28_1 : List AO := [oA 2 (.box 42 (tm 0)) 0,
  oA 3 (.box 42 (tm 1)) 0,
  oA 4 (.assign (ci 0)) 3]
def c28_1 : AC := .region o28_1 []
theorem n28_1 : RegR Cx 28 c28_1 o28_1 := run_region
def o28_3 : List AO := [oA 5 (.fieldAddr 42 (tm 2) 0) 0,
  oA 6 (.load 9 (tm 5)) 9,
  oA 7 (.fieldAddr 42 (tm 3) 0) 0,
  oA 8 (.load 9 (tm 7)) 9,
  oA 9 (cF 36 #[(tm 6), (tm 8)] #[9, 9]) 3,
  oA 4 (.assign (tm 9)) 3]
def c28_3 : AC := .region o28_3 []
theorem n28_3 : RegR Cx 28 c28_3 o28_3 := run_region
def c28_4 : AC := .ret
theorem n28_4 : RetR Cx 28 c28_4 := run_ret
def c28_2 : AC := .seq c28_3 c28_4
theorem n28_2 : SeqR Cx 28 c28_2 c28_3 c28_4 := run_seq
def c28_0 : AC := .seq c28_1 c28_2
theorem n28_0 : SeqR Cx 28 c28_0 c28_1 c28_2 := run_seq
theorem body28 : bodyOf Cx 28 = some c28_0 := by kernel_rfl
theorem res28 : resOf Cx 28 = some [.tmp 4] := by kernel_rfl
theorem pure28 : Cx.pure 28 = true := by kernel_rfl
def o29_1 : List AO := [oA 1 (.box 40 (tm 0)) 0,
  oA 2 (.assign (.const (.bool false))) 4]
def c29_1 : AC := .region o29_1 []
theorem n29_1 : RegR Cx 29 c29_1 o29_1 := run_region
def o29_4 : List AO := [oA 3 (.fieldAddr 40 (tm 1) 0) 0,
  oA 4 (.load 3 (tm 3)) 3]
def c29_4 : AC := .region o29_4 []
theorem n29_4 : RegR Cx 29 c29_4 o29_4 := run_region
def o29_7 : List AO := [oA 6 (.binOp .eql 3 (tm 4) (ci 0) 3) 4,
  oA 5 (.assign (tm 6)) 4]
def c29_7 : AC := .region o29_7 []
theorem n29_7 : RegR Cx 29 c29_7 o29_7 := run_region
def o29_10 : List AO := [oA 7 (.fieldAddr 40 (tm 1) 1) 0,
  oA 8 (.load 3 (tm 7)) 3,
  oA 9 (.binOp .geq 3 (tm 8) (ci (-9007199254740992)) 3) 4,
  oA 10 (.move (tm 9)) 4,
  oG 11 (.fieldAddr 40 (tm 1) 1) 0 10 true,
  oG 12 (.load 3 (tm 11)) 3 10 true,
  oG 13 (.binOp .leq 3 (tm 12) (ci 9007199254740992) 3) 4 10 true,
  oA 14 (.pick (tm 10) (tm 13) (.const (.bool false))) 4,
  oA 15 (.move (tm 14)) 4,
  oG 16 (.fieldAddr 40 (tm 1) 2) 0 15 true,
  oG 17 (.load 9 (tm 16)) 9 15 true,
  oG 18 (.binOp .eql 9 (tm 17) (.const (.string ⟨#[]⟩)) 9) 4 15 true,
  oA 19 (.pick (tm 15) (tm 18) (.const (.bool false))) 4,
  oA 20 (.move (tm 19)) 4,
  oG 21 (.fieldAddr 40 (tm 1) 3) 0 20 true,
  oG 22 (.load 38 (tm 21)) 38 20 true,
  oG 23 (.build 38 #[]) 38 20 true,
  oG 24 (.binOp .eql 38 (tm 22) (tm 23) 38) 4 20 true,
  oA 25 (.pick (tm 20) (tm 24) (.const (.bool false))) 4,
  oA 2 (.assign (tm 25)) 4]
def c29_10 : AC := .region o29_10 []
theorem n29_10 : RegR Cx 29 c29_10 o29_10 := run_region
def c29_11 : AC := .ret
theorem n29_11 : RetR Cx 29 c29_11 := run_ret
def c29_9 : AC := .seq c29_10 c29_11
theorem n29_9 : SeqR Cx 29 c29_9 c29_10 c29_11 := run_seq
def o29_13 : List AO := [oA 27 (.binOp .eql 3 (tm 4) (ci 1) 3) 4,
  oA 26 (.assign (tm 27)) 4]
def c29_13 : AC := .region o29_13 []
theorem n29_13 : RegR Cx 29 c29_13 o29_13 := run_region
def o29_16 : List AO := [oA 28 (.fieldAddr 40 (tm 1) 2) 0,
  oA 29 (.load 9 (tm 28)) 9,
  oA 30 (cB .len #[(tm 29)] #[9]) 3,
  oA 31 (.binOp .leq 3 (tm 30) (ci 4096) 3) 4,
  oA 32 (.move (tm 31)) 4,
  oG 33 (.fieldAddr 40 (tm 1) 1) 0 32 true,
  oG 34 (.load 3 (tm 33)) 3 32 true,
  oG 35 (.binOp .eql 3 (tm 34) (ci 0) 3) 4 32 true,
  oA 36 (.pick (tm 32) (tm 35) (.const (.bool false))) 4,
  oA 37 (.move (tm 36)) 4,
  oG 38 (.fieldAddr 40 (tm 1) 3) 0 37 true,
  oG 39 (.load 38 (tm 38)) 38 37 true,
  oG 40 (.build 38 #[]) 38 37 true,
  oG 41 (.binOp .eql 38 (tm 39) (tm 40) 38) 4 37 true,
  oA 42 (.pick (tm 37) (tm 41) (.const (.bool false))) 4,
  oA 2 (.assign (tm 42)) 4]
def c29_16 : AC := .region o29_16 []
theorem n29_16 : RegR Cx 29 c29_16 o29_16 := run_region
def c29_17 : AC := .ret
theorem n29_17 : RetR Cx 29 c29_17 := run_ret
def c29_15 : AC := .seq c29_16 c29_17
theorem n29_15 : SeqR Cx 29 c29_15 c29_16 c29_17 := run_seq
def o29_19 : List AO := [oA 44 (.binOp .eql 3 (tm 4) (ci 2) 3) 4,
  oA 43 (.assign (tm 44)) 4]
def c29_19 : AC := .region o29_19 []
theorem n29_19 : RegR Cx 29 c29_19 o29_19 := run_region
def o29_22 : List AO := [oA 45 (.fieldAddr 40 (tm 1) 3) 0,
  oA 46 (.load 38 (tm 45)) 38,
  oA 47 (cF 37 #[(tm 46)] #[38]) 4,
  oA 48 (.move (tm 47)) 4,
  oG 49 (.fieldAddr 40 (tm 1) 1) 0 48 true,
  oG 50 (.load 3 (tm 49)) 3 48 true,
  oG 51 (.binOp .eql 3 (tm 50) (ci 0) 3) 4 48 true,
  oA 52 (.pick (tm 48) (tm 51) (.const (.bool false))) 4,
  oA 53 (.move (tm 52)) 4,
  oG 54 (.fieldAddr 40 (tm 1) 2) 0 53 true,
  oG 55 (.load 9 (tm 54)) 9 53 true,
  oG 56 (.binOp .eql 9 (tm 55) (.const (.string ⟨#[]⟩)) 9) 4 53 true,
  oA 57 (.pick (tm 53) (tm 56) (.const (.bool false))) 4,
  oA 2 (.assign (tm 57)) 4]
def c29_22 : AC := .region o29_22 []
theorem n29_22 : RegR Cx 29 c29_22 o29_22 := run_region
def c29_23 : AC := .ret
theorem n29_23 : RetR Cx 29 c29_23 := run_ret
def c29_21 : AC := .seq c29_22 c29_23
theorem n29_21 : SeqR Cx 29 c29_21 c29_22 c29_23 := run_seq
def c29_24 : AC := .skip
theorem n29_24 : SkipR Cx 29 c29_24 := run_skip
def c29_20 : AC := .cond (tm 43) c29_21 c29_24
theorem n29_20 : CondR Cx 29 c29_20 (tm 43) c29_21 c29_24 := run_condC
def c29_18 : AC := .seq c29_19 c29_20
theorem n29_18 : SeqR Cx 29 c29_18 c29_19 c29_20 := run_seq
def c29_14 : AC := .cond (tm 26) c29_15 c29_18
theorem n29_14 : CondR Cx 29 c29_14 (tm 26) c29_15 c29_18 := run_condC
def c29_12 : AC := .seq c29_13 c29_14
theorem n29_12 : SeqR Cx 29 c29_12 c29_13 c29_14 := run_seq
def c29_8 : AC := .cond (tm 5) c29_9 c29_12
theorem n29_8 : CondR Cx 29 c29_8 (tm 5) c29_9 c29_12 := run_condC
def c29_6 : AC := .seq c29_7 c29_8
theorem n29_6 : SeqR Cx 29 c29_6 c29_7 c29_8 := run_seq
def c29_5 : AC := .block 0 c29_6
theorem n29_5 : BlkR Cx 29 c29_5 0 c29_6 := run_block
def c29_3 : AC := .seq c29_4 c29_5
theorem n29_3 : SeqR Cx 29 c29_3 c29_4 c29_5 := run_seq
def o29_26 : List AO := [oA 2 (.assign (.const (.bool false))) 4]
def c29_26 : AC := .region o29_26 []
theorem n29_26 : RegR Cx 29 c29_26 o29_26 := run_region
def c29_27 : AC := .ret
theorem n29_27 : RetR Cx 29 c29_27 := run_ret
def c29_25 : AC := .seq c29_26 c29_27
theorem n29_25 : SeqR Cx 29 c29_25 c29_26 c29_27 := run_seq
def c29_2 : AC := .seq c29_3 c29_25
theorem n29_2 : SeqR Cx 29 c29_2 c29_3 c29_25 := run_seq
def c29_0 : AC := .seq c29_1 c29_2
theorem n29_0 : SeqR Cx 29 c29_0 c29_1 c29_2 := run_seq
theorem body29 : bodyOf Cx 29 = some c29_0 := by kernel_rfl
theorem res29 : resOf Cx 29 = some [.tmp 2] := by kernel_rfl
theorem pure29 : Cx.pure 29 = true := by kernel_rfl
def o30_1 : List AO := [oA 1 (.box 29 (tm 0)) 0,
  oA 2 (.assign (.const .nilFunc)) 47]
def c30_1 : AC := .region o30_1 []
theorem n30_1 : RegR Cx 30 c30_1 o30_1 := run_region
def o30_3 : List AO := [oA 3 (.makeFunc (.func 38) #[] #[(tm 1)]) 46,
  oA 2 (.assign (tm 3)) 47]
def c30_3 : AC := .region o30_3 []
theorem n30_3 : RegR Cx 30 c30_3 o30_3 := run_region
def c30_4 : AC := .ret
theorem n30_4 : RetR Cx 30 c30_4 := run_ret
def c30_2 : AC := .seq c30_3 c30_4
theorem n30_2 : SeqR Cx 30 c30_2 c30_3 c30_4 := run_seq
def c30_0 : AC := .seq c30_1 c30_2
theorem n30_0 : SeqR Cx 30 c30_0 c30_1 c30_2 := run_seq
theorem body30 : bodyOf Cx 30 = some c30_0 := by kernel_rfl
theorem res30 : resOf Cx 30 = some [.tmp 2] := by kernel_rfl
theorem pure30 : Cx.pure 30 = false := by kernel_rfl
def o31_1 : List AO := [oA 4 (.assign (.const (.bool false))) 4]
def c31_1 : AC := .region o31_1 []
theorem n31_1 : RegR Cx 31 c31_1 o31_1 := run_region
def o31_3 : List AO := [oA 5 (.move (tm 0)) 29,
  oA 6 (.move (tm 1)) 25,
  oA 7 (cF 42 #[(tm 5), (tm 6)] #[29, 25]) 3,
  oA 8 (.binOp .geq 3 (tm 7) (ci 0) 3) 4,
  oA 4 (.assign (tm 8)) 4]
def c31_3 : AC := .region o31_3 []
theorem n31_3 : RegR Cx 31 c31_3 o31_3 := run_region
def c31_4 : AC := .ret
theorem n31_4 : RetR Cx 31 c31_4 := run_ret
def c31_2 : AC := .seq c31_3 c31_4
theorem n31_2 : SeqR Cx 31 c31_2 c31_3 c31_4 := run_seq
def c31_0 : AC := .seq c31_1 c31_2
theorem n31_0 : SeqR Cx 31 c31_0 c31_1 c31_2 := run_seq
theorem body31 : bodyOf Cx 31 = some c31_0 := by kernel_rfl
theorem res31 : resOf Cx 31 = some [.tmp 4] := by kernel_rfl
theorem pure31 : Cx.pure 31 = false := by kernel_rfl
def o32_1 : List AO := [oA 2 (.assign (.const (.bool false))) 4]
def c32_1 : AC := .region o32_1 []
theorem n32_1 : RegR Cx 32 c32_1 o32_1 := run_region
def o32_3 : List AO := [oA 3 (.move (tm 0)) 22,
  oA 4 (cF 12 #[(tm 3)] #[22]) 4,
  oA 5 (.unOp .not 4 (tm 4)) 4,
  oA 2 (.assign (tm 5)) 4]
def c32_3 : AC := .region o32_3 []
theorem n32_3 : RegR Cx 32 c32_3 o32_3 := run_region
def c32_4 : AC := .ret
theorem n32_4 : RetR Cx 32 c32_4 := run_ret
def c32_2 : AC := .seq c32_3 c32_4
theorem n32_2 : SeqR Cx 32 c32_2 c32_3 c32_4 := run_seq
def c32_0 : AC := .seq c32_1 c32_2
theorem n32_0 : SeqR Cx 32 c32_0 c32_1 c32_2 := run_seq
theorem body32 : bodyOf Cx 32 = some c32_0 := by kernel_rfl
theorem res32 : resOf Cx 32 = some [.tmp 2] := by kernel_rfl
theorem pure32 : Cx.pure 32 = true := by kernel_rfl
def o33_0 : List AO := [oA 4 (.move (tm 0)) 22,
  oA 5 (.move (tm 0)) 22,
  oA 6 (cB .len #[(tm 5)] #[22]) 3,
  oA 7 (.move (tm 1)) 59,
  oA 8 (cF 43 #[(tm 4), (tm 6), (tm 7)] #[22, 3, 59]) 0]
def c33_0 : AC := .region o33_0 []
theorem n33_0 : RegR Cx 33 c33_0 o33_0 := run_region
theorem body33 : bodyOf Cx 33 = some c33_0 := by kernel_rfl
theorem res33 : resOf Cx 33 = some [] := by kernel_rfl
theorem pure33 : Cx.pure 33 = false := by kernel_rfl
def o34_1 : List AO := [oA 4 (.assign (ci 0)) 3]
def c34_1 : AC := .region o34_1 []
theorem n34_1 : RegR Cx 34 c34_1 o34_1 := run_region
def o34_4 : List AO := [oA 6 (.move (tm 0)) 22,
  oA 7 (cB .len #[(tm 6)] #[22]) 3,
  oA 8 (.move (ci 0)) 3]
def c34_4 : AC := .region o34_4 []
theorem n34_4 : RegR Cx 34 c34_4 o34_4 := run_region
def o34_8 : List AO := [oA 9 (.binOp .lss 3 (tm 8) (tm 7) 3) 0]
def c34_8 : AC := .region o34_8 []
theorem n34_8 : RegR Cx 34 c34_8 o34_8 := run_region
def c34_11 : AC := .skip
theorem n34_11 : SkipR Cx 34 c34_11 := run_skip
def c34_12 : AC := .exit 0
theorem n34_12 : ExitR Cx 34 c34_12 0 := run_exit_start
def c34_10 : AC := .cond (tm 9) c34_11 c34_12
theorem n34_10 : CondR Cx 34 c34_10 (tm 9) c34_11 c34_12 := run_condC
def o34_16 : List AO := [oA 10 (.move (tm 8)) 3,
  oA 5 (.assign (tm 10)) 3]
def c34_16 : AC := .region o34_16 []
theorem n34_16 : RegR Cx 34 c34_16 o34_16 := run_region
def o34_18 : List AO := [oA 11 (.move (tm 1)) 50,
  oA 12 (.move (tm 0)) 22,
  oA 13 (.move (tm 5)) 3,
  oA 14 (.indexAddr 22 (tm 12) (tm 13)) 0,
  oA 15 (.load 42 (tm 14)) 42,
  oA 16 (cV 11 #[(tm 15)] #[42]) 4]
def c34_18 : AC := .region o34_18 []
theorem n34_18 : RegR Cx 34 c34_18 o34_18 := run_region
def o34_21 : List AO := [oA 17 (.move (tm 5)) 3,
  oA 4 (.assign (tm 17)) 3]
def c34_21 : AC := .region o34_21 []
theorem n34_21 : RegR Cx 34 c34_21 o34_21 := run_region
def c34_22 : AC := .ret
theorem n34_22 : RetR Cx 34 c34_22 := run_ret
def c34_20 : AC := .seq c34_21 c34_22
theorem n34_20 : SeqR Cx 34 c34_20 c34_21 c34_22 := run_seq
def c34_23 : AC := .skip
theorem n34_23 : SkipR Cx 34 c34_23 := run_skip
def c34_19 : AC := .cond (tm 16) c34_20 c34_23
theorem n34_19 : CondR Cx 34 c34_19 (tm 16) c34_20 c34_23 := run_condC
def c34_17 : AC := .seq c34_18 c34_19
theorem n34_17 : SeqR Cx 34 c34_17 c34_18 c34_19 := run_seq
def c34_15 : AC := .seq c34_16 c34_17
theorem n34_15 : SeqR Cx 34 c34_15 c34_16 c34_17 := run_seq
def c34_14 : AC := .block 1 c34_15
theorem n34_14 : BlkR Cx 34 c34_14 1 c34_15 := run_block
def o34_24 : List AO := [oA 18 (.binOp .add 3 (tm 8) (ci 1) 3) 3,
  oA 8 (.move (tm 18)) 3]
def c34_24 : AC := .region o34_24 []
theorem n34_24 : RegR Cx 34 c34_24 o34_24 := run_region
def c34_13 : AC := .seq c34_14 c34_24
theorem n34_13 : SeqR Cx 34 c34_13 c34_14 c34_24 := run_seq
def c34_9 : AC := .seq c34_10 c34_13
theorem n34_9 : SeqR Cx 34 c34_9 c34_10 c34_13 := run_seq
def c34_7 : AC := .seq c34_8 c34_9
theorem n34_7 : SeqR Cx 34 c34_7 c34_8 c34_9 := run_seq
def c34_6 : AC := .loop c34_7
theorem n34_6 : LoopR Cx 34 c34_6 c34_7 := run_loop'
def c34_5 : AC := .block 0 c34_6
theorem n34_5 : BlkR Cx 34 c34_5 0 c34_6 := run_block
def c34_3 : AC := .seq c34_4 c34_5
theorem n34_3 : SeqR Cx 34 c34_3 c34_4 c34_5 := run_seq
def o34_26 : List AO := [oA 4 (.assign (ci (-1))) 3]
def c34_26 : AC := .region o34_26 []
theorem n34_26 : RegR Cx 34 c34_26 o34_26 := run_region
def c34_27 : AC := .ret
theorem n34_27 : RetR Cx 34 c34_27 := run_ret
def c34_25 : AC := .seq c34_26 c34_27
theorem n34_25 : SeqR Cx 34 c34_25 c34_26 c34_27 := run_seq
def c34_2 : AC := .seq c34_3 c34_25
theorem n34_2 : SeqR Cx 34 c34_2 c34_3 c34_25 := run_seq
def c34_0 : AC := .seq c34_1 c34_2
theorem n34_0 : SeqR Cx 34 c34_0 c34_1 c34_2 := run_seq
theorem body34 : bodyOf Cx 34 = some c34_0 := by kernel_rfl
theorem res34 : resOf Cx 34 = some [.tmp 4] := by kernel_rfl
theorem pure34 : Cx.pure 34 = false := by kernel_rfl
def o35_1 : List AO := [oA 1 (.box 38 (tm 0)) 0,
  oA 2 (.assign (.const (.bool false))) 4]
def c35_1 : AC := .region o35_1 []
theorem n35_1 : RegR Cx 35 c35_1 o35_1 := run_region
def o35_3 : List AO := [oA 3 (.fieldAddr 38 (tm 1) 0) 0,
  oA 4 (.load 3 (tm 3)) 3,
  oA 5 (cF 44 #[(tm 4)] #[3]) 4,
  oA 6 (.move (tm 5)) 4,
  oG 7 (.fieldAddr 38 (tm 1) 1) 0 6 true,
  oG 8 (.load 3 (tm 7)) 3 6 true,
  oG 9 (cF 44 #[(tm 8)] #[3]) 4 6 true,
  oA 10 (.pick (tm 6) (tm 9) (.const (.bool false))) 4,
  oA 2 (.assign (tm 10)) 4]
def c35_3 : AC := .region o35_3 []
theorem n35_3 : RegR Cx 35 c35_3 o35_3 := run_region
def c35_4 : AC := .ret
theorem n35_4 : RetR Cx 35 c35_4 := run_ret
def c35_2 : AC := .seq c35_3 c35_4
theorem n35_2 : SeqR Cx 35 c35_2 c35_3 c35_4 := run_seq
def c35_0 : AC := .seq c35_1 c35_2
theorem n35_0 : SeqR Cx 35 c35_0 c35_1 c35_2 := run_seq
theorem body35 : bodyOf Cx 35 = some c35_0 := by kernel_rfl
theorem res35 : resOf Cx 35 = some [.tmp 2] := by kernel_rfl
theorem pure35 : Cx.pure 35 = true := by kernel_rfl
def o36_1 : List AO := [oA 4 (.assign (ci 0)) 3]
def c36_1 : AC := .region o36_1 []
theorem n36_1 : RegR Cx 36 c36_1 o36_1 := run_region
def o36_3 : List AO := [oA 7 (.move (tm 0)) 9,
  oA 8 (cF 45 #[(tm 7)] #[9]) 4,
  oA 5 (.assign (tm 8)) 4]
def c36_3 : AC := .region o36_3 []
theorem n36_3 : RegR Cx 36 c36_3 o36_3 := run_region
def o36_5 : List AO := [oA 9 (.move (tm 1)) 9,
  oA 10 (cF 45 #[(tm 9)] #[9]) 4,
  oA 6 (.assign (tm 10)) 4]
def c36_5 : AC := .region o36_5 []
theorem n36_5 : RegR Cx 36 c36_5 o36_5 := run_region
def o36_8 : List AO := [oA 11 (.move (tm 5)) 4]
def c36_8 : AC := .region o36_8 []
theorem n36_8 : RegR Cx 36 c36_8 o36_8 := run_region
def o36_12 : List AO := [oA 12 (.move (tm 6)) 4]
def c36_12 : AC := .region o36_12 []
theorem n36_12 : RegR Cx 36 c36_12 o36_12 := run_region
def o36_15 : List AO := [oA 4 (.assign (ci 0)) 3]
def c36_15 : AC := .region o36_15 []
theorem n36_15 : RegR Cx 36 c36_15 o36_15 := run_region
def c36_16 : AC := .ret
theorem n36_16 : RetR Cx 36 c36_16 := run_ret
def c36_14 : AC := .seq c36_15 c36_16
theorem n36_14 : SeqR Cx 36 c36_14 c36_15 c36_16 := run_seq
def c36_17 : AC := .skip
theorem n36_17 : SkipR Cx 36 c36_17 := run_skip
def c36_13 : AC := .cond (tm 12) c36_14 c36_17
theorem n36_13 : CondR Cx 36 c36_13 (tm 12) c36_14 c36_17 := run_condC
def c36_11 : AC := .seq c36_12 c36_13
theorem n36_11 : SeqR Cx 36 c36_11 c36_12 c36_13 := run_seq
def o36_19 : List AO := [oA 4 (.assign (ci (-1))) 3]
def c36_19 : AC := .region o36_19 []
theorem n36_19 : RegR Cx 36 c36_19 o36_19 := run_region
def c36_20 : AC := .ret
theorem n36_20 : RetR Cx 36 c36_20 := run_ret
def c36_18 : AC := .seq c36_19 c36_20
theorem n36_18 : SeqR Cx 36 c36_18 c36_19 c36_20 := run_seq
def c36_10 : AC := .seq c36_11 c36_18
theorem n36_10 : SeqR Cx 36 c36_10 c36_11 c36_18 := run_seq
def c36_21 : AC := .skip
theorem n36_21 : SkipR Cx 36 c36_21 := run_skip
def c36_9 : AC := .cond (tm 11) c36_10 c36_21
theorem n36_9 : CondR Cx 36 c36_9 (tm 11) c36_10 c36_21 := run_condC
def c36_7 : AC := .seq c36_8 c36_9
theorem n36_7 : SeqR Cx 36 c36_7 c36_8 c36_9 := run_seq
def o36_24 : List AO := [oA 13 (.move (tm 6)) 4]
def c36_24 : AC := .region o36_24 []
theorem n36_24 : RegR Cx 36 c36_24 o36_24 := run_region
def o36_27 : List AO := [oA 4 (.assign (ci 1)) 3]
def c36_27 : AC := .region o36_27 []
theorem n36_27 : RegR Cx 36 c36_27 o36_27 := run_region
def c36_28 : AC := .ret
theorem n36_28 : RetR Cx 36 c36_28 := run_ret
def c36_26 : AC := .seq c36_27 c36_28
theorem n36_26 : SeqR Cx 36 c36_26 c36_27 c36_28 := run_seq
def c36_29 : AC := .skip
theorem n36_29 : SkipR Cx 36 c36_29 := run_skip
def c36_25 : AC := .cond (tm 13) c36_26 c36_29
theorem n36_25 : CondR Cx 36 c36_25 (tm 13) c36_26 c36_29 := run_condC
def c36_23 : AC := .seq c36_24 c36_25
theorem n36_23 : SeqR Cx 36 c36_23 c36_24 c36_25 := run_seq
def o36_32 : List AO := [oA 14 (.move (tm 0)) 9,
  oA 15 (.move (tm 1)) 9,
  oA 16 (.binOp .lss 9 (tm 14) (tm 15) 9) 4]
def c36_32 : AC := .region o36_32 []
theorem n36_32 : RegR Cx 36 c36_32 o36_32 := run_region
def o36_35 : List AO := [oA 4 (.assign (ci (-1))) 3]
def c36_35 : AC := .region o36_35 []
theorem n36_35 : RegR Cx 36 c36_35 o36_35 := run_region
def c36_36 : AC := .ret
theorem n36_36 : RetR Cx 36 c36_36 := run_ret
def c36_34 : AC := .seq c36_35 c36_36
theorem n36_34 : SeqR Cx 36 c36_34 c36_35 c36_36 := run_seq
def c36_37 : AC := .skip
theorem n36_37 : SkipR Cx 36 c36_37 := run_skip
def c36_33 : AC := .cond (tm 16) c36_34 c36_37
theorem n36_33 : CondR Cx 36 c36_33 (tm 16) c36_34 c36_37 := run_condC
def c36_31 : AC := .seq c36_32 c36_33
theorem n36_31 : SeqR Cx 36 c36_31 c36_32 c36_33 := run_seq
def o36_40 : List AO := [oA 17 (.move (tm 0)) 9,
  oA 18 (.move (tm 1)) 9,
  oA 19 (.binOp .gtr 9 (tm 17) (tm 18) 9) 4]
def c36_40 : AC := .region o36_40 []
theorem n36_40 : RegR Cx 36 c36_40 o36_40 := run_region
def o36_43 : List AO := [oA 4 (.assign (ci 1)) 3]
def c36_43 : AC := .region o36_43 []
theorem n36_43 : RegR Cx 36 c36_43 o36_43 := run_region
def c36_44 : AC := .ret
theorem n36_44 : RetR Cx 36 c36_44 := run_ret
def c36_42 : AC := .seq c36_43 c36_44
theorem n36_42 : SeqR Cx 36 c36_42 c36_43 c36_44 := run_seq
def c36_45 : AC := .skip
theorem n36_45 : SkipR Cx 36 c36_45 := run_skip
def c36_41 : AC := .cond (tm 19) c36_42 c36_45
theorem n36_41 : CondR Cx 36 c36_41 (tm 19) c36_42 c36_45 := run_condC
def c36_39 : AC := .seq c36_40 c36_41
theorem n36_39 : SeqR Cx 36 c36_39 c36_40 c36_41 := run_seq
def o36_47 : List AO := [oA 4 (.assign (ci 0)) 3]
def c36_47 : AC := .region o36_47 []
theorem n36_47 : RegR Cx 36 c36_47 o36_47 := run_region
def c36_48 : AC := .ret
theorem n36_48 : RetR Cx 36 c36_48 := run_ret
def c36_46 : AC := .seq c36_47 c36_48
theorem n36_46 : SeqR Cx 36 c36_46 c36_47 c36_48 := run_seq
def c36_38 : AC := .seq c36_39 c36_46
theorem n36_38 : SeqR Cx 36 c36_38 c36_39 c36_46 := run_seq
def c36_30 : AC := .seq c36_31 c36_38
theorem n36_30 : SeqR Cx 36 c36_30 c36_31 c36_38 := run_seq
def c36_22 : AC := .seq c36_23 c36_30
theorem n36_22 : SeqR Cx 36 c36_22 c36_23 c36_30 := run_seq
def c36_6 : AC := .seq c36_7 c36_22
theorem n36_6 : SeqR Cx 36 c36_6 c36_7 c36_22 := run_seq
def c36_4 : AC := .seq c36_5 c36_6
theorem n36_4 : SeqR Cx 36 c36_4 c36_5 c36_6 := run_seq
def c36_2 : AC := .seq c36_3 c36_4
theorem n36_2 : SeqR Cx 36 c36_2 c36_3 c36_4 := run_seq
def c36_0 : AC := .seq c36_1 c36_2
theorem n36_0 : SeqR Cx 36 c36_0 c36_1 c36_2 := run_seq
theorem body36 : bodyOf Cx 36 = some c36_0 := by kernel_rfl
theorem res36 : resOf Cx 36 = some [.tmp 4] := by kernel_rfl
theorem pure36 : Cx.pure 36 = true := by kernel_rfl
def o37_1 : List AO := [oA 1 (.box 38 (tm 0)) 0,
  oA 2 (.assign (.const (.bool false))) 4]
def c37_1 : AC := .region o37_1 []
theorem n37_1 : RegR Cx 37 c37_1 o37_1 := run_region
def o37_3 : List AO := [oA 3 (.fieldAddr 38 (tm 1) 0) 0,
  oA 4 (.load 3 (tm 3)) 3,
  oA 5 (.binOp .geq 3 (tm 4) (ci (-16777216)) 3) 4,
  oA 6 (.move (tm 5)) 4,
  oG 7 (.fieldAddr 38 (tm 1) 0) 0 6 true,
  oG 8 (.load 3 (tm 7)) 3 6 true,
  oG 9 (.binOp .leq 3 (tm 8) (ci 16777216) 3) 4 6 true,
  oA 10 (.pick (tm 6) (tm 9) (.const (.bool false))) 4,
  oA 11 (.move (tm 10)) 4,
  oG 12 (.fieldAddr 38 (tm 1) 1) 0 11 true,
  oG 13 (.load 3 (tm 12)) 3 11 true,
  oG 14 (.binOp .geq 3 (tm 13) (ci (-16777216)) 3) 4 11 true,
  oA 15 (.pick (tm 11) (tm 14) (.const (.bool false))) 4,
  oA 16 (.move (tm 15)) 4,
  oG 17 (.fieldAddr 38 (tm 1) 1) 0 16 true,
  oG 18 (.load 3 (tm 17)) 3 16 true,
  oG 19 (.binOp .leq 3 (tm 18) (ci 16777216) 3) 4 16 true,
  oA 20 (.pick (tm 16) (tm 19) (.const (.bool false))) 4,
  oA 2 (.assign (tm 20)) 4]
def c37_3 : AC := .region o37_3 []
theorem n37_3 : RegR Cx 37 c37_3 o37_3 := run_region
def c37_4 : AC := .ret
theorem n37_4 : RetR Cx 37 c37_4 := run_ret
def c37_2 : AC := .seq c37_3 c37_4
theorem n37_2 : SeqR Cx 37 c37_2 c37_3 c37_4 := run_seq
def c37_0 : AC := .seq c37_1 c37_2
theorem n37_0 : SeqR Cx 37 c37_0 c37_1 c37_2 := run_seq
theorem body37 : bodyOf Cx 37 = some c37_0 := by kernel_rfl
theorem res37 : resOf Cx 37 = some [.tmp 2] := by kernel_rfl
theorem pure37 : Cx.pure 37 = true := by kernel_rfl
def o38_1 : List AO := [oA 7 (.build 72 #[(1, (.func 39))]) 72,
  oA 8 (.box 72 (tm 7)) 66,
  oA 3 (.assign (tm 8)) 66]
def c38_1 : AC := .region o38_1 []
theorem n38_1 : RegR Cx 38 c38_1 o38_1 := run_region
def o38_4 : List AO := [oA 9 (.load 29 (tm 1)) 29,
  oA 10 (cB .len #[(tm 9)] #[29]) 3,
  oA 11 (.move (ci 0)) 3]
def c38_4 : AC := .region o38_4 []
theorem n38_4 : RegR Cx 38 c38_4 o38_4 := run_region
def o38_8 : List AO := [oA 12 (.binOp .lss 3 (tm 11) (tm 10) 3) 0]
def c38_8 : AC := .region o38_8 []
theorem n38_8 : RegR Cx 38 c38_8 o38_8 := run_region
def c38_11 : AC := .skip
theorem n38_11 : SkipR Cx 38 c38_11 := run_skip
def c38_12 : AC := .exit 0
theorem n38_12 : ExitR Cx 38 c38_12 0 := run_exit_start
def c38_10 : AC := .cond (tm 12) c38_11 c38_12
theorem n38_10 : CondR Cx 38 c38_10 (tm 12) c38_11 c38_12 := run_condC
def o38_16 : List AO := [oA 13 (.move (tm 11)) 3,
  oA 14 (.indexAddr 29 (tm 9) (tm 11)) 0,
  oA 15 (.load 22 (tm 14)) 22,
  oA 4 (.assign (tm 13)) 3,
  oA 5 (.assign (tm 15)) 22]
def c38_16 : AC := .region o38_16 []
theorem n38_16 : RegR Cx 38 c38_16 o38_16 := run_region
def o38_18 : List AO := [oA 16 (.move (tm 5)) 22,
  oA 17 (cB .len #[(tm 16)] #[22]) 3,
  oA 18 (.binOp .gtr 3 (tm 17) (ci 0) 3) 4]
def c38_18 : AC := .region o38_18 []
theorem n38_18 : RegR Cx 38 c38_18 o38_18 := run_region
def o38_20 : List AO := [oA 19 (.move (tm 3)) 66,
  oA 20 (.move (tm 5)) 22,
  oA 21 (.move (tm 4)) 3,
  oA 22 (.build 68 #[(0, (tm 20)), (1, (ci 0)), (2, (tm 21))]) 68,
  oA 23 (cF 40 #[(tm 19), (tm 22)] #[66, 68]) 0]
def c38_20 : AC := .region o38_20 []
theorem n38_20 : RegR Cx 38 c38_20 o38_20 := run_region
def c38_21 : AC := .skip
theorem n38_21 : SkipR Cx 38 c38_21 := run_skip
def c38_19 : AC := .cond (tm 18) c38_20 c38_21
theorem n38_19 : CondR Cx 38 c38_19 (tm 18) c38_20 c38_21 := run_condC
def c38_17 : AC := .seq c38_18 c38_19
theorem n38_17 : SeqR Cx 38 c38_17 c38_18 c38_19 := run_seq
def c38_15 : AC := .seq c38_16 c38_17
theorem n38_15 : SeqR Cx 38 c38_15 c38_16 c38_17 := run_seq
def c38_14 : AC := .block 1 c38_15
theorem n38_14 : BlkR Cx 38 c38_14 1 c38_15 := run_block
def o38_22 : List AO := [oA 24 (.binOp .add 3 (tm 11) (ci 1) 3) 3,
  oA 11 (.move (tm 24)) 3]
def c38_22 : AC := .region o38_22 []
theorem n38_22 : RegR Cx 38 c38_22 o38_22 := run_region
def c38_13 : AC := .seq c38_14 c38_22
theorem n38_13 : SeqR Cx 38 c38_13 c38_14 c38_22 := run_seq
def c38_9 : AC := .seq c38_10 c38_13
theorem n38_9 : SeqR Cx 38 c38_9 c38_10 c38_13 := run_seq
def c38_7 : AC := .seq c38_8 c38_9
theorem n38_7 : SeqR Cx 38 c38_7 c38_8 c38_9 := run_seq
def c38_6 : AC := .loop c38_7
theorem n38_6 : LoopR Cx 38 c38_6 c38_7 := run_loop'
def c38_5 : AC := .block 0 c38_6
theorem n38_5 : BlkR Cx 38 c38_5 0 c38_6 := run_block
def c38_3 : AC := .seq c38_4 c38_5
theorem n38_3 : SeqR Cx 38 c38_3 c38_4 c38_5 := run_seq
def o38_27 : List AO := [oA 25 (.move (tm 3)) 66,
  oA 26 (.nilCheck (tm 25)) 0,
  oA 27 (.fieldAddr 72 (tm 26) 0) 0,
  oA 28 (.load 70 (tm 27)) 70,
  oA 29 (cB .len #[(tm 28)] #[70]) 3,
  oA 30 (.binOp .gtr 3 (tm 29) (ci 0) 3) 4]
def c38_27 : AC := .region o38_27 []
theorem n38_27 : RegR Cx 38 c38_27 o38_27 := run_region
def c38_29 : AC := .skip
theorem n38_29 : SkipR Cx 38 c38_29 := run_skip
def c38_30 : AC := .exit 2
theorem n38_30 : ExitR Cx 38 c38_30 2 := run_exit_start
def c38_28 : AC := .cond (tm 30) c38_29 c38_30
theorem n38_28 : CondR Cx 38 c38_28 (tm 30) c38_29 c38_30 := run_condC
def c38_26 : AC := .seq c38_27 c38_28
theorem n38_26 : SeqR Cx 38 c38_26 c38_27 c38_28 := run_seq
def o38_33 : List AO := [oA 31 (.move (tm 3)) 66,
  oA 32 (cF 41 #[(tm 31)] #[66]) 68,
  oA 6 (.alloc 68) 0,
  oN (.store 68 (tm 6) (tm 32)) 0]
def c38_33 : AC := .region o38_33 []
theorem n38_33 : RegR Cx 38 c38_33 o38_33 := run_region
def o38_36 : List AO := [oA 33 (.move (tm 0)) 50,
  oA 34 (.fieldAddr 68 (tm 6) 0) 0,
  oA 35 (.load 22 (tm 34)) 22,
  oA 36 (.fieldAddr 68 (tm 6) 1) 0,
  oA 37 (.load 3 (tm 36)) 3,
  oA 38 (.indexAddr 22 (tm 35) (tm 37)) 0,
  oA 39 (.load 42 (tm 38)) 42,
  oA 40 (cV 33 #[(tm 39)] #[42]) 4,
  oA 41 (.unOp .not 4 (tm 40)) 4]
def c38_36 : AC := .region o38_36 []
theorem n38_36 : RegR Cx 38 c38_36 o38_36 := run_region
def c38_38 : AC := .ret
theorem n38_38 : RetR Cx 38 c38_38 := run_ret
def c38_39 : AC := .skip
theorem n38_39 : SkipR Cx 38 c38_39 := run_skip
def c38_37 : AC := .cond (tm 41) c38_38 c38_39
theorem n38_37 : CondR Cx 38 c38_37 (tm 41) c38_38 c38_39 := run_condC
def c38_35 : AC := .seq c38_36 c38_37
theorem n38_35 : SeqR Cx 38 c38_35 c38_36 c38_37 := run_seq
def o38_41 : List AO := [oA 42 (.fieldAddr 68 (tm 6) 1) 0,
  oA 43 (.load 3 (tm 42)) 3,
  oA 44 (.binOp .add 3 (tm 43) (ci 1) 3) 3,
  oA 45 (.fieldAddr 68 (tm 6) 1) 0,
  oN (.store 3 (tm 45) (tm 44)) 0]
def c38_41 : AC := .region o38_41 []
theorem n38_41 : RegR Cx 38 c38_41 o38_41 := run_region
def o38_43 : List AO := [oA 46 (.fieldAddr 68 (tm 6) 1) 0,
  oA 47 (.load 3 (tm 46)) 3,
  oA 48 (.fieldAddr 68 (tm 6) 0) 0,
  oA 49 (.load 22 (tm 48)) 22,
  oA 50 (cB .len #[(tm 49)] #[22]) 3,
  oA 51 (.binOp .lss 3 (tm 47) (tm 50) 3) 4]
def c38_43 : AC := .region o38_43 []
theorem n38_43 : RegR Cx 38 c38_43 o38_43 := run_region
def o38_45 : List AO := [oA 52 (.move (tm 3)) 66,
  oA 53 (.load 68 (tm 6)) 68,
  oA 54 (cF 40 #[(tm 52), (tm 53)] #[66, 68]) 0]
def c38_45 : AC := .region o38_45 []
theorem n38_45 : RegR Cx 38 c38_45 o38_45 := run_region
def c38_46 : AC := .skip
theorem n38_46 : SkipR Cx 38 c38_46 := run_skip
def c38_44 : AC := .cond (tm 51) c38_45 c38_46
theorem n38_44 : CondR Cx 38 c38_44 (tm 51) c38_45 c38_46 := run_condC
def c38_42 : AC := .seq c38_43 c38_44
theorem n38_42 : SeqR Cx 38 c38_42 c38_43 c38_44 := run_seq
def c38_40 : AC := .seq c38_41 c38_42
theorem n38_40 : SeqR Cx 38 c38_40 c38_41 c38_42 := run_seq
def c38_34 : AC := .seq c38_35 c38_40
theorem n38_34 : SeqR Cx 38 c38_34 c38_35 c38_40 := run_seq
def c38_32 : AC := .seq c38_33 c38_34
theorem n38_32 : SeqR Cx 38 c38_32 c38_33 c38_34 := run_seq
def c38_31 : AC := .block 3 c38_32
theorem n38_31 : BlkR Cx 38 c38_31 3 c38_32 := run_block
def c38_25 : AC := .seq c38_26 c38_31
theorem n38_25 : SeqR Cx 38 c38_25 c38_26 c38_31 := run_seq
def c38_24 : AC := .loop c38_25
theorem n38_24 : LoopR Cx 38 c38_24 c38_25 := run_loop'
def c38_23 : AC := .block 2 c38_24
theorem n38_23 : BlkR Cx 38 c38_23 2 c38_24 := run_block
def c38_2 : AC := .seq c38_3 c38_23
theorem n38_2 : SeqR Cx 38 c38_2 c38_3 c38_23 := run_seq
def c38_0 : AC := .seq c38_1 c38_2
theorem n38_0 : SeqR Cx 38 c38_0 c38_1 c38_2 := run_seq
theorem body38 : bodyOf Cx 38 = some c38_0 := by kernel_rfl
theorem res38 : resOf Cx 38 = some [] := by kernel_rfl
theorem pure38 : Cx.pure 38 = false := by kernel_rfl
def o39_1 : List AO := [oA 2 (.box 68 (tm 0)) 0,
  oA 3 (.box 68 (tm 1)) 0,
  oA 4 (.assign (.const (.bool false))) 4]
def c39_1 : AC := .region o39_1 []
theorem n39_1 : RegR Cx 39 c39_1 o39_1 := run_region
def o39_3 : List AO := [oA 7 (.fieldAddr 68 (tm 2) 0) 0,
  oA 8 (.load 22 (tm 7)) 22,
  oA 9 (.fieldAddr 68 (tm 2) 1) 0,
  oA 10 (.load 3 (tm 9)) 3,
  oA 11 (.indexAddr 22 (tm 8) (tm 10)) 0,
  oA 12 (.fieldAddr 42 (tm 11) 0) 0,
  oA 13 (.load 9 (tm 12)) 9,
  oA 14 (.fieldAddr 68 (tm 3) 0) 0,
  oA 15 (.load 22 (tm 14)) 22,
  oA 16 (.fieldAddr 68 (tm 3) 1) 0,
  oA 17 (.load 3 (tm 16)) 3,
  oA 18 (.indexAddr 22 (tm 15) (tm 17)) 0,
  oA 19 (.fieldAddr 42 (tm 18) 0) 0,
  oA 20 (.load 9 (tm 19)) 9,
  oA 5 (.assign (tm 13)) 9,
  oA 6 (.assign (tm 20)) 9]
def c39_3 : AC := .region o39_3 []
theorem n39_3 : RegR Cx 39 c39_3 o39_3 := run_region
def o39_5 : List AO := [oA 21 (.move (tm 5)) 9,
  oA 22 (.move (tm 6)) 9,
  oA 23 (.binOp .lss 9 (tm 21) (tm 22) 9) 4,
  oA 24 (.move (tm 23)) 4,
  oG 25 (.move (tm 5)) 9 24 false,
  oG 26 (.move (tm 6)) 9 24 false,
  oG 27 (.binOp .eql 9 (tm 25) (tm 26) 9) 4 24 false,
  oG 28 (.move (tm 27)) 4 24 false,
  oG 29 (.fieldAddr 68 (tm 2) 2) 0 28 true,
  oG 30 (.load 3 (tm 29)) 3 28 true,
  oG 31 (.fieldAddr 68 (tm 3) 2) 0 28 true,
  oG 32 (.load 3 (tm 31)) 3 28 true,
  oG 33 (.binOp .lss 3 (tm 30) (tm 32) 3) 4 28 true,
  oG 34 (.pick (tm 28) (tm 33) (.const (.bool false))) 4 24 false,
  oA 35 (.pick (tm 24) (.const (.bool true)) (tm 34)) 4,
  oA 4 (.assign (tm 35)) 4]
def c39_5 : AC := .region o39_5 []
theorem n39_5 : RegR Cx 39 c39_5 o39_5 := run_region
def c39_6 : AC := .ret
theorem n39_6 : RetR Cx 39 c39_6 := run_ret
def c39_4 : AC := .seq c39_5 c39_6
theorem n39_4 : SeqR Cx 39 c39_4 c39_5 c39_6 := run_seq
def c39_2 : AC := .seq c39_3 c39_4
theorem n39_2 : SeqR Cx 39 c39_2 c39_3 c39_4 := run_seq
def c39_0 : AC := .seq c39_1 c39_2
theorem n39_0 : SeqR Cx 39 c39_0 c39_1 c39_2 := run_seq
theorem body39 : bodyOf Cx 39 = some c39_0 := by kernel_rfl
theorem res39 : resOf Cx 39 = some [.tmp 4] := by kernel_rfl
theorem pure39 : Cx.pure 39 = true := by kernel_rfl
def o40_1 : List AO := [oA 3 (.box 68 (tm 1)) 0]
def c40_1 : AC := .region o40_1 []
theorem n40_1 : RegR Cx 40 c40_1 o40_1 := run_region
def o40_3 : List AO := [oA 5 (.move (tm 0)) 66,
  oA 6 (.move (tm 0)) 66,
  oA 7 (.nilCheck (tm 6)) 0,
  oA 8 (.fieldAddr 72 (tm 7) 0) 0,
  oA 9 (.load 70 (tm 8)) 70,
  oA 10 (.load 68 (tm 3)) 68,
  oA 11 (.buildSlice 70 1 #[(0, (tm 10))]) 70,
  oA 12 (cB .append #[(tm 9), (tm 11)] #[70, 70]) 70,
  oA 13 (.nilCheck (tm 5)) 0,
  oA 14 (.fieldAddr 72 (tm 13) 0) 0,
  oN (.store 70 (tm 14) (tm 12)) 0]
def c40_3 : AC := .region o40_3 []
theorem n40_3 : RegR Cx 40 c40_3 o40_3 := run_region
def o40_5 : List AO := [oA 15 (.move (tm 0)) 66,
  oA 16 (.nilCheck (tm 15)) 0,
  oA 17 (.fieldAddr 72 (tm 16) 0) 0,
  oA 18 (.load 70 (tm 17)) 70,
  oA 19 (cB .len #[(tm 18)] #[70]) 3,
  oA 20 (.binOp .sub 3 (tm 19) (ci 1) 3) 3,
  oA 4 (.assign (tm 20)) 3]
def c40_5 : AC := .region o40_5 []
theorem n40_5 : RegR Cx 40 c40_5 o40_5 := run_region
def o40_10 : List AO := [oA 21 (.move (tm 4)) 3,
  oA 22 (.binOp .gtr 3 (tm 21) (ci 0) 3) 4,
  oA 23 (.move (tm 22)) 4,
  oG 24 (.move (tm 0)) 66 23 true,
  oG 25 (.nilCheck (tm 24)) 0 23 true,
  oG 26 (.fieldAddr 72 (tm 25) 1) 0 23 true,
  oG 27 (.load 69 (tm 26)) 69 23 true,
  oG 28 (.move (tm 0)) 66 23 true,
  oG 29 (.nilCheck (tm 28)) 0 23 true,
  oG 30 (.fieldAddr 72 (tm 29) 0) 0 23 true,
  oG 31 (.load 70 (tm 30)) 70 23 true,
  oG 32 (.move (tm 4)) 3 23 true,
  oG 33 (.indexAddr 70 (tm 31) (tm 32)) 0 23 true,
  oG 34 (.load 68 (tm 33)) 68 23 true,
  oG 35 (.move (tm 0)) 66 23 true,
  oG 36 (.nilCheck (tm 35)) 0 23 true,
  oG 37 (.fieldAddr 72 (tm 36) 0) 0 23 true,
  oG 38 (.load 70 (tm 37)) 70 23 true,
  oG 39 (.move (tm 4)) 3 23 true,
  oG 40 (.binOp .sub 3 (tm 39) (ci 1) 3) 3 23 true,
  oG 41 (.binOp .quo 3 (tm 40) (ci 2) 3) 3 23 true,
  oG 42 (.indexAddr 70 (tm 38) (tm 41)) 0 23 true,
  oG 43 (.load 68 (tm 42)) 68 23 true,
  oG 44 (cV 27 #[(tm 34), (tm 43)] #[68, 68]) 4 23 true,
  oA 45 (.pick (tm 23) (tm 44) (.const (.bool false))) 4]
def c40_10 : AC := .region o40_10 []
theorem n40_10 : RegR Cx 40 c40_10 o40_10 := run_region
def c40_12 : AC := .skip
theorem n40_12 : SkipR Cx 40 c40_12 := run_skip
def c40_13 : AC := .exit 0
theorem n40_13 : ExitR Cx 40 c40_13 0 := run_exit_start
def c40_11 : AC := .cond (tm 45) c40_12 c40_13
theorem n40_11 : CondR Cx 40 c40_11 (tm 45) c40_12 c40_13 := run_condC
def c40_9 : AC := .seq c40_10 c40_11
theorem n40_9 : SeqR Cx 40 c40_9 c40_10 c40_11 := run_seq
def o40_16 : List AO := [oA 49 (.move (tm 0)) 66,
  oA 50 (.nilCheck (tm 49)) 0,
  oA 51 (.fieldAddr 72 (tm 50) 0) 0,
  oA 52 (.load 70 (tm 51)) 70,
  oA 53 (.move (tm 4)) 3,
  oA 54 (.move (tm 0)) 66,
  oA 55 (.nilCheck (tm 54)) 0,
  oA 56 (.fieldAddr 72 (tm 55) 0) 0,
  oA 57 (.load 70 (tm 56)) 70,
  oA 58 (.move (tm 4)) 3,
  oA 59 (.binOp .sub 3 (tm 58) (ci 1) 3) 3,
  oA 60 (.binOp .quo 3 (tm 59) (ci 2) 3) 3,
  oA 61 (.move (tm 0)) 66,
  oA 62 (.nilCheck (tm 61)) 0,
  oA 63 (.fieldAddr 72 (tm 62) 0) 0,
  oA 64 (.load 70 (tm 63)) 70,
  oA 65 (.move (tm 4)) 3,
  oA 66 (.binOp .sub 3 (tm 65) (ci 1) 3) 3,
  oA 67 (.binOp .quo 3 (tm 66) (ci 2) 3) 3,
  oA 68 (.indexAddr 70 (tm 64) (tm 67)) 0,
  oA 69 (.load 68 (tm 68)) 68,
  oA 70 (.move (tm 0)) 66,
  oA 71 (.nilCheck (tm 70)) 0,
  oA 72 (.fieldAddr 72 (tm 71) 0) 0,
  oA 73 (.load 70 (tm 72)) 70,
  oA 74 (.move (tm 4)) 3,
  oA 75 (.indexAddr 70 (tm 73) (tm 74)) 0,
  oA 76 (.load 68 (tm 75)) 68,
  oA 77 (.indexAddr 70 (tm 52) (tm 53)) 0,
  oN (.store 68 (tm 77) (tm 69)) 0,
  oA 78 (.indexAddr 70 (tm 57) (tm 60)) 0,
  oN (.store 68 (tm 78) (tm 76)) 0]
def c40_16 : AC := .region o40_16 []
theorem n40_16 : RegR Cx 40 c40_16 o40_16 := run_region
def c40_15 : AC := .block 1 c40_16
theorem n40_15 : BlkR Cx 40 c40_15 1 c40_16 := run_block
def o40_17 : List AO := [oA 46 (.move (tm 4)) 3,
  oA 47 (.binOp .sub 3 (tm 46) (ci 1) 3) 3,
  oA 48 (.binOp .quo 3 (tm 47) (ci 2) 3) 3,
  oA 4 (.assign (tm 48)) 3]
def c40_17 : AC := .region o40_17 []
theorem n40_17 : RegR Cx 40 c40_17 o40_17 := run_region
def c40_14 : AC := .seq c40_15 c40_17
theorem n40_14 : SeqR Cx 40 c40_14 c40_15 c40_17 := run_seq
def c40_8 : AC := .seq c40_9 c40_14
theorem n40_8 : SeqR Cx 40 c40_8 c40_9 c40_14 := run_seq
def c40_7 : AC := .loop c40_8
theorem n40_7 : LoopR Cx 40 c40_7 c40_8 := run_loop'
def c40_6 : AC := .block 0 c40_7
theorem n40_6 : BlkR Cx 40 c40_6 0 c40_7 := run_block
def c40_4 : AC := .seq c40_5 c40_6
theorem n40_4 : SeqR Cx 40 c40_4 c40_5 c40_6 := run_seq
def c40_2 : AC := .seq c40_3 c40_4
theorem n40_2 : SeqR Cx 40 c40_2 c40_3 c40_4 := run_seq
def c40_0 : AC := .seq c40_1 c40_2
theorem n40_0 : SeqR Cx 40 c40_0 c40_1 c40_2 := run_seq
theorem body40 : bodyOf Cx 40 = some c40_0 := by kernel_rfl
theorem res40 : resOf Cx 40 = some [] := by kernel_rfl
theorem pure40 : Cx.pure 40 = false := by kernel_rfl
def o41_1 : List AO := [oA 2 (.alloc 68) 0]
def c41_1 : AC := .region o41_1 []
theorem n41_1 : RegR Cx 41 c41_1 o41_1 := run_region
def o41_4 : List AO := [oA 7 (.move (tm 0)) 66,
  oA 8 (.nilCheck (tm 7)) 0,
  oA 9 (.fieldAddr 72 (tm 8) 0) 0,
  oA 10 (.load 70 (tm 9)) 70,
  oA 11 (.indexAddr 70 (tm 10) (ci 0)) 0,
  oA 12 (.load 68 (tm 11)) 68,
  oA 3 (.alloc 68) 0,
  oN (.store 68 (tm 3) (tm 12)) 0]
def c41_4 : AC := .region o41_4 []
theorem n41_4 : RegR Cx 41 c41_4 o41_4 := run_region
def o41_6 : List AO := [oA 13 (.move (tm 0)) 66,
  oA 14 (.nilCheck (tm 13)) 0,
  oA 15 (.fieldAddr 72 (tm 14) 0) 0,
  oA 16 (.load 70 (tm 15)) 70,
  oA 17 (cB .len #[(tm 16)] #[70]) 3,
  oA 18 (.binOp .sub 3 (tm 17) (ci 1) 3) 3,
  oA 4 (.assign (tm 18)) 3]
def c41_6 : AC := .region o41_6 []
theorem n41_6 : RegR Cx 41 c41_6 o41_6 := run_region
def o41_8 : List AO := [oA 19 (.move (tm 0)) 66,
  oA 20 (.nilCheck (tm 19)) 0,
  oA 21 (.fieldAddr 72 (tm 20) 0) 0,
  oA 22 (.load 70 (tm 21)) 70,
  oA 23 (.move (tm 0)) 66,
  oA 24 (.nilCheck (tm 23)) 0,
  oA 25 (.fieldAddr 72 (tm 24) 0) 0,
  oA 26 (.load 70 (tm 25)) 70,
  oA 27 (.move (tm 4)) 3,
  oA 28 (.indexAddr 70 (tm 26) (tm 27)) 0,
  oA 29 (.load 68 (tm 28)) 68,
  oA 30 (.indexAddr 70 (tm 22) (ci 0)) 0,
  oN (.store 68 (tm 30) (tm 29)) 0]
def c41_8 : AC := .region o41_8 []
theorem n41_8 : RegR Cx 41 c41_8 o41_8 := run_region
def o41_10 : List AO := [oA 31 (.move (tm 0)) 66,
  oA 32 (.move (tm 0)) 66,
  oA 33 (.nilCheck (tm 32)) 0,
  oA 34 (.fieldAddr 72 (tm 33) 0) 0,
  oA 35 (.load 70 (tm 34)) 70,
  oA 36 (.move (tm 4)) 3,
  oA 37 (.slice 70 (tm 35) none (some (tm 36)) none) 70,
  oA 38 (.nilCheck (tm 31)) 0,
  oA 39 (.fieldAddr 72 (tm 38) 0) 0,
  oN (.store 70 (tm 39) (tm 37)) 0]
def c41_10 : AC := .region o41_10 []
theorem n41_10 : RegR Cx 41 c41_10 o41_10 := run_region
def o41_12 : List AO := [oA 5 (.assign (ci 0)) 3]
def c41_12 : AC := .region o41_12 []
theorem n41_12 : RegR Cx 41 c41_12 o41_12 := run_region
def c41_14 : AC := .label 0
theorem n41_14 : SkipR Cx 41 c41_14 := run_label
def o41_16 : List AO := [oA 40 (.move (tm 5)) 3,
  oA 41 (.binOp .mul 3 (ci 2) (tm 40) 3) 3,
  oA 42 (.binOp .add 3 (tm 41) (ci 1) 3) 3,
  oA 6 (.assign (tm 42)) 3]
def c41_16 : AC := .region o41_16 []
theorem n41_16 : RegR Cx 41 c41_16 o41_16 := run_region
def o41_19 : List AO := [oA 43 (.move (tm 6)) 3,
  oA 44 (.move (tm 4)) 3,
  oA 45 (.binOp .lss 3 (tm 43) (tm 44) 3) 4]
def c41_19 : AC := .region o41_19 []
theorem n41_19 : RegR Cx 41 c41_19 o41_19 := run_region
def o41_23 : List AO := [oA 46 (.move (tm 6)) 3,
  oA 47 (.binOp .add 3 (tm 46) (ci 1) 3) 3,
  oA 48 (.move (tm 4)) 3,
  oA 49 (.binOp .lss 3 (tm 47) (tm 48) 3) 4,
  oA 50 (.move (tm 49)) 4,
  oG 51 (.move (tm 0)) 66 50 true,
  oG 52 (.nilCheck (tm 51)) 0 50 true,
  oG 53 (.fieldAddr 72 (tm 52) 1) 0 50 true,
  oG 54 (.load 69 (tm 53)) 69 50 true,
  oG 55 (.move (tm 0)) 66 50 true,
  oG 56 (.nilCheck (tm 55)) 0 50 true,
  oG 57 (.fieldAddr 72 (tm 56) 0) 0 50 true,
  oG 58 (.load 70 (tm 57)) 70 50 true,
  oG 59 (.move (tm 6)) 3 50 true,
  oG 60 (.binOp .add 3 (tm 59) (ci 1) 3) 3 50 true,
  oG 61 (.indexAddr 70 (tm 58) (tm 60)) 0 50 true,
  oG 62 (.load 68 (tm 61)) 68 50 true,
  oG 63 (.move (tm 0)) 66 50 true,
  oG 64 (.nilCheck (tm 63)) 0 50 true,
  oG 65 (.fieldAddr 72 (tm 64) 0) 0 50 true,
  oG 66 (.load 70 (tm 65)) 70 50 true,
  oG 67 (.move (tm 6)) 3 50 true,
  oG 68 (.indexAddr 70 (tm 66) (tm 67)) 0 50 true,
  oG 69 (.load 68 (tm 68)) 68 50 true,
  oG 70 (cV 54 #[(tm 62), (tm 69)] #[68, 68]) 4 50 true,
  oA 71 (.pick (tm 50) (tm 70) (.const (.bool false))) 4]
def c41_23 : AC := .region o41_23 []
theorem n41_23 : RegR Cx 41 c41_23 o41_23 := run_region
def o41_25 : List AO := [oA 72 (.move (tm 6)) 3,
  oA 73 (.binOp .add 3 (tm 72) (ci 1) 3) 3,
  oA 6 (.assign (tm 73)) 3]
def c41_25 : AC := .region o41_25 []
theorem n41_25 : RegR Cx 41 c41_25 o41_25 := run_region
def c41_26 : AC := .skip
theorem n41_26 : SkipR Cx 41 c41_26 := run_skip
def c41_24 : AC := .cond (tm 71) c41_25 c41_26
theorem n41_24 : CondR Cx 41 c41_24 (tm 71) c41_25 c41_26 := run_condC
def c41_22 : AC := .seq c41_23 c41_24
theorem n41_22 : SeqR Cx 41 c41_22 c41_23 c41_24 := run_seq
def o41_28 : List AO := [oA 74 (.move (tm 0)) 66,
  oA 75 (.nilCheck (tm 74)) 0,
  oA 76 (.fieldAddr 72 (tm 75) 1) 0,
  oA 77 (.load 69 (tm 76)) 69,
  oA 78 (.move (tm 0)) 66,
  oA 79 (.nilCheck (tm 78)) 0,
  oA 80 (.fieldAddr 72 (tm 79) 0) 0,
  oA 81 (.load 70 (tm 80)) 70,
  oA 82 (.move (tm 6)) 3,
  oA 83 (.indexAddr 70 (tm 81) (tm 82)) 0,
  oA 84 (.load 68 (tm 83)) 68,
  oA 85 (.move (tm 0)) 66,
  oA 86 (.nilCheck (tm 85)) 0,
  oA 87 (.fieldAddr 72 (tm 86) 0) 0,
  oA 88 (.load 70 (tm 87)) 70,
  oA 89 (.move (tm 5)) 3,
  oA 90 (.indexAddr 70 (tm 88) (tm 89)) 0,
  oA 91 (.load 68 (tm 90)) 68,
  oA 92 (cV 77 #[(tm 84), (tm 91)] #[68, 68]) 4]
def c41_28 : AC := .region o41_28 []
theorem n41_28 : RegR Cx 41 c41_28 o41_28 := run_region
def o41_31 : List AO := [oA 93 (.move (tm 0)) 66,
  oA 94 (.nilCheck (tm 93)) 0,
  oA 95 (.fieldAddr 72 (tm 94) 0) 0,
  oA 96 (.load 70 (tm 95)) 70,
  oA 97 (.move (tm 5)) 3,
  oA 98 (.move (tm 0)) 66,
  oA 99 (.nilCheck (tm 98)) 0,
  oA 100 (.fieldAddr 72 (tm 99) 0) 0,
  oA 101 (.load 70 (tm 100)) 70,
  oA 102 (.move (tm 6)) 3,
  oA 103 (.move (tm 0)) 66,
  oA 104 (.nilCheck (tm 103)) 0,
  oA 105 (.fieldAddr 72 (tm 104) 0) 0,
  oA 106 (.load 70 (tm 105)) 70,
  oA 107 (.move (tm 6)) 3,
  oA 108 (.indexAddr 70 (tm 106) (tm 107)) 0,
  oA 109 (.load 68 (tm 108)) 68,
  oA 110 (.move (tm 0)) 66,
  oA 111 (.nilCheck (tm 110)) 0,
  oA 112 (.fieldAddr 72 (tm 111) 0) 0,
  oA 113 (.load 70 (tm 112)) 70,
  oA 114 (.move (tm 5)) 3,
  oA 115 (.indexAddr 70 (tm 113) (tm 114)) 0,
  oA 116 (.load 68 (tm 115)) 68,
  oA 117 (.indexAddr 70 (tm 96) (tm 97)) 0,
  oN (.store 68 (tm 117) (tm 109)) 0,
  oA 118 (.indexAddr 70 (tm 101) (tm 102)) 0,
  oN (.store 68 (tm 118) (tm 116)) 0]
def c41_31 : AC := .region o41_31 []
theorem n41_31 : RegR Cx 41 c41_31 o41_31 := run_region
def o41_33 : List AO := [oA 119 (.move (tm 6)) 3,
  oA 5 (.assign (tm 119)) 3]
def c41_33 : AC := .region o41_33 []
theorem n41_33 : RegR Cx 41 c41_33 o41_33 := run_region
def c41_34 : AC := .goto 0
def c41_32 : AC := .seq c41_33 c41_34
theorem n41_32 : SeqR Cx 41 c41_32 c41_33 c41_34 := run_seq
def c41_30 : AC := .seq c41_31 c41_32
theorem n41_30 : SeqR Cx 41 c41_30 c41_31 c41_32 := run_seq
def c41_35 : AC := .skip
theorem n41_35 : SkipR Cx 41 c41_35 := run_skip
def c41_29 : AC := .cond (tm 92) c41_30 c41_35
theorem n41_29 : CondR Cx 41 c41_29 (tm 92) c41_30 c41_35 := run_condC
def c41_27 : AC := .seq c41_28 c41_29
theorem n41_27 : SeqR Cx 41 c41_27 c41_28 c41_29 := run_seq
def c41_21 : AC := .seq c41_22 c41_27
theorem n41_21 : SeqR Cx 41 c41_21 c41_22 c41_27 := run_seq
def c41_36 : AC := .skip
theorem n41_36 : SkipR Cx 41 c41_36 := run_skip
def c41_20 : AC := .cond (tm 45) c41_21 c41_36
theorem n41_20 : CondR Cx 41 c41_20 (tm 45) c41_21 c41_36 := run_condC
def c41_18 : AC := .seq c41_19 c41_20
theorem n41_18 : SeqR Cx 41 c41_18 c41_19 c41_20 := run_seq
def o41_38 : List AO := [oA 120 (.load 68 (tm 3)) 68,
  oN (.store 68 (tm 2) (tm 120)) 0]
def c41_38 : AC := .region o41_38 []
theorem n41_38 : RegR Cx 41 c41_38 o41_38 := run_region
def c41_39 : AC := .ret
theorem n41_39 : RetR Cx 41 c41_39 := run_ret
def c41_37 : AC := .seq c41_38 c41_39
theorem n41_37 : SeqR Cx 41 c41_37 c41_38 c41_39 := run_seq
def c41_17 : AC := .seq c41_18 c41_37
theorem n41_17 : SeqR Cx 41 c41_17 c41_18 c41_37 := run_seq
def c41_15 : AC := .seq c41_16 c41_17
theorem n41_15 : SeqR Cx 41 c41_15 c41_16 c41_17 := run_seq
def c41_13 : AC := .seq c41_14 c41_15
theorem n41_13 : SeqR Cx 41 c41_13 c41_14 c41_15 := run_seq
def c41_11 : AC := .seq c41_12 c41_13
theorem n41_11 : SeqR Cx 41 c41_11 c41_12 c41_13 := run_seq
def c41_9 : AC := .seq c41_10 c41_11
theorem n41_9 : SeqR Cx 41 c41_9 c41_10 c41_11 := run_seq
def c41_7 : AC := .seq c41_8 c41_9
theorem n41_7 : SeqR Cx 41 c41_7 c41_8 c41_9 := run_seq
def c41_5 : AC := .seq c41_6 c41_7
theorem n41_5 : SeqR Cx 41 c41_5 c41_6 c41_7 := run_seq
def c41_3 : AC := .seq c41_4 c41_5
theorem n41_3 : SeqR Cx 41 c41_3 c41_4 c41_5 := run_seq
def c41_2 : AC := .scope c41_3
theorem n41_2 : ScopeR Cx 41 c41_2 c41_3 := run_scope
def c41_0 : AC := .seq c41_1 c41_2
theorem n41_0 : SeqR Cx 41 c41_0 c41_1 c41_2 := run_seq
theorem body41 : bodyOf Cx 41 = some c41_0 := by kernel_rfl
theorem res41 : resOf Cx 41 = some [.cell 2 68] := by kernel_rfl
theorem pure41 : Cx.pure 41 = false := by kernel_rfl
def o42_1 : List AO := [oA 4 (.assign (ci 0)) 3]
def c42_1 : AC := .region o42_1 []
theorem n42_1 : RegR Cx 42 c42_1 o42_1 := run_region
def o42_4 : List AO := [oA 6 (.move (tm 0)) 29,
  oA 7 (cB .len #[(tm 6)] #[29]) 3,
  oA 8 (.move (ci 0)) 3]
def c42_4 : AC := .region o42_4 []
theorem n42_4 : RegR Cx 42 c42_4 o42_4 := run_region
def o42_8 : List AO := [oA 9 (.binOp .lss 3 (tm 8) (tm 7) 3) 0]
def c42_8 : AC := .region o42_8 []
theorem n42_8 : RegR Cx 42 c42_8 o42_8 := run_region
def c42_11 : AC := .skip
theorem n42_11 : SkipR Cx 42 c42_11 := run_skip
def c42_12 : AC := .exit 0
theorem n42_12 : ExitR Cx 42 c42_12 0 := run_exit_start
def c42_10 : AC := .cond (tm 9) c42_11 c42_12
theorem n42_10 : CondR Cx 42 c42_10 (tm 9) c42_11 c42_12 := run_condC
def o42_16 : List AO := [oA 10 (.move (tm 8)) 3,
  oA 5 (.assign (tm 10)) 3]
def c42_16 : AC := .region o42_16 []
theorem n42_16 : RegR Cx 42 c42_16 o42_16 := run_region
def o42_18 : List AO := [oA 11 (.move (tm 1)) 25,
  oA 12 (.move (tm 0)) 29,
  oA 13 (.move (tm 5)) 3,
  oA 14 (.indexAddr 29 (tm 12) (tm 13)) 0,
  oA 15 (.load 22 (tm 14)) 22,
  oA 16 (cV 11 #[(tm 15)] #[22]) 4]
def c42_18 : AC := .region o42_18 []
theorem n42_18 : RegR Cx 42 c42_18 o42_18 := run_region
def o42_21 : List AO := [oA 17 (.move (tm 5)) 3,
  oA 4 (.assign (tm 17)) 3]
def c42_21 : AC := .region o42_21 []
theorem n42_21 : RegR Cx 42 c42_21 o42_21 := run_region
def c42_22 : AC := .ret
theorem n42_22 : RetR Cx 42 c42_22 := run_ret
def c42_20 : AC := .seq c42_21 c42_22
theorem n42_20 : SeqR Cx 42 c42_20 c42_21 c42_22 := run_seq
def c42_23 : AC := .skip
theorem n42_23 : SkipR Cx 42 c42_23 := run_skip
def c42_19 : AC := .cond (tm 16) c42_20 c42_23
theorem n42_19 : CondR Cx 42 c42_19 (tm 16) c42_20 c42_23 := run_condC
def c42_17 : AC := .seq c42_18 c42_19
theorem n42_17 : SeqR Cx 42 c42_17 c42_18 c42_19 := run_seq
def c42_15 : AC := .seq c42_16 c42_17
theorem n42_15 : SeqR Cx 42 c42_15 c42_16 c42_17 := run_seq
def c42_14 : AC := .block 1 c42_15
theorem n42_14 : BlkR Cx 42 c42_14 1 c42_15 := run_block
def o42_24 : List AO := [oA 18 (.binOp .add 3 (tm 8) (ci 1) 3) 3,
  oA 8 (.move (tm 18)) 3]
def c42_24 : AC := .region o42_24 []
theorem n42_24 : RegR Cx 42 c42_24 o42_24 := run_region
def c42_13 : AC := .seq c42_14 c42_24
theorem n42_13 : SeqR Cx 42 c42_13 c42_14 c42_24 := run_seq
def c42_9 : AC := .seq c42_10 c42_13
theorem n42_9 : SeqR Cx 42 c42_9 c42_10 c42_13 := run_seq
def c42_7 : AC := .seq c42_8 c42_9
theorem n42_7 : SeqR Cx 42 c42_7 c42_8 c42_9 := run_seq
def c42_6 : AC := .loop c42_7
theorem n42_6 : LoopR Cx 42 c42_6 c42_7 := run_loop'
def c42_5 : AC := .block 0 c42_6
theorem n42_5 : BlkR Cx 42 c42_5 0 c42_6 := run_block
def c42_3 : AC := .seq c42_4 c42_5
theorem n42_3 : SeqR Cx 42 c42_3 c42_4 c42_5 := run_seq
def o42_26 : List AO := [oA 4 (.assign (ci (-1))) 3]
def c42_26 : AC := .region o42_26 []
theorem n42_26 : RegR Cx 42 c42_26 o42_26 := run_region
def c42_27 : AC := .ret
theorem n42_27 : RetR Cx 42 c42_27 := run_ret
def c42_25 : AC := .seq c42_26 c42_27
theorem n42_25 : SeqR Cx 42 c42_25 c42_26 c42_27 := run_seq
def c42_2 : AC := .seq c42_3 c42_25
theorem n42_2 : SeqR Cx 42 c42_2 c42_3 c42_25 := run_seq
def c42_0 : AC := .seq c42_1 c42_2
theorem n42_0 : SeqR Cx 42 c42_0 c42_1 c42_2 := run_seq
theorem body42 : bodyOf Cx 42 = some c42_0 := by kernel_rfl
theorem res42 : resOf Cx 42 = some [.tmp 4] := by kernel_rfl
theorem pure42 : Cx.pure 42 = false := by kernel_rfl
def o43_1 : List AO := [oA 6 (.assign (ci 20)) 3]
def c43_1 : AC := .region o43_1 []
theorem n43_1 : RegR Cx 43 c43_1 o43_1 := run_region
def o43_3 : List AO := [oA 10 (.move (tm 6)) 3,
  oA 7 (.assign (ci 0)) 3,
  oA 8 (.assign (tm 10)) 3]
def c43_3 : AC := .region o43_3 []
theorem n43_3 : RegR Cx 43 c43_3 o43_3 := run_region
def o43_9 : List AO := [oA 11 (.move (tm 8)) 3,
  oA 12 (.move (tm 1)) 3,
  oA 13 (.binOp .leq 3 (tm 11) (tm 12) 3) 4]
def c43_9 : AC := .region o43_9 []
theorem n43_9 : RegR Cx 43 c43_9 o43_9 := run_region
def c43_11 : AC := .skip
theorem n43_11 : SkipR Cx 43 c43_11 := run_skip
def c43_12 : AC := .exit 0
theorem n43_12 : ExitR Cx 43 c43_12 0 := run_exit_start
def c43_10 : AC := .cond (tm 13) c43_11 c43_12
theorem n43_10 : CondR Cx 43 c43_10 (tm 13) c43_11 c43_12 := run_condC
def c43_8 : AC := .seq c43_9 c43_10
theorem n43_8 : SeqR Cx 43 c43_8 c43_9 c43_10 := run_seq
def o43_15 : List AO := [oA 14 (.move (tm 0)) 22,
  oA 15 (.move (tm 7)) 3,
  oA 16 (.move (tm 8)) 3,
  oA 17 (.move (tm 2)) 59,
  oA 18 (cF 46 #[(tm 14), (tm 15), (tm 16), (tm 17)] #[22, 3, 3, 59]) 0]
def c43_15 : AC := .region o43_15 []
theorem n43_15 : RegR Cx 43 c43_15 o43_15 := run_region
def o43_17 : List AO := [oA 19 (.move (tm 8)) 3,
  oA 7 (.assign (tm 19)) 3]
def c43_17 : AC := .region o43_17 []
theorem n43_17 : RegR Cx 43 c43_17 o43_17 := run_region
def o43_18 : List AO := [oA 20 (.move (tm 8)) 3,
  oA 21 (.move (tm 6)) 3,
  oA 22 (.binOp .add 3 (tm 20) (tm 21) 3) 3,
  oA 8 (.assign (tm 22)) 3]
def c43_18 : AC := .region o43_18 []
theorem n43_18 : RegR Cx 43 c43_18 o43_18 := run_region
def c43_16 : AC := .seq c43_17 c43_18
theorem n43_16 : SeqR Cx 43 c43_16 c43_17 c43_18 := run_seq
def c43_14 : AC := .seq c43_15 c43_16
theorem n43_14 : SeqR Cx 43 c43_14 c43_15 c43_16 := run_seq
def c43_13 : AC := .block 1 c43_14
theorem n43_13 : BlkR Cx 43 c43_13 1 c43_14 := run_block
def c43_7 : AC := .seq c43_8 c43_13
theorem n43_7 : SeqR Cx 43 c43_7 c43_8 c43_13 := run_seq
def c43_6 : AC := .loop c43_7
theorem n43_6 : LoopR Cx 43 c43_6 c43_7 := run_loop'
def c43_5 : AC := .block 0 c43_6
theorem n43_5 : BlkR Cx 43 c43_5 0 c43_6 := run_block
def o43_20 : List AO := [oA 23 (.move (tm 0)) 22,
  oA 24 (.move (tm 7)) 3,
  oA 25 (.move (tm 1)) 3,
  oA 26 (.move (tm 2)) 59,
  oA 27 (cF 46 #[(tm 23), (tm 24), (tm 25), (tm 26)] #[22, 3, 3, 59]) 0]
def c43_20 : AC := .region o43_20 []
theorem n43_20 : RegR Cx 43 c43_20 o43_20 := run_region
def o43_25 : List AO := [oA 28 (.move (tm 6)) 3,
  oA 29 (.move (tm 1)) 3,
  oA 30 (.binOp .lss 3 (tm 28) (tm 29) 3) 4]
def c43_25 : AC := .region o43_25 []
theorem n43_25 : RegR Cx 43 c43_25 o43_25 := run_region
def c43_27 : AC := .skip
theorem n43_27 : SkipR Cx 43 c43_27 := run_skip
def c43_28 : AC := .exit 2
theorem n43_28 : ExitR Cx 43 c43_28 2 := run_exit_start
def c43_26 : AC := .cond (tm 30) c43_27 c43_28
theorem n43_26 : CondR Cx 43 c43_26 (tm 30) c43_27 c43_28 := run_condC
def c43_24 : AC := .seq c43_25 c43_26
theorem n43_24 : SeqR Cx 43 c43_24 c43_25 c43_26 := run_seq
def o43_31 : List AO := [oA 31 (.move (tm 6)) 3,
  oA 32 (.binOp .mul 3 (ci 2) (tm 31) 3) 3,
  oA 7 (.assign (ci 0)) 3,
  oA 8 (.assign (tm 32)) 3]
def c43_31 : AC := .region o43_31 []
theorem n43_31 : RegR Cx 43 c43_31 o43_31 := run_region
def o43_37 : List AO := [oA 33 (.move (tm 8)) 3,
  oA 34 (.move (tm 1)) 3,
  oA 35 (.binOp .leq 3 (tm 33) (tm 34) 3) 4]
def c43_37 : AC := .region o43_37 []
theorem n43_37 : RegR Cx 43 c43_37 o43_37 := run_region
def c43_39 : AC := .skip
theorem n43_39 : SkipR Cx 43 c43_39 := run_skip
def c43_40 : AC := .exit 4
theorem n43_40 : ExitR Cx 43 c43_40 4 := run_exit_start
def c43_38 : AC := .cond (tm 35) c43_39 c43_40
theorem n43_38 : CondR Cx 43 c43_38 (tm 35) c43_39 c43_40 := run_condC
def c43_36 : AC := .seq c43_37 c43_38
theorem n43_36 : SeqR Cx 43 c43_36 c43_37 c43_38 := run_seq
def o43_43 : List AO := [oA 36 (.move (tm 0)) 22,
  oA 37 (.move (tm 7)) 3,
  oA 38 (.move (tm 7)) 3,
  oA 39 (.move (tm 6)) 3,
  oA 40 (.binOp .add 3 (tm 38) (tm 39) 3) 3,
  oA 41 (.move (tm 8)) 3,
  oA 42 (.move (tm 2)) 59,
  oA 43 (cF 47 #[(tm 36), (tm 37), (tm 40), (tm 41), (tm 42)] #[22, 3, 3, 3, 59]) 0]
def c43_43 : AC := .region o43_43 []
theorem n43_43 : RegR Cx 43 c43_43 o43_43 := run_region
def o43_45 : List AO := [oA 44 (.move (tm 8)) 3,
  oA 7 (.assign (tm 44)) 3]
def c43_45 : AC := .region o43_45 []
theorem n43_45 : RegR Cx 43 c43_45 o43_45 := run_region
def o43_46 : List AO := [oA 45 (.move (tm 8)) 3,
  oA 46 (.move (tm 6)) 3,
  oA 47 (.binOp .mul 3 (ci 2) (tm 46) 3) 3,
  oA 48 (.binOp .add 3 (tm 45) (tm 47) 3) 3,
  oA 8 (.assign (tm 48)) 3]
def c43_46 : AC := .region o43_46 []
theorem n43_46 : RegR Cx 43 c43_46 o43_46 := run_region
def c43_44 : AC := .seq c43_45 c43_46
theorem n43_44 : SeqR Cx 43 c43_44 c43_45 c43_46 := run_seq
def c43_42 : AC := .seq c43_43 c43_44
theorem n43_42 : SeqR Cx 43 c43_42 c43_43 c43_44 := run_seq
def c43_41 : AC := .block 5 c43_42
theorem n43_41 : BlkR Cx 43 c43_41 5 c43_42 := run_block
def c43_35 : AC := .seq c43_36 c43_41
theorem n43_35 : SeqR Cx 43 c43_35 c43_36 c43_41 := run_seq
def c43_34 : AC := .loop c43_35
theorem n43_34 : LoopR Cx 43 c43_34 c43_35 := run_loop'
def c43_33 : AC := .block 4 c43_34
theorem n43_33 : BlkR Cx 43 c43_33 4 c43_34 := run_block
def o43_49 : List AO := [oA 49 (.move (tm 7)) 3,
  oA 50 (.move (tm 6)) 3,
  oA 51 (.binOp .add 3 (tm 49) (tm 50) 3) 3,
  oA 9 (.assign (tm 51)) 3]
def c43_49 : AC := .region o43_49 []
theorem n43_49 : RegR Cx 43 c43_49 o43_49 := run_region
def o43_51 : List AO := [oA 52 (.move (tm 9)) 3,
  oA 53 (.move (tm 1)) 3,
  oA 54 (.binOp .lss 3 (tm 52) (tm 53) 3) 4]
def c43_51 : AC := .region o43_51 []
theorem n43_51 : RegR Cx 43 c43_51 o43_51 := run_region
def o43_53 : List AO := [oA 55 (.move (tm 0)) 22,
  oA 56 (.move (tm 7)) 3,
  oA 57 (.move (tm 9)) 3,
  oA 58 (.move (tm 1)) 3,
  oA 59 (.move (tm 2)) 59,
  oA 60 (cF 47 #[(tm 55), (tm 56), (tm 57), (tm 58), (tm 59)] #[22, 3, 3, 3, 59]) 0]
def c43_53 : AC := .region o43_53 []
theorem n43_53 : RegR Cx 43 c43_53 o43_53 := run_region
def c43_54 : AC := .skip
theorem n43_54 : SkipR Cx 43 c43_54 := run_skip
def c43_52 : AC := .cond (tm 54) c43_53 c43_54
theorem n43_52 : CondR Cx 43 c43_52 (tm 54) c43_53 c43_54 := run_condC
def c43_50 : AC := .seq c43_51 c43_52
theorem n43_50 : SeqR Cx 43 c43_50 c43_51 c43_52 := run_seq
def c43_48 : AC := .seq c43_49 c43_50
theorem n43_48 : SeqR Cx 43 c43_48 c43_49 c43_50 := run_seq
def o43_55 : List AO := [oA 61 (.move (tm 6)) 3,
  oA 62 (.binOp .mul 3 (tm 61) (ci 2) 3) 3,
  oA 6 (.assign (tm 62)) 3]
def c43_55 : AC := .region o43_55 []
theorem n43_55 : RegR Cx 43 c43_55 o43_55 := run_region
def c43_47 : AC := .seq c43_48 c43_55
theorem n43_47 : SeqR Cx 43 c43_47 c43_48 c43_55 := run_seq
def c43_32 : AC := .seq c43_33 c43_47
theorem n43_32 : SeqR Cx 43 c43_32 c43_33 c43_47 := run_seq
def c43_30 : AC := .seq c43_31 c43_32
theorem n43_30 : SeqR Cx 43 c43_30 c43_31 c43_32 := run_seq
def c43_29 : AC := .block 3 c43_30
theorem n43_29 : BlkR Cx 43 c43_29 3 c43_30 := run_block
def c43_23 : AC := .seq c43_24 c43_29
theorem n43_23 : SeqR Cx 43 c43_23 c43_24 c43_29 := run_seq
def c43_22 : AC := .loop c43_23
theorem n43_22 : LoopR Cx 43 c43_22 c43_23 := run_loop'
def c43_21 : AC := .block 2 c43_22
theorem n43_21 : BlkR Cx 43 c43_21 2 c43_22 := run_block
def c43_19 : AC := .seq c43_20 c43_21
theorem n43_19 : SeqR Cx 43 c43_19 c43_20 c43_21 := run_seq
def c43_4 : AC := .seq c43_5 c43_19
theorem n43_4 : SeqR Cx 43 c43_4 c43_5 c43_19 := run_seq
def c43_2 : AC := .seq c43_3 c43_4
theorem n43_2 : SeqR Cx 43 c43_2 c43_3 c43_4 := run_seq
def c43_0 : AC := .seq c43_1 c43_2
theorem n43_0 : SeqR Cx 43 c43_0 c43_1 c43_2 := run_seq
theorem body43 : bodyOf Cx 43 = some c43_0 := by kernel_rfl
theorem res43 : resOf Cx 43 = some [] := by kernel_rfl
theorem pure43 : Cx.pure 43 = false := by kernel_rfl
def o44_1 : List AO := [oA 2 (.assign (.const (.bool false))) 4]
def c44_1 : AC := .region o44_1 []
theorem n44_1 : RegR Cx 44 c44_1 o44_1 := run_region
def o44_3 : List AO := [oA 3 (.move (tm 0)) 3,
  oA 4 (.binOp .geq 3 (tm 3) (ci (-16777216)) 3) 4,
  oA 5 (.move (tm 4)) 4,
  oG 6 (.move (tm 0)) 3 5 true,
  oG 7 (.binOp .leq 3 (tm 6) (ci 16777216) 3) 4 5 true,
  oA 8 (.pick (tm 5) (tm 7) (.const (.bool false))) 4,
  oA 2 (.assign (tm 8)) 4]
def c44_3 : AC := .region o44_3 []
theorem n44_3 : RegR Cx 44 c44_3 o44_3 := run_region
def c44_4 : AC := .ret
theorem n44_4 : RetR Cx 44 c44_4 := run_ret
def c44_2 : AC := .seq c44_3 c44_4
theorem n44_2 : SeqR Cx 44 c44_2 c44_3 c44_4 := run_seq
def c44_0 : AC := .seq c44_1 c44_2
theorem n44_0 : SeqR Cx 44 c44_0 c44_1 c44_2 := run_seq
theorem body44 : bodyOf Cx 44 = some c44_0 := by kernel_rfl
theorem res44 : resOf Cx 44 = some [.tmp 2] := by kernel_rfl
theorem pure44 : Cx.pure 44 = true := by kernel_rfl
def o45_1 : List AO := [oA 2 (.assign (.const (.bool false))) 4]
def c45_1 : AC := .region o45_1 []
theorem n45_1 : RegR Cx 45 c45_1 o45_1 := run_region
def o45_3 : List AO := [oA 3 (.move (tm 0)) 9,
  oA 4 (.move (tm 0)) 9,
  oA 5 (.binOp .neq 9 (tm 3) (tm 4) 9) 4,
  oA 2 (.assign (tm 5)) 4]
def c45_3 : AC := .region o45_3 []
theorem n45_3 : RegR Cx 45 c45_3 o45_3 := run_region
def c45_4 : AC := .ret
theorem n45_4 : RetR Cx 45 c45_4 := run_ret
def c45_2 : AC := .seq c45_3 c45_4
theorem n45_2 : SeqR Cx 45 c45_2 c45_3 c45_4 := run_seq
def c45_0 : AC := .seq c45_1 c45_2
theorem n45_0 : SeqR Cx 45 c45_0 c45_1 c45_2 := run_seq
theorem body45 : bodyOf Cx 45 = some c45_0 := by kernel_rfl
theorem res45 : resOf Cx 45 = some [.tmp 2] := by kernel_rfl
theorem pure45 : Cx.pure 45 = true := by kernel_rfl
def o46_1 : List AO := [oA 10 (.move (tm 1)) 3,
  oA 11 (.binOp .add 3 (tm 10) (ci 1) 3) 3,
  oA 8 (.assign (tm 11)) 3]
def c46_1 : AC := .region o46_1 []
theorem n46_1 : RegR Cx 46 c46_1 o46_1 := run_region
def o46_6 : List AO := [oA 12 (.move (tm 8)) 3,
  oA 13 (.move (tm 2)) 3,
  oA 14 (.binOp .lss 3 (tm 12) (tm 13) 3) 4]
def c46_6 : AC := .region o46_6 []
theorem n46_6 : RegR Cx 46 c46_6 o46_6 := run_region
def c46_8 : AC := .skip
theorem n46_8 : SkipR Cx 46 c46_8 := run_skip
def c46_9 : AC := .exit 0
theorem n46_9 : ExitR Cx 46 c46_9 0 := run_exit_start
def c46_7 : AC := .cond (tm 14) c46_8 c46_9
theorem n46_7 : CondR Cx 46 c46_7 (tm 14) c46_8 c46_9 := run_condC
def c46_5 : AC := .seq c46_6 c46_7
theorem n46_5 : SeqR Cx 46 c46_5 c46_6 c46_7 := run_seq
def o46_13 : List AO := [oA 17 (.move (tm 8)) 3,
  oA 9 (.assign (tm 17)) 3]
def c46_13 : AC := .region o46_13 []
theorem n46_13 : RegR Cx 46 c46_13 o46_13 := run_region
def o46_18 : List AO := [oA 18 (.move (tm 9)) 3,
  oA 19 (.move (tm 1)) 3,
  oA 20 (.binOp .gtr 3 (tm 18) (tm 19) 3) 4,
  oA 21 (.move (tm 20)) 4,
  oG 22 (.move (tm 3)) 59 21 true,
  oG 23 (.move (tm 0)) 22 21 true,
  oG 24 (.move (tm 9)) 3 21 true,
  oG 25 (.indexAddr 22 (tm 23) (tm 24)) 0 21 true,
  oG 26 (.load 42 (tm 25)) 42 21 true,
  oG 27 (.move (tm 0)) 22 21 true,
  oG 28 (.move (tm 9)) 3 21 true,
  oG 29 (.binOp .sub 3 (tm 28) (ci 1) 3) 3 21 true,
  oG 30 (.indexAddr 22 (tm 27) (tm 29)) 0 21 true,
  oG 31 (.load 42 (tm 30)) 42 21 true,
  oG 32 (cV 22 #[(tm 26), (tm 31)] #[42, 42]) 3 21 true,
  oG 33 (.binOp .lss 3 (tm 32) (ci 0) 3) 4 21 true,
  oA 34 (.pick (tm 21) (tm 33) (.const (.bool false))) 4]
def c46_18 : AC := .region o46_18 []
theorem n46_18 : RegR Cx 46 c46_18 o46_18 := run_region
def c46_20 : AC := .skip
theorem n46_20 : SkipR Cx 46 c46_20 := run_skip
def c46_21 : AC := .exit 2
theorem n46_21 : ExitR Cx 46 c46_21 2 := run_exit_start
def c46_19 : AC := .cond (tm 34) c46_20 c46_21
theorem n46_19 : CondR Cx 46 c46_19 (tm 34) c46_20 c46_21 := run_condC
def c46_17 : AC := .seq c46_18 c46_19
theorem n46_17 : SeqR Cx 46 c46_17 c46_18 c46_19 := run_seq
def o46_24 : List AO := [oA 37 (.move (tm 0)) 22,
  oA 38 (.move (tm 9)) 3,
  oA 39 (.move (tm 0)) 22,
  oA 40 (.move (tm 9)) 3,
  oA 41 (.binOp .sub 3 (tm 40) (ci 1) 3) 3,
  oA 42 (.move (tm 0)) 22,
  oA 43 (.move (tm 9)) 3,
  oA 44 (.binOp .sub 3 (tm 43) (ci 1) 3) 3,
  oA 45 (.indexAddr 22 (tm 42) (tm 44)) 0,
  oA 46 (.load 42 (tm 45)) 42,
  oA 47 (.move (tm 0)) 22,
  oA 48 (.move (tm 9)) 3,
  oA 49 (.indexAddr 22 (tm 47) (tm 48)) 0,
  oA 50 (.load 42 (tm 49)) 42,
  oA 51 (.indexAddr 22 (tm 37) (tm 38)) 0,
  oN (.store 42 (tm 51) (tm 46)) 0,
  oA 52 (.indexAddr 22 (tm 39) (tm 41)) 0,
  oN (.store 42 (tm 52) (tm 50)) 0]
def c46_24 : AC := .region o46_24 []
theorem n46_24 : RegR Cx 46 c46_24 o46_24 := run_region
def c46_23 : AC := .block 3 c46_24
theorem n46_23 : BlkR Cx 46 c46_23 3 c46_24 := run_block
def o46_25 : List AO := [oA 35 (.move (tm 9)) 3,
  oA 36 (.binOp .sub 3 (tm 35) (ci 1) 3) 3,
  oA 9 (.assign (tm 36)) 3]
def c46_25 : AC := .region o46_25 []
theorem n46_25 : RegR Cx 46 c46_25 o46_25 := run_region
def c46_22 : AC := .seq c46_23 c46_25
theorem n46_22 : SeqR Cx 46 c46_22 c46_23 c46_25 := run_seq
def c46_16 : AC := .seq c46_17 c46_22
theorem n46_16 : SeqR Cx 46 c46_16 c46_17 c46_22 := run_seq
def c46_15 : AC := .loop c46_16
theorem n46_15 : LoopR Cx 46 c46_15 c46_16 := run_loop'
def c46_14 : AC := .block 2 c46_15
theorem n46_14 : BlkR Cx 46 c46_14 2 c46_15 := run_block
def c46_12 : AC := .seq c46_13 c46_14
theorem n46_12 : SeqR Cx 46 c46_12 c46_13 c46_14 := run_seq
def c46_11 : AC := .block 1 c46_12
theorem n46_11 : BlkR Cx 46 c46_11 1 c46_12 := run_block
def o46_26 : List AO := [oA 15 (.move (tm 8)) 3,
  oA 16 (.binOp .add 3 (tm 15) (ci 1) 3) 3,
  oA 8 (.assign (tm 16)) 3]
def c46_26 : AC := .region o46_26 []
theorem n46_26 : RegR Cx 46 c46_26 o46_26 := run_region
def c46_10 : AC := .seq c46_11 c46_26
theorem n46_10 : SeqR Cx 46 c46_10 c46_11 c46_26 := run_seq
def c46_4 : AC := .seq c46_5 c46_10
theorem n46_4 : SeqR Cx 46 c46_4 c46_5 c46_10 := run_seq
def c46_3 : AC := .loop c46_4
theorem n46_3 : LoopR Cx 46 c46_3 c46_4 := run_loop'
def c46_2 : AC := .block 0 c46_3
theorem n46_2 : BlkR Cx 46 c46_2 0 c46_3 := run_block
def c46_0 : AC := .seq c46_1 c46_2
theorem n46_0 : SeqR Cx 46 c46_0 c46_1 c46_2 := run_seq
theorem body46 : bodyOf Cx 46 = some c46_0 := by kernel_rfl
theorem res46 : resOf Cx 46 = some [] := by kernel_rfl
theorem pure46 : Cx.pure 46 = false := by kernel_rfl
def o47_2 : List AO := [oA 25 (.move (tm 2)) 3,
  oA 26 (.move (tm 1)) 3,
  oA 27 (.binOp .sub 3 (tm 25) (tm 26) 3) 3,
  oA 28 (.binOp .eql 3 (tm 27) (ci 1) 3) 4]
def c47_2 : AC := .region o47_2 []
theorem n47_2 : RegR Cx 47 c47_2 o47_2 := run_region
def o47_5 : List AO := [oA 29 (.move (tm 2)) 3,
  oA 10 (.assign (tm 29)) 3]
def c47_5 : AC := .region o47_5 []
theorem n47_5 : RegR Cx 47 c47_5 o47_5 := run_region
def o47_7 : List AO := [oA 30 (.move (tm 3)) 3,
  oA 11 (.assign (tm 30)) 3]
def c47_7 : AC := .region o47_7 []
theorem n47_7 : RegR Cx 47 c47_7 o47_7 := run_region
def o47_13 : List AO := [oA 31 (.move (tm 10)) 3,
  oA 32 (.move (tm 11)) 3,
  oA 33 (.binOp .lss 3 (tm 31) (tm 32) 3) 4]
def c47_13 : AC := .region o47_13 []
theorem n47_13 : RegR Cx 47 c47_13 o47_13 := run_region
def c47_15 : AC := .skip
theorem n47_15 : SkipR Cx 47 c47_15 := run_skip
def c47_16 : AC := .exit 0
theorem n47_16 : ExitR Cx 47 c47_16 0 := run_exit_start
def c47_14 : AC := .cond (tm 33) c47_15 c47_16
theorem n47_14 : CondR Cx 47 c47_14 (tm 33) c47_15 c47_16 := run_condC
def c47_12 : AC := .seq c47_13 c47_14
theorem n47_12 : SeqR Cx 47 c47_12 c47_13 c47_14 := run_seq
def o47_19 : List AO := [oA 34 (.move (tm 10)) 3,
  oA 35 (.move (tm 11)) 3,
  oA 36 (.binOp .add 3 (tm 34) (tm 35) 3) 3,
  oA 37 (.convert 3 81 (tm 36)) 81,
  oA 38 (.binOp .shr 81 (tm 37) (.const (.int .u64 1)) 81) 81,
  oA 39 (.convert 81 3 (tm 38)) 3,
  oA 12 (.assign (tm 39)) 3]
def c47_19 : AC := .region o47_19 []
theorem n47_19 : RegR Cx 47 c47_19 o47_19 := run_region
def o47_21 : List AO := [oA 40 (.move (tm 4)) 59,
  oA 41 (.move (tm 0)) 22,
  oA 42 (.move (tm 12)) 3,
  oA 43 (.indexAddr 22 (tm 41) (tm 42)) 0,
  oA 44 (.load 42 (tm 43)) 42,
  oA 45 (.move (tm 0)) 22,
  oA 46 (.move (tm 1)) 3,
  oA 47 (.indexAddr 22 (tm 45) (tm 46)) 0,
  oA 48 (.load 42 (tm 47)) 42,
  oA 49 (cV 40 #[(tm 44), (tm 48)] #[42, 42]) 3,
  oA 50 (.binOp .lss 3 (tm 49) (ci 0) 3) 4]
def c47_21 : AC := .region o47_21 []
theorem n47_21 : RegR Cx 47 c47_21 o47_21 := run_region
def o47_23 : List AO := [oA 51 (.move (tm 12)) 3,
  oA 52 (.binOp .add 3 (tm 51) (ci 1) 3) 3,
  oA 10 (.assign (tm 52)) 3]
def c47_23 : AC := .region o47_23 []
theorem n47_23 : RegR Cx 47 c47_23 o47_23 := run_region
def o47_24 : List AO := [oA 53 (.move (tm 12)) 3,
  oA 11 (.assign (tm 53)) 3]
def c47_24 : AC := .region o47_24 []
theorem n47_24 : RegR Cx 47 c47_24 o47_24 := run_region
def c47_22 : AC := .cond (tm 50) c47_23 c47_24
theorem n47_22 : CondR Cx 47 c47_22 (tm 50) c47_23 c47_24 := run_condC
def c47_20 : AC := .seq c47_21 c47_22
theorem n47_20 : SeqR Cx 47 c47_20 c47_21 c47_22 := run_seq
def c47_18 : AC := .seq c47_19 c47_20
theorem n47_18 : SeqR Cx 47 c47_18 c47_19 c47_20 := run_seq
def c47_17 : AC := .block 1 c47_18
theorem n47_17 : BlkR Cx 47 c47_17 1 c47_18 := run_block
def c47_11 : AC := .seq c47_12 c47_17
theorem n47_11 : SeqR Cx 47 c47_11 c47_12 c47_17 := run_seq
def c47_10 : AC := .loop c47_11
theorem n47_10 : LoopR Cx 47 c47_10 c47_11 := run_loop'
def c47_9 : AC := .block 0 c47_10
theorem n47_9 : BlkR Cx 47 c47_9 0 c47_10 := run_block
def o47_27 : List AO := [oA 54 (.move (tm 1)) 3,
  oA 13 (.assign (tm 54)) 3]
def c47_27 : AC := .region o47_27 []
theorem n47_27 : RegR Cx 47 c47_27 o47_27 := run_region
def o47_32 : List AO := [oA 55 (.move (tm 13)) 3,
  oA 56 (.move (tm 10)) 3,
  oA 57 (.binOp .sub 3 (tm 56) (ci 1) 3) 3,
  oA 58 (.binOp .lss 3 (tm 55) (tm 57) 3) 4]
def c47_32 : AC := .region o47_32 []
theorem n47_32 : RegR Cx 47 c47_32 o47_32 := run_region
def c47_34 : AC := .skip
theorem n47_34 : SkipR Cx 47 c47_34 := run_skip
def c47_35 : AC := .exit 2
theorem n47_35 : ExitR Cx 47 c47_35 2 := run_exit_start
def c47_33 : AC := .cond (tm 58) c47_34 c47_35
theorem n47_33 : CondR Cx 47 c47_33 (tm 58) c47_34 c47_35 := run_condC
def c47_31 : AC := .seq c47_32 c47_33
theorem n47_31 : SeqR Cx 47 c47_31 c47_32 c47_33 := run_seq
def o47_38 : List AO := [oA 61 (.move (tm 0)) 22,
  oA 62 (.move (tm 13)) 3,
  oA 63 (.move (tm 0)) 22,
  oA 64 (.move (tm 13)) 3,
  oA 65 (.binOp .add 3 (tm 64) (ci 1) 3) 3,
  oA 66 (.move (tm 0)) 22,
  oA 67 (.move (tm 13)) 3,
  oA 68 (.binOp .add 3 (tm 67) (ci 1) 3) 3,
  oA 69 (.indexAddr 22 (tm 66) (tm 68)) 0,
  oA 70 (.load 42 (tm 69)) 42,
  oA 71 (.move (tm 0)) 22,
  oA 72 (.move (tm 13)) 3,
  oA 73 (.indexAddr 22 (tm 71) (tm 72)) 0,
  oA 74 (.load 42 (tm 73)) 42,
  oA 75 (.indexAddr 22 (tm 61) (tm 62)) 0,
  oN (.store 42 (tm 75) (tm 70)) 0,
  oA 76 (.indexAddr 22 (tm 63) (tm 65)) 0,
  oN (.store 42 (tm 76) (tm 74)) 0]
def c47_38 : AC := .region o47_38 []
theorem n47_38 : RegR Cx 47 c47_38 o47_38 := run_region
def c47_37 : AC := .block 3 c47_38
theorem n47_37 : BlkR Cx 47 c47_37 3 c47_38 := run_block
def o47_39 : List AO := [oA 59 (.move (tm 13)) 3,
  oA 60 (.binOp .add 3 (tm 59) (ci 1) 3) 3,
  oA 13 (.assign (tm 60)) 3]
def c47_39 : AC := .region o47_39 []
theorem n47_39 : RegR Cx 47 c47_39 o47_39 := run_region
def c47_36 : AC := .seq c47_37 c47_39
theorem n47_36 : SeqR Cx 47 c47_36 c47_37 c47_39 := run_seq
def c47_30 : AC := .seq c47_31 c47_36
theorem n47_30 : SeqR Cx 47 c47_30 c47_31 c47_36 := run_seq
def c47_29 : AC := .loop c47_30
theorem n47_29 : LoopR Cx 47 c47_29 c47_30 := run_loop'
def c47_28 : AC := .block 2 c47_29
theorem n47_28 : BlkR Cx 47 c47_28 2 c47_29 := run_block
def c47_26 : AC := .seq c47_27 c47_28
theorem n47_26 : SeqR Cx 47 c47_26 c47_27 c47_28 := run_seq
def c47_40 : AC := .ret
theorem n47_40 : RetR Cx 47 c47_40 := run_ret
def c47_25 : AC := .seq c47_26 c47_40
theorem n47_25 : SeqR Cx 47 c47_25 c47_26 c47_40 := run_seq
def c47_8 : AC := .seq c47_9 c47_25
theorem n47_8 : SeqR Cx 47 c47_8 c47_9 c47_25 := run_seq
def c47_6 : AC := .seq c47_7 c47_8
theorem n47_6 : SeqR Cx 47 c47_6 c47_7 c47_8 := run_seq
def c47_4 : AC := .seq c47_5 c47_6
theorem n47_4 : SeqR Cx 47 c47_4 c47_5 c47_6 := run_seq
def c47_41 : AC := .skip
theorem n47_41 : SkipR Cx 47 c47_41 := run_skip
def c47_3 : AC := .cond (tm 28) c47_4 c47_41
theorem n47_3 : CondR Cx 47 c47_3 (tm 28) c47_4 c47_41 := run_condC
def c47_1 : AC := .seq c47_2 c47_3
theorem n47_1 : SeqR Cx 47 c47_1 c47_2 c47_3 := run_seq
def o47_44 : List AO := [oA 77 (.move (tm 3)) 3,
  oA 78 (.move (tm 2)) 3,
  oA 79 (.binOp .sub 3 (tm 77) (tm 78) 3) 3,
  oA 80 (.binOp .eql 3 (tm 79) (ci 1) 3) 4]
def c47_44 : AC := .region o47_44 []
theorem n47_44 : RegR Cx 47 c47_44 o47_44 := run_region
def o47_47 : List AO := [oA 81 (.move (tm 1)) 3,
  oA 14 (.assign (tm 81)) 3]
def c47_47 : AC := .region o47_47 []
theorem n47_47 : RegR Cx 47 c47_47 o47_47 := run_region
def o47_49 : List AO := [oA 82 (.move (tm 2)) 3,
  oA 15 (.assign (tm 82)) 3]
def c47_49 : AC := .region o47_49 []
theorem n47_49 : RegR Cx 47 c47_49 o47_49 := run_region
def o47_55 : List AO := [oA 83 (.move (tm 14)) 3,
  oA 84 (.move (tm 15)) 3,
  oA 85 (.binOp .lss 3 (tm 83) (tm 84) 3) 4]
def c47_55 : AC := .region o47_55 []
theorem n47_55 : RegR Cx 47 c47_55 o47_55 := run_region
def c47_57 : AC := .skip
theorem n47_57 : SkipR Cx 47 c47_57 := run_skip
def c47_58 : AC := .exit 4
theorem n47_58 : ExitR Cx 47 c47_58 4 := run_exit_start
def c47_56 : AC := .cond (tm 85) c47_57 c47_58
theorem n47_56 : CondR Cx 47 c47_56 (tm 85) c47_57 c47_58 := run_condC
def c47_54 : AC := .seq c47_55 c47_56
theorem n47_54 : SeqR Cx 47 c47_54 c47_55 c47_56 := run_seq
def o47_61 : List AO := [oA 86 (.move (tm 14)) 3,
  oA 87 (.move (tm 15)) 3,
  oA 88 (.binOp .add 3 (tm 86) (tm 87) 3) 3,
  oA 89 (.convert 3 81 (tm 88)) 81,
  oA 90 (.binOp .shr 81 (tm 89) (.const (.int .u64 1)) 81) 81,
  oA 91 (.convert 81 3 (tm 90)) 3,
  oA 16 (.assign (tm 91)) 3]
def c47_61 : AC := .region o47_61 []
theorem n47_61 : RegR Cx 47 c47_61 o47_61 := run_region
def o47_63 : List AO := [oA 92 (.move (tm 4)) 59,
  oA 93 (.move (tm 0)) 22,
  oA 94 (.move (tm 2)) 3,
  oA 95 (.indexAddr 22 (tm 93) (tm 94)) 0,
  oA 96 (.load 42 (tm 95)) 42,
  oA 97 (.move (tm 0)) 22,
  oA 98 (.move (tm 16)) 3,
  oA 99 (.indexAddr 22 (tm 97) (tm 98)) 0,
  oA 100 (.load 42 (tm 99)) 42,
  oA 101 (cV 92 #[(tm 96), (tm 100)] #[42, 42]) 3,
  oA 102 (.binOp .lss 3 (tm 101) (ci 0) 3) 4,
  oA 103 (.unOp .not 4 (tm 102)) 4]
def c47_63 : AC := .region o47_63 []
theorem n47_63 : RegR Cx 47 c47_63 o47_63 := run_region
def o47_65 : List AO := [oA 104 (.move (tm 16)) 3,
  oA 105 (.binOp .add 3 (tm 104) (ci 1) 3) 3,
  oA 14 (.assign (tm 105)) 3]
def c47_65 : AC := .region o47_65 []
theorem n47_65 : RegR Cx 47 c47_65 o47_65 := run_region
def o47_66 : List AO := [oA 106 (.move (tm 16)) 3,
  oA 15 (.assign (tm 106)) 3]
def c47_66 : AC := .region o47_66 []
theorem n47_66 : RegR Cx 47 c47_66 o47_66 := run_region
def c47_64 : AC := .cond (tm 103) c47_65 c47_66
theorem n47_64 : CondR Cx 47 c47_64 (tm 103) c47_65 c47_66 := run_condC
def c47_62 : AC := .seq c47_63 c47_64
theorem n47_62 : SeqR Cx 47 c47_62 c47_63 c47_64 := run_seq
def c47_60 : AC := .seq c47_61 c47_62
theorem n47_60 : SeqR Cx 47 c47_60 c47_61 c47_62 := run_seq
def c47_59 : AC := .block 5 c47_60
theorem n47_59 : BlkR Cx 47 c47_59 5 c47_60 := run_block
def c47_53 : AC := .seq c47_54 c47_59
theorem n47_53 : SeqR Cx 47 c47_53 c47_54 c47_59 := run_seq
def c47_52 : AC := .loop c47_53
theorem n47_52 : LoopR Cx 47 c47_52 c47_53 := run_loop'
def c47_51 : AC := .block 4 c47_52
theorem n47_51 : BlkR Cx 47 c47_51 4 c47_52 := run_block
def o47_69 : List AO := [oA 107 (.move (tm 2)) 3,
  oA 17 (.assign (tm 107)) 3]
def c47_69 : AC := .region o47_69 []
theorem n47_69 : RegR Cx 47 c47_69 o47_69 := run_region
def o47_74 : List AO := [oA 108 (.move (tm 17)) 3,
  oA 109 (.move (tm 14)) 3,
  oA 110 (.binOp .gtr 3 (tm 108) (tm 109) 3) 4]
def c47_74 : AC := .region o47_74 []
theorem n47_74 : RegR Cx 47 c47_74 o47_74 := run_region
def c47_76 : AC := .skip
theorem n47_76 : SkipR Cx 47 c47_76 := run_skip
def c47_77 : AC := .exit 6
theorem n47_77 : ExitR Cx 47 c47_77 6 := run_exit_start
def c47_75 : AC := .cond (tm 110) c47_76 c47_77
theorem n47_75 : CondR Cx 47 c47_75 (tm 110) c47_76 c47_77 := run_condC
def c47_73 : AC := .seq c47_74 c47_75
theorem n47_73 : SeqR Cx 47 c47_73 c47_74 c47_75 := run_seq
def o47_80 : List AO := [oA 113 (.move (tm 0)) 22,
  oA 114 (.move (tm 17)) 3,
  oA 115 (.move (tm 0)) 22,
  oA 116 (.move (tm 17)) 3,
  oA 117 (.binOp .sub 3 (tm 116) (ci 1) 3) 3,
  oA 118 (.move (tm 0)) 22,
  oA 119 (.move (tm 17)) 3,
  oA 120 (.binOp .sub 3 (tm 119) (ci 1) 3) 3,
  oA 121 (.indexAddr 22 (tm 118) (tm 120)) 0,
  oA 122 (.load 42 (tm 121)) 42,
  oA 123 (.move (tm 0)) 22,
  oA 124 (.move (tm 17)) 3,
  oA 125 (.indexAddr 22 (tm 123) (tm 124)) 0,
  oA 126 (.load 42 (tm 125)) 42,
  oA 127 (.indexAddr 22 (tm 113) (tm 114)) 0,
  oN (.store 42 (tm 127) (tm 122)) 0,
  oA 128 (.indexAddr 22 (tm 115) (tm 117)) 0,
  oN (.store 42 (tm 128) (tm 126)) 0]
def c47_80 : AC := .region o47_80 []
theorem n47_80 : RegR Cx 47 c47_80 o47_80 := run_region
def c47_79 : AC := .block 7 c47_80
theorem n47_79 : BlkR Cx 47 c47_79 7 c47_80 := run_block
def o47_81 : List AO := [oA 111 (.move (tm 17)) 3,
  oA 112 (.binOp .sub 3 (tm 111) (ci 1) 3) 3,
  oA 17 (.assign (tm 112)) 3]
def c47_81 : AC := .region o47_81 []
theorem n47_81 : RegR Cx 47 c47_81 o47_81 := run_region
def c47_78 : AC := .seq c47_79 c47_81
theorem n47_78 : SeqR Cx 47 c47_78 c47_79 c47_81 := run_seq
def c47_72 : AC := .seq c47_73 c47_78
theorem n47_72 : SeqR Cx 47 c47_72 c47_73 c47_78 := run_seq
def c47_71 : AC := .loop c47_72
theorem n47_71 : LoopR Cx 47 c47_71 c47_72 := run_loop'
def c47_70 : AC := .block 6 c47_71
theorem n47_70 : BlkR Cx 47 c47_70 6 c47_71 := run_block
def c47_68 : AC := .seq c47_69 c47_70
theorem n47_68 : SeqR Cx 47 c47_68 c47_69 c47_70 := run_seq
def c47_82 : AC := .ret
theorem n47_82 : RetR Cx 47 c47_82 := run_ret
def c47_67 : AC := .seq c47_68 c47_82
theorem n47_67 : SeqR Cx 47 c47_67 c47_68 c47_82 := run_seq
def c47_50 : AC := .seq c47_51 c47_67
theorem n47_50 : SeqR Cx 47 c47_50 c47_51 c47_67 := run_seq
def c47_48 : AC := .seq c47_49 c47_50
theorem n47_48 : SeqR Cx 47 c47_48 c47_49 c47_50 := run_seq
def c47_46 : AC := .seq c47_47 c47_48
theorem n47_46 : SeqR Cx 47 c47_46 c47_47 c47_48 := run_seq
def c47_83 : AC := .skip
theorem n47_83 : SkipR Cx 47 c47_83 := run_skip
def c47_45 : AC := .cond (tm 80) c47_46 c47_83
theorem n47_45 : CondR Cx 47 c47_45 (tm 80) c47_46 c47_83 := run_condC
def c47_43 : AC := .seq c47_44 c47_45
theorem n47_43 : SeqR Cx 47 c47_43 c47_44 c47_45 := run_seq
def o47_85 : List AO := [oA 129 (.move (tm 1)) 3,
  oA 130 (.move (tm 3)) 3,
  oA 131 (.binOp .add 3 (tm 129) (tm 130) 3) 3,
  oA 132 (.convert 3 81 (tm 131)) 81,
  oA 133 (.binOp .shr 81 (tm 132) (.const (.int .u64 1)) 81) 81,
  oA 134 (.convert 81 3 (tm 133)) 3,
  oA 18 (.assign (tm 134)) 3]
def c47_85 : AC := .region o47_85 []
theorem n47_85 : RegR Cx 47 c47_85 o47_85 := run_region
def o47_87 : List AO := [oA 135 (.move (tm 18)) 3,
  oA 136 (.move (tm 2)) 3,
  oA 137 (.binOp .add 3 (tm 135) (tm 136) 3) 3,
  oA 19 (.assign (tm 137)) 3]
def c47_87 : AC := .region o47_87 []
theorem n47_87 : RegR Cx 47 c47_87 o47_87 := run_region
def o47_89 : List AO := [oA 20 (.assign (ci 0)) 3,
  oA 21 (.assign (ci 0)) 3]
def c47_89 : AC := .region o47_89 []
theorem n47_89 : RegR Cx 47 c47_89 o47_89 := run_region
def o47_92 : List AO := [oA 138 (.move (tm 2)) 3,
  oA 139 (.move (tm 18)) 3,
  oA 140 (.binOp .gtr 3 (tm 138) (tm 139) 3) 4]
def c47_92 : AC := .region o47_92 []
theorem n47_92 : RegR Cx 47 c47_92 o47_92 := run_region
def o47_95 : List AO := [oA 141 (.move (tm 19)) 3,
  oA 142 (.move (tm 3)) 3,
  oA 143 (.binOp .sub 3 (tm 141) (tm 142) 3) 3,
  oA 20 (.assign (tm 143)) 3]
def c47_95 : AC := .region o47_95 []
theorem n47_95 : RegR Cx 47 c47_95 o47_95 := run_region
def o47_96 : List AO := [oA 144 (.move (tm 18)) 3,
  oA 21 (.assign (tm 144)) 3]
def c47_96 : AC := .region o47_96 []
theorem n47_96 : RegR Cx 47 c47_96 o47_96 := run_region
def c47_94 : AC := .seq c47_95 c47_96
theorem n47_94 : SeqR Cx 47 c47_94 c47_95 c47_96 := run_seq
def o47_98 : List AO := [oA 145 (.move (tm 1)) 3,
  oA 20 (.assign (tm 145)) 3]
def c47_98 : AC := .region o47_98 []
theorem n47_98 : RegR Cx 47 c47_98 o47_98 := run_region
def o47_99 : List AO := [oA 146 (.move (tm 2)) 3,
  oA 21 (.assign (tm 146)) 3]
def c47_99 : AC := .region o47_99 []
theorem n47_99 : RegR Cx 47 c47_99 o47_99 := run_region
def c47_97 : AC := .seq c47_98 c47_99
theorem n47_97 : SeqR Cx 47 c47_97 c47_98 c47_99 := run_seq
def c47_93 : AC := .cond (tm 140) c47_94 c47_97
theorem n47_93 : CondR Cx 47 c47_93 (tm 140) c47_94 c47_97 := run_condC
def c47_91 : AC := .seq c47_92 c47_93
theorem n47_91 : SeqR Cx 47 c47_91 c47_92 c47_93 := run_seq
def o47_101 : List AO := [oA 147 (.move (tm 19)) 3,
  oA 148 (.binOp .sub 3 (tm 147) (ci 1) 3) 3,
  oA 22 (.assign (tm 148)) 3]
def c47_101 : AC := .region o47_101 []
theorem n47_101 : RegR Cx 47 c47_101 o47_101 := run_region
def o47_107 : List AO := [oA 149 (.move (tm 20)) 3,
  oA 150 (.move (tm 21)) 3,
  oA 151 (.binOp .lss 3 (tm 149) (tm 150) 3) 4]
def c47_107 : AC := .region o47_107 []
theorem n47_107 : RegR Cx 47 c47_107 o47_107 := run_region
def c47_109 : AC := .skip
theorem n47_109 : SkipR Cx 47 c47_109 := run_skip
def c47_110 : AC := .exit 8
theorem n47_110 : ExitR Cx 47 c47_110 8 := run_exit_start
def c47_108 : AC := .cond (tm 151) c47_109 c47_110
theorem n47_108 : CondR Cx 47 c47_108 (tm 151) c47_109 c47_110 := run_condC
def c47_106 : AC := .seq c47_107 c47_108
theorem n47_106 : SeqR Cx 47 c47_106 c47_107 c47_108 := run_seq
def o47_113 : List AO := [oA 152 (.move (tm 20)) 3,
  oA 153 (.move (tm 21)) 3,
  oA 154 (.binOp .add 3 (tm 152) (tm 153) 3) 3,
  oA 155 (.convert 3 81 (tm 154)) 81,
  oA 156 (.binOp .shr 81 (tm 155) (.const (.int .u64 1)) 81) 81,
  oA 157 (.convert 81 3 (tm 156)) 3,
  oA 23 (.assign (tm 157)) 3]
def c47_113 : AC := .region o47_113 []
theorem n47_113 : RegR Cx 47 c47_113 o47_113 := run_region
def o47_115 : List AO := [oA 158 (.move (tm 4)) 59,
  oA 159 (.move (tm 0)) 22,
  oA 160 (.move (tm 22)) 3,
  oA 161 (.move (tm 23)) 3,
  oA 162 (.binOp .sub 3 (tm 160) (tm 161) 3) 3,
  oA 163 (.indexAddr 22 (tm 159) (tm 162)) 0,
  oA 164 (.load 42 (tm 163)) 42,
  oA 165 (.move (tm 0)) 22,
  oA 166 (.move (tm 23)) 3,
  oA 167 (.indexAddr 22 (tm 165) (tm 166)) 0,
  oA 168 (.load 42 (tm 167)) 42,
  oA 169 (cV 158 #[(tm 164), (tm 168)] #[42, 42]) 3,
  oA 170 (.binOp .lss 3 (tm 169) (ci 0) 3) 4,
  oA 171 (.unOp .not 4 (tm 170)) 4]
def c47_115 : AC := .region o47_115 []
theorem n47_115 : RegR Cx 47 c47_115 o47_115 := run_region
def o47_117 : List AO := [oA 172 (.move (tm 23)) 3,
  oA 173 (.binOp .add 3 (tm 172) (ci 1) 3) 3,
  oA 20 (.assign (tm 173)) 3]
def c47_117 : AC := .region o47_117 []
theorem n47_117 : RegR Cx 47 c47_117 o47_117 := run_region
def o47_118 : List AO := [oA 174 (.move (tm 23)) 3,
  oA 21 (.assign (tm 174)) 3]
def c47_118 : AC := .region o47_118 []
theorem n47_118 : RegR Cx 47 c47_118 o47_118 := run_region
def c47_116 : AC := .cond (tm 171) c47_117 c47_118
theorem n47_116 : CondR Cx 47 c47_116 (tm 171) c47_117 c47_118 := run_condC
def c47_114 : AC := .seq c47_115 c47_116
theorem n47_114 : SeqR Cx 47 c47_114 c47_115 c47_116 := run_seq
def c47_112 : AC := .seq c47_113 c47_114
theorem n47_112 : SeqR Cx 47 c47_112 c47_113 c47_114 := run_seq
def c47_111 : AC := .block 9 c47_112
theorem n47_111 : BlkR Cx 47 c47_111 9 c47_112 := run_block
def c47_105 : AC := .seq c47_106 c47_111
theorem n47_105 : SeqR Cx 47 c47_105 c47_106 c47_111 := run_seq
def c47_104 : AC := .loop c47_105
theorem n47_104 : LoopR Cx 47 c47_104 c47_105 := run_loop'
def c47_103 : AC := .block 8 c47_104
theorem n47_103 : BlkR Cx 47 c47_103 8 c47_104 := run_block
def o47_120 : List AO := [oA 175 (.move (tm 19)) 3,
  oA 176 (.move (tm 20)) 3,
  oA 177 (.binOp .sub 3 (tm 175) (tm 176) 3) 3,
  oA 24 (.assign (tm 177)) 3]
def c47_120 : AC := .region o47_120 []
theorem n47_120 : RegR Cx 47 c47_120 o47_120 := run_region
def o47_123 : List AO := [oA 178 (.move (tm 20)) 3,
  oA 179 (.move (tm 2)) 3,
  oA 180 (.binOp .lss 3 (tm 178) (tm 179) 3) 4,
  oA 181 (.move (tm 180)) 4,
  oG 182 (.move (tm 2)) 3 181 true,
  oG 183 (.move (tm 24)) 3 181 true,
  oG 184 (.binOp .lss 3 (tm 182) (tm 183) 3) 4 181 true,
  oA 185 (.pick (tm 181) (tm 184) (.const (.bool false))) 4]
def c47_123 : AC := .region o47_123 []
theorem n47_123 : RegR Cx 47 c47_123 o47_123 := run_region
def o47_125 : List AO := [oA 186 (.move (tm 0)) 22,
  oA 187 (.move (tm 20)) 3,
  oA 188 (.move (tm 2)) 3,
  oA 189 (.move (tm 24)) 3,
  oA 190 (.move (tm 4)) 59,
  oA 191 (cF 48 #[(tm 186), (tm 187), (tm 188), (tm 189), (tm 190)] #[22, 3, 3, 3, 59]) 0]
def c47_125 : AC := .region o47_125 []
theorem n47_125 : RegR Cx 47 c47_125 o47_125 := run_region
def c47_126 : AC := .skip
theorem n47_126 : SkipR Cx 47 c47_126 := run_skip
def c47_124 : AC := .cond (tm 185) c47_125 c47_126
theorem n47_124 : CondR Cx 47 c47_124 (tm 185) c47_125 c47_126 := run_condC
def c47_122 : AC := .seq c47_123 c47_124
theorem n47_122 : SeqR Cx 47 c47_122 c47_123 c47_124 := run_seq
def o47_129 : List AO := [oA 192 (.move (tm 1)) 3,
  oA 193 (.move (tm 20)) 3,
  oA 194 (.binOp .lss 3 (tm 192) (tm 193) 3) 4,
  oA 195 (.move (tm 194)) 4,
  oG 196 (.move (tm 20)) 3 195 true,
  oG 197 (.move (tm 18)) 3 195 true,
  oG 198 (.binOp .lss 3 (tm 196) (tm 197) 3) 4 195 true,
  oA 199 (.pick (tm 195) (tm 198) (.const (.bool false))) 4]
def c47_129 : AC := .region o47_129 []
theorem n47_129 : RegR Cx 47 c47_129 o47_129 := run_region
def o47_131 : List AO := [oA 200 (.move (tm 0)) 22,
  oA 201 (.move (tm 1)) 3,
  oA 202 (.move (tm 20)) 3,
  oA 203 (.move (tm 18)) 3,
  oA 204 (.move (tm 4)) 59,
  oA 205 (cF 47 #[(tm 200), (tm 201), (tm 202), (tm 203), (tm 204)] #[22, 3, 3, 3, 59]) 0]
def c47_131 : AC := .region o47_131 []
theorem n47_131 : RegR Cx 47 c47_131 o47_131 := run_region
def c47_132 : AC := .skip
theorem n47_132 : SkipR Cx 47 c47_132 := run_skip
def c47_130 : AC := .cond (tm 199) c47_131 c47_132
theorem n47_130 : CondR Cx 47 c47_130 (tm 199) c47_131 c47_132 := run_condC
def c47_128 : AC := .seq c47_129 c47_130
theorem n47_128 : SeqR Cx 47 c47_128 c47_129 c47_130 := run_seq
def o47_134 : List AO := [oA 206 (.move (tm 18)) 3,
  oA 207 (.move (tm 24)) 3,
  oA 208 (.binOp .lss 3 (tm 206) (tm 207) 3) 4,
  oA 209 (.move (tm 208)) 4,
  oG 210 (.move (tm 24)) 3 209 true,
  oG 211 (.move (tm 3)) 3 209 true,
  oG 212 (.binOp .lss 3 (tm 210) (tm 211) 3) 4 209 true,
  oA 213 (.pick (tm 209) (tm 212) (.const (.bool false))) 4]
def c47_134 : AC := .region o47_134 []
theorem n47_134 : RegR Cx 47 c47_134 o47_134 := run_region
def o47_136 : List AO := [oA 214 (.move (tm 0)) 22,
  oA 215 (.move (tm 18)) 3,
  oA 216 (.move (tm 24)) 3,
  oA 217 (.move (tm 3)) 3,
  oA 218 (.move (tm 4)) 59,
  oA 219 (cF 47 #[(tm 214), (tm 215), (tm 216), (tm 217), (tm 218)] #[22, 3, 3, 3, 59]) 0]
def c47_136 : AC := .region o47_136 []
theorem n47_136 : RegR Cx 47 c47_136 o47_136 := run_region
def c47_137 : AC := .skip
theorem n47_137 : SkipR Cx 47 c47_137 := run_skip
def c47_135 : AC := .cond (tm 213) c47_136 c47_137
theorem n47_135 : CondR Cx 47 c47_135 (tm 213) c47_136 c47_137 := run_condC
def c47_133 : AC := .seq c47_134 c47_135
theorem n47_133 : SeqR Cx 47 c47_133 c47_134 c47_135 := run_seq
def c47_127 : AC := .seq c47_128 c47_133
theorem n47_127 : SeqR Cx 47 c47_127 c47_128 c47_133 := run_seq
def c47_121 : AC := .seq c47_122 c47_127
theorem n47_121 : SeqR Cx 47 c47_121 c47_122 c47_127 := run_seq
def c47_119 : AC := .seq c47_120 c47_121
theorem n47_119 : SeqR Cx 47 c47_119 c47_120 c47_121 := run_seq
def c47_102 : AC := .seq c47_103 c47_119
theorem n47_102 : SeqR Cx 47 c47_102 c47_103 c47_119 := run_seq
def c47_100 : AC := .seq c47_101 c47_102
theorem n47_100 : SeqR Cx 47 c47_100 c47_101 c47_102 := run_seq
def c47_90 : AC := .seq c47_91 c47_100
theorem n47_90 : SeqR Cx 47 c47_90 c47_91 c47_100 := run_seq
def c47_88 : AC := .seq c47_89 c47_90
theorem n47_88 : SeqR Cx 47 c47_88 c47_89 c47_90 := run_seq
def c47_86 : AC := .seq c47_87 c47_88
theorem n47_86 : SeqR Cx 47 c47_86 c47_87 c47_88 := run_seq
def c47_84 : AC := .seq c47_85 c47_86
theorem n47_84 : SeqR Cx 47 c47_84 c47_85 c47_86 := run_seq
def c47_42 : AC := .seq c47_43 c47_84
theorem n47_42 : SeqR Cx 47 c47_42 c47_43 c47_84 := run_seq
def c47_0 : AC := .seq c47_1 c47_42
theorem n47_0 : SeqR Cx 47 c47_0 c47_1 c47_42 := run_seq
theorem body47 : bodyOf Cx 47 = some c47_0 := by kernel_rfl
theorem res47 : resOf Cx 47 = some [] := by kernel_rfl
theorem pure47 : Cx.pure 47 = false := by kernel_rfl
def o48_1 : List AO := [oA 12 (.move (tm 2)) 3,
  oA 13 (.move (tm 1)) 3,
  oA 14 (.binOp .sub 3 (tm 12) (tm 13) 3) 3,
  oA 10 (.assign (tm 14)) 3]
def c48_1 : AC := .region o48_1 []
theorem n48_1 : RegR Cx 48 c48_1 o48_1 := run_region
def o48_3 : List AO := [oA 15 (.move (tm 3)) 3,
  oA 16 (.move (tm 2)) 3,
  oA 17 (.binOp .sub 3 (tm 15) (tm 16) 3) 3,
  oA 11 (.assign (tm 17)) 3]
def c48_3 : AC := .region o48_3 []
theorem n48_3 : RegR Cx 48 c48_3 o48_3 := run_region
def o48_9 : List AO := [oA 18 (.move (tm 10)) 3,
  oA 19 (.move (tm 11)) 3,
  oA 20 (.binOp .neq 3 (tm 18) (tm 19) 3) 4]
def c48_9 : AC := .region o48_9 []
theorem n48_9 : RegR Cx 48 c48_9 o48_9 := run_region
def c48_11 : AC := .skip
theorem n48_11 : SkipR Cx 48 c48_11 := run_skip
def c48_12 : AC := .exit 0
theorem n48_12 : ExitR Cx 48 c48_12 0 := run_exit_start
def c48_10 : AC := .cond (tm 20) c48_11 c48_12
theorem n48_10 : CondR Cx 48 c48_10 (tm 20) c48_11 c48_12 := run_condC
def c48_8 : AC := .seq c48_9 c48_10
theorem n48_8 : SeqR Cx 48 c48_8 c48_9 c48_10 := run_seq
def o48_15 : List AO := [oA 21 (.move (tm 10)) 3,
  oA 22 (.move (tm 11)) 3,
  oA 23 (.binOp .gtr 3 (tm 21) (tm 22) 3) 4]
def c48_15 : AC := .region o48_15 []
theorem n48_15 : RegR Cx 48 c48_15 o48_15 := run_region
def o48_18 : List AO := [oA 24 (.move (tm 0)) 22,
  oA 25 (.move (tm 2)) 3,
  oA 26 (.move (tm 10)) 3,
  oA 27 (.binOp .sub 3 (tm 25) (tm 26) 3) 3,
  oA 28 (.move (tm 2)) 3,
  oA 29 (.move (tm 11)) 3,
  oA 30 (.move (tm 4)) 59,
  oA 31 (cF 49 #[(tm 24), (tm 27), (tm 28), (tm 29), (tm 30)] #[22, 3, 3, 3, 59]) 0]
def c48_18 : AC := .region o48_18 []
theorem n48_18 : RegR Cx 48 c48_18 o48_18 := run_region
def o48_19 : List AO := [oA 32 (.move (tm 10)) 3,
  oA 33 (.move (tm 11)) 3,
  oA 34 (.binOp .sub 3 (tm 32) (tm 33) 3) 3,
  oA 10 (.assign (tm 34)) 3]
def c48_19 : AC := .region o48_19 []
theorem n48_19 : RegR Cx 48 c48_19 o48_19 := run_region
def c48_17 : AC := .seq c48_18 c48_19
theorem n48_17 : SeqR Cx 48 c48_17 c48_18 c48_19 := run_seq
def o48_21 : List AO := [oA 35 (.move (tm 0)) 22,
  oA 36 (.move (tm 2)) 3,
  oA 37 (.move (tm 10)) 3,
  oA 38 (.binOp .sub 3 (tm 36) (tm 37) 3) 3,
  oA 39 (.move (tm 2)) 3,
  oA 40 (.move (tm 11)) 3,
  oA 41 (.binOp .add 3 (tm 39) (tm 40) 3) 3,
  oA 42 (.move (tm 10)) 3,
  oA 43 (.binOp .sub 3 (tm 41) (tm 42) 3) 3,
  oA 44 (.move (tm 10)) 3,
  oA 45 (.move (tm 4)) 59,
  oA 46 (cF 49 #[(tm 35), (tm 38), (tm 43), (tm 44), (tm 45)] #[22, 3, 3, 3, 59]) 0]
def c48_21 : AC := .region o48_21 []
theorem n48_21 : RegR Cx 48 c48_21 o48_21 := run_region
def o48_22 : List AO := [oA 47 (.move (tm 11)) 3,
  oA 48 (.move (tm 10)) 3,
  oA 49 (.binOp .sub 3 (tm 47) (tm 48) 3) 3,
  oA 11 (.assign (tm 49)) 3]
def c48_22 : AC := .region o48_22 []
theorem n48_22 : RegR Cx 48 c48_22 o48_22 := run_region
def c48_20 : AC := .seq c48_21 c48_22
theorem n48_20 : SeqR Cx 48 c48_20 c48_21 c48_22 := run_seq
def c48_16 : AC := .cond (tm 23) c48_17 c48_20
theorem n48_16 : CondR Cx 48 c48_16 (tm 23) c48_17 c48_20 := run_condC
def c48_14 : AC := .seq c48_15 c48_16
theorem n48_14 : SeqR Cx 48 c48_14 c48_15 c48_16 := run_seq
def c48_13 : AC := .block 1 c48_14
theorem n48_13 : BlkR Cx 48 c48_13 1 c48_14 := run_block
def c48_7 : AC := .seq c48_8 c48_13
theorem n48_7 : SeqR Cx 48 c48_7 c48_8 c48_13 := run_seq
def c48_6 : AC := .loop c48_7
theorem n48_6 : LoopR Cx 48 c48_6 c48_7 := run_loop'
def c48_5 : AC := .block 0 c48_6
theorem n48_5 : BlkR Cx 48 c48_5 0 c48_6 := run_block
def o48_23 : List AO := [oA 50 (.move (tm 0)) 22,
  oA 51 (.move (tm 2)) 3,
  oA 52 (.move (tm 10)) 3,
  oA 53 (.binOp .sub 3 (tm 51) (tm 52) 3) 3,
  oA 54 (.move (tm 2)) 3,
  oA 55 (.move (tm 10)) 3,
  oA 56 (.move (tm 4)) 59,
  oA 57 (cF 49 #[(tm 50), (tm 53), (tm 54), (tm 55), (tm 56)] #[22, 3, 3, 3, 59]) 0]
def c48_23 : AC := .region o48_23 []
theorem n48_23 : RegR Cx 48 c48_23 o48_23 := run_region
def c48_4 : AC := .seq c48_5 c48_23
theorem n48_4 : SeqR Cx 48 c48_4 c48_5 c48_23 := run_seq
def c48_2 : AC := .seq c48_3 c48_4
theorem n48_2 : SeqR Cx 48 c48_2 c48_3 c48_4 := run_seq
def c48_0 : AC := .seq c48_1 c48_2
theorem n48_0 : SeqR Cx 48 c48_0 c48_1 c48_2 := run_seq
theorem body48 : bodyOf Cx 48 = some c48_0 := by kernel_rfl
theorem res48 : resOf Cx 48 = some [] := by kernel_rfl
theorem pure48 : Cx.pure 48 = false := by kernel_rfl
def o49_1 : List AO := [oA 10 (.assign (ci 0)) 3]
def c49_1 : AC := .region o49_1 []
theorem n49_1 : RegR Cx 49 c49_1 o49_1 := run_region
def o49_6 : List AO := [oA 11 (.move (tm 10)) 3,
  oA 12 (.move (tm 3)) 3,
  oA 13 (.binOp .lss 3 (tm 11) (tm 12) 3) 4]
def c49_6 : AC := .region o49_6 []
theorem n49_6 : RegR Cx 49 c49_6 o49_6 := run_region
def c49_8 : AC := .skip
theorem n49_8 : SkipR Cx 49 c49_8 := run_skip
def c49_9 : AC := .exit 0
theorem n49_9 : ExitR Cx 49 c49_9 0 := run_exit_start
def c49_7 : AC := .cond (tm 13) c49_8 c49_9
theorem n49_7 : CondR Cx 49 c49_7 (tm 13) c49_8 c49_9 := run_condC
def c49_5 : AC := .seq c49_6 c49_7
theorem n49_5 : SeqR Cx 49 c49_5 c49_6 c49_7 := run_seq
def o49_12 : List AO := [oA 16 (.move (tm 0)) 22,
  oA 17 (.move (tm 1)) 3,
  oA 18 (.move (tm 10)) 3,
  oA 19 (.binOp .add 3 (tm 17) (tm 18) 3) 3,
  oA 20 (.move (tm 0)) 22,
  oA 21 (.move (tm 2)) 3,
  oA 22 (.move (tm 10)) 3,
  oA 23 (.binOp .add 3 (tm 21) (tm 22) 3) 3,
  oA 24 (.move (tm 0)) 22,
  oA 25 (.move (tm 2)) 3,
  oA 26 (.move (tm 10)) 3,
  oA 27 (.binOp .add 3 (tm 25) (tm 26) 3) 3,
  oA 28 (.indexAddr 22 (tm 24) (tm 27)) 0,
  oA 29 (.load 42 (tm 28)) 42,
  oA 30 (.move (tm 0)) 22,
  oA 31 (.move (tm 1)) 3,
  oA 32 (.move (tm 10)) 3,
  oA 33 (.binOp .add 3 (tm 31) (tm 32) 3) 3,
  oA 34 (.indexAddr 22 (tm 30) (tm 33)) 0,
  oA 35 (.load 42 (tm 34)) 42,
  oA 36 (.indexAddr 22 (tm 16) (tm 19)) 0,
  oN (.store 42 (tm 36) (tm 29)) 0,
  oA 37 (.indexAddr 22 (tm 20) (tm 23)) 0,
  oN (.store 42 (tm 37) (tm 35)) 0]
def c49_12 : AC := .region o49_12 []
theorem n49_12 : RegR Cx 49 c49_12 o49_12 := run_region
def c49_11 : AC := .block 1 c49_12
theorem n49_11 : BlkR Cx 49 c49_11 1 c49_12 := run_block
def o49_13 : List AO := [oA 14 (.move (tm 10)) 3,
  oA 15 (.binOp .add 3 (tm 14) (ci 1) 3) 3,
  oA 10 (.assign (tm 15)) 3]
def c49_13 : AC := .region o49_13 []
theorem n49_13 : RegR Cx 49 c49_13 o49_13 := run_region
def c49_10 : AC := .seq c49_11 c49_13
theorem n49_10 : SeqR Cx 49 c49_10 c49_11 c49_13 := run_seq
def c49_4 : AC := .seq c49_5 c49_10
theorem n49_4 : SeqR Cx 49 c49_4 c49_5 c49_10 := run_seq
def c49_3 : AC := .loop c49_4
theorem n49_3 : LoopR Cx 49 c49_3 c49_4 := run_loop'
def c49_2 : AC := .block 0 c49_3
theorem n49_2 : BlkR Cx 49 c49_2 0 c49_3 := run_block
def c49_0 : AC := .seq c49_1 c49_2
theorem n49_0 : SeqR Cx 49 c49_0 c49_1 c49_2 := run_seq
theorem body49 : bodyOf Cx 49 = some c49_0 := by kernel_rfl
theorem res49 : resOf Cx 49 = some [] := by kernel_rfl
theorem pure49 : Cx.pure 49 = false := by kernel_rfl
end
end Go.Proofs.Ytbfjkomlnpolmaa.G


namespace Go.BX
set_option linter.unusedSimpArgs false
set_option linter.unusedVariables false
variable {C : Ctx} {fn : FuncId} {T : Nat → AV} {ds : List ADef} {ro : Option Nat} {H : AHeap} {Q : AV → AHeap → Prop} {k : List AItem}
def loopH (fn : FuncId) (T : Nat → AV) (params : List Nat) (assign body : AC) (H : AHeap) : AHeap :=
  (H.push .dfr).push (.loop { state := .ready, pending := none, fn := fn, T := T, params := params, assign := assign, body := body, defers := H.next })
theorem run_rangeFunc {f : Operand} {params : List Nat} {assign body gb : AC} {g : FuncId} {first caps : List AV}
    (hf : ev T f = some (.fn g first caps)) (hp : C.pure g = false) (hx : C.ext g = none) (hb : bodyOf C g = some gb)
    (h : Run C g (enterT (first ++ [.yld (H.next + 1)] ++ caps)) [] none [.code gb] (loopH fn T params assign body H) (fun _ H3 => ∃ L, H3.at_ (H.next + 1) = .loop L ∧ L.state ≠ .busy ∧ jumpOk L.pending = true ∧
      Run C fn T (.collected H.next :: ds) none ((L.pending.map AItem.code).toList ++ k) (H3.set (H.next + 1) (.loop { L with state := .exhausted })) Q)) :
    Run C fn T ds none (.code (.rangeFunc f params assign body) :: k) H Q := by
  obtain ⟨n, r, H3, he, L, hL, h1, h2, m, r', H', he', hq⟩ := h
  refine ⟨max n m + 1, r', H', ?_, hq⟩
  unfold bodyOf at hb
  simp only [Option.map_eq_some_iff] at hb
  obtain ⟨fi, hfi, rfl⟩ := hb
  have hc : callF C (cln C (max n m)) g (first ++ [.yld (H.next + 1)] ++ caps) (loopH fn T params assign body H) = some (r, H3) := by
    unfold callF
    rw [if_neg (by simp [hp])]
    show (clMk C (exec C (max n m))).call g _ _ = _
    simp only [clMk, hx, hfi]
    exact exec_le (Nat.le_max_left n m) _ _ _ _ he
  have he2 := exec_le (Nat.le_max_right n m) _ _ _ _ he'
  show stepA C (exec C (max n m)) _ _ H = _
  have hs : enterLoopA { fn := fn, T := T, defers := ds, round := none } params assign body H = some (H.next + 1, [.collected H.next], loopH fn T params assign body H) := rfl
  have hno : ¬ (L.state = .busy ∨ jumpOk L.pending = false) := by
    rintro (h | h)
    · exact h1 h
    · rw [h2] at h; cases h
  simp only [stepA, hf, hs]
  rw [show callF C (clMk C (exec C (max n m))) g (first ++ [.yld (H.next + 1)] ++ caps) (loopH fn T params assign body H) = some (r, H3) from hc]
  simp only [hL, hno, if_false, List.cons_append, List.nil_append]
  exact he2
theorem rop_yield {x : Operand} {args : Array Operand} {ts : Array TypeId} {vs : List AV} {l : Nat} {L : ALoop} {dst : Option Nat} {os : List AO} (h : evs T args.toList = some vs) (hf : ev T x = some (.yld l)) (hL : H.at_ l = .loop L) (hlen : vs.length = L.params.length)
    (hr : Run C L.fn (foldPut L.T L.params vs) [] (some l) [.code L.assign, .beginRound, .code L.body] H (fun r H1 => RunOps C fn (putA T dst r) ds ro os k H1 Q)) :
    RunOp C fn T ds ro (.call { callee := .value x, args := args, argTypes := ts }) dst os k H Q := by
  obtain ⟨n, r, H1, he, m, r', H', he', hq⟩ := hr
  refine ⟨max n m, r', H', ?_, hq⟩
  have hc : opRun C (cln C (max n m)) ro.isSome T ds H (.call { callee := .value x, args := args, argTypes := ts }) = some (r, ds, H1) := by
    simp only [opRun, opCall, h, hf, callV]
    have : (cln C (max n m)).round l vs H = some (r, H1) := by
      simp only [cln, clMk, hL, hlen, if_true]
      exact exec_le (Nat.le_max_left n m) _ _ _ _ he
    rw [this]
  rw [hc]
  exact thenRun_ops_le (Nat.le_max_right n m) he'
theorem run_begin {l : Nat} {L : ALoop} (hL : H.at_ l = .loop L) (hs : L.state = .ready) : Run C fn T ds (some l) (.beginRound :: k) H Q = Run C fn T ds (some l) k (H.set l (.loop { L with state := .busy })) Q :=
  run_step fun ex => by simp only [stepA, hL, hs, if_true]
theorem run_leave {items : List AItem} {r : AV} {H' : AHeap} (h : ∀ ex, stepA C ex { fn := fn, T := T, defers := ds, round := ro } items H = some (r, H')) : Run C fn T ds ro items H Q = Q r H' := by
  apply propext
  constructor
  · rintro ⟨n, r1, H1, he, hq⟩
    cases n with
    | zero => simp [exec] at he
    | succ n => simp only [exec, h] at he; cases he; exact hq
  · intro hq
    exact ⟨1, r, H', by simp only [exec, h], hq⟩
theorem round_nil {l : Nat} {L : ALoop} (hL : H.at_ l = .loop L) : Run C fn T ds (some l) [] H Q = Q (.bool true) (H.set l (.loop { L with state := .ready, pending := none })) :=
  run_leave fun ex => by simp [stepA, leaveA, hL]
theorem round_ret {l : Nat} {L : ALoop} (hL : H.at_ l = .loop L) : Run C fn T ds (some l) (.code .ret :: k) H Q = Q (.bool false) (H.set l (.loop { L with state := .done, pending := some .ret })) :=
  run_leave fun ex => by simp [stepA, leaveA, hL]
theorem round_exit {l id : Nat} {L : ALoop} (hL : H.at_ l = .loop L) (he : exitA id k = none) : Run C fn T ds (some l) (.code (.exit id) :: k) H Q = Q (.bool false) (H.set l (.loop { L with state := .done, pending := some (.exit id) })) :=
  run_leave fun ex => by simp [stepA, leaveA, hL, he]
theorem round_goto {l id : Nat} {L : ALoop} (hL : H.at_ l = .loop L) (he : gotoA id k = none) : Run C fn T ds (some l) (.code (.goto id) :: k) H Q = Q (.bool false) (H.set l (.loop { L with state := .done, pending := some (.goto id) })) :=
  run_leave fun ex => by simp [stepA, leaveA, hL, he]
def RunDefs (C : Ctx) : List ADef → AHeap → (AHeap → Prop) → Prop
  | [], H, K => K H
  | .collected b :: ds, H, K => H.at_ b = .dfr ∧ RunDefs C ds (H.set b .dead) K
  | .call (.fn f first caps) args :: ds, H, K => C.ext f = none ∧ ∃ body, bodyOf C f = some body ∧ Run C f (enterT (first ++ args ++ caps)) [] none [.code body] H (fun _ H1 => RunDefs C ds H1 K)
  | .call _ _ :: _, _, _ => False
theorem runDefs_ok : ∀ (ds : List ADef) (H : AHeap) (K : AHeap → Prop), RunDefs C ds H K → ∃ n H', (∀ m, n ≤ m → runDefers C (cln C m) ds H = some H') ∧ K H'
  | [], H, K, h => ⟨0, H, fun m _ => by simp [runDefers], h⟩
  | .collected b :: ds, H, K, h => by
    obtain ⟨h1, h2⟩ := h
    obtain ⟨n, H', h3, h4⟩ := runDefs_ok ds _ K h2
    exact ⟨n, H', fun m hm => by simp only [runDefers, h1]; exact h3 m hm, h4⟩
  | .call v args :: ds, H, K, h => by
    cases v with
    | fn f first caps =>
      obtain ⟨hx, body, hb, n, r, H1, he, hr⟩ := h
      obtain ⟨m, H', h3, h4⟩ := runDefs_ok ds _ K hr
      unfold bodyOf at hb
      simp only [Option.map_eq_some_iff] at hb
      obtain ⟨fi, hfi, rfl⟩ := hb
      refine ⟨max n m, H', fun p hp => ?_, h4⟩
      have hc : (cln C p).call f (first ++ args ++ caps) H = some (r, H1) := by
        show (clMk C (exec C p)).call f _ _ = _
        simp only [clMk, hx, hfi]
        exact exec_le (by omega) _ _ _ _ he
      simp only [runDefers, hx, Option.isSome_none, Bool.false_eq_true, if_false]
      rw [hc]
      exact h3 p (by omega)
    | _ => exact h.elim
theorem leave_defs {items : List AItem} (hi : items = [] ∨ ∃ k', items = .code .ret :: k') (h : RunDefs C ds H (fun H' => RunRes C T H' Q (resOf C fn))) : Run C fn T ds none items H Q := by
  obtain ⟨n, H', hd, hr⟩ := runDefs_ok ds H _ h
  have hl : ∃ r, leaveA C (cln C n) { fn := fn, T := T, defers := ds, round := none } (if items = [] then none else some .ret) H = some (r, H') ∧ Q r H' := by
    unfold RunRes resOf at hr
    cases hf : C.FT fn with
    | none => rw [hf] at hr; exact hr.elim
    | some fi =>
      rw [hf] at hr
      simp only [Option.map_some] at hr
      cases hv : resultsA C T H' fi.results with
      | none => rw [hv] at hr; exact hr.elim
      | some vs =>
        rw [hv] at hr
        refine ⟨oneOf vs, ?_, hr⟩
        have hj : isRetA (if items = [] then none else some .ret) = true := by split <;> rfl
        simp only [leaveA, hj, if_true, hd n (Nat.le_refl _), hf, hv, Option.map_some]
  obtain ⟨r, hl, hq⟩ := hl
  refine ⟨n + 1, r, H', ?_, hq⟩
  rcases hi with rfl | ⟨k', rfl⟩
  · simp only [if_true] at hl; exact hl
  · simp only [reduceCtorEq, if_false] at hl; exact hl
theorem ret_col {b : Nat} (hb : H.at_ b = .dfr) (h : RunRes C T (H.set b .dead) Q (resOf C fn)) : Run C fn T [.collected b] none (.code .ret :: k) H Q :=
  leave_defs (.inr ⟨k, rfl⟩) ⟨hb, h⟩
end Go.BX

namespace Go.BX
set_option linter.unusedSimpArgs false
set_option linter.unusedVariables false
variable {C : Ctx} {fn : FuncId} {T : Nat → AV} {ds : List ADef} {ro : Option Nat} {H : AHeap} {Q : AV → AHeap → Prop} {k : List AItem}
def isSl (C : Ctx) (t te : TypeId) : Prop := ∃ ti, C.TT t = some ti ∧ ti.kind = .slice te
theorem app_row {t te kk by_ n g : Nat} {A : Nat → Blk} {es : List (List AV)} {row : List AV} (h1 : isSl C t te) (h2 : ∃ ti, C.TT te = some ti ∧ ti.size = kk ∧ ti.bytes = by_) (hg : A g = .cells te kk es) (hn : g ≠ n) (hm : (es.length + 1) * by_ ≤ most) (hm2 : es.length + 1 ≤ most) :
    builtinM C ⟨n + 1, upd A n (.cells te kk [row])⟩ .append [t, t] [.slc g kk 0 es.length, .slc n kk 0 1] = some (.slc (n + 1) kk 0 (es.length + 1), ⟨n + 1 + 1, upd (upd (upd A n (.cells te kk [row])) g .dead) (n + 1) (.cells te kk (es ++ [row]))⟩) := by
  obtain ⟨ti, t1, t2⟩ := h1
  obtain ⟨tj, t3, t4, t5⟩ := h2
  obtain ⟨knd, sz, byt, zr, eq⟩ := ti
  simp only at t2
  subst t2
  subst t4 t5
  have hs : source ⟨n + 1, upd A n (.cells te tj.size [row])⟩ tj.size (.slc n tj.size 0 1) = some [row] := by
    simp [source, elems]
  have ha : (upd A n (Blk.cells te tj.size [row])) g = .cells te tj.size es := by rw [upd_app, if_neg hn]; exact hg
  simp only [builtinM, t1, appendA, t3, hs, ha, true_and, Nat.le_refl, List.length_singleton, hm, hm2, and_self, if_true, List.cons_ne_self, reduceCtorEq, if_false, List.take_length, AHeap.set, AHeap.push]
theorem app_rowT {t te kk by_ n g m : Nat} {A : Nat → Blk} {es : List (List AV)} {row : List AV} (h1 : isSl C t te) (h2 : ∃ ti, C.TT te = some ti ∧ ti.size = kk ∧ ti.bytes = by_) (hg : A g = .cells te kk es) (hn : g ≠ n) (hme : m ≤ es.length) (hm : (m + 1) * by_ ≤ most) (hm2 : m + 1 ≤ most) :
    builtinM C ⟨n + 1, upd A n (.cells te kk [row])⟩ .append [t, t] [.slc g kk 0 m, .slc n kk 0 1] = some (.slc (n + 1) kk 0 (m + 1), ⟨n + 1 + 1, upd (upd (upd A n (.cells te kk [row])) g .dead) (n + 1) (.cells te kk (es.take m ++ [row]))⟩) := by
  obtain ⟨ti, t1, t2⟩ := h1
  obtain ⟨tj, t3, t4, t5⟩ := h2
  obtain ⟨knd, sz, byt, zr, eq⟩ := ti
  simp only at t2
  subst t2
  subst t4 t5
  have hs : source ⟨n + 1, upd A n (.cells te tj.size [row])⟩ tj.size (.slc n tj.size 0 1) = some [row] := by
    simp [source, elems]
  have ha : (upd A n (Blk.cells te tj.size [row])) g = .cells te tj.size es := by rw [upd_app, if_neg hn]; exact hg
  simp only [builtinM, t1, appendA, t3, hs, ha, hme, true_and, List.length_singleton, hm, hm2, and_self, if_true, reduceCtorEq, if_false, AHeap.set, AHeap.push]
theorem app_nil {t te kk by_ n : Nat} {A : Nat → Blk} {row : List AV} (h1 : isSl C t te) (h2 : ∃ ti, C.TT te = some ti ∧ ti.size = kk ∧ ti.bytes = by_) (hm : by_ ≤ most) :
    builtinM C ⟨n + 1, upd A n (.cells te kk [row])⟩ .append [t, t] [.nilS, .slc n kk 0 1] = some (.slc (n + 1) kk 0 1, ⟨n + 1 + 1, upd (upd A n (.cells te kk [row])) (n + 1) (.cells te kk [row])⟩) := by
  obtain ⟨ti, t1, t2⟩ := h1
  obtain ⟨tj, t3, t4, t5⟩ := h2
  obtain ⟨knd, sz, byt, zr, eq⟩ := ti
  simp only at t2
  subst t2
  subst t4 t5
  have hs : source ⟨n + 1, upd A n (.cells te tj.size [row])⟩ tj.size (.slc n tj.size 0 1) = some [row] := by
    simp [source, elems]
  have hm2 : 1 ≤ most := by decide
  simp only [builtinM, t1, appendA, t3, hs, List.length_singleton, Nat.one_mul, hm, hm2, and_self, if_true, reduceCtorEq, if_false, AHeap.push]
theorem runA_yield {x : Operand} {args : Array Operand} {ts : Array TypeId} {vs : List AV} {l : Nat} {L : ALoop} {dst : Option Nat} {os : List AO} (h : evs T args.toList = some vs) (hf : ev T x = some (.yld l)) (hL : H.at_ l = .loop L) (hlen : vs.length = L.params.length)
    (hr : Run C L.fn (foldPut L.T L.params vs) [] (some l) [.code L.assign, .beginRound, .code L.body] H (fun r H1 => RunOps C fn (putA T dst r) ds ro os k H1 Q)) :
    RunA C fn T ds ro (.call { callee := .value x, args := args, argTypes := ts }) dst os k H Q (some (.yld l)) (some vs) :=
  rop_yield (C := C) (ts := ts) h hf hL hlen hr
section
variable {dst : Option Nat} {os : List AO} {cs : List (List Nat)}
def DynB (C : Ctx) (ro : Option Nat) (b : Builtin) (ts : List TypeId) (op : Op) (dst : Option Nat) (os : List AO) (cs : List (List Nat)) (T : Nat → AV) (ds : List ADef) (H : AHeap) : Option (List AV) → Prop
  | some vs => DynV C ro dst os cs T ds (builtinA C H b ts vs)
  | none => DynOp C ro op dst os cs T ds H
theorem dop_builtinC {b : Builtin} {args : Array Operand} {ts : Array TypeId} : DynOp C ro (.call { callee := .builtin b, args := args, argTypes := ts }) dst os cs T ds H = DynB C ro b ts.toList (.call { callee := .builtin b, args := args, argTypes := ts }) dst os cs T ds H (evs T args.toList) := by
  cases h : evs T args.toList with
  | none => rfl
  | some vs =>
    unfold DynB
    rw [dop_of (z := builtinA C H b ts.toList vs)]
    intro cl
    simp only [opRun, opCall, h]
    cases builtinA C H b ts.toList vs with
    | none => rfl
    | some z => obtain ⟨v, H1⟩ := z; rfl
theorem dynB_some {b : Builtin} {ts : List TypeId} {op : Op} {vs : List AV} : DynB C ro b ts op dst os cs T ds H (some vs) = DynV C ro dst os cs T ds (builtinA C H b ts vs) := rfl
theorem apart_nil {b k i j : Nat} : apartA (.ptr b k i j) .nilS = true := rfl
theorem apart_slc {b b' k k' i i' j j' : Nat} : apartA (.ptr b k i j) (.slc b' k' i' j') = (b != b') := rfl
end
end Go.BX

namespace Go.BX
theorem bb : (And ((And ((And ((And ((And ((And ((And (type_of% (@ro_cons)) (type_of% (@ro_nil)))) ((And (type_of% (@ro_guardC)) (type_of% 
  (@runGuard_bool)))))) ((And ((And (type_of% (@runGuard_undef)) (type_of% (@rop_assign)))) ((And (type_of% (@rop_move)) (type_of% 
  (@rop_binOp)))))))) ((And ((And ((And (type_of% (@rop_unOp)) (type_of% (@rop_pick)))) ((And (type_of% (@rop_box)) (type_of% 
  (@rop_alloc)))))) ((And ((And (type_of% (@rop_build)) (type_of% (@rop_field)))) ((And (type_of% (@rop_fieldAddr)) (type_of% 
  (@rop_load)))))))))) ((And ((And ((And ((And (type_of% (@rop_store)) (type_of% (@rop_convert)))) ((And (type_of% (@rop_extract)) (type_of% 
  (@rop_nilCheck)))))) ((And ((And (type_of% (@rop_builtinC)) (type_of% (@rop_callC)))) ((And (type_of% (@runA_fn)) (type_of% 
  (@runB_some)))))))) ((And ((And ((And (type_of% (@runV_some)) (type_of% (@runVH_some)))) ((And (type_of% (@runCond_bool)) (type_of% 
  (@fltOf_0)))))) ((And ((And (type_of% (@upd_app)) (type_of% (@decide_true)))) ((And (type_of% (@decide_false)) ((And (type_of% 
  (@Nat.zero_add)) (type_of% (@Bool.false_eq_true)))))))))))))) ((And ((And ((And ((And ((And (type_of% (@Bool.not_true)) (type_of% 
  (@Bool.not_false)))) ((And (type_of% (@List.getElem?_cons_zero.{0})) (type_of% (@List.getElem?_cons_succ.{0})))))) ((And ((And (type_of% 
  (@List.getElem?_nil.{0})) (type_of% (@Option.getD_some.{0})))) ((And (type_of% (@Option.map_some.{0,0})) (type_of% (@freeze_int)))))))) 
  ((And ((And ((And (type_of% (@freeze_bool)) (type_of% (@freeze_str)))) ((And (type_of% (@freeze_flt)) (type_of% (@freeze_cpx)))))) ((And 
  ((And (type_of% (@freeze_agg)) (type_of% (@freeze_tuple)))) ((And (type_of% (@freeze2_int)) (type_of% (@freeze2_bool)))))))))) ((And ((And 
  ((And ((And (type_of% (@freeze2_agg)) (type_of% (@freeze2_cpx)))) ((And (type_of% (@freeze2_flt)) (type_of% (@freeze1_int)))))) ((And ((And 
  (type_of% (@freeze1_bool)) (type_of% (@freeze1_str)))) ((And (type_of% (@mapO_nil)) (type_of% (@mapO_cons)))))))) ((And ((And ((And 
  (type_of% (@consO_some)) (type_of% (@List.length_cons.{0})))) ((And (type_of% (@List.length_nil.{0})) (type_of% 
  (@List.take_succ_cons.{0})))))) ((And ((And (type_of% (@List.take_zero.{0})) (type_of% (@List.take_nil.{0})))) ((And (type_of% 
  (@List.drop_succ_cons.{0})) ((And (type_of% (@List.drop_zero.{0})) (type_of% (@List.drop_nil.{0})))))))))))))))) ((And ((And ((And ((And 
  ((And ((And (type_of% (@List.cons_append.{0})) (type_of% (@List.nil_append.{0})))) ((And (type_of% (@List.append_nil.{0})) (type_of% 
  (@List.set_cons_zero.{0})))))) ((And ((And (type_of% (@List.set_cons_succ.{0})) (type_of% (@true_and)))) ((And (type_of% (@and_true)) 
  (type_of% (@and_self)))))))) ((And ((And ((And (type_of% (@Option.bind_some.{0,0})) (type_of% (@dyn_nil)))) ((And (type_of% (@dyn_end)) 
  (type_of% (@dyn_cons)))))) ((And ((And (type_of% (@dop_move)) (type_of% (@dop_assign)))) ((And (type_of% (@dop_build)) (type_of% 
  (@dop_nilCheck)))))))))) ((And ((And ((And ((And (type_of% (@dop_fieldAddr)) (type_of% (@dop_field)))) ((And (type_of% (@dop_indexAddr)) 
  (type_of% (@dop_binOp)))))) ((And ((And (type_of% (@dop_extract)) (type_of% (@dop_load)))) ((And (type_of% (@dop_store)) (type_of% 
  (@dop_alloc)))))))) ((And ((And ((And (type_of% (@dop_box)) (type_of% (@dop_buildSlice)))) ((And (type_of% (@dynV_some)) (type_of% 
  (@chk_nil)))))) ((And ((And (type_of% (@chk_cons)) (type_of% (@apart_ptr)))) ((And (type_of% (@bne_iff_ne.{0})) ((And (type_of% 
  (@ne_eq.{1})) (type_of% (@not_false_eq_true)))))))))))))) ((And ((And ((And ((And ((And (type_of% (@not_true_eq_false)) (type_of% 
  (@Nat.le_refl)))) ((And (type_of% (@Nat.add_zero)) (type_of% (@Bool.true_and)))))) ((And ((And (type_of% (@Bool.and_true)) (type_of% 
  (@Bool.false_and)))) ((And (type_of% (@Bool.and_false)) (type_of% (@beq_self_eq_true.{0})))))))) ((And ((And ((And (type_of% 
  (@bne_self_eq_false.{0})) (type_of% (@rop_indexAddr)))) ((And (type_of% (@rop_buildSlice)) (type_of% (@rop_index)))))) ((And ((And (type_of% 
  (@rop_slice)) (type_of% (@rop_makeSlice)))) ((And (type_of% (@rop_makeFunc)) (type_of% (@List.flatten_cons.{0})))))))))) ((And ((And ((And 
  ((And (type_of% (@List.flatten_nil.{0})) (type_of% (@freeze_slc)))) ((And (type_of% (@freeze2_slc)) (type_of% (@freeze1_slc)))))) ((And 
  ((And (type_of% (@frzE_some)) (type_of% (@freeze1_emp)))) ((And (type_of% (@freeze_emp)) (type_of% (@freeze2_emp)))))))) ((And ((And ((And 
  (type_of% (@freeze_nilS)) (type_of% (@freeze2_nilS)))) ((And (type_of% (@freeze1_nilS)) (type_of% (@freeze_vec)))))) ((And ((And (type_of% 
  (@freeze2_vec)) (type_of% (@freeze1_vec)))) ((And (type_of% (@Int.toNat_zero)) ((And (type_of% (@Int.toNat_one)) (type_of% 
  (@Int.cast_ofNat_Int))))))))))))))))) :=
  (And.intro (And.intro (And.intro (And.intro (And.intro (And.intro (And.intro (@ro_cons) (@ro_nil)) (And.intro (@ro_guardC) 
  (@runGuard_bool))) (And.intro (And.intro (@runGuard_undef) (@rop_assign)) (And.intro (@rop_move) (@rop_binOp)))) (And.intro (And.intro 
  (And.intro (@rop_unOp) (@rop_pick)) (And.intro (@rop_box) (@rop_alloc))) (And.intro (And.intro (@rop_build) (@rop_field)) (And.intro 
  (@rop_fieldAddr) (@rop_load))))) (And.intro (And.intro (And.intro (And.intro (@rop_store) (@rop_convert)) (And.intro (@rop_extract) 
  (@rop_nilCheck))) (And.intro (And.intro (@rop_builtinC) (@rop_callC)) (And.intro (@runA_fn) (@runB_some)))) (And.intro (And.intro (And.intro 
  (@runV_some) (@runVH_some)) (And.intro (@runCond_bool) (@fltOf_0))) (And.intro (And.intro (@upd_app) (@decide_true)) (And.intro 
  (@decide_false) (And.intro (@Nat.zero_add) (@Bool.false_eq_true))))))) (And.intro (And.intro (And.intro (And.intro (And.intro 
  (@Bool.not_true) (@Bool.not_false)) (And.intro (@List.getElem?_cons_zero.{0}) (@List.getElem?_cons_succ.{0}))) (And.intro (And.intro 
  (@List.getElem?_nil.{0}) (@Option.getD_some.{0})) (And.intro (@Option.map_some.{0,0}) (@freeze_int)))) (And.intro (And.intro (And.intro 
  (@freeze_bool) (@freeze_str)) (And.intro (@freeze_flt) (@freeze_cpx))) (And.intro (And.intro (@freeze_agg) (@freeze_tuple)) (And.intro 
  (@freeze2_int) (@freeze2_bool))))) (And.intro (And.intro (And.intro (And.intro (@freeze2_agg) (@freeze2_cpx)) (And.intro (@freeze2_flt) 
  (@freeze1_int))) (And.intro (And.intro (@freeze1_bool) (@freeze1_str)) (And.intro (@mapO_nil) (@mapO_cons)))) (And.intro (And.intro 
  (And.intro (@consO_some) (@List.length_cons.{0})) (And.intro (@List.length_nil.{0}) (@List.take_succ_cons.{0}))) (And.intro (And.intro 
  (@List.take_zero.{0}) (@List.take_nil.{0})) (And.intro (@List.drop_succ_cons.{0}) (And.intro (@List.drop_zero.{0}) 
  (@List.drop_nil.{0})))))))) (And.intro (And.intro (And.intro (And.intro (And.intro (And.intro (@List.cons_append.{0}) 
  (@List.nil_append.{0})) (And.intro (@List.append_nil.{0}) (@List.set_cons_zero.{0}))) (And.intro (And.intro (@List.set_cons_succ.{0}) 
  (@true_and)) (And.intro (@and_true) (@and_self)))) (And.intro (And.intro (And.intro (@Option.bind_some.{0,0}) (@dyn_nil)) (And.intro 
  (@dyn_end) (@dyn_cons))) (And.intro (And.intro (@dop_move) (@dop_assign)) (And.intro (@dop_build) (@dop_nilCheck))))) (And.intro (And.intro 
  (And.intro (And.intro (@dop_fieldAddr) (@dop_field)) (And.intro (@dop_indexAddr) (@dop_binOp))) (And.intro (And.intro (@dop_extract) 
  (@dop_load)) (And.intro (@dop_store) (@dop_alloc)))) (And.intro (And.intro (And.intro (@dop_box) (@dop_buildSlice)) (And.intro (@dynV_some) 
  (@chk_nil))) (And.intro (And.intro (@chk_cons) (@apart_ptr)) (And.intro (@bne_iff_ne.{0}) (And.intro (@ne_eq.{1}) (@not_false_eq_true))))))) 
  (And.intro (And.intro (And.intro (And.intro (And.intro (@not_true_eq_false) (@Nat.le_refl)) (And.intro (@Nat.add_zero) (@Bool.true_and))) 
  (And.intro (And.intro (@Bool.and_true) (@Bool.false_and)) (And.intro (@Bool.and_false) (@beq_self_eq_true.{0})))) (And.intro (And.intro 
  (And.intro (@bne_self_eq_false.{0}) (@rop_indexAddr)) (And.intro (@rop_buildSlice) (@rop_index))) (And.intro (And.intro (@rop_slice) 
  (@rop_makeSlice)) (And.intro (@rop_makeFunc) (@List.flatten_cons.{0}))))) (And.intro (And.intro (And.intro (And.intro 
  (@List.flatten_nil.{0}) (@freeze_slc)) (And.intro (@freeze2_slc) (@freeze1_slc))) (And.intro (And.intro (@frzE_some) (@freeze1_emp)) 
  (And.intro (@freeze_emp) (@freeze2_emp)))) (And.intro (And.intro (And.intro (@freeze_nilS) (@freeze2_nilS)) (And.intro (@freeze1_nilS) 
  (@freeze_vec))) (And.intro (And.intro (@freeze2_vec) (@freeze1_vec)) (And.intro (@Int.toNat_zero) (And.intro (@Int.toNat_one) 
  (@Int.cast_ofNat_Int)))))))))
end Go.BX

namespace Go.Proofs.Ytbfjkomlnpolmaa.G
open Go.BX
set_option linter.unusedSimpArgs false
set_option linter.unusedVariables false
theorem wr64 {n : Int} (h1 : -9223372036854775808 ≤ n) (h2 : n ≤ 9223372036854775807) : IntKind.i64.wrap n = n := by
  rw [IntKind.wrap_i64]; omega
structure Pr where
  key : Bytes
  k : Int
  n : Int
  s : Bytes
  x : Int
  y : Int
def encP (p : Pr) : List AV := [.str p.key, .int .i64 p.k, .int .i64 p.n, .str p.s, .int .i64 p.x, .int .i64 p.y]
abbrev pairA (p : Pr) : AV := .agg [.str p.key, .int .i64 p.k, .int .i64 p.n, .str p.s, .int .i64 p.x, .int .i64 p.y]
def InL (v : AV) (l : List Pr) : Prop := (v = .nilS ∧ l = []) ∨ v = .vec 6 (l.map encP)
theorem enc_get {l : List Pr} {i : Nat} {p : Pr} (h : l[i]? = some p) : (l.map encP)[i]? = some [.str p.key, .int .i64 p.k, .int .i64 p.n, .str p.s, .int .i64 p.x, .int .i64 p.y] := by
  rw [List.getElem?_map, h]; rfl
end Go.Proofs.Ytbfjkomlnpolmaa.G

namespace Go.Proofs.Ytbfjkomlnpolmaa.G
open Go.BX
set_option linter.unusedSimpArgs false
set_option linter.unusedVariables false
abbrev spot (x y : Int) : AV := .agg [.int .i64 x, .int .i64 y]
abbrev val (k n : Int) (s : Bytes) (x y : Int) : AV := .agg [.int .i64 k, .int .i64 n, .str s, .int .i64 x, .int .i64 y]
def inR (n : Int) : Bool := decide (-16777216 ≤ n) && decide (n ≤ 16777216)
theorem inside_ok (x : Int) : PCall Cx 44 [.int .i64 x] (.bool (inR x)) := by
  refine pcall_run (noext _) body44 ?_
  by_cases h : -16777216 ≤ x <;>
  simp only [h, inR, n44_0, n44_1, n44_2, n44_3, n44_4, o44_1, o44_3, res44, bb, primP, primM, ev, evs, parts_, ofConst, bin, un, intBin, putA, enterT, Nat.reduceEqDiff, Nat.reduceAdd, Nat.reduceMul, Nat.reduceLeDiff, Nat.reduceLT, ↓reduceIte, reduceCtorEq, RunRes, resultsA, oneOf, AV.plain, AV.cells, AHeap.push, AHeap.set, AHeap.empty, fieldOf, loadA, storeA, BX.part, TK.isAgg, convA, builtinA, inertB, builtinP, buildA, fillA, splice, eqv, cellsEq, sizeT, adT, ldT, fwT, Nat.reduceBeqDiff, Nat.reduceBneDiff, Int.reduceBNe, Int.reduceBEq, Int.reduceEq, Int.reduceLT, Int.reduceLE, Int.reduceAdd, Int.reduceSub, Int.reduceMul, Int.reduceNeg, strBin, indexAddrA, elems, lenOf, chunk, List.reduceReplicate, Int.reduceToNat]
theorem gRight_ok (x y : Int) : PCall Cx 35 [spot x y] (.bool (inR x && inR y)) := by
  refine pcall_run (noext _) body35 ?_
  by_cases h : inR x = true
  · simp only [h, spot, call_pure pure44 rfl (inside_ok x), call_pure pure44 rfl (inside_ok y), n35_0, n35_1, n35_2, n35_3, n35_4, o35_1, o35_3, res35, TT_3, TT_4, TT_5, TT_9, TT_22, TT_25, TT_26, TT_29, TT_33, TT_38, TT_40, TT_42, TT_47, TT_50, TT_57, TT_59, TT_66, TT_68, TT_69, TT_70, TT_72, TT_81, bb, primP, primM, ev, evs, parts_, ofConst, bin, un, intBin, putA, enterT, Nat.reduceEqDiff, Nat.reduceAdd, Nat.reduceMul, Nat.reduceLeDiff, Nat.reduceLT, ↓reduceIte, reduceCtorEq, RunRes, resultsA, oneOf, AV.plain, AV.cells, AHeap.push, AHeap.set, AHeap.empty, fieldOf, loadA, storeA, BX.part, TK.isAgg, convA, builtinA, inertB, builtinP, buildA, fillA, splice, eqv, cellsEq, sizeT, adT, ldT, fwT, Nat.reduceBeqDiff, Nat.reduceBneDiff, Int.reduceBNe, Int.reduceBEq, Int.reduceEq, Int.reduceLT, Int.reduceLE, Int.reduceAdd, Int.reduceSub, Int.reduceMul, Int.reduceNeg, strBin, indexAddrA, elems, lenOf, chunk, List.reduceReplicate, Int.reduceToNat]
  · simp only [Bool.not_eq_true] at h
    simp only [h, spot, call_pure pure44 rfl (inside_ok x), n35_0, n35_1, n35_2, n35_3, n35_4, o35_1, o35_3, res35, TT_3, TT_4, TT_5, TT_9, TT_22, TT_25, TT_26, TT_29, TT_33, TT_38, TT_40, TT_42, TT_47, TT_50, TT_57, TT_59, TT_66, TT_68, TT_69, TT_70, TT_72, TT_81, bb, primP, primM, ev, evs, parts_, ofConst, bin, un, intBin, putA, enterT, Nat.reduceEqDiff, Nat.reduceAdd, Nat.reduceMul, Nat.reduceLeDiff, Nat.reduceLT, ↓reduceIte, reduceCtorEq, RunRes, resultsA, oneOf, AV.plain, AV.cells, AHeap.push, AHeap.set, AHeap.empty, fieldOf, loadA, storeA, BX.part, TK.isAgg, convA, builtinA, inertB, builtinP, buildA, fillA, splice, eqv, cellsEq, sizeT, adT, ldT, fwT, Nat.reduceBeqDiff, Nat.reduceBneDiff, Int.reduceBNe, Int.reduceBEq, Int.reduceEq, Int.reduceLT, Int.reduceLE, Int.reduceAdd, Int.reduceSub, Int.reduceMul, Int.reduceNeg, strBin, indexAddrA, elems, lenOf, chunk, List.reduceReplicate, Int.reduceToNat]
def rightV (k n : Int) (s : Bytes) (x y : Int) : Bool :=
  if k = 0 then ((decide (-9007199254740992 ≤ n) && decide (n ≤ 9007199254740992)) && !(s != [])) && !(!((x == 0) && (y == 0)))
  else if k = 1 then (decide ((s.length : Int) ≤ 4096) && !(n != 0)) && !(!((x == 0) && (y == 0)))
  else if k = 2 then ((inR x && inR y) && !(n != 0)) && !(s != [])
  else false
theorem Right_ok (k n : Int) (s : Bytes) (x y : Int) : PCall Cx 25 [val k n s x y] (.bool (rightV k n s x y)) := by
  refine pcall_run (noext _) body25 ?_
  unfold rightV
  by_cases h0 : k = 0
  · subst h0
    cases h1 : decide (-9007199254740992 ≤ n) with
    | false => simp only [h1, Bool.false_and, run_exit_start, exit_here, exit_code, run_inBlock, n25_0, n25_1, n25_2, n25_3, n25_4, n25_5, n25_6, n25_7, n25_8, n25_9, n25_10, n25_11, n25_12, n25_13, n25_14, n25_15, n25_16, n25_17, n25_18, n25_19, n25_20, n25_21, n25_22, n25_23, n25_24, n25_25, n25_26, n25_27, n25_28, n25_29, o25_1, o25_3, o25_6, o25_9, o25_12, o25_15, o25_18, o25_21, o25_24, o25_28, res25, TT_3, TT_4, TT_5, TT_9, TT_22, TT_25, TT_26, TT_29, TT_33, TT_38, TT_40, TT_42, TT_47, TT_50, TT_57, TT_59, TT_66, TT_68, TT_69, TT_70, TT_72, TT_81, bb, primP, primM, ev, evs, parts_, ofConst, bin, un, intBin, putA, enterT, Nat.reduceEqDiff, Nat.reduceAdd, Nat.reduceMul, Nat.reduceLeDiff, Nat.reduceLT, ↓reduceIte, reduceCtorEq, RunRes, resultsA, oneOf, AV.plain, AV.cells, AHeap.push, AHeap.set, AHeap.empty, fieldOf, loadA, storeA, BX.part, TK.isAgg, convA, builtinA, inertB, builtinP, buildA, fillA, splice, eqv, cellsEq, sizeT, adT, ldT, fwT, Nat.reduceBeqDiff, Nat.reduceBneDiff, Int.reduceBNe, Int.reduceBEq, Int.reduceEq, Int.reduceLT, Int.reduceLE, Int.reduceAdd, Int.reduceSub, Int.reduceMul, Int.reduceNeg, strBin, indexAddrA, elems, lenOf, chunk, List.reduceReplicate, Int.reduceToNat]
    | true =>
      cases h2 : decide (n ≤ 9007199254740992) with
      | false => simp only [h1, h2, Bool.false_and, run_exit_start, exit_here, exit_code, run_inBlock, n25_0, n25_1, n25_2, n25_3, n25_4, n25_5, n25_6, n25_7, n25_8, n25_9, n25_10, n25_11, n25_12, n25_13, n25_14, n25_15, n25_16, n25_17, n25_18, n25_19, n25_20, n25_21, n25_22, n25_23, n25_24, n25_25, n25_26, n25_27, n25_28, n25_29, o25_1, o25_3, o25_6, o25_9, o25_12, o25_15, o25_18, o25_21, o25_24, o25_28, res25, TT_3, TT_4, TT_5, TT_9, TT_22, TT_25, TT_26, TT_29, TT_33, TT_38, TT_40, TT_42, TT_47, TT_50, TT_57, TT_59, TT_66, TT_68, TT_69, TT_70, TT_72, TT_81, bb, primP, primM, ev, evs, parts_, ofConst, bin, un, intBin, putA, enterT, Nat.reduceEqDiff, Nat.reduceAdd, Nat.reduceMul, Nat.reduceLeDiff, Nat.reduceLT, ↓reduceIte, reduceCtorEq, RunRes, resultsA, oneOf, AV.plain, AV.cells, AHeap.push, AHeap.set, AHeap.empty, fieldOf, loadA, storeA, BX.part, TK.isAgg, convA, builtinA, inertB, builtinP, buildA, fillA, splice, eqv, cellsEq, sizeT, adT, ldT, fwT, Nat.reduceBeqDiff, Nat.reduceBneDiff, Int.reduceBNe, Int.reduceBEq, Int.reduceEq, Int.reduceLT, Int.reduceLE, Int.reduceAdd, Int.reduceSub, Int.reduceMul, Int.reduceNeg, strBin, indexAddrA, elems, lenOf, chunk, List.reduceReplicate, Int.reduceToNat]
      | true =>
        cases h3 : (s != []) <;>
        simp only [h1, h2, h3, Bool.false_and, Bool.true_and, run_exit_start, exit_here, exit_code, run_inBlock, n25_0, n25_1, n25_2, n25_3, n25_4, n25_5, n25_6, n25_7, n25_8, n25_9, n25_10, n25_11, n25_12, n25_13, n25_14, n25_15, n25_16, n25_17, n25_18, n25_19, n25_20, n25_21, n25_22, n25_23, n25_24, n25_25, n25_26, n25_27, n25_28, n25_29, o25_1, o25_3, o25_6, o25_9, o25_12, o25_15, o25_18, o25_21, o25_24, o25_28, res25, TT_3, TT_4, TT_5, TT_9, TT_22, TT_25, TT_26, TT_29, TT_33, TT_38, TT_40, TT_42, TT_47, TT_50, TT_57, TT_59, TT_66, TT_68, TT_69, TT_70, TT_72, TT_81, bb, primP, primM, ev, evs, parts_, ofConst, bin, un, intBin, putA, enterT, Nat.reduceEqDiff, Nat.reduceAdd, Nat.reduceMul, Nat.reduceLeDiff, Nat.reduceLT, ↓reduceIte, reduceCtorEq, RunRes, resultsA, oneOf, AV.plain, AV.cells, AHeap.push, AHeap.set, AHeap.empty, fieldOf, loadA, storeA, BX.part, TK.isAgg, convA, builtinA, inertB, builtinP, buildA, fillA, splice, eqv, cellsEq, sizeT, adT, ldT, fwT, Nat.reduceBeqDiff, Nat.reduceBneDiff, Int.reduceBNe, Int.reduceBEq, Int.reduceEq, Int.reduceLT, Int.reduceLE, Int.reduceAdd, Int.reduceSub, Int.reduceMul, Int.reduceNeg, strBin, indexAddrA, elems, lenOf, chunk, List.reduceReplicate, Int.reduceToNat]
  · have e0 : (k == 0) = false := by simpa using h0
    by_cases h1 : k = 1
    · subst h1
      cases h2 : decide ((s.length : Int) ≤ 4096) with
      | false => simp only [h2, Bool.false_and, run_exit_start, exit_here, exit_code, run_inBlock, n25_0, n25_1, n25_2, n25_3, n25_4, n25_5, n25_6, n25_7, n25_8, n25_9, n25_10, n25_11, n25_12, n25_13, n25_14, n25_15, n25_16, n25_17, n25_18, n25_19, n25_20, n25_21, n25_22, n25_23, n25_24, n25_25, n25_26, n25_27, n25_28, n25_29, o25_1, o25_3, o25_6, o25_9, o25_12, o25_15, o25_18, o25_21, o25_24, o25_28, res25, TT_3, TT_4, TT_5, TT_9, TT_22, TT_25, TT_26, TT_29, TT_33, TT_38, TT_40, TT_42, TT_47, TT_50, TT_57, TT_59, TT_66, TT_68, TT_69, TT_70, TT_72, TT_81, bb, primP, primM, ev, evs, parts_, ofConst, bin, un, intBin, putA, enterT, Nat.reduceEqDiff, Nat.reduceAdd, Nat.reduceMul, Nat.reduceLeDiff, Nat.reduceLT, ↓reduceIte, reduceCtorEq, RunRes, resultsA, oneOf, AV.plain, AV.cells, AHeap.push, AHeap.set, AHeap.empty, fieldOf, loadA, storeA, BX.part, TK.isAgg, convA, builtinA, inertB, builtinP, buildA, fillA, splice, eqv, cellsEq, sizeT, adT, ldT, fwT, Nat.reduceBeqDiff, Nat.reduceBneDiff, Int.reduceBNe, Int.reduceBEq, Int.reduceEq, Int.reduceLT, Int.reduceLE, Int.reduceAdd, Int.reduceSub, Int.reduceMul, Int.reduceNeg, strBin, indexAddrA, elems, lenOf, chunk, List.reduceReplicate, Int.reduceToNat]
      | true =>
        cases h3 : (n != 0) <;>
        simp only [h2, h3, Bool.false_and, Bool.true_and, run_exit_start, exit_here, exit_code, run_inBlock, n25_0, n25_1, n25_2, n25_3, n25_4, n25_5, n25_6, n25_7, n25_8, n25_9, n25_10, n25_11, n25_12, n25_13, n25_14, n25_15, n25_16, n25_17, n25_18, n25_19, n25_20, n25_21, n25_22, n25_23, n25_24, n25_25, n25_26, n25_27, n25_28, n25_29, o25_1, o25_3, o25_6, o25_9, o25_12, o25_15, o25_18, o25_21, o25_24, o25_28, res25, TT_3, TT_4, TT_5, TT_9, TT_22, TT_25, TT_26, TT_29, TT_33, TT_38, TT_40, TT_42, TT_47, TT_50, TT_57, TT_59, TT_66, TT_68, TT_69, TT_70, TT_72, TT_81, bb, primP, primM, ev, evs, parts_, ofConst, bin, un, intBin, putA, enterT, Nat.reduceEqDiff, Nat.reduceAdd, Nat.reduceMul, Nat.reduceLeDiff, Nat.reduceLT, ↓reduceIte, reduceCtorEq, RunRes, resultsA, oneOf, AV.plain, AV.cells, AHeap.push, AHeap.set, AHeap.empty, fieldOf, loadA, storeA, BX.part, TK.isAgg, convA, builtinA, inertB, builtinP, buildA, fillA, splice, eqv, cellsEq, sizeT, adT, ldT, fwT, Nat.reduceBeqDiff, Nat.reduceBneDiff, Int.reduceBNe, Int.reduceBEq, Int.reduceEq, Int.reduceLT, Int.reduceLE, Int.reduceAdd, Int.reduceSub, Int.reduceMul, Int.reduceNeg, strBin, indexAddrA, elems, lenOf, chunk, List.reduceReplicate, Int.reduceToNat]
    · have e1 : (k == 1) = false := by simpa using h1
      by_cases h2 : k = 2
      · subst h2
        cases h3 : (inR x && inR y) with
        | false => simp only [h3, call_pure pure35 rfl (gRight_ok x y), Bool.false_and, run_exit_start, exit_here, exit_code, run_inBlock, n25_0, n25_1, n25_2, n25_3, n25_4, n25_5, n25_6, n25_7, n25_8, n25_9, n25_10, n25_11, n25_12, n25_13, n25_14, n25_15, n25_16, n25_17, n25_18, n25_19, n25_20, n25_21, n25_22, n25_23, n25_24, n25_25, n25_26, n25_27, n25_28, n25_29, o25_1, o25_3, o25_6, o25_9, o25_12, o25_15, o25_18, o25_21, o25_24, o25_28, res25, TT_3, TT_4, TT_5, TT_9, TT_22, TT_25, TT_26, TT_29, TT_33, TT_38, TT_40, TT_42, TT_47, TT_50, TT_57, TT_59, TT_66, TT_68, TT_69, TT_70, TT_72, TT_81, bb, primP, primM, ev, evs, parts_, ofConst, bin, un, intBin, putA, enterT, Nat.reduceEqDiff, Nat.reduceAdd, Nat.reduceMul, Nat.reduceLeDiff, Nat.reduceLT, ↓reduceIte, reduceCtorEq, RunRes, resultsA, oneOf, AV.plain, AV.cells, AHeap.push, AHeap.set, AHeap.empty, fieldOf, loadA, storeA, BX.part, TK.isAgg, convA, builtinA, inertB, builtinP, buildA, fillA, splice, eqv, cellsEq, sizeT, adT, ldT, fwT, Nat.reduceBeqDiff, Nat.reduceBneDiff, Int.reduceBNe, Int.reduceBEq, Int.reduceEq, Int.reduceLT, Int.reduceLE, Int.reduceAdd, Int.reduceSub, Int.reduceMul, Int.reduceNeg, strBin, indexAddrA, elems, lenOf, chunk, List.reduceReplicate, Int.reduceToNat]
        | true =>
          cases h4 : (n != 0) <;>
          simp only [h3, h4, call_pure pure35 rfl (gRight_ok x y), Bool.false_and, Bool.true_and, run_exit_start, exit_here, exit_code, run_inBlock, n25_0, n25_1, n25_2, n25_3, n25_4, n25_5, n25_6, n25_7, n25_8, n25_9, n25_10, n25_11, n25_12, n25_13, n25_14, n25_15, n25_16, n25_17, n25_18, n25_19, n25_20, n25_21, n25_22, n25_23, n25_24, n25_25, n25_26, n25_27, n25_28, n25_29, o25_1, o25_3, o25_6, o25_9, o25_12, o25_15, o25_18, o25_21, o25_24, o25_28, res25, TT_3, TT_4, TT_5, TT_9, TT_22, TT_25, TT_26, TT_29, TT_33, TT_38, TT_40, TT_42, TT_47, TT_50, TT_57, TT_59, TT_66, TT_68, TT_69, TT_70, TT_72, TT_81, bb, primP, primM, ev, evs, parts_, ofConst, bin, un, intBin, putA, enterT, Nat.reduceEqDiff, Nat.reduceAdd, Nat.reduceMul, Nat.reduceLeDiff, Nat.reduceLT, ↓reduceIte, reduceCtorEq, RunRes, resultsA, oneOf, AV.plain, AV.cells, AHeap.push, AHeap.set, AHeap.empty, fieldOf, loadA, storeA, BX.part, TK.isAgg, convA, builtinA, inertB, builtinP, buildA, fillA, splice, eqv, cellsEq, sizeT, adT, ldT, fwT, Nat.reduceBeqDiff, Nat.reduceBneDiff, Int.reduceBNe, Int.reduceBEq, Int.reduceEq, Int.reduceLT, Int.reduceLE, Int.reduceAdd, Int.reduceSub, Int.reduceMul, Int.reduceNeg, strBin, indexAddrA, elems, lenOf, chunk, List.reduceReplicate, Int.reduceToNat]
      · have e2 : (k == 2) = false := by simpa using h2
        simp only [h0, h1, h2, e0, e1, e2, run_exit_start, exit_here, exit_code, run_inBlock, n25_0, n25_1, n25_2, n25_3, n25_4, n25_5, n25_6, n25_7, n25_8, n25_9, n25_10, n25_11, n25_12, n25_13, n25_14, n25_15, n25_16, n25_17, n25_18, n25_19, n25_20, n25_21, n25_22, n25_23, n25_24, n25_25, n25_26, n25_27, n25_28, n25_29, o25_1, o25_3, o25_6, o25_9, o25_12, o25_15, o25_18, o25_21, o25_24, o25_28, res25, TT_3, TT_4, TT_5, TT_9, TT_22, TT_25, TT_26, TT_29, TT_33, TT_38, TT_40, TT_42, TT_47, TT_50, TT_57, TT_59, TT_66, TT_68, TT_69, TT_70, TT_72, TT_81, bb, primP, primM, ev, evs, parts_, ofConst, bin, un, intBin, putA, enterT, Nat.reduceEqDiff, Nat.reduceAdd, Nat.reduceMul, Nat.reduceLeDiff, Nat.reduceLT, ↓reduceIte, reduceCtorEq, RunRes, resultsA, oneOf, AV.plain, AV.cells, AHeap.push, AHeap.set, AHeap.empty, fieldOf, loadA, storeA, BX.part, TK.isAgg, convA, builtinA, inertB, builtinP, buildA, fillA, splice, eqv, cellsEq, sizeT, adT, ldT, fwT, Nat.reduceBeqDiff, Nat.reduceBneDiff, Int.reduceBNe, Int.reduceBEq, Int.reduceEq, Int.reduceLT, Int.reduceLE, Int.reduceAdd, Int.reduceSub, Int.reduceMul, Int.reduceNeg, strBin, indexAddrA, elems, lenOf, chunk, List.reduceReplicate, Int.reduceToNat]
def cmpI (x y : Int) : Int := if x < y then -1 else if y < x then 1 else 0
def oc (a b : Int) : Int := if a = 0 then b else a
def ordV (k n : Int) (s : Bytes) (x y : Int) (k' n' : Int) (s' : Bytes) (x' y' : Int) : Int := oc (cmpI k k') (oc (cmpI n n') (oc (cmpL s s') (oc (cmpI x x') (cmpI y y'))))
end Go.Proofs.Ytbfjkomlnpolmaa.G
