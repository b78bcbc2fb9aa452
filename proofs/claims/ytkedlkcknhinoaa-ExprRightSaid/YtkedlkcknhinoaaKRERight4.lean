import Derived.Test.YtkedlkcknhinoaaKRERight3
namespace Go.Proofs.Ytkedlkcknhinoaa.G
open Go.BX
section
variable {T : Nat → AV} {ds : List ADef} {ro : Option Nat} {k : List AItem} {H : AHeap} {Q : AV → AHeap → Prop}
def o3_1 : List AO := [oA 4 (.assign (.const (.bool false))) 4]
def c3_1 : AC := .region o3_1 []
theorem n3_1 : RegR Cx 3 c3_1 o3_1 := run_region
def o3_4 : List AO := [oA 15 (cF 7 #[] #[]) 4,
  oA 16 (.unOp .not 4 (tm 15)) 4,
  oA 17 (.move (tm 16)) 4,
  oG 18 (.move (tm 0)) 22 17 false,
  oG 19 (cF 8 #[(tm 18)] #[22]) 4 17 false,
  oG 20 (.unOp .not 4 (tm 19)) 4 17 false,
  oA 21 (.pick (tm 17) (.const (.bool true)) (tm 20)) 4]
def c3_4 : AC := .region o3_4 []
theorem n3_4 : RegR Cx 3 c3_4 o3_4 := run_region
def o3_7 : List AO := [oA 22 (cF 7 #[] #[]) 4,
  oA 4 (.assign (tm 22)) 4]
def c3_7 : AC := .region o3_7 []
theorem n3_7 : RegR Cx 3 c3_7 o3_7 := run_region
def c3_8 : AC := .ret
theorem n3_8 : RetR Cx 3 c3_8 := run_ret
def c3_6 : AC := .seq c3_7 c3_8
theorem n3_6 : SeqR Cx 3 c3_6 c3_7 c3_8 := run_seq
def c3_9 : AC := .skip
theorem n3_9 : SkipR Cx 3 c3_9 := run_skip
def c3_5 : AC := .cond (tm 21) c3_6 c3_9
theorem n3_5 : CondR Cx 3 c3_5 (tm 21) c3_6 c3_9 := run_condC
def c3_3 : AC := .seq c3_4 c3_5
theorem n3_3 : SeqR Cx 3 c3_3 c3_4 c3_5 := run_seq
def o3_11 : List AO := [oA 23 (.move (tm 0)) 22,
  oA 24 (cF 9 #[(tm 23)] #[22]) 25,
  oA 5 (.assign (tm 24)) 25]
def c3_11 : AC := .region o3_11 []
theorem n3_11 : RegR Cx 3 c3_11 o3_11 := run_region
def o3_13 : List AO := [oA 26 (.move (tm 5)) 25,
  oA 27 (.move (tm 1)) 3,
  oA 28 (cF 10 #[(tm 26), (tm 27)] #[25, 3]) 27,
  oA 25 (.move (tm 28)) 27,
  oA 29 (.extract (tm 25) 0) 3,
  oA 30 (.extract (tm 25) 1) 4,
  oA 6 (.assign (tm 29)) 3,
  oA 7 (.assign (tm 30)) 4]
def c3_13 : AC := .region o3_13 []
theorem n3_13 : RegR Cx 3 c3_13 o3_13 := run_region
def o3_16 : List AO := [oA 31 (.move (tm 7)) 4,
  oA 32 (.unOp .not 4 (tm 31)) 4]
def c3_16 : AC := .region o3_16 []
theorem n3_16 : RegR Cx 3 c3_16 o3_16 := run_region
def o3_19 : List AO := [oA 33 (.move (tm 6)) 3,
  oA 34 (.binOp .eql 3 (tm 33) (ci 0) 3) 4,
  oA 4 (.assign (tm 34)) 4]
def c3_19 : AC := .region o3_19 []
theorem n3_19 : RegR Cx 3 c3_19 o3_19 := run_region
def c3_20 : AC := .ret
theorem n3_20 : RetR Cx 3 c3_20 := run_ret
def c3_18 : AC := .seq c3_19 c3_20
theorem n3_18 : SeqR Cx 3 c3_18 c3_19 c3_20 := run_seq
def c3_21 : AC := .skip
theorem n3_21 : SkipR Cx 3 c3_21 := run_skip
def c3_17 : AC := .cond (tm 32) c3_18 c3_21
theorem n3_17 : CondR Cx 3 c3_17 (tm 32) c3_18 c3_21 := run_condC
def c3_15 : AC := .seq c3_16 c3_17
theorem n3_15 : SeqR Cx 3 c3_15 c3_16 c3_17 := run_seq
def o3_24 : List AO := [oA 35 (.move (tm 5)) 25,
  oA 36 (.move (tm 1)) 3,
  oA 37 (.move (tm 6)) 3,
  oA 38 (.slice 25 (tm 35) (some (tm 36)) (some (tm 37)) none) 25,
  oA 39 (cF 11 #[(tm 38)] #[25]) 4,
  oA 40 (.unOp .not 4 (tm 39)) 4]
def c3_24 : AC := .region o3_24 []
theorem n3_24 : RegR Cx 3 c3_24 o3_24 := run_region
def o3_27 : List AO := [oA 4 (.assign (.const (.bool false))) 4]
def c3_27 : AC := .region o3_27 []
theorem n3_27 : RegR Cx 3 c3_27 o3_27 := run_region
def c3_28 : AC := .ret
theorem n3_28 : RetR Cx 3 c3_28 := run_ret
def c3_26 : AC := .seq c3_27 c3_28
theorem n3_26 : SeqR Cx 3 c3_26 c3_27 c3_28 := run_seq
def c3_29 : AC := .skip
theorem n3_29 : SkipR Cx 3 c3_29 := run_skip
def c3_25 : AC := .cond (tm 40) c3_26 c3_29
theorem n3_25 : CondR Cx 3 c3_25 (tm 40) c3_26 c3_29 := run_condC
def c3_23 : AC := .seq c3_24 c3_25
theorem n3_23 : SeqR Cx 3 c3_23 c3_24 c3_25 := run_seq
def o3_31 : List AO := [oA 42 (.move (tm 5)) 25,
  oA 43 (.move (tm 1)) 3,
  oA 44 (.indexAddr 25 (tm 42) (tm 43)) 0,
  oA 45 (.fieldAddr 37 (tm 44) 0) 0,
  oA 46 (.load 3 (tm 45)) 3,
  oA 47 (cF 12 #[(tm 46)] #[3]) 30,
  oA 41 (.move (tm 47)) 30,
  oA 48 (.extract (tm 41) 0) 9,
  oA 49 (.extract (tm 41) 1) 3,
  oA 50 (.extract (tm 41) 2) 4,
  oA 8 (.assign (tm 48)) 9,
  oA 9 (.assign (tm 49)) 3,
  oA 10 (.assign (tm 50)) 4]
def c3_31 : AC := .region o3_31 []
theorem n3_31 : RegR Cx 3 c3_31 o3_31 := run_region
def o3_33 : List AO := [oA 51 (.move (tm 1)) 3,
  oA 52 (.binOp .add 3 (tm 51) (ci 1) 3) 3,
  oA 11 (.assign (tm 52)) 3]
def c3_33 : AC := .region o3_33 []
theorem n3_33 : RegR Cx 3 c3_33 o3_33 := run_region
def o3_36 : List AO := [oA 12 (.assign (ci 0)) 3]
def c3_36 : AC := .region o3_36 []
theorem n3_36 : RegR Cx 3 c3_36 o3_36 := run_region
def o3_41 : List AO := [oA 53 (.move (tm 12)) 3,
  oA 54 (.move (tm 9)) 3,
  oA 55 (.binOp .lss 3 (tm 53) (tm 54) 3) 4]
def c3_41 : AC := .region o3_41 []
theorem n3_41 : RegR Cx 3 c3_41 o3_41 := run_region
def c3_43 : AC := .skip
theorem n3_43 : SkipR Cx 3 c3_43 := run_skip
def c3_44 : AC := .exit 0
theorem n3_44 : ExitR Cx 3 c3_44 0 := run_exit_start
def c3_42 : AC := .cond (tm 55) c3_43 c3_44
theorem n3_42 : CondR Cx 3 c3_42 (tm 55) c3_43 c3_44 := run_condC
def c3_40 : AC := .seq c3_41 c3_42
theorem n3_40 : SeqR Cx 3 c3_40 c3_41 c3_42 := run_seq
def o3_48 : List AO := [oA 59 (.move (tm 5)) 25,
  oA 60 (.move (tm 11)) 3,
  oA 61 (cF 10 #[(tm 59), (tm 60)] #[25, 3]) 27,
  oA 58 (.move (tm 61)) 27,
  oA 62 (.extract (tm 58) 0) 3,
  oA 63 (.extract (tm 58) 1) 4,
  oA 13 (.assign (tm 62)) 3,
  oA 14 (.assign (tm 63)) 4]
def c3_48 : AC := .region o3_48 []
theorem n3_48 : RegR Cx 3 c3_48 o3_48 := run_region
def o3_51 : List AO := [oA 64 (.move (tm 14)) 4,
  oA 65 (.unOp .not 4 (tm 64)) 4,
  oA 66 (.move (tm 65)) 4,
  oG 67 (.move (tm 13)) 3 66 false,
  oG 68 (.move (tm 11)) 3 66 false,
  oG 69 (.binOp .leq 3 (tm 67) (tm 68) 3) 4 66 false,
  oA 70 (.pick (tm 66) (.const (.bool true)) (tm 69)) 4]
def c3_51 : AC := .region o3_51 []
theorem n3_51 : RegR Cx 3 c3_51 o3_51 := run_region
def o3_54 : List AO := [oA 4 (.assign (.const (.bool false))) 4]
def c3_54 : AC := .region o3_54 []
theorem n3_54 : RegR Cx 3 c3_54 o3_54 := run_region
def c3_55 : AC := .ret
theorem n3_55 : RetR Cx 3 c3_55 := run_ret
def c3_53 : AC := .seq c3_54 c3_55
theorem n3_53 : SeqR Cx 3 c3_53 c3_54 c3_55 := run_seq
def c3_56 : AC := .skip
theorem n3_56 : SkipR Cx 3 c3_56 := run_skip
def c3_52 : AC := .cond (tm 70) c3_53 c3_56
theorem n3_52 : CondR Cx 3 c3_52 (tm 70) c3_53 c3_56 := run_condC
def c3_50 : AC := .seq c3_51 c3_52
theorem n3_50 : SeqR Cx 3 c3_50 c3_51 c3_52 := run_seq
def o3_57 : List AO := [oA 71 (.move (tm 13)) 3,
  oA 11 (.assign (tm 71)) 3]
def c3_57 : AC := .region o3_57 []
theorem n3_57 : RegR Cx 3 c3_57 o3_57 := run_region
def c3_49 : AC := .seq c3_50 c3_57
theorem n3_49 : SeqR Cx 3 c3_49 c3_50 c3_57 := run_seq
def c3_47 : AC := .seq c3_48 c3_49
theorem n3_47 : SeqR Cx 3 c3_47 c3_48 c3_49 := run_seq
def c3_46 : AC := .block 1 c3_47
theorem n3_46 : BlkR Cx 3 c3_46 1 c3_47 := run_block
def o3_58 : List AO := [oA 56 (.move (tm 12)) 3,
  oA 57 (.binOp .add 3 (tm 56) (ci 1) 3) 3,
  oA 12 (.assign (tm 57)) 3]
def c3_58 : AC := .region o3_58 []
theorem n3_58 : RegR Cx 3 c3_58 o3_58 := run_region
def c3_45 : AC := .seq c3_46 c3_58
theorem n3_45 : SeqR Cx 3 c3_45 c3_46 c3_58 := run_seq
def c3_39 : AC := .seq c3_40 c3_45
theorem n3_39 : SeqR Cx 3 c3_39 c3_40 c3_45 := run_seq
def c3_38 : AC := .loop c3_39
theorem n3_38 : LoopR Cx 3 c3_38 c3_39 := run_loop'
def c3_37 : AC := .block 0 c3_38
theorem n3_37 : BlkR Cx 3 c3_37 0 c3_38 := run_block
def c3_35 : AC := .seq c3_36 c3_37
theorem n3_35 : SeqR Cx 3 c3_35 c3_36 c3_37 := run_seq
def o3_60 : List AO := [oA 72 (.move (tm 11)) 3,
  oA 73 (.move (tm 6)) 3,
  oA 74 (.binOp .eql 3 (tm 72) (tm 73) 3) 4,
  oA 4 (.assign (tm 74)) 4]
def c3_60 : AC := .region o3_60 []
theorem n3_60 : RegR Cx 3 c3_60 o3_60 := run_region
def c3_61 : AC := .ret
theorem n3_61 : RetR Cx 3 c3_61 := run_ret
def c3_59 : AC := .seq c3_60 c3_61
theorem n3_59 : SeqR Cx 3 c3_59 c3_60 c3_61 := run_seq
def c3_34 : AC := .seq c3_35 c3_59
theorem n3_34 : SeqR Cx 3 c3_34 c3_35 c3_59 := run_seq
def c3_32 : AC := .seq c3_33 c3_34
theorem n3_32 : SeqR Cx 3 c3_32 c3_33 c3_34 := run_seq
def c3_30 : AC := .seq c3_31 c3_32
theorem n3_30 : SeqR Cx 3 c3_30 c3_31 c3_32 := run_seq
def c3_22 : AC := .seq c3_23 c3_30
theorem n3_22 : SeqR Cx 3 c3_22 c3_23 c3_30 := run_seq
def c3_14 : AC := .seq c3_15 c3_22
theorem n3_14 : SeqR Cx 3 c3_14 c3_15 c3_22 := run_seq
def c3_12 : AC := .seq c3_13 c3_14
theorem n3_12 : SeqR Cx 3 c3_12 c3_13 c3_14 := run_seq
def c3_10 : AC := .seq c3_11 c3_12
theorem n3_10 : SeqR Cx 3 c3_10 c3_11 c3_12 := run_seq
def c3_2 : AC := .seq c3_3 c3_10
theorem n3_2 : SeqR Cx 3 c3_2 c3_3 c3_10 := run_seq
def c3_0 : AC := .seq c3_1 c3_2
theorem n3_0 : SeqR Cx 3 c3_0 c3_1 c3_2 := run_seq
theorem body3 : bodyOf Cx 3 = some c3_0 := by kernel_rfl
theorem res3 : resOf Cx 3 = some [.tmp 4] := by kernel_rfl
theorem pure3 : Cx.pure 3 = true := by kernel_rfl
def o4_1 : List AO := [oA 2 (.assign (.const (.bool false))) 4]
def c4_1 : AC := .region o4_1 []
theorem n4_1 : RegR Cx 4 c4_1 o4_1 := run_region
def o4_4 : List AO := [oA 8 (cF 7 #[] #[]) 4,
  oA 9 (.unOp .not 4 (tm 8)) 4,
  oA 10 (.move (tm 9)) 4,
  oG 11 (.move (tm 0)) 22 10 false,
  oG 12 (cF 8 #[(tm 11)] #[22]) 4 10 false,
  oG 13 (.unOp .not 4 (tm 12)) 4 10 false,
  oA 14 (.pick (tm 10) (.const (.bool true)) (tm 13)) 4]
def c4_4 : AC := .region o4_4 []
theorem n4_4 : RegR Cx 4 c4_4 o4_4 := run_region
def o4_7 : List AO := [oA 15 (cF 7 #[] #[]) 4,
  oA 2 (.assign (tm 15)) 4]
def c4_7 : AC := .region o4_7 []
theorem n4_7 : RegR Cx 4 c4_7 o4_7 := run_region
def c4_8 : AC := .ret
theorem n4_8 : RetR Cx 4 c4_8 := run_ret
def c4_6 : AC := .seq c4_7 c4_8
theorem n4_6 : SeqR Cx 4 c4_6 c4_7 c4_8 := run_seq
def c4_9 : AC := .skip
theorem n4_9 : SkipR Cx 4 c4_9 := run_skip
def c4_5 : AC := .cond (tm 14) c4_6 c4_9
theorem n4_5 : CondR Cx 4 c4_5 (tm 14) c4_6 c4_9 := run_condC
def c4_3 : AC := .seq c4_4 c4_5
theorem n4_3 : SeqR Cx 4 c4_3 c4_4 c4_5 := run_seq
def o4_11 : List AO := [oA 17 (.move (tm 0)) 22,
  oA 18 (cF 9 #[(tm 17)] #[22]) 25,
  oA 19 (cF 13 #[(tm 18)] #[25]) 40,
  oA 16 (.move (tm 19)) 40,
  oA 20 (.extract (tm 16) 0) 9,
  oA 21 (.extract (tm 16) 1) 39,
  oA 3 (.assign (tm 20)) 9,
  oA 4 (.assign (tm 21)) 39]
def c4_11 : AC := .region o4_11 []
theorem n4_11 : RegR Cx 4 c4_11 o4_11 := run_region
def o4_14 : List AO := [oA 22 (.move (tm 4)) 39,
  oA 23 (.binOp .neq 39 (tm 22) (ci 0) 39) 4]
def c4_14 : AC := .region o4_14 []
theorem n4_14 : RegR Cx 4 c4_14 o4_14 := run_region
def o4_17 : List AO := [oA 24 (.move (tm 3)) 9,
  oA 25 (.binOp .eql 9 (tm 24) (.const (.string ⟨#[]⟩)) 9) 4,
  oA 26 (.move (tm 25)) 4,
  oG 27 (.move (tm 4)) 39 26 true,
  oG 28 (.binOp .eql 39 (tm 27) (ci 1) 39) 4 26 true,
  oG 29 (.move (tm 28)) 4 26 true,
  oG 30 (.move (tm 4)) 39 29 false,
  oG 31 (.binOp .eql 39 (tm 30) (ci 3) 39) 4 29 false,
  oG 32 (.move (tm 31)) 4 29 false,
  oG 33 (.move (tm 0)) 22 32 true,
  oG 34 (cF 9 #[(tm 33)] #[22]) 25 32 true,
  oG 35 (cF 11 #[(tm 34)] #[25]) 4 32 true,
  oG 36 (.pick (tm 32) (tm 35) (.const (.bool false))) 4 29 false,
  oG 37 (.pick (tm 29) (.const (.bool true)) (tm 36)) 4 26 true,
  oA 38 (.pick (tm 26) (tm 37) (.const (.bool false))) 4,
  oA 2 (.assign (tm 38)) 4]
def c4_17 : AC := .region o4_17 []
theorem n4_17 : RegR Cx 4 c4_17 o4_17 := run_region
def c4_18 : AC := .ret
theorem n4_18 : RetR Cx 4 c4_18 := run_ret
def c4_16 : AC := .seq c4_17 c4_18
theorem n4_16 : SeqR Cx 4 c4_16 c4_17 c4_18 := run_seq
def c4_19 : AC := .skip
theorem n4_19 : SkipR Cx 4 c4_19 := run_skip
def c4_15 : AC := .cond (tm 23) c4_16 c4_19
theorem n4_15 : CondR Cx 4 c4_15 (tm 23) c4_16 c4_19 := run_condC
def c4_13 : AC := .seq c4_14 c4_15
theorem n4_13 : SeqR Cx 4 c4_13 c4_14 c4_15 := run_seq
def o4_21 : List AO := [oA 40 (.move (tm 3)) 9,
  oA 41 (cF 14 #[(tm 40)] #[9]) 42,
  oA 39 (.move (tm 41)) 42,
  oA 42 (.extract (tm 39) 0) 25,
  oA 43 (.extract (tm 39) 1) 3,
  oA 44 (.extract (tm 39) 2) 39,
  oA 5 (.assign (tm 42)) 25,
  oA 6 (.assign (tm 43)) 3,
  oA 7 (.assign (tm 44)) 39]
def c4_21 : AC := .region o4_21 []
theorem n4_21 : RegR Cx 4 c4_21 o4_21 := run_region
def o4_23 : List AO := [oA 45 (.move (tm 7)) 39,
  oA 46 (.binOp .eql 39 (tm 45) (ci 0) 39) 4,
  oA 47 (.move (tm 46)) 4,
  oG 48 (.move (tm 6)) 3 47 true,
  oG 49 (.binOp .eql 3 (tm 48) (ci 0) 3) 4 47 true,
  oA 50 (.pick (tm 47) (tm 49) (.const (.bool false))) 4,
  oA 51 (.move (tm 50)) 4,
  oG 52 (.move (tm 5)) 25 51 true,
  oG 53 (cF 16 #[(tm 52)] #[25]) 22 51 true,
  oG 54 (.move (tm 0)) 22 51 true,
  oG 55 (cF 15 #[(tm 53), (tm 54)] #[22, 22]) 3 51 true,
  oG 56 (.binOp .eql 3 (tm 55) (ci 1) 3) 4 51 true,
  oA 57 (.pick (tm 51) (tm 56) (.const (.bool false))) 4,
  oA 2 (.assign (tm 57)) 4]
def c4_23 : AC := .region o4_23 []
theorem n4_23 : RegR Cx 4 c4_23 o4_23 := run_region
def c4_24 : AC := .ret
theorem n4_24 : RetR Cx 4 c4_24 := run_ret
def c4_22 : AC := .seq c4_23 c4_24
theorem n4_22 : SeqR Cx 4 c4_22 c4_23 c4_24 := run_seq
def c4_20 : AC := .seq c4_21 c4_22
theorem n4_20 : SeqR Cx 4 c4_20 c4_21 c4_22 := run_seq
def c4_12 : AC := .seq c4_13 c4_20
theorem n4_12 : SeqR Cx 4 c4_12 c4_13 c4_20 := run_seq
def c4_10 : AC := .seq c4_11 c4_12
theorem n4_10 : SeqR Cx 4 c4_10 c4_11 c4_12 := run_seq
def c4_2 : AC := .seq c4_3 c4_10
theorem n4_2 : SeqR Cx 4 c4_2 c4_3 c4_10 := run_seq
def c4_0 : AC := .seq c4_1 c4_2
theorem n4_0 : SeqR Cx 4 c4_0 c4_1 c4_2 := run_seq
theorem body4 : bodyOf Cx 4 = some c4_0 := by kernel_rfl
theorem res4 : resOf Cx 4 = some [.tmp 2] := by kernel_rfl
theorem pure4 : Cx.pure 4 = true := by kernel_rfl
def o5_1 : List AO := [oA 2 (.assign (.const (.bool false))) 4]
def c5_1 : AC := .region o5_1 []
theorem n5_1 : RegR Cx 5 c5_1 o5_1 := run_region
def o5_4 : List AO := [oA 11 (cF 7 #[] #[]) 4,
  oA 12 (.unOp .not 4 (tm 11)) 4,
  oA 13 (.move (tm 12)) 4,
  oG 14 (.move (tm 0)) 9 13 false,
  oG 15 (cB .len #[(tm 14)] #[9]) 3 13 false,
  oG 16 (.binOp .gtr 3 (tm 15) (ci 5000) 3) 4 13 false,
  oA 17 (.pick (tm 13) (.const (.bool true)) (tm 16)) 4]
def c5_4 : AC := .region o5_4 []
theorem n5_4 : RegR Cx 5 c5_4 o5_4 := run_region
def o5_7 : List AO := [oA 18 (cF 7 #[] #[]) 4,
  oA 2 (.assign (tm 18)) 4]
def c5_7 : AC := .region o5_7 []
theorem n5_7 : RegR Cx 5 c5_7 o5_7 := run_region
def c5_8 : AC := .ret
theorem n5_8 : RetR Cx 5 c5_8 := run_ret
def c5_6 : AC := .seq c5_7 c5_8
theorem n5_6 : SeqR Cx 5 c5_6 c5_7 c5_8 := run_seq
def c5_9 : AC := .skip
theorem n5_9 : SkipR Cx 5 c5_9 := run_skip
def c5_5 : AC := .cond (tm 17) c5_6 c5_9
theorem n5_5 : CondR Cx 5 c5_5 (tm 17) c5_6 c5_9 := run_condC
def c5_3 : AC := .seq c5_4 c5_5
theorem n5_3 : SeqR Cx 5 c5_3 c5_4 c5_5 := run_seq
def o5_11 : List AO := [oA 20 (.move (tm 0)) 9,
  oA 21 (cF 14 #[(tm 20)] #[9]) 42,
  oA 19 (.move (tm 21)) 42,
  oA 22 (.extract (tm 19) 0) 25,
  oA 23 (.extract (tm 19) 1) 3,
  oA 24 (.extract (tm 19) 2) 39,
  oA 3 (.assign (tm 22)) 25,
  oA 4 (.assign (tm 23)) 3,
  oA 5 (.assign (tm 24)) 39]
def c5_11 : AC := .region o5_11 []
theorem n5_11 : RegR Cx 5 c5_11 o5_11 := run_region
def o5_14 : List AO := [oA 25 (.move (tm 5)) 39,
  oA 26 (.binOp .neq 39 (tm 25) (ci 0) 39) 4]
def c5_14 : AC := .region o5_14 []
theorem n5_14 : RegR Cx 5 c5_14 o5_14 := run_region
def o5_17 : List AO := [oA 27 (.move (tm 3)) 25,
  oA 28 (cB .len #[(tm 27)] #[25]) 3,
  oA 29 (.binOp .eql 3 (tm 28) (ci 0) 3) 4,
  oA 30 (.move (tm 29)) 4,
  oG 31 (.move (tm 4)) 3 30 true,
  oG 32 (.binOp .geq 3 (tm 31) (ci 0) 3) 4 30 true,
  oA 33 (.pick (tm 30) (tm 32) (.const (.bool false))) 4,
  oA 34 (.move (tm 33)) 4,
  oG 35 (.move (tm 4)) 3 34 true,
  oG 36 (.move (tm 0)) 9 34 true,
  oG 37 (cB .len #[(tm 36)] #[9]) 3 34 true,
  oG 38 (.binOp .leq 3 (tm 35) (tm 37) 3) 4 34 true,
  oA 39 (.pick (tm 34) (tm 38) (.const (.bool false))) 4,
  oA 2 (.assign (tm 39)) 4]
def c5_17 : AC := .region o5_17 []
theorem n5_17 : RegR Cx 5 c5_17 o5_17 := run_region
def c5_18 : AC := .ret
theorem n5_18 : RetR Cx 5 c5_18 := run_ret
def c5_16 : AC := .seq c5_17 c5_18
theorem n5_16 : SeqR Cx 5 c5_16 c5_17 c5_18 := run_seq
def c5_19 : AC := .skip
theorem n5_19 : SkipR Cx 5 c5_19 := run_skip
def c5_15 : AC := .cond (tm 26) c5_16 c5_19
theorem n5_15 : CondR Cx 5 c5_15 (tm 26) c5_16 c5_19 := run_condC
def c5_13 : AC := .seq c5_14 c5_15
theorem n5_13 : SeqR Cx 5 c5_13 c5_14 c5_15 := run_seq
def o5_21 : List AO := [oA 41 (.move (tm 3)) 25,
  oA 42 (cF 13 #[(tm 41)] #[25]) 40,
  oA 40 (.move (tm 42)) 40,
  oA 43 (.extract (tm 40) 0) 9,
  oA 44 (.extract (tm 40) 1) 39,
  oA 6 (.assign (tm 43)) 9,
  oA 7 (.assign (tm 44)) 39]
def c5_21 : AC := .region o5_21 []
theorem n5_21 : RegR Cx 5 c5_21 o5_21 := run_region
def o5_23 : List AO := [oA 46 (.move (tm 6)) 9,
  oA 47 (cF 14 #[(tm 46)] #[9]) 42,
  oA 45 (.move (tm 47)) 42,
  oA 48 (.extract (tm 45) 0) 25,
  oA 49 (.extract (tm 45) 1) 3,
  oA 50 (.extract (tm 45) 2) 39,
  oA 8 (.assign (tm 48)) 25,
  oA 9 (.assign (tm 49)) 3,
  oA 10 (.assign (tm 50)) 39]
def c5_23 : AC := .region o5_23 []
theorem n5_23 : RegR Cx 5 c5_23 o5_23 := run_region
def o5_25 : List AO := [oA 51 (.move (tm 4)) 3,
  oA 52 (.binOp .eql 3 (tm 51) (ci 0) 3) 4,
  oA 53 (.move (tm 52)) 4,
  oG 54 (.move (tm 3)) 25 53 true,
  oG 55 (cF 11 #[(tm 54)] #[25]) 4 53 true,
  oA 56 (.pick (tm 53) (tm 55) (.const (.bool false))) 4,
  oA 57 (.move (tm 56)) 4,
  oG 58 (.move (tm 7)) 39 57 true,
  oG 59 (.binOp .eql 39 (tm 58) (ci 3) 39) 4 57 true,
  oG 60 (.move (tm 59)) 4 57 true,
  oG 61 (.move (tm 7)) 39 60 false,
  oG 62 (.binOp .eql 39 (tm 61) (ci 0) 39) 4 60 false,
  oG 63 (.move (tm 62)) 4 60 false,
  oG 64 (.move (tm 10)) 39 63 true,
  oG 65 (.binOp .eql 39 (tm 64) (ci 0) 39) 4 63 true,
  oG 66 (.pick (tm 63) (tm 65) (.const (.bool false))) 4 60 false,
  oG 67 (.move (tm 66)) 4 60 false,
  oG 68 (.move (tm 3)) 25 67 true,
  oG 69 (cF 16 #[(tm 68)] #[25]) 22 67 true,
  oG 70 (.move (tm 8)) 25 67 true,
  oG 71 (cF 16 #[(tm 70)] #[25]) 22 67 true,
  oG 72 (cF 15 #[(tm 69), (tm 71)] #[22, 22]) 3 67 true,
  oG 73 (.binOp .eql 3 (tm 72) (ci 1) 3) 4 67 true,
  oG 74 (.pick (tm 67) (tm 73) (.const (.bool false))) 4 60 false,
  oG 75 (.pick (tm 60) (.const (.bool true)) (tm 74)) 4 57 true,
  oA 76 (.pick (tm 57) (tm 75) (.const (.bool false))) 4,
  oA 2 (.assign (tm 76)) 4]
def c5_25 : AC := .region o5_25 []
theorem n5_25 : RegR Cx 5 c5_25 o5_25 := run_region
def c5_26 : AC := .ret
theorem n5_26 : RetR Cx 5 c5_26 := run_ret
def c5_24 : AC := .seq c5_25 c5_26
theorem n5_24 : SeqR Cx 5 c5_24 c5_25 c5_26 := run_seq
def c5_22 : AC := .seq c5_23 c5_24
theorem n5_22 : SeqR Cx 5 c5_22 c5_23 c5_24 := run_seq
def c5_20 : AC := .seq c5_21 c5_22
theorem n5_20 : SeqR Cx 5 c5_20 c5_21 c5_22 := run_seq
def c5_12 : AC := .seq c5_13 c5_20
theorem n5_12 : SeqR Cx 5 c5_12 c5_13 c5_20 := run_seq
def c5_10 : AC := .seq c5_11 c5_12
theorem n5_10 : SeqR Cx 5 c5_10 c5_11 c5_12 := run_seq
def c5_2 : AC := .seq c5_3 c5_10
theorem n5_2 : SeqR Cx 5 c5_2 c5_3 c5_10 := run_seq
def c5_0 : AC := .seq c5_1 c5_2
theorem n5_0 : SeqR Cx 5 c5_0 c5_1 c5_2 := run_seq
theorem body5 : bodyOf Cx 5 = some c5_0 := by kernel_rfl
theorem res5 : resOf Cx 5 = some [.tmp 2] := by kernel_rfl
theorem pure5 : Cx.pure 5 = true := by kernel_rfl
def o6_1 : List AO := [oA 6 (.assign (.const (.bool false))) 4]
def c6_1 : AC := .region o6_1 []
theorem n6_1 : RegR Cx 6 c6_1 o6_1 := run_region
def o6_4 : List AO := [oA 19 (cF 7 #[] #[]) 4,
  oA 20 (.unOp .not 4 (tm 19)) 4,
  oA 21 (.move (tm 20)) 4,
  oG 22 (.move (tm 0)) 22 21 false,
  oG 23 (cF 8 #[(tm 22)] #[22]) 4 21 false,
  oG 24 (.unOp .not 4 (tm 23)) 4 21 false,
  oA 25 (.pick (tm 21) (.const (.bool true)) (tm 24)) 4]
def c6_4 : AC := .region o6_4 []
theorem n6_4 : RegR Cx 6 c6_4 o6_4 := run_region
def o6_7 : List AO := [oA 26 (cF 7 #[] #[]) 4,
  oA 6 (.assign (tm 26)) 4]
def c6_7 : AC := .region o6_7 []
theorem n6_7 : RegR Cx 6 c6_7 o6_7 := run_region
def c6_8 : AC := .ret
theorem n6_8 : RetR Cx 6 c6_8 := run_ret
def c6_6 : AC := .seq c6_7 c6_8
theorem n6_6 : SeqR Cx 6 c6_6 c6_7 c6_8 := run_seq
def c6_9 : AC := .skip
theorem n6_9 : SkipR Cx 6 c6_9 := run_skip
def c6_5 : AC := .cond (tm 25) c6_6 c6_9
theorem n6_5 : CondR Cx 6 c6_5 (tm 25) c6_6 c6_9 := run_condC
def c6_3 : AC := .seq c6_4 c6_5
theorem n6_3 : SeqR Cx 6 c6_3 c6_4 c6_5 := run_seq
def o6_11 : List AO := [oA 27 (.move (tm 0)) 22,
  oA 28 (cF 17 #[(tm 27)] #[22]) 4,
  oA 7 (.assign (tm 28)) 4]
def c6_11 : AC := .region o6_11 []
theorem n6_11 : RegR Cx 6 c6_11 o6_11 := run_region
def o6_13 : List AO := [oA 30 (.move (tm 0)) 22,
  oA 31 (cF 9 #[(tm 30)] #[22]) 25,
  oA 32 (.move (tm 1)) 3,
  oA 33 (cF 10 #[(tm 31), (tm 32)] #[25, 3]) 27,
  oA 29 (.move (tm 33)) 27,
  oA 34 (.extract (tm 29) 0) 3,
  oA 35 (.extract (tm 29) 1) 4,
  oA 8 (.assign (tm 34)) 3,
  oA 9 (.assign (tm 35)) 4]
def c6_13 : AC := .region o6_13 []
theorem n6_13 : RegR Cx 6 c6_13 o6_13 := run_region
def o6_15 : List AO := [oA 36 (.move (tm 0)) 22,
  oA 37 (cF 9 #[(tm 36)] #[22]) 25,
  oA 38 (cF 18 #[(tm 37)] #[25]) 47,
  oA 10 (.alloc 47) 0,
  oN (.store 47 (tm 10) (tm 38)) 0]
def c6_15 : AC := .region o6_15 []
theorem n6_15 : RegR Cx 6 c6_15 o6_15 := run_region
def o6_17 : List AO := [oA 40 (.move (tm 0)) 22,
  oA 41 (cF 9 #[(tm 40)] #[22]) 25,
  oA 42 (cF 13 #[(tm 41)] #[25]) 40,
  oA 39 (.move (tm 42)) 40,
  oA 43 (.extract (tm 39) 0) 9,
  oA 44 (.extract (tm 39) 1) 39,
  oA 11 (.assign (tm 43)) 9,
  oA 12 (.assign (tm 44)) 39]
def c6_17 : AC := .region o6_17 []
theorem n6_17 : RegR Cx 6 c6_17 o6_17 := run_region
def o6_19 : List AO := [oA 46 (.move (tm 2)) 3,
  oA 47 (cF 12 #[(tm 46)] #[3]) 30,
  oA 45 (.move (tm 47)) 30,
  oA 48 (.extract (tm 45) 0) 9,
  oA 49 (.extract (tm 45) 1) 3,
  oA 50 (.extract (tm 45) 2) 4,
  oA 13 (.assign (tm 48)) 9,
  oA 14 (.assign (tm 49)) 3,
  oA 15 (.assign (tm 50)) 4]
def c6_19 : AC := .region o6_19 []
theorem n6_19 : RegR Cx 6 c6_19 o6_19 := run_region
def o6_22 : List AO := [oA 51 (.move (tm 0)) 22,
  oA 52 (cF 9 #[(tm 51)] #[22]) 25,
  oA 53 (cF 11 #[(tm 52)] #[25]) 4,
  oA 54 (.move (tm 7)) 4,
  oA 55 (.binOp .neq 4 (tm 53) (tm 54) 4) 4,
  oA 56 (.move (tm 55)) 4,
  oG 57 (.move (tm 13)) 9 56 false,
  oG 58 (.move (tm 2)) 3 56 false,
  oG 59 (cF 19 #[(tm 58)] #[3]) 9 56 false,
  oG 60 (.binOp .neq 9 (tm 57) (tm 59) 9) 4 56 false,
  oA 61 (.pick (tm 56) (.const (.bool true)) (tm 60)) 4,
  oA 62 (.move (tm 61)) 4,
  oG 63 (.move (tm 14)) 3 62 false,
  oG 64 (.move (tm 2)) 3 62 false,
  oG 65 (cF 20 #[(tm 64)] #[3]) 3 62 false,
  oG 66 (.binOp .neq 3 (tm 63) (tm 65) 3) 4 62 false,
  oA 67 (.pick (tm 62) (.const (.bool true)) (tm 66)) 4,
  oA 68 (.move (tm 67)) 4,
  oG 69 (.move (tm 15)) 4 68 false,
  oG 70 (.move (tm 13)) 9 68 false,
  oG 71 (.binOp .neq 9 (tm 70) (.const (.string ⟨#[]⟩)) 9) 4 68 false,
  oG 72 (.binOp .neq 4 (tm 69) (tm 71) 4) 4 68 false,
  oA 73 (.pick (tm 68) (.const (.bool true)) (tm 72)) 4]
def c6_22 : AC := .region o6_22 []
theorem n6_22 : RegR Cx 6 c6_22 o6_22 := run_region
def o6_25 : List AO := [oA 6 (.assign (.const (.bool false))) 4]
def c6_25 : AC := .region o6_25 []
theorem n6_25 : RegR Cx 6 c6_25 o6_25 := run_region
def c6_26 : AC := .ret
theorem n6_26 : RetR Cx 6 c6_26 := run_ret
def c6_24 : AC := .seq c6_25 c6_26
theorem n6_24 : SeqR Cx 6 c6_24 c6_25 c6_26 := run_seq
def c6_27 : AC := .skip
theorem n6_27 : SkipR Cx 6 c6_27 := run_skip
def c6_23 : AC := .cond (tm 73) c6_24 c6_27
theorem n6_23 : CondR Cx 6 c6_23 (tm 73) c6_24 c6_27 := run_condC
def c6_21 : AC := .seq c6_22 c6_23
theorem n6_21 : SeqR Cx 6 c6_21 c6_22 c6_23 := run_seq
def o6_30 : List AO := [oA 74 (.move (tm 7)) 4,
  oA 75 (.unOp .not 4 (tm 74)) 4]
def c6_30 : AC := .region o6_30 []
theorem n6_30 : RegR Cx 6 c6_30 o6_30 := run_region
def o6_33 : List AO := [oA 76 (.move (tm 9)) 4,
  oA 77 (.unOp .not 4 (tm 76)) 4,
  oA 78 (.move (tm 77)) 4,
  oG 79 (.move (tm 8)) 3 78 true,
  oG 80 (.binOp .eql 3 (tm 79) (ci 0) 3) 4 78 true,
  oA 81 (.pick (tm 78) (tm 80) (.const (.bool false))) 4,
  oA 82 (.move (tm 81)) 4,
  oG 83 (.load 47 (tm 10)) 47 82 true,
  oG 84 (.build 47 #[]) 47 82 true,
  oG 85 (.binOp .eql 47 (tm 83) (tm 84) 47) 4 82 true,
  oA 86 (.pick (tm 82) (tm 85) (.const (.bool false))) 4,
  oA 87 (.move (tm 86)) 4,
  oG 88 (.move (tm 12)) 39 87 true,
  oG 89 (.binOp .eql 39 (tm 88) (ci 1) 39) 4 87 true,
  oA 90 (.pick (tm 87) (tm 89) (.const (.bool false))) 4,
  oA 91 (.move (tm 90)) 4,
  oG 92 (.move (tm 11)) 9 91 true,
  oG 93 (.binOp .eql 9 (tm 92) (.const (.string ⟨#[]⟩)) 9) 4 91 true,
  oA 94 (.pick (tm 91) (tm 93) (.const (.bool false))) 4,
  oA 6 (.assign (tm 94)) 4]
def c6_33 : AC := .region o6_33 []
theorem n6_33 : RegR Cx 6 c6_33 o6_33 := run_region
def c6_34 : AC := .ret
theorem n6_34 : RetR Cx 6 c6_34 := run_ret
def c6_32 : AC := .seq c6_33 c6_34
theorem n6_32 : SeqR Cx 6 c6_32 c6_33 c6_34 := run_seq
def c6_35 : AC := .skip
theorem n6_35 : SkipR Cx 6 c6_35 := run_skip
def c6_31 : AC := .cond (tm 75) c6_32 c6_35
theorem n6_31 : CondR Cx 6 c6_31 (tm 75) c6_32 c6_35 := run_condC
def c6_29 : AC := .seq c6_30 c6_31
theorem n6_29 : SeqR Cx 6 c6_29 c6_30 c6_31 := run_seq
def o6_38 : List AO := [oA 95 (.move (tm 9)) 4,
  oA 96 (.move (tm 1)) 3,
  oA 97 (.binOp .geq 3 (tm 96) (ci 0) 3) 4,
  oA 98 (.move (tm 97)) 4,
  oG 99 (.move (tm 1)) 3 98 true,
  oG 100 (.move (tm 0)) 22 98 true,
  oG 101 (cB .len #[(tm 100)] #[22]) 3 98 true,
  oG 102 (.binOp .lss 3 (tm 99) (tm 101) 3) 4 98 true,
  oA 103 (.pick (tm 98) (tm 102) (.const (.bool false))) 4,
  oA 104 (.binOp .neq 4 (tm 95) (tm 103) 4) 4,
  oA 105 (.move (tm 104)) 4,
  oG 106 (.move (tm 9)) 4 105 false,
  oG 107 (.move (tm 106)) 4 105 false,
  oG 108 (.move (tm 8)) 3 107 true,
  oG 109 (.move (tm 0)) 22 107 true,
  oG 110 (.move (tm 1)) 3 107 true,
  oG 111 (cF 21 #[(tm 109), (tm 110)] #[22, 3]) 3 107 true,
  oG 112 (.binOp .neq 3 (tm 108) (tm 111) 3) 4 107 true,
  oG 113 (.pick (tm 107) (tm 112) (.const (.bool false))) 4 105 false,
  oA 114 (.pick (tm 105) (.const (.bool true)) (tm 113)) 4]
def c6_38 : AC := .region o6_38 []
theorem n6_38 : RegR Cx 6 c6_38 o6_38 := run_region
def o6_41 : List AO := [oA 6 (.assign (.const (.bool false))) 4]
def c6_41 : AC := .region o6_41 []
theorem n6_41 : RegR Cx 6 c6_41 o6_41 := run_region
def c6_42 : AC := .ret
theorem n6_42 : RetR Cx 6 c6_42 := run_ret
def c6_40 : AC := .seq c6_41 c6_42
theorem n6_40 : SeqR Cx 6 c6_40 c6_41 c6_42 := run_seq
def c6_43 : AC := .skip
theorem n6_43 : SkipR Cx 6 c6_43 := run_skip
def c6_39 : AC := .cond (tm 114) c6_40 c6_43
theorem n6_39 : CondR Cx 6 c6_39 (tm 114) c6_40 c6_43 := run_condC
def c6_37 : AC := .seq c6_38 c6_39
theorem n6_37 : SeqR Cx 6 c6_37 c6_38 c6_39 := run_seq
def o6_45 : List AO := [oA 16 (.alloc 47) 0]
def c6_45 : AC := .region o6_45 []
theorem n6_45 : RegR Cx 6 c6_45 o6_45 := run_region
def o6_48 : List AO := [oA 17 (.assign (ci 0)) 3]
def c6_48 : AC := .region o6_48 []
theorem n6_48 : RegR Cx 6 c6_48 o6_48 := run_region
def o6_53 : List AO := [oA 115 (.move (tm 17)) 3,
  oA 116 (.move (tm 0)) 22,
  oA 117 (cB .len #[(tm 116)] #[22]) 3,
  oA 118 (.binOp .lss 3 (tm 115) (tm 117) 3) 4]
def c6_53 : AC := .region o6_53 []
theorem n6_53 : RegR Cx 6 c6_53 o6_53 := run_region
def c6_55 : AC := .skip
theorem n6_55 : SkipR Cx 6 c6_55 := run_skip
def c6_56 : AC := .exit 0
theorem n6_56 : ExitR Cx 6 c6_56 0 := run_exit_start
def c6_54 : AC := .cond (tm 118) c6_55 c6_56
theorem n6_54 : CondR Cx 6 c6_54 (tm 118) c6_55 c6_56 := run_condC
def c6_52 : AC := .seq c6_53 c6_54
theorem n6_52 : SeqR Cx 6 c6_52 c6_53 c6_54 := run_seq
def o6_60 : List AO := [oA 121 (.move (tm 0)) 22,
  oA 122 (.move (tm 17)) 3,
  oA 123 (.indexAddr 22 (tm 121) (tm 122)) 0,
  oA 124 (.fieldAddr 52 (tm 123) 0) 0,
  oA 125 (.load 3 (tm 124)) 3,
  oA 126 (.binOp .eql 3 (tm 125) (ci 1) 3) 4]
def c6_60 : AC := .region o6_60 []
theorem n6_60 : RegR Cx 6 c6_60 o6_60 := run_region
def o6_62 : List AO := [oA 127 (.move (tm 0)) 22,
  oA 128 (.move (tm 17)) 3,
  oA 129 (.indexAddr 22 (tm 127) (tm 128)) 0,
  oA 130 (.fieldAddr 52 (tm 129) 1) 0,
  oA 131 (.fieldAddr 35 (tm 130) 1) 0,
  oA 132 (.load 3 (tm 131)) 3,
  oA 133 (.indexAddr 47 (tm 16) (tm 132)) 0,
  oN (.store 4 (tm 133) (.const (.bool true))) 0]
def c6_62 : AC := .region o6_62 []
theorem n6_62 : RegR Cx 6 c6_62 o6_62 := run_region
def c6_63 : AC := .skip
theorem n6_63 : SkipR Cx 6 c6_63 := run_skip
def c6_61 : AC := .cond (tm 126) c6_62 c6_63
theorem n6_61 : CondR Cx 6 c6_61 (tm 126) c6_62 c6_63 := run_condC
def c6_59 : AC := .seq c6_60 c6_61
theorem n6_59 : SeqR Cx 6 c6_59 c6_60 c6_61 := run_seq
def c6_58 : AC := .block 1 c6_59
theorem n6_58 : BlkR Cx 6 c6_58 1 c6_59 := run_block
def o6_64 : List AO := [oA 119 (.move (tm 17)) 3,
  oA 120 (.binOp .add 3 (tm 119) (ci 1) 3) 3,
  oA 17 (.assign (tm 120)) 3]
def c6_64 : AC := .region o6_64 []
theorem n6_64 : RegR Cx 6 c6_64 o6_64 := run_region
def c6_57 : AC := .seq c6_58 c6_64
theorem n6_57 : SeqR Cx 6 c6_57 c6_58 c6_64 := run_seq
def c6_51 : AC := .seq c6_52 c6_57
theorem n6_51 : SeqR Cx 6 c6_51 c6_52 c6_57 := run_seq
def c6_50 : AC := .loop c6_51
theorem n6_50 : LoopR Cx 6 c6_50 c6_51 := run_loop'
def c6_49 : AC := .block 0 c6_50
theorem n6_49 : BlkR Cx 6 c6_49 0 c6_50 := run_block
def c6_47 : AC := .seq c6_48 c6_49
theorem n6_47 : SeqR Cx 6 c6_47 c6_48 c6_49 := run_seq
def o6_66 : List AO := [oA 134 (.move (tm 0)) 22,
  oA 135 (cF 22 #[(tm 134), (ci 0)] #[22, 3]) 9,
  oA 18 (.assign (tm 135)) 9]
def c6_66 : AC := .region o6_66 []
theorem n6_66 : RegR Cx 6 c6_66 o6_66 := run_region
def o6_68 : List AO := [oA 136 (.load 47 (tm 10)) 47,
  oA 137 (.load 47 (tm 16)) 47,
  oA 138 (.binOp .eql 47 (tm 136) (tm 137) 47) 4,
  oA 139 (.move (tm 138)) 4,
  oG 140 (.move (tm 18)) 9 139 true,
  oG 141 (cB .len #[(tm 140)] #[9]) 3 139 true,
  oG 142 (.binOp .gtr 3 (tm 141) (ci 4096) 3) 4 139 true,
  oG 143 (.move (tm 142)) 4 139 true,
  oG 144 (.move (tm 12)) 39 143 true,
  oG 145 (.binOp .eql 39 (tm 144) (ci 3) 39) 4 143 true,
  oG 146 (.pick (tm 143) (tm 145) (.const (.bool false))) 4 139 true,
  oG 147 (.move (tm 146)) 4 139 true,
  oG 148 (.move (tm 11)) 9 147 true,
  oG 149 (.binOp .eql 9 (tm 148) (.const (.string ⟨#[]⟩)) 9) 4 147 true,
  oG 150 (.pick (tm 147) (tm 149) (.const (.bool false))) 4 139 true,
  oG 151 (.move (tm 150)) 4 139 true,
  oG 152 (.move (tm 18)) 9 151 false,
  oG 153 (cB .len #[(tm 152)] #[9]) 3 151 false,
  oG 154 (.binOp .leq 3 (tm 153) (ci 4096) 3) 4 151 false,
  oG 155 (.move (tm 154)) 4 151 false,
  oG 156 (.move (tm 12)) 39 155 true,
  oG 157 (.binOp .eql 39 (tm 156) (ci 0) 39) 4 155 true,
  oG 158 (.pick (tm 155) (tm 157) (.const (.bool false))) 4 151 false,
  oG 159 (.move (tm 158)) 4 151 false,
  oG 160 (.move (tm 11)) 9 159 true,
  oG 161 (.move (tm 18)) 9 159 true,
  oG 162 (.binOp .eql 9 (tm 160) (tm 161) 9) 4 159 true,
  oG 163 (.pick (tm 159) (tm 162) (.const (.bool false))) 4 151 false,
  oG 164 (.pick (tm 151) (.const (.bool true)) (tm 163)) 4 139 true,
  oA 165 (.pick (tm 139) (tm 164) (.const (.bool false))) 4,
  oA 6 (.assign (tm 165)) 4]
def c6_68 : AC := .region o6_68 []
theorem n6_68 : RegR Cx 6 c6_68 o6_68 := run_region
def c6_69 : AC := .ret
theorem n6_69 : RetR Cx 6 c6_69 := run_ret
def c6_67 : AC := .seq c6_68 c6_69
theorem n6_67 : SeqR Cx 6 c6_67 c6_68 c6_69 := run_seq
def c6_65 : AC := .seq c6_66 c6_67
theorem n6_65 : SeqR Cx 6 c6_65 c6_66 c6_67 := run_seq
def c6_46 : AC := .seq c6_47 c6_65
theorem n6_46 : SeqR Cx 6 c6_46 c6_47 c6_65 := run_seq
def c6_44 : AC := .seq c6_45 c6_46
theorem n6_44 : SeqR Cx 6 c6_44 c6_45 c6_46 := run_seq
def c6_36 : AC := .seq c6_37 c6_44
theorem n6_36 : SeqR Cx 6 c6_36 c6_37 c6_44 := run_seq
def c6_28 : AC := .seq c6_29 c6_36
theorem n6_28 : SeqR Cx 6 c6_28 c6_29 c6_36 := run_seq
def c6_20 : AC := .seq c6_21 c6_28
theorem n6_20 : SeqR Cx 6 c6_20 c6_21 c6_28 := run_seq
def c6_18 : AC := .seq c6_19 c6_20
theorem n6_18 : SeqR Cx 6 c6_18 c6_19 c6_20 := run_seq
def c6_16 : AC := .seq c6_17 c6_18
theorem n6_16 : SeqR Cx 6 c6_16 c6_17 c6_18 := run_seq
def c6_14 : AC := .seq c6_15 c6_16
theorem n6_14 : SeqR Cx 6 c6_14 c6_15 c6_16 := run_seq
def c6_12 : AC := .seq c6_13 c6_14
theorem n6_12 : SeqR Cx 6 c6_12 c6_13 c6_14 := run_seq
def c6_10 : AC := .seq c6_11 c6_12
theorem n6_10 : SeqR Cx 6 c6_10 c6_11 c6_12 := run_seq
def c6_2 : AC := .seq c6_3 c6_10
theorem n6_2 : SeqR Cx 6 c6_2 c6_3 c6_10 := run_seq
def c6_0 : AC := .seq c6_1 c6_2
theorem n6_0 : SeqR Cx 6 c6_0 c6_1 c6_2 := run_seq
theorem body6 : bodyOf Cx 6 = some c6_0 := by kernel_rfl
theorem res6 : resOf Cx 6 = some [.tmp 6] := by kernel_rfl
theorem pure6 : Cx.pure 6 = true := by kernel_rfl
def o7_1 : List AO := [oA 0 (.assign (.const (.bool false))) 4]
def c7_1 : AC := .region o7_1 []
theorem n7_1 : RegR Cx 7 c7_1 o7_1 := run_region
def o7_3 : List AO := [oA 5 (cF 14 #[(.const (.string ⟨#[40, 97, 100, 100, 32, 118, 97, 108, 32, 49, 41]⟩))] #[9]) 42,
  oA 4 (.move (tm 5)) 42,
  oA 6 (.extract (tm 4) 0) 25,
  oA 7 (.extract (tm 4) 1) 3,
  oA 8 (.extract (tm 4) 2) 39,
  oA 1 (.assign (tm 6)) 25,
  oA 2 (.assign (tm 7)) 3,
  oA 3 (.assign (tm 8)) 39]
def c7_3 : AC := .region o7_3 []
theorem n7_3 : RegR Cx 7 c7_3 o7_3 := run_region
def o7_5 : List AO := [oA 9 (.move (tm 3)) 39,
  oA 10 (.binOp .eql 39 (tm 9) (ci 0) 39) 4,
  oA 11 (.move (tm 10)) 4,
  oG 12 (.move (tm 1)) 25 11 true,
  oG 13 (cB .len #[(tm 12)] #[25]) 3 11 true,
  oG 14 (.binOp .eql 3 (tm 13) (ci 3) 3) 4 11 true,
  oA 15 (.pick (tm 11) (tm 14) (.const (.bool false))) 4,
  oA 16 (.move (tm 15)) 4,
  oG 17 (.move (tm 1)) 25 16 true,
  oG 18 (.indexAddr 25 (tm 17) (ci 0)) 0 16 true,
  oG 19 (.fieldAddr 37 (tm 18) 0) 0 16 true,
  oG 20 (.load 3 (tm 19)) 3 16 true,
  oG 21 (.binOp .eql 3 (tm 20) (ci 2) 3) 4 16 true,
  oA 22 (.pick (tm 16) (tm 21) (.const (.bool false))) 4,
  oA 23 (.move (tm 22)) 4,
  oG 24 (.move (tm 1)) 25 23 true,
  oG 25 (.indexAddr 25 (tm 24) (ci 1)) 0 23 true,
  oG 26 (.fieldAddr 37 (tm 25) 0) 0 23 true,
  oG 27 (.load 3 (tm 26)) 3 23 true,
  oG 28 (.binOp .eql 3 (tm 27) (ci 1) 3) 4 23 true,
  oA 29 (.pick (tm 23) (tm 28) (.const (.bool false))) 4,
  oA 30 (.move (tm 29)) 4,
  oG 31 (.move (tm 1)) 25 30 true,
  oG 32 (.indexAddr 25 (tm 31) (ci 1)) 0 30 true,
  oG 33 (.fieldAddr 37 (tm 32) 1) 0 30 true,
  oG 34 (.fieldAddr 35 (tm 33) 1) 0 30 true,
  oG 35 (.load 3 (tm 34)) 3 30 true,
  oG 36 (.binOp .eql 3 (tm 35) (ci 1) 3) 4 30 true,
  oA 37 (.pick (tm 30) (tm 36) (.const (.bool false))) 4,
  oA 38 (.move (tm 37)) 4,
  oG 39 (.move (tm 1)) 25 38 true,
  oG 40 (.indexAddr 25 (tm 39) (ci 2)) 0 38 true,
  oG 41 (.fieldAddr 37 (tm 40) 1) 0 38 true,
  oG 42 (.fieldAddr 35 (tm 41) 1) 0 38 true,
  oG 43 (.load 3 (tm 42)) 3 38 true,
  oG 44 (.binOp .eql 3 (tm 43) (ci 1) 3) 4 38 true,
  oA 45 (.pick (tm 38) (tm 44) (.const (.bool false))) 4,
  oA 0 (.assign (tm 45)) 4]
def c7_5 : AC := .region o7_5 []
theorem n7_5 : RegR Cx 7 c7_5 o7_5 := run_region
def c7_6 : AC := .ret
theorem n7_6 : RetR Cx 7 c7_6 := run_ret
def c7_4 : AC := .seq c7_5 c7_6
theorem n7_4 : SeqR Cx 7 c7_4 c7_5 c7_6 := run_seq
def c7_2 : AC := .seq c7_3 c7_4
theorem n7_2 : SeqR Cx 7 c7_2 c7_3 c7_4 := run_seq
def c7_0 : AC := .seq c7_1 c7_2
theorem n7_0 : SeqR Cx 7 c7_0 c7_1 c7_2 := run_seq
theorem body7 : bodyOf Cx 7 = some c7_0 := by kernel_rfl
theorem res7 : resOf Cx 7 = some [.tmp 0] := by kernel_rfl
theorem pure7 : Cx.pure 7 = true := by kernel_rfl
def o8_1 : List AO := [oA 2 (.assign (.const (.bool false))) 4]
def c8_1 : AC := .region o8_1 []
theorem n8_1 : RegR Cx 8 c8_1 o8_1 := run_region
def o8_3 : List AO := [oA 3 (.assign (ci 0)) 3]
def c8_3 : AC := .region o8_3 []
theorem n8_3 : RegR Cx 8 c8_3 o8_3 := run_region
def o8_6 : List AO := [oA 4 (.assign (ci 0)) 3]
def c8_6 : AC := .region o8_6 []
theorem n8_6 : RegR Cx 8 c8_6 o8_6 := run_region
def o8_11 : List AO := [oA 5 (.move (tm 4)) 3,
  oA 6 (.move (tm 0)) 22,
  oA 7 (cB .len #[(tm 6)] #[22]) 3,
  oA 8 (.binOp .lss 3 (tm 5) (tm 7) 3) 4,
  oA 9 (.move (tm 8)) 4,
  oG 10 (.move (tm 4)) 3 9 true,
  oG 11 (.binOp .leq 3 (tm 10) (ci 450) 3) 4 9 true,
  oA 12 (.pick (tm 9) (tm 11) (.const (.bool false))) 4]
def c8_11 : AC := .region o8_11 []
theorem n8_11 : RegR Cx 8 c8_11 o8_11 := run_region
def c8_13 : AC := .skip
theorem n8_13 : SkipR Cx 8 c8_13 := run_skip
def c8_14 : AC := .exit 0
theorem n8_14 : ExitR Cx 8 c8_14 0 := run_exit_start
def c8_12 : AC := .cond (tm 12) c8_13 c8_14
theorem n8_12 : CondR Cx 8 c8_12 (tm 12) c8_13 c8_14 := run_condC
def c8_10 : AC := .seq c8_11 c8_12
theorem n8_10 : SeqR Cx 8 c8_10 c8_11 c8_12 := run_seq
def o8_19 : List AO := [oA 15 (.move (tm 0)) 22,
  oA 16 (.move (tm 4)) 3,
  oA 17 (.indexAddr 22 (tm 15) (tm 16)) 0,
  oA 18 (.fieldAddr 52 (tm 17) 1) 0,
  oA 19 (.fieldAddr 35 (tm 18) 2) 0,
  oA 20 (.load 9 (tm 19)) 9,
  oA 21 (cB .len #[(tm 20)] #[9]) 3,
  oA 22 (.binOp .gtr 3 (tm 21) (ci 5000) 3) 4]
def c8_19 : AC := .region o8_19 []
theorem n8_19 : RegR Cx 8 c8_19 o8_19 := run_region
def o8_22 : List AO := [oA 2 (.assign (.const (.bool false))) 4]
def c8_22 : AC := .region o8_22 []
theorem n8_22 : RegR Cx 8 c8_22 o8_22 := run_region
def c8_23 : AC := .ret
theorem n8_23 : RetR Cx 8 c8_23 := run_ret
def c8_21 : AC := .seq c8_22 c8_23
theorem n8_21 : SeqR Cx 8 c8_21 c8_22 c8_23 := run_seq
def c8_24 : AC := .skip
theorem n8_24 : SkipR Cx 8 c8_24 := run_skip
def c8_20 : AC := .cond (tm 22) c8_21 c8_24
theorem n8_20 : CondR Cx 8 c8_20 (tm 22) c8_21 c8_24 := run_condC
def c8_18 : AC := .seq c8_19 c8_20
theorem n8_18 : SeqR Cx 8 c8_18 c8_19 c8_20 := run_seq
def o8_25 : List AO := [oA 23 (.move (tm 3)) 3,
  oA 24 (.move (tm 0)) 22,
  oA 25 (.move (tm 4)) 3,
  oA 26 (.indexAddr 22 (tm 24) (tm 25)) 0,
  oA 27 (.fieldAddr 52 (tm 26) 1) 0,
  oA 28 (.fieldAddr 35 (tm 27) 2) 0,
  oA 29 (.load 9 (tm 28)) 9,
  oA 30 (cB .len #[(tm 29)] #[9]) 3,
  oA 31 (.binOp .add 3 (tm 23) (tm 30) 3) 3,
  oA 3 (.assign (tm 31)) 3]
def c8_25 : AC := .region o8_25 []
theorem n8_25 : RegR Cx 8 c8_25 o8_25 := run_region
def c8_17 : AC := .seq c8_18 c8_25
theorem n8_17 : SeqR Cx 8 c8_17 c8_18 c8_25 := run_seq
def c8_16 : AC := .block 1 c8_17
theorem n8_16 : BlkR Cx 8 c8_16 1 c8_17 := run_block
def o8_26 : List AO := [oA 13 (.move (tm 4)) 3,
  oA 14 (.binOp .add 3 (tm 13) (ci 1) 3) 3,
  oA 4 (.assign (tm 14)) 3]
def c8_26 : AC := .region o8_26 []
theorem n8_26 : RegR Cx 8 c8_26 o8_26 := run_region
def c8_15 : AC := .seq c8_16 c8_26
theorem n8_15 : SeqR Cx 8 c8_15 c8_16 c8_26 := run_seq
def c8_9 : AC := .seq c8_10 c8_15
theorem n8_9 : SeqR Cx 8 c8_9 c8_10 c8_15 := run_seq
def c8_8 : AC := .loop c8_9
theorem n8_8 : LoopR Cx 8 c8_8 c8_9 := run_loop'
def c8_7 : AC := .block 0 c8_8
theorem n8_7 : BlkR Cx 8 c8_7 0 c8_8 := run_block
def c8_5 : AC := .seq c8_6 c8_7
theorem n8_5 : SeqR Cx 8 c8_5 c8_6 c8_7 := run_seq
def o8_28 : List AO := [oA 32 (.move (tm 0)) 22,
  oA 33 (cB .len #[(tm 32)] #[22]) 3,
  oA 34 (.binOp .leq 3 (tm 33) (ci 450) 3) 4,
  oA 35 (.move (tm 34)) 4,
  oG 36 (.move (tm 3)) 3 35 true,
  oG 37 (.binOp .leq 3 (tm 36) (ci 20000) 3) 4 35 true,
  oA 38 (.pick (tm 35) (tm 37) (.const (.bool false))) 4,
  oA 2 (.assign (tm 38)) 4]
def c8_28 : AC := .region o8_28 []
theorem n8_28 : RegR Cx 8 c8_28 o8_28 := run_region
def c8_29 : AC := .ret
theorem n8_29 : RetR Cx 8 c8_29 := run_ret
def c8_27 : AC := .seq c8_28 c8_29
theorem n8_27 : SeqR Cx 8 c8_27 c8_28 c8_29 := run_seq
def c8_4 : AC := .seq c8_5 c8_27
theorem n8_4 : SeqR Cx 8 c8_4 c8_5 c8_27 := run_seq
def c8_2 : AC := .seq c8_3 c8_4
theorem n8_2 : SeqR Cx 8 c8_2 c8_3 c8_4 := run_seq
def c8_0 : AC := .seq c8_1 c8_2
theorem n8_0 : SeqR Cx 8 c8_0 c8_1 c8_2 := run_seq
theorem body8 : bodyOf Cx 8 = some c8_0 := by kernel_rfl
theorem res8 : resOf Cx 8 = some [.tmp 2] := by kernel_rfl
theorem pure8 : Cx.pure 8 = true := by kernel_rfl
def o9_1 : List AO := [oA 2 (.assign (.const (.slice none 0 0))) 25]
def c9_1 : AC := .region o9_1 []
theorem n9_1 : RegR Cx 9 c9_1 o9_1 := run_region
def o9_3 : List AO := [oA 3 (.assign (.const (.slice none 0 0))) 25]
def c9_3 : AC := .region o9_3 []
theorem n9_3 : RegR Cx 9 c9_3 o9_3 := run_region
def o9_6 : List AO := [oA 4 (.assign (ci 0)) 3]
def c9_6 : AC := .region o9_6 []
theorem n9_6 : RegR Cx 9 c9_6 o9_6 := run_region
def o9_11 : List AO := [oA 5 (.move (tm 4)) 3,
  oA 6 (.move (tm 0)) 22,
  oA 7 (cB .len #[(tm 6)] #[22]) 3,
  oA 8 (.binOp .lss 3 (tm 5) (tm 7) 3) 4]
def c9_11 : AC := .region o9_11 []
theorem n9_11 : RegR Cx 9 c9_11 o9_11 := run_region
def c9_13 : AC := .skip
theorem n9_13 : SkipR Cx 9 c9_13 := run_skip
def c9_14 : AC := .exit 0
theorem n9_14 : ExitR Cx 9 c9_14 0 := run_exit_start
def c9_12 : AC := .cond (tm 8) c9_13 c9_14
theorem n9_12 : CondR Cx 9 c9_12 (tm 8) c9_13 c9_14 := run_condC
def c9_10 : AC := .seq c9_11 c9_12
theorem n9_10 : SeqR Cx 9 c9_10 c9_11 c9_12 := run_seq
def o9_17 : List AO := [oA 11 (.move (tm 3)) 25,
  oA 12 (.move (tm 0)) 22,
  oA 13 (.move (tm 4)) 3,
  oA 14 (.indexAddr 22 (tm 12) (tm 13)) 0,
  oA 15 (.fieldAddr 52 (tm 14) 0) 0,
  oA 16 (.load 3 (tm 15)) 3,
  oA 17 (.move (tm 0)) 22,
  oA 18 (.move (tm 4)) 3,
  oA 19 (.indexAddr 22 (tm 17) (tm 18)) 0,
  oA 20 (.fieldAddr 52 (tm 19) 1) 0,
  oA 21 (.load 35 (tm 20)) 35,
  oA 22 (.build 37 #[(0, (tm 16)), (1, (tm 21))]) 37,
  oA 23 (.buildSlice 25 1 #[(0, (tm 22))]) 25,
  oA 24 (cB .append #[(tm 11), (tm 23)] #[25, 25]) 25,
  oA 3 (.assign (tm 24)) 25]
def c9_17 : AC := .region o9_17 []
theorem n9_17 : RegR Cx 9 c9_17 o9_17 := run_region
def c9_16 : AC := .block 1 c9_17
theorem n9_16 : BlkR Cx 9 c9_16 1 c9_17 := run_block
def o9_18 : List AO := [oA 9 (.move (tm 4)) 3,
  oA 10 (.binOp .add 3 (tm 9) (ci 1) 3) 3,
  oA 4 (.assign (tm 10)) 3]
def c9_18 : AC := .region o9_18 []
theorem n9_18 : RegR Cx 9 c9_18 o9_18 := run_region
def c9_15 : AC := .seq c9_16 c9_18
theorem n9_15 : SeqR Cx 9 c9_15 c9_16 c9_18 := run_seq
def c9_9 : AC := .seq c9_10 c9_15
theorem n9_9 : SeqR Cx 9 c9_9 c9_10 c9_15 := run_seq
def c9_8 : AC := .loop c9_9
theorem n9_8 : LoopR Cx 9 c9_8 c9_9 := run_loop'
def c9_7 : AC := .block 0 c9_8
theorem n9_7 : BlkR Cx 9 c9_7 0 c9_8 := run_block
def c9_5 : AC := .seq c9_6 c9_7
theorem n9_5 : SeqR Cx 9 c9_5 c9_6 c9_7 := run_seq
def o9_20 : List AO := [oA 25 (.move (tm 3)) 25,
  oA 2 (.assign (tm 25)) 25]
def c9_20 : AC := .region o9_20 []
theorem n9_20 : RegR Cx 9 c9_20 o9_20 := run_region
def c9_21 : AC := .ret
theorem n9_21 : RetR Cx 9 c9_21 := run_ret
def c9_19 : AC := .seq c9_20 c9_21
theorem n9_19 : SeqR Cx 9 c9_19 c9_20 c9_21 := run_seq
def c9_4 : AC := .seq c9_5 c9_19
theorem n9_4 : SeqR Cx 9 c9_4 c9_5 c9_19 := run_seq
def c9_2 : AC := .seq c9_3 c9_4
theorem n9_2 : SeqR Cx 9 c9_2 c9_3 c9_4 := run_seq
def c9_0 : AC := .seq c9_1 c9_2
theorem n9_0 : SeqR Cx 9 c9_0 c9_1 c9_2 := run_seq
theorem body9 : bodyOf Cx 9 = some c9_0 := by kernel_rfl
theorem res9 : resOf Cx 9 = some [.tmp 2] := by kernel_rfl
theorem pure9 : Cx.pure 9 = true := by kernel_rfl
def o10_1 : List AO := [oA 4 (.assign (ci 0)) 3,
  oA 5 (.assign (.const (.bool false))) 4]
def c10_1 : AC := .region o10_1 []
theorem n10_1 : RegR Cx 10 c10_1 o10_1 := run_region
def o10_4 : List AO := [oA 6 (.move (tm 1)) 3,
  oA 7 (.binOp .lss 3 (tm 6) (ci 0) 3) 4,
  oA 8 (.move (tm 7)) 4,
  oG 9 (.move (tm 1)) 3 8 false,
  oG 10 (.move (tm 0)) 25 8 false,
  oG 11 (cB .len #[(tm 10)] #[25]) 3 8 false,
  oG 12 (.binOp .geq 3 (tm 9) (tm 11) 3) 4 8 false,
  oA 13 (.pick (tm 8) (.const (.bool true)) (tm 12)) 4,
  oA 14 (.move (tm 13)) 4,
  oG 15 (.move (tm 0)) 25 14 false,
  oG 16 (cF 11 #[(tm 15)] #[25]) 4 14 false,
  oG 17 (.unOp .not 4 (tm 16)) 4 14 false,
  oA 18 (.pick (tm 14) (.const (.bool true)) (tm 17)) 4]
def c10_4 : AC := .region o10_4 []
theorem n10_4 : RegR Cx 10 c10_4 o10_4 := run_region
def o10_7 : List AO := [oA 4 (.assign (ci 0)) 3,
  oA 5 (.assign (.const (.bool false))) 4]
def c10_7 : AC := .region o10_7 []
theorem n10_7 : RegR Cx 10 c10_7 o10_7 := run_region
def c10_8 : AC := .ret
theorem n10_8 : RetR Cx 10 c10_8 := run_ret
def c10_6 : AC := .seq c10_7 c10_8
theorem n10_6 : SeqR Cx 10 c10_6 c10_7 c10_8 := run_seq
def c10_9 : AC := .skip
theorem n10_9 : SkipR Cx 10 c10_9 := run_skip
def c10_5 : AC := .cond (tm 18) c10_6 c10_9
theorem n10_5 : CondR Cx 10 c10_5 (tm 18) c10_6 c10_9 := run_condC
def c10_3 : AC := .seq c10_4 c10_5
theorem n10_3 : SeqR Cx 10 c10_3 c10_4 c10_5 := run_seq
def o10_11 : List AO := [oA 19 (.move (tm 0)) 25,
  oA 20 (.move (tm 1)) 3,
  oA 21 (cF 23 #[(tm 19), (tm 20)] #[25, 3]) 3,
  oA 4 (.assign (tm 21)) 3,
  oA 5 (.assign (.const (.bool true))) 4]
def c10_11 : AC := .region o10_11 []
theorem n10_11 : RegR Cx 10 c10_11 o10_11 := run_region
def c10_12 : AC := .ret
theorem n10_12 : RetR Cx 10 c10_12 := run_ret
def c10_10 : AC := .seq c10_11 c10_12
theorem n10_10 : SeqR Cx 10 c10_10 c10_11 c10_12 := run_seq
def c10_2 : AC := .seq c10_3 c10_10
theorem n10_2 : SeqR Cx 10 c10_2 c10_3 c10_10 := run_seq
def c10_0 : AC := .seq c10_1 c10_2
theorem n10_0 : SeqR Cx 10 c10_0 c10_1 c10_2 := run_seq
theorem body10 : bodyOf Cx 10 = some c10_0 := by kernel_rfl
theorem res10 : resOf Cx 10 = some [.tmp 4, .tmp 5] := by kernel_rfl
theorem pure10 : Cx.pure 10 = true := by kernel_rfl
def o11_1 : List AO := [oA 2 (.assign (.const (.bool false))) 4]
def c11_1 : AC := .region o11_1 []
theorem n11_1 : RegR Cx 11 c11_1 o11_1 := run_region
def o11_4 : List AO := [oA 8 (.move (tm 0)) 25,
  oA 9 (cB .len #[(tm 8)] #[25]) 3,
  oA 10 (.binOp .eql 3 (tm 9) (ci 0) 3) 4,
  oA 11 (.move (tm 10)) 4,
  oG 12 (.move (tm 0)) 25 11 false,
  oG 13 (cB .len #[(tm 12)] #[25]) 3 11 false,
  oG 14 (.binOp .gtr 3 (tm 13) (ci 400) 3) 4 11 false,
  oA 15 (.pick (tm 11) (.const (.bool true)) (tm 14)) 4]
def c11_4 : AC := .region o11_4 []
theorem n11_4 : RegR Cx 11 c11_4 o11_4 := run_region
def o11_7 : List AO := [oA 2 (.assign (.const (.bool false))) 4]
def c11_7 : AC := .region o11_7 []
theorem n11_7 : RegR Cx 11 c11_7 o11_7 := run_region
def c11_8 : AC := .ret
theorem n11_8 : RetR Cx 11 c11_8 := run_ret
def c11_6 : AC := .seq c11_7 c11_8
theorem n11_6 : SeqR Cx 11 c11_6 c11_7 c11_8 := run_seq
def c11_9 : AC := .skip
theorem n11_9 : SkipR Cx 11 c11_9 := run_skip
def c11_5 : AC := .cond (tm 15) c11_6 c11_9
theorem n11_5 : CondR Cx 11 c11_5 (tm 15) c11_6 c11_9 := run_condC
def c11_3 : AC := .seq c11_4 c11_5
theorem n11_3 : SeqR Cx 11 c11_3 c11_4 c11_5 := run_seq
def o11_11 : List AO := [oA 16 (.buildSlice 56 1 #[(0, (ci 1))]) 56,
  oA 3 (.assign (tm 16)) 56]
def c11_11 : AC := .region o11_11 []
theorem n11_11 : RegR Cx 11 c11_11 o11_11 := run_region
def o11_14 : List AO := [oA 17 (.move (tm 0)) 25,
  oA 18 (cB .len #[(tm 17)] #[25]) 3,
  oA 19 (.move (ci 0)) 3]
def c11_14 : AC := .region o11_14 []
theorem n11_14 : RegR Cx 11 c11_14 o11_14 := run_region
def o11_18 : List AO := [oA 20 (.binOp .lss 3 (tm 19) (tm 18) 3) 0]
def c11_18 : AC := .region o11_18 []
theorem n11_18 : RegR Cx 11 c11_18 o11_18 := run_region
def c11_21 : AC := .skip
theorem n11_21 : SkipR Cx 11 c11_21 := run_skip
def c11_22 : AC := .exit 0
theorem n11_22 : ExitR Cx 11 c11_22 0 := run_exit_start
def c11_20 : AC := .cond (tm 20) c11_21 c11_22
theorem n11_20 : CondR Cx 11 c11_20 (tm 20) c11_21 c11_22 := run_condC
def o11_26 : List AO := [oA 21 (.indexAddr 25 (tm 17) (tm 19)) 0,
  oA 22 (.load 37 (tm 21)) 37,
  oA 5 (.alloc 37) 0,
  oN (.store 37 (tm 5) (tm 22)) 0]
def c11_26 : AC := .region o11_26 []
theorem n11_26 : RegR Cx 11 c11_26 o11_26 := run_region
def o11_28 : List AO := [oA 24 (.load 37 (tm 5)) 37,
  oA 25 (cF 24 #[(tm 24)] #[37]) 27,
  oA 23 (.move (tm 25)) 27,
  oA 26 (.extract (tm 23) 0) 3,
  oA 27 (.extract (tm 23) 1) 4,
  oA 6 (.assign (tm 26)) 3,
  oA 7 (.assign (tm 27)) 4]
def c11_28 : AC := .region o11_28 []
theorem n11_28 : RegR Cx 11 c11_28 o11_28 := run_region
def o11_31 : List AO := [oA 28 (.move (tm 7)) 4,
  oA 29 (.unOp .not 4 (tm 28)) 4,
  oA 30 (.move (tm 29)) 4,
  oG 31 (.move (tm 3)) 56 30 false,
  oG 32 (cB .len #[(tm 31)] #[56]) 3 30 false,
  oG 33 (.binOp .eql 3 (tm 32) (ci 0) 3) 4 30 false,
  oA 34 (.pick (tm 30) (.const (.bool true)) (tm 33)) 4,
  oA 35 (.move (tm 34)) 4,
  oG 36 (.move (tm 3)) 56 35 false,
  oG 37 (cB .len #[(tm 36)] #[56]) 3 35 false,
  oG 38 (.binOp .sub 3 (tm 37) (ci 1) 3) 3 35 false,
  oG 39 (.binOp .gtr 3 (tm 38) (ci 24) 3) 4 35 false,
  oA 40 (.pick (tm 35) (.const (.bool true)) (tm 39)) 4]
def c11_31 : AC := .region o11_31 []
theorem n11_31 : RegR Cx 11 c11_31 o11_31 := run_region
def o11_34 : List AO := [oA 2 (.assign (.const (.bool false))) 4]
def c11_34 : AC := .region o11_34 []
theorem n11_34 : RegR Cx 11 c11_34 o11_34 := run_region
def c11_35 : AC := .ret
theorem n11_35 : RetR Cx 11 c11_35 := run_ret
def c11_33 : AC := .seq c11_34 c11_35
theorem n11_33 : SeqR Cx 11 c11_33 c11_34 c11_35 := run_seq
def c11_36 : AC := .skip
theorem n11_36 : SkipR Cx 11 c11_36 := run_skip
def c11_32 : AC := .cond (tm 40) c11_33 c11_36
theorem n11_32 : CondR Cx 11 c11_32 (tm 40) c11_33 c11_36 := run_condC
def c11_30 : AC := .seq c11_31 c11_32
theorem n11_30 : SeqR Cx 11 c11_30 c11_31 c11_32 := run_seq
def o11_38 : List AO := [oA 41 (.move (tm 3)) 56,
  oA 42 (.move (tm 3)) 56,
  oA 43 (cB .len #[(tm 42)] #[56]) 3,
  oA 44 (.binOp .sub 3 (tm 43) (ci 1) 3) 3,
  oA 45 (.indexAddr 56 (tm 41) (tm 44)) 0,
  oA 46 (.load 3 (tm 45)) 3,
  oA 47 (.binOp .sub 3 (tm 46) (ci 1) 3) 3,
  oA 48 (.indexAddr 56 (tm 41) (tm 44)) 0,
  oN (.store 3 (tm 48) (tm 47)) 0]
def c11_38 : AC := .region o11_38 []
theorem n11_38 : RegR Cx 11 c11_38 o11_38 := run_region
def o11_40 : List AO := [oA 49 (.move (tm 3)) 56,
  oA 50 (.move (tm 6)) 3,
  oA 51 (.buildSlice 56 1 #[(0, (tm 50))]) 56,
  oA 52 (cB .append #[(tm 49), (tm 51)] #[56, 56]) 56,
  oA 3 (.assign (tm 52)) 56]
def c11_40 : AC := .region o11_40 []
theorem n11_40 : RegR Cx 11 c11_40 o11_40 := run_region
def o11_45 : List AO := [oA 53 (.move (tm 3)) 56,
  oA 54 (cB .len #[(tm 53)] #[56]) 3,
  oA 55 (.binOp .gtr 3 (tm 54) (ci 0) 3) 4,
  oA 56 (.move (tm 55)) 4,
  oG 57 (.move (tm 3)) 56 56 true,
  oG 58 (.move (tm 3)) 56 56 true,
  oG 59 (cB .len #[(tm 58)] #[56]) 3 56 true,
  oG 60 (.binOp .sub 3 (tm 59) (ci 1) 3) 3 56 true,
  oG 61 (.indexAddr 56 (tm 57) (tm 60)) 0 56 true,
  oG 62 (.load 3 (tm 61)) 3 56 true,
  oG 63 (.binOp .eql 3 (tm 62) (ci 0) 3) 4 56 true,
  oA 64 (.pick (tm 56) (tm 63) (.const (.bool false))) 4]
def c11_45 : AC := .region o11_45 []
theorem n11_45 : RegR Cx 11 c11_45 o11_45 := run_region
def c11_47 : AC := .skip
theorem n11_47 : SkipR Cx 11 c11_47 := run_skip
def c11_48 : AC := .exit 2
theorem n11_48 : ExitR Cx 11 c11_48 2 := run_exit_start
def c11_46 : AC := .cond (tm 64) c11_47 c11_48
theorem n11_46 : CondR Cx 11 c11_46 (tm 64) c11_47 c11_48 := run_condC
def c11_44 : AC := .seq c11_45 c11_46
theorem n11_44 : SeqR Cx 11 c11_44 c11_45 c11_46 := run_seq
def o11_50 : List AO := [oA 65 (.move (tm 3)) 56,
  oA 66 (.move (tm 3)) 56,
  oA 67 (cB .len #[(tm 66)] #[56]) 3,
  oA 68 (.binOp .sub 3 (tm 67) (ci 1) 3) 3,
  oA 69 (.slice 56 (tm 65) none (some (tm 68)) none) 56,
  oA 3 (.assign (tm 69)) 56]
def c11_50 : AC := .region o11_50 []
theorem n11_50 : RegR Cx 11 c11_50 o11_50 := run_region
def c11_49 : AC := .block 3 c11_50
theorem n11_49 : BlkR Cx 11 c11_49 3 c11_50 := run_block
def c11_43 : AC := .seq c11_44 c11_49
theorem n11_43 : SeqR Cx 11 c11_43 c11_44 c11_49 := run_seq
def c11_42 : AC := .loop c11_43
theorem n11_42 : LoopR Cx 11 c11_42 c11_43 := run_loop'
def c11_41 : AC := .block 2 c11_42
theorem n11_41 : BlkR Cx 11 c11_41 2 c11_42 := run_block
def c11_39 : AC := .seq c11_40 c11_41
theorem n11_39 : SeqR Cx 11 c11_39 c11_40 c11_41 := run_seq
def c11_37 : AC := .seq c11_38 c11_39
theorem n11_37 : SeqR Cx 11 c11_37 c11_38 c11_39 := run_seq
def c11_29 : AC := .seq c11_30 c11_37
theorem n11_29 : SeqR Cx 11 c11_29 c11_30 c11_37 := run_seq
def c11_27 : AC := .seq c11_28 c11_29
theorem n11_27 : SeqR Cx 11 c11_27 c11_28 c11_29 := run_seq
def c11_25 : AC := .seq c11_26 c11_27
theorem n11_25 : SeqR Cx 11 c11_25 c11_26 c11_27 := run_seq
def c11_24 : AC := .block 1 c11_25
theorem n11_24 : BlkR Cx 11 c11_24 1 c11_25 := run_block
def o11_51 : List AO := [oA 70 (.binOp .add 3 (tm 19) (ci 1) 3) 3,
  oA 19 (.move (tm 70)) 3]
def c11_51 : AC := .region o11_51 []
theorem n11_51 : RegR Cx 11 c11_51 o11_51 := run_region
def c11_23 : AC := .seq c11_24 c11_51
theorem n11_23 : SeqR Cx 11 c11_23 c11_24 c11_51 := run_seq
def c11_19 : AC := .seq c11_20 c11_23
theorem n11_19 : SeqR Cx 11 c11_19 c11_20 c11_23 := run_seq
def c11_17 : AC := .seq c11_18 c11_19
theorem n11_17 : SeqR Cx 11 c11_17 c11_18 c11_19 := run_seq
def c11_16 : AC := .loop c11_17
theorem n11_16 : LoopR Cx 11 c11_16 c11_17 := run_loop'
def c11_15 : AC := .block 0 c11_16
theorem n11_15 : BlkR Cx 11 c11_15 0 c11_16 := run_block
def c11_13 : AC := .seq c11_14 c11_15
theorem n11_13 : SeqR Cx 11 c11_13 c11_14 c11_15 := run_seq
def o11_53 : List AO := [oA 71 (.move (tm 3)) 56,
  oA 72 (cB .len #[(tm 71)] #[56]) 3,
  oA 73 (.binOp .eql 3 (tm 72) (ci 0) 3) 4,
  oA 2 (.assign (tm 73)) 4]
def c11_53 : AC := .region o11_53 []
theorem n11_53 : RegR Cx 11 c11_53 o11_53 := run_region
def c11_54 : AC := .ret
theorem n11_54 : RetR Cx 11 c11_54 := run_ret
def c11_52 : AC := .seq c11_53 c11_54
theorem n11_52 : SeqR Cx 11 c11_52 c11_53 c11_54 := run_seq
def c11_12 : AC := .seq c11_13 c11_52
theorem n11_12 : SeqR Cx 11 c11_12 c11_13 c11_52 := run_seq
def c11_10 : AC := .seq c11_11 c11_12
theorem n11_10 : SeqR Cx 11 c11_10 c11_11 c11_12 := run_seq
def c11_2 : AC := .seq c11_3 c11_10
theorem n11_2 : SeqR Cx 11 c11_2 c11_3 c11_10 := run_seq
def c11_0 : AC := .seq c11_1 c11_2
theorem n11_0 : SeqR Cx 11 c11_0 c11_1 c11_2 := run_seq
theorem body11 : bodyOf Cx 11 = some c11_0 := by kernel_rfl
theorem res11 : resOf Cx 11 = some [.tmp 2] := by kernel_rfl
theorem pure11 : Cx.pure 11 = true := by kernel_rfl
def o12_1 : List AO := [oA 2 (.assign (.const (.string ⟨#[]⟩))) 9,
  oA 3 (.assign (ci 0)) 3,
  oA 4 (.assign (.const (.bool false))) 4]
def c12_1 : AC := .region o12_1 []
theorem n12_1 : RegR Cx 12 c12_1 o12_1 := run_region
def o12_4 : List AO := [oA 6 (.move (tm 0)) 3,
  oA 7 (.binOp .leq 3 (tm 6) (ci 1) 3) 4,
  oA 8 (.move (tm 7)) 4,
  oG 9 (.move (tm 0)) 3 8 false,
  oG 10 (.binOp .gtr 3 (tm 9) (ci 29) 3) 4 8 false,
  oA 11 (.pick (tm 8) (.const (.bool true)) (tm 10)) 4]
def c12_4 : AC := .region o12_4 []
theorem n12_4 : RegR Cx 12 c12_4 o12_4 := run_region
def o12_7 : List AO := [oA 2 (.assign (.const (.string ⟨#[]⟩))) 9,
  oA 3 (.assign (ci 0)) 3,
  oA 4 (.assign (.const (.bool false))) 4]
def c12_7 : AC := .region o12_7 []
theorem n12_7 : RegR Cx 12 c12_7 o12_7 := run_region
def c12_8 : AC := .ret
theorem n12_8 : RetR Cx 12 c12_8 := run_ret
def c12_6 : AC := .seq c12_7 c12_8
theorem n12_6 : SeqR Cx 12 c12_6 c12_7 c12_8 := run_seq
def c12_9 : AC := .skip
theorem n12_9 : SkipR Cx 12 c12_9 := run_skip
def c12_5 : AC := .cond (tm 11) c12_6 c12_9
theorem n12_5 : CondR Cx 12 c12_5 (tm 11) c12_6 c12_9 := run_condC
def c12_3 : AC := .seq c12_4 c12_5
theorem n12_3 : SeqR Cx 12 c12_3 c12_4 c12_5 := run_seq
def o12_11 : List AO := [oA 12 (cF 25 #[] #[]) 60,
  oA 13 (.move (tm 0)) 3,
  oA 14 (.binOp .sub 3 (tm 13) (ci 1) 3) 3,
  oA 15 (.binOp .sub 3 (tm 14) (ci 1) 3) 3,
  oA 16 (.indexAddr 60 (tm 12) (tm 15)) 0,
  oA 17 (.load 59 (tm 16)) 59,
  oA 5 (.alloc 59) 0,
  oN (.store 59 (tm 5) (tm 17)) 0]
def c12_11 : AC := .region o12_11 []
theorem n12_11 : RegR Cx 12 c12_11 o12_11 := run_region
def o12_13 : List AO := [oA 18 (.fieldAddr 59 (tm 5) 0) 0,
  oA 19 (.load 9 (tm 18)) 9,
  oA 20 (.fieldAddr 59 (tm 5) 1) 0,
  oA 21 (.load 3 (tm 20)) 3,
  oA 2 (.assign (tm 19)) 9,
  oA 3 (.assign (tm 21)) 3,
  oA 4 (.assign (.const (.bool true))) 4]
def c12_13 : AC := .region o12_13 []
theorem n12_13 : RegR Cx 12 c12_13 o12_13 := run_region
def c12_14 : AC := .ret
theorem n12_14 : RetR Cx 12 c12_14 := run_ret
def c12_12 : AC := .seq c12_13 c12_14
theorem n12_12 : SeqR Cx 12 c12_12 c12_13 c12_14 := run_seq
def c12_10 : AC := .seq c12_11 c12_12
theorem n12_10 : SeqR Cx 12 c12_10 c12_11 c12_12 := run_seq
def c12_2 : AC := .seq c12_3 c12_10
theorem n12_2 : SeqR Cx 12 c12_2 c12_3 c12_10 := run_seq
def c12_0 : AC := .seq c12_1 c12_2
theorem n12_0 : SeqR Cx 12 c12_0 c12_1 c12_2 := run_seq
theorem body12 : bodyOf Cx 12 = some c12_0 := by kernel_rfl
theorem res12 : resOf Cx 12 = some [.tmp 2, .tmp 3, .tmp 4] := by kernel_rfl
theorem pure12 : Cx.pure 12 = true := by kernel_rfl
def o13_1 : List AO := [oA 2 (.assign (.const (.string ⟨#[]⟩))) 9,
  oA 3 (.assign (ci 0)) 39]
def c13_1 : AC := .region o13_1 []
theorem n13_1 : RegR Cx 13 c13_1 o13_1 := run_region
def o13_4 : List AO := [oA 5 (.move (tm 0)) 25,
  oA 6 (cF 11 #[(tm 5)] #[25]) 4,
  oA 7 (.unOp .not 4 (tm 6)) 4]
def c13_4 : AC := .region o13_4 []
theorem n13_4 : RegR Cx 13 c13_4 o13_4 := run_region
def o13_7 : List AO := [oA 2 (.assign (.const (.string ⟨#[]⟩))) 9,
  oA 3 (.assign (ci 1)) 39]
def c13_7 : AC := .region o13_7 []
theorem n13_7 : RegR Cx 13 c13_7 o13_7 := run_region
def c13_8 : AC := .ret
theorem n13_8 : RetR Cx 13 c13_8 := run_ret
def c13_6 : AC := .seq c13_7 c13_8
theorem n13_6 : SeqR Cx 13 c13_6 c13_7 c13_8 := run_seq
def c13_9 : AC := .skip
theorem n13_9 : SkipR Cx 13 c13_9 := run_skip
def c13_5 : AC := .cond (tm 7) c13_6 c13_9
theorem n13_5 : CondR Cx 13 c13_5 (tm 7) c13_6 c13_9 := run_condC
def c13_3 : AC := .seq c13_4 c13_5
theorem n13_3 : SeqR Cx 13 c13_3 c13_4 c13_5 := run_seq
def o13_11 : List AO := [oA 4 (.alloc 65) 0]
def c13_11 : AC := .region o13_11 []
theorem n13_11 : RegR Cx 13 c13_11 o13_11 := run_region
def o13_13 : List AO := [oA 8 (.move (tm 0)) 25,
  oA 9 (cF 26 #[(tm 8), (ci 0), (tm 4)] #[25, 3, 62]) 0]
def c13_13 : AC := .region o13_13 []
theorem n13_13 : RegR Cx 13 c13_13 o13_13 := run_region
def o13_16 : List AO := [oA 10 (cF 27 #[(tm 4)] #[65]) 3,
  oA 11 (.binOp .gtr 3 (tm 10) (ci 4096) 3) 4]
def c13_16 : AC := .region o13_16 []
theorem n13_16 : RegR Cx 13 c13_16 o13_16 := run_region
def o13_19 : List AO := [oA 2 (.assign (.const (.string ⟨#[]⟩))) 9,
  oA 3 (.assign (ci 3)) 39]
def c13_19 : AC := .region o13_19 []
theorem n13_19 : RegR Cx 13 c13_19 o13_19 := run_region
def c13_20 : AC := .ret
theorem n13_20 : RetR Cx 13 c13_20 := run_ret
def c13_18 : AC := .seq c13_19 c13_20
theorem n13_18 : SeqR Cx 13 c13_18 c13_19 c13_20 := run_seq
def c13_21 : AC := .skip
theorem n13_21 : SkipR Cx 13 c13_21 := run_skip
def c13_17 : AC := .cond (tm 11) c13_18 c13_21
theorem n13_17 : CondR Cx 13 c13_17 (tm 11) c13_18 c13_21 := run_condC
def c13_15 : AC := .seq c13_16 c13_17
theorem n13_15 : SeqR Cx 13 c13_15 c13_16 c13_17 := run_seq
def o13_23 : List AO := [oA 12 (cF 28 #[(tm 4)] #[65]) 9,
  oA 2 (.assign (tm 12)) 9,
  oA 3 (.assign (ci 0)) 39]
def c13_23 : AC := .region o13_23 []
theorem n13_23 : RegR Cx 13 c13_23 o13_23 := run_region
def c13_24 : AC := .ret
theorem n13_24 : RetR Cx 13 c13_24 := run_ret
def c13_22 : AC := .seq c13_23 c13_24
theorem n13_22 : SeqR Cx 13 c13_22 c13_23 c13_24 := run_seq
def c13_14 : AC := .seq c13_15 c13_22
theorem n13_14 : SeqR Cx 13 c13_14 c13_15 c13_22 := run_seq
def c13_12 : AC := .seq c13_13 c13_14
theorem n13_12 : SeqR Cx 13 c13_12 c13_13 c13_14 := run_seq
def c13_10 : AC := .seq c13_11 c13_12
theorem n13_10 : SeqR Cx 13 c13_10 c13_11 c13_12 := run_seq
def c13_2 : AC := .seq c13_3 c13_10
theorem n13_2 : SeqR Cx 13 c13_2 c13_3 c13_10 := run_seq
def c13_0 : AC := .seq c13_1 c13_2
theorem n13_0 : SeqR Cx 13 c13_0 c13_1 c13_2 := run_seq
theorem body13 : bodyOf Cx 13 = some c13_0 := by kernel_rfl
theorem res13 : resOf Cx 13 = some [.tmp 2, .tmp 3] := by kernel_rfl
theorem pure13 : Cx.pure 13 = true := by kernel_rfl
def o14_1 : List AO := [oA 2 (.assign (.const (.slice none 0 0))) 25,
  oA 3 (.assign (ci 0)) 3,
  oA 4 (.assign (ci 0)) 39]
def c14_1 : AC := .region o14_1 []
theorem n14_1 : RegR Cx 14 c14_1 o14_1 := run_region
def o14_5 : List AO := [oA 19 (.move (tm 0)) 9,
  oA 20 (cB .len #[(tm 19)] #[9]) 3,
  oA 21 (.binOp .gtr 3 (tm 20) (ci 4096) 3) 4]
def c14_5 : AC := .region o14_5 []
theorem n14_5 : RegR Cx 14 c14_5 o14_5 := run_region
def o14_8 : List AO := [oA 2 (.assign (.const (.slice none 0 0))) 25,
  oA 3 (.assign (ci 0)) 3,
  oA 4 (.assign (ci 3)) 39]
def c14_8 : AC := .region o14_8 []
theorem n14_8 : RegR Cx 14 c14_8 o14_8 := run_region
def c14_9 : AC := .ret
theorem n14_9 : RetR Cx 14 c14_9 := run_ret
def c14_7 : AC := .seq c14_8 c14_9
theorem n14_7 : SeqR Cx 14 c14_7 c14_8 c14_9 := run_seq
def c14_10 : AC := .skip
theorem n14_10 : SkipR Cx 14 c14_10 := run_skip
def c14_6 : AC := .cond (tm 21) c14_7 c14_10
theorem n14_6 : CondR Cx 14 c14_6 (tm 21) c14_7 c14_10 := run_condC
def c14_4 : AC := .seq c14_5 c14_6
theorem n14_4 : SeqR Cx 14 c14_4 c14_5 c14_6 := run_seq
def o14_12 : List AO := [oA 5 (.assign (.const (.slice none 0 0))) 25]
def c14_12 : AC := .region o14_12 []
theorem n14_12 : RegR Cx 14 c14_12 o14_12 := run_region
def o14_14 : List AO := [oA 6 (.assign (.const (.slice none 0 0))) 56]
def c14_14 : AC := .region o14_14 []
theorem n14_14 : RegR Cx 14 c14_14 o14_14 := run_region
def o14_16 : List AO := [oA 7 (.assign (ci 0)) 3]
def c14_16 : AC := .region o14_16 []
theorem n14_16 : RegR Cx 14 c14_16 o14_16 := run_region
def c14_18 : AC := .label 0
theorem n14_18 : SkipR Cx 14 c14_18 := run_label
def o14_20 : List AO := [oA 22 (.move (tm 0)) 9,
  oA 23 (.move (tm 7)) 3,
  oA 24 (cF 29 #[(tm 22), (tm 23)] #[9, 3]) 3,
  oA 7 (.assign (tm 24)) 3]
def c14_20 : AC := .region o14_20 []
theorem n14_20 : RegR Cx 14 c14_20 o14_20 := run_region
def o14_24 : List AO := [oA 26 (.move (tm 7)) 3,
  oA 27 (.move (tm 0)) 9,
  oA 28 (cB .len #[(tm 27)] #[9]) 3,
  oA 29 (.binOp .eql 3 (tm 26) (tm 28) 3) 4,
  oA 25 (.assign (tm 29)) 4]
def c14_24 : AC := .region o14_24 []
theorem n14_24 : RegR Cx 14 c14_24 o14_24 := run_region
def o14_27 : List AO := [oA 30 (.move (tm 7)) 3,
  oA 2 (.assign (.const (.slice none 0 0))) 25,
  oA 3 (.assign (tm 30)) 3,
  oA 4 (.assign (ci 2)) 39]
def c14_27 : AC := .region o14_27 []
theorem n14_27 : RegR Cx 14 c14_27 o14_27 := run_region
def c14_28 : AC := .ret
theorem n14_28 : RetR Cx 14 c14_28 := run_ret
def c14_26 : AC := .seq c14_27 c14_28
theorem n14_26 : SeqR Cx 14 c14_26 c14_27 c14_28 := run_seq
def o14_30 : List AO := [oA 32 (.move (tm 0)) 9,
  oA 33 (.move (tm 7)) 3,
  oA 34 (.index 9 (tm 32) (tm 33)) 5,
  oA 35 (.binOp .eql 5 (tm 34) (.const (.int .u8 41)) 5) 4,
  oA 36 (.move (tm 35)) 4,
  oG 37 (.move (tm 6)) 56 36 true,
  oG 38 (cB .len #[(tm 37)] #[56]) 3 36 true,
  oG 39 (.binOp .gtr 3 (tm 38) (ci 0) 3) 4 36 true,
  oA 40 (.pick (tm 36) (tm 39) (.const (.bool false))) 4,
  oA 31 (.assign (tm 40)) 4]
def c14_30 : AC := .region o14_30 []
theorem n14_30 : RegR Cx 14 c14_30 o14_30 := run_region
def o14_33 : List AO := [oA 41 (.move (tm 7)) 3,
  oA 2 (.assign (.const (.slice none 0 0))) 25,
  oA 3 (.assign (tm 41)) 3,
  oA 4 (.assign (ci 12)) 39]
def c14_33 : AC := .region o14_33 []
theorem n14_33 : RegR Cx 14 c14_33 o14_33 := run_region
def c14_34 : AC := .ret
theorem n14_34 : RetR Cx 14 c14_34 := run_ret
def c14_32 : AC := .seq c14_33 c14_34
theorem n14_32 : SeqR Cx 14 c14_32 c14_33 c14_34 := run_seq
def o14_36 : List AO := [oA 43 (.move (tm 5)) 25,
  oA 44 (cB .len #[(tm 43)] #[25]) 3,
  oA 45 (.binOp .eql 3 (tm 44) (ci 400) 3) 4,
  oA 42 (.assign (tm 45)) 4]
def c14_36 : AC := .region o14_36 []
theorem n14_36 : RegR Cx 14 c14_36 o14_36 := run_region
def o14_39 : List AO := [oA 46 (.move (tm 7)) 3,
  oA 2 (.assign (.const (.slice none 0 0))) 25,
  oA 3 (.assign (tm 46)) 3,
  oA 4 (.assign (ci 22)) 39]
def c14_39 : AC := .region o14_39 []
theorem n14_39 : RegR Cx 14 c14_39 o14_39 := run_region
def c14_40 : AC := .ret
theorem n14_40 : RetR Cx 14 c14_40 := run_ret
def c14_38 : AC := .seq c14_39 c14_40
theorem n14_38 : SeqR Cx 14 c14_38 c14_39 c14_40 := run_seq
def o14_42 : List AO := [oA 48 (.move (tm 6)) 56,
  oA 49 (cB .len #[(tm 48)] #[56]) 3,
  oA 50 (.binOp .gtr 3 (tm 49) (ci 24) 3) 4,
  oA 47 (.assign (tm 50)) 4]
def c14_42 : AC := .region o14_42 []
theorem n14_42 : RegR Cx 14 c14_42 o14_42 := run_region
def o14_45 : List AO := [oA 51 (.move (tm 7)) 3,
  oA 2 (.assign (.const (.slice none 0 0))) 25,
  oA 3 (.assign (tm 51)) 3,
  oA 4 (.assign (ci 23)) 39]
def c14_45 : AC := .region o14_45 []
theorem n14_45 : RegR Cx 14 c14_45 o14_45 := run_region
def c14_46 : AC := .ret
theorem n14_46 : RetR Cx 14 c14_46 := run_ret
def c14_44 : AC := .seq c14_45 c14_46
theorem n14_44 : SeqR Cx 14 c14_44 c14_45 c14_46 := run_seq
def o14_48 : List AO := [oA 53 (.move (tm 0)) 9,
  oA 54 (.move (tm 7)) 3,
  oA 55 (.index 9 (tm 53) (tm 54)) 5,
  oA 56 (.binOp .eql 5 (tm 55) (.const (.int .u8 40)) 5) 4,
  oA 52 (.assign (tm 56)) 4]
def c14_48 : AC := .region o14_48 []
theorem n14_48 : RegR Cx 14 c14_48 o14_48 := run_region
def o14_51 : List AO := [oA 58 (.move (tm 0)) 9,
  oA 59 (.move (tm 7)) 3,
  oA 60 (.binOp .add 3 (tm 59) (ci 1) 3) 3,
  oA 61 (cF 30 #[(tm 58), (tm 60)] #[9, 3]) 70,
  oA 57 (.move (tm 61)) 70,
  oA 62 (.extract (tm 57) 0) 37,
  oA 63 (.extract (tm 57) 1) 3,
  oA 64 (.extract (tm 57) 2) 3,
  oA 65 (.extract (tm 57) 3) 39,
  oA 8 (.alloc 37) 0,
  oN (.store 37 (tm 8) (tm 62)) 0,
  oA 9 (.assign (tm 63)) 3,
  oA 10 (.assign (tm 64)) 3,
  oA 11 (.assign (tm 65)) 39]
def c14_51 : AC := .region o14_51 []
theorem n14_51 : RegR Cx 14 c14_51 o14_51 := run_region
def o14_54 : List AO := [oA 66 (.move (tm 11)) 39,
  oA 67 (.binOp .neq 39 (tm 66) (ci 0) 39) 4]
def c14_54 : AC := .region o14_54 []
theorem n14_54 : RegR Cx 14 c14_54 o14_54 := run_region
def o14_57 : List AO := [oA 68 (.move (tm 10)) 3,
  oA 69 (.move (tm 11)) 39,
  oA 2 (.assign (.const (.slice none 0 0))) 25,
  oA 3 (.assign (tm 68)) 3,
  oA 4 (.assign (tm 69)) 39]
def c14_57 : AC := .region o14_57 []
theorem n14_57 : RegR Cx 14 c14_57 o14_57 := run_region
def c14_58 : AC := .ret
theorem n14_58 : RetR Cx 14 c14_58 := run_ret
def c14_56 : AC := .seq c14_57 c14_58
theorem n14_56 : SeqR Cx 14 c14_56 c14_57 c14_58 := run_seq
def c14_59 : AC := .skip
theorem n14_59 : SkipR Cx 14 c14_59 := run_skip
def c14_55 : AC := .cond (tm 67) c14_56 c14_59
theorem n14_55 : CondR Cx 14 c14_55 (tm 67) c14_56 c14_59 := run_condC
def c14_53 : AC := .seq c14_54 c14_55
theorem n14_53 : SeqR Cx 14 c14_53 c14_54 c14_55 := run_seq
def o14_61 : List AO := [oA 71 (.fieldAddr 37 (tm 8) 0) 0,
  oA 72 (.load 3 (tm 71)) 3,
  oA 73 (cF 12 #[(tm 72)] #[3]) 30,
  oA 70 (.move (tm 73)) 30,
  oA 74 (.extract (tm 70) 0) 9,
  oA 75 (.extract (tm 70) 1) 3,
  oA 76 (.extract (tm 70) 2) 4,
  oA 12 (.assign (tm 74)) 9,
  oA 13 (.assign (tm 75)) 3,
  oA 14 (.assign (tm 76)) 4]
def c14_61 : AC := .region o14_61 []
theorem n14_61 : RegR Cx 14 c14_61 o14_61 := run_region
def o14_63 : List AO := [oA 77 (.move (tm 5)) 25,
  oA 78 (.load 37 (tm 8)) 37,
  oA 79 (.buildSlice 25 1 #[(0, (tm 78))]) 25,
  oA 80 (cB .append #[(tm 77), (tm 79)] #[25, 25]) 25,
  oA 81 (.move (tm 6)) 56,
  oA 82 (.move (tm 13)) 3,
  oA 83 (.buildSlice 56 1 #[(0, (tm 82))]) 56,
  oA 84 (cB .append #[(tm 81), (tm 83)] #[56, 56]) 56,
  oA 85 (.move (tm 9)) 3,
  oA 5 (.assign (tm 80)) 25,
  oA 6 (.assign (tm 84)) 56,
  oA 7 (.assign (tm 85)) 3]
def c14_63 : AC := .region o14_63 []
theorem n14_63 : RegR Cx 14 c14_63 o14_63 := run_region
def c14_64 : AC := .goto 0
def c14_62 : AC := .seq c14_63 c14_64
theorem n14_62 : SeqR Cx 14 c14_62 c14_63 c14_64 := run_seq
def c14_60 : AC := .seq c14_61 c14_62
theorem n14_60 : SeqR Cx 14 c14_60 c14_61 c14_62 := run_seq
def c14_52 : AC := .seq c14_53 c14_60
theorem n14_52 : SeqR Cx 14 c14_52 c14_53 c14_60 := run_seq
def c14_50 : AC := .seq c14_51 c14_52
theorem n14_50 : SeqR Cx 14 c14_50 c14_51 c14_52 := run_seq
def c14_65 : AC := .skip
theorem n14_65 : SkipR Cx 14 c14_65 := run_skip
def c14_49 : AC := .cond (tm 52) c14_50 c14_65
theorem n14_49 : CondR Cx 14 c14_49 (tm 52) c14_50 c14_65 := run_condC
def c14_47 : AC := .seq c14_48 c14_49
theorem n14_47 : SeqR Cx 14 c14_47 c14_48 c14_49 := run_seq
def c14_43 : AC := .cond (tm 47) c14_44 c14_47
theorem n14_43 : CondR Cx 14 c14_43 (tm 47) c14_44 c14_47 := run_condC
def c14_41 : AC := .seq c14_42 c14_43
theorem n14_41 : SeqR Cx 14 c14_41 c14_42 c14_43 := run_seq
def c14_37 : AC := .cond (tm 42) c14_38 c14_41
theorem n14_37 : CondR Cx 14 c14_37 (tm 42) c14_38 c14_41 := run_condC
def c14_35 : AC := .seq c14_36 c14_37
theorem n14_35 : SeqR Cx 14 c14_35 c14_36 c14_37 := run_seq
def c14_31 : AC := .cond (tm 31) c14_32 c14_35
theorem n14_31 : CondR Cx 14 c14_31 (tm 31) c14_32 c14_35 := run_condC
def c14_29 : AC := .seq c14_30 c14_31
theorem n14_29 : SeqR Cx 14 c14_29 c14_30 c14_31 := run_seq
def c14_25 : AC := .cond (tm 25) c14_26 c14_29
theorem n14_25 : CondR Cx 14 c14_25 (tm 25) c14_26 c14_29 := run_condC
def c14_23 : AC := .seq c14_24 c14_25
theorem n14_23 : SeqR Cx 14 c14_23 c14_24 c14_25 := run_seq
def c14_22 : AC := .block 0 c14_23
theorem n14_22 : BlkR Cx 14 c14_22 0 c14_23 := run_block
def o14_68 : List AO := [oA 87 (.move (tm 0)) 9,
  oA 88 (.move (tm 7)) 3,
  oA 89 (cF 31 #[(tm 87), (tm 88)] #[9, 3]) 70,
  oA 86 (.move (tm 89)) 70,
  oA 90 (.extract (tm 86) 0) 37,
  oA 91 (.extract (tm 86) 1) 3,
  oA 92 (.extract (tm 86) 2) 3,
  oA 93 (.extract (tm 86) 3) 39,
  oA 15 (.alloc 37) 0,
  oN (.store 37 (tm 15) (tm 90)) 0,
  oA 16 (.assign (tm 91)) 3,
  oA 17 (.assign (tm 92)) 3,
  oA 18 (.assign (tm 93)) 39]
def c14_68 : AC := .region o14_68 []
theorem n14_68 : RegR Cx 14 c14_68 o14_68 := run_region
def o14_71 : List AO := [oA 94 (.move (tm 18)) 39,
  oA 95 (.binOp .neq 39 (tm 94) (ci 0) 39) 4]
def c14_71 : AC := .region o14_71 []
theorem n14_71 : RegR Cx 14 c14_71 o14_71 := run_region
def o14_74 : List AO := [oA 96 (.move (tm 17)) 3,
  oA 97 (.move (tm 18)) 39,
  oA 2 (.assign (.const (.slice none 0 0))) 25,
  oA 3 (.assign (tm 96)) 3,
  oA 4 (.assign (tm 97)) 39]
def c14_74 : AC := .region o14_74 []
theorem n14_74 : RegR Cx 14 c14_74 o14_74 := run_region
def c14_75 : AC := .ret
theorem n14_75 : RetR Cx 14 c14_75 := run_ret
def c14_73 : AC := .seq c14_74 c14_75
theorem n14_73 : SeqR Cx 14 c14_73 c14_74 c14_75 := run_seq
def c14_76 : AC := .skip
theorem n14_76 : SkipR Cx 14 c14_76 := run_skip
def c14_72 : AC := .cond (tm 95) c14_73 c14_76
theorem n14_72 : CondR Cx 14 c14_72 (tm 95) c14_73 c14_76 := run_condC
def c14_70 : AC := .seq c14_71 c14_72
theorem n14_70 : SeqR Cx 14 c14_70 c14_71 c14_72 := run_seq
def o14_77 : List AO := [oA 98 (.move (tm 5)) 25,
  oA 99 (.load 37 (tm 15)) 37,
  oA 100 (.buildSlice 25 1 #[(0, (tm 99))]) 25,
  oA 101 (cB .append #[(tm 98), (tm 100)] #[25, 25]) 25,
  oA 102 (.move (tm 16)) 3,
  oA 5 (.assign (tm 101)) 25,
  oA 7 (.assign (tm 102)) 3]
def c14_77 : AC := .region o14_77 []
theorem n14_77 : RegR Cx 14 c14_77 o14_77 := run_region
def c14_69 : AC := .seq c14_70 c14_77
theorem n14_69 : SeqR Cx 14 c14_69 c14_70 c14_77 := run_seq
def c14_67 : AC := .seq c14_68 c14_69
theorem n14_67 : SeqR Cx 14 c14_67 c14_68 c14_69 := run_seq
def c14_79 : AC := .label 1
theorem n14_79 : SkipR Cx 14 c14_79 := run_label
def o14_82 : List AO := [oA 103 (.move (tm 6)) 56,
  oA 104 (cB .len #[(tm 103)] #[56]) 3,
  oA 105 (.binOp .eql 3 (tm 104) (ci 0) 3) 4]
def c14_82 : AC := .region o14_82 []
theorem n14_82 : RegR Cx 14 c14_82 o14_82 := run_region
def o14_86 : List AO := [oA 106 (.move (tm 0)) 9,
  oA 107 (.move (tm 7)) 3,
  oA 108 (cF 29 #[(tm 106), (tm 107)] #[9, 3]) 3,
  oA 7 (.assign (tm 108)) 3]
def c14_86 : AC := .region o14_86 []
theorem n14_86 : RegR Cx 14 c14_86 o14_86 := run_region
def o14_88 : List AO := [oA 109 (.move (tm 7)) 3,
  oA 110 (.move (tm 0)) 9,
  oA 111 (cB .len #[(tm 110)] #[9]) 3,
  oA 112 (.binOp .lss 3 (tm 109) (tm 111) 3) 4]
def c14_88 : AC := .region o14_88 []
theorem n14_88 : RegR Cx 14 c14_88 o14_88 := run_region
def o14_91 : List AO := [oA 113 (.move (tm 7)) 3,
  oA 2 (.assign (.const (.slice none 0 0))) 25,
  oA 3 (.assign (tm 113)) 3,
  oA 4 (.assign (ci 10)) 39]
def c14_91 : AC := .region o14_91 []
theorem n14_91 : RegR Cx 14 c14_91 o14_91 := run_region
def c14_92 : AC := .ret
theorem n14_92 : RetR Cx 14 c14_92 := run_ret
def c14_90 : AC := .seq c14_91 c14_92
theorem n14_90 : SeqR Cx 14 c14_90 c14_91 c14_92 := run_seq
def c14_93 : AC := .skip
theorem n14_93 : SkipR Cx 14 c14_93 := run_skip
def c14_89 : AC := .cond (tm 112) c14_90 c14_93
theorem n14_89 : CondR Cx 14 c14_89 (tm 112) c14_90 c14_93 := run_condC
def c14_87 : AC := .seq c14_88 c14_89
theorem n14_87 : SeqR Cx 14 c14_87 c14_88 c14_89 := run_seq
def c14_85 : AC := .seq c14_86 c14_87
theorem n14_85 : SeqR Cx 14 c14_85 c14_86 c14_87 := run_seq
def o14_95 : List AO := [oA 114 (.move (tm 5)) 25,
  oA 2 (.assign (tm 114)) 25,
  oA 3 (.assign (ci 0)) 3,
  oA 4 (.assign (ci 0)) 39]
def c14_95 : AC := .region o14_95 []
theorem n14_95 : RegR Cx 14 c14_95 o14_95 := run_region
def c14_96 : AC := .ret
theorem n14_96 : RetR Cx 14 c14_96 := run_ret
def c14_94 : AC := .seq c14_95 c14_96
theorem n14_94 : SeqR Cx 14 c14_94 c14_95 c14_96 := run_seq
def c14_84 : AC := .seq c14_85 c14_94
theorem n14_84 : SeqR Cx 14 c14_84 c14_85 c14_94 := run_seq
def c14_97 : AC := .skip
theorem n14_97 : SkipR Cx 14 c14_97 := run_skip
def c14_83 : AC := .cond (tm 105) c14_84 c14_97
theorem n14_83 : CondR Cx 14 c14_83 (tm 105) c14_84 c14_97 := run_condC
def c14_81 : AC := .seq c14_82 c14_83
theorem n14_81 : SeqR Cx 14 c14_81 c14_82 c14_83 := run_seq
def o14_99 : List AO := [oA 115 (.move (tm 6)) 56,
  oA 116 (.move (tm 6)) 56,
  oA 117 (cB .len #[(tm 116)] #[56]) 3,
  oA 118 (.binOp .sub 3 (tm 117) (ci 1) 3) 3,
  oA 119 (.indexAddr 56 (tm 115) (tm 118)) 0,
  oA 120 (.load 3 (tm 119)) 3,
  oA 121 (.binOp .sub 3 (tm 120) (ci 1) 3) 3,
  oA 122 (.indexAddr 56 (tm 115) (tm 118)) 0,
  oN (.store 3 (tm 122) (tm 121)) 0]
def c14_99 : AC := .region o14_99 []
theorem n14_99 : RegR Cx 14 c14_99 o14_99 := run_region
def o14_102 : List AO := [oA 123 (.move (tm 6)) 56,
  oA 124 (.move (tm 6)) 56,
  oA 125 (cB .len #[(tm 124)] #[56]) 3,
  oA 126 (.binOp .sub 3 (tm 125) (ci 1) 3) 3,
  oA 127 (.indexAddr 56 (tm 123) (tm 126)) 0,
  oA 128 (.load 3 (tm 127)) 3,
  oA 129 (.binOp .gtr 3 (tm 128) (ci 0) 3) 4]
def c14_102 : AC := .region o14_102 []
theorem n14_102 : RegR Cx 14 c14_102 o14_102 := run_region
def c14_104 : AC := .goto 0
def c14_105 : AC := .skip
theorem n14_105 : SkipR Cx 14 c14_105 := run_skip
def c14_103 : AC := .cond (tm 129) c14_104 c14_105
theorem n14_103 : CondR Cx 14 c14_103 (tm 129) c14_104 c14_105 := run_condC
def c14_101 : AC := .seq c14_102 c14_103
theorem n14_101 : SeqR Cx 14 c14_101 c14_102 c14_103 := run_seq
def o14_108 : List AO := [oA 130 (.move (tm 0)) 9,
  oA 131 (.move (tm 7)) 3,
  oA 132 (cF 29 #[(tm 130), (tm 131)] #[9, 3]) 3,
  oA 7 (.assign (tm 132)) 3]
def c14_108 : AC := .region o14_108 []
theorem n14_108 : RegR Cx 14 c14_108 o14_108 := run_region
def o14_111 : List AO := [oA 134 (.move (tm 7)) 3,
  oA 135 (.move (tm 0)) 9,
  oA 136 (cB .len #[(tm 135)] #[9]) 3,
  oA 137 (.binOp .eql 3 (tm 134) (tm 136) 3) 4,
  oA 133 (.assign (tm 137)) 4]
def c14_111 : AC := .region o14_111 []
theorem n14_111 : RegR Cx 14 c14_111 o14_111 := run_region
def o14_114 : List AO := [oA 138 (.move (tm 7)) 3,
  oA 2 (.assign (.const (.slice none 0 0))) 25,
  oA 3 (.assign (tm 138)) 3,
  oA 4 (.assign (ci 2)) 39]
def c14_114 : AC := .region o14_114 []
theorem n14_114 : RegR Cx 14 c14_114 o14_114 := run_region
def c14_115 : AC := .ret
theorem n14_115 : RetR Cx 14 c14_115 := run_ret
def c14_113 : AC := .seq c14_114 c14_115
theorem n14_113 : SeqR Cx 14 c14_113 c14_114 c14_115 := run_seq
def o14_117 : List AO := [oA 140 (.move (tm 0)) 9,
  oA 141 (.move (tm 7)) 3,
  oA 142 (.index 9 (tm 140) (tm 141)) 5,
  oA 143 (.binOp .neq 5 (tm 142) (.const (.int .u8 41)) 5) 4,
  oA 139 (.assign (tm 143)) 4]
def c14_117 : AC := .region o14_117 []
theorem n14_117 : RegR Cx 14 c14_117 o14_117 := run_region
def o14_120 : List AO := [oA 144 (.move (tm 7)) 3,
  oA 2 (.assign (.const (.slice none 0 0))) 25,
  oA 3 (.assign (tm 144)) 3,
  oA 4 (.assign (ci 12)) 39]
def c14_120 : AC := .region o14_120 []
theorem n14_120 : RegR Cx 14 c14_120 o14_120 := run_region
def c14_121 : AC := .ret
theorem n14_121 : RetR Cx 14 c14_121 := run_ret
def c14_119 : AC := .seq c14_120 c14_121
theorem n14_119 : SeqR Cx 14 c14_119 c14_120 c14_121 := run_seq
def c14_122 : AC := .skip
theorem n14_122 : SkipR Cx 14 c14_122 := run_skip
def c14_118 : AC := .cond (tm 139) c14_119 c14_122
theorem n14_118 : CondR Cx 14 c14_118 (tm 139) c14_119 c14_122 := run_condC
def c14_116 : AC := .seq c14_117 c14_118
theorem n14_116 : SeqR Cx 14 c14_116 c14_117 c14_118 := run_seq
def c14_112 : AC := .cond (tm 133) c14_113 c14_116
theorem n14_112 : CondR Cx 14 c14_112 (tm 133) c14_113 c14_116 := run_condC
def c14_110 : AC := .seq c14_111 c14_112
theorem n14_110 : SeqR Cx 14 c14_110 c14_111 c14_112 := run_seq
def c14_109 : AC := .block 1 c14_110
theorem n14_109 : BlkR Cx 14 c14_109 1 c14_110 := run_block
def c14_107 : AC := .seq c14_108 c14_109
theorem n14_107 : SeqR Cx 14 c14_107 c14_108 c14_109 := run_seq
def o14_124 : List AO := [oA 145 (.move (tm 6)) 56,
  oA 146 (.move (tm 6)) 56,
  oA 147 (cB .len #[(tm 146)] #[56]) 3,
  oA 148 (.binOp .sub 3 (tm 147) (ci 1) 3) 3,
  oA 149 (.slice 56 (tm 145) none (some (tm 148)) none) 56,
  oA 150 (.move (tm 7)) 3,
  oA 151 (.binOp .add 3 (tm 150) (ci 1) 3) 3,
  oA 6 (.assign (tm 149)) 56,
  oA 7 (.assign (tm 151)) 3]
def c14_124 : AC := .region o14_124 []
theorem n14_124 : RegR Cx 14 c14_124 o14_124 := run_region
def c14_125 : AC := .goto 1
def c14_123 : AC := .seq c14_124 c14_125
theorem n14_123 : SeqR Cx 14 c14_123 c14_124 c14_125 := run_seq
def c14_106 : AC := .seq c14_107 c14_123
theorem n14_106 : SeqR Cx 14 c14_106 c14_107 c14_123 := run_seq
def c14_100 : AC := .seq c14_101 c14_106
theorem n14_100 : SeqR Cx 14 c14_100 c14_101 c14_106 := run_seq
def c14_98 : AC := .seq c14_99 c14_100
theorem n14_98 : SeqR Cx 14 c14_98 c14_99 c14_100 := run_seq
def c14_80 : AC := .seq c14_81 c14_98
theorem n14_80 : SeqR Cx 14 c14_80 c14_81 c14_98 := run_seq
def c14_78 : AC := .seq c14_79 c14_80
theorem n14_78 : SeqR Cx 14 c14_78 c14_79 c14_80 := run_seq
def c14_66 : AC := .seq c14_67 c14_78
theorem n14_66 : SeqR Cx 14 c14_66 c14_67 c14_78 := run_seq
def c14_21 : AC := .seq c14_22 c14_66
theorem n14_21 : SeqR Cx 14 c14_21 c14_22 c14_66 := run_seq
def c14_19 : AC := .seq c14_20 c14_21
theorem n14_19 : SeqR Cx 14 c14_19 c14_20 c14_21 := run_seq
def c14_17 : AC := .seq c14_18 c14_19
theorem n14_17 : SeqR Cx 14 c14_17 c14_18 c14_19 := run_seq
def c14_15 : AC := .seq c14_16 c14_17
theorem n14_15 : SeqR Cx 14 c14_15 c14_16 c14_17 := run_seq
def c14_13 : AC := .seq c14_14 c14_15
theorem n14_13 : SeqR Cx 14 c14_13 c14_14 c14_15 := run_seq
def c14_11 : AC := .seq c14_12 c14_13
theorem n14_11 : SeqR Cx 14 c14_11 c14_12 c14_13 := run_seq
def c14_3 : AC := .seq c14_4 c14_11
theorem n14_3 : SeqR Cx 14 c14_3 c14_4 c14_11 := run_seq
def c14_2 : AC := .scope c14_3
theorem n14_2 : ScopeR Cx 14 c14_2 c14_3 := run_scope
def c14_0 : AC := .seq c14_1 c14_2
theorem n14_0 : SeqR Cx 14 c14_0 c14_1 c14_2 := run_seq
theorem body14 : bodyOf Cx 14 = some c14_0 := by kernel_rfl
theorem res14 : resOf Cx 14 = some [.tmp 2, .tmp 3, .tmp 4] := by kernel_rfl
theorem pure14 : Cx.pure 14 = true := by kernel_rfl
def o15_1 : List AO := [oA 4 (.assign (ci 0)) 3]
def c15_1 : AC := .region o15_1 []
theorem n15_1 : RegR Cx 15 c15_1 o15_1 := run_region
def o15_4 : List AO := [oA 6 (.move (tm 0)) 22,
  oA 7 (cB .len #[(tm 6)] #[22]) 3,
  oA 8 (.move (tm 1)) 22,
  oA 9 (cB .len #[(tm 8)] #[22]) 3,
  oA 10 (.binOp .neq 3 (tm 7) (tm 9) 3) 4]
def c15_4 : AC := .region o15_4 []
theorem n15_4 : RegR Cx 15 c15_4 o15_4 := run_region
def o15_7 : List AO := [oA 4 (.assign (ci 0)) 3]
def c15_7 : AC := .region o15_7 []
theorem n15_7 : RegR Cx 15 c15_7 o15_7 := run_region
def c15_8 : AC := .ret
theorem n15_8 : RetR Cx 15 c15_8 := run_ret
def c15_6 : AC := .seq c15_7 c15_8
theorem n15_6 : SeqR Cx 15 c15_6 c15_7 c15_8 := run_seq
def c15_9 : AC := .skip
theorem n15_9 : SkipR Cx 15 c15_9 := run_skip
def c15_5 : AC := .cond (tm 10) c15_6 c15_9
theorem n15_5 : CondR Cx 15 c15_5 (tm 10) c15_6 c15_9 := run_condC
def c15_3 : AC := .seq c15_4 c15_5
theorem n15_3 : SeqR Cx 15 c15_3 c15_4 c15_5 := run_seq
def o15_12 : List AO := [oA 5 (.assign (ci 0)) 3]
def c15_12 : AC := .region o15_12 []
theorem n15_12 : RegR Cx 15 c15_12 o15_12 := run_region
def o15_17 : List AO := [oA 11 (.move (tm 5)) 3,
  oA 12 (.move (tm 0)) 22,
  oA 13 (cB .len #[(tm 12)] #[22]) 3,
  oA 14 (.binOp .lss 3 (tm 11) (tm 13) 3) 4]
def c15_17 : AC := .region o15_17 []
theorem n15_17 : RegR Cx 15 c15_17 o15_17 := run_region
def c15_19 : AC := .skip
theorem n15_19 : SkipR Cx 15 c15_19 := run_skip
def c15_20 : AC := .exit 0
theorem n15_20 : ExitR Cx 15 c15_20 0 := run_exit_start
def c15_18 : AC := .cond (tm 14) c15_19 c15_20
theorem n15_18 : CondR Cx 15 c15_18 (tm 14) c15_19 c15_20 := run_condC
def c15_16 : AC := .seq c15_17 c15_18
theorem n15_16 : SeqR Cx 15 c15_16 c15_17 c15_18 := run_seq
def o15_24 : List AO := [oA 17 (.move (tm 0)) 22,
  oA 18 (.move (tm 5)) 3,
  oA 19 (.indexAddr 22 (tm 17) (tm 18)) 0,
  oA 20 (.load 52 (tm 19)) 52,
  oA 21 (.move (tm 1)) 22,
  oA 22 (.move (tm 5)) 3,
  oA 23 (.indexAddr 22 (tm 21) (tm 22)) 0,
  oA 24 (.load 52 (tm 23)) 52,
  oA 25 (.binOp .neq 52 (tm 20) (tm 24) 52) 4]
def c15_24 : AC := .region o15_24 []
theorem n15_24 : RegR Cx 15 c15_24 o15_24 := run_region
def o15_27 : List AO := [oA 4 (.assign (ci 0)) 3]
def c15_27 : AC := .region o15_27 []
theorem n15_27 : RegR Cx 15 c15_27 o15_27 := run_region
def c15_28 : AC := .ret
theorem n15_28 : RetR Cx 15 c15_28 := run_ret
def c15_26 : AC := .seq c15_27 c15_28
theorem n15_26 : SeqR Cx 15 c15_26 c15_27 c15_28 := run_seq
def c15_29 : AC := .skip
theorem n15_29 : SkipR Cx 15 c15_29 := run_skip
def c15_25 : AC := .cond (tm 25) c15_26 c15_29
theorem n15_25 : CondR Cx 15 c15_25 (tm 25) c15_26 c15_29 := run_condC
def c15_23 : AC := .seq c15_24 c15_25
theorem n15_23 : SeqR Cx 15 c15_23 c15_24 c15_25 := run_seq
def c15_22 : AC := .block 1 c15_23
theorem n15_22 : BlkR Cx 15 c15_22 1 c15_23 := run_block
def o15_30 : List AO := [oA 15 (.move (tm 5)) 3,
  oA 16 (.binOp .add 3 (tm 15) (ci 1) 3) 3,
  oA 5 (.assign (tm 16)) 3]
def c15_30 : AC := .region o15_30 []
theorem n15_30 : RegR Cx 15 c15_30 o15_30 := run_region
def c15_21 : AC := .seq c15_22 c15_30
theorem n15_21 : SeqR Cx 15 c15_21 c15_22 c15_30 := run_seq
def c15_15 : AC := .seq c15_16 c15_21
theorem n15_15 : SeqR Cx 15 c15_15 c15_16 c15_21 := run_seq
def c15_14 : AC := .loop c15_15
theorem n15_14 : LoopR Cx 15 c15_14 c15_15 := run_loop'
def c15_13 : AC := .block 0 c15_14
theorem n15_13 : BlkR Cx 15 c15_13 0 c15_14 := run_block
def c15_11 : AC := .seq c15_12 c15_13
theorem n15_11 : SeqR Cx 15 c15_11 c15_12 c15_13 := run_seq
def o15_32 : List AO := [oA 4 (.assign (ci 1)) 3]
def c15_32 : AC := .region o15_32 []
theorem n15_32 : RegR Cx 15 c15_32 o15_32 := run_region
def c15_33 : AC := .ret
theorem n15_33 : RetR Cx 15 c15_33 := run_ret
def c15_31 : AC := .seq c15_32 c15_33
theorem n15_31 : SeqR Cx 15 c15_31 c15_32 c15_33 := run_seq
def c15_10 : AC := .seq c15_11 c15_31
theorem n15_10 : SeqR Cx 15 c15_10 c15_11 c15_31 := run_seq
def c15_2 : AC := .seq c15_3 c15_10
theorem n15_2 : SeqR Cx 15 c15_2 c15_3 c15_10 := run_seq
def c15_0 : AC := .seq c15_1 c15_2
theorem n15_0 : SeqR Cx 15 c15_0 c15_1 c15_2 := run_seq
theorem body15 : bodyOf Cx 15 = some c15_0 := by kernel_rfl
theorem res15 : resOf Cx 15 = some [.tmp 4] := by kernel_rfl
theorem pure15 : Cx.pure 15 = true := by kernel_rfl
def o16_1 : List AO := [oA 2 (.assign (.const (.slice none 0 0))) 22]
def c16_1 : AC := .region o16_1 []
theorem n16_1 : RegR Cx 16 c16_1 o16_1 := run_region
def o16_3 : List AO := [oA 3 (.assign (.const (.slice none 0 0))) 22]
def c16_3 : AC := .region o16_3 []
theorem n16_3 : RegR Cx 16 c16_3 o16_3 := run_region
def o16_6 : List AO := [oA 4 (.assign (ci 0)) 3]
def c16_6 : AC := .region o16_6 []
theorem n16_6 : RegR Cx 16 c16_6 o16_6 := run_region
def o16_11 : List AO := [oA 5 (.move (tm 4)) 3,
  oA 6 (.move (tm 0)) 25,
  oA 7 (cB .len #[(tm 6)] #[25]) 3,
  oA 8 (.binOp .lss 3 (tm 5) (tm 7) 3) 4]
def c16_11 : AC := .region o16_11 []
theorem n16_11 : RegR Cx 16 c16_11 o16_11 := run_region
def c16_13 : AC := .skip
theorem n16_13 : SkipR Cx 16 c16_13 := run_skip
def c16_14 : AC := .exit 0
theorem n16_14 : ExitR Cx 16 c16_14 0 := run_exit_start
def c16_12 : AC := .cond (tm 8) c16_13 c16_14
theorem n16_12 : CondR Cx 16 c16_12 (tm 8) c16_13 c16_14 := run_condC
def c16_10 : AC := .seq c16_11 c16_12
theorem n16_10 : SeqR Cx 16 c16_10 c16_11 c16_12 := run_seq
def o16_17 : List AO := [oA 11 (.move (tm 3)) 22,
  oA 12 (.move (tm 0)) 25,
  oA 13 (.move (tm 4)) 3,
  oA 14 (.indexAddr 25 (tm 12) (tm 13)) 0,
  oA 15 (.fieldAddr 37 (tm 14) 0) 0,
  oA 16 (.load 3 (tm 15)) 3,
  oA 17 (.move (tm 0)) 25,
  oA 18 (.move (tm 4)) 3,
  oA 19 (.indexAddr 25 (tm 17) (tm 18)) 0,
  oA 20 (.fieldAddr 37 (tm 19) 1) 0,
  oA 21 (.load 35 (tm 20)) 35,
  oA 22 (.build 52 #[(0, (tm 16)), (1, (tm 21))]) 52,
  oA 23 (.buildSlice 22 1 #[(0, (tm 22))]) 22,
  oA 24 (cB .append #[(tm 11), (tm 23)] #[22, 22]) 22,
  oA 3 (.assign (tm 24)) 22]
def c16_17 : AC := .region o16_17 []
theorem n16_17 : RegR Cx 16 c16_17 o16_17 := run_region
def c16_16 : AC := .block 1 c16_17
theorem n16_16 : BlkR Cx 16 c16_16 1 c16_17 := run_block
def o16_18 : List AO := [oA 9 (.move (tm 4)) 3,
  oA 10 (.binOp .add 3 (tm 9) (ci 1) 3) 3,
  oA 4 (.assign (tm 10)) 3]
def c16_18 : AC := .region o16_18 []
theorem n16_18 : RegR Cx 16 c16_18 o16_18 := run_region
def c16_15 : AC := .seq c16_16 c16_18
theorem n16_15 : SeqR Cx 16 c16_15 c16_16 c16_18 := run_seq
def c16_9 : AC := .seq c16_10 c16_15
theorem n16_9 : SeqR Cx 16 c16_9 c16_10 c16_15 := run_seq
def c16_8 : AC := .loop c16_9
theorem n16_8 : LoopR Cx 16 c16_8 c16_9 := run_loop'
def c16_7 : AC := .block 0 c16_8
theorem n16_7 : BlkR Cx 16 c16_7 0 c16_8 := run_block
def c16_5 : AC := .seq c16_6 c16_7
theorem n16_5 : SeqR Cx 16 c16_5 c16_6 c16_7 := run_seq
def o16_20 : List AO := [oA 25 (.move (tm 3)) 22,
  oA 2 (.assign (tm 25)) 22]
def c16_20 : AC := .region o16_20 []
theorem n16_20 : RegR Cx 16 c16_20 o16_20 := run_region
def c16_21 : AC := .ret
theorem n16_21 : RetR Cx 16 c16_21 := run_ret
def c16_19 : AC := .seq c16_20 c16_21
theorem n16_19 : SeqR Cx 16 c16_19 c16_20 c16_21 := run_seq
def c16_4 : AC := .seq c16_5 c16_19
theorem n16_4 : SeqR Cx 16 c16_4 c16_5 c16_19 := run_seq
def c16_2 : AC := .seq c16_3 c16_4
theorem n16_2 : SeqR Cx 16 c16_2 c16_3 c16_4 := run_seq
def c16_0 : AC := .seq c16_1 c16_2
theorem n16_0 : SeqR Cx 16 c16_0 c16_1 c16_2 := run_seq
theorem body16 : bodyOf Cx 16 = some c16_0 := by kernel_rfl
theorem res16 : resOf Cx 16 = some [.tmp 2] := by kernel_rfl
theorem pure16 : Cx.pure 16 = true := by kernel_rfl
def o17_1 : List AO := [oA 2 (.assign (.const (.bool false))) 4]
def c17_1 : AC := .region o17_1 []
theorem n17_1 : RegR Cx 17 c17_1 o17_1 := run_region
def o17_3 : List AO := [oA 3 (.move (tm 0)) 22,
  oA 4 (cB .len #[(tm 3)] #[22]) 3,
  oA 5 (.binOp .leq 3 (tm 4) (ci 400) 3) 4,
  oA 6 (.move (tm 5)) 4,
  oG 7 (.move (tm 0)) 22 6 true,
  oG 8 (cF 32 #[(tm 7), (ci 0), (ci 0)] #[22, 3, 3]) 3 6 true,
  oG 9 (.move (tm 0)) 22 6 true,
  oG 10 (cB .len #[(tm 9)] #[22]) 3 6 true,
  oG 11 (.binOp .eql 3 (tm 8) (tm 10) 3) 4 6 true,
  oA 12 (.pick (tm 6) (tm 11) (.const (.bool false))) 4,
  oA 2 (.assign (tm 12)) 4]
def c17_3 : AC := .region o17_3 []
theorem n17_3 : RegR Cx 17 c17_3 o17_3 := run_region
def c17_4 : AC := .ret
theorem n17_4 : RetR Cx 17 c17_4 := run_ret
def c17_2 : AC := .seq c17_3 c17_4
theorem n17_2 : SeqR Cx 17 c17_2 c17_3 c17_4 := run_seq
def c17_0 : AC := .seq c17_1 c17_2
theorem n17_0 : SeqR Cx 17 c17_0 c17_1 c17_2 := run_seq
theorem body17 : bodyOf Cx 17 = some c17_0 := by kernel_rfl
theorem res17 : resOf Cx 17 = some [.tmp 2] := by kernel_rfl
theorem pure17 : Cx.pure 17 = true := by kernel_rfl
def o18_1 : List AO := [oA 2 (.alloc 47) 0]
def c18_1 : AC := .region o18_1 []
theorem n18_1 : RegR Cx 18 c18_1 o18_1 := run_region
def o18_3 : List AO := [oA 3 (.alloc 47) 0]
def c18_3 : AC := .region o18_3 []
theorem n18_3 : RegR Cx 18 c18_3 o18_3 := run_region
def o18_6 : List AO := [oA 6 (.move (tm 0)) 25,
  oA 7 (cF 11 #[(tm 6)] #[25]) 4,
  oA 8 (.unOp .not 4 (tm 7)) 4]
def c18_6 : AC := .region o18_6 []
theorem n18_6 : RegR Cx 18 c18_6 o18_6 := run_region
def o18_9 : List AO := [oA 9 (.load 47 (tm 3)) 47,
  oN (.store 47 (tm 2) (tm 9)) 0]
def c18_9 : AC := .region o18_9 []
theorem n18_9 : RegR Cx 18 c18_9 o18_9 := run_region
def c18_10 : AC := .ret
theorem n18_10 : RetR Cx 18 c18_10 := run_ret
def c18_8 : AC := .seq c18_9 c18_10
theorem n18_8 : SeqR Cx 18 c18_8 c18_9 c18_10 := run_seq
def c18_11 : AC := .skip
theorem n18_11 : SkipR Cx 18 c18_11 := run_skip
def c18_7 : AC := .cond (tm 8) c18_8 c18_11
theorem n18_7 : CondR Cx 18 c18_7 (tm 8) c18_8 c18_11 := run_condC
def c18_5 : AC := .seq c18_6 c18_7
theorem n18_5 : SeqR Cx 18 c18_5 c18_6 c18_7 := run_seq
def o18_14 : List AO := [oA 10 (.move (tm 0)) 25,
  oA 11 (cB .len #[(tm 10)] #[25]) 3,
  oA 12 (.move (ci 0)) 3]
def c18_14 : AC := .region o18_14 []
theorem n18_14 : RegR Cx 18 c18_14 o18_14 := run_region
def o18_18 : List AO := [oA 13 (.binOp .lss 3 (tm 12) (tm 11) 3) 0]
def c18_18 : AC := .region o18_18 []
theorem n18_18 : RegR Cx 18 c18_18 o18_18 := run_region
def c18_21 : AC := .skip
theorem n18_21 : SkipR Cx 18 c18_21 := run_skip
def c18_22 : AC := .exit 0
theorem n18_22 : ExitR Cx 18 c18_22 0 := run_exit_start
def c18_20 : AC := .cond (tm 13) c18_21 c18_22
theorem n18_20 : CondR Cx 18 c18_20 (tm 13) c18_21 c18_22 := run_condC
def o18_26 : List AO := [oA 14 (.indexAddr 25 (tm 10) (tm 12)) 0,
  oA 15 (.load 37 (tm 14)) 37,
  oA 5 (.alloc 37) 0,
  oN (.store 37 (tm 5) (tm 15)) 0]
def c18_26 : AC := .region o18_26 []
theorem n18_26 : RegR Cx 18 c18_26 o18_26 := run_region
def o18_28 : List AO := [oA 16 (.fieldAddr 37 (tm 5) 0) 0,
  oA 17 (.load 3 (tm 16)) 3,
  oA 18 (.binOp .eql 3 (tm 17) (ci 1) 3) 4]
def c18_28 : AC := .region o18_28 []
theorem n18_28 : RegR Cx 18 c18_28 o18_28 := run_region
def o18_30 : List AO := [oA 19 (.fieldAddr 37 (tm 5) 1) 0,
  oA 20 (.fieldAddr 35 (tm 19) 1) 0,
  oA 21 (.load 3 (tm 20)) 3,
  oA 22 (.indexAddr 47 (tm 3) (tm 21)) 0,
  oN (.store 4 (tm 22) (.const (.bool true))) 0]
def c18_30 : AC := .region o18_30 []
theorem n18_30 : RegR Cx 18 c18_30 o18_30 := run_region
def c18_31 : AC := .skip
theorem n18_31 : SkipR Cx 18 c18_31 := run_skip
def c18_29 : AC := .cond (tm 18) c18_30 c18_31
theorem n18_29 : CondR Cx 18 c18_29 (tm 18) c18_30 c18_31 := run_condC
def c18_27 : AC := .seq c18_28 c18_29
theorem n18_27 : SeqR Cx 18 c18_27 c18_28 c18_29 := run_seq
def c18_25 : AC := .seq c18_26 c18_27
theorem n18_25 : SeqR Cx 18 c18_25 c18_26 c18_27 := run_seq
def c18_24 : AC := .block 1 c18_25
theorem n18_24 : BlkR Cx 18 c18_24 1 c18_25 := run_block
def o18_32 : List AO := [oA 23 (.binOp .add 3 (tm 12) (ci 1) 3) 3,
  oA 12 (.move (tm 23)) 3]
def c18_32 : AC := .region o18_32 []
theorem n18_32 : RegR Cx 18 c18_32 o18_32 := run_region
def c18_23 : AC := .seq c18_24 c18_32
theorem n18_23 : SeqR Cx 18 c18_23 c18_24 c18_32 := run_seq
def c18_19 : AC := .seq c18_20 c18_23
theorem n18_19 : SeqR Cx 18 c18_19 c18_20 c18_23 := run_seq
def c18_17 : AC := .seq c18_18 c18_19
theorem n18_17 : SeqR Cx 18 c18_17 c18_18 c18_19 := run_seq
def c18_16 : AC := .loop c18_17
theorem n18_16 : LoopR Cx 18 c18_16 c18_17 := run_loop'
def c18_15 : AC := .block 0 c18_16
theorem n18_15 : BlkR Cx 18 c18_15 0 c18_16 := run_block
def c18_13 : AC := .seq c18_14 c18_15
theorem n18_13 : SeqR Cx 18 c18_13 c18_14 c18_15 := run_seq
def o18_34 : List AO := [oA 24 (.load 47 (tm 3)) 47,
  oN (.store 47 (tm 2) (tm 24)) 0]
def c18_34 : AC := .region o18_34 []
theorem n18_34 : RegR Cx 18 c18_34 o18_34 := run_region
def c18_35 : AC := .ret
theorem n18_35 : RetR Cx 18 c18_35 := run_ret
def c18_33 : AC := .seq c18_34 c18_35
theorem n18_33 : SeqR Cx 18 c18_33 c18_34 c18_35 := run_seq
def c18_12 : AC := .seq c18_13 c18_33
theorem n18_12 : SeqR Cx 18 c18_12 c18_13 c18_33 := run_seq
def c18_4 : AC := .seq c18_5 c18_12
theorem n18_4 : SeqR Cx 18 c18_4 c18_5 c18_12 := run_seq
def c18_2 : AC := .seq c18_3 c18_4
theorem n18_2 : SeqR Cx 18 c18_2 c18_3 c18_4 := run_seq
def c18_0 : AC := .seq c18_1 c18_2
theorem n18_0 : SeqR Cx 18 c18_0 c18_1 c18_2 := run_seq
theorem body18 : bodyOf Cx 18 = some c18_0 := by kernel_rfl
theorem res18 : resOf Cx 18 = some [.cell 2 47] := by kernel_rfl
theorem pure18 : Cx.pure 18 = true := by kernel_rfl
def o19_1 : List AO := [oA 2 (.assign (.const (.string ⟨#[]⟩))) 9]
def c19_1 : AC := .region o19_1 []
theorem n19_1 : RegR Cx 19 c19_1 o19_1 := run_region
def o19_4 : List AO := [oA 3 (.move (tm 0)) 3,
  oA 4 (.binOp .lss 3 (tm 3) (ci 2) 3) 4,
  oA 5 (.move (tm 4)) 4,
  oG 6 (.move (tm 0)) 3 5 false,
  oG 7 (.binOp .gtr 3 (tm 6) (ci 29) 3) 4 5 false,
  oA 8 (.pick (tm 5) (.const (.bool true)) (tm 7)) 4]
def c19_4 : AC := .region o19_4 []
theorem n19_4 : RegR Cx 19 c19_4 o19_4 := run_region
def o19_7 : List AO := [oA 2 (.assign (.const (.string ⟨#[]⟩))) 9]
def c19_7 : AC := .region o19_7 []
theorem n19_7 : RegR Cx 19 c19_7 o19_7 := run_region
def c19_8 : AC := .ret
theorem n19_8 : RetR Cx 19 c19_8 := run_ret
def c19_6 : AC := .seq c19_7 c19_8
theorem n19_6 : SeqR Cx 19 c19_6 c19_7 c19_8 := run_seq
def c19_9 : AC := .skip
theorem n19_9 : SkipR Cx 19 c19_9 := run_skip
def c19_5 : AC := .cond (tm 8) c19_6 c19_9
theorem n19_5 : CondR Cx 19 c19_5 (tm 8) c19_6 c19_9 := run_condC
def c19_3 : AC := .seq c19_4 c19_5
theorem n19_3 : SeqR Cx 19 c19_3 c19_4 c19_5 := run_seq
def o19_11 : List AO := [oA 9 (.buildSlice 73 28 #[(0, (.const (.string ⟨#[97, 100, 100]⟩))), (1, (.const (.string ⟨#[115, 117, 98]⟩))), (2, (.const (.string ⟨#[109, 117, 108]⟩))), (3, (.const (.string ⟨#[100, 105, 118]⟩))), (4, (.const (.string ⟨#[109, 111, 100]⟩))), (5, (.const (.string ⟨#[110, 101, 103]⟩))), (6, (.const (.string ⟨#[108, 101, 115, 115]⟩))), (7, (.const (.string ⟨#[115, 97, 109, 101]⟩))), (8, (.const (.string ⟨#[110, 111, 116]⟩))), (9, (.const (.string ⟨#[105, 102]⟩))), (10, (.const (.string ⟨#[109, 97, 120]⟩))), (11, (.const (.string ⟨#[109, 105, 110]⟩))), (12, (.const (.string ⟨#[99, 97, 116]⟩))), (13, (.const (.string ⟨#[108, 101, 110]⟩))), (14, (.const (.string ⟨#[99, 117, 116]⟩))), (15, (.const (.string ⟨#[119, 111, 114, 100]⟩))), (16, (.const (.string ⟨#[119, 111, 114, 100, 115]⟩))), (17, (.const (.string ⟨#[110, 117, 109]⟩))), (18, (.const (.string ⟨#[116, 101, 120, 116]⟩))), (19, (.const (.string ⟨#[97, 116]⟩))), (20, (.const (.string ⟨#[114, 101]⟩))), (21, (.const (.string ⟨#[105, 109]⟩))), (22, (.const (.string ⟨#[110, 111, 114, 109]⟩))), (23, (.const (.string ⟨#[99, 111, 110, 106]⟩))), (24, (.const (.string ⟨#[101, 109, 105, 116]⟩))), (25, (.const (.string ⟨#[116, 104, 101, 110]⟩))), (26, (.const (.string ⟨#[101, 97, 99, 104]⟩))), (27, (.const (.string ⟨#[108, 101, 116]⟩)))]) 73,
  oA 10 (.move (tm 0)) 3,
  oA 11 (.binOp .sub 3 (tm 10) (ci 2) 3) 3,
  oA 12 (.indexAddr 73 (tm 9) (tm 11)) 0,
  oA 13 (.load 9 (tm 12)) 9,
  oA 2 (.assign (tm 13)) 9]
def c19_11 : AC := .region o19_11 []
theorem n19_11 : RegR Cx 19 c19_11 o19_11 := run_region
def c19_12 : AC := .ret
theorem n19_12 : RetR Cx 19 c19_12 := run_ret
def c19_10 : AC := .seq c19_11 c19_12
theorem n19_10 : SeqR Cx 19 c19_10 c19_11 c19_12 := run_seq
def c19_2 : AC := .seq c19_3 c19_10
theorem n19_2 : SeqR Cx 19 c19_2 c19_3 c19_10 := run_seq
def c19_0 : AC := .seq c19_1 c19_2
theorem n19_0 : SeqR Cx 19 c19_0 c19_1 c19_2 := run_seq
theorem body19 : bodyOf Cx 19 = some c19_0 := by kernel_rfl
theorem res19 : resOf Cx 19 = some [.tmp 2] := by kernel_rfl
theorem pure19 : Cx.pure 19 = true := by kernel_rfl
def o20_1 : List AO := [oA 2 (.assign (ci 0)) 3]
def c20_1 : AC := .region o20_1 []
theorem n20_1 : RegR Cx 20 c20_1 o20_1 := run_region
def o20_4 : List AO := [oA 3 (.move (tm 0)) 3,
  oA 4 (cF 19 #[(tm 3)] #[3]) 9]
def c20_4 : AC := .region o20_4 []
theorem n20_4 : RegR Cx 20 c20_4 o20_4 := run_region
def o20_7 : List AO := [oA 6 (.binOp .eql 9 (tm 4) (.const (.string ⟨#[]⟩)) 9) 4,
  oA 5 (.assign (tm 6)) 4]
def c20_7 : AC := .region o20_7 []
theorem n20_7 : RegR Cx 20 c20_7 o20_7 := run_region
def o20_10 : List AO := [oA 2 (.assign (ci 0)) 3]
def c20_10 : AC := .region o20_10 []
theorem n20_10 : RegR Cx 20 c20_10 o20_10 := run_region
def c20_11 : AC := .ret
theorem n20_11 : RetR Cx 20 c20_11 := run_ret
def c20_9 : AC := .seq c20_10 c20_11
theorem n20_9 : SeqR Cx 20 c20_9 c20_10 c20_11 := run_seq
def o20_14 : List AO := [oA 8 (.binOp .eql 9 (tm 4) (.const (.string ⟨#[110, 101, 103]⟩)) 9) 4,
  oA 7 (.assign (tm 8)) 4]
def c20_14 : AC := .region o20_14 []
theorem n20_14 : RegR Cx 20 c20_14 o20_14 := run_region
def c20_16 : AC := .skip
theorem n20_16 : SkipR Cx 20 c20_16 := run_skip
def o20_18 : List AO := [oA 9 (.binOp .eql 9 (tm 4) (.const (.string ⟨#[110, 111, 116]⟩)) 9) 4,
  oA 7 (.assign (tm 9)) 4]
def c20_18 : AC := .region o20_18 []
theorem n20_18 : RegR Cx 20 c20_18 o20_18 := run_region
def c20_20 : AC := .skip
theorem n20_20 : SkipR Cx 20 c20_20 := run_skip
def o20_22 : List AO := [oA 10 (.binOp .eql 9 (tm 4) (.const (.string ⟨#[108, 101, 110]⟩)) 9) 4,
  oA 7 (.assign (tm 10)) 4]
def c20_22 : AC := .region o20_22 []
theorem n20_22 : RegR Cx 20 c20_22 o20_22 := run_region
def c20_24 : AC := .skip
theorem n20_24 : SkipR Cx 20 c20_24 := run_skip
def o20_26 : List AO := [oA 11 (.binOp .eql 9 (tm 4) (.const (.string ⟨#[119, 111, 114, 100, 115]⟩)) 9) 4,
  oA 7 (.assign (tm 11)) 4]
def c20_26 : AC := .region o20_26 []
theorem n20_26 : RegR Cx 20 c20_26 o20_26 := run_region
def c20_28 : AC := .skip
theorem n20_28 : SkipR Cx 20 c20_28 := run_skip
def o20_30 : List AO := [oA 12 (.binOp .eql 9 (tm 4) (.const (.string ⟨#[110, 117, 109]⟩)) 9) 4,
  oA 7 (.assign (tm 12)) 4]
def c20_30 : AC := .region o20_30 []
theorem n20_30 : RegR Cx 20 c20_30 o20_30 := run_region
def c20_32 : AC := .skip
theorem n20_32 : SkipR Cx 20 c20_32 := run_skip
def o20_34 : List AO := [oA 13 (.binOp .eql 9 (tm 4) (.const (.string ⟨#[116, 101, 120, 116]⟩)) 9) 4,
  oA 7 (.assign (tm 13)) 4]
def c20_34 : AC := .region o20_34 []
theorem n20_34 : RegR Cx 20 c20_34 o20_34 := run_region
def c20_36 : AC := .skip
theorem n20_36 : SkipR Cx 20 c20_36 := run_skip
def o20_38 : List AO := [oA 14 (.binOp .eql 9 (tm 4) (.const (.string ⟨#[114, 101]⟩)) 9) 4,
  oA 7 (.assign (tm 14)) 4]
def c20_38 : AC := .region o20_38 []
theorem n20_38 : RegR Cx 20 c20_38 o20_38 := run_region
def c20_40 : AC := .skip
theorem n20_40 : SkipR Cx 20 c20_40 := run_skip
def o20_42 : List AO := [oA 15 (.binOp .eql 9 (tm 4) (.const (.string ⟨#[105, 109]⟩)) 9) 4,
  oA 7 (.assign (tm 15)) 4]
def c20_42 : AC := .region o20_42 []
theorem n20_42 : RegR Cx 20 c20_42 o20_42 := run_region
def c20_44 : AC := .skip
theorem n20_44 : SkipR Cx 20 c20_44 := run_skip
def o20_46 : List AO := [oA 16 (.binOp .eql 9 (tm 4) (.const (.string ⟨#[110, 111, 114, 109]⟩)) 9) 4,
  oA 7 (.assign (tm 16)) 4]
def c20_46 : AC := .region o20_46 []
theorem n20_46 : RegR Cx 20 c20_46 o20_46 := run_region
def c20_48 : AC := .skip
theorem n20_48 : SkipR Cx 20 c20_48 := run_skip
def o20_49 : List AO := [oA 17 (.binOp .eql 9 (tm 4) (.const (.string ⟨#[99, 111, 110, 106]⟩)) 9) 4,
  oA 7 (.assign (tm 17)) 4]
def c20_49 : AC := .region o20_49 []
theorem n20_49 : RegR Cx 20 c20_49 o20_49 := run_region
def c20_47 : AC := .cond (tm 7) c20_48 c20_49
theorem n20_47 : CondR Cx 20 c20_47 (tm 7) c20_48 c20_49 := run_condC
def c20_45 : AC := .seq c20_46 c20_47
theorem n20_45 : SeqR Cx 20 c20_45 c20_46 c20_47 := run_seq
def c20_43 : AC := .cond (tm 7) c20_44 c20_45
theorem n20_43 : CondR Cx 20 c20_43 (tm 7) c20_44 c20_45 := run_condC
def c20_41 : AC := .seq c20_42 c20_43
theorem n20_41 : SeqR Cx 20 c20_41 c20_42 c20_43 := run_seq
def c20_39 : AC := .cond (tm 7) c20_40 c20_41
theorem n20_39 : CondR Cx 20 c20_39 (tm 7) c20_40 c20_41 := run_condC
def c20_37 : AC := .seq c20_38 c20_39
theorem n20_37 : SeqR Cx 20 c20_37 c20_38 c20_39 := run_seq
def c20_35 : AC := .cond (tm 7) c20_36 c20_37
theorem n20_35 : CondR Cx 20 c20_35 (tm 7) c20_36 c20_37 := run_condC
def c20_33 : AC := .seq c20_34 c20_35
theorem n20_33 : SeqR Cx 20 c20_33 c20_34 c20_35 := run_seq
def c20_31 : AC := .cond (tm 7) c20_32 c20_33
theorem n20_31 : CondR Cx 20 c20_31 (tm 7) c20_32 c20_33 := run_condC
def c20_29 : AC := .seq c20_30 c20_31
theorem n20_29 : SeqR Cx 20 c20_29 c20_30 c20_31 := run_seq
def c20_27 : AC := .cond (tm 7) c20_28 c20_29
theorem n20_27 : CondR Cx 20 c20_27 (tm 7) c20_28 c20_29 := run_condC
def c20_25 : AC := .seq c20_26 c20_27
theorem n20_25 : SeqR Cx 20 c20_25 c20_26 c20_27 := run_seq
def c20_23 : AC := .cond (tm 7) c20_24 c20_25
theorem n20_23 : CondR Cx 20 c20_23 (tm 7) c20_24 c20_25 := run_condC
def c20_21 : AC := .seq c20_22 c20_23
theorem n20_21 : SeqR Cx 20 c20_21 c20_22 c20_23 := run_seq
def c20_19 : AC := .cond (tm 7) c20_20 c20_21
theorem n20_19 : CondR Cx 20 c20_19 (tm 7) c20_20 c20_21 := run_condC
def c20_17 : AC := .seq c20_18 c20_19
theorem n20_17 : SeqR Cx 20 c20_17 c20_18 c20_19 := run_seq
def c20_15 : AC := .cond (tm 7) c20_16 c20_17
theorem n20_15 : CondR Cx 20 c20_15 (tm 7) c20_16 c20_17 := run_condC
def c20_13 : AC := .seq c20_14 c20_15
theorem n20_13 : SeqR Cx 20 c20_13 c20_14 c20_15 := run_seq
def o20_52 : List AO := [oA 2 (.assign (ci 1)) 3]
def c20_52 : AC := .region o20_52 []
theorem n20_52 : RegR Cx 20 c20_52 o20_52 := run_region
def c20_53 : AC := .ret
theorem n20_53 : RetR Cx 20 c20_53 := run_ret
def c20_51 : AC := .seq c20_52 c20_53
theorem n20_51 : SeqR Cx 20 c20_51 c20_52 c20_53 := run_seq
def o20_56 : List AO := [oA 19 (.binOp .eql 9 (tm 4) (.const (.string ⟨#[105, 102]⟩)) 9) 4,
  oA 18 (.assign (tm 19)) 4]
def c20_56 : AC := .region o20_56 []
theorem n20_56 : RegR Cx 20 c20_56 o20_56 := run_region
def c20_58 : AC := .skip
theorem n20_58 : SkipR Cx 20 c20_58 := run_skip
def o20_59 : List AO := [oA 20 (.binOp .eql 9 (tm 4) (.const (.string ⟨#[99, 117, 116]⟩)) 9) 4,
  oA 18 (.assign (tm 20)) 4]
def c20_59 : AC := .region o20_59 []
theorem n20_59 : RegR Cx 20 c20_59 o20_59 := run_region
def c20_57 : AC := .cond (tm 18) c20_58 c20_59
theorem n20_57 : CondR Cx 20 c20_57 (tm 18) c20_58 c20_59 := run_condC
def c20_55 : AC := .seq c20_56 c20_57
theorem n20_55 : SeqR Cx 20 c20_55 c20_56 c20_57 := run_seq
def o20_62 : List AO := [oA 2 (.assign (ci 3)) 3]
def c20_62 : AC := .region o20_62 []
theorem n20_62 : RegR Cx 20 c20_62 o20_62 := run_region
def c20_63 : AC := .ret
theorem n20_63 : RetR Cx 20 c20_63 := run_ret
def c20_61 : AC := .seq c20_62 c20_63
theorem n20_61 : SeqR Cx 20 c20_61 c20_62 c20_63 := run_seq
def c20_64 : AC := .skip
theorem n20_64 : SkipR Cx 20 c20_64 := run_skip
def c20_60 : AC := .cond (tm 18) c20_61 c20_64
theorem n20_60 : CondR Cx 20 c20_60 (tm 18) c20_61 c20_64 := run_condC
def c20_54 : AC := .seq c20_55 c20_60
theorem n20_54 : SeqR Cx 20 c20_54 c20_55 c20_60 := run_seq
def c20_50 : AC := .cond (tm 7) c20_51 c20_54
theorem n20_50 : CondR Cx 20 c20_50 (tm 7) c20_51 c20_54 := run_condC
def c20_12 : AC := .seq c20_13 c20_50
theorem n20_12 : SeqR Cx 20 c20_12 c20_13 c20_50 := run_seq
def c20_8 : AC := .cond (tm 5) c20_9 c20_12
theorem n20_8 : CondR Cx 20 c20_8 (tm 5) c20_9 c20_12 := run_condC
def c20_6 : AC := .seq c20_7 c20_8
theorem n20_6 : SeqR Cx 20 c20_6 c20_7 c20_8 := run_seq
def c20_5 : AC := .block 0 c20_6
theorem n20_5 : BlkR Cx 20 c20_5 0 c20_6 := run_block
def c20_3 : AC := .seq c20_4 c20_5
theorem n20_3 : SeqR Cx 20 c20_3 c20_4 c20_5 := run_seq
def o20_66 : List AO := [oA 2 (.assign (ci 2)) 3]
def c20_66 : AC := .region o20_66 []
theorem n20_66 : RegR Cx 20 c20_66 o20_66 := run_region
def c20_67 : AC := .ret
theorem n20_67 : RetR Cx 20 c20_67 := run_ret
def c20_65 : AC := .seq c20_66 c20_67
theorem n20_65 : SeqR Cx 20 c20_65 c20_66 c20_67 := run_seq
def c20_2 : AC := .seq c20_3 c20_65
theorem n20_2 : SeqR Cx 20 c20_2 c20_3 c20_65 := run_seq
def c20_0 : AC := .seq c20_1 c20_2
theorem n20_0 : SeqR Cx 20 c20_0 c20_1 c20_2 := run_seq
theorem body20 : bodyOf Cx 20 = some c20_0 := by kernel_rfl
theorem res20 : resOf Cx 20 = some [.tmp 2] := by kernel_rfl
theorem pure20 : Cx.pure 20 = true := by kernel_rfl
def o21_1 : List AO := [oA 4 (.assign (ci 0)) 3]
def c21_1 : AC := .region o21_1 []
theorem n21_1 : RegR Cx 21 c21_1 o21_1 := run_region
def o21_3 : List AO := [oA 5 (.move (tm 0)) 22,
  oA 6 (.move (tm 1)) 3,
  oA 7 (cF 32 #[(tm 5), (tm 6), (ci 0)] #[22, 3, 3]) 3,
  oA 4 (.assign (tm 7)) 3]
def c21_3 : AC := .region o21_3 []
theorem n21_3 : RegR Cx 21 c21_3 o21_3 := run_region
def c21_4 : AC := .ret
theorem n21_4 : RetR Cx 21 c21_4 := run_ret
def c21_2 : AC := .seq c21_3 c21_4
theorem n21_2 : SeqR Cx 21 c21_2 c21_3 c21_4 := run_seq
def c21_0 : AC := .seq c21_1 c21_2
theorem n21_0 : SeqR Cx 21 c21_0 c21_1 c21_2 := run_seq
theorem body21 : bodyOf Cx 21 = some c21_0 := by kernel_rfl
theorem res21 : resOf Cx 21 = some [.tmp 4] := by kernel_rfl
theorem pure21 : Cx.pure 21 = true := by kernel_rfl
def o22_1 : List AO := [oA 4 (.assign (.const (.string ⟨#[]⟩))) 9]
def c22_1 : AC := .region o22_1 []
theorem n22_1 : RegR Cx 22 c22_1 o22_1 := run_region
def o22_3 : List AO := [oA 8 (.move (tm 0)) 22,
  oA 9 (.move (tm 1)) 3,
  oA 10 (.indexAddr 22 (tm 8) (tm 9)) 0,
  oA 11 (.load 52 (tm 10)) 52,
  oA 5 (.alloc 52) 0,
  oN (.store 52 (tm 5) (tm 11)) 0]
def c22_3 : AC := .region o22_3 []
theorem n22_3 : RegR Cx 22 c22_3 o22_3 := run_region
def o22_6 : List AO := [oA 12 (.fieldAddr 52 (tm 5) 0) 0,
  oA 13 (.load 3 (tm 12)) 3,
  oA 14 (.binOp .eql 3 (tm 13) (ci 0) 3) 4]
def c22_6 : AC := .region o22_6 []
theorem n22_6 : RegR Cx 22 c22_6 o22_6 := run_region
def o22_9 : List AO := [oA 15 (.fieldAddr 52 (tm 5) 1) 0,
  oA 16 (.load 35 (tm 15)) 35,
  oA 17 (cF 33 #[(tm 16)] #[35]) 9,
  oA 4 (.assign (tm 17)) 9]
def c22_9 : AC := .region o22_9 []
theorem n22_9 : RegR Cx 22 c22_9 o22_9 := run_region
def c22_10 : AC := .ret
theorem n22_10 : RetR Cx 22 c22_10 := run_ret
def c22_8 : AC := .seq c22_9 c22_10
theorem n22_8 : SeqR Cx 22 c22_8 c22_9 c22_10 := run_seq
def c22_11 : AC := .skip
theorem n22_11 : SkipR Cx 22 c22_11 := run_skip
def c22_7 : AC := .cond (tm 14) c22_8 c22_11
theorem n22_7 : CondR Cx 22 c22_7 (tm 14) c22_8 c22_11 := run_condC
def c22_5 : AC := .seq c22_6 c22_7
theorem n22_5 : SeqR Cx 22 c22_5 c22_6 c22_7 := run_seq
def o22_14 : List AO := [oA 18 (.fieldAddr 52 (tm 5) 0) 0,
  oA 19 (.load 3 (tm 18)) 3,
  oA 20 (.binOp .eql 3 (tm 19) (ci 1) 3) 4]
def c22_14 : AC := .region o22_14 []
theorem n22_14 : RegR Cx 22 c22_14 o22_14 := run_region
def o22_17 : List AO := [oA 21 (.fieldAddr 52 (tm 5) 1) 0,
  oA 22 (.fieldAddr 35 (tm 21) 1) 0,
  oA 23 (.load 3 (tm 22)) 3,
  oA 24 (cF 34 #[(tm 23)] #[3]) 9,
  oA 4 (.assign (tm 24)) 9]
def c22_17 : AC := .region o22_17 []
theorem n22_17 : RegR Cx 22 c22_17 o22_17 := run_region
def c22_18 : AC := .ret
theorem n22_18 : RetR Cx 22 c22_18 := run_ret
def c22_16 : AC := .seq c22_17 c22_18
theorem n22_16 : SeqR Cx 22 c22_16 c22_17 c22_18 := run_seq
def c22_19 : AC := .skip
theorem n22_19 : SkipR Cx 22 c22_19 := run_skip
def c22_15 : AC := .cond (tm 20) c22_16 c22_19
theorem n22_15 : CondR Cx 22 c22_15 (tm 20) c22_16 c22_19 := run_condC
def c22_13 : AC := .seq c22_14 c22_15
theorem n22_13 : SeqR Cx 22 c22_13 c22_14 c22_15 := run_seq
def o22_21 : List AO := [oA 25 (.fieldAddr 52 (tm 5) 0) 0,
  oA 26 (.load 3 (tm 25)) 3,
  oA 27 (cF 19 #[(tm 26)] #[3]) 9,
  oA 28 (.binOp .add 9 (.const (.string ⟨#[40]⟩)) (tm 27) 9) 9,
  oA 6 (.assign (tm 28)) 9]
def c22_21 : AC := .region o22_21 []
theorem n22_21 : RegR Cx 22 c22_21 o22_21 := run_region
def o22_23 : List AO := [oA 29 (.move (tm 1)) 3,
  oA 30 (.binOp .add 3 (tm 29) (ci 1) 3) 3,
  oA 1 (.assign (tm 30)) 3]
def c22_23 : AC := .region o22_23 []
theorem n22_23 : RegR Cx 22 c22_23 o22_23 := run_region
def o22_26 : List AO := [oA 7 (.assign (ci 0)) 3]
def c22_26 : AC := .region o22_26 []
theorem n22_26 : RegR Cx 22 c22_26 o22_26 := run_region
def o22_31 : List AO := [oA 31 (.move (tm 7)) 3,
  oA 32 (.fieldAddr 52 (tm 5) 0) 0,
  oA 33 (.load 3 (tm 32)) 3,
  oA 34 (cF 20 #[(tm 33)] #[3]) 3,
  oA 35 (.binOp .lss 3 (tm 31) (tm 34) 3) 4]
def c22_31 : AC := .region o22_31 []
theorem n22_31 : RegR Cx 22 c22_31 o22_31 := run_region
def c22_33 : AC := .skip
theorem n22_33 : SkipR Cx 22 c22_33 := run_skip
def c22_34 : AC := .exit 0
theorem n22_34 : ExitR Cx 22 c22_34 0 := run_exit_start
def c22_32 : AC := .cond (tm 35) c22_33 c22_34
theorem n22_32 : CondR Cx 22 c22_32 (tm 35) c22_33 c22_34 := run_condC
def c22_30 : AC := .seq c22_31 c22_32
theorem n22_30 : SeqR Cx 22 c22_30 c22_31 c22_32 := run_seq
def o22_38 : List AO := [oA 38 (.move (tm 6)) 9,
  oA 39 (.binOp .add 9 (tm 38) (.const (.string ⟨#[32]⟩)) 9) 9,
  oA 40 (.move (tm 0)) 22,
  oA 41 (.move (tm 1)) 3,
  oA 42 (cF 22 #[(tm 40), (tm 41)] #[22, 3]) 9,
  oA 43 (.binOp .add 9 (tm 39) (tm 42) 9) 9,
  oA 6 (.assign (tm 43)) 9]
def c22_38 : AC := .region o22_38 []
theorem n22_38 : RegR Cx 22 c22_38 o22_38 := run_region
def o22_39 : List AO := [oA 44 (.move (tm 0)) 22,
  oA 45 (.move (tm 1)) 3,
  oA 46 (cF 21 #[(tm 44), (tm 45)] #[22, 3]) 3,
  oA 1 (.assign (tm 46)) 3]
def c22_39 : AC := .region o22_39 []
theorem n22_39 : RegR Cx 22 c22_39 o22_39 := run_region
def c22_37 : AC := .seq c22_38 c22_39
theorem n22_37 : SeqR Cx 22 c22_37 c22_38 c22_39 := run_seq
def c22_36 : AC := .block 1 c22_37
theorem n22_36 : BlkR Cx 22 c22_36 1 c22_37 := run_block
def o22_40 : List AO := [oA 36 (.move (tm 7)) 3,
  oA 37 (.binOp .add 3 (tm 36) (ci 1) 3) 3,
  oA 7 (.assign (tm 37)) 3]
def c22_40 : AC := .region o22_40 []
theorem n22_40 : RegR Cx 22 c22_40 o22_40 := run_region
def c22_35 : AC := .seq c22_36 c22_40
theorem n22_35 : SeqR Cx 22 c22_35 c22_36 c22_40 := run_seq
def c22_29 : AC := .seq c22_30 c22_35
theorem n22_29 : SeqR Cx 22 c22_29 c22_30 c22_35 := run_seq
def c22_28 : AC := .loop c22_29
theorem n22_28 : LoopR Cx 22 c22_28 c22_29 := run_loop'
def c22_27 : AC := .block 0 c22_28
theorem n22_27 : BlkR Cx 22 c22_27 0 c22_28 := run_block
def c22_25 : AC := .seq c22_26 c22_27
theorem n22_25 : SeqR Cx 22 c22_25 c22_26 c22_27 := run_seq
def o22_42 : List AO := [oA 47 (.move (tm 6)) 9,
  oA 48 (.binOp .add 9 (tm 47) (.const (.string ⟨#[41]⟩)) 9) 9,
  oA 4 (.assign (tm 48)) 9]
def c22_42 : AC := .region o22_42 []
theorem n22_42 : RegR Cx 22 c22_42 o22_42 := run_region
def c22_43 : AC := .ret
theorem n22_43 : RetR Cx 22 c22_43 := run_ret
def c22_41 : AC := .seq c22_42 c22_43
theorem n22_41 : SeqR Cx 22 c22_41 c22_42 c22_43 := run_seq
def c22_24 : AC := .seq c22_25 c22_41
theorem n22_24 : SeqR Cx 22 c22_24 c22_25 c22_41 := run_seq
def c22_22 : AC := .seq c22_23 c22_24
theorem n22_22 : SeqR Cx 22 c22_22 c22_23 c22_24 := run_seq
def c22_20 : AC := .seq c22_21 c22_22
theorem n22_20 : SeqR Cx 22 c22_20 c22_21 c22_22 := run_seq
def c22_12 : AC := .seq c22_13 c22_20
theorem n22_12 : SeqR Cx 22 c22_12 c22_13 c22_20 := run_seq
def c22_4 : AC := .seq c22_5 c22_12
theorem n22_4 : SeqR Cx 22 c22_4 c22_5 c22_12 := run_seq
def c22_2 : AC := .seq c22_3 c22_4
theorem n22_2 : SeqR Cx 22 c22_2 c22_3 c22_4 := run_seq
def c22_0 : AC := .seq c22_1 c22_2
theorem n22_0 : SeqR Cx 22 c22_0 c22_1 c22_2 := run_seq
theorem body22 : bodyOf Cx 22 = some c22_0 := by kernel_rfl
theorem res22 : resOf Cx 22 = some [.tmp 4] := by kernel_rfl
theorem pure22 : Cx.pure 22 = true := by kernel_rfl
def o23_1 : List AO := [oA 4 (.assign (ci 0)) 3]
def c23_1 : AC := .region o23_1 []
theorem n23_1 : RegR Cx 23 c23_1 o23_1 := run_region
def o23_4 : List AO := [oA 5 (.assign (ci 1)) 3]
def c23_4 : AC := .region o23_4 []
theorem n23_4 : RegR Cx 23 c23_4 o23_4 := run_region
def o23_9 : List AO := [oA 8 (.move (tm 5)) 3,
  oA 9 (.binOp .gtr 3 (tm 8) (ci 0) 3) 4]
def c23_9 : AC := .region o23_9 []
theorem n23_9 : RegR Cx 23 c23_9 o23_9 := run_region
def c23_11 : AC := .skip
theorem n23_11 : SkipR Cx 23 c23_11 := run_skip
def c23_12 : AC := .exit 0
theorem n23_12 : ExitR Cx 23 c23_12 0 := run_exit_start
def c23_10 : AC := .cond (tm 9) c23_11 c23_12
theorem n23_10 : CondR Cx 23 c23_10 (tm 9) c23_11 c23_12 := run_condC
def c23_8 : AC := .seq c23_9 c23_10
theorem n23_8 : SeqR Cx 23 c23_8 c23_9 c23_10 := run_seq
def o23_16 : List AO := [oA 13 (.move (tm 0)) 25,
  oA 14 (.move (tm 1)) 3,
  oA 15 (.indexAddr 25 (tm 13) (tm 14)) 0,
  oA 16 (.load 37 (tm 15)) 37,
  oA 17 (cF 24 #[(tm 16)] #[37]) 27,
  oA 12 (.move (tm 17)) 27,
  oA 18 (.extract (tm 12) 0) 3,
  oA 19 (.extract (tm 12) 1) 4,
  oA 6 (.assign (tm 18)) 3,
  oA 7 (.assign (tm 19)) 4]
def c23_16 : AC := .region o23_16 []
theorem n23_16 : RegR Cx 23 c23_16 o23_16 := run_region
def o23_18 : List AO := [oA 20 (.move (tm 5)) 3,
  oA 21 (.move (tm 6)) 3,
  oA 22 (.binOp .add 3 (tm 20) (tm 21) 3) 3,
  oA 5 (.assign (tm 22)) 3]
def c23_18 : AC := .region o23_18 []
theorem n23_18 : RegR Cx 23 c23_18 o23_18 := run_region
def o23_19 : List AO := [oA 23 (.move (tm 1)) 3,
  oA 24 (.binOp .add 3 (tm 23) (ci 1) 3) 3,
  oA 1 (.assign (tm 24)) 3]
def c23_19 : AC := .region o23_19 []
theorem n23_19 : RegR Cx 23 c23_19 o23_19 := run_region
def c23_17 : AC := .seq c23_18 c23_19
theorem n23_17 : SeqR Cx 23 c23_17 c23_18 c23_19 := run_seq
def c23_15 : AC := .seq c23_16 c23_17
theorem n23_15 : SeqR Cx 23 c23_15 c23_16 c23_17 := run_seq
def c23_14 : AC := .block 1 c23_15
theorem n23_14 : BlkR Cx 23 c23_14 1 c23_15 := run_block
def o23_20 : List AO := [oA 10 (.move (tm 5)) 3,
  oA 11 (.binOp .sub 3 (tm 10) (ci 1) 3) 3,
  oA 5 (.assign (tm 11)) 3]
def c23_20 : AC := .region o23_20 []
theorem n23_20 : RegR Cx 23 c23_20 o23_20 := run_region
def c23_13 : AC := .seq c23_14 c23_20
theorem n23_13 : SeqR Cx 23 c23_13 c23_14 c23_20 := run_seq
def c23_7 : AC := .seq c23_8 c23_13
theorem n23_7 : SeqR Cx 23 c23_7 c23_8 c23_13 := run_seq
def c23_6 : AC := .loop c23_7
theorem n23_6 : LoopR Cx 23 c23_6 c23_7 := run_loop'
def c23_5 : AC := .block 0 c23_6
theorem n23_5 : BlkR Cx 23 c23_5 0 c23_6 := run_block
def c23_3 : AC := .seq c23_4 c23_5
theorem n23_3 : SeqR Cx 23 c23_3 c23_4 c23_5 := run_seq
def o23_22 : List AO := [oA 25 (.move (tm 1)) 3,
  oA 4 (.assign (tm 25)) 3]
def c23_22 : AC := .region o23_22 []
theorem n23_22 : RegR Cx 23 c23_22 o23_22 := run_region
def c23_23 : AC := .ret
theorem n23_23 : RetR Cx 23 c23_23 := run_ret
def c23_21 : AC := .seq c23_22 c23_23
theorem n23_21 : SeqR Cx 23 c23_21 c23_22 c23_23 := run_seq
def c23_2 : AC := .seq c23_3 c23_21
theorem n23_2 : SeqR Cx 23 c23_2 c23_3 c23_21 := run_seq
def c23_0 : AC := .seq c23_1 c23_2
theorem n23_0 : SeqR Cx 23 c23_0 c23_1 c23_2 := run_seq
theorem body23 : bodyOf Cx 23 = some c23_0 := by kernel_rfl
theorem res23 : resOf Cx 23 = some [.tmp 4] := by kernel_rfl
theorem pure23 : Cx.pure 23 = true := by kernel_rfl
def o24_1 : List AO := [oA 1 (.box 37 (tm 0)) 0,
  oA 2 (.assign (ci 0)) 3,
  oA 3 (.assign (.const (.bool false))) 4]
def c24_1 : AC := .region o24_1 []
theorem n24_1 : RegR Cx 24 c24_1 o24_1 := run_region
def o24_4 : List AO := [oA 8 (.fieldAddr 37 (tm 1) 0) 0,
  oA 9 (.load 3 (tm 8)) 3,
  oA 10 (cF 12 #[(tm 9)] #[3]) 30,
  oA 7 (.move (tm 10)) 30,
  oA 11 (.extract (tm 7) 0) 9,
  oA 12 (.extract (tm 7) 1) 3,
  oA 13 (.extract (tm 7) 2) 4,
  oA 4 (.assign (tm 11)) 9,
  oA 5 (.assign (tm 12)) 3,
  oA 6 (.assign (tm 13)) 4]
def c24_4 : AC := .region o24_4 []
theorem n24_4 : RegR Cx 24 c24_4 o24_4 := run_region
def o24_6 : List AO := [oA 14 (.move (tm 6)) 4]
def c24_6 : AC := .region o24_6 []
theorem n24_6 : RegR Cx 24 c24_6 o24_6 := run_region
def o24_9 : List AO := [oA 15 (.move (tm 5)) 3,
  oA 16 (.fieldAddr 37 (tm 1) 1) 0,
  oA 17 (.load 35 (tm 16)) 35,
  oA 18 (.build 35 #[]) 35,
  oA 19 (.binOp .eql 35 (tm 17) (tm 18) 35) 4,
  oA 2 (.assign (tm 15)) 3,
  oA 3 (.assign (tm 19)) 4]
def c24_9 : AC := .region o24_9 []
theorem n24_9 : RegR Cx 24 c24_9 o24_9 := run_region
def c24_10 : AC := .ret
theorem n24_10 : RetR Cx 24 c24_10 := run_ret
def c24_8 : AC := .seq c24_9 c24_10
theorem n24_8 : SeqR Cx 24 c24_8 c24_9 c24_10 := run_seq
def c24_11 : AC := .skip
theorem n24_11 : SkipR Cx 24 c24_11 := run_skip
def c24_7 : AC := .cond (tm 14) c24_8 c24_11
theorem n24_7 : CondR Cx 24 c24_7 (tm 14) c24_8 c24_11 := run_condC
def c24_5 : AC := .seq c24_6 c24_7
theorem n24_5 : SeqR Cx 24 c24_5 c24_6 c24_7 := run_seq
def c24_3 : AC := .seq c24_4 c24_5
theorem n24_3 : SeqR Cx 24 c24_3 c24_4 c24_5 := run_seq
def o24_13 : List AO := [oA 20 (.load 37 (tm 1)) 37,
  oA 21 (cF 35 #[(tm 20)] #[37]) 4,
  oA 2 (.assign (ci 0)) 3,
  oA 3 (.assign (tm 21)) 4]
def c24_13 : AC := .region o24_13 []
theorem n24_13 : RegR Cx 24 c24_13 o24_13 := run_region
def c24_14 : AC := .ret
theorem n24_14 : RetR Cx 24 c24_14 := run_ret
def c24_12 : AC := .seq c24_13 c24_14
theorem n24_12 : SeqR Cx 24 c24_12 c24_13 c24_14 := run_seq
def c24_2 : AC := .seq c24_3 c24_12
theorem n24_2 : SeqR Cx 24 c24_2 c24_3 c24_12 := run_seq
def c24_0 : AC := .seq c24_1 c24_2
theorem n24_0 : SeqR Cx 24 c24_0 c24_1 c24_2 := run_seq
theorem body24 : bodyOf Cx 24 = some c24_0 := by kernel_rfl
theorem res24 : resOf Cx 24 = some [.tmp 2, .tmp 3] := by kernel_rfl
theorem pure24 : Cx.pure 24 = true := by kernel_rfl
def o25_1 : List AO := [oA 0 (.assign (.const (.slice none 0 0))) 60]
def c25_1 : AC := .region o25_1 []
theorem n25_1 : RegR Cx 25 c25_1 o25_1 := run_region
def o25_3 : List AO := [oA 1 (.build 59 #[(0, (.const (.string ⟨#[97, 100, 100]⟩))), (1, (ci 2))]) 59,
  oA 2 (.build 59 #[(0, (.const (.string ⟨#[115, 117, 98]⟩))), (1, (ci 2))]) 59,
  oA 3 (.build 59 #[(0, (.const (.string ⟨#[109, 117, 108]⟩))), (1, (ci 2))]) 59,
  oA 4 (.build 59 #[(0, (.const (.string ⟨#[100, 105, 118]⟩))), (1, (ci 2))]) 59,
  oA 5 (.build 59 #[(0, (.const (.string ⟨#[109, 111, 100]⟩))), (1, (ci 2))]) 59,
  oA 6 (.build 59 #[(0, (.const (.string ⟨#[110, 101, 103]⟩))), (1, (ci 1))]) 59,
  oA 7 (.build 59 #[(0, (.const (.string ⟨#[108, 101, 115, 115]⟩))), (1, (ci 2))]) 59,
  oA 8 (.build 59 #[(0, (.const (.string ⟨#[115, 97, 109, 101]⟩))), (1, (ci 2))]) 59,
  oA 9 (.build 59 #[(0, (.const (.string ⟨#[110, 111, 116]⟩))), (1, (ci 1))]) 59,
  oA 10 (.build 59 #[(0, (.const (.string ⟨#[105, 102]⟩))), (1, (ci 3))]) 59,
  oA 11 (.build 59 #[(0, (.const (.string ⟨#[109, 97, 120]⟩))), (1, (ci 2))]) 59,
  oA 12 (.build 59 #[(0, (.const (.string ⟨#[109, 105, 110]⟩))), (1, (ci 2))]) 59,
  oA 13 (.build 59 #[(0, (.const (.string ⟨#[99, 97, 116]⟩))), (1, (ci 2))]) 59,
  oA 14 (.build 59 #[(0, (.const (.string ⟨#[108, 101, 110]⟩))), (1, (ci 1))]) 59,
  oA 15 (.build 59 #[(0, (.const (.string ⟨#[99, 117, 116]⟩))), (1, (ci 3))]) 59,
  oA 16 (.build 59 #[(0, (.const (.string ⟨#[119, 111, 114, 100]⟩))), (1, (ci 2))]) 59,
  oA 17 (.build 59 #[(0, (.const (.string ⟨#[119, 111, 114, 100, 115]⟩))), (1, (ci 1))]) 59,
  oA 18 (.build 59 #[(0, (.const (.string ⟨#[110, 117, 109]⟩))), (1, (ci 1))]) 59,
  oA 19 (.build 59 #[(0, (.const (.string ⟨#[116, 101, 120, 116]⟩))), (1, (ci 1))]) 59,
  oA 20 (.build 59 #[(0, (.const (.string ⟨#[97, 116]⟩))), (1, (ci 2))]) 59,
  oA 21 (.build 59 #[(0, (.const (.string ⟨#[114, 101]⟩))), (1, (ci 1))]) 59,
  oA 22 (.build 59 #[(0, (.const (.string ⟨#[105, 109]⟩))), (1, (ci 1))]) 59,
  oA 23 (.build 59 #[(0, (.const (.string ⟨#[110, 111, 114, 109]⟩))), (1, (ci 1))]) 59,
  oA 24 (.build 59 #[(0, (.const (.string ⟨#[99, 111, 110, 106]⟩))), (1, (ci 1))]) 59,
  oA 25 (.build 59 #[(0, (.const (.string ⟨#[101, 109, 105, 116]⟩))), (1, (ci 2))]) 59,
  oA 26 (.build 59 #[(0, (.const (.string ⟨#[116, 104, 101, 110]⟩))), (1, (ci 2))]) 59,
  oA 27 (.build 59 #[(0, (.const (.string ⟨#[101, 97, 99, 104]⟩))), (1, (ci 2))]) 59,
  oA 28 (.build 59 #[(0, (.const (.string ⟨#[108, 101, 116]⟩))), (1, (ci 2))]) 59,
  oA 29 (.buildSlice 60 28 #[(0, (tm 1)), (1, (tm 2)), (2, (tm 3)), (3, (tm 4)), (4, (tm 5)), (5, (tm 6)), (6, (tm 7)), (7, (tm 8)), (8, (tm 9)), (9, (tm 10)), (10, (tm 11)), (11, (tm 12)), (12, (tm 13)), (13, (tm 14)), (14, (tm 15)), (15, (tm 16)), (16, (tm 17)), (17, (tm 18)), (18, (tm 19)), (19, (tm 20)), (20, (tm 21)), (21, (tm 22)), (22, (tm 23)), (23, (tm 24)), (24, (tm 25)), (25, (tm 26)), (26, (tm 27)), (27, (tm 28))]) 60,
  oA 0 (.assign (tm 29)) 60]
def c25_3 : AC := .region o25_3 []
theorem n25_3 : RegR Cx 25 c25_3 o25_3 := run_region
def c25_4 : AC := .ret
theorem n25_4 : RetR Cx 25 c25_4 := run_ret
def c25_2 : AC := .seq c25_3 c25_4
theorem n25_2 : SeqR Cx 25 c25_2 c25_3 c25_4 := run_seq
def c25_0 : AC := .seq c25_1 c25_2
theorem n25_0 : SeqR Cx 25 c25_0 c25_1 c25_2 := run_seq
theorem body25 : bodyOf Cx 25 = some c25_0 := by kernel_rfl
theorem res25 : resOf Cx 25 = some [.tmp 0] := by kernel_rfl
theorem pure25 : Cx.pure 25 = true := by kernel_rfl
def o26_1 : List AO := [oA 10 (.move (tm 0)) 25,
  oA 11 (.move (tm 1)) 3,
  oA 12 (.indexAddr 25 (tm 10) (tm 11)) 0,
  oA 13 (.load 37 (tm 12)) 37,
  oA 6 (.alloc 37) 0,
  oN (.store 37 (tm 6) (tm 13)) 0]
def c26_1 : AC := .region o26_1 []
theorem n26_1 : RegR Cx 26 c26_1 o26_1 := run_region
def o26_3 : List AO := [oA 14 (.fieldAddr 37 (tm 6) 0) 0,
  oA 15 (.load 3 (tm 14)) 3]
def c26_3 : AC := .region o26_3 []
theorem n26_3 : RegR Cx 26 c26_3 o26_3 := run_region
def o26_6 : List AO := [oA 45 (.binOp .eql 3 (tm 15) (ci 0) 3) 4,
  oA 44 (.assign (tm 45)) 4]
def c26_6 : AC := .region o26_6 []
theorem n26_6 : RegR Cx 26 c26_6 o26_6 := run_region
def o26_8 : List AO := [oA 46 (.move (tm 2)) 62,
  oA 47 (.fieldAddr 37 (tm 6) 1) 0,
  oA 48 (.load 35 (tm 47)) 35,
  oA 49 (cF 37 #[(tm 48)] #[35]) 9,
  oA 50 (cF 36 #[(tm 46), (tm 49)] #[62, 9]) 78]
def c26_8 : AC := .region o26_8 []
theorem n26_8 : RegR Cx 26 c26_8 o26_8 := run_region
def o26_10 : List AO := [oA 52 (.binOp .eql 3 (tm 15) (ci 1) 3) 4,
  oA 51 (.assign (tm 52)) 4]
def c26_10 : AC := .region o26_10 []
theorem n26_10 : RegR Cx 26 c26_10 o26_10 := run_region
def o26_12 : List AO := [oA 53 (.move (tm 2)) 62,
  oA 54 (cF 38 #[] #[]) 73,
  oA 55 (.fieldAddr 37 (tm 6) 1) 0,
  oA 56 (.fieldAddr 35 (tm 55) 1) 0,
  oA 57 (.load 3 (tm 56)) 3,
  oA 58 (.indexAddr 73 (tm 54) (tm 57)) 0,
  oA 59 (.load 9 (tm 58)) 9,
  oA 60 (cF 36 #[(tm 53), (tm 59)] #[62, 9]) 78]
def c26_12 : AC := .region o26_12 []
theorem n26_12 : RegR Cx 26 c26_12 o26_12 := run_region
def o26_14 : List AO := [oA 17 (.fieldAddr 37 (tm 6) 0) 0,
  oA 18 (.load 3 (tm 17)) 3,
  oA 19 (cF 12 #[(tm 18)] #[3]) 30,
  oA 16 (.move (tm 19)) 30,
  oA 20 (.extract (tm 16) 0) 9,
  oA 21 (.extract (tm 16) 1) 3,
  oA 22 (.extract (tm 16) 2) 4,
  oA 7 (.assign (tm 20)) 9,
  oA 8 (.assign (tm 21)) 3,
  oA 9 (.assign (tm 22)) 4]
def c26_14 : AC := .region o26_14 []
theorem n26_14 : RegR Cx 26 c26_14 o26_14 := run_region
def o26_16 : List AO := [oA 23 (.move (tm 2)) 62,
  oA 24 (.move (tm 7)) 9,
  oA 25 (.binOp .add 9 (.const (.string ⟨#[40]⟩)) (tm 24) 9) 9,
  oA 26 (cF 36 #[(tm 23), (tm 25)] #[62, 9]) 78]
def c26_16 : AC := .region o26_16 []
theorem n26_16 : RegR Cx 26 c26_16 o26_16 := run_region
def o26_18 : List AO := [oA 27 (.move (tm 1)) 3,
  oA 28 (.binOp .add 3 (tm 27) (ci 1) 3) 3,
  oA 1 (.assign (tm 28)) 3]
def c26_18 : AC := .region o26_18 []
theorem n26_18 : RegR Cx 26 c26_18 o26_18 := run_region
def o26_21 : List AO := [oA 29 (.move (tm 8)) 3,
  oA 30 (.move (ci 0)) 3]
def c26_21 : AC := .region o26_21 []
theorem n26_21 : RegR Cx 26 c26_21 o26_21 := run_region
def o26_25 : List AO := [oA 31 (.binOp .lss 3 (tm 30) (tm 29) 3) 4]
def c26_25 : AC := .region o26_25 []
theorem n26_25 : RegR Cx 26 c26_25 o26_25 := run_region
def c26_28 : AC := .skip
theorem n26_28 : SkipR Cx 26 c26_28 := run_skip
def c26_29 : AC := .exit 1
theorem n26_29 : ExitR Cx 26 c26_29 1 := run_exit_start
def c26_27 : AC := .cond (tm 31) c26_28 c26_29
theorem n26_27 : CondR Cx 26 c26_27 (tm 31) c26_28 c26_29 := run_condC
def o26_33 : List AO := [oA 32 (.move (tm 2)) 62,
  oA 33 (cF 39 #[(tm 32), (.const (.int .u8 32))] #[62, 5]) 77]
def c26_33 : AC := .region o26_33 []
theorem n26_33 : RegR Cx 26 c26_33 o26_33 := run_region
def o26_35 : List AO := [oA 34 (.move (tm 0)) 25,
  oA 35 (.move (tm 1)) 3,
  oA 36 (.move (tm 2)) 62,
  oA 37 (cF 26 #[(tm 34), (tm 35), (tm 36)] #[25, 3, 62]) 0]
def c26_35 : AC := .region o26_35 []
theorem n26_35 : RegR Cx 26 c26_35 o26_35 := run_region
def o26_36 : List AO := [oA 38 (.move (tm 0)) 25,
  oA 39 (.move (tm 1)) 3,
  oA 40 (cF 23 #[(tm 38), (tm 39)] #[25, 3]) 3,
  oA 1 (.assign (tm 40)) 3]
def c26_36 : AC := .region o26_36 []
theorem n26_36 : RegR Cx 26 c26_36 o26_36 := run_region
def c26_34 : AC := .seq c26_35 c26_36
theorem n26_34 : SeqR Cx 26 c26_34 c26_35 c26_36 := run_seq
def c26_32 : AC := .seq c26_33 c26_34
theorem n26_32 : SeqR Cx 26 c26_32 c26_33 c26_34 := run_seq
def c26_31 : AC := .block 2 c26_32
theorem n26_31 : BlkR Cx 26 c26_31 2 c26_32 := run_block
def o26_37 : List AO := [oA 41 (.binOp .add 3 (tm 30) (ci 1) 3) 3,
  oA 30 (.move (tm 41)) 3]
def c26_37 : AC := .region o26_37 []
theorem n26_37 : RegR Cx 26 c26_37 o26_37 := run_region
def c26_30 : AC := .seq c26_31 c26_37
theorem n26_30 : SeqR Cx 26 c26_30 c26_31 c26_37 := run_seq
def c26_26 : AC := .seq c26_27 c26_30
theorem n26_26 : SeqR Cx 26 c26_26 c26_27 c26_30 := run_seq
def c26_24 : AC := .seq c26_25 c26_26
theorem n26_24 : SeqR Cx 26 c26_24 c26_25 c26_26 := run_seq
def c26_23 : AC := .loop c26_24
theorem n26_23 : LoopR Cx 26 c26_23 c26_24 := run_loop'
def c26_22 : AC := .block 1 c26_23
theorem n26_22 : BlkR Cx 26 c26_22 1 c26_23 := run_block
def c26_20 : AC := .seq c26_21 c26_22
theorem n26_20 : SeqR Cx 26 c26_20 c26_21 c26_22 := run_seq
def o26_38 : List AO := [oA 42 (.move (tm 2)) 62,
  oA 43 (cF 39 #[(tm 42), (.const (.int .u8 41))] #[62, 5]) 77]
def c26_38 : AC := .region o26_38 []
theorem n26_38 : RegR Cx 26 c26_38 o26_38 := run_region
def c26_19 : AC := .seq c26_20 c26_38
theorem n26_19 : SeqR Cx 26 c26_19 c26_20 c26_38 := run_seq
def c26_17 : AC := .seq c26_18 c26_19
theorem n26_17 : SeqR Cx 26 c26_17 c26_18 c26_19 := run_seq
def c26_15 : AC := .seq c26_16 c26_17
theorem n26_15 : SeqR Cx 26 c26_15 c26_16 c26_17 := run_seq
def c26_13 : AC := .seq c26_14 c26_15
theorem n26_13 : SeqR Cx 26 c26_13 c26_14 c26_15 := run_seq
def c26_11 : AC := .cond (tm 51) c26_12 c26_13
theorem n26_11 : CondR Cx 26 c26_11 (tm 51) c26_12 c26_13 := run_condC
def c26_9 : AC := .seq c26_10 c26_11
theorem n26_9 : SeqR Cx 26 c26_9 c26_10 c26_11 := run_seq
def c26_7 : AC := .cond (tm 44) c26_8 c26_9
theorem n26_7 : CondR Cx 26 c26_7 (tm 44) c26_8 c26_9 := run_condC
def c26_5 : AC := .seq c26_6 c26_7
theorem n26_5 : SeqR Cx 26 c26_5 c26_6 c26_7 := run_seq
def c26_4 : AC := .block 0 c26_5
theorem n26_4 : BlkR Cx 26 c26_4 0 c26_5 := run_block
def c26_2 : AC := .seq c26_3 c26_4
theorem n26_2 : SeqR Cx 26 c26_2 c26_3 c26_4 := run_seq
def c26_0 : AC := .seq c26_1 c26_2
theorem n26_0 : SeqR Cx 26 c26_0 c26_1 c26_2 := run_seq
theorem body26 : bodyOf Cx 26 = some c26_0 := by kernel_rfl
theorem res26 : resOf Cx 26 = some [] := by kernel_rfl
theorem pure26 : Cx.pure 26 = false := by kernel_rfl
def o27_1 : List AO := [oA 2 (.assign (ci 0)) 3]
def c27_1 : AC := .region o27_1 []
theorem n27_1 : RegR Cx 27 c27_1 o27_1 := run_region
def o27_3 : List AO := [oA 3 (.move (tm 0)) 62,
  oA 4 (.nilCheck (tm 3)) 0,
  oA 5 (.fieldAddr 65 (tm 4) 1) 0,
  oA 6 (.load 63 (tm 5)) 63,
  oA 7 (cB .len #[(tm 6)] #[63]) 3,
  oA 2 (.assign (tm 7)) 3]
def c27_3 : AC := .region o27_3 []
theorem n27_3 : RegR Cx 27 c27_3 o27_3 := run_region
def c27_4 : AC := .ret
theorem n27_4 : RetR Cx 27 c27_4 := run_ret
def c27_2 : AC := .seq c27_3 c27_4
theorem n27_2 : SeqR Cx 27 c27_2 c27_3 c27_4 := run_seq
def c27_0 : AC := .seq c27_1 c27_2
theorem n27_0 : SeqR Cx 27 c27_0 c27_1 c27_2 := run_seq
theorem body27 : bodyOf Cx 27 = some c27_0 := by kernel_rfl
theorem res27 : resOf Cx 27 = some [.tmp 2] := by kernel_rfl
theorem pure27 : Cx.pure 27 = false := by kernel_rfl
def o28_1 : List AO := [oA 2 (.assign (.const (.string ⟨#[]⟩))) 9]
def c28_1 : AC := .region o28_1 []
theorem n28_1 : RegR Cx 28 c28_1 o28_1 := run_region
def o28_3 : List AO := [oA 3 (.move (tm 0)) 62,
  oA 4 (.nilCheck (tm 3)) 0,
  oA 5 (.fieldAddr 65 (tm 4) 1) 0,
  oA 6 (.load 63 (tm 5)) 63,
  oA 7 (cB .unsafeSliceData #[(tm 6)] #[63]) 82,
  oA 8 (.move (tm 0)) 62,
  oA 9 (.nilCheck (tm 8)) 0,
  oA 10 (.fieldAddr 65 (tm 9) 1) 0,
  oA 11 (.load 63 (tm 10)) 63,
  oA 12 (cB .len #[(tm 11)] #[63]) 3,
  oA 13 (cB .unsafeString #[(tm 7), (tm 12)] #[82, 3]) 9,
  oA 2 (.assign (tm 13)) 9]
def c28_3 : AC := .region o28_3 []
theorem n28_3 : RegR Cx 28 c28_3 o28_3 := run_region
def c28_4 : AC := .ret
theorem n28_4 : RetR Cx 28 c28_4 := run_ret
def c28_2 : AC := .seq c28_3 c28_4
theorem n28_2 : SeqR Cx 28 c28_2 c28_3 c28_4 := run_seq
def c28_0 : AC := .seq c28_1 c28_2
theorem n28_0 : SeqR Cx 28 c28_0 c28_1 c28_2 := run_seq
theorem body28 : bodyOf Cx 28 = some c28_0 := by kernel_rfl
theorem res28 : resOf Cx 28 = some [.tmp 2] := by kernel_rfl
theorem pure28 : Cx.pure 28 = false := by kernel_rfl
def o29_1 : List AO := [oA 4 (.assign (ci 0)) 3]
def c29_1 : AC := .region o29_1 []
theorem n29_1 : RegR Cx 29 c29_1 o29_1 := run_region
def o29_7 : List AO := [oA 5 (.move (tm 1)) 3,
  oA 6 (.move (tm 0)) 9,
  oA 7 (cB .len #[(tm 6)] #[9]) 3,
  oA 8 (.binOp .lss 3 (tm 5) (tm 7) 3) 4,
  oA 9 (.move (tm 8)) 4,
  oG 10 (.move (tm 0)) 9 9 true,
  oG 11 (.move (tm 1)) 3 9 true,
  oG 12 (.index 9 (tm 10) (tm 11)) 5 9 true,
  oG 13 (.binOp .eql 5 (tm 12) (.const (.int .u8 32)) 5) 4 9 true,
  oA 14 (.pick (tm 9) (tm 13) (.const (.bool false))) 4]
def c29_7 : AC := .region o29_7 []
theorem n29_7 : RegR Cx 29 c29_7 o29_7 := run_region
def c29_9 : AC := .skip
theorem n29_9 : SkipR Cx 29 c29_9 := run_skip
def c29_10 : AC := .exit 0
theorem n29_10 : ExitR Cx 29 c29_10 0 := run_exit_start
def c29_8 : AC := .cond (tm 14) c29_9 c29_10
theorem n29_8 : CondR Cx 29 c29_8 (tm 14) c29_9 c29_10 := run_condC
def c29_6 : AC := .seq c29_7 c29_8
theorem n29_6 : SeqR Cx 29 c29_6 c29_7 c29_8 := run_seq
def o29_12 : List AO := [oA 15 (.move (tm 1)) 3,
  oA 16 (.binOp .add 3 (tm 15) (ci 1) 3) 3,
  oA 1 (.assign (tm 16)) 3]
def c29_12 : AC := .region o29_12 []
theorem n29_12 : RegR Cx 29 c29_12 o29_12 := run_region
def c29_11 : AC := .block 1 c29_12
theorem n29_11 : BlkR Cx 29 c29_11 1 c29_12 := run_block
def c29_5 : AC := .seq c29_6 c29_11
theorem n29_5 : SeqR Cx 29 c29_5 c29_6 c29_11 := run_seq
def c29_4 : AC := .loop c29_5
theorem n29_4 : LoopR Cx 29 c29_4 c29_5 := run_loop'
def c29_3 : AC := .block 0 c29_4
theorem n29_3 : BlkR Cx 29 c29_3 0 c29_4 := run_block
def o29_14 : List AO := [oA 17 (.move (tm 1)) 3,
  oA 4 (.assign (tm 17)) 3]
def c29_14 : AC := .region o29_14 []
theorem n29_14 : RegR Cx 29 c29_14 o29_14 := run_region
def c29_15 : AC := .ret
theorem n29_15 : RetR Cx 29 c29_15 := run_ret
def c29_13 : AC := .seq c29_14 c29_15
theorem n29_13 : SeqR Cx 29 c29_13 c29_14 c29_15 := run_seq
def c29_2 : AC := .seq c29_3 c29_13
theorem n29_2 : SeqR Cx 29 c29_2 c29_3 c29_13 := run_seq
def c29_0 : AC := .seq c29_1 c29_2
theorem n29_0 : SeqR Cx 29 c29_0 c29_1 c29_2 := run_seq
theorem body29 : bodyOf Cx 29 = some c29_0 := by kernel_rfl
theorem res29 : resOf Cx 29 = some [.tmp 4] := by kernel_rfl
theorem pure29 : Cx.pure 29 = true := by kernel_rfl
def o30_1 : List AO := [oA 2 (.box 9 (tm 0)) 0,
  oA 3 (.box 3 (tm 1)) 0,
  oA 4 (.alloc 37) 0,
  oA 5 (.assign (ci 0)) 3,
  oA 6 (.assign (ci 0)) 3,
  oA 7 (.assign (ci 0)) 39]
def c30_1 : AC := .region o30_1 []
theorem n30_1 : RegR Cx 30 c30_1 o30_1 := run_region
def o30_3 : List AO := [oA 10 (.load 9 (tm 2)) 9,
  oA 11 (.load 3 (tm 3)) 3,
  oA 12 (cF 40 #[(tm 10), (tm 11)] #[9, 3]) 3,
  oA 8 (.alloc 3) 0,
  oN (.store 3 (tm 8) (tm 12)) 0]
def c30_3 : AC := .region o30_3 []
theorem n30_3 : RegR Cx 30 c30_3 o30_3 := run_region
def o30_5 : List AO := [oA 13 (cF 25 #[] #[]) 60,
  oA 14 (.makeFunc (.func 42) #[] #[(tm 2), (tm 3), (tm 8)]) 84,
  oA 15 (cF 41 #[(tm 13), (tm 14)] #[60, 84]) 3,
  oA 9 (.assign (tm 15)) 3]
def c30_5 : AC := .region o30_5 []
theorem n30_5 : RegR Cx 30 c30_5 o30_5 := run_region
def o30_8 : List AO := [oA 16 (.move (tm 9)) 3,
  oA 17 (.binOp .lss 3 (tm 16) (ci 0) 3) 4]
def c30_8 : AC := .region o30_8 []
theorem n30_8 : RegR Cx 30 c30_8 o30_8 := run_region
def o30_11 : List AO := [oA 18 (.build 37 #[]) 37,
  oA 19 (.load 3 (tm 3)) 3,
  oN (.store 37 (tm 4) (tm 18)) 0,
  oA 5 (.assign (ci 0)) 3,
  oA 6 (.assign (tm 19)) 3,
  oA 7 (.assign (ci 10)) 39]
def c30_11 : AC := .region o30_11 [[], [], [3], [], [], []]
theorem n30_11 : RegD Cx 30 c30_11 o30_11 [[], [], [3], [], [], []] := run_regionD
def c30_12 : AC := .ret
theorem n30_12 : RetR Cx 30 c30_12 := run_ret
def c30_10 : AC := .seq c30_11 c30_12
theorem n30_10 : SeqR Cx 30 c30_10 c30_11 c30_12 := run_seq
def c30_13 : AC := .skip
theorem n30_13 : SkipR Cx 30 c30_13 := run_skip
def c30_9 : AC := .cond (tm 17) c30_10 c30_13
theorem n30_9 : CondR Cx 30 c30_9 (tm 17) c30_10 c30_13 := run_condC
def c30_7 : AC := .seq c30_8 c30_9
theorem n30_7 : SeqR Cx 30 c30_7 c30_8 c30_9 := run_seq
def o30_15 : List AO := [oA 20 (.move (tm 9)) 3,
  oA 21 (.binOp .add 3 (tm 20) (ci 1) 3) 3,
  oA 22 (.binOp .add 3 (tm 21) (ci 1) 3) 3,
  oA 23 (.build 37 #[(0, (tm 22))]) 37,
  oA 24 (.load 3 (tm 8)) 3,
  oN (.store 37 (tm 4) (tm 23)) 0,
  oA 5 (.assign (tm 24)) 3,
  oA 6 (.assign (ci 0)) 3,
  oA 7 (.assign (ci 0)) 39]
def c30_15 : AC := .region o30_15 [[], [], [], [], [], [8], [], [], []]
theorem n30_15 : RegD Cx 30 c30_15 o30_15 [[], [], [], [], [], [8], [], [], []] := run_regionD
def c30_16 : AC := .ret
theorem n30_16 : RetR Cx 30 c30_16 := run_ret
def c30_14 : AC := .seq c30_15 c30_16
theorem n30_14 : SeqR Cx 30 c30_14 c30_15 c30_16 := run_seq
def c30_6 : AC := .seq c30_7 c30_14
theorem n30_6 : SeqR Cx 30 c30_6 c30_7 c30_14 := run_seq
def c30_4 : AC := .seq c30_5 c30_6
theorem n30_4 : SeqR Cx 30 c30_4 c30_5 c30_6 := run_seq
def c30_2 : AC := .seq c30_3 c30_4
theorem n30_2 : SeqR Cx 30 c30_2 c30_3 c30_4 := run_seq
def c30_0 : AC := .seq c30_1 c30_2
theorem n30_0 : SeqR Cx 30 c30_0 c30_1 c30_2 := run_seq
theorem body30 : bodyOf Cx 30 = some c30_0 := by kernel_rfl
theorem res30 : resOf Cx 30 = some [.cell 4 37, .tmp 5, .tmp 6, .tmp 7] := by kernel_rfl
theorem pure30 : Cx.pure 30 = true := by kernel_rfl
def o31_1 : List AO := [oA 4 (.alloc 37) 0,
  oA 5 (.assign (ci 0)) 3,
  oA 6 (.assign (ci 0)) 3,
  oA 7 (.assign (ci 0)) 39]
def c31_1 : AC := .region o31_1 []
theorem n31_1 : RegR Cx 31 c31_1 o31_1 := run_region
def o31_4 : List AO := [oA 14 (.move (tm 0)) 9,
  oA 15 (.move (tm 1)) 3,
  oA 16 (.index 9 (tm 14) (tm 15)) 5,
  oA 8 (.assign (tm 16)) 5]
def c31_4 : AC := .region o31_4 []
theorem n31_4 : RegR Cx 31 c31_4 o31_4 := run_region
def o31_6 : List AO := [oA 17 (.move (tm 8)) 5,
  oA 18 (.binOp .geq 5 (tm 17) (.const (.int .u8 97)) 5) 4,
  oA 19 (.move (tm 18)) 4,
  oG 20 (.move (tm 8)) 5 19 true,
  oG 21 (.binOp .leq 5 (tm 20) (.const (.int .u8 122)) 5) 4 19 true,
  oA 22 (.pick (tm 19) (tm 21) (.const (.bool false))) 4]
def c31_6 : AC := .region o31_6 []
theorem n31_6 : RegR Cx 31 c31_6 o31_6 := run_region
def o31_9 : List AO := [oA 23 (.move (tm 0)) 9,
  oA 24 (.move (tm 1)) 3,
  oA 25 (cF 40 #[(tm 23), (tm 24)] #[9, 3]) 3,
  oA 9 (.assign (tm 25)) 3]
def c31_9 : AC := .region o31_9 []
theorem n31_9 : RegR Cx 31 c31_9 o31_9 := run_region
def o31_11 : List AO := [oA 26 (cF 38 #[] #[]) 73,
  oA 27 (.move (tm 0)) 9,
  oA 28 (.move (tm 1)) 3,
  oA 29 (.move (tm 9)) 3,
  oA 30 (.slice 9 (tm 27) (some (tm 28)) (some (tm 29)) none) 9,
  oA 31 (cF 43 #[(tm 26), (tm 30)] #[73, 9]) 3,
  oA 10 (.assign (tm 31)) 3]
def c31_11 : AC := .region o31_11 []
theorem n31_11 : RegR Cx 31 c31_11 o31_11 := run_region
def o31_14 : List AO := [oA 32 (.move (tm 10)) 3,
  oA 33 (.binOp .lss 3 (tm 32) (ci 0) 3) 4]
def c31_14 : AC := .region o31_14 []
theorem n31_14 : RegR Cx 31 c31_14 o31_14 := run_region
def o31_17 : List AO := [oA 34 (.build 37 #[]) 37,
  oA 35 (.move (tm 1)) 3,
  oN (.store 37 (tm 4) (tm 34)) 0,
  oA 5 (.assign (ci 0)) 3,
  oA 6 (.assign (tm 35)) 3,
  oA 7 (.assign (ci 10)) 39]
def c31_17 : AC := .region o31_17 []
theorem n31_17 : RegR Cx 31 c31_17 o31_17 := run_region
def c31_18 : AC := .ret
theorem n31_18 : RetR Cx 31 c31_18 := run_ret
def c31_16 : AC := .seq c31_17 c31_18
theorem n31_16 : SeqR Cx 31 c31_16 c31_17 c31_18 := run_seq
def c31_19 : AC := .skip
theorem n31_19 : SkipR Cx 31 c31_19 := run_skip
def c31_15 : AC := .cond (tm 33) c31_16 c31_19
theorem n31_15 : CondR Cx 31 c31_15 (tm 33) c31_16 c31_19 := run_condC
def c31_13 : AC := .seq c31_14 c31_15
theorem n31_13 : SeqR Cx 31 c31_13 c31_14 c31_15 := run_seq
def o31_21 : List AO := [oA 36 (.move (tm 10)) 3,
  oA 37 (.build 35 #[(1, (tm 36))]) 35,
  oA 38 (.build 37 #[(0, (ci 1)), (1, (tm 37))]) 37,
  oA 39 (.move (tm 9)) 3,
  oN (.store 37 (tm 4) (tm 38)) 0,
  oA 5 (.assign (tm 39)) 3,
  oA 6 (.assign (ci 0)) 3,
  oA 7 (.assign (ci 0)) 39]
def c31_21 : AC := .region o31_21 []
theorem n31_21 : RegR Cx 31 c31_21 o31_21 := run_region
def c31_22 : AC := .ret
theorem n31_22 : RetR Cx 31 c31_22 := run_ret
def c31_20 : AC := .seq c31_21 c31_22
theorem n31_20 : SeqR Cx 31 c31_20 c31_21 c31_22 := run_seq
def c31_12 : AC := .seq c31_13 c31_20
theorem n31_12 : SeqR Cx 31 c31_12 c31_13 c31_20 := run_seq
def c31_10 : AC := .seq c31_11 c31_12
theorem n31_10 : SeqR Cx 31 c31_10 c31_11 c31_12 := run_seq
def c31_8 : AC := .seq c31_9 c31_10
theorem n31_8 : SeqR Cx 31 c31_8 c31_9 c31_10 := run_seq
def c31_23 : AC := .skip
theorem n31_23 : SkipR Cx 31 c31_23 := run_skip
def c31_7 : AC := .cond (tm 22) c31_8 c31_23
theorem n31_7 : CondR Cx 31 c31_7 (tm 22) c31_8 c31_23 := run_condC
def c31_5 : AC := .seq c31_6 c31_7
theorem n31_5 : SeqR Cx 31 c31_5 c31_6 c31_7 := run_seq
def c31_3 : AC := .seq c31_4 c31_5
theorem n31_3 : SeqR Cx 31 c31_3 c31_4 c31_5 := run_seq
def o31_25 : List AO := [oA 41 (.move (tm 0)) 9,
  oA 42 (.move (tm 1)) 3,
  oA 43 (.slice 9 (tm 41) (some (tm 42)) none none) 9,
  oA 44 (cF 44 #[(tm 43)] #[9]) 86,
  oA 40 (.move (tm 44)) 86,
  oA 45 (.extract (tm 40) 0) 35,
  oA 46 (.extract (tm 40) 1) 3,
  oA 47 (.extract (tm 40) 2) 39,
  oA 11 (.alloc 35) 0,
  oN (.store 35 (tm 11) (tm 45)) 0,
  oA 12 (.assign (tm 46)) 3,
  oA 13 (.assign (tm 47)) 39]
def c31_25 : AC := .region o31_25 []
theorem n31_25 : RegR Cx 31 c31_25 o31_25 := run_region
def o31_28 : List AO := [oA 48 (.move (tm 13)) 39,
  oA 49 (.binOp .neq 39 (tm 48) (ci 0) 39) 4]
def c31_28 : AC := .region o31_28 []
theorem n31_28 : RegR Cx 31 c31_28 o31_28 := run_region
def o31_31 : List AO := [oA 50 (.build 37 #[]) 37,
  oA 51 (.move (tm 1)) 3,
  oA 52 (.move (tm 13)) 39,
  oN (.store 37 (tm 4) (tm 50)) 0,
  oA 5 (.assign (ci 0)) 3,
  oA 6 (.assign (tm 51)) 3,
  oA 7 (.assign (tm 52)) 39]
def c31_31 : AC := .region o31_31 []
theorem n31_31 : RegR Cx 31 c31_31 o31_31 := run_region
def c31_32 : AC := .ret
theorem n31_32 : RetR Cx 31 c31_32 := run_ret
def c31_30 : AC := .seq c31_31 c31_32
theorem n31_30 : SeqR Cx 31 c31_30 c31_31 c31_32 := run_seq
def c31_33 : AC := .skip
theorem n31_33 : SkipR Cx 31 c31_33 := run_skip
def c31_29 : AC := .cond (tm 49) c31_30 c31_33
theorem n31_29 : CondR Cx 31 c31_29 (tm 49) c31_30 c31_33 := run_condC
def c31_27 : AC := .seq c31_28 c31_29
theorem n31_27 : SeqR Cx 31 c31_27 c31_28 c31_29 := run_seq
def o31_35 : List AO := [oA 53 (.load 35 (tm 11)) 35,
  oA 54 (.build 37 #[(0, (ci 0)), (1, (tm 53))]) 37,
  oA 55 (.move (tm 1)) 3,
  oA 56 (.move (tm 12)) 3,
  oA 57 (.binOp .add 3 (tm 55) (tm 56) 3) 3,
  oN (.store 37 (tm 4) (tm 54)) 0,
  oA 5 (.assign (tm 57)) 3,
  oA 6 (.assign (ci 0)) 3,
  oA 7 (.assign (ci 0)) 39]
def c31_35 : AC := .region o31_35 []
theorem n31_35 : RegR Cx 31 c31_35 o31_35 := run_region
def c31_36 : AC := .ret
theorem n31_36 : RetR Cx 31 c31_36 := run_ret
def c31_34 : AC := .seq c31_35 c31_36
theorem n31_34 : SeqR Cx 31 c31_34 c31_35 c31_36 := run_seq
def c31_26 : AC := .seq c31_27 c31_34
theorem n31_26 : SeqR Cx 31 c31_26 c31_27 c31_34 := run_seq
def c31_24 : AC := .seq c31_25 c31_26
theorem n31_24 : SeqR Cx 31 c31_24 c31_25 c31_26 := run_seq
def c31_2 : AC := .seq c31_3 c31_24
theorem n31_2 : SeqR Cx 31 c31_2 c31_3 c31_24 := run_seq
def c31_0 : AC := .seq c31_1 c31_2
theorem n31_0 : SeqR Cx 31 c31_0 c31_1 c31_2 := run_seq
theorem body31 : bodyOf Cx 31 = some c31_0 := by kernel_rfl
theorem res31 : resOf Cx 31 = some [.cell 4 37, .tmp 5, .tmp 6, .tmp 7] := by kernel_rfl
theorem pure31 : Cx.pure 31 = true := by kernel_rfl
def o32_1 : List AO := [oA 6 (.assign (ci 0)) 3]
def c32_1 : AC := .region o32_1 []
theorem n32_1 : RegR Cx 32 c32_1 o32_1 := run_region
def o32_4 : List AO := [oA 9 (.move (tm 1)) 3,
  oA 10 (.move (tm 0)) 22,
  oA 11 (cB .len #[(tm 10)] #[22]) 3,
  oA 12 (.binOp .geq 3 (tm 9) (tm 11) 3) 4,
  oA 13 (.move (tm 12)) 4,
  oG 14 (.move (tm 2)) 3 13 false,
  oG 15 (.binOp .gtr 3 (tm 14) (ci 24) 3) 4 13 false,
  oA 16 (.pick (tm 13) (.const (.bool true)) (tm 15)) 4]
def c32_4 : AC := .region o32_4 []
theorem n32_4 : RegR Cx 32 c32_4 o32_4 := run_region
def o32_7 : List AO := [oA 6 (.assign (ci (-1))) 3]
def c32_7 : AC := .region o32_7 []
theorem n32_7 : RegR Cx 32 c32_7 o32_7 := run_region
def c32_8 : AC := .ret
theorem n32_8 : RetR Cx 32 c32_8 := run_ret
def c32_6 : AC := .seq c32_7 c32_8
theorem n32_6 : SeqR Cx 32 c32_6 c32_7 c32_8 := run_seq
def c32_9 : AC := .skip
theorem n32_9 : SkipR Cx 32 c32_9 := run_skip
def c32_5 : AC := .cond (tm 16) c32_6 c32_9
theorem n32_5 : CondR Cx 32 c32_5 (tm 16) c32_6 c32_9 := run_condC
def c32_3 : AC := .seq c32_4 c32_5
theorem n32_3 : SeqR Cx 32 c32_3 c32_4 c32_5 := run_seq
def o32_11 : List AO := [oA 17 (.move (tm 0)) 22,
  oA 18 (.move (tm 1)) 3,
  oA 19 (.indexAddr 22 (tm 17) (tm 18)) 0,
  oA 20 (.load 52 (tm 19)) 52,
  oA 7 (.alloc 52) 0,
  oN (.store 52 (tm 7) (tm 20)) 0]
def c32_11 : AC := .region o32_11 []
theorem n32_11 : RegR Cx 32 c32_11 o32_11 := run_region
def o32_14 : List AO := [oA 21 (.fieldAddr 52 (tm 7) 0) 0,
  oA 22 (.load 3 (tm 21)) 3,
  oA 23 (.binOp .eql 3 (tm 22) (ci 0) 3) 4,
  oA 24 (.move (tm 23)) 4,
  oG 25 (.fieldAddr 52 (tm 7) 1) 0 24 true,
  oG 26 (.load 35 (tm 25)) 35 24 true,
  oG 27 (cF 45 #[(tm 26)] #[35]) 4 24 true,
  oA 28 (.pick (tm 24) (tm 27) (.const (.bool false))) 4]
def c32_14 : AC := .region o32_14 []
theorem n32_14 : RegR Cx 32 c32_14 o32_14 := run_region
def o32_17 : List AO := [oA 29 (.move (tm 1)) 3,
  oA 30 (.binOp .add 3 (tm 29) (ci 1) 3) 3,
  oA 6 (.assign (tm 30)) 3]
def c32_17 : AC := .region o32_17 []
theorem n32_17 : RegR Cx 32 c32_17 o32_17 := run_region
def c32_18 : AC := .ret
theorem n32_18 : RetR Cx 32 c32_18 := run_ret
def c32_16 : AC := .seq c32_17 c32_18
theorem n32_16 : SeqR Cx 32 c32_16 c32_17 c32_18 := run_seq
def c32_19 : AC := .skip
theorem n32_19 : SkipR Cx 32 c32_19 := run_skip
def c32_15 : AC := .cond (tm 28) c32_16 c32_19
theorem n32_15 : CondR Cx 32 c32_15 (tm 28) c32_16 c32_19 := run_condC
def c32_13 : AC := .seq c32_14 c32_15
theorem n32_13 : SeqR Cx 32 c32_13 c32_14 c32_15 := run_seq
def o32_22 : List AO := [oA 31 (.fieldAddr 52 (tm 7) 0) 0,
  oA 32 (.load 3 (tm 31)) 3,
  oA 33 (.binOp .eql 3 (tm 32) (ci 1) 3) 4,
  oA 34 (.move (tm 33)) 4,
  oG 35 (.fieldAddr 52 (tm 7) 1) 0 34 true,
  oG 36 (.load 35 (tm 35)) 35 34 true,
  oG 37 (cF 45 #[(tm 36)] #[35]) 4 34 true,
  oA 38 (.pick (tm 34) (tm 37) (.const (.bool false))) 4,
  oA 39 (.move (tm 38)) 4,
  oG 40 (.fieldAddr 52 (tm 7) 1) 0 39 true,
  oG 41 (.fieldAddr 35 (tm 40) 0) 0 39 true,
  oG 42 (.load 3 (tm 41)) 3 39 true,
  oG 43 (.binOp .eql 3 (tm 42) (ci 0) 3) 4 39 true,
  oA 44 (.pick (tm 39) (tm 43) (.const (.bool false))) 4,
  oA 45 (.move (tm 44)) 4,
  oG 46 (.fieldAddr 52 (tm 7) 1) 0 45 true,
  oG 47 (.fieldAddr 35 (tm 46) 1) 0 45 true,
  oG 48 (.load 3 (tm 47)) 3 45 true,
  oG 49 (.binOp .geq 3 (tm 48) (ci 0) 3) 4 45 true,
  oA 50 (.pick (tm 45) (tm 49) (.const (.bool false))) 4,
  oA 51 (.move (tm 50)) 4,
  oG 52 (.fieldAddr 52 (tm 7) 1) 0 51 true,
  oG 53 (.fieldAddr 35 (tm 52) 1) 0 51 true,
  oG 54 (.load 3 (tm 53)) 3 51 true,
  oG 55 (.binOp .leq 3 (tm 54) (ci 4) 3) 4 51 true,
  oA 56 (.pick (tm 51) (tm 55) (.const (.bool false))) 4]
def c32_22 : AC := .region o32_22 []
theorem n32_22 : RegR Cx 32 c32_22 o32_22 := run_region
def o32_25 : List AO := [oA 57 (.move (tm 1)) 3,
  oA 58 (.binOp .add 3 (tm 57) (ci 1) 3) 3,
  oA 6 (.assign (tm 58)) 3]
def c32_25 : AC := .region o32_25 []
theorem n32_25 : RegR Cx 32 c32_25 o32_25 := run_region
def c32_26 : AC := .ret
theorem n32_26 : RetR Cx 32 c32_26 := run_ret
def c32_24 : AC := .seq c32_25 c32_26
theorem n32_24 : SeqR Cx 32 c32_24 c32_25 c32_26 := run_seq
def c32_27 : AC := .skip
theorem n32_27 : SkipR Cx 32 c32_27 := run_skip
def c32_23 : AC := .cond (tm 56) c32_24 c32_27
theorem n32_23 : CondR Cx 32 c32_23 (tm 56) c32_24 c32_27 := run_condC
def c32_21 : AC := .seq c32_22 c32_23
theorem n32_21 : SeqR Cx 32 c32_21 c32_22 c32_23 := run_seq
def o32_30 : List AO := [oA 59 (.fieldAddr 52 (tm 7) 0) 0,
  oA 60 (.load 3 (tm 59)) 3,
  oA 61 (cF 19 #[(tm 60)] #[3]) 9,
  oA 62 (.binOp .eql 9 (tm 61) (.const (.string ⟨#[]⟩)) 9) 4,
  oA 63 (.move (tm 62)) 4,
  oG 64 (.fieldAddr 52 (tm 7) 1) 0 63 false,
  oG 65 (.load 35 (tm 64)) 35 63 false,
  oG 66 (.build 35 #[]) 35 63 false,
  oG 67 (.binOp .neq 35 (tm 65) (tm 66) 35) 4 63 false,
  oA 68 (.pick (tm 63) (.const (.bool true)) (tm 67)) 4]
def c32_30 : AC := .region o32_30 []
theorem n32_30 : RegR Cx 32 c32_30 o32_30 := run_region
def o32_33 : List AO := [oA 6 (.assign (ci (-1))) 3]
def c32_33 : AC := .region o32_33 []
theorem n32_33 : RegR Cx 32 c32_33 o32_33 := run_region
def c32_34 : AC := .ret
theorem n32_34 : RetR Cx 32 c32_34 := run_ret
def c32_32 : AC := .seq c32_33 c32_34
theorem n32_32 : SeqR Cx 32 c32_32 c32_33 c32_34 := run_seq
def c32_35 : AC := .skip
theorem n32_35 : SkipR Cx 32 c32_35 := run_skip
def c32_31 : AC := .cond (tm 68) c32_32 c32_35
theorem n32_31 : CondR Cx 32 c32_31 (tm 68) c32_32 c32_35 := run_condC
def c32_29 : AC := .seq c32_30 c32_31
theorem n32_29 : SeqR Cx 32 c32_29 c32_30 c32_31 := run_seq
def o32_37 : List AO := [oA 69 (.move (tm 1)) 3,
  oA 70 (.binOp .add 3 (tm 69) (ci 1) 3) 3,
  oA 1 (.assign (tm 70)) 3]
def c32_37 : AC := .region o32_37 []
theorem n32_37 : RegR Cx 32 c32_37 o32_37 := run_region
def o32_40 : List AO := [oA 8 (.assign (ci 0)) 3]
def c32_40 : AC := .region o32_40 []
theorem n32_40 : RegR Cx 32 c32_40 o32_40 := run_region
def o32_45 : List AO := [oA 71 (.move (tm 8)) 3,
  oA 72 (.fieldAddr 52 (tm 7) 0) 0,
  oA 73 (.load 3 (tm 72)) 3,
  oA 74 (cF 20 #[(tm 73)] #[3]) 3,
  oA 75 (.binOp .lss 3 (tm 71) (tm 74) 3) 4]
def c32_45 : AC := .region o32_45 []
theorem n32_45 : RegR Cx 32 c32_45 o32_45 := run_region
def c32_47 : AC := .skip
theorem n32_47 : SkipR Cx 32 c32_47 := run_skip
def c32_48 : AC := .exit 0
theorem n32_48 : ExitR Cx 32 c32_48 0 := run_exit_start
def c32_46 : AC := .cond (tm 75) c32_47 c32_48
theorem n32_46 : CondR Cx 32 c32_46 (tm 75) c32_47 c32_48 := run_condC
def c32_44 : AC := .seq c32_45 c32_46
theorem n32_44 : SeqR Cx 32 c32_44 c32_45 c32_46 := run_seq
def o32_52 : List AO := [oA 78 (.move (tm 0)) 22,
  oA 79 (.move (tm 1)) 3,
  oA 80 (.move (tm 2)) 3,
  oA 81 (.binOp .add 3 (tm 80) (ci 1) 3) 3,
  oA 82 (cF 32 #[(tm 78), (tm 79), (tm 81)] #[22, 3, 3]) 3,
  oA 1 (.assign (tm 82)) 3]
def c32_52 : AC := .region o32_52 []
theorem n32_52 : RegR Cx 32 c32_52 o32_52 := run_region
def o32_54 : List AO := [oA 83 (.move (tm 1)) 3,
  oA 84 (.binOp .lss 3 (tm 83) (ci 0) 3) 4]
def c32_54 : AC := .region o32_54 []
theorem n32_54 : RegR Cx 32 c32_54 o32_54 := run_region
def o32_57 : List AO := [oA 6 (.assign (ci (-1))) 3]
def c32_57 : AC := .region o32_57 []
theorem n32_57 : RegR Cx 32 c32_57 o32_57 := run_region
def c32_58 : AC := .ret
theorem n32_58 : RetR Cx 32 c32_58 := run_ret
def c32_56 : AC := .seq c32_57 c32_58
theorem n32_56 : SeqR Cx 32 c32_56 c32_57 c32_58 := run_seq
def c32_59 : AC := .skip
theorem n32_59 : SkipR Cx 32 c32_59 := run_skip
def c32_55 : AC := .cond (tm 84) c32_56 c32_59
theorem n32_55 : CondR Cx 32 c32_55 (tm 84) c32_56 c32_59 := run_condC
def c32_53 : AC := .seq c32_54 c32_55
theorem n32_53 : SeqR Cx 32 c32_53 c32_54 c32_55 := run_seq
def c32_51 : AC := .seq c32_52 c32_53
theorem n32_51 : SeqR Cx 32 c32_51 c32_52 c32_53 := run_seq
def c32_50 : AC := .block 1 c32_51
theorem n32_50 : BlkR Cx 32 c32_50 1 c32_51 := run_block
def o32_60 : List AO := [oA 76 (.move (tm 8)) 3,
  oA 77 (.binOp .add 3 (tm 76) (ci 1) 3) 3,
  oA 8 (.assign (tm 77)) 3]
def c32_60 : AC := .region o32_60 []
theorem n32_60 : RegR Cx 32 c32_60 o32_60 := run_region
def c32_49 : AC := .seq c32_50 c32_60
theorem n32_49 : SeqR Cx 32 c32_49 c32_50 c32_60 := run_seq
def c32_43 : AC := .seq c32_44 c32_49
theorem n32_43 : SeqR Cx 32 c32_43 c32_44 c32_49 := run_seq
def c32_42 : AC := .loop c32_43
theorem n32_42 : LoopR Cx 32 c32_42 c32_43 := run_loop'
def c32_41 : AC := .block 0 c32_42
theorem n32_41 : BlkR Cx 32 c32_41 0 c32_42 := run_block
def c32_39 : AC := .seq c32_40 c32_41
theorem n32_39 : SeqR Cx 32 c32_39 c32_40 c32_41 := run_seq
def o32_62 : List AO := [oA 85 (.move (tm 1)) 3,
  oA 6 (.assign (tm 85)) 3]
def c32_62 : AC := .region o32_62 []
theorem n32_62 : RegR Cx 32 c32_62 o32_62 := run_region
def c32_63 : AC := .ret
theorem n32_63 : RetR Cx 32 c32_63 := run_ret
def c32_61 : AC := .seq c32_62 c32_63
theorem n32_61 : SeqR Cx 32 c32_61 c32_62 c32_63 := run_seq
def c32_38 : AC := .seq c32_39 c32_61
theorem n32_38 : SeqR Cx 32 c32_38 c32_39 c32_61 := run_seq
def c32_36 : AC := .seq c32_37 c32_38
theorem n32_36 : SeqR Cx 32 c32_36 c32_37 c32_38 := run_seq
def c32_28 : AC := .seq c32_29 c32_36
theorem n32_28 : SeqR Cx 32 c32_28 c32_29 c32_36 := run_seq
def c32_20 : AC := .seq c32_21 c32_28
theorem n32_20 : SeqR Cx 32 c32_20 c32_21 c32_28 := run_seq
def c32_12 : AC := .seq c32_13 c32_20
theorem n32_12 : SeqR Cx 32 c32_12 c32_13 c32_20 := run_seq
def c32_10 : AC := .seq c32_11 c32_12
theorem n32_10 : SeqR Cx 32 c32_10 c32_11 c32_12 := run_seq
def c32_2 : AC := .seq c32_3 c32_10
theorem n32_2 : SeqR Cx 32 c32_2 c32_3 c32_10 := run_seq
def c32_0 : AC := .seq c32_1 c32_2
theorem n32_0 : SeqR Cx 32 c32_0 c32_1 c32_2 := run_seq
theorem body32 : bodyOf Cx 32 = some c32_0 := by kernel_rfl
theorem res32 : resOf Cx 32 = some [.tmp 6] := by kernel_rfl
theorem pure32 : Cx.pure 32 = true := by kernel_rfl
def o33_1 : List AO := [oA 1 (.box 35 (tm 0)) 0,
  oA 2 (.assign (.const (.string ⟨#[]⟩))) 9]
def c33_1 : AC := .region o33_1 []
theorem n33_1 : RegR Cx 33 c33_1 o33_1 := run_region
def o33_4 : List AO := [oA 5 (.fieldAddr 35 (tm 1) 0) 0,
  oA 6 (.load 3 (tm 5)) 3]
def c33_4 : AC := .region o33_4 []
theorem n33_4 : RegR Cx 33 c33_4 o33_4 := run_region
def o33_7 : List AO := [oA 8 (.binOp .eql 3 (tm 6) (ci 0) 3) 4,
  oA 7 (.assign (tm 8)) 4]
def c33_7 : AC := .region o33_7 []
theorem n33_7 : RegR Cx 33 c33_7 o33_7 := run_region
def o33_10 : List AO := [oA 9 (.fieldAddr 35 (tm 1) 1) 0,
  oA 10 (.load 3 (tm 9)) 3,
  oA 11 (cF 46 #[(tm 10)] #[3]) 9,
  oA 2 (.assign (tm 11)) 9]
def c33_10 : AC := .region o33_10 []
theorem n33_10 : RegR Cx 33 c33_10 o33_10 := run_region
def c33_11 : AC := .ret
theorem n33_11 : RetR Cx 33 c33_11 := run_ret
def c33_9 : AC := .seq c33_10 c33_11
theorem n33_9 : SeqR Cx 33 c33_9 c33_10 c33_11 := run_seq
def o33_13 : List AO := [oA 13 (.binOp .eql 3 (tm 6) (ci 2) 3) 4,
  oA 12 (.assign (tm 13)) 4]
def c33_13 : AC := .region o33_13 []
theorem n33_13 : RegR Cx 33 c33_13 o33_13 := run_region
def o33_16 : List AO := [oA 14 (.fieldAddr 35 (tm 1) 3) 0,
  oA 15 (.fieldAddr 33 (tm 14) 0) 0,
  oA 16 (.load 3 (tm 15)) 3,
  oA 17 (cF 46 #[(tm 16)] #[3]) 9,
  oA 18 (.binOp .add 9 (tm 17) (.const (.string ⟨#[58]⟩)) 9) 9,
  oA 19 (.fieldAddr 35 (tm 1) 3) 0,
  oA 20 (.fieldAddr 33 (tm 19) 1) 0,
  oA 21 (.load 3 (tm 20)) 3,
  oA 22 (cF 46 #[(tm 21)] #[3]) 9,
  oA 23 (.binOp .add 9 (tm 18) (tm 22) 9) 9,
  oA 2 (.assign (tm 23)) 9]
def c33_16 : AC := .region o33_16 []
theorem n33_16 : RegR Cx 33 c33_16 o33_16 := run_region
def c33_17 : AC := .ret
theorem n33_17 : RetR Cx 33 c33_17 := run_ret
def c33_15 : AC := .seq c33_16 c33_17
theorem n33_15 : SeqR Cx 33 c33_15 c33_16 c33_17 := run_seq
def c33_18 : AC := .skip
theorem n33_18 : SkipR Cx 33 c33_18 := run_skip
def c33_14 : AC := .cond (tm 12) c33_15 c33_18
theorem n33_14 : CondR Cx 33 c33_14 (tm 12) c33_15 c33_18 := run_condC
def c33_12 : AC := .seq c33_13 c33_14
theorem n33_12 : SeqR Cx 33 c33_12 c33_13 c33_14 := run_seq
def c33_8 : AC := .cond (tm 7) c33_9 c33_12
theorem n33_8 : CondR Cx 33 c33_8 (tm 7) c33_9 c33_12 := run_condC
def c33_6 : AC := .seq c33_7 c33_8
theorem n33_6 : SeqR Cx 33 c33_6 c33_7 c33_8 := run_seq
def c33_5 : AC := .block 0 c33_6
theorem n33_5 : BlkR Cx 33 c33_5 0 c33_6 := run_block
def c33_3 : AC := .seq c33_4 c33_5
theorem n33_3 : SeqR Cx 33 c33_3 c33_4 c33_5 := run_seq
def o33_20 : List AO := [oA 3 (.assign (.const (.string ⟨#[34]⟩))) 9]
def c33_20 : AC := .region o33_20 []
theorem n33_20 : RegR Cx 33 c33_20 o33_20 := run_region
def o33_23 : List AO := [oA 4 (.assign (ci 0)) 3]
def c33_23 : AC := .region o33_23 []
theorem n33_23 : RegR Cx 33 c33_23 o33_23 := run_region
def o33_28 : List AO := [oA 24 (.move (tm 4)) 3,
  oA 25 (.fieldAddr 35 (tm 1) 2) 0,
  oA 26 (.load 9 (tm 25)) 9,
  oA 27 (cB .len #[(tm 26)] #[9]) 3,
  oA 28 (.binOp .lss 3 (tm 24) (tm 27) 3) 4]
def c33_28 : AC := .region o33_28 []
theorem n33_28 : RegR Cx 33 c33_28 o33_28 := run_region
def c33_30 : AC := .skip
theorem n33_30 : SkipR Cx 33 c33_30 := run_skip
def c33_31 : AC := .exit 1
theorem n33_31 : ExitR Cx 33 c33_31 1 := run_exit_start
def c33_29 : AC := .cond (tm 28) c33_30 c33_31
theorem n33_29 : CondR Cx 33 c33_29 (tm 28) c33_30 c33_31 := run_condC
def c33_27 : AC := .seq c33_28 c33_29
theorem n33_27 : SeqR Cx 33 c33_27 c33_28 c33_29 := run_seq
def o33_35 : List AO := [oA 31 (.fieldAddr 35 (tm 1) 2) 0,
  oA 32 (.load 9 (tm 31)) 9,
  oA 33 (.move (tm 4)) 3,
  oA 34 (.index 9 (tm 32) (tm 33)) 5,
  oA 35 (cF 47 #[(tm 34)] #[5]) 4]
def c33_35 : AC := .region o33_35 []
theorem n33_35 : RegR Cx 33 c33_35 o33_35 := run_region
def o33_37 : List AO := [oA 36 (.move (tm 3)) 9,
  oA 37 (.fieldAddr 35 (tm 1) 2) 0,
  oA 38 (.load 9 (tm 37)) 9,
  oA 39 (.move (tm 4)) 3,
  oA 40 (.move (tm 4)) 3,
  oA 41 (.binOp .add 3 (tm 40) (ci 1) 3) 3,
  oA 42 (.slice 9 (tm 38) (some (tm 39)) (some (tm 41)) none) 9,
  oA 43 (.binOp .add 9 (tm 36) (tm 42) 9) 9,
  oA 3 (.assign (tm 43)) 9]
def c33_37 : AC := .region o33_37 []
theorem n33_37 : RegR Cx 33 c33_37 o33_37 := run_region
def o33_38 : List AO := [oA 44 (.move (tm 3)) 9,
  oA 45 (.binOp .add 9 (tm 44) (.const (.string ⟨#[92]⟩)) 9) 9,
  oA 46 (.fieldAddr 35 (tm 1) 2) 0,
  oA 47 (.load 9 (tm 46)) 9,
  oA 48 (.move (tm 4)) 3,
  oA 49 (.index 9 (tm 47) (tm 48)) 5,
  oA 50 (.convert 5 3 (tm 49)) 3,
  oA 51 (.binOp .quo 3 (tm 50) (ci 16) 3) 3,
  oA 52 (cF 48 #[(tm 51)] #[3]) 9,
  oA 53 (.binOp .add 9 (tm 45) (tm 52) 9) 9,
  oA 54 (.fieldAddr 35 (tm 1) 2) 0,
  oA 55 (.load 9 (tm 54)) 9,
  oA 56 (.move (tm 4)) 3,
  oA 57 (.index 9 (tm 55) (tm 56)) 5,
  oA 58 (.convert 5 3 (tm 57)) 3,
  oA 59 (.binOp .rem 3 (tm 58) (ci 16) 3) 3,
  oA 60 (cF 48 #[(tm 59)] #[3]) 9,
  oA 61 (.binOp .add 9 (tm 53) (tm 60) 9) 9,
  oA 3 (.assign (tm 61)) 9]
def c33_38 : AC := .region o33_38 []
theorem n33_38 : RegR Cx 33 c33_38 o33_38 := run_region
def c33_36 : AC := .cond (tm 35) c33_37 c33_38
theorem n33_36 : CondR Cx 33 c33_36 (tm 35) c33_37 c33_38 := run_condC
def c33_34 : AC := .seq c33_35 c33_36
theorem n33_34 : SeqR Cx 33 c33_34 c33_35 c33_36 := run_seq
def c33_33 : AC := .block 2 c33_34
theorem n33_33 : BlkR Cx 33 c33_33 2 c33_34 := run_block
def o33_39 : List AO := [oA 29 (.move (tm 4)) 3,
  oA 30 (.binOp .add 3 (tm 29) (ci 1) 3) 3,
  oA 4 (.assign (tm 30)) 3]
def c33_39 : AC := .region o33_39 []
theorem n33_39 : RegR Cx 33 c33_39 o33_39 := run_region
def c33_32 : AC := .seq c33_33 c33_39
theorem n33_32 : SeqR Cx 33 c33_32 c33_33 c33_39 := run_seq
def c33_26 : AC := .seq c33_27 c33_32
theorem n33_26 : SeqR Cx 33 c33_26 c33_27 c33_32 := run_seq
def c33_25 : AC := .loop c33_26
theorem n33_25 : LoopR Cx 33 c33_25 c33_26 := run_loop'
def c33_24 : AC := .block 1 c33_25
theorem n33_24 : BlkR Cx 33 c33_24 1 c33_25 := run_block
def c33_22 : AC := .seq c33_23 c33_24
theorem n33_22 : SeqR Cx 33 c33_22 c33_23 c33_24 := run_seq
def o33_41 : List AO := [oA 62 (.move (tm 3)) 9,
  oA 63 (.binOp .add 9 (tm 62) (.const (.string ⟨#[34]⟩)) 9) 9,
  oA 2 (.assign (tm 63)) 9]
def c33_41 : AC := .region o33_41 []
theorem n33_41 : RegR Cx 33 c33_41 o33_41 := run_region
def c33_42 : AC := .ret
theorem n33_42 : RetR Cx 33 c33_42 := run_ret
def c33_40 : AC := .seq c33_41 c33_42
theorem n33_40 : SeqR Cx 33 c33_40 c33_41 c33_42 := run_seq
def c33_21 : AC := .seq c33_22 c33_40
theorem n33_21 : SeqR Cx 33 c33_21 c33_22 c33_40 := run_seq
def c33_19 : AC := .seq c33_20 c33_21
theorem n33_19 : SeqR Cx 33 c33_19 c33_20 c33_21 := run_seq
def c33_2 : AC := .seq c33_3 c33_19
theorem n33_2 : SeqR Cx 33 c33_2 c33_3 c33_19 := run_seq
def c33_0 : AC := .seq c33_1 c33_2
theorem n33_0 : SeqR Cx 33 c33_0 c33_1 c33_2 := run_seq
theorem body33 : bodyOf Cx 33 = some c33_0 := by kernel_rfl
theorem res33 : resOf Cx 33 = some [.tmp 2] := by kernel_rfl
theorem pure33 : Cx.pure 33 = true := by kernel_rfl
def o34_1 : List AO := [oA 2 (.assign (.const (.string ⟨#[]⟩))) 9]
def c34_1 : AC := .region o34_1 []
theorem n34_1 : RegR Cx 34 c34_1 o34_1 := run_region
def o34_3 : List AO := [oA 3 (.buildSlice 73 5 #[(0, (.const (.string ⟨#[107, 101, 121]⟩))), (1, (.const (.string ⟨#[118, 97, 108]⟩))), (2, (.const (.string ⟨#[97, 99, 99]⟩))), (3, (.const (.string ⟨#[105]⟩))), (4, (.const (.string ⟨#[105, 116]⟩)))]) 73,
  oA 4 (.move (tm 0)) 3,
  oA 5 (.indexAddr 73 (tm 3) (tm 4)) 0,
  oA 6 (.load 9 (tm 5)) 9,
  oA 2 (.assign (tm 6)) 9]
def c34_3 : AC := .region o34_3 []
theorem n34_3 : RegR Cx 34 c34_3 o34_3 := run_region
def c34_4 : AC := .ret
theorem n34_4 : RetR Cx 34 c34_4 := run_ret
def c34_2 : AC := .seq c34_3 c34_4
theorem n34_2 : SeqR Cx 34 c34_2 c34_3 c34_4 := run_seq
def c34_0 : AC := .seq c34_1 c34_2
theorem n34_0 : SeqR Cx 34 c34_0 c34_1 c34_2 := run_seq
theorem body34 : bodyOf Cx 34 = some c34_0 := by kernel_rfl
theorem res34 : resOf Cx 34 = some [.tmp 2] := by kernel_rfl
theorem pure34 : Cx.pure 34 = true := by kernel_rfl
def o35_1 : List AO := [oA 1 (.box 37 (tm 0)) 0,
  oA 2 (.assign (.const (.bool false))) 4]
def c35_1 : AC := .region o35_1 []
theorem n35_1 : RegR Cx 35 c35_1 o35_1 := run_region
def o35_4 : List AO := [oA 3 (.fieldAddr 37 (tm 1) 0) 0,
  oA 4 (.load 3 (tm 3)) 3,
  oA 5 (.binOp .eql 3 (tm 4) (ci 1) 3) 4]
def c35_4 : AC := .region o35_4 []
theorem n35_4 : RegR Cx 35 c35_4 o35_4 := run_region
def o35_7 : List AO := [oA 6 (.fieldAddr 37 (tm 1) 1) 0,
  oA 7 (.fieldAddr 35 (tm 6) 0) 0,
  oA 8 (.load 3 (tm 7)) 3,
  oA 9 (.binOp .eql 3 (tm 8) (ci 0) 3) 4,
  oA 10 (.move (tm 9)) 4,
  oG 11 (.fieldAddr 37 (tm 1) 1) 0 10 true,
  oG 12 (.load 35 (tm 11)) 35 10 true,
  oG 13 (cF 49 #[(tm 12)] #[35]) 4 10 true,
  oA 14 (.pick (tm 10) (tm 13) (.const (.bool false))) 4,
  oA 15 (.move (tm 14)) 4,
  oG 16 (.fieldAddr 37 (tm 1) 1) 0 15 true,
  oG 17 (.fieldAddr 35 (tm 16) 1) 0 15 true,
  oG 18 (.load 3 (tm 17)) 3 15 true,
  oG 19 (.binOp .geq 3 (tm 18) (ci 0) 3) 4 15 true,
  oA 20 (.pick (tm 15) (tm 19) (.const (.bool false))) 4,
  oA 21 (.move (tm 20)) 4,
  oG 22 (.fieldAddr 37 (tm 1) 1) 0 21 true,
  oG 23 (.fieldAddr 35 (tm 22) 1) 0 21 true,
  oG 24 (.load 3 (tm 23)) 3 21 true,
  oG 25 (cF 38 #[] #[]) 73 21 true,
  oG 26 (cB .len #[(tm 25)] #[73]) 3 21 true,
  oG 27 (.binOp .lss 3 (tm 24) (tm 26) 3) 4 21 true,
  oA 28 (.pick (tm 21) (tm 27) (.const (.bool false))) 4,
  oA 2 (.assign (tm 28)) 4]
def c35_7 : AC := .region o35_7 []
theorem n35_7 : RegR Cx 35 c35_7 o35_7 := run_region
def c35_8 : AC := .ret
theorem n35_8 : RetR Cx 35 c35_8 := run_ret
def c35_6 : AC := .seq c35_7 c35_8
theorem n35_6 : SeqR Cx 35 c35_6 c35_7 c35_8 := run_seq
def c35_9 : AC := .skip
theorem n35_9 : SkipR Cx 35 c35_9 := run_skip
def c35_5 : AC := .cond (tm 5) c35_6 c35_9
theorem n35_5 : CondR Cx 35 c35_5 (tm 5) c35_6 c35_9 := run_condC
def c35_3 : AC := .seq c35_4 c35_5
theorem n35_3 : SeqR Cx 35 c35_3 c35_4 c35_5 := run_seq
def o35_11 : List AO := [oA 29 (.fieldAddr 37 (tm 1) 0) 0,
  oA 30 (.load 3 (tm 29)) 3,
  oA 31 (.binOp .eql 3 (tm 30) (ci 0) 3) 4,
  oA 32 (.move (tm 31)) 4,
  oG 33 (.fieldAddr 37 (tm 1) 1) 0 32 true,
  oG 34 (.load 35 (tm 33)) 35 32 true,
  oG 35 (cF 49 #[(tm 34)] #[35]) 4 32 true,
  oA 36 (.pick (tm 32) (tm 35) (.const (.bool false))) 4,
  oA 2 (.assign (tm 36)) 4]
def c35_11 : AC := .region o35_11 []
theorem n35_11 : RegR Cx 35 c35_11 o35_11 := run_region
def c35_12 : AC := .ret
theorem n35_12 : RetR Cx 35 c35_12 := run_ret
def c35_10 : AC := .seq c35_11 c35_12
theorem n35_10 : SeqR Cx 35 c35_10 c35_11 c35_12 := run_seq
def c35_2 : AC := .seq c35_3 c35_10
theorem n35_2 : SeqR Cx 35 c35_2 c35_3 c35_10 := run_seq
def c35_0 : AC := .seq c35_1 c35_2
theorem n35_0 : SeqR Cx 35 c35_0 c35_1 c35_2 := run_seq
theorem body35 : bodyOf Cx 35 = some c35_0 := by kernel_rfl
theorem res35 : resOf Cx 35 = some [.tmp 2] := by kernel_rfl
theorem pure35 : Cx.pure 35 = true := by kernel_rfl
def o36_1 : List AO := [oA 4 (.assign (ci 0)) 3,
  oA 5 (.assign (.const .nilIface)) 77]
def c36_1 : AC := .region o36_1 []
theorem n36_1 : RegR Cx 36 c36_1 o36_1 := run_region
def o36_3 : List AO := [oA 6 (.move (tm 0)) 62,
  oA 7 (cF 50 #[(tm 6)] #[62]) 0]
def c36_3 : AC := .region o36_3 []
theorem n36_3 : RegR Cx 36 c36_3 o36_3 := run_region
def o36_5 : List AO := [oA 8 (.move (tm 0)) 62,
  oA 9 (.move (tm 0)) 62,
  oA 10 (.nilCheck (tm 9)) 0,
  oA 11 (.fieldAddr 65 (tm 10) 1) 0,
  oA 12 (.load 63 (tm 11)) 63,
  oA 13 (.move (tm 1)) 9,
  oA 14 (cB .append #[(tm 12), (tm 13)] #[63, 9]) 63,
  oA 15 (.nilCheck (tm 8)) 0,
  oA 16 (.fieldAddr 65 (tm 15) 1) 0,
  oN (.store 63 (tm 16) (tm 14)) 0]
def c36_5 : AC := .region o36_5 []
theorem n36_5 : RegR Cx 36 c36_5 o36_5 := run_region
def o36_7 : List AO := [oA 17 (.move (tm 1)) 9,
  oA 18 (cB .len #[(tm 17)] #[9]) 3,
  oA 4 (.assign (tm 18)) 3,
  oA 5 (.assign (.const .nilIface)) 77]
def c36_7 : AC := .region o36_7 []
theorem n36_7 : RegR Cx 36 c36_7 o36_7 := run_region
def c36_8 : AC := .ret
theorem n36_8 : RetR Cx 36 c36_8 := run_ret
def c36_6 : AC := .seq c36_7 c36_8
theorem n36_6 : SeqR Cx 36 c36_6 c36_7 c36_8 := run_seq
def c36_4 : AC := .seq c36_5 c36_6
theorem n36_4 : SeqR Cx 36 c36_4 c36_5 c36_6 := run_seq
def c36_2 : AC := .seq c36_3 c36_4
theorem n36_2 : SeqR Cx 36 c36_2 c36_3 c36_4 := run_seq
def c36_0 : AC := .seq c36_1 c36_2
theorem n36_0 : SeqR Cx 36 c36_0 c36_1 c36_2 := run_seq
theorem body36 : bodyOf Cx 36 = some c36_0 := by kernel_rfl
theorem res36 : resOf Cx 36 = some [.tmp 4, .tmp 5] := by kernel_rfl
theorem pure36 : Cx.pure 36 = false := by kernel_rfl
def o37_1 : List AO := [oA 1 (.box 35 (tm 0)) 0,
  oA 2 (.assign (.const (.string ⟨#[]⟩))) 9]
def c37_1 : AC := .region o37_1 []
theorem n37_1 : RegR Cx 37 c37_1 o37_1 := run_region
def o37_4 : List AO := [oA 3 (.load 35 (tm 1)) 35,
  oA 4 (cF 49 #[(tm 3)] #[35]) 4,
  oA 5 (.unOp .not 4 (tm 4)) 4]
def c37_4 : AC := .region o37_4 []
theorem n37_4 : RegR Cx 37 c37_4 o37_4 := run_region
def o37_7 : List AO := [oA 2 (.assign (.const (.string ⟨#[]⟩))) 9]
def c37_7 : AC := .region o37_7 []
theorem n37_7 : RegR Cx 37 c37_7 o37_7 := run_region
def c37_8 : AC := .ret
theorem n37_8 : RetR Cx 37 c37_8 := run_ret
def c37_6 : AC := .seq c37_7 c37_8
theorem n37_6 : SeqR Cx 37 c37_6 c37_7 c37_8 := run_seq
def c37_9 : AC := .skip
theorem n37_9 : SkipR Cx 37 c37_9 := run_skip
def c37_5 : AC := .cond (tm 5) c37_6 c37_9
theorem n37_5 : CondR Cx 37 c37_5 (tm 5) c37_6 c37_9 := run_condC
def c37_3 : AC := .seq c37_4 c37_5
theorem n37_3 : SeqR Cx 37 c37_3 c37_4 c37_5 := run_seq
def o37_12 : List AO := [oA 6 (.fieldAddr 35 (tm 1) 0) 0,
  oA 7 (.load 3 (tm 6)) 3]
def c37_12 : AC := .region o37_12 []
theorem n37_12 : RegR Cx 37 c37_12 o37_12 := run_region
def o37_15 : List AO := [oA 9 (.binOp .eql 3 (tm 7) (ci 0) 3) 4,
  oA 8 (.assign (tm 9)) 4]
def c37_15 : AC := .region o37_15 []
theorem n37_15 : RegR Cx 37 c37_15 o37_15 := run_region
def o37_18 : List AO := [oA 10 (.fieldAddr 35 (tm 1) 1) 0,
  oA 11 (.load 3 (tm 10)) 3,
  oA 12 (cF 51 #[(tm 11)] #[3]) 9,
  oA 2 (.assign (tm 12)) 9]
def c37_18 : AC := .region o37_18 []
theorem n37_18 : RegR Cx 37 c37_18 o37_18 := run_region
def c37_19 : AC := .ret
theorem n37_19 : RetR Cx 37 c37_19 := run_ret
def c37_17 : AC := .seq c37_18 c37_19
theorem n37_17 : SeqR Cx 37 c37_17 c37_18 c37_19 := run_seq
def o37_21 : List AO := [oA 14 (.binOp .eql 3 (tm 7) (ci 1) 3) 4,
  oA 13 (.assign (tm 14)) 4]
def c37_21 : AC := .region o37_21 []
theorem n37_21 : RegR Cx 37 c37_21 o37_21 := run_region
def o37_24 : List AO := [oA 15 (.fieldAddr 35 (tm 1) 2) 0,
  oA 16 (.load 9 (tm 15)) 9,
  oA 17 (cF 52 #[(tm 16)] #[9]) 9,
  oA 2 (.assign (tm 17)) 9]
def c37_24 : AC := .region o37_24 []
theorem n37_24 : RegR Cx 37 c37_24 o37_24 := run_region
def c37_25 : AC := .ret
theorem n37_25 : RetR Cx 37 c37_25 := run_ret
def c37_23 : AC := .seq c37_24 c37_25
theorem n37_23 : SeqR Cx 37 c37_23 c37_24 c37_25 := run_seq
def c37_26 : AC := .skip
theorem n37_26 : SkipR Cx 37 c37_26 := run_skip
def c37_22 : AC := .cond (tm 13) c37_23 c37_26
theorem n37_22 : CondR Cx 37 c37_22 (tm 13) c37_23 c37_26 := run_condC
def c37_20 : AC := .seq c37_21 c37_22
theorem n37_20 : SeqR Cx 37 c37_20 c37_21 c37_22 := run_seq
def c37_16 : AC := .cond (tm 8) c37_17 c37_20
theorem n37_16 : CondR Cx 37 c37_16 (tm 8) c37_17 c37_20 := run_condC
def c37_14 : AC := .seq c37_15 c37_16
theorem n37_14 : SeqR Cx 37 c37_14 c37_15 c37_16 := run_seq
def c37_13 : AC := .block 0 c37_14
theorem n37_13 : BlkR Cx 37 c37_13 0 c37_14 := run_block
def c37_11 : AC := .seq c37_12 c37_13
theorem n37_11 : SeqR Cx 37 c37_11 c37_12 c37_13 := run_seq
def o37_28 : List AO := [oA 18 (.fieldAddr 35 (tm 1) 3) 0,
  oA 19 (.fieldAddr 33 (tm 18) 0) 0,
  oA 20 (.load 3 (tm 19)) 3,
  oA 21 (cF 51 #[(tm 20)] #[3]) 9,
  oA 22 (.binOp .add 9 (tm 21) (.const (.string ⟨#[58]⟩)) 9) 9,
  oA 23 (.fieldAddr 35 (tm 1) 3) 0,
  oA 24 (.fieldAddr 33 (tm 23) 1) 0,
  oA 25 (.load 3 (tm 24)) 3,
  oA 26 (cF 51 #[(tm 25)] #[3]) 9,
  oA 27 (.binOp .add 9 (tm 22) (tm 26) 9) 9,
  oA 2 (.assign (tm 27)) 9]
def c37_28 : AC := .region o37_28 []
theorem n37_28 : RegR Cx 37 c37_28 o37_28 := run_region
def c37_29 : AC := .ret
theorem n37_29 : RetR Cx 37 c37_29 := run_ret
def c37_27 : AC := .seq c37_28 c37_29
theorem n37_27 : SeqR Cx 37 c37_27 c37_28 c37_29 := run_seq
def c37_10 : AC := .seq c37_11 c37_27
theorem n37_10 : SeqR Cx 37 c37_10 c37_11 c37_27 := run_seq
def c37_2 : AC := .seq c37_3 c37_10
theorem n37_2 : SeqR Cx 37 c37_2 c37_3 c37_10 := run_seq
def c37_0 : AC := .seq c37_1 c37_2
theorem n37_0 : SeqR Cx 37 c37_0 c37_1 c37_2 := run_seq
theorem body37 : bodyOf Cx 37 = some c37_0 := by kernel_rfl
theorem res37 : resOf Cx 37 = some [.tmp 2] := by kernel_rfl
theorem pure37 : Cx.pure 37 = true := by kernel_rfl
def o38_1 : List AO := [oA 0 (.assign (.const (.slice none 0 0))) 73]
def c38_1 : AC := .region o38_1 []
theorem n38_1 : RegR Cx 38 c38_1 o38_1 := run_region
def o38_3 : List AO := [oA 1 (.buildSlice 73 5 #[(0, (.const (.string ⟨#[107, 101, 121]⟩))), (1, (.const (.string ⟨#[118, 97, 108]⟩))), (2, (.const (.string ⟨#[97, 99, 99]⟩))), (3, (.const (.string ⟨#[105]⟩))), (4, (.const (.string ⟨#[105, 116]⟩)))]) 73,
  oA 0 (.assign (tm 1)) 73]
def c38_3 : AC := .region o38_3 []
theorem n38_3 : RegR Cx 38 c38_3 o38_3 := run_region
def c38_4 : AC := .ret
theorem n38_4 : RetR Cx 38 c38_4 := run_ret
def c38_2 : AC := .seq c38_3 c38_4
theorem n38_2 : SeqR Cx 38 c38_2 c38_3 c38_4 := run_seq
def c38_0 : AC := .seq c38_1 c38_2
theorem n38_0 : SeqR Cx 38 c38_0 c38_1 c38_2 := run_seq
theorem body38 : bodyOf Cx 38 = some c38_0 := by kernel_rfl
theorem res38 : resOf Cx 38 = some [.tmp 0] := by kernel_rfl
theorem pure38 : Cx.pure 38 = true := by kernel_rfl
def o39_1 : List AO := [oA 4 (.assign (.const .nilIface)) 77]
def c39_1 : AC := .region o39_1 []
theorem n39_1 : RegR Cx 39 c39_1 o39_1 := run_region
def o39_3 : List AO := [oA 5 (.move (tm 0)) 62,
  oA 6 (cF 50 #[(tm 5)] #[62]) 0]
def c39_3 : AC := .region o39_3 []
theorem n39_3 : RegR Cx 39 c39_3 o39_3 := run_region
def o39_5 : List AO := [oA 7 (.move (tm 0)) 62,
  oA 8 (.move (tm 0)) 62,
  oA 9 (.nilCheck (tm 8)) 0,
  oA 10 (.fieldAddr 65 (tm 9) 1) 0,
  oA 11 (.load 63 (tm 10)) 63,
  oA 12 (.move (tm 1)) 5,
  oA 13 (.buildSlice 63 1 #[(0, (tm 12))]) 63,
  oA 14 (cB .append #[(tm 11), (tm 13)] #[63, 63]) 63,
  oA 15 (.nilCheck (tm 7)) 0,
  oA 16 (.fieldAddr 65 (tm 15) 1) 0,
  oN (.store 63 (tm 16) (tm 14)) 0]
def c39_5 : AC := .region o39_5 []
theorem n39_5 : RegR Cx 39 c39_5 o39_5 := run_region
def o39_7 : List AO := [oA 4 (.assign (.const .nilIface)) 77]
def c39_7 : AC := .region o39_7 []
theorem n39_7 : RegR Cx 39 c39_7 o39_7 := run_region
def c39_8 : AC := .ret
theorem n39_8 : RetR Cx 39 c39_8 := run_ret
def c39_6 : AC := .seq c39_7 c39_8
theorem n39_6 : SeqR Cx 39 c39_6 c39_7 c39_8 := run_seq
def c39_4 : AC := .seq c39_5 c39_6
theorem n39_4 : SeqR Cx 39 c39_4 c39_5 c39_6 := run_seq
def c39_2 : AC := .seq c39_3 c39_4
theorem n39_2 : SeqR Cx 39 c39_2 c39_3 c39_4 := run_seq
def c39_0 : AC := .seq c39_1 c39_2
theorem n39_0 : SeqR Cx 39 c39_0 c39_1 c39_2 := run_seq
theorem body39 : bodyOf Cx 39 = some c39_0 := by kernel_rfl
theorem res39 : resOf Cx 39 = some [.tmp 4] := by kernel_rfl
theorem pure39 : Cx.pure 39 = false := by kernel_rfl
def o40_1 : List AO := [oA 4 (.assign (ci 0)) 3]
def c40_1 : AC := .region o40_1 []
theorem n40_1 : RegR Cx 40 c40_1 o40_1 := run_region
def o40_4 : List AO := [oA 7 (.move (tm 0)) 9,
  oA 8 (.move (tm 1)) 3,
  oA 9 (.slice 9 (tm 7) (some (tm 8)) none none) 9,
  oA 10 (.range 9 (tm 9)) 0]
def c40_4 : AC := .region o40_4 []
theorem n40_4 : RegR Cx 40 c40_4 o40_4 := run_region
def o40_8 : List AO := [oA 11 (.next (tm 10) true) 0,
  oA 12 (.extract (tm 11) 0) 4]
def c40_8 : AC := .region o40_8 []
theorem n40_8 : RegR Cx 40 c40_8 o40_8 := run_region
def c40_11 : AC := .skip
theorem n40_11 : SkipR Cx 40 c40_11 := run_skip
def c40_12 : AC := .exit 0
theorem n40_12 : ExitR Cx 40 c40_12 0 := run_exit_start
def c40_10 : AC := .cond (tm 12) c40_11 c40_12
theorem n40_10 : CondR Cx 40 c40_10 (tm 12) c40_11 c40_12 := run_condC
def o40_15 : List AO := [oA 13 (.extract (tm 11) 1) 3,
  oA 14 (.extract (tm 11) 2) 21,
  oA 5 (.assign (tm 13)) 3,
  oA 6 (.assign (tm 14)) 21]
def c40_15 : AC := .region o40_15 []
theorem n40_15 : RegR Cx 40 c40_15 o40_15 := run_region
def o40_17 : List AO := [oA 15 (.move (tm 6)) 21,
  oA 16 (.binOp .lss 21 (tm 15) (.const (.int .i32 97)) 21) 4,
  oA 17 (.move (tm 16)) 4,
  oG 18 (.move (tm 6)) 21 17 false,
  oG 19 (.binOp .gtr 21 (tm 18) (.const (.int .i32 122)) 21) 4 17 false,
  oA 20 (.pick (tm 17) (.const (.bool true)) (tm 19)) 4]
def c40_17 : AC := .region o40_17 []
theorem n40_17 : RegR Cx 40 c40_17 o40_17 := run_region
def o40_20 : List AO := [oA 21 (.move (tm 1)) 3,
  oA 22 (.move (tm 5)) 3,
  oA 23 (.binOp .add 3 (tm 21) (tm 22) 3) 3,
  oA 4 (.assign (tm 23)) 3]
def c40_20 : AC := .region o40_20 []
theorem n40_20 : RegR Cx 40 c40_20 o40_20 := run_region
def c40_21 : AC := .ret
theorem n40_21 : RetR Cx 40 c40_21 := run_ret
def c40_19 : AC := .seq c40_20 c40_21
theorem n40_19 : SeqR Cx 40 c40_19 c40_20 c40_21 := run_seq
def c40_22 : AC := .skip
theorem n40_22 : SkipR Cx 40 c40_22 := run_skip
def c40_18 : AC := .cond (tm 20) c40_19 c40_22
theorem n40_18 : CondR Cx 40 c40_18 (tm 20) c40_19 c40_22 := run_condC
def c40_16 : AC := .seq c40_17 c40_18
theorem n40_16 : SeqR Cx 40 c40_16 c40_17 c40_18 := run_seq
def c40_14 : AC := .seq c40_15 c40_16
theorem n40_14 : SeqR Cx 40 c40_14 c40_15 c40_16 := run_seq
def c40_13 : AC := .block 1 c40_14
theorem n40_13 : BlkR Cx 40 c40_13 1 c40_14 := run_block
def c40_9 : AC := .seq c40_10 c40_13
theorem n40_9 : SeqR Cx 40 c40_9 c40_10 c40_13 := run_seq
def c40_7 : AC := .seq c40_8 c40_9
theorem n40_7 : SeqR Cx 40 c40_7 c40_8 c40_9 := run_seq
def c40_6 : AC := .loop c40_7
theorem n40_6 : LoopR Cx 40 c40_6 c40_7 := run_loop'
def c40_5 : AC := .block 0 c40_6
theorem n40_5 : BlkR Cx 40 c40_5 0 c40_6 := run_block
def c40_3 : AC := .seq c40_4 c40_5
theorem n40_3 : SeqR Cx 40 c40_3 c40_4 c40_5 := run_seq
def o40_24 : List AO := [oA 24 (.move (tm 0)) 9,
  oA 25 (cB .len #[(tm 24)] #[9]) 3,
  oA 4 (.assign (tm 25)) 3]
def c40_24 : AC := .region o40_24 []
theorem n40_24 : RegR Cx 40 c40_24 o40_24 := run_region
def c40_25 : AC := .ret
theorem n40_25 : RetR Cx 40 c40_25 := run_ret
def c40_23 : AC := .seq c40_24 c40_25
theorem n40_23 : SeqR Cx 40 c40_23 c40_24 c40_25 := run_seq
def c40_2 : AC := .seq c40_3 c40_23
theorem n40_2 : SeqR Cx 40 c40_2 c40_3 c40_23 := run_seq
def c40_0 : AC := .seq c40_1 c40_2
theorem n40_0 : SeqR Cx 40 c40_0 c40_1 c40_2 := run_seq
theorem body40 : bodyOf Cx 40 = some c40_0 := by kernel_rfl
theorem res40 : resOf Cx 40 = some [.tmp 4] := by kernel_rfl
theorem pure40 : Cx.pure 40 = true := by kernel_rfl
def o41_1 : List AO := [oA 4 (.assign (ci 0)) 3]
def c41_1 : AC := .region o41_1 []
theorem n41_1 : RegR Cx 41 c41_1 o41_1 := run_region
def o41_4 : List AO := [oA 6 (.move (tm 0)) 60,
  oA 7 (cB .len #[(tm 6)] #[60]) 3,
  oA 8 (.move (ci 0)) 3]
def c41_4 : AC := .region o41_4 []
theorem n41_4 : RegR Cx 41 c41_4 o41_4 := run_region
def o41_8 : List AO := [oA 9 (.binOp .lss 3 (tm 8) (tm 7) 3) 0]
def c41_8 : AC := .region o41_8 []
theorem n41_8 : RegR Cx 41 c41_8 o41_8 := run_region
def c41_11 : AC := .skip
theorem n41_11 : SkipR Cx 41 c41_11 := run_skip
def c41_12 : AC := .exit 0
theorem n41_12 : ExitR Cx 41 c41_12 0 := run_exit_start
def c41_10 : AC := .cond (tm 9) c41_11 c41_12
theorem n41_10 : CondR Cx 41 c41_10 (tm 9) c41_11 c41_12 := run_condC
def o41_16 : List AO := [oA 10 (.move (tm 8)) 3,
  oA 5 (.assign (tm 10)) 3]
def c41_16 : AC := .region o41_16 []
theorem n41_16 : RegR Cx 41 c41_16 o41_16 := run_region
def o41_18 : List AO := [oA 11 (.move (tm 1)) 84,
  oA 12 (.move (tm 0)) 60,
  oA 13 (.move (tm 5)) 3,
  oA 14 (.indexAddr 60 (tm 12) (tm 13)) 0,
  oA 15 (.load 59 (tm 14)) 59,
  oA 16 (cV 11 #[(tm 15)] #[59]) 4]
def c41_18 : AC := .region o41_18 []
theorem n41_18 : RegR Cx 41 c41_18 o41_18 := run_region
def o41_21 : List AO := [oA 17 (.move (tm 5)) 3,
  oA 4 (.assign (tm 17)) 3]
def c41_21 : AC := .region o41_21 []
theorem n41_21 : RegR Cx 41 c41_21 o41_21 := run_region
def c41_22 : AC := .ret
theorem n41_22 : RetR Cx 41 c41_22 := run_ret
def c41_20 : AC := .seq c41_21 c41_22
theorem n41_20 : SeqR Cx 41 c41_20 c41_21 c41_22 := run_seq
def c41_23 : AC := .skip
theorem n41_23 : SkipR Cx 41 c41_23 := run_skip
def c41_19 : AC := .cond (tm 16) c41_20 c41_23
theorem n41_19 : CondR Cx 41 c41_19 (tm 16) c41_20 c41_23 := run_condC
def c41_17 : AC := .seq c41_18 c41_19
theorem n41_17 : SeqR Cx 41 c41_17 c41_18 c41_19 := run_seq
def c41_15 : AC := .seq c41_16 c41_17
theorem n41_15 : SeqR Cx 41 c41_15 c41_16 c41_17 := run_seq
def c41_14 : AC := .block 1 c41_15
theorem n41_14 : BlkR Cx 41 c41_14 1 c41_15 := run_block
def o41_24 : List AO := [oA 18 (.binOp .add 3 (tm 8) (ci 1) 3) 3,
  oA 8 (.move (tm 18)) 3]
def c41_24 : AC := .region o41_24 []
theorem n41_24 : RegR Cx 41 c41_24 o41_24 := run_region
def c41_13 : AC := .seq c41_14 c41_24
theorem n41_13 : SeqR Cx 41 c41_13 c41_14 c41_24 := run_seq
def c41_9 : AC := .seq c41_10 c41_13
theorem n41_9 : SeqR Cx 41 c41_9 c41_10 c41_13 := run_seq
def c41_7 : AC := .seq c41_8 c41_9
theorem n41_7 : SeqR Cx 41 c41_7 c41_8 c41_9 := run_seq
def c41_6 : AC := .loop c41_7
theorem n41_6 : LoopR Cx 41 c41_6 c41_7 := run_loop'
def c41_5 : AC := .block 0 c41_6
theorem n41_5 : BlkR Cx 41 c41_5 0 c41_6 := run_block
def c41_3 : AC := .seq c41_4 c41_5
theorem n41_3 : SeqR Cx 41 c41_3 c41_4 c41_5 := run_seq
def o41_26 : List AO := [oA 4 (.assign (ci (-1))) 3]
def c41_26 : AC := .region o41_26 []
theorem n41_26 : RegR Cx 41 c41_26 o41_26 := run_region
def c41_27 : AC := .ret
theorem n41_27 : RetR Cx 41 c41_27 := run_ret
def c41_25 : AC := .seq c41_26 c41_27
theorem n41_25 : SeqR Cx 41 c41_25 c41_26 c41_27 := run_seq
def c41_2 : AC := .seq c41_3 c41_25
theorem n41_2 : SeqR Cx 41 c41_2 c41_3 c41_25 := run_seq
def c41_0 : AC := .seq c41_1 c41_2
theorem n41_0 : SeqR Cx 41 c41_0 c41_1 c41_2 := run_seq
theorem body41 : bodyOf Cx 41 = some c41_0 := by kernel_rfl
theorem res41 : resOf Cx 41 = some [.tmp 4] := by kernel_rfl
theorem pure41 : Cx.pure 41 = false := by kernel_rfl
def o42_1 : List AO := [oA 4 (.box 59 (tm 0)) 0,
  oA 5 (.assign (.const (.bool false))) 4]
def c42_1 : AC := .region o42_1 []
theorem n42_1 : RegR Cx 42 c42_1 o42_1 := run_region
def o42_3 : List AO := [oA 6 (.fieldAddr 59 (tm 4) 0) 0,
  oA 7 (.load 9 (tm 6)) 9,
  oA 8 (.load 9 (tm 1)) 9,
  oA 9 (.load 3 (tm 2)) 3,
  oA 10 (.load 3 (tm 3)) 3,
  oA 11 (.slice 9 (tm 8) (some (tm 9)) (some (tm 10)) none) 9,
  oA 12 (.binOp .eql 9 (tm 7) (tm 11) 9) 4,
  oA 5 (.assign (tm 12)) 4]
def c42_3 : AC := .region o42_3 []
theorem n42_3 : RegR Cx 42 c42_3 o42_3 := run_region
def c42_4 : AC := .ret
theorem n42_4 : RetR Cx 42 c42_4 := run_ret
def c42_2 : AC := .seq c42_3 c42_4
theorem n42_2 : SeqR Cx 42 c42_2 c42_3 c42_4 := run_seq
def c42_0 : AC := .seq c42_1 c42_2
theorem n42_0 : SeqR Cx 42 c42_0 c42_1 c42_2 := run_seq
theorem body42 : bodyOf Cx 42 = some c42_0 := by kernel_rfl
theorem res42 : resOf Cx 42 = some [.tmp 5] := by kernel_rfl
theorem pure42 : Cx.pure 42 = false := by kernel_rfl
def o43_1 : List AO := [oA 4 (.assign (ci 0)) 3]
def c43_1 : AC := .region o43_1 []
theorem n43_1 : RegR Cx 43 c43_1 o43_1 := run_region
def o43_4 : List AO := [oA 6 (.move (tm 0)) 73,
  oA 7 (cB .len #[(tm 6)] #[73]) 3,
  oA 8 (.move (ci 0)) 3]
def c43_4 : AC := .region o43_4 []
theorem n43_4 : RegR Cx 43 c43_4 o43_4 := run_region
def o43_8 : List AO := [oA 9 (.binOp .lss 3 (tm 8) (tm 7) 3) 0]
def c43_8 : AC := .region o43_8 []
theorem n43_8 : RegR Cx 43 c43_8 o43_8 := run_region
def c43_11 : AC := .skip
theorem n43_11 : SkipR Cx 43 c43_11 := run_skip
def c43_12 : AC := .exit 0
theorem n43_12 : ExitR Cx 43 c43_12 0 := run_exit_start
def c43_10 : AC := .cond (tm 9) c43_11 c43_12
theorem n43_10 : CondR Cx 43 c43_10 (tm 9) c43_11 c43_12 := run_condC
def o43_16 : List AO := [oA 10 (.move (tm 8)) 3,
  oA 5 (.assign (tm 10)) 3]
def c43_16 : AC := .region o43_16 []
theorem n43_16 : RegR Cx 43 c43_16 o43_16 := run_region
def o43_18 : List AO := [oA 11 (.move (tm 1)) 9,
  oA 12 (.move (tm 0)) 73,
  oA 13 (.move (tm 5)) 3,
  oA 14 (.indexAddr 73 (tm 12) (tm 13)) 0,
  oA 15 (.load 9 (tm 14)) 9,
  oA 16 (.binOp .eql 9 (tm 11) (tm 15) 9) 4]
def c43_18 : AC := .region o43_18 []
theorem n43_18 : RegR Cx 43 c43_18 o43_18 := run_region
def o43_21 : List AO := [oA 17 (.move (tm 5)) 3,
  oA 4 (.assign (tm 17)) 3]
def c43_21 : AC := .region o43_21 []
theorem n43_21 : RegR Cx 43 c43_21 o43_21 := run_region
def c43_22 : AC := .ret
theorem n43_22 : RetR Cx 43 c43_22 := run_ret
def c43_20 : AC := .seq c43_21 c43_22
theorem n43_20 : SeqR Cx 43 c43_20 c43_21 c43_22 := run_seq
def c43_23 : AC := .skip
theorem n43_23 : SkipR Cx 43 c43_23 := run_skip
def c43_19 : AC := .cond (tm 16) c43_20 c43_23
theorem n43_19 : CondR Cx 43 c43_19 (tm 16) c43_20 c43_23 := run_condC
def c43_17 : AC := .seq c43_18 c43_19
theorem n43_17 : SeqR Cx 43 c43_17 c43_18 c43_19 := run_seq
def c43_15 : AC := .seq c43_16 c43_17
theorem n43_15 : SeqR Cx 43 c43_15 c43_16 c43_17 := run_seq
def c43_14 : AC := .block 1 c43_15
theorem n43_14 : BlkR Cx 43 c43_14 1 c43_15 := run_block
def o43_24 : List AO := [oA 18 (.binOp .add 3 (tm 8) (ci 1) 3) 3,
  oA 8 (.move (tm 18)) 3]
def c43_24 : AC := .region o43_24 []
theorem n43_24 : RegR Cx 43 c43_24 o43_24 := run_region
def c43_13 : AC := .seq c43_14 c43_24
theorem n43_13 : SeqR Cx 43 c43_13 c43_14 c43_24 := run_seq
def c43_9 : AC := .seq c43_10 c43_13
theorem n43_9 : SeqR Cx 43 c43_9 c43_10 c43_13 := run_seq
def c43_7 : AC := .seq c43_8 c43_9
theorem n43_7 : SeqR Cx 43 c43_7 c43_8 c43_9 := run_seq
def c43_6 : AC := .loop c43_7
theorem n43_6 : LoopR Cx 43 c43_6 c43_7 := run_loop'
def c43_5 : AC := .block 0 c43_6
theorem n43_5 : BlkR Cx 43 c43_5 0 c43_6 := run_block
def c43_3 : AC := .seq c43_4 c43_5
theorem n43_3 : SeqR Cx 43 c43_3 c43_4 c43_5 := run_seq
def o43_26 : List AO := [oA 4 (.assign (ci (-1))) 3]
def c43_26 : AC := .region o43_26 []
theorem n43_26 : RegR Cx 43 c43_26 o43_26 := run_region
def c43_27 : AC := .ret
theorem n43_27 : RetR Cx 43 c43_27 := run_ret
def c43_25 : AC := .seq c43_26 c43_27
theorem n43_25 : SeqR Cx 43 c43_25 c43_26 c43_27 := run_seq
def c43_2 : AC := .seq c43_3 c43_25
theorem n43_2 : SeqR Cx 43 c43_2 c43_3 c43_25 := run_seq
def c43_0 : AC := .seq c43_1 c43_2
theorem n43_0 : SeqR Cx 43 c43_0 c43_1 c43_2 := run_seq
theorem body43 : bodyOf Cx 43 = some c43_0 := by kernel_rfl
theorem res43 : resOf Cx 43 = some [.tmp 4] := by kernel_rfl
theorem pure43 : Cx.pure 43 = true := by kernel_rfl
def o44_1 : List AO := [oA 2 (.alloc 35) 0,
  oA 3 (.assign (ci 0)) 3,
  oA 4 (.assign (ci 0)) 39]
def c44_1 : AC := .region o44_1 []
theorem n44_1 : RegR Cx 44 c44_1 o44_1 := run_region
def o44_5 : List AO := [oA 6 (.move (tm 0)) 9,
  oA 7 (.binOp .neq 9 (tm 6) (.const (.string ⟨#[]⟩)) 9) 4,
  oA 8 (.move (tm 7)) 4,
  oG 9 (.move (tm 0)) 9 8 true,
  oG 10 (.index 9 (tm 9) (ci 0)) 5 8 true,
  oG 11 (.binOp .eql 5 (tm 10) (.const (.int .u8 34)) 5) 4 8 true,
  oA 12 (.pick (tm 8) (tm 11) (.const (.bool false))) 4,
  oA 5 (.assign (tm 12)) 4]
def c44_5 : AC := .region o44_5 []
theorem n44_5 : RegR Cx 44 c44_5 o44_5 := run_region
def o44_8 : List AO := [oA 13 (.move (tm 0)) 9,
  oA 14 (cF 53 #[(tm 13)] #[9]) 86,
  oA 15 (.extract (tm 14) 0) 35,
  oA 16 (.extract (tm 14) 1) 3,
  oA 17 (.extract (tm 14) 2) 39,
  oN (.store 35 (tm 2) (tm 15)) 0,
  oA 3 (.assign (tm 16)) 3,
  oA 4 (.assign (tm 17)) 39]
def c44_8 : AC := .region o44_8 []
theorem n44_8 : RegR Cx 44 c44_8 o44_8 := run_region
def c44_9 : AC := .ret
theorem n44_9 : RetR Cx 44 c44_9 := run_ret
def c44_7 : AC := .seq c44_8 c44_9
theorem n44_7 : SeqR Cx 44 c44_7 c44_8 c44_9 := run_seq
def o44_11 : List AO := [oA 19 (.move (tm 0)) 9,
  oA 20 (.binOp .neq 9 (tm 19) (.const (.string ⟨#[]⟩)) 9) 4,
  oA 21 (.move (tm 20)) 4,
  oG 22 (.move (tm 0)) 9 21 true,
  oG 23 (.index 9 (tm 22) (ci 0)) 5 21 true,
  oG 24 (.binOp .eql 5 (tm 23) (.const (.int .u8 45)) 5) 4 21 true,
  oG 25 (.move (tm 24)) 4 21 true,
  oG 26 (.move (tm 0)) 9 25 false,
  oG 27 (.index 9 (tm 26) (ci 0)) 5 25 false,
  oG 28 (cF 54 #[(tm 27)] #[5]) 4 25 false,
  oG 29 (.pick (tm 25) (.const (.bool true)) (tm 28)) 4 21 true,
  oA 30 (.pick (tm 21) (tm 29) (.const (.bool false))) 4,
  oA 18 (.assign (tm 30)) 4]
def c44_11 : AC := .region o44_11 []
theorem n44_11 : RegR Cx 44 c44_11 o44_11 := run_region
def o44_14 : List AO := [oA 31 (.move (tm 0)) 9,
  oA 32 (cF 55 #[(tm 31)] #[9]) 86,
  oA 33 (.extract (tm 32) 0) 35,
  oA 34 (.extract (tm 32) 1) 3,
  oA 35 (.extract (tm 32) 2) 39,
  oN (.store 35 (tm 2) (tm 33)) 0,
  oA 3 (.assign (tm 34)) 3,
  oA 4 (.assign (tm 35)) 39]
def c44_14 : AC := .region o44_14 []
theorem n44_14 : RegR Cx 44 c44_14 o44_14 := run_region
def c44_15 : AC := .ret
theorem n44_15 : RetR Cx 44 c44_15 := run_ret
def c44_13 : AC := .seq c44_14 c44_15
theorem n44_13 : SeqR Cx 44 c44_13 c44_14 c44_15 := run_seq
def c44_16 : AC := .skip
theorem n44_16 : SkipR Cx 44 c44_16 := run_skip
def c44_12 : AC := .cond (tm 18) c44_13 c44_16
theorem n44_12 : CondR Cx 44 c44_12 (tm 18) c44_13 c44_16 := run_condC
def c44_10 : AC := .seq c44_11 c44_12
theorem n44_10 : SeqR Cx 44 c44_10 c44_11 c44_12 := run_seq
def c44_6 : AC := .cond (tm 5) c44_7 c44_10
theorem n44_6 : CondR Cx 44 c44_6 (tm 5) c44_7 c44_10 := run_condC
def c44_4 : AC := .seq c44_5 c44_6
theorem n44_4 : SeqR Cx 44 c44_4 c44_5 c44_6 := run_seq
def c44_3 : AC := .block 0 c44_4
theorem n44_3 : BlkR Cx 44 c44_3 0 c44_4 := run_block
def o44_18 : List AO := [oA 36 (.build 35 #[]) 35,
  oN (.store 35 (tm 2) (tm 36)) 0,
  oA 3 (.assign (ci 0)) 3,
  oA 4 (.assign (ci 10)) 39]
def c44_18 : AC := .region o44_18 []
theorem n44_18 : RegR Cx 44 c44_18 o44_18 := run_region
def c44_19 : AC := .ret
theorem n44_19 : RetR Cx 44 c44_19 := run_ret
def c44_17 : AC := .seq c44_18 c44_19
theorem n44_17 : SeqR Cx 44 c44_17 c44_18 c44_19 := run_seq
def c44_2 : AC := .seq c44_3 c44_17
theorem n44_2 : SeqR Cx 44 c44_2 c44_3 c44_17 := run_seq
def c44_0 : AC := .seq c44_1 c44_2
theorem n44_0 : SeqR Cx 44 c44_0 c44_1 c44_2 := run_seq
theorem body44 : bodyOf Cx 44 = some c44_0 := by kernel_rfl
theorem res44 : resOf Cx 44 = some [.cell 2 35, .tmp 3, .tmp 4] := by kernel_rfl
theorem pure44 : Cx.pure 44 = true := by kernel_rfl
def o45_1 : List AO := [oA 1 (.box 35 (tm 0)) 0,
  oA 2 (.assign (.const (.bool false))) 4]
def c45_1 : AC := .region o45_1 []
theorem n45_1 : RegR Cx 45 c45_1 o45_1 := run_region
def o45_4 : List AO := [oA 3 (.fieldAddr 35 (tm 1) 0) 0,
  oA 4 (.load 3 (tm 3)) 3]
def c45_4 : AC := .region o45_4 []
theorem n45_4 : RegR Cx 45 c45_4 o45_4 := run_region
def o45_7 : List AO := [oA 6 (.binOp .eql 3 (tm 4) (ci 0) 3) 4,
  oA 5 (.assign (tm 6)) 4]
def c45_7 : AC := .region o45_7 []
theorem n45_7 : RegR Cx 45 c45_7 o45_7 := run_region
def o45_10 : List AO := [oA 7 (.fieldAddr 35 (tm 1) 1) 0,
  oA 8 (.load 3 (tm 7)) 3,
  oA 9 (.binOp .geq 3 (tm 8) (ci (-9007199254740992)) 3) 4,
  oA 10 (.move (tm 9)) 4,
  oG 11 (.fieldAddr 35 (tm 1) 1) 0 10 true,
  oG 12 (.load 3 (tm 11)) 3 10 true,
  oG 13 (.binOp .leq 3 (tm 12) (ci 9007199254740992) 3) 4 10 true,
  oA 14 (.pick (tm 10) (tm 13) (.const (.bool false))) 4,
  oA 15 (.move (tm 14)) 4,
  oG 16 (.fieldAddr 35 (tm 1) 2) 0 15 true,
  oG 17 (.load 9 (tm 16)) 9 15 true,
  oG 18 (.binOp .eql 9 (tm 17) (.const (.string ⟨#[]⟩)) 9) 4 15 true,
  oA 19 (.pick (tm 15) (tm 18) (.const (.bool false))) 4,
  oA 20 (.move (tm 19)) 4,
  oG 21 (.fieldAddr 35 (tm 1) 3) 0 20 true,
  oG 22 (.load 33 (tm 21)) 33 20 true,
  oG 23 (.build 33 #[]) 33 20 true,
  oG 24 (.binOp .eql 33 (tm 22) (tm 23) 33) 4 20 true,
  oA 25 (.pick (tm 20) (tm 24) (.const (.bool false))) 4,
  oA 2 (.assign (tm 25)) 4]
def c45_10 : AC := .region o45_10 []
theorem n45_10 : RegR Cx 45 c45_10 o45_10 := run_region
def c45_11 : AC := .ret
theorem n45_11 : RetR Cx 45 c45_11 := run_ret
def c45_9 : AC := .seq c45_10 c45_11
theorem n45_9 : SeqR Cx 45 c45_9 c45_10 c45_11 := run_seq
def o45_13 : List AO := [oA 27 (.binOp .eql 3 (tm 4) (ci 1) 3) 4,
  oA 26 (.assign (tm 27)) 4]
def c45_13 : AC := .region o45_13 []
theorem n45_13 : RegR Cx 45 c45_13 o45_13 := run_region
def o45_16 : List AO := [oA 28 (.fieldAddr 35 (tm 1) 2) 0,
  oA 29 (.load 9 (tm 28)) 9,
  oA 30 (cB .len #[(tm 29)] #[9]) 3,
  oA 31 (.binOp .leq 3 (tm 30) (ci 4096) 3) 4,
  oA 32 (.move (tm 31)) 4,
  oG 33 (.fieldAddr 35 (tm 1) 1) 0 32 true,
  oG 34 (.load 3 (tm 33)) 3 32 true,
  oG 35 (.binOp .eql 3 (tm 34) (ci 0) 3) 4 32 true,
  oA 36 (.pick (tm 32) (tm 35) (.const (.bool false))) 4,
  oA 37 (.move (tm 36)) 4,
  oG 38 (.fieldAddr 35 (tm 1) 3) 0 37 true,
  oG 39 (.load 33 (tm 38)) 33 37 true,
  oG 40 (.build 33 #[]) 33 37 true,
  oG 41 (.binOp .eql 33 (tm 39) (tm 40) 33) 4 37 true,
  oA 42 (.pick (tm 37) (tm 41) (.const (.bool false))) 4,
  oA 2 (.assign (tm 42)) 4]
def c45_16 : AC := .region o45_16 []
theorem n45_16 : RegR Cx 45 c45_16 o45_16 := run_region
def c45_17 : AC := .ret
theorem n45_17 : RetR Cx 45 c45_17 := run_ret
def c45_15 : AC := .seq c45_16 c45_17
theorem n45_15 : SeqR Cx 45 c45_15 c45_16 c45_17 := run_seq
def o45_19 : List AO := [oA 44 (.binOp .eql 3 (tm 4) (ci 2) 3) 4,
  oA 43 (.assign (tm 44)) 4]
def c45_19 : AC := .region o45_19 []
theorem n45_19 : RegR Cx 45 c45_19 o45_19 := run_region
def o45_22 : List AO := [oA 45 (.fieldAddr 35 (tm 1) 3) 0,
  oA 46 (.load 33 (tm 45)) 33,
  oA 47 (cF 56 #[(tm 46)] #[33]) 4,
  oA 48 (.move (tm 47)) 4,
  oG 49 (.fieldAddr 35 (tm 1) 1) 0 48 true,
  oG 50 (.load 3 (tm 49)) 3 48 true,
  oG 51 (.binOp .eql 3 (tm 50) (ci 0) 3) 4 48 true,
  oA 52 (.pick (tm 48) (tm 51) (.const (.bool false))) 4,
  oA 53 (.move (tm 52)) 4,
  oG 54 (.fieldAddr 35 (tm 1) 2) 0 53 true,
  oG 55 (.load 9 (tm 54)) 9 53 true,
  oG 56 (.binOp .eql 9 (tm 55) (.const (.string ⟨#[]⟩)) 9) 4 53 true,
  oA 57 (.pick (tm 53) (tm 56) (.const (.bool false))) 4,
  oA 2 (.assign (tm 57)) 4]
def c45_22 : AC := .region o45_22 []
theorem n45_22 : RegR Cx 45 c45_22 o45_22 := run_region
def c45_23 : AC := .ret
theorem n45_23 : RetR Cx 45 c45_23 := run_ret
def c45_21 : AC := .seq c45_22 c45_23
theorem n45_21 : SeqR Cx 45 c45_21 c45_22 c45_23 := run_seq
def c45_24 : AC := .skip
theorem n45_24 : SkipR Cx 45 c45_24 := run_skip
def c45_20 : AC := .cond (tm 43) c45_21 c45_24
theorem n45_20 : CondR Cx 45 c45_20 (tm 43) c45_21 c45_24 := run_condC
def c45_18 : AC := .seq c45_19 c45_20
theorem n45_18 : SeqR Cx 45 c45_18 c45_19 c45_20 := run_seq
def c45_14 : AC := .cond (tm 26) c45_15 c45_18
theorem n45_14 : CondR Cx 45 c45_14 (tm 26) c45_15 c45_18 := run_condC
def c45_12 : AC := .seq c45_13 c45_14
theorem n45_12 : SeqR Cx 45 c45_12 c45_13 c45_14 := run_seq
def c45_8 : AC := .cond (tm 5) c45_9 c45_12
theorem n45_8 : CondR Cx 45 c45_8 (tm 5) c45_9 c45_12 := run_condC
def c45_6 : AC := .seq c45_7 c45_8
theorem n45_6 : SeqR Cx 45 c45_6 c45_7 c45_8 := run_seq
def c45_5 : AC := .block 0 c45_6
theorem n45_5 : BlkR Cx 45 c45_5 0 c45_6 := run_block
def c45_3 : AC := .seq c45_4 c45_5
theorem n45_3 : SeqR Cx 45 c45_3 c45_4 c45_5 := run_seq
def o45_26 : List AO := [oA 2 (.assign (.const (.bool false))) 4]
def c45_26 : AC := .region o45_26 []
theorem n45_26 : RegR Cx 45 c45_26 o45_26 := run_region
def c45_27 : AC := .ret
theorem n45_27 : RetR Cx 45 c45_27 := run_ret
def c45_25 : AC := .seq c45_26 c45_27
theorem n45_25 : SeqR Cx 45 c45_25 c45_26 c45_27 := run_seq
def c45_2 : AC := .seq c45_3 c45_25
theorem n45_2 : SeqR Cx 45 c45_2 c45_3 c45_25 := run_seq
def c45_0 : AC := .seq c45_1 c45_2
theorem n45_0 : SeqR Cx 45 c45_0 c45_1 c45_2 := run_seq
theorem body45 : bodyOf Cx 45 = some c45_0 := by kernel_rfl
theorem res45 : resOf Cx 45 = some [.tmp 2] := by kernel_rfl
theorem pure45 : Cx.pure 45 = true := by kernel_rfl
def o46_1 : List AO := [oA 2 (.assign (.const (.string ⟨#[]⟩))) 9]
def c46_1 : AC := .region o46_1 []
theorem n46_1 : RegR Cx 46 c46_1 o46_1 := run_region
def o46_4 : List AO := [oA 3 (.move (tm 0)) 3,
  oA 4 (.binOp .lss 3 (tm 3) (ci 0) 3) 4]
def c46_4 : AC := .region o46_4 []
theorem n46_4 : RegR Cx 46 c46_4 o46_4 := run_region
def o46_7 : List AO := [oA 5 (.move (tm 0)) 3,
  oA 6 (.unOp .neg 3 (tm 5)) 3,
  oA 7 (cF 46 #[(tm 6)] #[3]) 9,
  oA 8 (.binOp .add 9 (.const (.string ⟨#[45]⟩)) (tm 7) 9) 9,
  oA 2 (.assign (tm 8)) 9]
def c46_7 : AC := .region o46_7 []
theorem n46_7 : RegR Cx 46 c46_7 o46_7 := run_region
def c46_8 : AC := .ret
theorem n46_8 : RetR Cx 46 c46_8 := run_ret
def c46_6 : AC := .seq c46_7 c46_8
theorem n46_6 : SeqR Cx 46 c46_6 c46_7 c46_8 := run_seq
def c46_9 : AC := .skip
theorem n46_9 : SkipR Cx 46 c46_9 := run_skip
def c46_5 : AC := .cond (tm 4) c46_6 c46_9
theorem n46_5 : CondR Cx 46 c46_5 (tm 4) c46_6 c46_9 := run_condC
def c46_3 : AC := .seq c46_4 c46_5
theorem n46_3 : SeqR Cx 46 c46_3 c46_4 c46_5 := run_seq
def o46_12 : List AO := [oA 9 (.move (tm 0)) 3,
  oA 10 (.binOp .lss 3 (tm 9) (ci 10) 3) 4]
def c46_12 : AC := .region o46_12 []
theorem n46_12 : RegR Cx 46 c46_12 o46_12 := run_region
def o46_15 : List AO := [oA 11 (.move (tm 0)) 3,
  oA 12 (.binOp .add 3 (ci 48) (tm 11) 3) 3,
  oA 13 (.convert 3 5 (tm 12)) 5,
  oA 14 (.buildSlice 63 1 #[(0, (tm 13))]) 63,
  oA 15 (.convert 63 9 (tm 14)) 9,
  oA 2 (.assign (tm 15)) 9]
def c46_15 : AC := .region o46_15 []
theorem n46_15 : RegR Cx 46 c46_15 o46_15 := run_region
def c46_16 : AC := .ret
theorem n46_16 : RetR Cx 46 c46_16 := run_ret
def c46_14 : AC := .seq c46_15 c46_16
theorem n46_14 : SeqR Cx 46 c46_14 c46_15 c46_16 := run_seq
def c46_17 : AC := .skip
theorem n46_17 : SkipR Cx 46 c46_17 := run_skip
def c46_13 : AC := .cond (tm 10) c46_14 c46_17
theorem n46_13 : CondR Cx 46 c46_13 (tm 10) c46_14 c46_17 := run_condC
def c46_11 : AC := .seq c46_12 c46_13
theorem n46_11 : SeqR Cx 46 c46_11 c46_12 c46_13 := run_seq
def o46_19 : List AO := [oA 16 (.move (tm 0)) 3,
  oA 17 (.binOp .quo 3 (tm 16) (ci 10) 3) 3,
  oA 18 (cF 46 #[(tm 17)] #[3]) 9,
  oA 19 (.move (tm 0)) 3,
  oA 20 (.binOp .rem 3 (tm 19) (ci 10) 3) 3,
  oA 21 (cF 46 #[(tm 20)] #[3]) 9,
  oA 22 (.binOp .add 9 (tm 18) (tm 21) 9) 9,
  oA 2 (.assign (tm 22)) 9]
def c46_19 : AC := .region o46_19 []
theorem n46_19 : RegR Cx 46 c46_19 o46_19 := run_region
def c46_20 : AC := .ret
theorem n46_20 : RetR Cx 46 c46_20 := run_ret
def c46_18 : AC := .seq c46_19 c46_20
theorem n46_18 : SeqR Cx 46 c46_18 c46_19 c46_20 := run_seq
def c46_10 : AC := .seq c46_11 c46_18
theorem n46_10 : SeqR Cx 46 c46_10 c46_11 c46_18 := run_seq
def c46_2 : AC := .seq c46_3 c46_10
theorem n46_2 : SeqR Cx 46 c46_2 c46_3 c46_10 := run_seq
def c46_0 : AC := .seq c46_1 c46_2
theorem n46_0 : SeqR Cx 46 c46_0 c46_1 c46_2 := run_seq
theorem body46 : bodyOf Cx 46 = some c46_0 := by kernel_rfl
theorem res46 : resOf Cx 46 = some [.tmp 2] := by kernel_rfl
theorem pure46 : Cx.pure 46 = true := by kernel_rfl
def o47_1 : List AO := [oA 2 (.assign (.const (.bool false))) 4]
def c47_1 : AC := .region o47_1 []
theorem n47_1 : RegR Cx 47 c47_1 o47_1 := run_region
def o47_3 : List AO := [oA 3 (.move (tm 0)) 5,
  oA 4 (.binOp .geq 5 (tm 3) (.const (.int .u8 32)) 5) 4,
  oA 5 (.move (tm 4)) 4,
  oG 6 (.move (tm 0)) 5 5 true,
  oG 7 (.binOp .leq 5 (tm 6) (.const (.int .u8 126)) 5) 4 5 true,
  oA 8 (.pick (tm 5) (tm 7) (.const (.bool false))) 4,
  oA 9 (.move (tm 8)) 4,
  oG 10 (.move (tm 0)) 5 9 true,
  oG 11 (.binOp .neq 5 (tm 10) (.const (.int .u8 34)) 5) 4 9 true,
  oA 12 (.pick (tm 9) (tm 11) (.const (.bool false))) 4,
  oA 13 (.move (tm 12)) 4,
  oG 14 (.move (tm 0)) 5 13 true,
  oG 15 (.binOp .neq 5 (tm 14) (.const (.int .u8 92)) 5) 4 13 true,
  oA 16 (.pick (tm 13) (tm 15) (.const (.bool false))) 4,
  oA 2 (.assign (tm 16)) 4]
def c47_3 : AC := .region o47_3 []
theorem n47_3 : RegR Cx 47 c47_3 o47_3 := run_region
def c47_4 : AC := .ret
theorem n47_4 : RetR Cx 47 c47_4 := run_ret
def c47_2 : AC := .seq c47_3 c47_4
theorem n47_2 : SeqR Cx 47 c47_2 c47_3 c47_4 := run_seq
def c47_0 : AC := .seq c47_1 c47_2
theorem n47_0 : SeqR Cx 47 c47_0 c47_1 c47_2 := run_seq
theorem body47 : bodyOf Cx 47 = some c47_0 := by kernel_rfl
theorem res47 : resOf Cx 47 = some [.tmp 2] := by kernel_rfl
theorem pure47 : Cx.pure 47 = true := by kernel_rfl
def o48_1 : List AO := [oA 2 (.assign (.const (.string ⟨#[]⟩))) 9]
def c48_1 : AC := .region o48_1 []
theorem n48_1 : RegR Cx 48 c48_1 o48_1 := run_region
def o48_4 : List AO := [oA 3 (.move (tm 0)) 3,
  oA 4 (.binOp .lss 3 (tm 3) (ci 10) 3) 4]
def c48_4 : AC := .region o48_4 []
theorem n48_4 : RegR Cx 48 c48_4 o48_4 := run_region
def o48_7 : List AO := [oA 5 (.move (tm 0)) 3,
  oA 6 (.binOp .add 3 (ci 48) (tm 5) 3) 3,
  oA 7 (.convert 3 5 (tm 6)) 5,
  oA 8 (.buildSlice 63 1 #[(0, (tm 7))]) 63,
  oA 9 (.convert 63 9 (tm 8)) 9,
  oA 2 (.assign (tm 9)) 9]
def c48_7 : AC := .region o48_7 []
theorem n48_7 : RegR Cx 48 c48_7 o48_7 := run_region
def c48_8 : AC := .ret
theorem n48_8 : RetR Cx 48 c48_8 := run_ret
def c48_6 : AC := .seq c48_7 c48_8
theorem n48_6 : SeqR Cx 48 c48_6 c48_7 c48_8 := run_seq
def c48_9 : AC := .skip
theorem n48_9 : SkipR Cx 48 c48_9 := run_skip
def c48_5 : AC := .cond (tm 4) c48_6 c48_9
theorem n48_5 : CondR Cx 48 c48_5 (tm 4) c48_6 c48_9 := run_condC
def c48_3 : AC := .seq c48_4 c48_5
theorem n48_3 : SeqR Cx 48 c48_3 c48_4 c48_5 := run_seq
def o48_11 : List AO := [oA 10 (.move (tm 0)) 3,
  oA 11 (.binOp .add 3 (ci 97) (tm 10) 3) 3,
  oA 12 (.binOp .sub 3 (tm 11) (ci 10) 3) 3,
  oA 13 (.convert 3 5 (tm 12)) 5,
  oA 14 (.buildSlice 63 1 #[(0, (tm 13))]) 63,
  oA 15 (.convert 63 9 (tm 14)) 9,
  oA 2 (.assign (tm 15)) 9]
def c48_11 : AC := .region o48_11 []
theorem n48_11 : RegR Cx 48 c48_11 o48_11 := run_region
def c48_12 : AC := .ret
theorem n48_12 : RetR Cx 48 c48_12 := run_ret
def c48_10 : AC := .seq c48_11 c48_12
theorem n48_10 : SeqR Cx 48 c48_10 c48_11 c48_12 := run_seq
def c48_2 : AC := .seq c48_3 c48_10
theorem n48_2 : SeqR Cx 48 c48_2 c48_3 c48_10 := run_seq
def c48_0 : AC := .seq c48_1 c48_2
theorem n48_0 : SeqR Cx 48 c48_0 c48_1 c48_2 := run_seq
theorem body48 : bodyOf Cx 48 = some c48_0 := by kernel_rfl
theorem res48 : resOf Cx 48 = some [.tmp 2] := by kernel_rfl
theorem pure48 : Cx.pure 48 = true := by kernel_rfl
def o49_1 : List AO := [oA 1 (.box 35 (tm 0)) 0,
  oA 2 (.assign (.const (.bool false))) 4]
def c49_1 : AC := .region o49_1 []
theorem n49_1 : RegR Cx 49 c49_1 o49_1 := run_region
def o49_3 : List AO := [oA 6 (.fieldAddr 35 (tm 1) 1) 0,
  oA 7 (.load 3 (tm 6)) 3,
  oA 8 (.binOp .neq 3 (tm 7) (ci 0) 3) 4,
  oA 9 (.fieldAddr 35 (tm 1) 2) 0,
  oA 10 (.load 9 (tm 9)) 9,
  oA 11 (.binOp .neq 9 (tm 10) (.const (.string ⟨#[]⟩)) 9) 4,
  oA 12 (.fieldAddr 35 (tm 1) 3) 0,
  oA 13 (.load 33 (tm 12)) 33,
  oA 14 (.build 33 #[]) 33,
  oA 15 (.binOp .neq 33 (tm 13) (tm 14) 33) 4,
  oA 3 (.assign (tm 8)) 4,
  oA 4 (.assign (tm 11)) 4,
  oA 5 (.assign (tm 15)) 4]
def c49_3 : AC := .region o49_3 []
theorem n49_3 : RegR Cx 49 c49_3 o49_3 := run_region
def o49_6 : List AO := [oA 16 (.fieldAddr 35 (tm 1) 0) 0,
  oA 17 (.load 3 (tm 16)) 3]
def c49_6 : AC := .region o49_6 []
theorem n49_6 : RegR Cx 49 c49_6 o49_6 := run_region
def o49_9 : List AO := [oA 19 (.binOp .eql 3 (tm 17) (ci 0) 3) 4,
  oA 18 (.assign (tm 19)) 4]
def c49_9 : AC := .region o49_9 []
theorem n49_9 : RegR Cx 49 c49_9 o49_9 := run_region
def o49_12 : List AO := [oA 20 (.fieldAddr 35 (tm 1) 1) 0,
  oA 21 (.load 3 (tm 20)) 3,
  oA 22 (.binOp .geq 3 (tm 21) (ci (-9007199254740992)) 3) 4,
  oA 23 (.move (tm 22)) 4,
  oG 24 (.fieldAddr 35 (tm 1) 1) 0 23 true,
  oG 25 (.load 3 (tm 24)) 3 23 true,
  oG 26 (.binOp .leq 3 (tm 25) (ci 9007199254740992) 3) 4 23 true,
  oA 27 (.pick (tm 23) (tm 26) (.const (.bool false))) 4,
  oA 28 (.move (tm 27)) 4,
  oG 29 (.move (tm 4)) 4 28 true,
  oG 30 (.unOp .not 4 (tm 29)) 4 28 true,
  oA 31 (.pick (tm 28) (tm 30) (.const (.bool false))) 4,
  oA 32 (.move (tm 31)) 4,
  oG 33 (.move (tm 5)) 4 32 true,
  oG 34 (.unOp .not 4 (tm 33)) 4 32 true,
  oA 35 (.pick (tm 32) (tm 34) (.const (.bool false))) 4,
  oA 2 (.assign (tm 35)) 4]
def c49_12 : AC := .region o49_12 []
theorem n49_12 : RegR Cx 49 c49_12 o49_12 := run_region
def c49_13 : AC := .ret
theorem n49_13 : RetR Cx 49 c49_13 := run_ret
def c49_11 : AC := .seq c49_12 c49_13
theorem n49_11 : SeqR Cx 49 c49_11 c49_12 c49_13 := run_seq
def o49_15 : List AO := [oA 37 (.binOp .eql 3 (tm 17) (ci 1) 3) 4,
  oA 36 (.assign (tm 37)) 4]
def c49_15 : AC := .region o49_15 []
theorem n49_15 : RegR Cx 49 c49_15 o49_15 := run_region
def o49_18 : List AO := [oA 38 (.fieldAddr 35 (tm 1) 2) 0,
  oA 39 (.load 9 (tm 38)) 9,
  oA 40 (cB .len #[(tm 39)] #[9]) 3,
  oA 41 (.binOp .leq 3 (tm 40) (ci 4096) 3) 4,
  oA 42 (.move (tm 41)) 4,
  oG 43 (.move (tm 3)) 4 42 true,
  oG 44 (.unOp .not 4 (tm 43)) 4 42 true,
  oA 45 (.pick (tm 42) (tm 44) (.const (.bool false))) 4,
  oA 46 (.move (tm 45)) 4,
  oG 47 (.move (tm 5)) 4 46 true,
  oG 48 (.unOp .not 4 (tm 47)) 4 46 true,
  oA 49 (.pick (tm 46) (tm 48) (.const (.bool false))) 4,
  oA 2 (.assign (tm 49)) 4]
def c49_18 : AC := .region o49_18 []
theorem n49_18 : RegR Cx 49 c49_18 o49_18 := run_region
def c49_19 : AC := .ret
theorem n49_19 : RetR Cx 49 c49_19 := run_ret
def c49_17 : AC := .seq c49_18 c49_19
theorem n49_17 : SeqR Cx 49 c49_17 c49_18 c49_19 := run_seq
def o49_21 : List AO := [oA 51 (.binOp .eql 3 (tm 17) (ci 2) 3) 4,
  oA 50 (.assign (tm 51)) 4]
def c49_21 : AC := .region o49_21 []
theorem n49_21 : RegR Cx 49 c49_21 o49_21 := run_region
def o49_24 : List AO := [oA 52 (.fieldAddr 35 (tm 1) 3) 0,
  oA 53 (.load 33 (tm 52)) 33,
  oA 54 (cF 57 #[(tm 53)] #[33]) 4,
  oA 55 (.move (tm 54)) 4,
  oG 56 (.move (tm 3)) 4 55 true,
  oG 57 (.unOp .not 4 (tm 56)) 4 55 true,
  oA 58 (.pick (tm 55) (tm 57) (.const (.bool false))) 4,
  oA 59 (.move (tm 58)) 4,
  oG 60 (.move (tm 4)) 4 59 true,
  oG 61 (.unOp .not 4 (tm 60)) 4 59 true,
  oA 62 (.pick (tm 59) (tm 61) (.const (.bool false))) 4,
  oA 2 (.assign (tm 62)) 4]
def c49_24 : AC := .region o49_24 []
theorem n49_24 : RegR Cx 49 c49_24 o49_24 := run_region
def c49_25 : AC := .ret
theorem n49_25 : RetR Cx 49 c49_25 := run_ret
def c49_23 : AC := .seq c49_24 c49_25
theorem n49_23 : SeqR Cx 49 c49_23 c49_24 c49_25 := run_seq
def c49_26 : AC := .skip
theorem n49_26 : SkipR Cx 49 c49_26 := run_skip
def c49_22 : AC := .cond (tm 50) c49_23 c49_26
theorem n49_22 : CondR Cx 49 c49_22 (tm 50) c49_23 c49_26 := run_condC
def c49_20 : AC := .seq c49_21 c49_22
theorem n49_20 : SeqR Cx 49 c49_20 c49_21 c49_22 := run_seq
def c49_16 : AC := .cond (tm 36) c49_17 c49_20
theorem n49_16 : CondR Cx 49 c49_16 (tm 36) c49_17 c49_20 := run_condC
def c49_14 : AC := .seq c49_15 c49_16
theorem n49_14 : SeqR Cx 49 c49_14 c49_15 c49_16 := run_seq
def c49_10 : AC := .cond (tm 18) c49_11 c49_14
theorem n49_10 : CondR Cx 49 c49_10 (tm 18) c49_11 c49_14 := run_condC
def c49_8 : AC := .seq c49_9 c49_10
theorem n49_8 : SeqR Cx 49 c49_8 c49_9 c49_10 := run_seq
def c49_7 : AC := .block 0 c49_8
theorem n49_7 : BlkR Cx 49 c49_7 0 c49_8 := run_block
def c49_5 : AC := .seq c49_6 c49_7
theorem n49_5 : SeqR Cx 49 c49_5 c49_6 c49_7 := run_seq
def o49_28 : List AO := [oA 2 (.assign (.const (.bool false))) 4]
def c49_28 : AC := .region o49_28 []
theorem n49_28 : RegR Cx 49 c49_28 o49_28 := run_region
def c49_29 : AC := .ret
theorem n49_29 : RetR Cx 49 c49_29 := run_ret
def c49_27 : AC := .seq c49_28 c49_29
theorem n49_27 : SeqR Cx 49 c49_27 c49_28 c49_29 := run_seq
def c49_4 : AC := .seq c49_5 c49_27
theorem n49_4 : SeqR Cx 49 c49_4 c49_5 c49_27 := run_seq
def c49_2 : AC := .seq c49_3 c49_4
theorem n49_2 : SeqR Cx 49 c49_2 c49_3 c49_4 := run_seq
def c49_0 : AC := .seq c49_1 c49_2
theorem n49_0 : SeqR Cx 49 c49_0 c49_1 c49_2 := run_seq
theorem body49 : bodyOf Cx 49 = some c49_0 := by kernel_rfl
theorem res49 : resOf Cx 49 = some [.tmp 2] := by kernel_rfl
theorem pure49 : Cx.pure 49 = true := by kernel_rfl
def o50_1 : List AO := [oA 2 (.move (tm 0)) 62,
  oA 3 (.nilCheck (tm 2)) 0,
  oA 4 (.fieldAddr 65 (tm 3) 0) 0,
  oA 5 (.load 62 (tm 4)) 62,
  oA 6 (.binOp .eql 62 (tm 5) (.const (.pointer none)) 62) 4]
def c50_1 : AC := .region o50_1 []
theorem n50_1 : RegR Cx 50 c50_1 o50_1 := run_region
def o50_3 : List AO := [oA 7 (.move (tm 0)) 62,
  oA 8 (.move (tm 0)) 62,
  oA 9 (.convert 62 92 (tm 8)) 92,
  oA 10 (cF 58 #[(tm 9)] #[92]) 92,
  oA 11 (.convert 92 62 (tm 10)) 62,
  oA 12 (.nilCheck (tm 7)) 0,
  oA 13 (.fieldAddr 65 (tm 12) 0) 0,
  oN (.store 62 (tm 13) (tm 11)) 0]
def c50_3 : AC := .region o50_3 []
theorem n50_3 : RegR Cx 50 c50_3 o50_3 := run_region
def o50_5 : List AO := [oA 14 (.move (tm 0)) 62,
  oA 15 (.nilCheck (tm 14)) 0,
  oA 16 (.fieldAddr 65 (tm 15) 0) 0,
  oA 17 (.load 62 (tm 16)) 62,
  oA 18 (.move (tm 0)) 62,
  oA 19 (.binOp .neq 62 (tm 17) (tm 18) 62) 4]
def c50_5 : AC := .region o50_5 []
theorem n50_5 : RegR Cx 50 c50_5 o50_5 := run_region
def c50_7 : AC := .refuse
def c50_8 : AC := .skip
theorem n50_8 : SkipR Cx 50 c50_8 := run_skip
def c50_6 : AC := .cond (tm 19) c50_7 c50_8
theorem n50_6 : CondR Cx 50 c50_6 (tm 19) c50_7 c50_8 := run_condC
def c50_4 : AC := .seq c50_5 c50_6
theorem n50_4 : SeqR Cx 50 c50_4 c50_5 c50_6 := run_seq
def c50_2 : AC := .cond (tm 6) c50_3 c50_4
theorem n50_2 : CondR Cx 50 c50_2 (tm 6) c50_3 c50_4 := run_condC
def c50_0 : AC := .seq c50_1 c50_2
theorem n50_0 : SeqR Cx 50 c50_0 c50_1 c50_2 := run_seq
theorem body50 : bodyOf Cx 50 = some c50_0 := by kernel_rfl
theorem res50 : resOf Cx 50 = some [] := by kernel_rfl
theorem pure50 : Cx.pure 50 = false := by kernel_rfl
def o51_1 : List AO := [oA 2 (.assign (.const (.string ⟨#[]⟩))) 9]
def c51_1 : AC := .region o51_1 []
theorem n51_1 : RegR Cx 51 c51_1 o51_1 := run_region
def o51_4 : List AO := [oA 4 (.move (tm 0)) 3,
  oA 5 (.binOp .lss 3 (tm 4) (ci 0) 3) 4]
def c51_4 : AC := .region o51_4 []
theorem n51_4 : RegR Cx 51 c51_4 o51_4 := run_region
def o51_7 : List AO := [oA 6 (.move (tm 0)) 3,
  oA 7 (.unOp .neg 3 (tm 6)) 3,
  oA 8 (cF 51 #[(tm 7)] #[3]) 9,
  oA 9 (.binOp .add 9 (.const (.string ⟨#[45]⟩)) (tm 8) 9) 9,
  oA 2 (.assign (tm 9)) 9]
def c51_7 : AC := .region o51_7 []
theorem n51_7 : RegR Cx 51 c51_7 o51_7 := run_region
def c51_8 : AC := .ret
theorem n51_8 : RetR Cx 51 c51_8 := run_ret
def c51_6 : AC := .seq c51_7 c51_8
theorem n51_6 : SeqR Cx 51 c51_6 c51_7 c51_8 := run_seq
def c51_9 : AC := .skip
theorem n51_9 : SkipR Cx 51 c51_9 := run_skip
def c51_5 : AC := .cond (tm 5) c51_6 c51_9
theorem n51_5 : CondR Cx 51 c51_5 (tm 5) c51_6 c51_9 := run_condC
def c51_3 : AC := .seq c51_4 c51_5
theorem n51_3 : SeqR Cx 51 c51_3 c51_4 c51_5 := run_seq
def o51_11 : List AO := [oA 3 (.assign (.const (.string ⟨#[]⟩))) 9]
def c51_11 : AC := .region o51_11 []
theorem n51_11 : RegR Cx 51 c51_11 o51_11 := run_region
def o51_16 : List AO := [oA 10 (.move (tm 0)) 3,
  oA 11 (.binOp .rem 3 (tm 10) (ci 10) 3) 3,
  oA 12 (.move (tm 0)) 3,
  oA 13 (.binOp .rem 3 (tm 12) (ci 10) 3) 3,
  oA 14 (.binOp .add 3 (tm 13) (ci 1) 3) 3,
  oA 15 (.slice 9 (.const (.string ⟨#[48, 49, 50, 51, 52, 53, 54, 55, 56, 57, 97, 98, 99, 100, 101, 102]⟩)) (some (tm 11)) (some (tm 14)) none) 9,
  oA 16 (.move (tm 3)) 9,
  oA 17 (.binOp .add 9 (tm 15) (tm 16) 9) 9,
  oA 3 (.assign (tm 17)) 9]
def c51_16 : AC := .region o51_16 []
theorem n51_16 : RegR Cx 51 c51_16 o51_16 := run_region
def o51_18 : List AO := [oA 18 (.move (tm 0)) 3,
  oA 19 (.binOp .quo 3 (tm 18) (ci 10) 3) 3,
  oA 0 (.assign (tm 19)) 3]
def c51_18 : AC := .region o51_18 []
theorem n51_18 : RegR Cx 51 c51_18 o51_18 := run_region
def o51_20 : List AO := [oA 20 (.move (tm 0)) 3,
  oA 21 (.binOp .eql 3 (tm 20) (ci 0) 3) 4]
def c51_20 : AC := .region o51_20 []
theorem n51_20 : RegR Cx 51 c51_20 o51_20 := run_region
def o51_23 : List AO := [oA 22 (.move (tm 3)) 9,
  oA 2 (.assign (tm 22)) 9]
def c51_23 : AC := .region o51_23 []
theorem n51_23 : RegR Cx 51 c51_23 o51_23 := run_region
def c51_24 : AC := .ret
theorem n51_24 : RetR Cx 51 c51_24 := run_ret
def c51_22 : AC := .seq c51_23 c51_24
theorem n51_22 : SeqR Cx 51 c51_22 c51_23 c51_24 := run_seq
def c51_25 : AC := .skip
theorem n51_25 : SkipR Cx 51 c51_25 := run_skip
def c51_21 : AC := .cond (tm 21) c51_22 c51_25
theorem n51_21 : CondR Cx 51 c51_21 (tm 21) c51_22 c51_25 := run_condC
def c51_19 : AC := .seq c51_20 c51_21
theorem n51_19 : SeqR Cx 51 c51_19 c51_20 c51_21 := run_seq
def c51_17 : AC := .seq c51_18 c51_19
theorem n51_17 : SeqR Cx 51 c51_17 c51_18 c51_19 := run_seq
def c51_15 : AC := .seq c51_16 c51_17
theorem n51_15 : SeqR Cx 51 c51_15 c51_16 c51_17 := run_seq
def c51_14 : AC := .block 1 c51_15
theorem n51_14 : BlkR Cx 51 c51_14 1 c51_15 := run_block
def c51_13 : AC := .loop c51_14
theorem n51_13 : LoopR Cx 51 c51_13 c51_14 := run_loop'
def c51_12 : AC := .block 0 c51_13
theorem n51_12 : BlkR Cx 51 c51_12 0 c51_13 := run_block
def c51_10 : AC := .seq c51_11 c51_12
theorem n51_10 : SeqR Cx 51 c51_10 c51_11 c51_12 := run_seq
def c51_2 : AC := .seq c51_3 c51_10
theorem n51_2 : SeqR Cx 51 c51_2 c51_3 c51_10 := run_seq
def c51_0 : AC := .seq c51_1 c51_2
theorem n51_0 : SeqR Cx 51 c51_0 c51_1 c51_2 := run_seq
theorem body51 : bodyOf Cx 51 = some c51_0 := by kernel_rfl
theorem res51 : resOf Cx 51 = some [.tmp 2] := by kernel_rfl
theorem pure51 : Cx.pure 51 = true := by kernel_rfl
def o52_1 : List AO := [oA 2 (.assign (.const (.string ⟨#[]⟩))) 9]
def c52_1 : AC := .region o52_1 []
theorem n52_1 : RegR Cx 52 c52_1 o52_1 := run_region
def o52_3 : List AO := [oA 3 (.alloc 65) 0]
def c52_3 : AC := .region o52_3 []
theorem n52_3 : RegR Cx 52 c52_3 o52_3 := run_region
def o52_5 : List AO := [oA 6 (cF 39 #[(tm 3), (.const (.int .u8 34))] #[65, 5]) 77]
def c52_5 : AC := .region o52_5 []
theorem n52_5 : RegR Cx 52 c52_5 o52_5 := run_region
def o52_8 : List AO := [oA 7 (.move (tm 0)) 9,
  oA 8 (cB .len #[(tm 7)] #[9]) 3,
  oA 9 (.move (ci 0)) 3]
def c52_8 : AC := .region o52_8 []
theorem n52_8 : RegR Cx 52 c52_8 o52_8 := run_region
def o52_12 : List AO := [oA 10 (.binOp .lss 3 (tm 9) (tm 8) 3) 4]
def c52_12 : AC := .region o52_12 []
theorem n52_12 : RegR Cx 52 c52_12 o52_12 := run_region
def c52_15 : AC := .skip
theorem n52_15 : SkipR Cx 52 c52_15 := run_skip
def c52_16 : AC := .exit 0
theorem n52_16 : ExitR Cx 52 c52_16 0 := run_exit_start
def c52_14 : AC := .cond (tm 10) c52_15 c52_16
theorem n52_14 : CondR Cx 52 c52_14 (tm 10) c52_15 c52_16 := run_condC
def o52_20 : List AO := [oA 11 (.move (tm 9)) 3,
  oA 4 (.assign (tm 11)) 3]
def c52_20 : AC := .region o52_20 []
theorem n52_20 : RegR Cx 52 c52_20 o52_20 := run_region
def o52_22 : List AO := [oA 12 (.move (tm 0)) 9,
  oA 13 (.move (tm 4)) 3,
  oA 14 (.index 9 (tm 12) (tm 13)) 5,
  oA 5 (.assign (tm 14)) 5]
def c52_22 : AC := .region o52_22 []
theorem n52_22 : RegR Cx 52 c52_22 o52_22 := run_region
def o52_24 : List AO := [oA 15 (.move (tm 5)) 5,
  oA 16 (cF 59 #[(tm 15)] #[5]) 4]
def c52_24 : AC := .region o52_24 []
theorem n52_24 : RegR Cx 52 c52_24 o52_24 := run_region
def o52_26 : List AO := [oA 17 (.move (tm 5)) 5,
  oA 18 (cF 39 #[(tm 3), (tm 17)] #[65, 5]) 77]
def c52_26 : AC := .region o52_26 []
theorem n52_26 : RegR Cx 52 c52_26 o52_26 := run_region
def o52_27 : List AO := [oA 19 (.move (tm 5)) 5,
  oA 20 (.binOp .quo 5 (tm 19) (.const (.int .u8 16)) 5) 5,
  oA 21 (.move (tm 5)) 5,
  oA 22 (.binOp .quo 5 (tm 21) (.const (.int .u8 16)) 5) 5,
  oA 23 (.binOp .add 5 (tm 22) (.const (.int .u8 1)) 5) 5,
  oA 24 (.slice 9 (.const (.string ⟨#[48, 49, 50, 51, 52, 53, 54, 55, 56, 57, 97, 98, 99, 100, 101, 102]⟩)) (some (tm 20)) (some (tm 23)) none) 9,
  oA 25 (.binOp .add 9 (.const (.string ⟨#[92]⟩)) (tm 24) 9) 9,
  oA 26 (.move (tm 5)) 5,
  oA 27 (.binOp .rem 5 (tm 26) (.const (.int .u8 16)) 5) 5,
  oA 28 (.move (tm 5)) 5,
  oA 29 (.binOp .rem 5 (tm 28) (.const (.int .u8 16)) 5) 5,
  oA 30 (.binOp .add 5 (tm 29) (.const (.int .u8 1)) 5) 5,
  oA 31 (.slice 9 (.const (.string ⟨#[48, 49, 50, 51, 52, 53, 54, 55, 56, 57, 97, 98, 99, 100, 101, 102]⟩)) (some (tm 27)) (some (tm 30)) none) 9,
  oA 32 (.binOp .add 9 (tm 25) (tm 31) 9) 9,
  oA 33 (cF 36 #[(tm 3), (tm 32)] #[65, 9]) 78]
def c52_27 : AC := .region o52_27 []
theorem n52_27 : RegR Cx 52 c52_27 o52_27 := run_region
def c52_25 : AC := .cond (tm 16) c52_26 c52_27
theorem n52_25 : CondR Cx 52 c52_25 (tm 16) c52_26 c52_27 := run_condC
def c52_23 : AC := .seq c52_24 c52_25
theorem n52_23 : SeqR Cx 52 c52_23 c52_24 c52_25 := run_seq
def c52_21 : AC := .seq c52_22 c52_23
theorem n52_21 : SeqR Cx 52 c52_21 c52_22 c52_23 := run_seq
def c52_19 : AC := .seq c52_20 c52_21
theorem n52_19 : SeqR Cx 52 c52_19 c52_20 c52_21 := run_seq
def c52_18 : AC := .block 1 c52_19
theorem n52_18 : BlkR Cx 52 c52_18 1 c52_19 := run_block
def o52_28 : List AO := [oA 34 (.binOp .add 3 (tm 9) (ci 1) 3) 3,
  oA 9 (.move (tm 34)) 3]
def c52_28 : AC := .region o52_28 []
theorem n52_28 : RegR Cx 52 c52_28 o52_28 := run_region
def c52_17 : AC := .seq c52_18 c52_28
theorem n52_17 : SeqR Cx 52 c52_17 c52_18 c52_28 := run_seq
def c52_13 : AC := .seq c52_14 c52_17
theorem n52_13 : SeqR Cx 52 c52_13 c52_14 c52_17 := run_seq
def c52_11 : AC := .seq c52_12 c52_13
theorem n52_11 : SeqR Cx 52 c52_11 c52_12 c52_13 := run_seq
def c52_10 : AC := .loop c52_11
theorem n52_10 : LoopR Cx 52 c52_10 c52_11 := run_loop'
def c52_9 : AC := .block 0 c52_10
theorem n52_9 : BlkR Cx 52 c52_9 0 c52_10 := run_block
def c52_7 : AC := .seq c52_8 c52_9
theorem n52_7 : SeqR Cx 52 c52_7 c52_8 c52_9 := run_seq
def o52_30 : List AO := [oA 35 (cF 39 #[(tm 3), (.const (.int .u8 34))] #[65, 5]) 77]
def c52_30 : AC := .region o52_30 []
theorem n52_30 : RegR Cx 52 c52_30 o52_30 := run_region
def o52_32 : List AO := [oA 36 (cF 28 #[(tm 3)] #[65]) 9,
  oA 2 (.assign (tm 36)) 9]
def c52_32 : AC := .region o52_32 []
theorem n52_32 : RegR Cx 52 c52_32 o52_32 := run_region
def c52_33 : AC := .ret
theorem n52_33 : RetR Cx 52 c52_33 := run_ret
def c52_31 : AC := .seq c52_32 c52_33
theorem n52_31 : SeqR Cx 52 c52_31 c52_32 c52_33 := run_seq
def c52_29 : AC := .seq c52_30 c52_31
theorem n52_29 : SeqR Cx 52 c52_29 c52_30 c52_31 := run_seq
def c52_6 : AC := .seq c52_7 c52_29
theorem n52_6 : SeqR Cx 52 c52_6 c52_7 c52_29 := run_seq
def c52_4 : AC := .seq c52_5 c52_6
theorem n52_4 : SeqR Cx 52 c52_4 c52_5 c52_6 := run_seq
def c52_2 : AC := .seq c52_3 c52_4
theorem n52_2 : SeqR Cx 52 c52_2 c52_3 c52_4 := run_seq
def c52_0 : AC := .seq c52_1 c52_2
theorem n52_0 : SeqR Cx 52 c52_0 c52_1 c52_2 := run_seq
theorem body52 : bodyOf Cx 52 = some c52_0 := by kernel_rfl
theorem res52 : resOf Cx 52 = some [.tmp 2] := by kernel_rfl
theorem pure52 : Cx.pure 52 = true := by kernel_rfl
end
end Go.Proofs.Ytkedlkcknhinoaa.G

