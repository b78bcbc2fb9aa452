import Derived.Test.YtkedlkcknhinoaaKRERight4
import Derived.Test.YtkedlkcknhinoaaKRERight3
import Derived.Laws.BitsLemmas
namespace Go.Proofs.Ytkedlkcknhinoaa.G
open Go.BX
section
variable {T : Nat → AV} {ds : List ADef} {ro : Option Nat} {k : List AItem} {H : AHeap} {Q : AV → AHeap → Prop}
def o53_1 : List AO := [oA 2 (.alloc 35) 0,
  oA 3 (.assign (ci 0)) 3,
  oA 4 (.assign (ci 0)) 39]
def c53_1 : AC := .region o53_1 []
theorem n53_1 : RegR Cx 53 c53_1 o53_1 := run_region
def o53_4 : List AO := [oA 5 (.assign (.const (.slice none 0 0))) 63]
def c53_4 : AC := .region o53_4 []
theorem n53_4 : RegR Cx 53 c53_4 o53_4 := run_region
def o53_6 : List AO := [oA 6 (.assign (ci 1)) 3]
def c53_6 : AC := .region o53_6 []
theorem n53_6 : RegR Cx 53 c53_6 o53_6 := run_region
def c53_8 : AC := .label 0
theorem n53_8 : SkipR Cx 53 c53_8 := run_label
def o53_12 : List AO := [oA 10 (.move (tm 6)) 3,
  oA 11 (.move (tm 0)) 9,
  oA 12 (cB .len #[(tm 11)] #[9]) 3,
  oA 13 (.binOp .geq 3 (tm 10) (tm 12) 3) 4,
  oA 9 (.assign (tm 13)) 4]
def c53_12 : AC := .region o53_12 []
theorem n53_12 : RegR Cx 53 c53_12 o53_12 := run_region
def o53_15 : List AO := [oA 14 (.build 35 #[]) 35,
  oN (.store 35 (tm 2) (tm 14)) 0,
  oA 3 (.assign (ci 0)) 3,
  oA 4 (.assign (ci 2)) 39]
def c53_15 : AC := .region o53_15 []
theorem n53_15 : RegR Cx 53 c53_15 o53_15 := run_region
def c53_16 : AC := .ret
theorem n53_16 : RetR Cx 53 c53_16 := run_ret
def c53_14 : AC := .seq c53_15 c53_16
theorem n53_14 : SeqR Cx 53 c53_14 c53_15 c53_16 := run_seq
def o53_18 : List AO := [oA 16 (.move (tm 0)) 9,
  oA 17 (.move (tm 6)) 3,
  oA 18 (.index 9 (tm 16) (tm 17)) 5,
  oA 19 (.binOp .eql 5 (tm 18) (.const (.int .u8 34)) 5) 4,
  oA 15 (.assign (tm 19)) 4]
def c53_18 : AC := .region o53_18 []
theorem n53_18 : RegR Cx 53 c53_18 o53_18 := run_region
def o53_22 : List AO := [oA 20 (.move (tm 5)) 63,
  oA 21 (cB .len #[(tm 20)] #[63]) 3,
  oA 22 (.binOp .gtr 3 (tm 21) (ci 4096) 3) 4]
def c53_22 : AC := .region o53_22 []
theorem n53_22 : RegR Cx 53 c53_22 o53_22 := run_region
def o53_25 : List AO := [oA 23 (.build 35 #[]) 35,
  oN (.store 35 (tm 2) (tm 23)) 0,
  oA 3 (.assign (ci 0)) 3,
  oA 4 (.assign (ci 3)) 39]
def c53_25 : AC := .region o53_25 []
theorem n53_25 : RegR Cx 53 c53_25 o53_25 := run_region
def c53_26 : AC := .ret
theorem n53_26 : RetR Cx 53 c53_26 := run_ret
def c53_24 : AC := .seq c53_25 c53_26
theorem n53_24 : SeqR Cx 53 c53_24 c53_25 c53_26 := run_seq
def c53_27 : AC := .skip
theorem n53_27 : SkipR Cx 53 c53_27 := run_skip
def c53_23 : AC := .cond (tm 22) c53_24 c53_27
theorem n53_23 : CondR Cx 53 c53_23 (tm 22) c53_24 c53_27 := run_condC
def c53_21 : AC := .seq c53_22 c53_23
theorem n53_21 : SeqR Cx 53 c53_21 c53_22 c53_23 := run_seq
def o53_29 : List AO := [oA 24 (.move (tm 5)) 63,
  oA 25 (.convert 63 9 (tm 24)) 9,
  oA 26 (.build 35 #[(0, (ci 1)), (2, (tm 25))]) 35,
  oA 27 (.move (tm 6)) 3,
  oA 28 (.binOp .add 3 (tm 27) (ci 1) 3) 3,
  oN (.store 35 (tm 2) (tm 26)) 0,
  oA 3 (.assign (tm 28)) 3,
  oA 4 (.assign (ci 0)) 39]
def c53_29 : AC := .region o53_29 []
theorem n53_29 : RegR Cx 53 c53_29 o53_29 := run_region
def c53_30 : AC := .ret
theorem n53_30 : RetR Cx 53 c53_30 := run_ret
def c53_28 : AC := .seq c53_29 c53_30
theorem n53_28 : SeqR Cx 53 c53_28 c53_29 c53_30 := run_seq
def c53_20 : AC := .seq c53_21 c53_28
theorem n53_20 : SeqR Cx 53 c53_20 c53_21 c53_28 := run_seq
def o53_32 : List AO := [oA 30 (.move (tm 0)) 9,
  oA 31 (.move (tm 6)) 3,
  oA 32 (.index 9 (tm 30) (tm 31)) 5,
  oA 33 (.binOp .eql 5 (tm 32) (.const (.int .u8 92)) 5) 4,
  oA 29 (.assign (tm 33)) 4]
def c53_32 : AC := .region o53_32 []
theorem n53_32 : RegR Cx 53 c53_32 o53_32 := run_region
def o53_35 : List AO := [oA 35 (.move (tm 0)) 9,
  oA 36 (.move (tm 6)) 3,
  oA 37 (.binOp .add 3 (tm 36) (ci 1) 3) 3,
  oA 38 (cF 60 #[(tm 35), (tm 37)] #[9, 3]) 94,
  oA 34 (.move (tm 38)) 94,
  oA 39 (.extract (tm 34) 0) 5,
  oA 40 (.extract (tm 34) 1) 39,
  oA 7 (.assign (tm 39)) 5,
  oA 8 (.assign (tm 40)) 39]
def c53_35 : AC := .region o53_35 []
theorem n53_35 : RegR Cx 53 c53_35 o53_35 := run_region
def o53_38 : List AO := [oA 41 (.move (tm 8)) 39,
  oA 42 (.binOp .neq 39 (tm 41) (ci 0) 39) 4]
def c53_38 : AC := .region o53_38 []
theorem n53_38 : RegR Cx 53 c53_38 o53_38 := run_region
def o53_41 : List AO := [oA 43 (.build 35 #[]) 35,
  oA 44 (.move (tm 8)) 39,
  oN (.store 35 (tm 2) (tm 43)) 0,
  oA 3 (.assign (ci 0)) 3,
  oA 4 (.assign (tm 44)) 39]
def c53_41 : AC := .region o53_41 []
theorem n53_41 : RegR Cx 53 c53_41 o53_41 := run_region
def c53_42 : AC := .ret
theorem n53_42 : RetR Cx 53 c53_42 := run_ret
def c53_40 : AC := .seq c53_41 c53_42
theorem n53_40 : SeqR Cx 53 c53_40 c53_41 c53_42 := run_seq
def c53_43 : AC := .skip
theorem n53_43 : SkipR Cx 53 c53_43 := run_skip
def c53_39 : AC := .cond (tm 42) c53_40 c53_43
theorem n53_39 : CondR Cx 53 c53_39 (tm 42) c53_40 c53_43 := run_condC
def c53_37 : AC := .seq c53_38 c53_39
theorem n53_37 : SeqR Cx 53 c53_37 c53_38 c53_39 := run_seq
def o53_45 : List AO := [oA 45 (.move (tm 5)) 63,
  oA 46 (.move (tm 7)) 5,
  oA 47 (.buildSlice 63 1 #[(0, (tm 46))]) 63,
  oA 48 (cB .append #[(tm 45), (tm 47)] #[63, 63]) 63,
  oA 5 (.assign (tm 48)) 63]
def c53_45 : AC := .region o53_45 []
theorem n53_45 : RegR Cx 53 c53_45 o53_45 := run_region
def o53_47 : List AO := [oA 49 (.move (tm 6)) 3,
  oA 50 (.binOp .add 3 (tm 49) (ci 3) 3) 3,
  oA 6 (.assign (tm 50)) 3]
def c53_47 : AC := .region o53_47 []
theorem n53_47 : RegR Cx 53 c53_47 o53_47 := run_region
def c53_48 : AC := .goto 0
def c53_46 : AC := .seq c53_47 c53_48
theorem n53_46 : SeqR Cx 53 c53_46 c53_47 c53_48 := run_seq
def c53_44 : AC := .seq c53_45 c53_46
theorem n53_44 : SeqR Cx 53 c53_44 c53_45 c53_46 := run_seq
def c53_36 : AC := .seq c53_37 c53_44
theorem n53_36 : SeqR Cx 53 c53_36 c53_37 c53_44 := run_seq
def c53_34 : AC := .seq c53_35 c53_36
theorem n53_34 : SeqR Cx 53 c53_34 c53_35 c53_36 := run_seq
def o53_50 : List AO := [oA 52 (.move (tm 0)) 9,
  oA 53 (.move (tm 6)) 3,
  oA 54 (.index 9 (tm 52) (tm 53)) 5,
  oA 55 (cF 59 #[(tm 54)] #[5]) 4,
  oA 56 (.unOp .not 4 (tm 55)) 4,
  oA 51 (.assign (tm 56)) 4]
def c53_50 : AC := .region o53_50 []
theorem n53_50 : RegR Cx 53 c53_50 o53_50 := run_region
def o53_53 : List AO := [oA 57 (.build 35 #[]) 35,
  oN (.store 35 (tm 2) (tm 57)) 0,
  oA 3 (.assign (ci 0)) 3,
  oA 4 (.assign (ci 6)) 39]
def c53_53 : AC := .region o53_53 []
theorem n53_53 : RegR Cx 53 c53_53 o53_53 := run_region
def c53_54 : AC := .ret
theorem n53_54 : RetR Cx 53 c53_54 := run_ret
def c53_52 : AC := .seq c53_53 c53_54
theorem n53_52 : SeqR Cx 53 c53_52 c53_53 c53_54 := run_seq
def c53_55 : AC := .skip
theorem n53_55 : SkipR Cx 53 c53_55 := run_skip
def c53_51 : AC := .cond (tm 51) c53_52 c53_55
theorem n53_51 : CondR Cx 53 c53_51 (tm 51) c53_52 c53_55 := run_condC
def c53_49 : AC := .seq c53_50 c53_51
theorem n53_49 : SeqR Cx 53 c53_49 c53_50 c53_51 := run_seq
def c53_33 : AC := .cond (tm 29) c53_34 c53_49
theorem n53_33 : CondR Cx 53 c53_33 (tm 29) c53_34 c53_49 := run_condC
def c53_31 : AC := .seq c53_32 c53_33
theorem n53_31 : SeqR Cx 53 c53_31 c53_32 c53_33 := run_seq
def c53_19 : AC := .cond (tm 15) c53_20 c53_31
theorem n53_19 : CondR Cx 53 c53_19 (tm 15) c53_20 c53_31 := run_condC
def c53_17 : AC := .seq c53_18 c53_19
theorem n53_17 : SeqR Cx 53 c53_17 c53_18 c53_19 := run_seq
def c53_13 : AC := .cond (tm 9) c53_14 c53_17
theorem n53_13 : CondR Cx 53 c53_13 (tm 9) c53_14 c53_17 := run_condC
def c53_11 : AC := .seq c53_12 c53_13
theorem n53_11 : SeqR Cx 53 c53_11 c53_12 c53_13 := run_seq
def c53_10 : AC := .block 0 c53_11
theorem n53_10 : BlkR Cx 53 c53_10 0 c53_11 := run_block
def o53_57 : List AO := [oA 58 (.move (tm 5)) 63,
  oA 59 (.move (tm 0)) 9,
  oA 60 (.move (tm 6)) 3,
  oA 61 (.index 9 (tm 59) (tm 60)) 5,
  oA 62 (.buildSlice 63 1 #[(0, (tm 61))]) 63,
  oA 63 (cB .append #[(tm 58), (tm 62)] #[63, 63]) 63,
  oA 5 (.assign (tm 63)) 63]
def c53_57 : AC := .region o53_57 []
theorem n53_57 : RegR Cx 53 c53_57 o53_57 := run_region
def o53_59 : List AO := [oA 64 (.move (tm 6)) 3,
  oA 65 (.binOp .add 3 (tm 64) (ci 1) 3) 3,
  oA 6 (.assign (tm 65)) 3]
def c53_59 : AC := .region o53_59 []
theorem n53_59 : RegR Cx 53 c53_59 o53_59 := run_region
def c53_60 : AC := .goto 0
def c53_58 : AC := .seq c53_59 c53_60
theorem n53_58 : SeqR Cx 53 c53_58 c53_59 c53_60 := run_seq
def c53_56 : AC := .seq c53_57 c53_58
theorem n53_56 : SeqR Cx 53 c53_56 c53_57 c53_58 := run_seq
def c53_9 : AC := .seq c53_10 c53_56
theorem n53_9 : SeqR Cx 53 c53_9 c53_10 c53_56 := run_seq
def c53_7 : AC := .seq c53_8 c53_9
theorem n53_7 : SeqR Cx 53 c53_7 c53_8 c53_9 := run_seq
def c53_5 : AC := .seq c53_6 c53_7
theorem n53_5 : SeqR Cx 53 c53_5 c53_6 c53_7 := run_seq
def c53_3 : AC := .seq c53_4 c53_5
theorem n53_3 : SeqR Cx 53 c53_3 c53_4 c53_5 := run_seq
def c53_2 : AC := .scope c53_3
theorem n53_2 : ScopeR Cx 53 c53_2 c53_3 := run_scope
def c53_0 : AC := .seq c53_1 c53_2
theorem n53_0 : SeqR Cx 53 c53_0 c53_1 c53_2 := run_seq
theorem body53 : bodyOf Cx 53 = some c53_0 := by kernel_rfl
theorem res53 : resOf Cx 53 = some [.cell 2 35, .tmp 3, .tmp 4] := by kernel_rfl
theorem pure53 : Cx.pure 53 = true := by kernel_rfl
def o54_1 : List AO := [oA 2 (.assign (.const (.bool false))) 4]
def c54_1 : AC := .region o54_1 []
theorem n54_1 : RegR Cx 54 c54_1 o54_1 := run_region
def o54_3 : List AO := [oA 3 (.move (tm 0)) 5,
  oA 4 (.binOp .geq 5 (tm 3) (.const (.int .u8 48)) 5) 4,
  oA 5 (.move (tm 4)) 4,
  oG 6 (.move (tm 0)) 5 5 true,
  oG 7 (.binOp .leq 5 (tm 6) (.const (.int .u8 57)) 5) 4 5 true,
  oA 8 (.pick (tm 5) (tm 7) (.const (.bool false))) 4,
  oA 2 (.assign (tm 8)) 4]
def c54_3 : AC := .region o54_3 []
theorem n54_3 : RegR Cx 54 c54_3 o54_3 := run_region
def c54_4 : AC := .ret
theorem n54_4 : RetR Cx 54 c54_4 := run_ret
def c54_2 : AC := .seq c54_3 c54_4
theorem n54_2 : SeqR Cx 54 c54_2 c54_3 c54_4 := run_seq
def c54_0 : AC := .seq c54_1 c54_2
theorem n54_0 : SeqR Cx 54 c54_0 c54_1 c54_2 := run_seq
theorem body54 : bodyOf Cx 54 = some c54_0 := by kernel_rfl
theorem res54 : resOf Cx 54 = some [.tmp 2] := by kernel_rfl
theorem pure54 : Cx.pure 54 = true := by kernel_rfl
def o55_1 : List AO := [oA 2 (.alloc 35) 0,
  oA 3 (.assign (ci 0)) 3,
  oA 4 (.assign (ci 0)) 39]
def c55_1 : AC := .region o55_1 []
theorem n55_1 : RegR Cx 55 c55_1 o55_1 := run_region
def o55_3 : List AO := [oA 13 (.move (tm 0)) 9,
  oA 14 (cF 61 #[(tm 13), (ci 0)] #[9, 3]) 96,
  oA 12 (.move (tm 14)) 96,
  oA 15 (.extract (tm 12) 0) 3,
  oA 16 (.extract (tm 12) 1) 3,
  oA 17 (.extract (tm 12) 2) 39,
  oA 5 (.assign (tm 15)) 3,
  oA 6 (.assign (tm 16)) 3,
  oA 7 (.assign (tm 17)) 39]
def c55_3 : AC := .region o55_3 []
theorem n55_3 : RegR Cx 55 c55_3 o55_3 := run_region
def o55_6 : List AO := [oA 18 (.move (tm 7)) 39,
  oA 19 (.binOp .neq 39 (tm 18) (ci 0) 39) 4]
def c55_6 : AC := .region o55_6 []
theorem n55_6 : RegR Cx 55 c55_6 o55_6 := run_region
def o55_9 : List AO := [oA 20 (.build 35 #[]) 35,
  oA 21 (.move (tm 7)) 39,
  oN (.store 35 (tm 2) (tm 20)) 0,
  oA 3 (.assign (ci 0)) 3,
  oA 4 (.assign (tm 21)) 39]
def c55_9 : AC := .region o55_9 []
theorem n55_9 : RegR Cx 55 c55_9 o55_9 := run_region
def c55_10 : AC := .ret
theorem n55_10 : RetR Cx 55 c55_10 := run_ret
def c55_8 : AC := .seq c55_9 c55_10
theorem n55_8 : SeqR Cx 55 c55_8 c55_9 c55_10 := run_seq
def c55_11 : AC := .skip
theorem n55_11 : SkipR Cx 55 c55_11 := run_skip
def c55_7 : AC := .cond (tm 19) c55_8 c55_11
theorem n55_7 : CondR Cx 55 c55_7 (tm 19) c55_8 c55_11 := run_condC
def c55_5 : AC := .seq c55_6 c55_7
theorem n55_5 : SeqR Cx 55 c55_5 c55_6 c55_7 := run_seq
def o55_13 : List AO := [oA 22 (.move (tm 5)) 3,
  oA 23 (.build 35 #[(1, (tm 22))]) 35,
  oA 8 (.alloc 35) 0,
  oN (.store 35 (tm 8) (tm 23)) 0]
def c55_13 : AC := .region o55_13 []
theorem n55_13 : RegR Cx 55 c55_13 o55_13 := run_region
def o55_16 : List AO := [oA 24 (.move (tm 6)) 3,
  oA 25 (.move (tm 0)) 9,
  oA 26 (cB .len #[(tm 25)] #[9]) 3,
  oA 27 (.binOp .lss 3 (tm 24) (tm 26) 3) 4,
  oA 28 (.move (tm 27)) 4,
  oG 29 (.move (tm 0)) 9 28 true,
  oG 30 (.move (tm 6)) 3 28 true,
  oG 31 (.index 9 (tm 29) (tm 30)) 5 28 true,
  oG 32 (.binOp .eql 5 (tm 31) (.const (.int .u8 58)) 5) 4 28 true,
  oA 33 (.pick (tm 28) (tm 32) (.const (.bool false))) 4]
def c55_16 : AC := .region o55_16 []
theorem n55_16 : RegR Cx 55 c55_16 o55_16 := run_region
def o55_19 : List AO := [oA 35 (.move (tm 0)) 9,
  oA 36 (.move (tm 6)) 3,
  oA 37 (.binOp .add 3 (tm 36) (ci 1) 3) 3,
  oA 38 (cF 61 #[(tm 35), (tm 37)] #[9, 3]) 96,
  oA 34 (.move (tm 38)) 96,
  oA 39 (.extract (tm 34) 0) 3,
  oA 40 (.extract (tm 34) 1) 3,
  oA 41 (.extract (tm 34) 2) 39,
  oA 9 (.assign (tm 39)) 3,
  oA 10 (.assign (tm 40)) 3,
  oA 11 (.assign (tm 41)) 39]
def c55_19 : AC := .region o55_19 []
theorem n55_19 : RegR Cx 55 c55_19 o55_19 := run_region
def o55_22 : List AO := [oA 42 (.move (tm 11)) 39,
  oA 43 (.binOp .neq 39 (tm 42) (ci 0) 39) 4]
def c55_22 : AC := .region o55_22 []
theorem n55_22 : RegR Cx 55 c55_22 o55_22 := run_region
def o55_25 : List AO := [oA 44 (.build 35 #[]) 35,
  oA 45 (.move (tm 11)) 39,
  oN (.store 35 (tm 2) (tm 44)) 0,
  oA 3 (.assign (ci 0)) 3,
  oA 4 (.assign (tm 45)) 39]
def c55_25 : AC := .region o55_25 []
theorem n55_25 : RegR Cx 55 c55_25 o55_25 := run_region
def c55_26 : AC := .ret
theorem n55_26 : RetR Cx 55 c55_26 := run_ret
def c55_24 : AC := .seq c55_25 c55_26
theorem n55_24 : SeqR Cx 55 c55_24 c55_25 c55_26 := run_seq
def c55_27 : AC := .skip
theorem n55_27 : SkipR Cx 55 c55_27 := run_skip
def c55_23 : AC := .cond (tm 43) c55_24 c55_27
theorem n55_23 : CondR Cx 55 c55_23 (tm 43) c55_24 c55_27 := run_condC
def c55_21 : AC := .seq c55_22 c55_23
theorem n55_21 : SeqR Cx 55 c55_21 c55_22 c55_23 := run_seq
def o55_28 : List AO := [oA 46 (.move (tm 5)) 3,
  oA 47 (.move (tm 9)) 3,
  oA 48 (.build 33 #[(0, (tm 46)), (1, (tm 47))]) 33,
  oA 49 (.build 35 #[(0, (ci 2)), (3, (tm 48))]) 35,
  oA 50 (.move (tm 10)) 3,
  oN (.store 35 (tm 8) (tm 49)) 0,
  oA 6 (.assign (tm 50)) 3]
def c55_28 : AC := .region o55_28 []
theorem n55_28 : RegR Cx 55 c55_28 o55_28 := run_region
def c55_20 : AC := .seq c55_21 c55_28
theorem n55_20 : SeqR Cx 55 c55_20 c55_21 c55_28 := run_seq
def c55_18 : AC := .seq c55_19 c55_20
theorem n55_18 : SeqR Cx 55 c55_18 c55_19 c55_20 := run_seq
def c55_29 : AC := .skip
theorem n55_29 : SkipR Cx 55 c55_29 := run_skip
def c55_17 : AC := .cond (tm 33) c55_18 c55_29
theorem n55_17 : CondR Cx 55 c55_17 (tm 33) c55_18 c55_29 := run_condC
def c55_15 : AC := .seq c55_16 c55_17
theorem n55_15 : SeqR Cx 55 c55_15 c55_16 c55_17 := run_seq
def o55_32 : List AO := [oA 51 (.load 35 (tm 8)) 35,
  oA 52 (cF 49 #[(tm 51)] #[35]) 4,
  oA 53 (.unOp .not 4 (tm 52)) 4]
def c55_32 : AC := .region o55_32 []
theorem n55_32 : RegR Cx 55 c55_32 o55_32 := run_region
def o55_35 : List AO := [oA 54 (.build 35 #[]) 35,
  oN (.store 35 (tm 2) (tm 54)) 0,
  oA 3 (.assign (ci 0)) 3,
  oA 4 (.assign (ci 14)) 39]
def c55_35 : AC := .region o55_35 []
theorem n55_35 : RegR Cx 55 c55_35 o55_35 := run_region
def c55_36 : AC := .ret
theorem n55_36 : RetR Cx 55 c55_36 := run_ret
def c55_34 : AC := .seq c55_35 c55_36
theorem n55_34 : SeqR Cx 55 c55_34 c55_35 c55_36 := run_seq
def c55_37 : AC := .skip
theorem n55_37 : SkipR Cx 55 c55_37 := run_skip
def c55_33 : AC := .cond (tm 53) c55_34 c55_37
theorem n55_33 : CondR Cx 55 c55_33 (tm 53) c55_34 c55_37 := run_condC
def c55_31 : AC := .seq c55_32 c55_33
theorem n55_31 : SeqR Cx 55 c55_31 c55_32 c55_33 := run_seq
def o55_39 : List AO := [oA 55 (.load 35 (tm 8)) 35,
  oA 56 (.move (tm 6)) 3,
  oN (.store 35 (tm 2) (tm 55)) 0,
  oA 3 (.assign (tm 56)) 3,
  oA 4 (.assign (ci 0)) 39]
def c55_39 : AC := .region o55_39 []
theorem n55_39 : RegR Cx 55 c55_39 o55_39 := run_region
def c55_40 : AC := .ret
theorem n55_40 : RetR Cx 55 c55_40 := run_ret
def c55_38 : AC := .seq c55_39 c55_40
theorem n55_38 : SeqR Cx 55 c55_38 c55_39 c55_40 := run_seq
def c55_30 : AC := .seq c55_31 c55_38
theorem n55_30 : SeqR Cx 55 c55_30 c55_31 c55_38 := run_seq
def c55_14 : AC := .seq c55_15 c55_30
theorem n55_14 : SeqR Cx 55 c55_14 c55_15 c55_30 := run_seq
def c55_12 : AC := .seq c55_13 c55_14
theorem n55_12 : SeqR Cx 55 c55_12 c55_13 c55_14 := run_seq
def c55_4 : AC := .seq c55_5 c55_12
theorem n55_4 : SeqR Cx 55 c55_4 c55_5 c55_12 := run_seq
def c55_2 : AC := .seq c55_3 c55_4
theorem n55_2 : SeqR Cx 55 c55_2 c55_3 c55_4 := run_seq
def c55_0 : AC := .seq c55_1 c55_2
theorem n55_0 : SeqR Cx 55 c55_0 c55_1 c55_2 := run_seq
theorem body55 : bodyOf Cx 55 = some c55_0 := by kernel_rfl
theorem res55 : resOf Cx 55 = some [.cell 2 35, .tmp 3, .tmp 4] := by kernel_rfl
theorem pure55 : Cx.pure 55 = true := by kernel_rfl
def o56_1 : List AO := [oA 1 (.box 33 (tm 0)) 0,
  oA 2 (.assign (.const (.bool false))) 4]
def c56_1 : AC := .region o56_1 []
theorem n56_1 : RegR Cx 56 c56_1 o56_1 := run_region
def o56_3 : List AO := [oA 3 (.fieldAddr 33 (tm 1) 0) 0,
  oA 4 (.load 3 (tm 3)) 3,
  oA 5 (.binOp .geq 3 (tm 4) (ci (-16777216)) 3) 4,
  oA 6 (.move (tm 5)) 4,
  oG 7 (.fieldAddr 33 (tm 1) 0) 0 6 true,
  oG 8 (.load 3 (tm 7)) 3 6 true,
  oG 9 (.binOp .leq 3 (tm 8) (ci 16777216) 3) 4 6 true,
  oA 10 (.pick (tm 6) (tm 9) (.const (.bool false))) 4,
  oA 11 (.move (tm 10)) 4,
  oG 12 (.fieldAddr 33 (tm 1) 1) 0 11 true,
  oG 13 (.load 3 (tm 12)) 3 11 true,
  oG 14 (.binOp .geq 3 (tm 13) (ci (-16777216)) 3) 4 11 true,
  oA 15 (.pick (tm 11) (tm 14) (.const (.bool false))) 4,
  oA 16 (.move (tm 15)) 4,
  oG 17 (.fieldAddr 33 (tm 1) 1) 0 16 true,
  oG 18 (.load 3 (tm 17)) 3 16 true,
  oG 19 (.binOp .leq 3 (tm 18) (ci 16777216) 3) 4 16 true,
  oA 20 (.pick (tm 16) (tm 19) (.const (.bool false))) 4,
  oA 2 (.assign (tm 20)) 4]
def c56_3 : AC := .region o56_3 []
theorem n56_3 : RegR Cx 56 c56_3 o56_3 := run_region
def c56_4 : AC := .ret
theorem n56_4 : RetR Cx 56 c56_4 := run_ret
def c56_2 : AC := .seq c56_3 c56_4
theorem n56_2 : SeqR Cx 56 c56_2 c56_3 c56_4 := run_seq
def c56_0 : AC := .seq c56_1 c56_2
theorem n56_0 : SeqR Cx 56 c56_0 c56_1 c56_2 := run_seq
theorem body56 : bodyOf Cx 56 = some c56_0 := by kernel_rfl
theorem res56 : resOf Cx 56 = some [.tmp 2] := by kernel_rfl
theorem pure56 : Cx.pure 56 = true := by kernel_rfl
def o57_1 : List AO := [oA 1 (.box 33 (tm 0)) 0,
  oA 2 (.assign (.const (.bool false))) 4]
def c57_1 : AC := .region o57_1 []
theorem n57_1 : RegR Cx 57 c57_1 o57_1 := run_region
def o57_3 : List AO := [oA 3 (.fieldAddr 33 (tm 1) 0) 0,
  oA 4 (.load 3 (tm 3)) 3,
  oA 5 (cF 62 #[(tm 4)] #[3]) 4,
  oA 6 (.move (tm 5)) 4,
  oG 7 (.fieldAddr 33 (tm 1) 1) 0 6 true,
  oG 8 (.load 3 (tm 7)) 3 6 true,
  oG 9 (cF 62 #[(tm 8)] #[3]) 4 6 true,
  oA 10 (.pick (tm 6) (tm 9) (.const (.bool false))) 4,
  oA 2 (.assign (tm 10)) 4]
def c57_3 : AC := .region o57_3 []
theorem n57_3 : RegR Cx 57 c57_3 o57_3 := run_region
def c57_4 : AC := .ret
theorem n57_4 : RetR Cx 57 c57_4 := run_ret
def c57_2 : AC := .seq c57_3 c57_4
theorem n57_2 : SeqR Cx 57 c57_2 c57_3 c57_4 := run_seq
def c57_0 : AC := .seq c57_1 c57_2
theorem n57_0 : SeqR Cx 57 c57_0 c57_1 c57_2 := run_seq
theorem body57 : bodyOf Cx 57 = some c57_0 := by kernel_rfl
theorem res57 : resOf Cx 57 = some [.tmp 2] := by kernel_rfl
theorem pure57 : Cx.pure 57 = true := by kernel_rfl
def o59_1 : List AO := [oA 2 (.assign (.const (.bool false))) 4]
def c59_1 : AC := .region o59_1 []
theorem n59_1 : RegR Cx 59 c59_1 o59_1 := run_region
def o59_3 : List AO := [oA 3 (.move (tm 0)) 5,
  oA 4 (.binOp .geq 5 (tm 3) (.const (.int .u8 32)) 5) 4,
  oA 5 (.move (tm 4)) 4,
  oG 6 (.move (tm 0)) 5 5 true,
  oG 7 (.binOp .leq 5 (tm 6) (.const (.int .u8 126)) 5) 4 5 true,
  oA 8 (.pick (tm 5) (tm 7) (.const (.bool false))) 4,
  oA 9 (.move (tm 8)) 4,
  oG 10 (.move (tm 0)) 5 9 true,
  oG 11 (.binOp .neq 5 (tm 10) (.const (.int .u8 34)) 5) 4 9 true,
  oA 12 (.pick (tm 9) (tm 11) (.const (.bool false))) 4,
  oA 13 (.move (tm 12)) 4,
  oG 14 (.move (tm 0)) 5 13 true,
  oG 15 (.binOp .neq 5 (tm 14) (.const (.int .u8 92)) 5) 4 13 true,
  oA 16 (.pick (tm 13) (tm 15) (.const (.bool false))) 4,
  oA 2 (.assign (tm 16)) 4]
def c59_3 : AC := .region o59_3 []
theorem n59_3 : RegR Cx 59 c59_3 o59_3 := run_region
def c59_4 : AC := .ret
theorem n59_4 : RetR Cx 59 c59_4 := run_ret
def c59_2 : AC := .seq c59_3 c59_4
theorem n59_2 : SeqR Cx 59 c59_2 c59_3 c59_4 := run_seq
def c59_0 : AC := .seq c59_1 c59_2
theorem n59_0 : SeqR Cx 59 c59_0 c59_1 c59_2 := run_seq
theorem body59 : bodyOf Cx 59 = some c59_0 := by kernel_rfl
theorem res59 : resOf Cx 59 = some [.tmp 2] := by kernel_rfl
theorem pure59 : Cx.pure 59 = true := by kernel_rfl
def o60_1 : List AO := [oA 4 (.assign (.const (.int .u8 0))) 5,
  oA 5 (.assign (ci 0)) 39]
def c60_1 : AC := .region o60_1 []
theorem n60_1 : RegR Cx 60 c60_1 o60_1 := run_region
def o60_3 : List AO := [oA 6 (.assign (ci 0)) 3]
def c60_3 : AC := .region o60_3 []
theorem n60_3 : RegR Cx 60 c60_3 o60_3 := run_region
def o60_6 : List AO := [oA 9 (.move (tm 1)) 3,
  oA 7 (.assign (tm 9)) 3]
def c60_6 : AC := .region o60_6 []
theorem n60_6 : RegR Cx 60 c60_6 o60_6 := run_region
def o60_11 : List AO := [oA 10 (.move (tm 7)) 3,
  oA 11 (.move (tm 1)) 3,
  oA 12 (.binOp .add 3 (tm 11) (ci 2) 3) 3,
  oA 13 (.binOp .lss 3 (tm 10) (tm 12) 3) 4]
def c60_11 : AC := .region o60_11 []
theorem n60_11 : RegR Cx 60 c60_11 o60_11 := run_region
def c60_13 : AC := .skip
theorem n60_13 : SkipR Cx 60 c60_13 := run_skip
def c60_14 : AC := .exit 0
theorem n60_14 : ExitR Cx 60 c60_14 0 := run_exit_start
def c60_12 : AC := .cond (tm 13) c60_13 c60_14
theorem n60_12 : CondR Cx 60 c60_12 (tm 13) c60_13 c60_14 := run_condC
def c60_10 : AC := .seq c60_11 c60_12
theorem n60_10 : SeqR Cx 60 c60_10 c60_11 c60_12 := run_seq
def o60_19 : List AO := [oA 16 (.move (tm 7)) 3,
  oA 17 (.move (tm 0)) 9,
  oA 18 (cB .len #[(tm 17)] #[9]) 3,
  oA 19 (.binOp .geq 3 (tm 16) (tm 18) 3) 4]
def c60_19 : AC := .region o60_19 []
theorem n60_19 : RegR Cx 60 c60_19 o60_19 := run_region
def o60_22 : List AO := [oA 4 (.assign (.const (.int .u8 0))) 5,
  oA 5 (.assign (ci 2)) 39]
def c60_22 : AC := .region o60_22 []
theorem n60_22 : RegR Cx 60 c60_22 o60_22 := run_region
def c60_23 : AC := .ret
theorem n60_23 : RetR Cx 60 c60_23 := run_ret
def c60_21 : AC := .seq c60_22 c60_23
theorem n60_21 : SeqR Cx 60 c60_21 c60_22 c60_23 := run_seq
def c60_24 : AC := .skip
theorem n60_24 : SkipR Cx 60 c60_24 := run_skip
def c60_20 : AC := .cond (tm 19) c60_21 c60_24
theorem n60_20 : CondR Cx 60 c60_20 (tm 19) c60_21 c60_24 := run_condC
def c60_18 : AC := .seq c60_19 c60_20
theorem n60_18 : SeqR Cx 60 c60_18 c60_19 c60_20 := run_seq
def o60_26 : List AO := [oA 20 (.move (tm 0)) 9,
  oA 21 (.move (tm 7)) 3,
  oA 22 (.index 9 (tm 20) (tm 21)) 5,
  oA 23 (cF 63 #[(.const (.string ⟨#[48, 49, 50, 51, 52, 53, 54, 55, 56, 57, 97, 98, 99, 100, 101, 102]⟩)), (tm 22)] #[9, 5]) 3,
  oA 8 (.assign (tm 23)) 3]
def c60_26 : AC := .region o60_26 []
theorem n60_26 : RegR Cx 60 c60_26 o60_26 := run_region
def o60_29 : List AO := [oA 24 (.move (tm 8)) 3,
  oA 25 (.binOp .lss 3 (tm 24) (ci 0) 3) 4]
def c60_29 : AC := .region o60_29 []
theorem n60_29 : RegR Cx 60 c60_29 o60_29 := run_region
def o60_32 : List AO := [oA 4 (.assign (.const (.int .u8 0))) 5,
  oA 5 (.assign (ci 6)) 39]
def c60_32 : AC := .region o60_32 []
theorem n60_32 : RegR Cx 60 c60_32 o60_32 := run_region
def c60_33 : AC := .ret
theorem n60_33 : RetR Cx 60 c60_33 := run_ret
def c60_31 : AC := .seq c60_32 c60_33
theorem n60_31 : SeqR Cx 60 c60_31 c60_32 c60_33 := run_seq
def c60_34 : AC := .skip
theorem n60_34 : SkipR Cx 60 c60_34 := run_skip
def c60_30 : AC := .cond (tm 25) c60_31 c60_34
theorem n60_30 : CondR Cx 60 c60_30 (tm 25) c60_31 c60_34 := run_condC
def c60_28 : AC := .seq c60_29 c60_30
theorem n60_28 : SeqR Cx 60 c60_28 c60_29 c60_30 := run_seq
def o60_35 : List AO := [oA 26 (.move (tm 6)) 3,
  oA 27 (.binOp .mul 3 (ci 16) (tm 26) 3) 3,
  oA 28 (.move (tm 8)) 3,
  oA 29 (.binOp .add 3 (tm 27) (tm 28) 3) 3,
  oA 6 (.assign (tm 29)) 3]
def c60_35 : AC := .region o60_35 []
theorem n60_35 : RegR Cx 60 c60_35 o60_35 := run_region
def c60_27 : AC := .seq c60_28 c60_35
theorem n60_27 : SeqR Cx 60 c60_27 c60_28 c60_35 := run_seq
def c60_25 : AC := .seq c60_26 c60_27
theorem n60_25 : SeqR Cx 60 c60_25 c60_26 c60_27 := run_seq
def c60_17 : AC := .seq c60_18 c60_25
theorem n60_17 : SeqR Cx 60 c60_17 c60_18 c60_25 := run_seq
def c60_16 : AC := .block 1 c60_17
theorem n60_16 : BlkR Cx 60 c60_16 1 c60_17 := run_block
def o60_36 : List AO := [oA 14 (.move (tm 7)) 3,
  oA 15 (.binOp .add 3 (tm 14) (ci 1) 3) 3,
  oA 7 (.assign (tm 15)) 3]
def c60_36 : AC := .region o60_36 []
theorem n60_36 : RegR Cx 60 c60_36 o60_36 := run_region
def c60_15 : AC := .seq c60_16 c60_36
theorem n60_15 : SeqR Cx 60 c60_15 c60_16 c60_36 := run_seq
def c60_9 : AC := .seq c60_10 c60_15
theorem n60_9 : SeqR Cx 60 c60_9 c60_10 c60_15 := run_seq
def c60_8 : AC := .loop c60_9
theorem n60_8 : LoopR Cx 60 c60_8 c60_9 := run_loop'
def c60_7 : AC := .block 0 c60_8
theorem n60_7 : BlkR Cx 60 c60_7 0 c60_8 := run_block
def c60_5 : AC := .seq c60_6 c60_7
theorem n60_5 : SeqR Cx 60 c60_5 c60_6 c60_7 := run_seq
def o60_39 : List AO := [oA 30 (.move (tm 6)) 3,
  oA 31 (.convert 3 5 (tm 30)) 5,
  oA 32 (cF 59 #[(tm 31)] #[5]) 4]
def c60_39 : AC := .region o60_39 []
theorem n60_39 : RegR Cx 60 c60_39 o60_39 := run_region
def o60_42 : List AO := [oA 4 (.assign (.const (.int .u8 0))) 5,
  oA 5 (.assign (ci 6)) 39]
def c60_42 : AC := .region o60_42 []
theorem n60_42 : RegR Cx 60 c60_42 o60_42 := run_region
def c60_43 : AC := .ret
theorem n60_43 : RetR Cx 60 c60_43 := run_ret
def c60_41 : AC := .seq c60_42 c60_43
theorem n60_41 : SeqR Cx 60 c60_41 c60_42 c60_43 := run_seq
def c60_44 : AC := .skip
theorem n60_44 : SkipR Cx 60 c60_44 := run_skip
def c60_40 : AC := .cond (tm 32) c60_41 c60_44
theorem n60_40 : CondR Cx 60 c60_40 (tm 32) c60_41 c60_44 := run_condC
def c60_38 : AC := .seq c60_39 c60_40
theorem n60_38 : SeqR Cx 60 c60_38 c60_39 c60_40 := run_seq
def o60_46 : List AO := [oA 33 (.move (tm 6)) 3,
  oA 34 (.convert 3 5 (tm 33)) 5,
  oA 4 (.assign (tm 34)) 5,
  oA 5 (.assign (ci 0)) 39]
def c60_46 : AC := .region o60_46 []
theorem n60_46 : RegR Cx 60 c60_46 o60_46 := run_region
def c60_47 : AC := .ret
theorem n60_47 : RetR Cx 60 c60_47 := run_ret
def c60_45 : AC := .seq c60_46 c60_47
theorem n60_45 : SeqR Cx 60 c60_45 c60_46 c60_47 := run_seq
def c60_37 : AC := .seq c60_38 c60_45
theorem n60_37 : SeqR Cx 60 c60_37 c60_38 c60_45 := run_seq
def c60_4 : AC := .seq c60_5 c60_37
theorem n60_4 : SeqR Cx 60 c60_4 c60_5 c60_37 := run_seq
def c60_2 : AC := .seq c60_3 c60_4
theorem n60_2 : SeqR Cx 60 c60_2 c60_3 c60_4 := run_seq
def c60_0 : AC := .seq c60_1 c60_2
theorem n60_0 : SeqR Cx 60 c60_0 c60_1 c60_2 := run_seq
theorem body60 : bodyOf Cx 60 = some c60_0 := by kernel_rfl
theorem res60 : resOf Cx 60 = some [.tmp 4, .tmp 5] := by kernel_rfl
theorem pure60 : Cx.pure 60 = true := by kernel_rfl
def o61_1 : List AO := [oA 4 (.assign (ci 0)) 3,
  oA 5 (.assign (ci 0)) 3,
  oA 6 (.assign (ci 0)) 39]
def c61_1 : AC := .region o61_1 []
theorem n61_1 : RegR Cx 61 c61_1 o61_1 := run_region
def o61_4 : List AO := [oA 7 (.assign (ci 0)) 3,
  oA 8 (.assign (ci 1)) 3]
def c61_4 : AC := .region o61_4 []
theorem n61_4 : RegR Cx 61 c61_4 o61_4 := run_region
def o61_7 : List AO := [oA 10 (.move (tm 1)) 3,
  oA 11 (.move (tm 0)) 9,
  oA 12 (cB .len #[(tm 11)] #[9]) 3,
  oA 13 (.binOp .lss 3 (tm 10) (tm 12) 3) 4,
  oA 14 (.move (tm 13)) 4,
  oG 15 (.move (tm 0)) 9 14 true,
  oG 16 (.move (tm 1)) 3 14 true,
  oG 17 (.index 9 (tm 15) (tm 16)) 5 14 true,
  oG 18 (.binOp .eql 5 (tm 17) (.const (.int .u8 45)) 5) 4 14 true,
  oA 19 (.pick (tm 14) (tm 18) (.const (.bool false))) 4]
def c61_7 : AC := .region o61_7 []
theorem n61_7 : RegR Cx 61 c61_7 o61_7 := run_region
def o61_9 : List AO := [oA 20 (.move (tm 1)) 3,
  oA 21 (.binOp .add 3 (tm 20) (ci 1) 3) 3,
  oA 8 (.assign (ci (-1))) 3,
  oA 1 (.assign (tm 21)) 3]
def c61_9 : AC := .region o61_9 []
theorem n61_9 : RegR Cx 61 c61_9 o61_9 := run_region
def c61_10 : AC := .skip
theorem n61_10 : SkipR Cx 61 c61_10 := run_skip
def c61_8 : AC := .cond (tm 19) c61_9 c61_10
theorem n61_8 : CondR Cx 61 c61_8 (tm 19) c61_9 c61_10 := run_condC
def c61_6 : AC := .seq c61_7 c61_8
theorem n61_6 : SeqR Cx 61 c61_6 c61_7 c61_8 := run_seq
def o61_12 : List AO := [oA 22 (.move (tm 1)) 3,
  oA 9 (.assign (tm 22)) 3]
def c61_12 : AC := .region o61_12 []
theorem n61_12 : RegR Cx 61 c61_12 o61_12 := run_region
def o61_16 : List AO := [oA 24 (.move (tm 1)) 3,
  oA 25 (.move (tm 0)) 9,
  oA 26 (cB .len #[(tm 25)] #[9]) 3,
  oA 27 (.binOp .geq 3 (tm 24) (tm 26) 3) 4,
  oA 23 (.assign (tm 27)) 4]
def c61_16 : AC := .region o61_16 []
theorem n61_16 : RegR Cx 61 c61_16 o61_16 := run_region
def o61_19 : List AO := [oA 4 (.assign (ci 0)) 3,
  oA 5 (.assign (ci 0)) 3,
  oA 6 (.assign (ci 2)) 39]
def c61_19 : AC := .region o61_19 []
theorem n61_19 : RegR Cx 61 c61_19 o61_19 := run_region
def c61_20 : AC := .ret
theorem n61_20 : RetR Cx 61 c61_20 := run_ret
def c61_18 : AC := .seq c61_19 c61_20
theorem n61_18 : SeqR Cx 61 c61_18 c61_19 c61_20 := run_seq
def o61_22 : List AO := [oA 29 (.move (tm 0)) 9,
  oA 30 (.move (tm 1)) 3,
  oA 31 (.index 9 (tm 29) (tm 30)) 5,
  oA 32 (cF 54 #[(tm 31)] #[5]) 4,
  oA 33 (.unOp .not 4 (tm 32)) 4,
  oA 28 (.assign (tm 33)) 4]
def c61_22 : AC := .region o61_22 []
theorem n61_22 : RegR Cx 61 c61_22 o61_22 := run_region
def o61_25 : List AO := [oA 4 (.assign (ci 0)) 3,
  oA 5 (.assign (ci 0)) 3,
  oA 6 (.assign (ci 6)) 39]
def c61_25 : AC := .region o61_25 []
theorem n61_25 : RegR Cx 61 c61_25 o61_25 := run_region
def c61_26 : AC := .ret
theorem n61_26 : RetR Cx 61 c61_26 := run_ret
def c61_24 : AC := .seq c61_25 c61_26
theorem n61_24 : SeqR Cx 61 c61_24 c61_25 c61_26 := run_seq
def c61_27 : AC := .skip
theorem n61_27 : SkipR Cx 61 c61_27 := run_skip
def c61_23 : AC := .cond (tm 28) c61_24 c61_27
theorem n61_23 : CondR Cx 61 c61_23 (tm 28) c61_24 c61_27 := run_condC
def c61_21 : AC := .seq c61_22 c61_23
theorem n61_21 : SeqR Cx 61 c61_21 c61_22 c61_23 := run_seq
def c61_17 : AC := .cond (tm 23) c61_18 c61_21
theorem n61_17 : CondR Cx 61 c61_17 (tm 23) c61_18 c61_21 := run_condC
def c61_15 : AC := .seq c61_16 c61_17
theorem n61_15 : SeqR Cx 61 c61_15 c61_16 c61_17 := run_seq
def c61_14 : AC := .block 0 c61_15
theorem n61_14 : BlkR Cx 61 c61_14 0 c61_15 := run_block
def c61_29 : AC := .label 0
theorem n61_29 : SkipR Cx 61 c61_29 := run_label
def o61_32 : List AO := [oA 34 (.move (tm 1)) 3,
  oA 35 (.move (tm 0)) 9,
  oA 36 (cB .len #[(tm 35)] #[9]) 3,
  oA 37 (.binOp .lss 3 (tm 34) (tm 36) 3) 4,
  oA 38 (.move (tm 37)) 4,
  oG 39 (.move (tm 0)) 9 38 true,
  oG 40 (.move (tm 1)) 3 38 true,
  oG 41 (.index 9 (tm 39) (tm 40)) 5 38 true,
  oG 42 (cF 54 #[(tm 41)] #[5]) 4 38 true,
  oA 43 (.pick (tm 38) (tm 42) (.const (.bool false))) 4]
def c61_32 : AC := .region o61_32 []
theorem n61_32 : RegR Cx 61 c61_32 o61_32 := run_region
def o61_35 : List AO := [oA 44 (.move (tm 7)) 3,
  oA 45 (.binOp .mul 3 (ci 10) (tm 44) 3) 3,
  oA 46 (.move (tm 0)) 9,
  oA 47 (.move (tm 1)) 3,
  oA 48 (.index 9 (tm 46) (tm 47)) 5,
  oA 49 (.binOp .sub 5 (tm 48) (.const (.int .u8 48)) 5) 5,
  oA 50 (.convert 5 3 (tm 49)) 3,
  oA 51 (.binOp .add 3 (tm 45) (tm 50) 3) 3,
  oA 52 (cB .min #[(tm 51), (ci 18014398509481984)] #[3, 3]) 3,
  oA 7 (.assign (tm 52)) 3]
def c61_35 : AC := .region o61_35 []
theorem n61_35 : RegR Cx 61 c61_35 o61_35 := run_region
def o61_37 : List AO := [oA 53 (.move (tm 1)) 3,
  oA 54 (.binOp .add 3 (tm 53) (ci 1) 3) 3,
  oA 1 (.assign (tm 54)) 3]
def c61_37 : AC := .region o61_37 []
theorem n61_37 : RegR Cx 61 c61_37 o61_37 := run_region
def c61_38 : AC := .goto 0
def c61_36 : AC := .seq c61_37 c61_38
theorem n61_36 : SeqR Cx 61 c61_36 c61_37 c61_38 := run_seq
def c61_34 : AC := .seq c61_35 c61_36
theorem n61_34 : SeqR Cx 61 c61_34 c61_35 c61_36 := run_seq
def c61_39 : AC := .skip
theorem n61_39 : SkipR Cx 61 c61_39 := run_skip
def c61_33 : AC := .cond (tm 43) c61_34 c61_39
theorem n61_33 : CondR Cx 61 c61_33 (tm 43) c61_34 c61_39 := run_condC
def c61_31 : AC := .seq c61_32 c61_33
theorem n61_31 : SeqR Cx 61 c61_31 c61_32 c61_33 := run_seq
def o61_42 : List AO := [oA 55 (.move (tm 0)) 9,
  oA 56 (.move (tm 9)) 3,
  oA 57 (.index 9 (tm 55) (tm 56)) 5,
  oA 58 (.binOp .eql 5 (tm 57) (.const (.int .u8 48)) 5) 4,
  oA 59 (.move (tm 58)) 4,
  oG 60 (.move (tm 1)) 3 59 true,
  oG 61 (.move (tm 9)) 3 59 true,
  oG 62 (.binOp .add 3 (tm 61) (ci 1) 3) 3 59 true,
  oG 63 (.binOp .gtr 3 (tm 60) (tm 62) 3) 4 59 true,
  oG 64 (.move (tm 63)) 4 59 true,
  oG 65 (.move (tm 8)) 3 64 false,
  oG 66 (.binOp .lss 3 (tm 65) (ci 0) 3) 4 64 false,
  oG 67 (.pick (tm 64) (.const (.bool true)) (tm 66)) 4 59 true,
  oA 68 (.pick (tm 59) (tm 67) (.const (.bool false))) 4]
def c61_42 : AC := .region o61_42 []
theorem n61_42 : RegR Cx 61 c61_42 o61_42 := run_region
def o61_45 : List AO := [oA 4 (.assign (ci 0)) 3,
  oA 5 (.assign (ci 0)) 3,
  oA 6 (.assign (ci 6)) 39]
def c61_45 : AC := .region o61_45 []
theorem n61_45 : RegR Cx 61 c61_45 o61_45 := run_region
def c61_46 : AC := .ret
theorem n61_46 : RetR Cx 61 c61_46 := run_ret
def c61_44 : AC := .seq c61_45 c61_46
theorem n61_44 : SeqR Cx 61 c61_44 c61_45 c61_46 := run_seq
def c61_47 : AC := .skip
theorem n61_47 : SkipR Cx 61 c61_47 := run_skip
def c61_43 : AC := .cond (tm 68) c61_44 c61_47
theorem n61_43 : CondR Cx 61 c61_43 (tm 68) c61_44 c61_47 := run_condC
def c61_41 : AC := .seq c61_42 c61_43
theorem n61_41 : SeqR Cx 61 c61_41 c61_42 c61_43 := run_seq
def o61_49 : List AO := [oA 69 (.move (tm 8)) 3,
  oA 70 (.move (tm 7)) 3,
  oA 71 (.binOp .mul 3 (tm 69) (tm 70) 3) 3,
  oA 72 (.move (tm 1)) 3,
  oA 4 (.assign (tm 71)) 3,
  oA 5 (.assign (tm 72)) 3,
  oA 6 (.assign (ci 0)) 39]
def c61_49 : AC := .region o61_49 []
theorem n61_49 : RegR Cx 61 c61_49 o61_49 := run_region
def c61_50 : AC := .ret
theorem n61_50 : RetR Cx 61 c61_50 := run_ret
def c61_48 : AC := .seq c61_49 c61_50
theorem n61_48 : SeqR Cx 61 c61_48 c61_49 c61_50 := run_seq
def c61_40 : AC := .seq c61_41 c61_48
theorem n61_40 : SeqR Cx 61 c61_40 c61_41 c61_48 := run_seq
def c61_30 : AC := .seq c61_31 c61_40
theorem n61_30 : SeqR Cx 61 c61_30 c61_31 c61_40 := run_seq
def c61_28 : AC := .seq c61_29 c61_30
theorem n61_28 : SeqR Cx 61 c61_28 c61_29 c61_30 := run_seq
def c61_13 : AC := .seq c61_14 c61_28
theorem n61_13 : SeqR Cx 61 c61_13 c61_14 c61_28 := run_seq
def c61_11 : AC := .seq c61_12 c61_13
theorem n61_11 : SeqR Cx 61 c61_11 c61_12 c61_13 := run_seq
def c61_5 : AC := .seq c61_6 c61_11
theorem n61_5 : SeqR Cx 61 c61_5 c61_6 c61_11 := run_seq
def c61_3 : AC := .seq c61_4 c61_5
theorem n61_3 : SeqR Cx 61 c61_3 c61_4 c61_5 := run_seq
def c61_2 : AC := .scope c61_3
theorem n61_2 : ScopeR Cx 61 c61_2 c61_3 := run_scope
def c61_0 : AC := .seq c61_1 c61_2
theorem n61_0 : SeqR Cx 61 c61_0 c61_1 c61_2 := run_seq
theorem body61 : bodyOf Cx 61 = some c61_0 := by kernel_rfl
theorem res61 : resOf Cx 61 = some [.tmp 4, .tmp 5, .tmp 6] := by kernel_rfl
theorem pure61 : Cx.pure 61 = true := by kernel_rfl
def o62_1 : List AO := [oA 2 (.assign (.const (.bool false))) 4]
def c62_1 : AC := .region o62_1 []
theorem n62_1 : RegR Cx 62 c62_1 o62_1 := run_region
def o62_3 : List AO := [oA 3 (.move (tm 0)) 3,
  oA 4 (.binOp .geq 3 (tm 3) (ci (-16777216)) 3) 4,
  oA 5 (.move (tm 4)) 4,
  oG 6 (.move (tm 0)) 3 5 true,
  oG 7 (.binOp .leq 3 (tm 6) (ci 16777216) 3) 4 5 true,
  oA 8 (.pick (tm 5) (tm 7) (.const (.bool false))) 4,
  oA 2 (.assign (tm 8)) 4]
def c62_3 : AC := .region o62_3 []
theorem n62_3 : RegR Cx 62 c62_3 o62_3 := run_region
def c62_4 : AC := .ret
theorem n62_4 : RetR Cx 62 c62_4 := run_ret
def c62_2 : AC := .seq c62_3 c62_4
theorem n62_2 : SeqR Cx 62 c62_2 c62_3 c62_4 := run_seq
def c62_0 : AC := .seq c62_1 c62_2
theorem n62_0 : SeqR Cx 62 c62_0 c62_1 c62_2 := run_seq
theorem body62 : bodyOf Cx 62 = some c62_0 := by kernel_rfl
theorem res62 : resOf Cx 62 = some [.tmp 2] := by kernel_rfl
theorem pure62 : Cx.pure 62 = true := by kernel_rfl
def o63_1 : List AO := [oA 4 (.assign (ci 0)) 3]
def c63_1 : AC := .region o63_1 []
theorem n63_1 : RegR Cx 63 c63_1 o63_1 := run_region
def o63_3 : List AO := [oA 5 (.move (tm 0)) 9,
  oA 6 (.move (tm 1)) 5,
  oA 7 (cF 64 #[(tm 5), (tm 6)] #[9, 5]) 3,
  oA 4 (.assign (tm 7)) 3]
def c63_3 : AC := .region o63_3 []
theorem n63_3 : RegR Cx 63 c63_3 o63_3 := run_region
def c63_4 : AC := .ret
theorem n63_4 : RetR Cx 63 c63_4 := run_ret
def c63_2 : AC := .seq c63_3 c63_4
theorem n63_2 : SeqR Cx 63 c63_2 c63_3 c63_4 := run_seq
def c63_0 : AC := .seq c63_1 c63_2
theorem n63_0 : SeqR Cx 63 c63_0 c63_1 c63_2 := run_seq
theorem body63 : bodyOf Cx 63 = some c63_0 := by kernel_rfl
theorem res63 : resOf Cx 63 = some [.tmp 4] := by kernel_rfl
theorem pure63 : Cx.pure 63 = true := by kernel_rfl
def o64_1 : List AO := [oA 4 (.assign (ci 0)) 3]
def c64_1 : AC := .region o64_1 []
theorem n64_1 : RegR Cx 64 c64_1 o64_1 := run_region
def o64_3 : List AO := [oA 5 (.move (tm 0)) 9,
  oA 6 (.move (tm 1)) 5,
  oA 7 (cF 65 #[(tm 5), (tm 6)] #[9, 5]) 3,
  oA 4 (.assign (tm 7)) 3]
def c64_3 : AC := .region o64_3 []
theorem n64_3 : RegR Cx 64 c64_3 o64_3 := run_region
def c64_4 : AC := .ret
theorem n64_4 : RetR Cx 64 c64_4 := run_ret
def c64_2 : AC := .seq c64_3 c64_4
theorem n64_2 : SeqR Cx 64 c64_2 c64_3 c64_4 := run_seq
def c64_0 : AC := .seq c64_1 c64_2
theorem n64_0 : SeqR Cx 64 c64_0 c64_1 c64_2 := run_seq
theorem body64 : bodyOf Cx 64 = some c64_0 := by kernel_rfl
theorem res64 : resOf Cx 64 = some [.tmp 4] := by kernel_rfl
theorem pure64 : Cx.pure 64 = true := by kernel_rfl
end
end Go.Proofs.Ytkedlkcknhinoaa.G


namespace Go.Proofs.Ytkedlkcknhinoaa.G
open Go.BX
set_option linter.unusedSimpArgs false
set_option linter.unusedVariables false
theorem pure_cc : Cx.pure 50 = false := by kernel_rfl
theorem ext_cc : Cx.ext 50 = some (copyG 65) := rfl
theorem pure_str : Cx.pure 28 = false := by kernel_rfl
theorem ext_str : Cx.ext 28 = some (strG 65 5) := rfl
variable {fn : FuncId} {T : Nat → AV} {ds : List ADef} {ro : Option Nat} {k : List AItem} {Q : AV → AHeap → Prop} {dst : Option Nat} {os : List AO}
theorem WriteByte_call {n : Nat} {A : Nat → Blk} {b : Nat} {g : Option Nat} {acc : Bytes} {x : UInt8} (h : IsB 65 5 ⟨n, A⟩ b g acc) (hm : acc.length + 1 ≤ most)
    (hk : ∀ H' z, IsB 65 5 H' b (some z) (acc ++ [x]) → Kept ⟨n, A⟩ H' b g (some z) → RunOps Cx fn (putA T dst .nilI) ds ro os k H' Q) :
    RunCall Cx fn T ds ro 39 [.ptr b 2 0 0, .int .u8 (x.toNat : Int)] dst os k ⟨n, A⟩ Q := by
  refine call_body pure39 (noext _) body39 ?_
  obtain ⟨lt, ⟨a, ha, hb⟩, hbuf⟩ := h
  have lt' : b < n := lt
  have e1 : (b = n) = False := eq_false (by omega)
  have e2 : (n = b) = False := eq_false (by omega)
  have e3 : (b = n + 1) = False := eq_false (by omega)
  have e4 : (n = n + 1) = False := eq_false (by omega)
  have e5 : (n + 1 = n) = False := eq_false (by omega)
  have e6 : (n + 1 = b) = False := eq_false (by omega)
  have hm1 : 1 ≤ most := by unfold most; omega
  cases g with
  | none =>
    have hacc : acc = [] := hbuf
    subst hacc
    have hb' : A b = .cells 65 2 [[a, .nilS]] := hb
    have fin : ∀ A', A' b = .cells 65 2 [[.ptr b 2 0 0, .slc (n + 1) 1 0 1]] → A' (n + 1) = .cells 5 1 [[.int .u8 (x.toNat : Int)]] → (∀ d, d < n → d ≠ b → A' d = A d) → RunOps Cx fn (putA T dst .nilI) ds ro os k ⟨n + 1 + 1, A'⟩ Q := by
      intro A' h1 h2 h3
      refine hk _ (n + 1) ⟨(by show b < n + 1 + 1; omega), ⟨_, .inr rfl, h1⟩, (by omega), (by show n + 1 < n + 1 + 1; omega), h2⟩ ⟨(by show n ≤ n + 1 + 1; omega), fun d hd hd2 _ => h3 d hd hd2, .inr ⟨n + 1, rfl, (by show n ≤ n + 1; omega)⟩⟩
    rcases ha with rfl | rfl <;>
    (simp only [hb', e1, e2, e3, e4, e5, e6, hm1, call_ext pure_cc ext_cc, copyG, runVH_some, builtinM, appendA, source, Nat.mul_one, List.length_singleton, n39_0, n39_1, n39_2, n39_3, n39_4, n39_5, n39_6, n39_7, n39_8, o39_1, o39_3, o39_5, o39_7, res39, TT_3, TT_4, TT_5, TT_9, TT_21, TT_22, TT_25, TT_33, TT_35, TT_37, TT_39, TT_47, TT_52, TT_56, TT_59, TT_60, TT_62, TT_63, TT_65, TT_73, TT_77, TT_82, TT_84, bb, primP, primM, ev, evs, parts_, ofConst, bin, un, intBin, putA, enterT, Nat.reduceEqDiff, Nat.reduceAdd, Nat.reduceMul, Nat.reduceLeDiff, Nat.reduceLT, ↓reduceIte, reduceCtorEq, RunRes, resultsA, oneOf, AV.plain, AV.cells, AHeap.push, AHeap.set, AHeap.empty, fieldOf, loadA, storeA, BX.part, TK.isAgg, convA, builtinA, inertB, builtinP, buildA, fillA, splice, eqv, cellsEq, sizeT, adT, ldT, fwT, Nat.reduceBeqDiff, Nat.reduceBneDiff, Int.reduceBNe, Int.reduceBEq, Int.reduceEq, Int.reduceLT, Int.reduceLE, Int.reduceAdd, Int.reduceSub, Int.reduceMul, Int.reduceNeg, strBin, indexAddrA, elems, lenOf, chunk, List.reduceReplicate, Int.reduceToNat]
     refine fin _ ?_ ?_ ?_
     · simp only [upd_app, e1, e2, e3, e4, e5, e6, ↓reduceIte]
     · simp only [upd_app, e1, e2, e3, e4, e5, e6, ↓reduceIte]
     · intro d h1 h2
       simp only [upd_app, h2, show (d = n) = False from eq_false (by omega), show (d = n + 1) = False from eq_false (by omega), ↓reduceIte])
  | some g =>
    obtain ⟨hgb, hgn, hg⟩ := hbuf
    have hgn' : g < n := hgn
    have hg' : A g = .cells 5 1 (ofBytes acc) := hg
    have hb' : A b = .cells 65 2 [[a, .slc g 1 0 acc.length]] := hb
    have f1 : (g = n) = False := eq_false (by omega)
    have f2 : (n = g) = False := eq_false (by omega)
    have f3 : (g = n + 1) = False := eq_false (by omega)
    have f4 : (n + 1 = g) = False := eq_false (by omega)
    have f5 : (g = b) = False := eq_false hgb
    have f6 : (b = g) = False := eq_false (fun e => hgb e.symm)
    have f7 : (acc.length ≤ (ofBytes acc).length) = True := eq_true (by rw [len_ofB]; omega)
    have f8 : acc.length + 1 ≤ most := hm
    have fin : ∀ A', A' b = .cells 65 2 [[.ptr b 2 0 0, .slc (n + 1) 1 0 (acc.length + 1)]] → A' (n + 1) = .cells 5 1 (ofBytes acc ++ [[.int .u8 (x.toNat : Int)]]) → (∀ d, d < n → d ≠ b → d ≠ g → A' d = A d) → RunOps Cx fn (putA T dst .nilI) ds ro os k ⟨n + 1 + 1, A'⟩ Q := by
      intro A' h1 h2 h3
      rw [ofB_snoc] at h2
      refine hk _ (n + 1) ⟨(by show b < n + 1 + 1; omega), ⟨_, .inr rfl, by rw [List.length_append]; exact h1⟩, (by omega), (by show n + 1 < n + 1 + 1; omega), h2⟩ ⟨(by show n ≤ n + 1 + 1; omega), fun d hd hd2 hd3 => h3 d hd hd2 (fun e => hd3 (by rw [e])), .inr ⟨n + 1, rfl, (by show n ≤ n + 1; omega)⟩⟩
    rcases ha with rfl | rfl <;>
    (simp only [hb', hg', e1, e2, e3, e4, e5, e6, f1, f2, f3, f4, f5, f6, f7, f8, take_ofB, call_ext pure_cc ext_cc, copyG, runVH_some, builtinM, appendA, source, Nat.mul_one, List.length_singleton, n39_0, n39_1, n39_2, n39_3, n39_4, n39_5, n39_6, n39_7, n39_8, o39_1, o39_3, o39_5, o39_7, res39, TT_3, TT_4, TT_5, TT_9, TT_21, TT_22, TT_25, TT_33, TT_35, TT_37, TT_39, TT_47, TT_52, TT_56, TT_59, TT_60, TT_62, TT_63, TT_65, TT_73, TT_77, TT_82, TT_84, bb, primP, primM, ev, evs, parts_, ofConst, bin, un, intBin, putA, enterT, Nat.reduceEqDiff, Nat.reduceAdd, Nat.reduceMul, Nat.reduceLeDiff, Nat.reduceLT, ↓reduceIte, reduceCtorEq, RunRes, resultsA, oneOf, AV.plain, AV.cells, AHeap.push, AHeap.set, AHeap.empty, fieldOf, loadA, storeA, BX.part, TK.isAgg, convA, builtinA, inertB, builtinP, buildA, fillA, splice, eqv, cellsEq, sizeT, adT, ldT, fwT, Nat.reduceBeqDiff, Nat.reduceBneDiff, Int.reduceBNe, Int.reduceBEq, Int.reduceEq, Int.reduceLT, Int.reduceLE, Int.reduceAdd, Int.reduceSub, Int.reduceMul, Int.reduceNeg, strBin, indexAddrA, elems, lenOf, chunk, List.reduceReplicate, Int.reduceToNat]
     refine fin _ ?_ ?_ ?_
     · simp only [upd_app, e1, e2, e3, e4, e5, e6, f1, f2, f3, f4, f5, f6, ↓reduceIte]
     · simp only [upd_app, e1, e2, e3, e4, e5, e6, f1, f2, f3, f4, f5, f6, ↓reduceIte]
     · intro d h1 h2 h3
       simp only [upd_app, h2, h3, show (d = n) = False from eq_false (by omega), show (d = n + 1) = False from eq_false (by omega), ↓reduceIte])
end Go.Proofs.Ytkedlkcknhinoaa.G

namespace Go.Proofs.Ytkedlkcknhinoaa.G
open Go.BX
set_option linter.unusedSimpArgs false
set_option linter.unusedVariables false
variable {fn : FuncId} {T : Nat → AV} {ds : List ADef} {ro : Option Nat} {k : List AItem} {Q : AV → AHeap → Prop} {dst : Option Nat} {os : List AO}
theorem WriteString_call {n : Nat} {A : Nat → Blk} {b : Nat} {g : Option Nat} {acc s : Bytes} (h : IsB 65 5 ⟨n, A⟩ b g acc) (hm : acc.length + s.length ≤ most)
    (hk : ∀ H' g', IsB 65 5 H' b g' (acc ++ s) → Kept ⟨n, A⟩ H' b g g' → RunOps Cx fn (putA T dst (.tuple [.int .i64 (s.length : Int), .nilI])) ds ro os k H' Q) :
    RunCall Cx fn T ds ro 36 [.ptr b 2 0 0, .str s] dst os k ⟨n, A⟩ Q := by
  refine call_body pure36 (noext _) body36 ?_
  obtain ⟨lt, ⟨a, ha, hb⟩, hbuf⟩ := h
  have lt' : b < n := lt
  have e1 : (b = n) = False := eq_false (by omega)
  have e2 : (n = b) = False := eq_false (by omega)
  have hl : s.length ≤ most := by omega
  by_cases hs : s = []
  · subst hs
    have hz : (ofBytes ([] : Bytes) = []) = True := eq_true rfl
    cases g with
    | none =>
      have hacc : acc = [] := hbuf
      subst hacc
      have hb' : A b = .cells 65 2 [[a, .nilS]] := hb
      have fin : ∀ A', A' b = .cells 65 2 [[.ptr b 2 0 0, .nilS]] → (∀ d, d < n → d ≠ b → A' d = A d) → RunOps Cx fn (putA T dst (.tuple [.int .i64 (([] : Bytes).length : Int), .nilI])) ds ro os k ⟨n, A'⟩ Q := by
        intro A' h1 h3
        exact hk _ none ⟨lt, ⟨_, .inr rfl, h1⟩, rfl⟩ ⟨Nat.le_refl _, fun d hd hd2 _ => h3 d hd hd2, .inl rfl⟩
      rcases ha with rfl | rfl <;>
      (simp only [hb', e1, e2, hz, call_ext pure_cc ext_cc, copyG, runVH_some, builtinM, appendA, source, Nat.mul_one, n36_0, n36_1, n36_2, n36_3, n36_4, n36_5, n36_6, n36_7, n36_8, o36_1, o36_3, o36_5, o36_7, res36, TT_3, TT_4, TT_5, TT_9, TT_21, TT_22, TT_25, TT_33, TT_35, TT_37, TT_39, TT_47, TT_52, TT_56, TT_59, TT_60, TT_62, TT_63, TT_65, TT_73, TT_77, TT_82, TT_84, bb, primP, primM, ev, evs, parts_, ofConst, bin, un, intBin, putA, enterT, Nat.reduceEqDiff, Nat.reduceAdd, Nat.reduceMul, Nat.reduceLeDiff, Nat.reduceLT, ↓reduceIte, reduceCtorEq, RunRes, resultsA, oneOf, AV.plain, AV.cells, AHeap.push, AHeap.set, AHeap.empty, fieldOf, loadA, storeA, BX.part, TK.isAgg, convA, builtinA, inertB, builtinP, buildA, fillA, splice, eqv, cellsEq, sizeT, adT, ldT, fwT, Nat.reduceBeqDiff, Nat.reduceBneDiff, Int.reduceBNe, Int.reduceBEq, Int.reduceEq, Int.reduceLT, Int.reduceLE, Int.reduceAdd, Int.reduceSub, Int.reduceMul, Int.reduceNeg, strBin, indexAddrA, elems, lenOf, chunk, List.reduceReplicate, Int.reduceToNat]
       refine fin _ ?_ ?_
       · simp only [upd_app, e1, e2, ↓reduceIte]
       · intro d h1 h2
         simp only [upd_app, h2, ↓reduceIte])
    | some g =>
      obtain ⟨hgb, hgn, hg⟩ := hbuf
      have hgn' : g < n := hgn
      have hg' : A g = .cells 5 1 (ofBytes acc) := hg
      have hb' : A b = .cells 65 2 [[a, .slc g 1 0 acc.length]] := hb
      have f5 : (g = b) = False := eq_false hgb
      have f6 : (b = g) = False := eq_false (fun e => hgb e.symm)
      have f7 : (acc.length ≤ (ofBytes acc).length) = True := eq_true (by rw [len_ofB]; omega)
      have f8 : acc.length ≤ most := by omega
      have fin : ∀ A', A' b = .cells 65 2 [[.ptr b 2 0 0, .slc g 1 0 acc.length]] → A' g = A g → (∀ d, d < n → d ≠ b → d ≠ g → A' d = A d) → RunOps Cx fn (putA T dst (.tuple [.int .i64 (([] : Bytes).length : Int), .nilI])) ds ro os k ⟨n, A'⟩ Q := by
        intro A' h1 h2 h3
        refine hk _ (some g) ⟨lt, ⟨_, .inr rfl, by rw [List.append_nil]; exact h1⟩, hgb, hgn, by rw [List.append_nil]; exact h2.trans hg'⟩ ⟨Nat.le_refl _, fun d hd hd2 hd3 => h3 d hd hd2 (fun e => hd3 (by rw [e])), .inl rfl⟩
      rcases ha with rfl | rfl <;>
      (simp only [hb', hg', e1, e2, f5, f6, f7, f8, hz, call_ext pure_cc ext_cc, copyG, runVH_some, builtinM, appendA, source, Nat.mul_one, len_ofB, n36_0, n36_1, n36_2, n36_3, n36_4, n36_5, n36_6, n36_7, n36_8, o36_1, o36_3, o36_5, o36_7, res36, TT_3, TT_4, TT_5, TT_9, TT_21, TT_22, TT_25, TT_33, TT_35, TT_37, TT_39, TT_47, TT_52, TT_56, TT_59, TT_60, TT_62, TT_63, TT_65, TT_73, TT_77, TT_82, TT_84, bb, primP, primM, ev, evs, parts_, ofConst, bin, un, intBin, putA, enterT, Nat.reduceEqDiff, Nat.reduceAdd, Nat.reduceMul, Nat.reduceLeDiff, Nat.reduceLT, ↓reduceIte, reduceCtorEq, RunRes, resultsA, oneOf, AV.plain, AV.cells, AHeap.push, AHeap.set, AHeap.empty, fieldOf, loadA, storeA, BX.part, TK.isAgg, convA, builtinA, inertB, builtinP, buildA, fillA, splice, eqv, cellsEq, sizeT, adT, ldT, fwT, Nat.reduceBeqDiff, Nat.reduceBneDiff, Int.reduceBNe, Int.reduceBEq, Int.reduceEq, Int.reduceLT, Int.reduceLE, Int.reduceAdd, Int.reduceSub, Int.reduceMul, Int.reduceNeg, strBin, indexAddrA, elems, lenOf, chunk, List.reduceReplicate, Int.reduceToNat]
       refine fin _ ?_ ?_ ?_
       · simp only [upd_app, e1, e2, f5, f6, ↓reduceIte]
       · simp only [upd_app, e1, e2, f5, f6, ↓reduceIte]
       · intro d h1 h2 h3
         simp only [upd_app, h2, h3, ↓reduceIte])
  · have hz : (ofBytes s = []) = False := eq_false (by simpa [ofBytes] using hs)
    cases g with
    | none =>
      have hacc : acc = [] := hbuf
      subst hacc
      have hb' : A b = .cells 65 2 [[a, .nilS]] := hb
      have fin : ∀ A', A' b = .cells 65 2 [[.ptr b 2 0 0, .slc n 1 0 s.length]] → A' n = .cells 5 1 (ofBytes s) → (∀ d, d < n → d ≠ b → A' d = A d) → RunOps Cx fn (putA T dst (.tuple [.int .i64 (s.length : Int), .nilI])) ds ro os k ⟨n + 1, A'⟩ Q := by
        intro A' h1 h2 h3
        exact hk _ (some n) ⟨(by show b < n + 1; omega), ⟨_, .inr rfl, h1⟩, (by omega), (by show n < n + 1; omega), h2⟩ ⟨(by show n ≤ n + 1; omega), fun d hd hd2 _ => h3 d hd hd2, .inr ⟨n, rfl, Nat.le_refl _⟩⟩
      rcases ha with rfl | rfl <;>
      (simp only [hb', e1, e2, hz, hl, call_ext pure_cc ext_cc, copyG, runVH_some, builtinM, appendA, source, Nat.mul_one, len_ofB, n36_0, n36_1, n36_2, n36_3, n36_4, n36_5, n36_6, n36_7, n36_8, o36_1, o36_3, o36_5, o36_7, res36, TT_3, TT_4, TT_5, TT_9, TT_21, TT_22, TT_25, TT_33, TT_35, TT_37, TT_39, TT_47, TT_52, TT_56, TT_59, TT_60, TT_62, TT_63, TT_65, TT_73, TT_77, TT_82, TT_84, bb, primP, primM, ev, evs, parts_, ofConst, bin, un, intBin, putA, enterT, Nat.reduceEqDiff, Nat.reduceAdd, Nat.reduceMul, Nat.reduceLeDiff, Nat.reduceLT, ↓reduceIte, reduceCtorEq, RunRes, resultsA, oneOf, AV.plain, AV.cells, AHeap.push, AHeap.set, AHeap.empty, fieldOf, loadA, storeA, BX.part, TK.isAgg, convA, builtinA, inertB, builtinP, buildA, fillA, splice, eqv, cellsEq, sizeT, adT, ldT, fwT, Nat.reduceBeqDiff, Nat.reduceBneDiff, Int.reduceBNe, Int.reduceBEq, Int.reduceEq, Int.reduceLT, Int.reduceLE, Int.reduceAdd, Int.reduceSub, Int.reduceMul, Int.reduceNeg, strBin, indexAddrA, elems, lenOf, chunk, List.reduceReplicate, Int.reduceToNat]
       refine fin _ ?_ ?_ ?_
       · simp only [upd_app, e1, e2, ↓reduceIte]
       · simp only [upd_app, e1, e2, ↓reduceIte]
       · intro d h1 h2
         simp only [upd_app, h2, show (d = n) = False from eq_false (by omega), ↓reduceIte])
    | some g =>
      obtain ⟨hgb, hgn, hg⟩ := hbuf
      have hgn' : g < n := hgn
      have hg' : A g = .cells 5 1 (ofBytes acc) := hg
      have hb' : A b = .cells 65 2 [[a, .slc g 1 0 acc.length]] := hb
      have f1 : (g = n) = False := eq_false (by omega)
      have f2 : (n = g) = False := eq_false (by omega)
      have f5 : (g = b) = False := eq_false hgb
      have f6 : (b = g) = False := eq_false (fun e => hgb e.symm)
      have f7 : (acc.length ≤ (ofBytes acc).length) = True := eq_true (by rw [len_ofB]; omega)
      have f8 : acc.length + s.length ≤ most := hm
      have fin : ∀ A', A' b = .cells 65 2 [[.ptr b 2 0 0, .slc n 1 0 (acc.length + s.length)]] → A' n = .cells 5 1 (ofBytes acc ++ ofBytes s) → (∀ d, d < n → d ≠ b → d ≠ g → A' d = A d) → RunOps Cx fn (putA T dst (.tuple [.int .i64 (s.length : Int), .nilI])) ds ro os k ⟨n + 1, A'⟩ Q := by
        intro A' h1 h2 h3
        rw [ofB_append] at h2
        refine hk _ (some n) ⟨(by show b < n + 1; omega), ⟨_, .inr rfl, by rw [List.length_append]; exact h1⟩, (by omega), (by show n < n + 1; omega), h2⟩ ⟨(by show n ≤ n + 1; omega), fun d hd hd2 hd3 => h3 d hd hd2 (fun e => hd3 (by rw [e])), .inr ⟨n, rfl, Nat.le_refl _⟩⟩
      rcases ha with rfl | rfl <;>
      (simp only [hb', hg', e1, e2, f1, f2, f5, f6, f7, f8, hz, hl, take_ofB, call_ext pure_cc ext_cc, copyG, runVH_some, builtinM, appendA, source, Nat.mul_one, len_ofB, n36_0, n36_1, n36_2, n36_3, n36_4, n36_5, n36_6, n36_7, n36_8, o36_1, o36_3, o36_5, o36_7, res36, TT_3, TT_4, TT_5, TT_9, TT_21, TT_22, TT_25, TT_33, TT_35, TT_37, TT_39, TT_47, TT_52, TT_56, TT_59, TT_60, TT_62, TT_63, TT_65, TT_73, TT_77, TT_82, TT_84, bb, primP, primM, ev, evs, parts_, ofConst, bin, un, intBin, putA, enterT, Nat.reduceEqDiff, Nat.reduceAdd, Nat.reduceMul, Nat.reduceLeDiff, Nat.reduceLT, ↓reduceIte, reduceCtorEq, RunRes, resultsA, oneOf, AV.plain, AV.cells, AHeap.push, AHeap.set, AHeap.empty, fieldOf, loadA, storeA, BX.part, TK.isAgg, convA, builtinA, inertB, builtinP, buildA, fillA, splice, eqv, cellsEq, sizeT, adT, ldT, fwT, Nat.reduceBeqDiff, Nat.reduceBneDiff, Int.reduceBNe, Int.reduceBEq, Int.reduceEq, Int.reduceLT, Int.reduceLE, Int.reduceAdd, Int.reduceSub, Int.reduceMul, Int.reduceNeg, strBin, indexAddrA, elems, lenOf, chunk, List.reduceReplicate, Int.reduceToNat]
       refine fin _ ?_ ?_ ?_
       · simp only [upd_app, e1, e2, f1, f2, f5, f6, ↓reduceIte]
       · simp only [upd_app, e1, e2, f1, f2, f5, f6, ↓reduceIte]
       · intro d h1 h2 h3
         simp only [upd_app, h2, h3, show (d = n) = False from eq_false (by omega), ↓reduceIte])
theorem String_call {n : Nat} {A : Nat → Blk} {b g : Nat} {acc : Bytes} (h : IsB 65 5 ⟨n, A⟩ b (some g) acc) (h0 : acc ≠ []) (hm : acc.length ≤ maxLen) :
    RunCall Cx fn T ds ro 28 [.ptr b 2 0 0] dst os k ⟨n, A⟩ Q = RunOps Cx fn (putA T dst (.str acc)) ds ro os k ⟨n, upd A g .dead⟩ Q := by
  obtain ⟨lt, ⟨a, ha, hb⟩, hgb, hgn, hg⟩ := h
  have hg' : A g = .cells 5 1 (ofBytes acc) := hg
  have hb' : A b = .cells 65 2 [[a, .slc g 1 0 acc.length]] := hb
  rw [call_ext pure_str ext_str]
  have hc : strG 65 5 [.ptr b 2 0 0] ⟨n, A⟩ = some (.str acc, ⟨n, upd A g .dead⟩) := by
    unfold strG
    simp only [hb', hg']
    rw [if_pos ⟨trivial, trivial, by simpa using h0, by rw [len_ofB]; omega, hm, by rw [take_ofB]; exact u8ok_ofB acc⟩, take_ofB, bytesOf_ofB]
    rfl
  rw [hc]
  rfl
end Go.Proofs.Ytkedlkcknhinoaa.G

namespace Go.Proofs.Ytkedlkcknhinoaa.G
open Go.BX
set_option linter.unusedSimpArgs false
set_option linter.unusedVariables false
theorem wr64 {n : Int} (h1 : -9223372036854775808 ≤ n) (h2 : n ≤ 9223372036854775807) : IntKind.i64.wrap n = n := by
  rw [IntKind.wrap_i64]; omega
structure Pr where
  key : Bytes
  k : Int
  n : Int
  s : Bytes
  x : Int
  y : Int
def encP (p : Pr) : List AV := [.str p.key, .int .i64 p.k, .int .i64 p.n, .str p.s, .int .i64 p.x, .int .i64 p.y]
abbrev pairA (p : Pr) : AV := .agg [.str p.key, .int .i64 p.k, .int .i64 p.n, .str p.s, .int .i64 p.x, .int .i64 p.y]
def InL (v : AV) (l : List Pr) : Prop := (v = .nilS ∧ l = []) ∨ v = .vec 6 (l.map encP)
theorem enc_get {l : List Pr} {i : Nat} {p : Pr} (h : l[i]? = some p) : (l.map encP)[i]? = some [.str p.key, .int .i64 p.k, .int .i64 p.n, .str p.s, .int .i64 p.x, .int .i64 p.y] := by
  rw [List.getElem?_map, h]; rfl
end Go.Proofs.Ytkedlkcknhinoaa.G


namespace Go.Proofs.Ytkedlkcknhinoaa.G
open Go.BX
set_option linter.unusedSimpArgs false
set_option linter.unusedVariables false
theorem wr8 {n : Int} (h1 : 0 ≤ n) (h2 : n ≤ 255) : IntKind.u8.wrap n = n := by
  rw [IntKind.wrap_u8]; omega
theorem u8_of {n : Int} (h1 : 0 ≤ n) (h2 : n ≤ 255) : (((UInt8.ofNat n.toNat).toNat : Nat) : Int) = n := by
  rw [UInt8.toNat_ofNat']; omega
theorem wr8_of {n : Int} (h1 : 0 ≤ n) (h2 : n ≤ 255) : IntKind.u8.wrap n = (((UInt8.ofNat n.toNat).toNat : Nat) : Int) := by
  rw [wr8 h1 h2, u8_of h1 h2]
def numB (n : Nat) : Bytes := if n < 128 then [UInt8.ofNat n] else UInt8.ofNat (n % 128 + 128) :: numB (n / 128)
termination_by n
decreasing_by omega
def numS (n : Int) : Bytes := if n < 0 ∨ 9007199254740991 < n then [] else numB n.toNat
theorem numB_lt {n : Nat} (h : n < 128) : numB n = [UInt8.ofNat n] := by rw [numB, if_pos h]
theorem numB_ge {n : Nat} (h : ¬ n < 128) : numB n = UInt8.ofNat (n % 128 + 128) :: numB (n / 128) := by rw [numB, if_neg h]
theorem numB_len (n : Nat) : (numB n).length ≤ n + 1 := by
  induction n using Nat.strongRecOn with
  | _ n ih =>
    by_cases h : n < 128
    · rw [numB_lt h]; simp
    · rw [numB_ge h, List.length_cons]
      have := ih (n / 128) (by omega)
      omega
theorem numB_len8 : ∀ {k n : Nat}, n < 128 ^ (k + 1) → (numB n).length ≤ k + 1
  | 0, n, h => by rw [numB_lt (by simpa using h)]; simp
  | k + 1, n, h => by
    by_cases h1 : n < 128
    · rw [numB_lt h1]; simp
    · rw [numB_ge h1, List.length_cons]
      have := @numB_len8 k (n / 128) (by rw [Nat.pow_succ] at h; omega)
      omega
theorem numS_nat {n : Int} (h1 : 0 ≤ n) (h2 : n ≤ 9007199254740991) : numS n = numB n.toNat := by
  unfold numS; rw [if_neg (by omega)]
theorem td128 {n : Int} (h : 0 ≤ n) : n.tmod 128 = n % 128 ∧ n.tdiv 128 = n / 128 := ⟨Int.tmod_eq_emod_of_nonneg h, Int.tdiv_eq_ediv_of_nonneg h⟩
def BufOk (v : AV) (h : Nat) (A : Nat → Blk) (acc : Bytes) : Prop := (v = .nilS ∧ acc = []) ∨ ∃ g, v = .slc g 1 0 acc.length ∧ g < h ∧ A g = .cells 5 1 (ofBytes acc)
end Go.Proofs.Ytkedlkcknhinoaa.G
namespace Go.Proofs.Ytkedlkcknhinoaa.G
open Go.BX
set_option linter.unusedSimpArgs false
set_option linter.unusedVariables false
theorem numS_len (n : Int) : (numS n).length ≤ 9 := by
  unfold numS
  split
  · simp
  · have := numB_len8 (k := 7) (n := n.toNat) (by omega)
    omega
def wholeS (n : Int) : Bytes := if n < -4503599627370496 ∨ 4503599627370496 ≤ n then [] else if n < 0 then numS (-2 * n - 1) else numS (2 * n)
theorem wholeS_len (n : Int) : (wholeS n).length ≤ 9 := by
  unfold wholeS
  split
  · simp
  · split
    · exact numS_len _
    · exact numS_len _
def textS (s : Bytes) : Bytes := numS s.length ++ s
def digB (d : Nat) : UInt8 := UInt8.ofNat (48 + d)
def decN (m : Nat) : Bytes := if m < 10 then [digB m] else decN (m / 10) ++ [digB (m % 10)]
termination_by m
decreasing_by omega
def decS (n : Int) : Bytes := if n < 0 then 45 :: decN (-n).toNat else decN n.toNat
theorem decN_lt {m : Nat} (h : m < 10) : decN m = [digB m] := by rw [decN, if_pos h]
theorem decN_ge {m : Nat} (h : ¬ m < 10) : decN m = decN (m / 10) ++ [digB (m % 10)] := by rw [decN, if_neg h]
theorem decN_len8 : ∀ {k m : Nat}, m < 10 ^ (k + 1) → (decN m).length ≤ k + 1
  | 0, m, h => by rw [decN_lt (by simpa using h)]; simp
  | k + 1, m, h => by
    by_cases h1 : m < 10
    · rw [decN_lt h1]; simp
    · rw [decN_ge h1, List.length_append, List.length_singleton]
      have := @decN_len8 k (m / 10) (by rw [Nat.pow_succ] at h; omega)
      omega
theorem td10 {n : Int} (h : 0 ≤ n) : n.tmod 10 = n % 10 ∧ n.tdiv 10 = n / 10 := ⟨Int.tmod_eq_emod_of_nonneg h, Int.tdiv_eq_ediv_of_nonneg h⟩
def hexB (d : Nat) : UInt8 := if d < 10 then UInt8.ofNat (48 + d) else UInt8.ofNat (87 + d)
abbrev digits : Bytes := [48, 49, 50, 51, 52, 53, 54, 55, 56, 57, 97, 98, 99, 100, 101, 102]
theorem slice_dig {k : IntKind} {d : Int} (h0 : 0 ≤ d) (h1 : d < 16) : sliceA Cx 9 (.str digits) (some (.int k d)) (some (.int k (d + 1))) none = some (.str [hexB d.toNat]) := by
  have : d = 0 ∨ d = 1 ∨ d = 2 ∨ d = 3 ∨ d = 4 ∨ d = 5 ∨ d = 6 ∨ d = 7 ∨ d = 8 ∨ d = 9 ∨ d = 10 ∨ d = 11 ∨ d = 12 ∨ d = 13 ∨ d = 14 ∨ d = 15 := by omega
  unfold sliceA
  rw [TT_9]
  rcases this with rfl | rfl | rfl | rfl | rfl | rfl | rfl | rfl | rfl | rfl | rfl | rfl | rfl | rfl | rfl | rfl <;> rfl
theorem hexB_dig {d : Nat} (h : d < 10) : hexB d = digB d := by unfold hexB digB; rw [if_pos h]
def PD (r : AV) (n : Int) (out : Bytes) : Prop :=
  ∀ (T : Nat → AV) (H : AHeap), T 0 = .int .i64 n → T 3 = .str out →
    Run Cx 51 T [] none [.inLoop c51_14, .inBlock 0] H (fun r0 H' => BX.freeze H' r0 = some r)
theorem pd_step {n : Int} {out : Bytes} {r : AV} (h0 : 0 ≤ n) (hn : n ≤ 9007199254740992) (hl : out.length ≤ 1000) (hp : n / 10 = 0 ∧ r = .str (digB (n % 10).toNat :: out) ∨ ¬ n / 10 = 0 ∧ PD r (n / 10) (digB (n % 10).toNat :: out)) : PD r n out := by
  intro T H t0 t3
  rw [run_inLoop]
  obtain ⟨t1, t2⟩ := td10 (n := n) (by omega)
  have w1 : IntKind.i64.wrap (n % 10 + 1) = n % 10 + 1 := wr64 (by omega) (by omega)
  have w3 : IntKind.i64.wrap (n / 10) = n / 10 := wr64 (by omega) (by omega)
  have z : ((10 : Int) = 0) = False := by simp
  have hs := slice_dig (k := .i64) (d := n % 10) (by omega) (by omega)
  rw [hexB_dig (by omega)] at hs
  have hlen : (1 + out.length ≤ 9223372036854775807) = True := eq_true (by omega)
  rcases hp with ⟨hz, rfl⟩ | ⟨hz, hp⟩
  · have w0 : IntKind.i64.wrap 0 = 0 := rfl
    simp only [t0, t3, t1, t2, w0, w1, w3, z, hs, hz, hlen, evo, List.length_singleton, List.singleton_append, run_inBlock, n51_0, n51_1, n51_2, n51_3, n51_4, n51_5, n51_6, n51_7, n51_8, n51_9, n51_10, n51_11, n51_12, n51_13, n51_14, n51_15, n51_16, n51_17, n51_18, n51_19, n51_20, n51_21, n51_22, n51_23, n51_24, n51_25, o51_1, o51_4, o51_7, o51_11, o51_16, o51_18, o51_20, o51_23, res51, TT_3, TT_4, TT_5, TT_9, TT_21, TT_22, TT_25, TT_33, TT_35, TT_37, TT_39, TT_47, TT_52, TT_56, TT_59, TT_60, TT_62, TT_63, TT_65, TT_73, TT_77, TT_82, TT_84, bb, primP, primM, ev, evs, parts_, ofConst, bin, un, intBin, putA, enterT, Nat.reduceEqDiff, Nat.reduceAdd, Nat.reduceMul, Nat.reduceLeDiff, Nat.reduceLT, ↓reduceIte, reduceCtorEq, RunRes, resultsA, oneOf, AV.plain, AV.cells, AHeap.push, AHeap.set, AHeap.empty, fieldOf, loadA, storeA, BX.part, TK.isAgg, convA, builtinA, inertB, builtinP, buildA, fillA, splice, eqv, cellsEq, sizeT, adT, ldT, fwT, Nat.reduceBeqDiff, Nat.reduceBneDiff, Int.reduceBNe, Int.reduceBEq, Int.reduceEq, Int.reduceLT, Int.reduceLE, Int.reduceAdd, Int.reduceSub, Int.reduceMul, Int.reduceNeg, strBin, indexAddrA, elems, lenOf, chunk, List.reduceReplicate, Int.reduceToNat]
  · have hz' : (n / 10 == 0) = false := by simpa using hz
    simp only [t0, t3, t1, t2, w1, w3, z, hs, hz', hlen, evo, List.length_singleton, List.singleton_append, run_inBlock, n51_0, n51_1, n51_2, n51_3, n51_4, n51_5, n51_6, n51_7, n51_8, n51_9, n51_10, n51_11, n51_12, n51_13, n51_14, n51_15, n51_16, n51_17, n51_18, n51_19, n51_20, n51_21, n51_22, n51_23, n51_24, n51_25, o51_1, o51_4, o51_7, o51_11, o51_16, o51_18, o51_20, o51_23, res51, TT_3, TT_4, TT_5, TT_9, TT_21, TT_22, TT_25, TT_33, TT_35, TT_37, TT_39, TT_47, TT_52, TT_56, TT_59, TT_60, TT_62, TT_63, TT_65, TT_73, TT_77, TT_82, TT_84, bb, primP, primM, ev, evs, parts_, ofConst, bin, un, intBin, putA, enterT, Nat.reduceEqDiff, Nat.reduceAdd, Nat.reduceMul, Nat.reduceLeDiff, Nat.reduceLT, ↓reduceIte, reduceCtorEq, RunRes, resultsA, oneOf, AV.plain, AV.cells, AHeap.push, AHeap.set, AHeap.empty, fieldOf, loadA, storeA, BX.part, TK.isAgg, convA, builtinA, inertB, builtinP, buildA, fillA, splice, eqv, cellsEq, sizeT, adT, ldT, fwT, Nat.reduceBeqDiff, Nat.reduceBneDiff, Int.reduceBNe, Int.reduceBEq, Int.reduceEq, Int.reduceLT, Int.reduceLE, Int.reduceAdd, Int.reduceSub, Int.reduceMul, Int.reduceNeg, strBin, indexAddrA, elems, lenOf, chunk, List.reduceReplicate, Int.reduceToNat]
    refine hp _ _ ?_ ?_
    all_goals simp only [upd_app, Nat.reduceEqDiff, ↓reduceIte]
theorem pd_all : ∀ (m : Nat) (out : Bytes), m ≤ 9007199254740992 → out.length + (decN m).length ≤ 1000 → PD (.str (decN m ++ out)) (m : Int) out := by
  intro m
  induction m using Nat.strongRecOn with
  | _ m ih =>
    intro out hm hl
    have e2 : ((m : Int) % 10).toNat = m % 10 := by omega
    by_cases h : m < 10
    · rw [decN_lt h] at hl ⊢
      refine pd_step (by omega) (by omega) (by omega) (.inl ⟨by omega, ?_⟩)
      rw [e2, Nat.mod_eq_of_lt h]; rfl
    · rw [decN_ge h] at hl ⊢
      rw [List.length_append, List.length_singleton] at hl
      refine pd_step (by omega) (by omega) (by omega) (.inr ⟨by omega, ?_⟩)
      rw [e2, show (m : Int) / 10 = ((m / 10 : Nat) : Int) by omega]
      have := ih (m / 10) (by omega) (digB (m % 10) :: out) (by omega) (by rw [List.length_cons]; omega)
      rwa [List.append_assoc]
theorem decimal_nat (n : Int) (h0 : 0 ≤ n) (hn : n ≤ 9007199254740992) : PCall Cx 51 [.int .i64 n] (.str (decN n.toNat)) := by
  refine pcall_run (noext _) body51 ?_
  have h1 : ¬ n < 0 := by omega
  have hp : PD (.str (decN n.toNat)) n [] := by
    have hl := decN_len8 (k := 15) (m := n.toNat) (by omega)
    have := pd_all n.toNat [] (by omega) (by rw [List.length_nil]; omega)
    rwa [List.append_nil, show ((n.toNat : Nat) : Int) = n by omega] at this
  simp only [h1, n51_0, n51_1, n51_2, n51_3, n51_4, n51_5, n51_6, n51_7, n51_8, n51_9, n51_10, n51_11, n51_12, n51_13, n51_15, n51_16, n51_17, n51_18, n51_19, n51_20, n51_21, n51_22, n51_23, n51_24, n51_25, o51_1, o51_4, o51_7, o51_11, o51_16, o51_18, o51_20, o51_23, res51, TT_3, TT_4, TT_5, TT_9, TT_21, TT_22, TT_25, TT_33, TT_35, TT_37, TT_39, TT_47, TT_52, TT_56, TT_59, TT_60, TT_62, TT_63, TT_65, TT_73, TT_77, TT_82, TT_84, bb, primP, primM, ev, evs, parts_, ofConst, bin, un, intBin, putA, enterT, Nat.reduceEqDiff, Nat.reduceAdd, Nat.reduceMul, Nat.reduceLeDiff, Nat.reduceLT, ↓reduceIte, reduceCtorEq, RunRes, resultsA, oneOf, AV.plain, AV.cells, AHeap.push, AHeap.set, AHeap.empty, fieldOf, loadA, storeA, BX.part, TK.isAgg, convA, builtinA, inertB, builtinP, buildA, fillA, splice, eqv, cellsEq, sizeT, adT, ldT, fwT, Nat.reduceBeqDiff, Nat.reduceBneDiff, Int.reduceBNe, Int.reduceBEq, Int.reduceEq, Int.reduceLT, Int.reduceLE, Int.reduceAdd, Int.reduceSub, Int.reduceMul, Int.reduceNeg, strBin, indexAddrA, elems, lenOf, chunk, List.reduceReplicate, Int.reduceToNat]
  refine hp _ _ ?_ ?_
  all_goals simp only [upd_app, enterT, List.getElem?_cons_zero, Option.getD_some, Nat.reduceEqDiff, ↓reduceIte]
theorem decN_len (n : Int) (hn : n ≤ 9007199254740992) : (decN n.toNat).length ≤ 16 := decN_len8 (k := 15) (by omega)
theorem decS_len (n : Int) (hn : -9007199254740992 ≤ n ∧ n ≤ 9007199254740992) : (decS n).length ≤ 17 := by
  unfold decS
  split
  · rw [List.length_cons]; have := decN_len (-n) (by omega); omega
  · have := decN_len n (by omega); omega
theorem decimal_ok (n : Int) (hn : -9007199254740992 ≤ n ∧ n ≤ 9007199254740992) : PCall Cx 51 [.int .i64 n] (.str (decS n)) := by
  unfold decS
  by_cases h : n < 0
  · rw [if_pos h]
    have hd := decimal_nat (-n) (by omega) (by omega)
    refine pcall_run (noext _) body51 ?_
    have w : IntKind.i64.wrap (0 - n) = -n := by rw [wr64 (by omega) (by omega), Int.zero_sub]
    have hl := decN_len (-n) (by omega)
    have hlen : (1 + (decN (-n).toNat).length ≤ 9223372036854775807) = True := eq_true (by omega)
    simp only [h, w, hlen, call_pure pure51 rfl hd, List.length_singleton, List.singleton_append, n51_0, n51_1, n51_2, n51_3, n51_4, n51_5, n51_6, n51_7, n51_8, n51_9, n51_10, n51_11, n51_12, n51_13, n51_14, n51_15, n51_16, n51_17, n51_18, n51_19, n51_20, n51_21, n51_22, n51_23, n51_24, n51_25, o51_1, o51_4, o51_7, o51_11, o51_16, o51_18, o51_20, o51_23, res51, TT_3, TT_4, TT_5, TT_9, TT_21, TT_22, TT_25, TT_33, TT_35, TT_37, TT_39, TT_47, TT_52, TT_56, TT_59, TT_60, TT_62, TT_63, TT_65, TT_73, TT_77, TT_82, TT_84, bb, primP, primM, ev, evs, parts_, ofConst, bin, un, intBin, putA, enterT, Nat.reduceEqDiff, Nat.reduceAdd, Nat.reduceMul, Nat.reduceLeDiff, Nat.reduceLT, ↓reduceIte, reduceCtorEq, RunRes, resultsA, oneOf, AV.plain, AV.cells, AHeap.push, AHeap.set, AHeap.empty, fieldOf, loadA, storeA, BX.part, TK.isAgg, convA, builtinA, inertB, builtinP, buildA, fillA, splice, eqv, cellsEq, sizeT, adT, ldT, fwT, Nat.reduceBeqDiff, Nat.reduceBneDiff, Int.reduceBNe, Int.reduceBEq, Int.reduceEq, Int.reduceLT, Int.reduceLE, Int.reduceAdd, Int.reduceSub, Int.reduceMul, Int.reduceNeg, strBin, indexAddrA, elems, lenOf, chunk, List.reduceReplicate, Int.reduceToNat]
  · rw [if_neg h]
    exact decimal_nat n (by omega) (by omega)
theorem dec_nat (m : Nat) (hm : m ≤ 9007199254740992) : PCall Cx 46 [.int .i64 (m : Int)] (.str (decN m)) := by
  induction m using Nat.strongRecOn with
  | _ m ih =>
    refine pcall_run (noext _) body46 ?_
    have h0 : ¬ (m : Int) < 0 := by omega
    by_cases h : m < 10
    · have h2 : (m : Int) < 10 := by omega
      have w1 : IntKind.i64.wrap (48 + (m : Int)) = 48 + (m : Int) := wr64 (by omega) (by omega)
      have w2 := wr8_of (n := 48 + (m : Int)) (by omega) (by omega)
      have hb : BX.byteOf [AV.int .u8 (((UInt8.ofNat (48 + (m : Int)).toNat).toNat : Nat) : Int)] = some (digB m) := by
        rw [u8_of (by omega) (by omega)]
        show some (UInt8.ofNat (48 + (m : Int)).toNat) = some (UInt8.ofNat (48 + m))
        congr 2
      rw [decN_lt h]
      simp only [h0, h2, w1, w2, hb, bytesOf, n46_0, n46_1, n46_2, n46_3, n46_4, n46_5, n46_6, n46_7, n46_8, n46_9, n46_10, n46_11, n46_12, n46_13, n46_14, n46_15, n46_16, n46_17, n46_18, n46_19, n46_20, o46_1, o46_4, o46_7, o46_12, o46_15, o46_19, res46, TT_3, TT_4, TT_5, TT_9, TT_21, TT_22, TT_25, TT_33, TT_35, TT_37, TT_39, TT_47, TT_52, TT_56, TT_59, TT_60, TT_62, TT_63, TT_65, TT_73, TT_77, TT_82, TT_84, bb, primP, primM, ev, evs, parts_, ofConst, bin, un, intBin, putA, enterT, Nat.reduceEqDiff, Nat.reduceAdd, Nat.reduceMul, Nat.reduceLeDiff, Nat.reduceLT, ↓reduceIte, reduceCtorEq, RunRes, resultsA, oneOf, AV.plain, AV.cells, AHeap.push, AHeap.set, AHeap.empty, fieldOf, loadA, storeA, BX.part, TK.isAgg, convA, builtinA, inertB, builtinP, buildA, fillA, splice, eqv, cellsEq, sizeT, adT, ldT, fwT, Nat.reduceBeqDiff, Nat.reduceBneDiff, Int.reduceBNe, Int.reduceBEq, Int.reduceEq, Int.reduceLT, Int.reduceLE, Int.reduceAdd, Int.reduceSub, Int.reduceMul, Int.reduceNeg, strBin, indexAddrA, elems, lenOf, chunk, List.reduceReplicate, Int.reduceToNat]
    · have h2 : ¬ (m : Int) < 10 := by omega
      obtain ⟨t1, t2⟩ := td10 (n := m) (by omega)
      have w3 : IntKind.i64.wrap ((m : Int) / 10) = ((m / 10 : Nat) : Int) := by rw [wr64 (by omega) (by omega)]; omega
      have e1 : (m : Int) % 10 = ((m % 10 : Nat) : Int) := by omega
      have z : ((10 : Int) = 0) = False := by simp
      have r1 := ih (m / 10) (by omega) (by omega)
      have r2 := ih (m % 10) (by omega) (by omega)
      rw [decN_lt (by omega)] at r2
      have hl := decN_len8 (k := 15) (m := m / 10) (by omega)
      have hlen : ((decN (m / 10)).length + 1 ≤ 9223372036854775807) = True := eq_true (by omega)
      rw [decN_ge h]
      simp only [h0, h2, t1, t2, w3, e1, z, hlen, call_pure pure46 rfl r1, call_pure pure46 rfl r2, List.length_singleton, n46_0, n46_1, n46_2, n46_3, n46_4, n46_5, n46_6, n46_7, n46_8, n46_9, n46_10, n46_11, n46_12, n46_13, n46_14, n46_15, n46_16, n46_17, n46_18, n46_19, n46_20, o46_1, o46_4, o46_7, o46_12, o46_15, o46_19, res46, TT_3, TT_4, TT_5, TT_9, TT_21, TT_22, TT_25, TT_33, TT_35, TT_37, TT_39, TT_47, TT_52, TT_56, TT_59, TT_60, TT_62, TT_63, TT_65, TT_73, TT_77, TT_82, TT_84, bb, primP, primM, ev, evs, parts_, ofConst, bin, un, intBin, putA, enterT, Nat.reduceEqDiff, Nat.reduceAdd, Nat.reduceMul, Nat.reduceLeDiff, Nat.reduceLT, ↓reduceIte, reduceCtorEq, RunRes, resultsA, oneOf, AV.plain, AV.cells, AHeap.push, AHeap.set, AHeap.empty, fieldOf, loadA, storeA, BX.part, TK.isAgg, convA, builtinA, inertB, builtinP, buildA, fillA, splice, eqv, cellsEq, sizeT, adT, ldT, fwT, Nat.reduceBeqDiff, Nat.reduceBneDiff, Int.reduceBNe, Int.reduceBEq, Int.reduceEq, Int.reduceLT, Int.reduceLE, Int.reduceAdd, Int.reduceSub, Int.reduceMul, Int.reduceNeg, strBin, indexAddrA, elems, lenOf, chunk, List.reduceReplicate, Int.reduceToNat]
theorem Dec_ok (n : Int) (hn : -9007199254740992 ≤ n ∧ n ≤ 9007199254740992) : PCall Cx 46 [.int .i64 n] (.str (decS n)) := by
  unfold decS
  by_cases h : n < 0
  · rw [if_pos h]
    have hd := dec_nat (-n).toNat (by omega)
    rw [show (((-n).toNat : Nat) : Int) = -n by omega] at hd
    refine pcall_run (noext _) body46 ?_
    have w : IntKind.i64.wrap (0 - n) = -n := by rw [wr64 (by omega) (by omega), Int.zero_sub]
    have hl := decN_len (-n) (by omega)
    have hlen : (1 + (decN (-n).toNat).length ≤ 9223372036854775807) = True := eq_true (by omega)
    simp only [h, w, hlen, call_pure pure46 rfl hd, List.length_singleton, List.singleton_append, n46_0, n46_1, n46_2, n46_3, n46_4, n46_5, n46_6, n46_7, n46_8, n46_9, n46_10, n46_11, n46_12, n46_13, n46_14, n46_15, n46_16, n46_17, n46_18, n46_19, n46_20, o46_1, o46_4, o46_7, o46_12, o46_15, o46_19, res46, TT_3, TT_4, TT_5, TT_9, TT_21, TT_22, TT_25, TT_33, TT_35, TT_37, TT_39, TT_47, TT_52, TT_56, TT_59, TT_60, TT_62, TT_63, TT_65, TT_73, TT_77, TT_82, TT_84, bb, primP, primM, ev, evs, parts_, ofConst, bin, un, intBin, putA, enterT, Nat.reduceEqDiff, Nat.reduceAdd, Nat.reduceMul, Nat.reduceLeDiff, Nat.reduceLT, ↓reduceIte, reduceCtorEq, RunRes, resultsA, oneOf, AV.plain, AV.cells, AHeap.push, AHeap.set, AHeap.empty, fieldOf, loadA, storeA, BX.part, TK.isAgg, convA, builtinA, inertB, builtinP, buildA, fillA, splice, eqv, cellsEq, sizeT, adT, ldT, fwT, Nat.reduceBeqDiff, Nat.reduceBneDiff, Int.reduceBNe, Int.reduceBEq, Int.reduceEq, Int.reduceLT, Int.reduceLE, Int.reduceAdd, Int.reduceSub, Int.reduceMul, Int.reduceNeg, strBin, indexAddrA, elems, lenOf, chunk, List.reduceReplicate, Int.reduceToNat]
  · rw [if_neg h]
    have hd := dec_nat n.toNat (by omega)
    rwa [show ((n.toNat : Nat) : Int) = n by omega] at hd
end Go.Proofs.Ytkedlkcknhinoaa.G

namespace Go.Proofs.Ytkedlkcknhinoaa.G
open Go.BX
set_option linter.unusedSimpArgs false
set_option linter.unusedVariables false
def plainI (n : Int) : Bool := ((decide (32 ≤ n) && decide (n ≤ 126)) && n != 34) && n != 92
def plainB (c : UInt8) : Bool := plainI (c.toNat : Int)
theorem plain_ok (n : Int) : PCall Cx 59 [.int .u8 n] (.bool (plainI n)) := by
  refine pcall_run (noext _) body59 ?_
  unfold plainI
  by_cases h1 : 32 ≤ n <;> by_cases h2 : n ≤ 126 <;> cases h3 : (n != 34) <;>
  simp only [h1, h2, h3, n59_0, n59_1, n59_2, n59_3, n59_4, o59_1, o59_3, res59, TT_3, TT_4, TT_5, TT_9, TT_21, TT_22, TT_25, TT_33, TT_35, TT_37, TT_39, TT_47, TT_52, TT_56, TT_59, TT_60, TT_62, TT_63, TT_65, TT_73, TT_77, TT_82, TT_84, bb, primP, primM, ev, evs, parts_, ofConst, bin, un, intBin, putA, enterT, Nat.reduceEqDiff, Nat.reduceAdd, Nat.reduceMul, Nat.reduceLeDiff, Nat.reduceLT, ↓reduceIte, reduceCtorEq, RunRes, resultsA, oneOf, AV.plain, AV.cells, AHeap.push, AHeap.set, AHeap.empty, fieldOf, loadA, storeA, BX.part, TK.isAgg, convA, builtinA, inertB, builtinP, buildA, fillA, splice, eqv, cellsEq, sizeT, adT, ldT, fwT, Nat.reduceBeqDiff, Nat.reduceBneDiff, Int.reduceBNe, Int.reduceBEq, Int.reduceEq, Int.reduceLT, Int.reduceLE, Int.reduceAdd, Int.reduceSub, Int.reduceMul, Int.reduceNeg, strBin, indexAddrA, elems, lenOf, chunk, List.reduceReplicate, Int.reduceToNat]
theorem refPlain_ok (n : Int) : PCall Cx 47 [.int .u8 n] (.bool (plainI n)) := by
  refine pcall_run (noext _) body47 ?_
  unfold plainI
  by_cases h1 : 32 ≤ n <;> by_cases h2 : n ≤ 126 <;> cases h3 : (n != 34) <;>
  simp only [h1, h2, h3, n47_0, n47_1, n47_2, n47_3, n47_4, o47_1, o47_3, res47, TT_3, TT_4, TT_5, TT_9, TT_21, TT_22, TT_25, TT_33, TT_35, TT_37, TT_39, TT_47, TT_52, TT_56, TT_59, TT_60, TT_62, TT_63, TT_65, TT_73, TT_77, TT_82, TT_84, bb, primP, primM, ev, evs, parts_, ofConst, bin, un, intBin, putA, enterT, Nat.reduceEqDiff, Nat.reduceAdd, Nat.reduceMul, Nat.reduceLeDiff, Nat.reduceLT, ↓reduceIte, reduceCtorEq, RunRes, resultsA, oneOf, AV.plain, AV.cells, AHeap.push, AHeap.set, AHeap.empty, fieldOf, loadA, storeA, BX.part, TK.isAgg, convA, builtinA, inertB, builtinP, buildA, fillA, splice, eqv, cellsEq, sizeT, adT, ldT, fwT, Nat.reduceBeqDiff, Nat.reduceBneDiff, Int.reduceBNe, Int.reduceBEq, Int.reduceEq, Int.reduceLT, Int.reduceLE, Int.reduceAdd, Int.reduceSub, Int.reduceMul, Int.reduceNeg, strBin, indexAddrA, elems, lenOf, chunk, List.reduceReplicate, Int.reduceToNat]
def q1 (c : UInt8) : Bytes := if plainB c then [c] else [92, hexB (c.toNat / 16), hexB (c.toNat % 16)]
def quoM (s : Bytes) : Bytes := s.flatMap q1
def quoS (s : Bytes) : Bytes := 34 :: (quoM s ++ [34])
theorem q1_len (c : UInt8) : (q1 c).length ≤ 3 := by unfold q1; split <;> simp
theorem quoM_len (s : Bytes) : (quoM s).length ≤ 3 * s.length := by
  unfold quoM
  induction s with
  | nil => simp
  | cons c s ih => rw [List.flatMap_cons, List.length_append, List.length_cons]; have := q1_len c; omega
theorem quoM_cons (c : UInt8) (s : Bytes) : quoM (c :: s) = q1 c ++ quoM s := rfl
theorem td16 {n : Int} (h : 0 ≤ n) : n.tmod 16 = n % 16 ∧ n.tdiv 16 = n / 16 := ⟨Int.tmod_eq_emod_of_nonneg h, Int.tdiv_eq_ediv_of_nonneg h⟩
def PQ (s : Bytes) (r : AV) (i : Nat) (acc : Bytes) : Prop :=
  ∀ (T : Nat → AV) (H : AHeap) (g : Nat), T 0 = .str s → T 3 = .ptr 0 2 0 0 → T 8 = .int .i64 (s.length : Int) → T 9 = .int .i64 (i : Int) → IsB 65 5 H 0 (some g) acc →
    Run Cx 52 T [] none [.inLoop c52_11, .inBlock 0, .code c52_29] H (fun r0 H' => BX.freeze H' r0 = some r)
theorem pq_end {s acc : Bytes} (hl : acc.length ≤ 1000000) : PQ s (.str (acc ++ [34])) s.length acc := by
  intro T H g t0 t3 t8 t9 hB
  obtain ⟨n, A⟩ := H
  rw [run_inLoop]
  have h0 : ((s.length : Int) < (s.length : Int)) = False := by simp
  simp only [t0, t3, t8, t9, h0, run_exit_start, exit_here, exit_code, exit_inLoop, n52_0, n52_1, n52_2, n52_3, n52_4, n52_5, n52_6, n52_7, n52_8, n52_9, n52_10, n52_11, n52_12, n52_13, n52_14, n52_15, n52_16, n52_17, n52_18, n52_19, n52_20, n52_21, n52_22, n52_23, n52_24, n52_25, n52_26, n52_27, n52_28, n52_29, n52_30, n52_31, n52_32, n52_33, o52_1, o52_3, o52_5, o52_8, o52_12, o52_20, o52_22, o52_24, o52_26, o52_27, o52_28, o52_30, o52_32, res52, TT_3, TT_4, TT_5, TT_9, TT_21, TT_22, TT_25, TT_33, TT_35, TT_37, TT_39, TT_47, TT_52, TT_56, TT_59, TT_60, TT_62, TT_63, TT_65, TT_73, TT_77, TT_82, TT_84, bb, primP, primM, ev, evs, parts_, ofConst, bin, un, intBin, putA, enterT, Nat.reduceEqDiff, Nat.reduceAdd, Nat.reduceMul, Nat.reduceLeDiff, Nat.reduceLT, ↓reduceIte, reduceCtorEq, RunRes, resultsA, oneOf, AV.plain, AV.cells, AHeap.push, AHeap.set, AHeap.empty, fieldOf, loadA, storeA, BX.part, TK.isAgg, convA, builtinA, inertB, builtinP, buildA, fillA, splice, eqv, cellsEq, sizeT, adT, ldT, fwT, Nat.reduceBeqDiff, Nat.reduceBneDiff, Int.reduceBNe, Int.reduceBEq, Int.reduceEq, Int.reduceLT, Int.reduceLE, Int.reduceAdd, Int.reduceSub, Int.reduceMul, Int.reduceNeg, strBin, indexAddrA, elems, lenOf, chunk, List.reduceReplicate, Int.reduceToNat]
  refine WriteByte_call (x := 34) hB (by unfold most; omega) ?_
  intro H' z hB' _
  obtain ⟨n', A'⟩ := H'
  simp only [t3, n52_0, n52_1, n52_2, n52_3, n52_4, n52_5, n52_6, n52_7, n52_8, n52_9, n52_10, n52_11, n52_12, n52_13, n52_14, n52_15, n52_16, n52_17, n52_18, n52_19, n52_20, n52_21, n52_22, n52_23, n52_24, n52_25, n52_26, n52_27, n52_28, n52_29, n52_30, n52_31, n52_32, n52_33, o52_1, o52_3, o52_5, o52_8, o52_12, o52_20, o52_22, o52_24, o52_26, o52_27, o52_28, o52_30, o52_32, res52, TT_3, TT_4, TT_5, TT_9, TT_21, TT_22, TT_25, TT_33, TT_35, TT_37, TT_39, TT_47, TT_52, TT_56, TT_59, TT_60, TT_62, TT_63, TT_65, TT_73, TT_77, TT_82, TT_84, bb, primP, primM, ev, evs, parts_, ofConst, bin, un, intBin, putA, enterT, Nat.reduceEqDiff, Nat.reduceAdd, Nat.reduceMul, Nat.reduceLeDiff, Nat.reduceLT, ↓reduceIte, reduceCtorEq, RunRes, resultsA, oneOf, AV.plain, AV.cells, AHeap.push, AHeap.set, AHeap.empty, fieldOf, loadA, storeA, BX.part, TK.isAgg, convA, builtinA, inertB, builtinP, buildA, fillA, splice, eqv, cellsEq, sizeT, adT, ldT, fwT, Nat.reduceBeqDiff, Nat.reduceBneDiff, Int.reduceBNe, Int.reduceBEq, Int.reduceEq, Int.reduceLT, Int.reduceLE, Int.reduceAdd, Int.reduceSub, Int.reduceMul, Int.reduceNeg, strBin, indexAddrA, elems, lenOf, chunk, List.reduceReplicate, Int.reduceToNat]
  rw [String_call hB' (by simp) (by unfold maxLen; rw [List.length_append, List.length_singleton]; omega)]
  simp only [n52_0, n52_1, n52_2, n52_3, n52_4, n52_5, n52_6, n52_7, n52_8, n52_9, n52_10, n52_11, n52_12, n52_13, n52_14, n52_15, n52_16, n52_17, n52_18, n52_19, n52_20, n52_21, n52_22, n52_23, n52_24, n52_25, n52_26, n52_27, n52_28, n52_29, n52_30, n52_31, n52_32, n52_33, o52_1, o52_3, o52_5, o52_8, o52_12, o52_20, o52_22, o52_24, o52_26, o52_27, o52_28, o52_30, o52_32, res52, TT_3, TT_4, TT_5, TT_9, TT_21, TT_22, TT_25, TT_33, TT_35, TT_37, TT_39, TT_47, TT_52, TT_56, TT_59, TT_60, TT_62, TT_63, TT_65, TT_73, TT_77, TT_82, TT_84, bb, primP, primM, ev, evs, parts_, ofConst, bin, un, intBin, putA, enterT, Nat.reduceEqDiff, Nat.reduceAdd, Nat.reduceMul, Nat.reduceLeDiff, Nat.reduceLT, ↓reduceIte, reduceCtorEq, RunRes, resultsA, oneOf, AV.plain, AV.cells, AHeap.push, AHeap.set, AHeap.empty, fieldOf, loadA, storeA, BX.part, TK.isAgg, convA, builtinA, inertB, builtinP, buildA, fillA, splice, eqv, cellsEq, sizeT, adT, ldT, fwT, Nat.reduceBeqDiff, Nat.reduceBneDiff, Int.reduceBNe, Int.reduceBEq, Int.reduceEq, Int.reduceLT, Int.reduceLE, Int.reduceAdd, Int.reduceSub, Int.reduceMul, Int.reduceNeg, strBin, indexAddrA, elems, lenOf, chunk, List.reduceReplicate, Int.reduceToNat]
theorem pq_step {s acc : Bytes} {i : Nat} {c : UInt8} {r : AV} (hi : s[i]? = some c) (hs : s.length ≤ 100000) (hl : acc.length ≤ 1000000) (hp : PQ s r (i + 1) (acc ++ q1 c)) : PQ s r i acc := by
  intro T H g t0 t3 t8 t9 hB
  obtain ⟨n, A⟩ := H
  rw [run_inLoop]
  have hlt : i < s.length := (List.getElem?_eq_some_iff.mp hi).1
  have h0 : ((i : Int) < (s.length : Int)) = True := eq_true (by omega)
  have w1 : IntKind.i64.wrap ((i : Int) + 1) = ((i + 1 : Nat) : Int) := by rw [wr64 (by omega) (by omega)]; omega
  have hcu := c.toNat_lt
  have hc0 : (0 : Int) ≤ (i : Int) := by omega
  have hpl := plain_ok (c.toNat : Int)
  unfold q1 at hp
  by_cases hc : plainB c = true
  · have hc' : plainI (c.toNat : Int) = true := hc
    rw [if_pos hc] at hp
    simp only [t0, t3, t8, t9, h0, hi, hc', hc0, indexA, Int.toNat_natCast, call_pure pure59 rfl hpl, run_exit_start, exit_here, exit_code, exit_inLoop, run_inBlock, n52_0, n52_1, n52_2, n52_3, n52_4, n52_5, n52_6, n52_7, n52_8, n52_9, n52_10, n52_11, n52_12, n52_13, n52_14, n52_15, n52_16, n52_17, n52_18, n52_19, n52_20, n52_21, n52_22, n52_23, n52_24, n52_25, n52_26, n52_27, n52_28, n52_29, n52_30, n52_31, n52_32, n52_33, o52_1, o52_3, o52_5, o52_8, o52_12, o52_20, o52_22, o52_24, o52_26, o52_27, o52_28, o52_30, o52_32, res52, TT_3, TT_4, TT_5, TT_9, TT_21, TT_22, TT_25, TT_33, TT_35, TT_37, TT_39, TT_47, TT_52, TT_56, TT_59, TT_60, TT_62, TT_63, TT_65, TT_73, TT_77, TT_82, TT_84, bb, primP, primM, ev, evs, parts_, ofConst, bin, un, intBin, putA, enterT, Nat.reduceEqDiff, Nat.reduceAdd, Nat.reduceMul, Nat.reduceLeDiff, Nat.reduceLT, ↓reduceIte, reduceCtorEq, RunRes, resultsA, oneOf, AV.plain, AV.cells, AHeap.push, AHeap.set, AHeap.empty, fieldOf, loadA, storeA, BX.part, TK.isAgg, convA, builtinA, inertB, builtinP, buildA, fillA, splice, eqv, cellsEq, sizeT, adT, ldT, fwT, Nat.reduceBeqDiff, Nat.reduceBneDiff, Int.reduceBNe, Int.reduceBEq, Int.reduceEq, Int.reduceLT, Int.reduceLE, Int.reduceAdd, Int.reduceSub, Int.reduceMul, Int.reduceNeg, strBin, indexAddrA, elems, lenOf, chunk, List.reduceReplicate, Int.reduceToNat]
    refine WriteByte_call hB (by unfold most; omega) ?_
    intro H' z hB' _
    simp only [t9, w1, run_inBlock, n52_0, n52_1, n52_2, n52_3, n52_4, n52_5, n52_6, n52_7, n52_8, n52_9, n52_10, n52_11, n52_12, n52_13, n52_14, n52_15, n52_16, n52_17, n52_18, n52_19, n52_20, n52_21, n52_22, n52_23, n52_24, n52_25, n52_26, n52_27, n52_28, n52_29, n52_30, n52_31, n52_32, n52_33, o52_1, o52_3, o52_5, o52_8, o52_12, o52_20, o52_22, o52_24, o52_26, o52_27, o52_28, o52_30, o52_32, res52, TT_3, TT_4, TT_5, TT_9, TT_21, TT_22, TT_25, TT_33, TT_35, TT_37, TT_39, TT_47, TT_52, TT_56, TT_59, TT_60, TT_62, TT_63, TT_65, TT_73, TT_77, TT_82, TT_84, bb, primP, primM, ev, evs, parts_, ofConst, bin, un, intBin, putA, enterT, Nat.reduceEqDiff, Nat.reduceAdd, Nat.reduceMul, Nat.reduceLeDiff, Nat.reduceLT, ↓reduceIte, reduceCtorEq, RunRes, resultsA, oneOf, AV.plain, AV.cells, AHeap.push, AHeap.set, AHeap.empty, fieldOf, loadA, storeA, BX.part, TK.isAgg, convA, builtinA, inertB, builtinP, buildA, fillA, splice, eqv, cellsEq, sizeT, adT, ldT, fwT, Nat.reduceBeqDiff, Nat.reduceBneDiff, Int.reduceBNe, Int.reduceBEq, Int.reduceEq, Int.reduceLT, Int.reduceLE, Int.reduceAdd, Int.reduceSub, Int.reduceMul, Int.reduceNeg, strBin, indexAddrA, elems, lenOf, chunk, List.reduceReplicate, Int.reduceToNat]
    refine hp _ _ z ?_ ?_ ?_ ?_ hB'
    all_goals simp only [upd_app, t0, t3, t8, Nat.reduceEqDiff, ↓reduceIte]
  · have hc' : plainI (c.toNat : Int) = false := by
      show plainB c = false
      simpa using hc
    rw [if_neg hc] at hp
    obtain ⟨t1, t2⟩ := td16 (n := c.toNat) (by omega)
    have z16 : ((16 : Int) = 0) = False := by simp
    have w2 : IntKind.u8.wrap ((c.toNat : Int) / 16) = (c.toNat : Int) / 16 := wr8 (by omega) (by omega)
    have w3 : IntKind.u8.wrap ((c.toNat : Int) / 16 + 1) = (c.toNat : Int) / 16 + 1 := wr8 (by omega) (by omega)
    have w4 : IntKind.u8.wrap ((c.toNat : Int) % 16 + 1) = (c.toNat : Int) % 16 + 1 := wr8 (by omega) (by omega)
    have s1 := slice_dig (k := .u8) (d := (c.toNat : Int) / 16) (by omega) (by omega)
    have s2 := slice_dig (k := .u8) (d := (c.toNat : Int) % 16) (by omega) (by omega)
    rw [show ((c.toNat : Int) / 16).toNat = c.toNat / 16 by omega] at s1
    rw [show ((c.toNat : Int) % 16).toNat = c.toNat % 16 by omega] at s2
    simp only [t0, t3, t8, t9, h0, hi, hc', hc0, t1, t2, z16, w2, w3, w4, s1, s2, evo, indexA, Int.toNat_natCast, call_pure pure59 rfl hpl, run_exit_start, exit_here, exit_code, exit_inLoop, run_inBlock, n52_0, n52_1, n52_2, n52_3, n52_4, n52_5, n52_6, n52_7, n52_8, n52_9, n52_10, n52_11, n52_12, n52_13, n52_14, n52_15, n52_16, n52_17, n52_18, n52_19, n52_20, n52_21, n52_22, n52_23, n52_24, n52_25, n52_26, n52_27, n52_28, n52_29, n52_30, n52_31, n52_32, n52_33, o52_1, o52_3, o52_5, o52_8, o52_12, o52_20, o52_22, o52_24, o52_26, o52_27, o52_28, o52_30, o52_32, res52, TT_3, TT_4, TT_5, TT_9, TT_21, TT_22, TT_25, TT_33, TT_35, TT_37, TT_39, TT_47, TT_52, TT_56, TT_59, TT_60, TT_62, TT_63, TT_65, TT_73, TT_77, TT_82, TT_84, bb, primP, primM, ev, evs, parts_, ofConst, bin, un, intBin, putA, enterT, Nat.reduceEqDiff, Nat.reduceAdd, Nat.reduceMul, Nat.reduceLeDiff, Nat.reduceLT, ↓reduceIte, reduceCtorEq, RunRes, resultsA, oneOf, AV.plain, AV.cells, AHeap.push, AHeap.set, AHeap.empty, fieldOf, loadA, storeA, BX.part, TK.isAgg, convA, builtinA, inertB, builtinP, buildA, fillA, splice, eqv, cellsEq, sizeT, adT, ldT, fwT, Nat.reduceBeqDiff, Nat.reduceBneDiff, Int.reduceBNe, Int.reduceBEq, Int.reduceEq, Int.reduceLT, Int.reduceLE, Int.reduceAdd, Int.reduceSub, Int.reduceMul, Int.reduceNeg, strBin, indexAddrA, elems, lenOf, chunk, List.reduceReplicate, Int.reduceToNat]
    refine WriteString_call hB (by unfold most; simp; omega) ?_
    intro H' g' hB' _
    have hg : ∃ z, g' = some z := by
      cases g' with
      | some z => exact ⟨z, rfl⟩
      | none => have := hB'.buf; simp at this
    obtain ⟨z, rfl⟩ := hg
    simp only [t9, w1, run_inBlock, n52_0, n52_1, n52_2, n52_3, n52_4, n52_5, n52_6, n52_7, n52_8, n52_9, n52_10, n52_11, n52_12, n52_13, n52_14, n52_15, n52_16, n52_17, n52_18, n52_19, n52_20, n52_21, n52_22, n52_23, n52_24, n52_25, n52_26, n52_27, n52_28, n52_29, n52_30, n52_31, n52_32, n52_33, o52_1, o52_3, o52_5, o52_8, o52_12, o52_20, o52_22, o52_24, o52_26, o52_27, o52_28, o52_30, o52_32, res52, TT_3, TT_4, TT_5, TT_9, TT_21, TT_22, TT_25, TT_33, TT_35, TT_37, TT_39, TT_47, TT_52, TT_56, TT_59, TT_60, TT_62, TT_63, TT_65, TT_73, TT_77, TT_82, TT_84, bb, primP, primM, ev, evs, parts_, ofConst, bin, un, intBin, putA, enterT, Nat.reduceEqDiff, Nat.reduceAdd, Nat.reduceMul, Nat.reduceLeDiff, Nat.reduceLT, ↓reduceIte, reduceCtorEq, RunRes, resultsA, oneOf, AV.plain, AV.cells, AHeap.push, AHeap.set, AHeap.empty, fieldOf, loadA, storeA, BX.part, TK.isAgg, convA, builtinA, inertB, builtinP, buildA, fillA, splice, eqv, cellsEq, sizeT, adT, ldT, fwT, Nat.reduceBeqDiff, Nat.reduceBneDiff, Int.reduceBNe, Int.reduceBEq, Int.reduceEq, Int.reduceLT, Int.reduceLE, Int.reduceAdd, Int.reduceSub, Int.reduceMul, Int.reduceNeg, strBin, indexAddrA, elems, lenOf, chunk, List.reduceReplicate, Int.reduceToNat]
    refine hp _ _ z ?_ ?_ ?_ ?_ hB'
    all_goals simp only [upd_app, t0, t3, t8, Nat.reduceEqDiff, ↓reduceIte]
theorem pq_all {s : Bytes} (hs : s.length ≤ 100000) : ∀ (j i : Nat) (acc : Bytes), i + j = s.length → acc.length ≤ 1 + 3 * i → PQ s (.str (acc ++ (quoM (s.drop i) ++ [34]))) i acc
  | 0, i, acc, hij, hl => by
    have e : i = s.length := by omega
    subst e
    rw [List.drop_length]
    exact pq_end (by omega)
  | j + 1, i, acc, hij, hl => by
    have hi : i < s.length := by omega
    have hd : s.drop i = s[i] :: s.drop (i + 1) := List.drop_eq_getElem_cons hi
    rw [hd, quoM_cons]
    have := pq_all hs j (i + 1) (acc ++ q1 s[i]) (by omega) (by rw [List.length_append]; have := q1_len s[i]; omega)
    simp only [List.append_assoc] at this ⊢
    exact pq_step (List.getElem?_eq_getElem hi) hs (by omega) this
theorem quoted_ok (s : Bytes) (hs : s.length ≤ 100000) : PCall Cx 52 [.str s] (.str (quoS s)) := by
  refine pcall_run (noext _) body52 ?_
  have hp := pq_all hs s.length 0 [34] (by omega) (by simp)
  simp only [n52_0, n52_1, n52_2, n52_3, n52_4, n52_5, n52_6, n52_7, n52_8, n52_9, n52_10, n52_12, n52_13, n52_14, n52_15, n52_16, n52_17, n52_18, n52_19, n52_20, n52_21, n52_22, n52_23, n52_24, n52_25, n52_26, n52_27, n52_28, n52_30, n52_31, n52_32, n52_33, o52_1, o52_3, o52_5, o52_8, o52_12, o52_20, o52_22, o52_24, o52_26, o52_27, o52_28, o52_30, o52_32, res52, TT_3, TT_4, TT_5, TT_9, TT_21, TT_22, TT_25, TT_33, TT_35, TT_37, TT_39, TT_47, TT_52, TT_56, TT_59, TT_60, TT_62, TT_63, TT_65, TT_73, TT_77, TT_82, TT_84, bb, primP, primM, ev, evs, parts_, ofConst, bin, un, intBin, putA, enterT, Nat.reduceEqDiff, Nat.reduceAdd, Nat.reduceMul, Nat.reduceLeDiff, Nat.reduceLT, ↓reduceIte, reduceCtorEq, RunRes, resultsA, oneOf, AV.plain, AV.cells, AHeap.push, AHeap.set, AHeap.empty, fieldOf, loadA, storeA, BX.part, TK.isAgg, convA, builtinA, inertB, builtinP, buildA, fillA, splice, eqv, cellsEq, sizeT, adT, ldT, fwT, Nat.reduceBeqDiff, Nat.reduceBneDiff, Int.reduceBNe, Int.reduceBEq, Int.reduceEq, Int.reduceLT, Int.reduceLE, Int.reduceAdd, Int.reduceSub, Int.reduceMul, Int.reduceNeg, strBin, indexAddrA, elems, lenOf, chunk, List.reduceReplicate, Int.reduceToNat]
  refine WriteByte_call (x := 34) (g := none) (acc := []) ⟨by show 0 < 1; omega, ⟨.nilP, .inl rfl, by simp only [upd_app, ↓reduceIte]⟩, rfl⟩ (by unfold most; simp) ?_
  intro H' z hB _
  simp only [n52_0, n52_1, n52_2, n52_3, n52_4, n52_5, n52_6, n52_7, n52_8, n52_9, n52_10, n52_12, n52_13, n52_14, n52_15, n52_16, n52_17, n52_18, n52_19, n52_20, n52_21, n52_22, n52_23, n52_24, n52_25, n52_26, n52_27, n52_28, n52_30, n52_31, n52_32, n52_33, o52_1, o52_3, o52_5, o52_8, o52_12, o52_20, o52_22, o52_24, o52_26, o52_27, o52_28, o52_30, o52_32, res52, TT_3, TT_4, TT_5, TT_9, TT_21, TT_22, TT_25, TT_33, TT_35, TT_37, TT_39, TT_47, TT_52, TT_56, TT_59, TT_60, TT_62, TT_63, TT_65, TT_73, TT_77, TT_82, TT_84, bb, primP, primM, ev, evs, parts_, ofConst, bin, un, intBin, putA, enterT, Nat.reduceEqDiff, Nat.reduceAdd, Nat.reduceMul, Nat.reduceLeDiff, Nat.reduceLT, ↓reduceIte, reduceCtorEq, RunRes, resultsA, oneOf, AV.plain, AV.cells, AHeap.push, AHeap.set, AHeap.empty, fieldOf, loadA, storeA, BX.part, TK.isAgg, convA, builtinA, inertB, builtinP, buildA, fillA, splice, eqv, cellsEq, sizeT, adT, ldT, fwT, Nat.reduceBeqDiff, Nat.reduceBneDiff, Int.reduceBNe, Int.reduceBEq, Int.reduceEq, Int.reduceLT, Int.reduceLE, Int.reduceAdd, Int.reduceSub, Int.reduceMul, Int.reduceNeg, strBin, indexAddrA, elems, lenOf, chunk, List.reduceReplicate, Int.reduceToNat]
  refine hp _ _ z ?_ ?_ ?_ ?_ hB
  all_goals simp only [upd_app, enterT, List.getElem?_cons_zero, Option.getD_some, Nat.reduceEqDiff, ↓reduceIte, Int.ofNat_zero]
  all_goals rfl
end Go.Proofs.Ytkedlkcknhinoaa.G

namespace Go.Proofs.Ytkedlkcknhinoaa.G
open Go.BX
set_option linter.unusedSimpArgs false
set_option linter.unusedVariables false
abbrev spot (x y : Int) : AV := .agg [.int .i64 x, .int .i64 y]
abbrev val (k n : Int) (s : Bytes) (x y : Int) : AV := .agg [.int .i64 k, .int .i64 n, .str s, .int .i64 x, .int .i64 y]
def inR (n : Int) : Bool := decide (-16777216 ≤ n) && decide (n ≤ 16777216)
theorem inside_ok (x : Int) : PCall Cx 62 [.int .i64 x] (.bool (inR x)) := by
  refine pcall_run (noext _) body62 ?_
  by_cases h : -16777216 ≤ x <;>
  simp only [h, inR, n62_0, n62_1, n62_2, n62_3, n62_4, o62_1, o62_3, res62, bb, primP, primM, ev, evs, parts_, ofConst, bin, un, intBin, putA, enterT, Nat.reduceEqDiff, Nat.reduceAdd, Nat.reduceMul, Nat.reduceLeDiff, Nat.reduceLT, ↓reduceIte, reduceCtorEq, RunRes, resultsA, oneOf, AV.plain, AV.cells, AHeap.push, AHeap.set, AHeap.empty, fieldOf, loadA, storeA, BX.part, TK.isAgg, convA, builtinA, inertB, builtinP, buildA, fillA, splice, eqv, cellsEq, sizeT, adT, ldT, fwT, Nat.reduceBeqDiff, Nat.reduceBneDiff, Int.reduceBNe, Int.reduceBEq, Int.reduceEq, Int.reduceLT, Int.reduceLE, Int.reduceAdd, Int.reduceSub, Int.reduceMul, Int.reduceNeg, strBin, indexAddrA, elems, lenOf, chunk, List.reduceReplicate, Int.reduceToNat]
theorem gRight_ok (x y : Int) : PCall Cx 57 [spot x y] (.bool (inR x && inR y)) := by
  refine pcall_run (noext _) body57 ?_
  by_cases h : inR x = true
  · simp only [h, spot, call_pure pure62 rfl (inside_ok x), call_pure pure62 rfl (inside_ok y), n57_0, n57_1, n57_2, n57_3, n57_4, o57_1, o57_3, res57, TT_3, TT_4, TT_5, TT_9, TT_21, TT_22, TT_25, TT_33, TT_35, TT_37, TT_39, TT_47, TT_52, TT_56, TT_59, TT_60, TT_62, TT_63, TT_65, TT_73, TT_77, TT_82, TT_84, bb, primP, primM, ev, evs, parts_, ofConst, bin, un, intBin, putA, enterT, Nat.reduceEqDiff, Nat.reduceAdd, Nat.reduceMul, Nat.reduceLeDiff, Nat.reduceLT, ↓reduceIte, reduceCtorEq, RunRes, resultsA, oneOf, AV.plain, AV.cells, AHeap.push, AHeap.set, AHeap.empty, fieldOf, loadA, storeA, BX.part, TK.isAgg, convA, builtinA, inertB, builtinP, buildA, fillA, splice, eqv, cellsEq, sizeT, adT, ldT, fwT, Nat.reduceBeqDiff, Nat.reduceBneDiff, Int.reduceBNe, Int.reduceBEq, Int.reduceEq, Int.reduceLT, Int.reduceLE, Int.reduceAdd, Int.reduceSub, Int.reduceMul, Int.reduceNeg, strBin, indexAddrA, elems, lenOf, chunk, List.reduceReplicate, Int.reduceToNat]
  · simp only [Bool.not_eq_true] at h
    simp only [h, spot, call_pure pure62 rfl (inside_ok x), n57_0, n57_1, n57_2, n57_3, n57_4, o57_1, o57_3, res57, TT_3, TT_4, TT_5, TT_9, TT_21, TT_22, TT_25, TT_33, TT_35, TT_37, TT_39, TT_47, TT_52, TT_56, TT_59, TT_60, TT_62, TT_63, TT_65, TT_73, TT_77, TT_82, TT_84, bb, primP, primM, ev, evs, parts_, ofConst, bin, un, intBin, putA, enterT, Nat.reduceEqDiff, Nat.reduceAdd, Nat.reduceMul, Nat.reduceLeDiff, Nat.reduceLT, ↓reduceIte, reduceCtorEq, RunRes, resultsA, oneOf, AV.plain, AV.cells, AHeap.push, AHeap.set, AHeap.empty, fieldOf, loadA, storeA, BX.part, TK.isAgg, convA, builtinA, inertB, builtinP, buildA, fillA, splice, eqv, cellsEq, sizeT, adT, ldT, fwT, Nat.reduceBeqDiff, Nat.reduceBneDiff, Int.reduceBNe, Int.reduceBEq, Int.reduceEq, Int.reduceLT, Int.reduceLE, Int.reduceAdd, Int.reduceSub, Int.reduceMul, Int.reduceNeg, strBin, indexAddrA, elems, lenOf, chunk, List.reduceReplicate, Int.reduceToNat]
def rightV (k n : Int) (s : Bytes) (x y : Int) : Bool :=
  if k = 0 then ((decide (-9007199254740992 ≤ n) && decide (n ≤ 9007199254740992)) && !(s != [])) && !(!((x == 0) && (y == 0)))
  else if k = 1 then (decide ((s.length : Int) ≤ 4096) && !(n != 0)) && !(!((x == 0) && (y == 0)))
  else if k = 2 then ((inR x && inR y) && !(n != 0)) && !(s != [])
  else false
theorem Right_ok (k n : Int) (s : Bytes) (x y : Int) : PCall Cx 49 [val k n s x y] (.bool (rightV k n s x y)) := by
  refine pcall_run (noext _) body49 ?_
  unfold rightV
  by_cases h0 : k = 0
  · subst h0
    cases h1 : decide (-9007199254740992 ≤ n) with
    | false => simp only [h1, Bool.false_and, run_exit_start, exit_here, exit_code, run_inBlock, n49_0, n49_1, n49_2, n49_3, n49_4, n49_5, n49_6, n49_7, n49_8, n49_9, n49_10, n49_11, n49_12, n49_13, n49_14, n49_15, n49_16, n49_17, n49_18, n49_19, n49_20, n49_21, n49_22, n49_23, n49_24, n49_25, n49_26, n49_27, n49_28, n49_29, o49_1, o49_3, o49_6, o49_9, o49_12, o49_15, o49_18, o49_21, o49_24, o49_28, res49, TT_3, TT_4, TT_5, TT_9, TT_21, TT_22, TT_25, TT_33, TT_35, TT_37, TT_39, TT_47, TT_52, TT_56, TT_59, TT_60, TT_62, TT_63, TT_65, TT_73, TT_77, TT_82, TT_84, bb, primP, primM, ev, evs, parts_, ofConst, bin, un, intBin, putA, enterT, Nat.reduceEqDiff, Nat.reduceAdd, Nat.reduceMul, Nat.reduceLeDiff, Nat.reduceLT, ↓reduceIte, reduceCtorEq, RunRes, resultsA, oneOf, AV.plain, AV.cells, AHeap.push, AHeap.set, AHeap.empty, fieldOf, loadA, storeA, BX.part, TK.isAgg, convA, builtinA, inertB, builtinP, buildA, fillA, splice, eqv, cellsEq, sizeT, adT, ldT, fwT, Nat.reduceBeqDiff, Nat.reduceBneDiff, Int.reduceBNe, Int.reduceBEq, Int.reduceEq, Int.reduceLT, Int.reduceLE, Int.reduceAdd, Int.reduceSub, Int.reduceMul, Int.reduceNeg, strBin, indexAddrA, elems, lenOf, chunk, List.reduceReplicate, Int.reduceToNat]
    | true =>
      cases h2 : decide (n ≤ 9007199254740992) with
      | false => simp only [h1, h2, Bool.false_and, run_exit_start, exit_here, exit_code, run_inBlock, n49_0, n49_1, n49_2, n49_3, n49_4, n49_5, n49_6, n49_7, n49_8, n49_9, n49_10, n49_11, n49_12, n49_13, n49_14, n49_15, n49_16, n49_17, n49_18, n49_19, n49_20, n49_21, n49_22, n49_23, n49_24, n49_25, n49_26, n49_27, n49_28, n49_29, o49_1, o49_3, o49_6, o49_9, o49_12, o49_15, o49_18, o49_21, o49_24, o49_28, res49, TT_3, TT_4, TT_5, TT_9, TT_21, TT_22, TT_25, TT_33, TT_35, TT_37, TT_39, TT_47, TT_52, TT_56, TT_59, TT_60, TT_62, TT_63, TT_65, TT_73, TT_77, TT_82, TT_84, bb, primP, primM, ev, evs, parts_, ofConst, bin, un, intBin, putA, enterT, Nat.reduceEqDiff, Nat.reduceAdd, Nat.reduceMul, Nat.reduceLeDiff, Nat.reduceLT, ↓reduceIte, reduceCtorEq, RunRes, resultsA, oneOf, AV.plain, AV.cells, AHeap.push, AHeap.set, AHeap.empty, fieldOf, loadA, storeA, BX.part, TK.isAgg, convA, builtinA, inertB, builtinP, buildA, fillA, splice, eqv, cellsEq, sizeT, adT, ldT, fwT, Nat.reduceBeqDiff, Nat.reduceBneDiff, Int.reduceBNe, Int.reduceBEq, Int.reduceEq, Int.reduceLT, Int.reduceLE, Int.reduceAdd, Int.reduceSub, Int.reduceMul, Int.reduceNeg, strBin, indexAddrA, elems, lenOf, chunk, List.reduceReplicate, Int.reduceToNat]
      | true =>
        cases h3 : (s != []) <;>
        simp only [h1, h2, h3, Bool.false_and, Bool.true_and, run_exit_start, exit_here, exit_code, run_inBlock, n49_0, n49_1, n49_2, n49_3, n49_4, n49_5, n49_6, n49_7, n49_8, n49_9, n49_10, n49_11, n49_12, n49_13, n49_14, n49_15, n49_16, n49_17, n49_18, n49_19, n49_20, n49_21, n49_22, n49_23, n49_24, n49_25, n49_26, n49_27, n49_28, n49_29, o49_1, o49_3, o49_6, o49_9, o49_12, o49_15, o49_18, o49_21, o49_24, o49_28, res49, TT_3, TT_4, TT_5, TT_9, TT_21, TT_22, TT_25, TT_33, TT_35, TT_37, TT_39, TT_47, TT_52, TT_56, TT_59, TT_60, TT_62, TT_63, TT_65, TT_73, TT_77, TT_82, TT_84, bb, primP, primM, ev, evs, parts_, ofConst, bin, un, intBin, putA, enterT, Nat.reduceEqDiff, Nat.reduceAdd, Nat.reduceMul, Nat.reduceLeDiff, Nat.reduceLT, ↓reduceIte, reduceCtorEq, RunRes, resultsA, oneOf, AV.plain, AV.cells, AHeap.push, AHeap.set, AHeap.empty, fieldOf, loadA, storeA, BX.part, TK.isAgg, convA, builtinA, inertB, builtinP, buildA, fillA, splice, eqv, cellsEq, sizeT, adT, ldT, fwT, Nat.reduceBeqDiff, Nat.reduceBneDiff, Int.reduceBNe, Int.reduceBEq, Int.reduceEq, Int.reduceLT, Int.reduceLE, Int.reduceAdd, Int.reduceSub, Int.reduceMul, Int.reduceNeg, strBin, indexAddrA, elems, lenOf, chunk, List.reduceReplicate, Int.reduceToNat]
  · have e0 : (k == 0) = false := by simpa using h0
    by_cases h1 : k = 1
    · subst h1
      cases h2 : decide ((s.length : Int) ≤ 4096) with
      | false => simp only [h2, Bool.false_and, run_exit_start, exit_here, exit_code, run_inBlock, n49_0, n49_1, n49_2, n49_3, n49_4, n49_5, n49_6, n49_7, n49_8, n49_9, n49_10, n49_11, n49_12, n49_13, n49_14, n49_15, n49_16, n49_17, n49_18, n49_19, n49_20, n49_21, n49_22, n49_23, n49_24, n49_25, n49_26, n49_27, n49_28, n49_29, o49_1, o49_3, o49_6, o49_9, o49_12, o49_15, o49_18, o49_21, o49_24, o49_28, res49, TT_3, TT_4, TT_5, TT_9, TT_21, TT_22, TT_25, TT_33, TT_35, TT_37, TT_39, TT_47, TT_52, TT_56, TT_59, TT_60, TT_62, TT_63, TT_65, TT_73, TT_77, TT_82, TT_84, bb, primP, primM, ev, evs, parts_, ofConst, bin, un, intBin, putA, enterT, Nat.reduceEqDiff, Nat.reduceAdd, Nat.reduceMul, Nat.reduceLeDiff, Nat.reduceLT, ↓reduceIte, reduceCtorEq, RunRes, resultsA, oneOf, AV.plain, AV.cells, AHeap.push, AHeap.set, AHeap.empty, fieldOf, loadA, storeA, BX.part, TK.isAgg, convA, builtinA, inertB, builtinP, buildA, fillA, splice, eqv, cellsEq, sizeT, adT, ldT, fwT, Nat.reduceBeqDiff, Nat.reduceBneDiff, Int.reduceBNe, Int.reduceBEq, Int.reduceEq, Int.reduceLT, Int.reduceLE, Int.reduceAdd, Int.reduceSub, Int.reduceMul, Int.reduceNeg, strBin, indexAddrA, elems, lenOf, chunk, List.reduceReplicate, Int.reduceToNat]
      | true =>
        cases h3 : (n != 0) <;>
        simp only [h2, h3, Bool.false_and, Bool.true_and, run_exit_start, exit_here, exit_code, run_inBlock, n49_0, n49_1, n49_2, n49_3, n49_4, n49_5, n49_6, n49_7, n49_8, n49_9, n49_10, n49_11, n49_12, n49_13, n49_14, n49_15, n49_16, n49_17, n49_18, n49_19, n49_20, n49_21, n49_22, n49_23, n49_24, n49_25, n49_26, n49_27, n49_28, n49_29, o49_1, o49_3, o49_6, o49_9, o49_12, o49_15, o49_18, o49_21, o49_24, o49_28, res49, TT_3, TT_4, TT_5, TT_9, TT_21, TT_22, TT_25, TT_33, TT_35, TT_37, TT_39, TT_47, TT_52, TT_56, TT_59, TT_60, TT_62, TT_63, TT_65, TT_73, TT_77, TT_82, TT_84, bb, primP, primM, ev, evs, parts_, ofConst, bin, un, intBin, putA, enterT, Nat.reduceEqDiff, Nat.reduceAdd, Nat.reduceMul, Nat.reduceLeDiff, Nat.reduceLT, ↓reduceIte, reduceCtorEq, RunRes, resultsA, oneOf, AV.plain, AV.cells, AHeap.push, AHeap.set, AHeap.empty, fieldOf, loadA, storeA, BX.part, TK.isAgg, convA, builtinA, inertB, builtinP, buildA, fillA, splice, eqv, cellsEq, sizeT, adT, ldT, fwT, Nat.reduceBeqDiff, Nat.reduceBneDiff, Int.reduceBNe, Int.reduceBEq, Int.reduceEq, Int.reduceLT, Int.reduceLE, Int.reduceAdd, Int.reduceSub, Int.reduceMul, Int.reduceNeg, strBin, indexAddrA, elems, lenOf, chunk, List.reduceReplicate, Int.reduceToNat]
    · have e1 : (k == 1) = false := by simpa using h1
      by_cases h2 : k = 2
      · subst h2
        cases h3 : (inR x && inR y) with
        | false => simp only [h3, call_pure pure57 rfl (gRight_ok x y), Bool.false_and, run_exit_start, exit_here, exit_code, run_inBlock, n49_0, n49_1, n49_2, n49_3, n49_4, n49_5, n49_6, n49_7, n49_8, n49_9, n49_10, n49_11, n49_12, n49_13, n49_14, n49_15, n49_16, n49_17, n49_18, n49_19, n49_20, n49_21, n49_22, n49_23, n49_24, n49_25, n49_26, n49_27, n49_28, n49_29, o49_1, o49_3, o49_6, o49_9, o49_12, o49_15, o49_18, o49_21, o49_24, o49_28, res49, TT_3, TT_4, TT_5, TT_9, TT_21, TT_22, TT_25, TT_33, TT_35, TT_37, TT_39, TT_47, TT_52, TT_56, TT_59, TT_60, TT_62, TT_63, TT_65, TT_73, TT_77, TT_82, TT_84, bb, primP, primM, ev, evs, parts_, ofConst, bin, un, intBin, putA, enterT, Nat.reduceEqDiff, Nat.reduceAdd, Nat.reduceMul, Nat.reduceLeDiff, Nat.reduceLT, ↓reduceIte, reduceCtorEq, RunRes, resultsA, oneOf, AV.plain, AV.cells, AHeap.push, AHeap.set, AHeap.empty, fieldOf, loadA, storeA, BX.part, TK.isAgg, convA, builtinA, inertB, builtinP, buildA, fillA, splice, eqv, cellsEq, sizeT, adT, ldT, fwT, Nat.reduceBeqDiff, Nat.reduceBneDiff, Int.reduceBNe, Int.reduceBEq, Int.reduceEq, Int.reduceLT, Int.reduceLE, Int.reduceAdd, Int.reduceSub, Int.reduceMul, Int.reduceNeg, strBin, indexAddrA, elems, lenOf, chunk, List.reduceReplicate, Int.reduceToNat]
        | true =>
          cases h4 : (n != 0) <;>
          simp only [h3, h4, call_pure pure57 rfl (gRight_ok x y), Bool.false_and, Bool.true_and, run_exit_start, exit_here, exit_code, run_inBlock, n49_0, n49_1, n49_2, n49_3, n49_4, n49_5, n49_6, n49_7, n49_8, n49_9, n49_10, n49_11, n49_12, n49_13, n49_14, n49_15, n49_16, n49_17, n49_18, n49_19, n49_20, n49_21, n49_22, n49_23, n49_24, n49_25, n49_26, n49_27, n49_28, n49_29, o49_1, o49_3, o49_6, o49_9, o49_12, o49_15, o49_18, o49_21, o49_24, o49_28, res49, TT_3, TT_4, TT_5, TT_9, TT_21, TT_22, TT_25, TT_33, TT_35, TT_37, TT_39, TT_47, TT_52, TT_56, TT_59, TT_60, TT_62, TT_63, TT_65, TT_73, TT_77, TT_82, TT_84, bb, primP, primM, ev, evs, parts_, ofConst, bin, un, intBin, putA, enterT, Nat.reduceEqDiff, Nat.reduceAdd, Nat.reduceMul, Nat.reduceLeDiff, Nat.reduceLT, ↓reduceIte, reduceCtorEq, RunRes, resultsA, oneOf, AV.plain, AV.cells, AHeap.push, AHeap.set, AHeap.empty, fieldOf, loadA, storeA, BX.part, TK.isAgg, convA, builtinA, inertB, builtinP, buildA, fillA, splice, eqv, cellsEq, sizeT, adT, ldT, fwT, Nat.reduceBeqDiff, Nat.reduceBneDiff, Int.reduceBNe, Int.reduceBEq, Int.reduceEq, Int.reduceLT, Int.reduceLE, Int.reduceAdd, Int.reduceSub, Int.reduceMul, Int.reduceNeg, strBin, indexAddrA, elems, lenOf, chunk, List.reduceReplicate, Int.reduceToNat]
      · have e2 : (k == 2) = false := by simpa using h2
        simp only [h0, h1, h2, e0, e1, e2, run_exit_start, exit_here, exit_code, run_inBlock, n49_0, n49_1, n49_2, n49_3, n49_4, n49_5, n49_6, n49_7, n49_8, n49_9, n49_10, n49_11, n49_12, n49_13, n49_14, n49_15, n49_16, n49_17, n49_18, n49_19, n49_20, n49_21, n49_22, n49_23, n49_24, n49_25, n49_26, n49_27, n49_28, n49_29, o49_1, o49_3, o49_6, o49_9, o49_12, o49_15, o49_18, o49_21, o49_24, o49_28, res49, TT_3, TT_4, TT_5, TT_9, TT_21, TT_22, TT_25, TT_33, TT_35, TT_37, TT_39, TT_47, TT_52, TT_56, TT_59, TT_60, TT_62, TT_63, TT_65, TT_73, TT_77, TT_82, TT_84, bb, primP, primM, ev, evs, parts_, ofConst, bin, un, intBin, putA, enterT, Nat.reduceEqDiff, Nat.reduceAdd, Nat.reduceMul, Nat.reduceLeDiff, Nat.reduceLT, ↓reduceIte, reduceCtorEq, RunRes, resultsA, oneOf, AV.plain, AV.cells, AHeap.push, AHeap.set, AHeap.empty, fieldOf, loadA, storeA, BX.part, TK.isAgg, convA, builtinA, inertB, builtinP, buildA, fillA, splice, eqv, cellsEq, sizeT, adT, ldT, fwT, Nat.reduceBeqDiff, Nat.reduceBneDiff, Int.reduceBNe, Int.reduceBEq, Int.reduceEq, Int.reduceLT, Int.reduceLE, Int.reduceAdd, Int.reduceSub, Int.reduceMul, Int.reduceNeg, strBin, indexAddrA, elems, lenOf, chunk, List.reduceReplicate, Int.reduceToNat]
def cmpI (x y : Int) : Int := if x < y then -1 else if y < x then 1 else 0
def oc (a b : Int) : Int := if a = 0 then b else a
def ordV (k n : Int) (s : Bytes) (x y : Int) (k' n' : Int) (s' : Bytes) (x' y' : Int) : Int := oc (cmpI k k') (oc (cmpI n n') (oc (cmpL s s') (oc (cmpI x x') (cmpI y y'))))
end Go.Proofs.Ytkedlkcknhinoaa.G
namespace Go.Proofs.Ytkedlkcknhinoaa.G
open Go.BX
set_option linter.unusedSimpArgs false
set_option linter.unusedVariables false
def writeV (k n : Int) (s : Bytes) (x y : Int) : Bytes :=
  if k = 0 then decS n else if k = 1 then quoS s else decS x ++ [58] ++ decS y
def half (n : Int) : Int := n % 134217728
def bytesV (k n : Int) (s : Bytes) (x y : Int) : Bytes :=
  if k = 0 then numS 0 ++ wholeS ((n - half n) / 134217728) ++ numS (half n) else if k = 1 then numS 1 ++ textS s else numS 2 ++ wholeS x ++ wholeS y
theorem right_cases {k n : Int} {s : Bytes} {x y : Int} (h : rightV k n s x y = true) :
    (k = 0 ∧ (-9007199254740992 ≤ n ∧ n ≤ 9007199254740992) ∧ s = [] ∧ x = 0 ∧ y = 0) ∨ (k = 1 ∧ s.length ≤ 4096 ∧ n = 0 ∧ x = 0 ∧ y = 0) ∨ (k = 2 ∧ (inR x = true ∧ inR y = true) ∧ n = 0 ∧ s = []) := by
  unfold rightV at h
  split at h
  · rename_i h0
    simp at h
    exact .inl ⟨h0, ⟨h.1.1.1, h.1.1.2⟩, h.1.2, h.2.1, h.2.2⟩
  · split at h
    · rename_i h1
      simp at h
      exact .inr (.inl ⟨h1, by omega, h.1.2, h.2.1, h.2.2⟩)
    · split at h
      · rename_i h2
        simp at h
        exact .inr (.inr ⟨h2, h.1.1, h.1.2, h.2⟩)
      · cases h
theorem inR_iff {x : Int} : inR x = true ↔ -16777216 ≤ x ∧ x ≤ 16777216 := by simp [inR]
theorem Write_no {k n : Int} {s : Bytes} {x y : Int} (h : rightV k n s x y = false) : PCall Cx 37 [val k n s x y] (.str []) := by
  refine pcall_run (noext _) body37 ?_
  have r := Right_ok k n s x y
  rw [h] at r
  simp only [call_pure pure49 rfl r, n37_0, n37_1, n37_2, n37_3, n37_4, n37_5, n37_6, n37_7, n37_8, n37_9, n37_10, n37_11, n37_12, n37_13, n37_14, n37_15, n37_16, n37_17, n37_18, n37_19, n37_20, n37_21, n37_22, n37_23, n37_24, n37_25, n37_26, n37_27, n37_28, n37_29, o37_1, o37_4, o37_7, o37_12, o37_15, o37_18, o37_21, o37_24, o37_28, res37, TT_3, TT_4, TT_5, TT_9, TT_21, TT_22, TT_25, TT_33, TT_35, TT_37, TT_39, TT_47, TT_52, TT_56, TT_59, TT_60, TT_62, TT_63, TT_65, TT_73, TT_77, TT_82, TT_84, bb, primP, primM, ev, evs, parts_, ofConst, bin, un, intBin, putA, enterT, Nat.reduceEqDiff, Nat.reduceAdd, Nat.reduceMul, Nat.reduceLeDiff, Nat.reduceLT, ↓reduceIte, reduceCtorEq, RunRes, resultsA, oneOf, AV.plain, AV.cells, AHeap.push, AHeap.set, AHeap.empty, fieldOf, loadA, storeA, BX.part, TK.isAgg, convA, builtinA, inertB, builtinP, buildA, fillA, splice, eqv, cellsEq, sizeT, adT, ldT, fwT, Nat.reduceBeqDiff, Nat.reduceBneDiff, Int.reduceBNe, Int.reduceBEq, Int.reduceEq, Int.reduceLT, Int.reduceLE, Int.reduceAdd, Int.reduceSub, Int.reduceMul, Int.reduceNeg, strBin, indexAddrA, elems, lenOf, chunk, List.reduceReplicate, Int.reduceToNat]
theorem Write_ok {k n : Int} {s : Bytes} {x y : Int} (h : rightV k n s x y = true) : PCall Cx 37 [val k n s x y] (.str (writeV k n s x y)) := by
  refine pcall_run (noext _) body37 ?_
  have r := Right_ok k n s x y
  rw [h] at r
  unfold writeV
  rcases right_cases h with ⟨rfl, hn, rfl, rfl, rfl⟩ | ⟨rfl, hs, rfl, rfl, rfl⟩ | ⟨rfl, ⟨hx, hy⟩, rfl, rfl⟩
  · simp only [call_pure pure49 rfl r, call_pure pure51 rfl (decimal_ok n hn), run_exit_start, exit_here, exit_code, run_inBlock, n37_0, n37_1, n37_2, n37_3, n37_4, n37_5, n37_6, n37_7, n37_8, n37_9, n37_10, n37_11, n37_12, n37_13, n37_14, n37_15, n37_16, n37_17, n37_18, n37_19, n37_20, n37_21, n37_22, n37_23, n37_24, n37_25, n37_26, n37_27, n37_28, n37_29, o37_1, o37_4, o37_7, o37_12, o37_15, o37_18, o37_21, o37_24, o37_28, res37, TT_3, TT_4, TT_5, TT_9, TT_21, TT_22, TT_25, TT_33, TT_35, TT_37, TT_39, TT_47, TT_52, TT_56, TT_59, TT_60, TT_62, TT_63, TT_65, TT_73, TT_77, TT_82, TT_84, bb, primP, primM, ev, evs, parts_, ofConst, bin, un, intBin, putA, enterT, Nat.reduceEqDiff, Nat.reduceAdd, Nat.reduceMul, Nat.reduceLeDiff, Nat.reduceLT, ↓reduceIte, reduceCtorEq, RunRes, resultsA, oneOf, AV.plain, AV.cells, AHeap.push, AHeap.set, AHeap.empty, fieldOf, loadA, storeA, BX.part, TK.isAgg, convA, builtinA, inertB, builtinP, buildA, fillA, splice, eqv, cellsEq, sizeT, adT, ldT, fwT, Nat.reduceBeqDiff, Nat.reduceBneDiff, Int.reduceBNe, Int.reduceBEq, Int.reduceEq, Int.reduceLT, Int.reduceLE, Int.reduceAdd, Int.reduceSub, Int.reduceMul, Int.reduceNeg, strBin, indexAddrA, elems, lenOf, chunk, List.reduceReplicate, Int.reduceToNat]
  · simp only [call_pure pure49 rfl r, call_pure pure52 rfl (quoted_ok s (by omega)), run_exit_start, exit_here, exit_code, run_inBlock, n37_0, n37_1, n37_2, n37_3, n37_4, n37_5, n37_6, n37_7, n37_8, n37_9, n37_10, n37_11, n37_12, n37_13, n37_14, n37_15, n37_16, n37_17, n37_18, n37_19, n37_20, n37_21, n37_22, n37_23, n37_24, n37_25, n37_26, n37_27, n37_28, n37_29, o37_1, o37_4, o37_7, o37_12, o37_15, o37_18, o37_21, o37_24, o37_28, res37, TT_3, TT_4, TT_5, TT_9, TT_21, TT_22, TT_25, TT_33, TT_35, TT_37, TT_39, TT_47, TT_52, TT_56, TT_59, TT_60, TT_62, TT_63, TT_65, TT_73, TT_77, TT_82, TT_84, bb, primP, primM, ev, evs, parts_, ofConst, bin, un, intBin, putA, enterT, Nat.reduceEqDiff, Nat.reduceAdd, Nat.reduceMul, Nat.reduceLeDiff, Nat.reduceLT, ↓reduceIte, reduceCtorEq, RunRes, resultsA, oneOf, AV.plain, AV.cells, AHeap.push, AHeap.set, AHeap.empty, fieldOf, loadA, storeA, BX.part, TK.isAgg, convA, builtinA, inertB, builtinP, buildA, fillA, splice, eqv, cellsEq, sizeT, adT, ldT, fwT, Nat.reduceBeqDiff, Nat.reduceBneDiff, Int.reduceBNe, Int.reduceBEq, Int.reduceEq, Int.reduceLT, Int.reduceLE, Int.reduceAdd, Int.reduceSub, Int.reduceMul, Int.reduceNeg, strBin, indexAddrA, elems, lenOf, chunk, List.reduceReplicate, Int.reduceToNat]
  · rw [inR_iff] at hx hy
    have d1 := decimal_ok x (by omega)
    have d2 := decimal_ok y (by omega)
    have l1 := decS_len x (by omega)
    have l2 := decS_len y (by omega)
    have h1 : ((decS x).length + 1 ≤ 9223372036854775807) = True := eq_true (by omega)
    have h2 : ((decS x ++ [58]).length + (decS y).length ≤ 9223372036854775807) = True := eq_true (by rw [List.length_append, List.length_singleton]; omega)
    simp only [h1, h2, call_pure pure49 rfl r, call_pure pure51 rfl d1, call_pure pure51 rfl d2, List.length_singleton, run_exit_start, exit_here, exit_code, run_inBlock, n37_0, n37_1, n37_2, n37_3, n37_4, n37_5, n37_6, n37_7, n37_8, n37_9, n37_10, n37_11, n37_12, n37_13, n37_14, n37_15, n37_16, n37_17, n37_18, n37_19, n37_20, n37_21, n37_22, n37_23, n37_24, n37_25, n37_26, n37_27, n37_28, n37_29, o37_1, o37_4, o37_7, o37_12, o37_15, o37_18, o37_21, o37_24, o37_28, res37, TT_3, TT_4, TT_5, TT_9, TT_21, TT_22, TT_25, TT_33, TT_35, TT_37, TT_39, TT_47, TT_52, TT_56, TT_59, TT_60, TT_62, TT_63, TT_65, TT_73, TT_77, TT_82, TT_84, bb, primP, primM, ev, evs, parts_, ofConst, bin, un, intBin, putA, enterT, Nat.reduceEqDiff, Nat.reduceAdd, Nat.reduceMul, Nat.reduceLeDiff, Nat.reduceLT, ↓reduceIte, reduceCtorEq, RunRes, resultsA, oneOf, AV.plain, AV.cells, AHeap.push, AHeap.set, AHeap.empty, fieldOf, loadA, storeA, BX.part, TK.isAgg, convA, builtinA, inertB, builtinP, buildA, fillA, splice, eqv, cellsEq, sizeT, adT, ldT, fwT, Nat.reduceBeqDiff, Nat.reduceBneDiff, Int.reduceBNe, Int.reduceBEq, Int.reduceEq, Int.reduceLT, Int.reduceLE, Int.reduceAdd, Int.reduceSub, Int.reduceMul, Int.reduceNeg, strBin, indexAddrA, elems, lenOf, chunk, List.reduceReplicate, Int.reduceToNat]
theorem tmod_half (n : Int) : ((n.tmod 134217728 + 134217728).tmod 134217728) = half n := by
  have h1 := Int.tmod_lt_of_pos n (b := 134217728) (by omega)
  have h2 := Int.tmod_lt_of_pos (-n) (b := 134217728) (by omega)
  rw [Int.neg_tmod] at h2
  rw [Int.tmod_eq_emod_of_nonneg (by omega)]
  unfold half
  rw [Int.add_emod_right]
  have e := Int.tmod_add_mul_tdiv n 134217728
  have : n.tmod 134217728 % 134217728 = n % 134217728 := by
    conv => rhs; rw [← e]
    rw [Int.add_mul_emod_self_left]
  exact this
end Go.Proofs.Ytkedlkcknhinoaa.G
namespace Go.Proofs.Ytkedlkcknhinoaa.G
open Go.BX
set_option linter.unusedSimpArgs false
set_option linter.unusedVariables false
theorem ofNat_inj {a b : Nat} (ha : a < 256) (hb : b < 256) (h : UInt8.ofNat a = UInt8.ofNat b) : a = b := by
  have := congrArg UInt8.toNat h
  rw [UInt8.toNat_ofNat', UInt8.toNat_ofNat'] at this
  omega
theorem numB_prefix (n : Nat) : ∀ (m : Nat) (r r' : Bytes), numB n ++ r = numB m ++ r' → n = m ∧ r = r' := by
  induction n using Nat.strongRecOn with
  | _ n ih =>
    intro m r r' h
    by_cases h1 : n < 128
    · by_cases h2 : m < 128
      · rw [numB_lt h1, numB_lt h2] at h
        simp only [List.singleton_append, List.cons.injEq] at h
        exact ⟨ofNat_inj (by omega) (by omega) h.1, h.2⟩
      · rw [numB_lt h1, numB_ge h2] at h
        simp only [List.singleton_append, List.cons_append, List.cons.injEq] at h
        have := ofNat_inj (by omega) (by omega) h.1
        omega
    · by_cases h2 : m < 128
      · rw [numB_ge h1, numB_lt h2] at h
        simp only [List.singleton_append, List.cons_append, List.cons.injEq] at h
        have := ofNat_inj (by omega) (by omega) h.1
        omega
      · rw [numB_ge h1, numB_ge h2] at h
        simp only [List.cons_append, List.cons.injEq] at h
        have e1 := ofNat_inj (by omega) (by omega) h.1
        obtain ⟨e2, e3⟩ := ih (n / 128) (by omega) (m / 128) r r' h.2
        exact ⟨by omega, e3⟩
theorem numS_prefix {n m : Int} {r r' : Bytes} (hn : 0 ≤ n ∧ n ≤ 9007199254740991) (hm : 0 ≤ m ∧ m ≤ 9007199254740991) (h : numS n ++ r = numS m ++ r') : n = m ∧ r = r' := by
  rw [numS_nat hn.1 hn.2, numS_nat hm.1 hm.2] at h
  obtain ⟨e1, e2⟩ := numB_prefix _ _ _ _ h
  exact ⟨by omega, e2⟩
theorem wholeS_prefix {n m : Int} {r r' : Bytes} (hn : -4503599627370496 ≤ n ∧ n < 4503599627370496) (hm : -4503599627370496 ≤ m ∧ m < 4503599627370496) (h : wholeS n ++ r = wholeS m ++ r') : n = m ∧ r = r' := by
  have a1 : ¬ (n < -4503599627370496 ∨ 4503599627370496 ≤ n) := by omega
  have a2 : ¬ (m < -4503599627370496 ∨ 4503599627370496 ≤ m) := by omega
  unfold wholeS at h
  rw [if_neg a1, if_neg a2] at h
  split at h <;> split at h <;> obtain ⟨e1, e2⟩ := numS_prefix (by omega) (by omega) h
  · exact ⟨by omega, e2⟩
  · omega
  · omega
  · exact ⟨by omega, e2⟩
theorem bytes_inj {k n : Int} {s : Bytes} {x y : Int} {k' n' : Int} {s' : Bytes} {x' y' : Int} (h : rightV k n s x y = true) (h' : rightV k' n' s' x' y' = true) (e : bytesV k n s x y = bytesV k' n' s' x' y') :
    k = k' ∧ n = n' ∧ s = s' ∧ x = x' ∧ y = y' := by
  unfold bytesV at e
  rcases right_cases h with ⟨rfl, hn, rfl, rfl, rfl⟩ | ⟨rfl, hs, rfl, rfl, rfl⟩ | ⟨rfl, ⟨hx, hy⟩, rfl, rfl⟩ <;>
  rcases right_cases h' with ⟨rfl, hn', rfl, rfl, rfl⟩ | ⟨rfl, hs', rfl, rfl, rfl⟩ | ⟨rfl, ⟨hx', hy'⟩, rfl, rfl⟩ <;>
  simp only [Int.reduceEq, if_true, if_false, List.append_assoc] at e <;>
  obtain ⟨e1, e2⟩ := numS_prefix (by omega) (by omega) e <;>
  first | omega | skip
  · have hh : 0 ≤ half n ∧ half n < 134217728 := by unfold half; omega
    have hh' : 0 ≤ half n' ∧ half n' < 134217728 := by unfold half; omega
    obtain ⟨e3, e4⟩ := wholeS_prefix (by omega) (by omega) e2
    obtain ⟨e5, _⟩ := numS_prefix (n := half n) (m := half n') (r := []) (r' := []) (by omega) (by omega) (by rw [e4])
    have d1 : n - half n = (n / 134217728) * 134217728 := by unfold half; omega
    have d2 : n' - half n' = (n' / 134217728) * 134217728 := by unfold half; omega
    rw [d1, d2, Int.mul_ediv_cancel _ (by omega), Int.mul_ediv_cancel _ (by omega)] at e3
    exact ⟨rfl, by unfold half at e5; omega, rfl, rfl, rfl⟩
  · unfold textS at e2
    obtain ⟨e3, e4⟩ := numS_prefix (by omega) (by omega) e2
    exact ⟨rfl, rfl, e4, rfl, rfl⟩
  · rw [inR_iff] at hx hy hx' hy'
    obtain ⟨e3, e4⟩ := wholeS_prefix (by omega) (by omega) e2
    obtain ⟨e5, _⟩ := wholeS_prefix (n := y) (m := y') (r := []) (r' := []) (by omega) (by omega) (by rw [e4])
    exact ⟨rfl, rfl, rfl, e3, e5⟩
def valD (l : Bytes) : Nat := l.foldl (fun a c => a * 10 + (c.toNat - 48)) 0
theorem digB_val {d : Nat} (h : d < 10) : (digB d).toNat = 48 + d := by
  unfold digB
  rw [UInt8.toNat_ofNat']; omega
theorem valD_dec (m : Nat) : valD (decN m) = m := by
  induction m using Nat.strongRecOn with
  | _ m ih =>
    by_cases h : m < 10
    · rw [decN_lt h]
      unfold valD
      simp only [List.foldl_cons, List.foldl_nil]
      rw [digB_val h]; omega
    · rw [decN_ge h]
      have := ih (m / 10) (by omega)
      unfold valD at this ⊢
      rw [List.foldl_append, this]
      simp only [List.foldl_cons, List.foldl_nil]
      rw [digB_val (by omega)]; omega
theorem decN_dig (m : Nat) : ∀ c, c ∈ decN m → 48 ≤ c.toNat ∧ c.toNat ≤ 57 := by
  induction m using Nat.strongRecOn with
  | _ m ih =>
    intro c hc
    by_cases h : m < 10
    · rw [decN_lt h] at hc
      simp only [List.mem_singleton] at hc
      subst hc
      rw [digB_val h]; omega
    · rw [decN_ge h] at hc
      rcases List.mem_append.mp hc with h1 | h1
      · exact ih (m / 10) (by omega) c h1
      · simp only [List.mem_singleton] at h1
        subst h1
        rw [digB_val (by omega)]; omega
theorem decN_ne (m : Nat) : decN m ≠ [] := by
  by_cases h : m < 10
  · rw [decN_lt h]; simp
  · rw [decN_ge h]; simp
theorem decS_chars (n : Int) : ∀ c, c ∈ decS n → 45 ≤ c.toNat ∧ c.toNat ≤ 57 := by
  intro c hc
  unfold decS at hc
  split at hc
  · rcases List.mem_cons.mp hc with h | h
    · subst h; decide
    · have := decN_dig _ c h; omega
  · have := decN_dig _ c hc; omega
theorem decS_ne (n : Int) : decS n ≠ [] := by
  unfold decS
  split
  · simp
  · exact decN_ne _
theorem decS_inj {n m : Int} (h : decS n = decS m) : n = m := by
  unfold decS at h
  split at h <;> split at h
  · simp only [List.cons.injEq, true_and] at h
    have := congrArg valD h
    rw [valD_dec, valD_dec] at this
    omega
  · exfalso
    have : (45 : UInt8) ∈ decN m.toNat := by rw [← h]; simp
    have := decN_dig _ _ this
    revert this; decide
  · exfalso
    have : (45 : UInt8) ∈ decN n.toNat := by rw [h]; simp
    have := decN_dig _ _ this
    revert this; decide
  · have := congrArg valD h
    rw [valD_dec, valD_dec] at this
    omega
theorem split_at {z : UInt8} : ∀ {l l' r r' : Bytes}, z ∉ l → z ∉ l' → l ++ z :: r = l' ++ z :: r' → l = l' ∧ r = r'
  | [], [], r, r', _, _, h => by simpa using h
  | [], c :: l', r, r', _, h2, h => by
    simp only [List.nil_append, List.cons_append, List.cons.injEq] at h
    exact absurd h.1 (fun e => h2 (by simp [e]))
  | c :: l, [], r, r', h1, _, h => by
    simp only [List.nil_append, List.cons_append, List.cons.injEq] at h
    exact absurd h.1.symm (fun e => h1 (by simp [e]))
  | c :: l, c' :: l', r, r', h1, h2, h => by
    simp only [List.cons_append, List.cons.injEq] at h
    obtain ⟨e1, e2⟩ := split_at (l := l) (l' := l') (fun e => h1 (by simp [e])) (fun e => h2 (by simp [e])) h.2
    exact ⟨by rw [h.1, e1], e2⟩
theorem hexB_inj {a b : Nat} (ha : a < 16) (hb : b < 16) (h : hexB a = hexB b) : a = b := by
  unfold hexB at h
  split at h <;> split at h <;> have := ofNat_inj (by omega) (by omega) h <;> omega
theorem plain_ne {c : UInt8} (h : plainB c = true) : c ≠ 92 ∧ c ≠ 34 := by
  constructor
  · rintro rfl; revert h; decide
  · rintro rfl; revert h; decide
theorem quoM_inj : ∀ {s t : Bytes}, quoM s = quoM t → s = t
  | [], [], _ => rfl
  | [], c :: t, h => by
    exfalso
    rw [quoM_cons] at h
    unfold q1 at h
    split at h <;> simp [quoM] at h
  | c :: s, [], h => by
    exfalso
    rw [quoM_cons] at h
    unfold q1 at h
    split at h <;> simp [quoM] at h
  | c :: s, d :: t, h => by
    rw [quoM_cons, quoM_cons] at h
    unfold q1 at h
    split at h <;> split at h
    · simp only [List.singleton_append, List.cons.injEq] at h
      rw [h.1, quoM_inj h.2]
    · rename_i h1 _
      simp only [List.singleton_append, List.cons_append, List.cons.injEq] at h
      exact absurd h.1 (plain_ne h1).1
    · rename_i _ h1
      simp only [List.singleton_append, List.cons_append, List.cons.injEq] at h
      exact absurd h.1.symm (plain_ne h1).1
    · simp only [List.cons_append, List.nil_append, List.cons.injEq, true_and] at h
      have hc := c.toNat_lt
      have hd := d.toNat_lt
      have e1 := hexB_inj (by omega) (by omega) h.1
      have e2 := hexB_inj (by omega) (by omega) h.2.1
      have e3 : c = d := UInt8.toNat_inj.mp (by omega)
      rw [e3, quoM_inj h.2.2]
theorem write_inj {k n : Int} {s : Bytes} {x y : Int} {k' n' : Int} {s' : Bytes} {x' y' : Int} (h : rightV k n s x y = true) (h' : rightV k' n' s' x' y' = true) (e : writeV k n s x y = writeV k' n' s' x' y') :
    k = k' ∧ n = n' ∧ s = s' ∧ x = x' ∧ y = y' := by
  have nodot : ∀ m : Int, (58 : UInt8) ∉ decS m := fun m hm => by have := decS_chars m _ hm; revert this; decide
  have noq : ∀ (m : Int) (r : Bytes), decS m ++ r ≠ quoS r → True := fun _ _ _ => trivial
  have hd : ∀ (m : Int) (r t : Bytes), decS m ++ r = quoS t → False := by
    intro m r t he
    cases hm : decS m with
    | nil => exact decS_ne m hm
    | cons c l =>
      rw [hm] at he
      unfold quoS at he
      simp only [List.cons_append, List.cons.injEq] at he
      have := decS_chars m c (by rw [hm]; simp)
      rw [he.1] at this
      revert this; decide
  unfold writeV at e
  rcases right_cases h with ⟨rfl, hn, rfl, rfl, rfl⟩ | ⟨rfl, hs, rfl, rfl, rfl⟩ | ⟨rfl, ⟨hx, hy⟩, rfl, rfl⟩ <;>
  rcases right_cases h' with ⟨rfl, hn', rfl, rfl, rfl⟩ | ⟨rfl, hs', rfl, rfl, rfl⟩ | ⟨rfl, ⟨hx', hy'⟩, rfl, rfl⟩ <;>
  simp only [Int.reduceEq, if_true, if_false, List.append_assoc, List.singleton_append] at e
  · exact ⟨rfl, decS_inj e, rfl, rfl, rfl⟩
  · exact (hd n [] s' (by rw [List.append_nil]; exact e)).elim
  · exact (nodot n (by rw [e]; simp)).elim
  · exact (hd n' [] s (by rw [List.append_nil]; exact e.symm)).elim
  · unfold quoS at e
    simp only [List.cons.injEq, true_and, List.append_cancel_right_eq] at e
    exact ⟨rfl, rfl, quoM_inj e, rfl, rfl⟩
  · exact (hd x' (58 :: decS y') s e.symm).elim
  · exact (nodot n' (by rw [← e]; simp)).elim
  · exact (hd x (58 :: decS y) s' e).elim
  · obtain ⟨e1, e2⟩ := split_at (nodot _) (nodot _) e
    exact ⟨rfl, rfl, rfl, decS_inj e1, decS_inj e2⟩
end Go.Proofs.Ytkedlkcknhinoaa.G
namespace Go.Proofs.Ytkedlkcknhinoaa.G
open Go.BX
theorem drop_get {s : Bytes} {p : Nat} {c : UInt8} {r : Bytes} (h : s.drop p = c :: r) : s[p]? = some c ∧ s.drop (p + 1) = r ∧ p < s.length := by
  have hlt : p < s.length := by
    rcases Nat.lt_or_ge p s.length with h1 | h1
    · exact h1
    · rw [List.drop_of_length_le h1] at h; cases h
  rw [List.drop_eq_getElem_cons hlt] at h
  simp only [List.cons.injEq] at h
  exact ⟨by rw [List.getElem?_eq_getElem hlt, h.1], h.2, hlt⟩
end Go.Proofs.Ytkedlkcknhinoaa.G

namespace Go.Proofs.Ytkedlkcknhinoaa.G
open Go.BX
set_option linter.unusedSimpArgs false
set_option linter.unusedVariables false
def digI (n : Int) : Bool := decide (48 ≤ n) && decide (n ≤ 57)
theorem digit_ok (n : Int) : PCall Cx 54 [.int .u8 n] (.bool (digI n)) := by
  refine pcall_run (noext _) body54 ?_
  unfold digI
  by_cases h1 : 48 ≤ n <;>
  simp only [h1, n54_0, n54_1, n54_2, n54_3, n54_4, o54_1, o54_3, res54, TT_3, TT_4, TT_5, TT_9, TT_21, TT_22, TT_25, TT_33, TT_35, TT_37, TT_39, TT_47, TT_52, TT_56, TT_59, TT_60, TT_62, TT_63, TT_65, TT_73, TT_77, TT_82, TT_84, bb, primP, primM, ev, evs, parts_, ofConst, bin, un, intBin, putA, enterT, Nat.reduceEqDiff, Nat.reduceAdd, Nat.reduceMul, Nat.reduceLeDiff, Nat.reduceLT, ↓reduceIte, reduceCtorEq, RunRes, resultsA, oneOf, AV.plain, AV.cells, AHeap.push, AHeap.set, AHeap.empty, fieldOf, loadA, storeA, BX.part, TK.isAgg, convA, builtinA, inertB, builtinP, buildA, fillA, splice, eqv, cellsEq, sizeT, adT, ldT, fwT, Nat.reduceBeqDiff, Nat.reduceBneDiff, Int.reduceBNe, Int.reduceBEq, Int.reduceEq, Int.reduceLT, Int.reduceLE, Int.reduceAdd, Int.reduceSub, Int.reduceMul, Int.reduceNeg, strBin, indexAddrA, elems, lenOf, chunk, List.reduceReplicate, Int.reduceToNat]
theorem decN_head : ∀ (m : Nat) {c : UInt8} {l : Bytes}, decN m = c :: l → (c = 48 → m = 0 ∧ l = []) := by
  intro m
  induction m using Nat.strongRecOn with
  | _ m ih =>
    intro c l h hc
    by_cases h1 : m < 10
    · rw [decN_lt h1] at h
      simp only [List.cons.injEq] at h
      have := digB_val h1
      rw [h.1, hc] at this
      have h48 : (48 : UInt8).toNat = 48 := rfl
      exact ⟨by omega, h.2.symm⟩
    · rw [decN_ge h1] at h
      cases hd : decN (m / 10) with
      | nil => exact absurd hd (decN_ne _)
      | cons d r =>
        rw [hd] at h
        simp only [List.cons_append, List.cons.injEq] at h
        have := (ih (m / 10) (by omega) hd (by rw [h.1]; exact hc)).1
        omega
def valF (a : Nat) (l : Bytes) : Nat := l.foldl (fun a c => a * 10 + (c.toNat - 48)) a
theorem valF_le (l : Bytes) : ∀ a, a ≤ valF a l := by
  induction l with
  | nil => intro a; exact Nat.le_refl _
  | cons c l ih => intro a; have := ih (a * 10 + (c.toNat - 48)); show a ≤ valF (a * 10 + (c.toNat - 48)) l; omega
def stops (s : Bytes) (p : Nat) : Prop := ∃ c, s[p]? = some c ∧ digI (c.toNat : Int) = false
def PM (s : Bytes) (r : AV) (sg : Int) (from' i acc : Nat) : Prop :=
  ∀ (T : Nat → AV) (H : AHeap), T 0 = .str s → T 1 = .int .i64 (i : Int) → T 7 = .int .i64 (acc : Int) → T 8 = .int .i64 sg → T 9 = .int .i64 (from' : Int) →
    Run Cx 61 T [] none [.code c61_30, .inScope c61_3] H (fun r0 H' => BX.freeze H' r0 = some r)
theorem number_goto : gotoA 0 [.code c61_40, .inScope c61_3] = some [.code (.seq .skip c61_30), .inScope c61_3] := by kernel_rfl
theorem pm_end {s : Bytes} {sg : Int} {from' i acc : Nat} {c : UInt8} (hs : s.length ≤ 1000000) (hi : stops s i) (hf : s[from']? = some c) (hacc : acc ≤ 9007199254740992) (hsg : sg = 1 ∨ sg = -1) (hz : c = 48 → i ≤ from' + 1 ∧ sg = 1) :
    PM s (.tuple [.int .i64 (sg * acc), .int .i64 (i : Int), .int .i64 0]) sg from' i acc := by
  intro T H t0 t1 t7 t8 t9
  obtain ⟨d, hd, hdd⟩ := hi
  have hlt : i < s.length := (List.getElem?_eq_some_iff.mp hd).1
  have h0 : ((i : Int) < (s.length : Int)) = True := eq_true (by omega)
  have hi0 : (0 : Int) ≤ (i : Int) := by omega
  have hf0 : (0 : Int) ≤ (from' : Int) := by omega
  have hdg := digit_ok (d.toNat : Int)
  rw [hdd] at hdg
  have hfl : from' < s.length := (List.getElem?_eq_some_iff.mp hf).1
  have w1 : IntKind.i64.wrap ((from' : Int) + 1) = ((from' + 1 : Nat) : Int) := by rw [wr64 (by omega) (by omega)]; omega
  have w2 : IntKind.i64.wrap (sg * (acc : Int)) = sg * (acc : Int) := by rcases hsg with rfl | rfl <;> exact wr64 (by omega) (by omega)
  by_cases hc : c = 48
  · obtain ⟨h1, rfl⟩ := hz hc
    have hc' : ((c.toNat : Int) == 48) = true := by subst hc; rfl
    have h2 : (((from' + 1 : Nat) : Int) < (i : Int)) = False := eq_false (by omega)
    simp only [t0, t1, t7, t8, t9, h0, hi0, hf0, hd, hf, hc', h2, w1, w2, indexA, Int.toNat_natCast, call_pure pure54 rfl hdg, n61_0, n61_1, n61_2, n61_3, n61_4, n61_5, n61_6, n61_7, n61_8, n61_9, n61_10, n61_11, n61_12, n61_13, n61_14, n61_15, n61_16, n61_17, n61_18, n61_19, n61_20, n61_21, n61_22, n61_23, n61_24, n61_25, n61_26, n61_27, n61_28, n61_29, n61_30, n61_31, n61_32, n61_33, n61_34, n61_35, n61_36, n61_37, n61_39, n61_40, n61_41, n61_42, n61_43, n61_44, n61_45, n61_46, n61_47, n61_48, n61_49, n61_50, o61_1, o61_4, o61_7, o61_9, o61_12, o61_16, o61_19, o61_22, o61_25, o61_32, o61_35, o61_37, o61_42, o61_45, o61_49, res61, TT_3, TT_4, TT_5, TT_9, TT_21, TT_22, TT_25, TT_33, TT_35, TT_37, TT_39, TT_47, TT_52, TT_56, TT_59, TT_60, TT_62, TT_63, TT_65, TT_73, TT_77, TT_82, TT_84, bb, primP, primM, ev, evs, parts_, ofConst, bin, un, intBin, putA, enterT, Nat.reduceEqDiff, Nat.reduceAdd, Nat.reduceMul, Nat.reduceLeDiff, Nat.reduceLT, ↓reduceIte, reduceCtorEq, RunRes, resultsA, oneOf, AV.plain, AV.cells, AHeap.push, AHeap.set, AHeap.empty, fieldOf, loadA, storeA, BX.part, TK.isAgg, convA, builtinA, inertB, builtinP, buildA, fillA, splice, eqv, cellsEq, sizeT, adT, ldT, fwT, Nat.reduceBeqDiff, Nat.reduceBneDiff, Int.reduceBNe, Int.reduceBEq, Int.reduceEq, Int.reduceLT, Int.reduceLE, Int.reduceAdd, Int.reduceSub, Int.reduceMul, Int.reduceNeg, strBin, indexAddrA, elems, lenOf, chunk, List.reduceReplicate, Int.reduceToNat]
  · have hc' : ((c.toNat : Int) == 48) = false := by
      simp only [beq_eq_false_iff_ne, ne_eq]
      intro e
      apply hc
      apply UInt8.toNat_inj.mp
      have h48 : (48 : UInt8).toNat = 48 := rfl
      omega
    simp only [t0, t1, t7, t8, t9, h0, hi0, hf0, hd, hf, hc', w1, w2, indexA, Int.toNat_natCast, call_pure pure54 rfl hdg, n61_0, n61_1, n61_2, n61_3, n61_4, n61_5, n61_6, n61_7, n61_8, n61_9, n61_10, n61_11, n61_12, n61_13, n61_14, n61_15, n61_16, n61_17, n61_18, n61_19, n61_20, n61_21, n61_22, n61_23, n61_24, n61_25, n61_26, n61_27, n61_28, n61_29, n61_30, n61_31, n61_32, n61_33, n61_34, n61_35, n61_36, n61_37, n61_39, n61_40, n61_41, n61_42, n61_43, n61_44, n61_45, n61_46, n61_47, n61_48, n61_49, n61_50, o61_1, o61_4, o61_7, o61_9, o61_12, o61_16, o61_19, o61_22, o61_25, o61_32, o61_35, o61_37, o61_42, o61_45, o61_49, res61, TT_3, TT_4, TT_5, TT_9, TT_21, TT_22, TT_25, TT_33, TT_35, TT_37, TT_39, TT_47, TT_52, TT_56, TT_59, TT_60, TT_62, TT_63, TT_65, TT_73, TT_77, TT_82, TT_84, bb, primP, primM, ev, evs, parts_, ofConst, bin, un, intBin, putA, enterT, Nat.reduceEqDiff, Nat.reduceAdd, Nat.reduceMul, Nat.reduceLeDiff, Nat.reduceLT, ↓reduceIte, reduceCtorEq, RunRes, resultsA, oneOf, AV.plain, AV.cells, AHeap.push, AHeap.set, AHeap.empty, fieldOf, loadA, storeA, BX.part, TK.isAgg, convA, builtinA, inertB, builtinP, buildA, fillA, splice, eqv, cellsEq, sizeT, adT, ldT, fwT, Nat.reduceBeqDiff, Nat.reduceBneDiff, Int.reduceBNe, Int.reduceBEq, Int.reduceEq, Int.reduceLT, Int.reduceLE, Int.reduceAdd, Int.reduceSub, Int.reduceMul, Int.reduceNeg, strBin, indexAddrA, elems, lenOf, chunk, List.reduceReplicate, Int.reduceToNat]
theorem pm_step {s : Bytes} {r : AV} {sg : Int} {from' i acc : Nat} {c : UInt8} (hs : s.length ≤ 1000000) (hi : s[i]? = some c) (hc : 48 ≤ c.toNat ∧ c.toNat ≤ 57) (hacc : acc * 10 + (c.toNat - 48) ≤ 9007199254740992) (hp : PM s r sg from' (i + 1) (acc * 10 + (c.toNat - 48))) : PM s r sg from' i acc := by
  intro T H t0 t1 t7 t8 t9
  have hlt : i < s.length := (List.getElem?_eq_some_iff.mp hi).1
  have h0 : ((i : Int) < (s.length : Int)) = True := eq_true (by omega)
  have hi0 : (0 : Int) ≤ (i : Int) := by omega
  have hdg := digit_ok (c.toNat : Int)
  have hdd : digI (c.toNat : Int) = true := by unfold digI; simp; omega
  rw [hdd] at hdg
  have w1 : IntKind.i64.wrap (10 * (acc : Int)) = 10 * (acc : Int) := wr64 (by omega) (by omega)
  have w2 : IntKind.u8.wrap ((c.toNat : Int) - 48) = (c.toNat : Int) - 48 := wr8 (by omega) (by omega)
  have w3 : IntKind.i64.wrap ((c.toNat : Int) - 48) = (c.toNat : Int) - 48 := wr64 (by omega) (by omega)
  have w4 : IntKind.i64.wrap (10 * (acc : Int) + ((c.toNat : Int) - 48)) = ((acc * 10 + (c.toNat - 48) : Nat) : Int) := by rw [wr64 (by omega) (by omega)]; omega
  have w5 : (18014398509481984 < ((acc * 10 + (c.toNat - 48) : Nat) : Int)) = False := eq_false (by omega)
  have w6 : IntKind.i64.wrap ((i : Int) + 1) = ((i + 1 : Nat) : Int) := by rw [wr64 (by omega) (by omega)]; omega
  simp only [t0, t1, t7, t8, t9, h0, hi0, hi, w1, w2, w3, w4, w5, w6, minA, indexA, Int.toNat_natCast, call_pure pure54 rfl hdg, n61_0, n61_1, n61_2, n61_3, n61_4, n61_5, n61_6, n61_7, n61_8, n61_9, n61_10, n61_11, n61_12, n61_13, n61_14, n61_15, n61_16, n61_17, n61_18, n61_19, n61_20, n61_21, n61_22, n61_23, n61_24, n61_25, n61_26, n61_27, n61_28, n61_29, n61_30, n61_31, n61_32, n61_33, n61_34, n61_35, n61_36, n61_37, n61_39, n61_40, n61_41, n61_42, n61_43, n61_44, n61_45, n61_46, n61_47, n61_48, n61_49, n61_50, o61_1, o61_4, o61_7, o61_9, o61_12, o61_16, o61_19, o61_22, o61_25, o61_32, o61_35, o61_37, o61_42, o61_45, o61_49, res61, TT_3, TT_4, TT_5, TT_9, TT_21, TT_22, TT_25, TT_33, TT_35, TT_37, TT_39, TT_47, TT_52, TT_56, TT_59, TT_60, TT_62, TT_63, TT_65, TT_73, TT_77, TT_82, TT_84, bb, primP, primM, ev, evs, parts_, ofConst, bin, un, intBin, putA, enterT, Nat.reduceEqDiff, Nat.reduceAdd, Nat.reduceMul, Nat.reduceLeDiff, Nat.reduceLT, ↓reduceIte, reduceCtorEq, RunRes, resultsA, oneOf, AV.plain, AV.cells, AHeap.push, AHeap.set, AHeap.empty, fieldOf, loadA, storeA, BX.part, TK.isAgg, convA, builtinA, inertB, builtinP, buildA, fillA, splice, eqv, cellsEq, sizeT, adT, ldT, fwT, Nat.reduceBeqDiff, Nat.reduceBneDiff, Int.reduceBNe, Int.reduceBEq, Int.reduceEq, Int.reduceLT, Int.reduceLE, Int.reduceAdd, Int.reduceSub, Int.reduceMul, Int.reduceNeg, strBin, indexAddrA, elems, lenOf, chunk, List.reduceReplicate, Int.reduceToNat]
  unfold c61_38
  rw [run_goto number_goto, run_seq, run_skip]
  refine hp _ _ ?_ ?_ ?_ ?_ ?_
  all_goals simp only [upd_app, t0, t8, t9, Nat.reduceEqDiff, ↓reduceIte]
theorem pm_all {s : Bytes} {sg : Int} {from' : Nat} {c : UInt8} (hs : s.length ≤ 1000000) (hf : s[from']? = some c) (hsg : sg = 1 ∨ sg = -1) :
    ∀ (l : Bytes) (i acc : Nat) (rest : Bytes), s.drop i = l ++ rest → (∀ d, d ∈ l → 48 ≤ d.toNat ∧ d.toNat ≤ 57) → stops s (i + l.length) → valF acc l ≤ 9007199254740992 → (c = 48 → i + l.length ≤ from' + 1 ∧ sg = 1) →
    PM s (.tuple [.int .i64 (sg * valF acc l), .int .i64 ((i + l.length : Nat) : Int), .int .i64 0]) sg from' i acc
  | [], i, acc, rest, hd, _, hst, hv, hz => pm_end hs (by simpa using hst) hf hv hsg (by simpa using hz)
  | d :: l, i, acc, rest, hd, hdig, hst, hv, hz => by
    rw [List.cons_append] at hd
    obtain ⟨h1, h2, _⟩ := drop_get hd
    have hv' : valF (acc * 10 + (d.toNat - 48)) l ≤ 9007199254740992 := hv
    have hle := valF_le l (acc * 10 + (d.toNat - 48))
    refine pm_step hs h1 (hdig d (by simp)) (by omega) ?_
    have := pm_all hs hf hsg l (i + 1) (acc * 10 + (d.toNat - 48)) rest h2 (fun e he => hdig e (by simp [he])) (by rw [Nat.add_assoc, Nat.add_comm 1]; exact hst) hv' (by rw [Nat.add_assoc, Nat.add_comm 1]; exact hz)
    rw [Nat.add_assoc, Nat.add_comm 1] at this
    exact this
theorem number_ok {s rest : Bytes} {p : Nat} {n : Int} (hs : s.length ≤ 1000000) (hd : s.drop p = decS n ++ rest) (hst : stops s (p + (decS n).length)) (hn : -9007199254740992 ≤ n ∧ n ≤ 9007199254740992) :
    PCall Cx 61 [.str s, .int .i64 (p : Int)] (.tuple [.int .i64 n, .int .i64 ((p + (decS n).length : Nat) : Int), .int .i64 0]) := by
  refine pcall_run (noext _) body61 ?_
  by_cases hneg : n < 0
  · have e : decS n = 45 :: decN (-n).toNat := by unfold decS; rw [if_pos hneg]
    rw [e] at hd hst ⊢
    rw [List.cons_append] at hd
    obtain ⟨h1, h2, hlt⟩ := drop_get hd
    cases hl : decN (-n).toNat with
    | nil => exact absurd hl (decN_ne _)
    | cons c l =>
      have h3 : s.drop (p + 1) = c :: (l ++ rest) := by rw [h2, hl]; rfl
      obtain ⟨h4, h5, hlt2⟩ := drop_get h3
      have hcd := decN_dig _ c (by rw [hl]; simp)
      have hne : c ≠ 48 := fun hc => by have := (decN_head _ hl hc).1; omega
      have hvd : valF 0 (decN (-n).toNat) = (-n).toNat := valD_dec _
      rw [List.length_cons] at hst ⊢
      have hp := pm_all (sg := -1) (from' := p + 1) (c := c) hs h4 (.inr rfl) (decN (-n).toNat) (p + 1) 0 rest h2 (fun d hdm => decN_dig _ d hdm) (by rw [Nat.add_assoc, Nat.add_comm 1]; exact hst) (by rw [hvd]; omega) (fun hc => absurd hc hne)
      rw [hvd, Nat.add_assoc, Nat.add_comm 1, show (-1 : Int) * (((-n).toNat : Nat) : Int) = n by omega, hl] at hp
      have g0 : ((p : Int) < (s.length : Int)) = True := eq_true (by omega)
      have g1 : (0 : Int) ≤ (p : Int) := by omega
      have g2 : (((45 : UInt8).toNat : Int) == 45) = true := rfl
      have w1 : IntKind.i64.wrap ((p : Int) + 1) = ((p + 1 : Nat) : Int) := by rw [wr64 (by omega) (by omega)]; omega
      have g3 : ((s.length : Int) ≤ ((p + 1 : Nat) : Int)) = False := eq_false (by omega)
      have g4 : (0 : Int) ≤ ((p + 1 : Nat) : Int) := by omega
      have hdg := digit_ok (c.toNat : Int)
      have hdd : digI (c.toNat : Int) = true := by unfold digI; simp; omega
      rw [hdd] at hdg
      simp only [g0, g1, g2, g3, g4, w1, h1, h4, indexA, Int.toNat_natCast, call_pure pure54 rfl hdg, run_exit_start, exit_here, exit_code, run_inBlock, run_label, n61_0, n61_1, n61_2, n61_3, n61_4, n61_5, n61_6, n61_7, n61_8, n61_9, n61_10, n61_11, n61_12, n61_13, n61_14, n61_15, n61_16, n61_17, n61_18, n61_19, n61_20, n61_21, n61_22, n61_23, n61_24, n61_25, n61_26, n61_27, n61_28, n61_29, n61_31, n61_32, n61_33, n61_34, n61_35, n61_36, n61_37, n61_39, n61_40, n61_41, n61_42, n61_43, n61_44, n61_45, n61_46, n61_47, n61_48, n61_49, n61_50, o61_1, o61_4, o61_7, o61_9, o61_12, o61_16, o61_19, o61_22, o61_25, o61_32, o61_35, o61_37, o61_42, o61_45, o61_49, res61, TT_3, TT_4, TT_5, TT_9, TT_21, TT_22, TT_25, TT_33, TT_35, TT_37, TT_39, TT_47, TT_52, TT_56, TT_59, TT_60, TT_62, TT_63, TT_65, TT_73, TT_77, TT_82, TT_84, bb, primP, primM, ev, evs, parts_, ofConst, bin, un, intBin, putA, enterT, Nat.reduceEqDiff, Nat.reduceAdd, Nat.reduceMul, Nat.reduceLeDiff, Nat.reduceLT, ↓reduceIte, reduceCtorEq, RunRes, resultsA, oneOf, AV.plain, AV.cells, AHeap.push, AHeap.set, AHeap.empty, fieldOf, loadA, storeA, BX.part, TK.isAgg, convA, builtinA, inertB, builtinP, buildA, fillA, splice, eqv, cellsEq, sizeT, adT, ldT, fwT, Nat.reduceBeqDiff, Nat.reduceBneDiff, Int.reduceBNe, Int.reduceBEq, Int.reduceEq, Int.reduceLT, Int.reduceLE, Int.reduceAdd, Int.reduceSub, Int.reduceMul, Int.reduceNeg, strBin, indexAddrA, elems, lenOf, chunk, List.reduceReplicate, Int.reduceToNat]
      refine hp _ _ ?_ ?_ ?_ ?_ ?_
      all_goals simp only [upd_app, enterT, List.getElem?_cons_zero, Option.getD_some, Nat.reduceEqDiff, ↓reduceIte]
      all_goals rfl
  · have e : decS n = decN n.toNat := by unfold decS; rw [if_neg hneg]
    rw [e] at hd hst ⊢
    cases hl : decN n.toNat with
    | nil => exact absurd hl (decN_ne _)
    | cons c l =>
      have h3 : s.drop p = c :: (l ++ rest) := by rw [hd, hl]; rfl
      obtain ⟨h4, h5, hlt2⟩ := drop_get h3
      have hcd := decN_dig _ c (by rw [hl]; simp)
      have hvd : valF 0 (decN n.toNat) = n.toNat := valD_dec _
      have hp := pm_all (sg := 1) (from' := p) (c := c) hs h4 (.inl rfl) (decN n.toNat) p 0 rest hd (fun d hdm => decN_dig _ d hdm) hst (by rw [hvd]; omega) (fun hc => by
        have := (decN_head _ hl hc).2
        rw [hl, this]; exact ⟨by simp, rfl⟩)
      rw [hvd, Int.one_mul, show ((n.toNat : Nat) : Int) = n by omega, hl] at hp
      have g0 : ((p : Int) < (s.length : Int)) = True := eq_true (by omega)
      have g1 : (0 : Int) ≤ (p : Int) := by omega
      have g2 : ((c.toNat : Int) == 45) = false := by simp; omega
      have g3 : ((s.length : Int) ≤ (p : Int)) = False := eq_false (by omega)
      have hdg := digit_ok (c.toNat : Int)
      have hdd : digI (c.toNat : Int) = true := by unfold digI; simp; omega
      rw [hdd] at hdg
      simp only [g0, g1, g2, g3, h4, indexA, Int.toNat_natCast, call_pure pure54 rfl hdg, run_exit_start, exit_here, exit_code, run_inBlock, run_label, n61_0, n61_1, n61_2, n61_3, n61_4, n61_5, n61_6, n61_7, n61_8, n61_9, n61_10, n61_11, n61_12, n61_13, n61_14, n61_15, n61_16, n61_17, n61_18, n61_19, n61_20, n61_21, n61_22, n61_23, n61_24, n61_25, n61_26, n61_27, n61_28, n61_29, n61_31, n61_32, n61_33, n61_34, n61_35, n61_36, n61_37, n61_39, n61_40, n61_41, n61_42, n61_43, n61_44, n61_45, n61_46, n61_47, n61_48, n61_49, n61_50, o61_1, o61_4, o61_7, o61_9, o61_12, o61_16, o61_19, o61_22, o61_25, o61_32, o61_35, o61_37, o61_42, o61_45, o61_49, res61, TT_3, TT_4, TT_5, TT_9, TT_21, TT_22, TT_25, TT_33, TT_35, TT_37, TT_39, TT_47, TT_52, TT_56, TT_59, TT_60, TT_62, TT_63, TT_65, TT_73, TT_77, TT_82, TT_84, bb, primP, primM, ev, evs, parts_, ofConst, bin, un, intBin, putA, enterT, Nat.reduceEqDiff, Nat.reduceAdd, Nat.reduceMul, Nat.reduceLeDiff, Nat.reduceLT, ↓reduceIte, reduceCtorEq, RunRes, resultsA, oneOf, AV.plain, AV.cells, AHeap.push, AHeap.set, AHeap.empty, fieldOf, loadA, storeA, BX.part, TK.isAgg, convA, builtinA, inertB, builtinP, buildA, fillA, splice, eqv, cellsEq, sizeT, adT, ldT, fwT, Nat.reduceBeqDiff, Nat.reduceBneDiff, Int.reduceBNe, Int.reduceBEq, Int.reduceEq, Int.reduceLT, Int.reduceLE, Int.reduceAdd, Int.reduceSub, Int.reduceMul, Int.reduceNeg, strBin, indexAddrA, elems, lenOf, chunk, List.reduceReplicate, Int.reduceToNat]
      refine hp _ _ ?_ ?_ ?_ ?_ ?_
      all_goals simp only [upd_app, enterT, List.getElem?_cons_zero, List.getElem?_cons_succ, Option.getD_some, Nat.reduceEqDiff, ↓reduceIte]
      all_goals rfl
theorem numeric_ok {kd n : Int} {z : Bytes} {x y : Int} {s rest : Bytes} (hr : rightV kd n z x y = true) (hk : kd ≠ 1) (hs : s.length ≤ 1000000) (hd : s = writeV kd n z x y ++ 32 :: rest) :
    PCall Cx 55 [.str s] (.tuple [val kd n z x y, .int .i64 ((writeV kd n z x y).length : Int), .int .i64 0]) := by
  refine pcall_run (noext _) body55 ?_
  have r := Right_ok kd n z x y
  rw [hr] at r
  unfold writeV at hd ⊢
  rcases right_cases hr with ⟨rfl, hn, rfl, rfl, rfl⟩ | ⟨rfl, hs', rfl, rfl, rfl⟩ | ⟨rfl, ⟨hx, hy⟩, rfl, rfl⟩
  · simp only [if_true] at hd ⊢
    have hst : s[(decS n).length]? = some 32 := by rw [hd, List.getElem?_append_right (Nat.le_refl _)]; simp
    have hnum := number_ok (s := s) (p := 0) (n := n) (rest := 32 :: rest) hs (by rw [List.drop_zero]; exact hd) ⟨32, by rw [Nat.zero_add]; exact hst, rfl⟩ hn
    rw [Nat.zero_add] at hnum
    have hlt : (decS n).length < s.length := (List.getElem?_eq_some_iff.mp hst).1
    have g0 : (((decS n).length : Int) < (s.length : Int)) = True := eq_true (by omega)
    have g1 : (0 : Int) ≤ ((decS n).length : Int) := by omega
    have g2 : (((32 : UInt8).toNat : Int) == 58) = false := rfl
    have hnum' : PCall Cx 61 [.str s, .int .i64 0] (.tuple [.int .i64 n, .int .i64 ((decS n).length : Int), .int .i64 0]) := hnum
    simp only [g0, g1, g2, hst, indexA, Int.toNat_natCast, call_pure pure61 rfl hnum', call_pure pure49 rfl r, n55_0, n55_1, n55_2, n55_3, n55_4, n55_5, n55_6, n55_7, n55_8, n55_9, n55_10, n55_11, n55_12, n55_13, n55_14, n55_15, n55_16, n55_17, n55_18, n55_19, n55_20, n55_21, n55_22, n55_23, n55_24, n55_25, n55_26, n55_27, n55_28, n55_29, n55_30, n55_31, n55_32, n55_33, n55_34, n55_35, n55_36, n55_37, n55_38, n55_39, n55_40, o55_1, o55_3, o55_6, o55_9, o55_13, o55_16, o55_19, o55_22, o55_25, o55_28, o55_32, o55_35, o55_39, res55, TT_3, TT_4, TT_5, TT_9, TT_21, TT_22, TT_25, TT_33, TT_35, TT_37, TT_39, TT_47, TT_52, TT_56, TT_59, TT_60, TT_62, TT_63, TT_65, TT_73, TT_77, TT_82, TT_84, bb, primP, primM, ev, evs, parts_, ofConst, bin, un, intBin, putA, enterT, Nat.reduceEqDiff, Nat.reduceAdd, Nat.reduceMul, Nat.reduceLeDiff, Nat.reduceLT, ↓reduceIte, reduceCtorEq, RunRes, resultsA, oneOf, AV.plain, AV.cells, AHeap.push, AHeap.set, AHeap.empty, fieldOf, loadA, storeA, BX.part, TK.isAgg, convA, builtinA, inertB, builtinP, buildA, fillA, splice, eqv, cellsEq, sizeT, adT, ldT, fwT, Nat.reduceBeqDiff, Nat.reduceBneDiff, Int.reduceBNe, Int.reduceBEq, Int.reduceEq, Int.reduceLT, Int.reduceLE, Int.reduceAdd, Int.reduceSub, Int.reduceMul, Int.reduceNeg, strBin, indexAddrA, elems, lenOf, chunk, List.reduceReplicate, Int.reduceToNat]
  · exact absurd rfl hk
  · simp only [Int.reduceEq, if_false] at hd ⊢
    rw [inR_iff] at hx hy
    have hd1 : s = decS x ++ (58 :: (decS y ++ 32 :: rest)) := by rw [hd]; simp
    have hst : s[(decS x).length]? = some 58 := by rw [hd1, List.getElem?_append_right (Nat.le_refl _)]; simp
    have hnum := number_ok (s := s) (p := 0) (n := x) (rest := 58 :: (decS y ++ 32 :: rest)) hs (by rw [List.drop_zero]; exact hd1) ⟨58, by rw [Nat.zero_add]; exact hst, rfl⟩ (by omega)
    rw [Nat.zero_add] at hnum
    have hnum' : PCall Cx 61 [.str s, .int .i64 0] (.tuple [.int .i64 x, .int .i64 ((decS x).length : Int), .int .i64 0]) := hnum
    have hlen : (decS x ++ [58] ++ decS y).length = (decS x).length + 1 + (decS y).length := by simp; omega
    have hd2 : s.drop ((decS x).length + 1) = decS y ++ 32 :: rest := by
      rw [hd1, ← List.drop_drop, List.drop_left]; rfl
    have hst2 : s[(decS x).length + 1 + (decS y).length]? = some 32 := by
      have : s = (decS x ++ [58] ++ decS y) ++ 32 :: rest := hd
      rw [this, ← hlen, List.getElem?_append_right (Nat.le_refl _)]; simp
    have hnum2 := number_ok (s := s) (p := (decS x).length + 1) (n := y) (rest := 32 :: rest) hs hd2 ⟨32, hst2, rfl⟩ (by omega)
    rw [← hlen] at hnum2
    have hlt : (decS x).length < s.length := (List.getElem?_eq_some_iff.mp hst).1
    have g0 : (((decS x).length : Int) < (s.length : Int)) = True := eq_true (by omega)
    have g1 : (0 : Int) ≤ ((decS x).length : Int) := by omega
    have g2 : (((58 : UInt8).toNat : Int) == 58) = true := rfl
    have w1 : IntKind.i64.wrap (((decS x).length : Int) + 1) = (((decS x).length + 1 : Nat) : Int) := by rw [wr64 (by omega) (by omega)]; omega
    simp only [g0, g1, g2, w1, hst, indexA, Int.toNat_natCast, call_pure pure61 rfl hnum', call_pure pure61 rfl hnum2, call_pure pure49 rfl r, n55_0, n55_1, n55_2, n55_3, n55_4, n55_5, n55_6, n55_7, n55_8, n55_9, n55_10, n55_11, n55_12, n55_13, n55_14, n55_15, n55_16, n55_17, n55_18, n55_19, n55_20, n55_21, n55_22, n55_23, n55_24, n55_25, n55_26, n55_27, n55_28, n55_29, n55_30, n55_31, n55_32, n55_33, n55_34, n55_35, n55_36, n55_37, n55_38, n55_39, n55_40, o55_1, o55_3, o55_6, o55_9, o55_13, o55_16, o55_19, o55_22, o55_25, o55_28, o55_32, o55_35, o55_39, res55, TT_3, TT_4, TT_5, TT_9, TT_21, TT_22, TT_25, TT_33, TT_35, TT_37, TT_39, TT_47, TT_52, TT_56, TT_59, TT_60, TT_62, TT_63, TT_65, TT_73, TT_77, TT_82, TT_84, bb, primP, primM, ev, evs, parts_, ofConst, bin, un, intBin, putA, enterT, Nat.reduceEqDiff, Nat.reduceAdd, Nat.reduceMul, Nat.reduceLeDiff, Nat.reduceLT, ↓reduceIte, reduceCtorEq, RunRes, resultsA, oneOf, AV.plain, AV.cells, AHeap.push, AHeap.set, AHeap.empty, fieldOf, loadA, storeA, BX.part, TK.isAgg, convA, builtinA, inertB, builtinP, buildA, fillA, splice, eqv, cellsEq, sizeT, adT, ldT, fwT, Nat.reduceBeqDiff, Nat.reduceBneDiff, Int.reduceBNe, Int.reduceBEq, Int.reduceEq, Int.reduceLT, Int.reduceLE, Int.reduceAdd, Int.reduceSub, Int.reduceMul, Int.reduceNeg, strBin, indexAddrA, elems, lenOf, chunk, List.reduceReplicate, Int.reduceToNat]
end Go.Proofs.Ytkedlkcknhinoaa.G

namespace Go.Proofs.Ytkedlkcknhinoaa.G
open Go.BX
set_option linter.unusedSimpArgs false
set_option linter.unusedVariables false
def capF (a : Nat) (l : Bytes) : Nat := l.foldl (fun a c => min (10 * a + (c.toNat - 48)) 18014398509481984) a
def dg (c : UInt8) : Bool := digI (c.toNat : Int)
def err3 (e : Int) : AV := .tuple [.int .i64 0, .int .i64 0, .int .i64 e]
def finN (s : Bytes) (sg : Int) (fr i n : Nat) : AV := if s[fr]? = some 48 ∧ (fr + 1 < i ∨ sg < 0) then err3 6 else .tuple [.int .i64 (sg * n), .int .i64 (i : Int), .int .i64 0]
theorem pm_stop {s : Bytes} {sg : Int} {fr i acc : Nat} {c : UInt8} (hs : s.length ≤ 1000000) (hst : s.length ≤ i ∨ ∃ d, s[i]? = some d ∧ dg d = false) (hi : i ≤ s.length) (hf : s[fr]? = some c) (hacc : acc ≤ 18014398509481984) (hsg : sg = 1 ∨ sg = -1) :
    PM s (finN s sg fr i acc) sg fr i acc := by
  intro T H t0 t1 t7 t8 t9
  have hf0 : (0 : Int) ≤ (fr : Int) := by omega
  have hi0 : (0 : Int) ≤ (i : Int) := by omega
  have hfl : fr < s.length := (List.getElem?_eq_some_iff.mp hf).1
  have w1 : IntKind.i64.wrap ((fr : Int) + 1) = ((fr + 1 : Nat) : Int) := by rw [wr64 (by omega) (by omega)]; omega
  have w2 : IntKind.i64.wrap (sg * (acc : Int)) = sg * (acc : Int) := by rcases hsg with rfl | rfl <;> exact wr64 (by omega) (by omega)
  unfold finN
  rw [hf]
  have e48 : (c = 48) ↔ ((c.toNat : Int) == 48) = true := by
    rw [beq_iff_eq]
    constructor
    · rintro rfl; rfl
    · intro e
      exact UInt8.toNat_inj.mp (by have : (48 : UInt8).toNat = 48 := rfl; omega)
  have fin : ∀ (T : Nat → AV), T 0 = .str s → T 1 = .int .i64 (i : Int) → T 7 = .int .i64 (acc : Int) → T 8 = .int .i64 sg → T 9 = .int .i64 (fr : Int) →
      Run Cx 61 T [] none [.code c61_40, .inScope c61_3] H (fun r0 H' => BX.freeze H' r0 = some (if some c = some 48 ∧ (fr + 1 < i ∨ sg < 0) then err3 6 else .tuple [.int .i64 (sg * acc), .int .i64 (i : Int), .int .i64 0])) := by
    intro T t0 t1 t7 t8 t9
    by_cases hc : c = 48
    · have hc' := e48.mp hc
      by_cases h1 : fr + 1 < i
      · have h2 : (((fr + 1 : Nat) : Int) < (i : Int)) = True := eq_true (by omega)
        rw [if_pos ⟨by rw [hc], .inl h1⟩]
        simp only [t0, t1, t7, t8, t9, hf0, hf, hc', h2, w1, w2, err3, indexA, Int.toNat_natCast, n61_0, n61_1, n61_2, n61_3, n61_4, n61_5, n61_6, n61_7, n61_8, n61_9, n61_10, n61_11, n61_12, n61_13, n61_14, n61_15, n61_16, n61_17, n61_18, n61_19, n61_20, n61_21, n61_22, n61_23, n61_24, n61_25, n61_26, n61_27, n61_28, n61_29, n61_30, n61_31, n61_32, n61_33, n61_34, n61_35, n61_36, n61_37, n61_39, n61_40, n61_41, n61_42, n61_43, n61_44, n61_45, n61_46, n61_47, n61_48, n61_49, n61_50, o61_1, o61_4, o61_7, o61_9, o61_12, o61_16, o61_19, o61_22, o61_25, o61_32, o61_35, o61_37, o61_42, o61_45, o61_49, res61, TT_3, TT_4, TT_5, TT_9, TT_21, TT_22, TT_25, TT_33, TT_35, TT_37, TT_39, TT_47, TT_52, TT_56, TT_59, TT_60, TT_62, TT_63, TT_65, TT_73, TT_77, TT_82, TT_84, bb, primP, primM, ev, evs, parts_, ofConst, bin, un, intBin, putA, enterT, Nat.reduceEqDiff, Nat.reduceAdd, Nat.reduceMul, Nat.reduceLeDiff, Nat.reduceLT, ↓reduceIte, reduceCtorEq, RunRes, resultsA, oneOf, AV.plain, AV.cells, AHeap.push, AHeap.set, AHeap.empty, fieldOf, loadA, storeA, BX.part, TK.isAgg, convA, builtinA, inertB, builtinP, buildA, fillA, splice, eqv, cellsEq, sizeT, adT, ldT, fwT, Nat.reduceBeqDiff, Nat.reduceBneDiff, Int.reduceBNe, Int.reduceBEq, Int.reduceEq, Int.reduceLT, Int.reduceLE, Int.reduceAdd, Int.reduceSub, Int.reduceMul, Int.reduceNeg, strBin, indexAddrA, elems, lenOf, chunk, List.reduceReplicate, Int.reduceToNat]
      · have h2 : (((fr + 1 : Nat) : Int) < (i : Int)) = False := eq_false (by omega)
        rcases hsg with rfl | rfl
        · rw [if_neg (by rintro ⟨_, h | h⟩ <;> omega)]
          simp only [t0, t1, t7, t8, t9, hf0, hf, hc', h2, w1, w2, err3, indexA, Int.toNat_natCast, n61_0, n61_1, n61_2, n61_3, n61_4, n61_5, n61_6, n61_7, n61_8, n61_9, n61_10, n61_11, n61_12, n61_13, n61_14, n61_15, n61_16, n61_17, n61_18, n61_19, n61_20, n61_21, n61_22, n61_23, n61_24, n61_25, n61_26, n61_27, n61_28, n61_29, n61_30, n61_31, n61_32, n61_33, n61_34, n61_35, n61_36, n61_37, n61_39, n61_40, n61_41, n61_42, n61_43, n61_44, n61_45, n61_46, n61_47, n61_48, n61_49, n61_50, o61_1, o61_4, o61_7, o61_9, o61_12, o61_16, o61_19, o61_22, o61_25, o61_32, o61_35, o61_37, o61_42, o61_45, o61_49, res61, TT_3, TT_4, TT_5, TT_9, TT_21, TT_22, TT_25, TT_33, TT_35, TT_37, TT_39, TT_47, TT_52, TT_56, TT_59, TT_60, TT_62, TT_63, TT_65, TT_73, TT_77, TT_82, TT_84, bb, primP, primM, ev, evs, parts_, ofConst, bin, un, intBin, putA, enterT, Nat.reduceEqDiff, Nat.reduceAdd, Nat.reduceMul, Nat.reduceLeDiff, Nat.reduceLT, ↓reduceIte, reduceCtorEq, RunRes, resultsA, oneOf, AV.plain, AV.cells, AHeap.push, AHeap.set, AHeap.empty, fieldOf, loadA, storeA, BX.part, TK.isAgg, convA, builtinA, inertB, builtinP, buildA, fillA, splice, eqv, cellsEq, sizeT, adT, ldT, fwT, Nat.reduceBeqDiff, Nat.reduceBneDiff, Int.reduceBNe, Int.reduceBEq, Int.reduceEq, Int.reduceLT, Int.reduceLE, Int.reduceAdd, Int.reduceSub, Int.reduceMul, Int.reduceNeg, strBin, indexAddrA, elems, lenOf, chunk, List.reduceReplicate, Int.reduceToNat]
        · rw [if_pos ⟨by rw [hc], .inr (by omega)⟩]
          simp only [t0, t1, t7, t8, t9, hf0, hf, hc', h2, w1, w2, err3, indexA, Int.toNat_natCast, n61_0, n61_1, n61_2, n61_3, n61_4, n61_5, n61_6, n61_7, n61_8, n61_9, n61_10, n61_11, n61_12, n61_13, n61_14, n61_15, n61_16, n61_17, n61_18, n61_19, n61_20, n61_21, n61_22, n61_23, n61_24, n61_25, n61_26, n61_27, n61_28, n61_29, n61_30, n61_31, n61_32, n61_33, n61_34, n61_35, n61_36, n61_37, n61_39, n61_40, n61_41, n61_42, n61_43, n61_44, n61_45, n61_46, n61_47, n61_48, n61_49, n61_50, o61_1, o61_4, o61_7, o61_9, o61_12, o61_16, o61_19, o61_22, o61_25, o61_32, o61_35, o61_37, o61_42, o61_45, o61_49, res61, TT_3, TT_4, TT_5, TT_9, TT_21, TT_22, TT_25, TT_33, TT_35, TT_37, TT_39, TT_47, TT_52, TT_56, TT_59, TT_60, TT_62, TT_63, TT_65, TT_73, TT_77, TT_82, TT_84, bb, primP, primM, ev, evs, parts_, ofConst, bin, un, intBin, putA, enterT, Nat.reduceEqDiff, Nat.reduceAdd, Nat.reduceMul, Nat.reduceLeDiff, Nat.reduceLT, ↓reduceIte, reduceCtorEq, RunRes, resultsA, oneOf, AV.plain, AV.cells, AHeap.push, AHeap.set, AHeap.empty, fieldOf, loadA, storeA, BX.part, TK.isAgg, convA, builtinA, inertB, builtinP, buildA, fillA, splice, eqv, cellsEq, sizeT, adT, ldT, fwT, Nat.reduceBeqDiff, Nat.reduceBneDiff, Int.reduceBNe, Int.reduceBEq, Int.reduceEq, Int.reduceLT, Int.reduceLE, Int.reduceAdd, Int.reduceSub, Int.reduceMul, Int.reduceNeg, strBin, indexAddrA, elems, lenOf, chunk, List.reduceReplicate, Int.reduceToNat]
    · have hc' : ((c.toNat : Int) == 48) = false := by
        rw [← Bool.not_eq_true]; exact fun h => hc (e48.mpr h)
      rw [if_neg (by rintro ⟨h, _⟩; exact hc (Option.some.inj h))]
      simp only [t0, t1, t7, t8, t9, hf0, hf, hc', w1, w2, err3, indexA, Int.toNat_natCast, n61_0, n61_1, n61_2, n61_3, n61_4, n61_5, n61_6, n61_7, n61_8, n61_9, n61_10, n61_11, n61_12, n61_13, n61_14, n61_15, n61_16, n61_17, n61_18, n61_19, n61_20, n61_21, n61_22, n61_23, n61_24, n61_25, n61_26, n61_27, n61_28, n61_29, n61_30, n61_31, n61_32, n61_33, n61_34, n61_35, n61_36, n61_37, n61_39, n61_40, n61_41, n61_42, n61_43, n61_44, n61_45, n61_46, n61_47, n61_48, n61_49, n61_50, o61_1, o61_4, o61_7, o61_9, o61_12, o61_16, o61_19, o61_22, o61_25, o61_32, o61_35, o61_37, o61_42, o61_45, o61_49, res61, TT_3, TT_4, TT_5, TT_9, TT_21, TT_22, TT_25, TT_33, TT_35, TT_37, TT_39, TT_47, TT_52, TT_56, TT_59, TT_60, TT_62, TT_63, TT_65, TT_73, TT_77, TT_82, TT_84, bb, primP, primM, ev, evs, parts_, ofConst, bin, un, intBin, putA, enterT, Nat.reduceEqDiff, Nat.reduceAdd, Nat.reduceMul, Nat.reduceLeDiff, Nat.reduceLT, ↓reduceIte, reduceCtorEq, RunRes, resultsA, oneOf, AV.plain, AV.cells, AHeap.push, AHeap.set, AHeap.empty, fieldOf, loadA, storeA, BX.part, TK.isAgg, convA, builtinA, inertB, builtinP, buildA, fillA, splice, eqv, cellsEq, sizeT, adT, ldT, fwT, Nat.reduceBeqDiff, Nat.reduceBneDiff, Int.reduceBNe, Int.reduceBEq, Int.reduceEq, Int.reduceLT, Int.reduceLE, Int.reduceAdd, Int.reduceSub, Int.reduceMul, Int.reduceNeg, strBin, indexAddrA, elems, lenOf, chunk, List.reduceReplicate, Int.reduceToNat]
  by_cases hlen : s.length ≤ i
  · have h0 : ((i : Int) < (s.length : Int)) = False := eq_false (by omega)
    simp only [t0, t1, t7, t8, t9, h0, n61_0, n61_1, n61_2, n61_3, n61_4, n61_5, n61_6, n61_7, n61_8, n61_9, n61_10, n61_11, n61_12, n61_13, n61_14, n61_15, n61_16, n61_17, n61_18, n61_19, n61_20, n61_21, n61_22, n61_23, n61_24, n61_25, n61_26, n61_27, n61_28, n61_29, n61_30, n61_31, n61_32, n61_33, n61_34, n61_35, n61_36, n61_37, n61_39, n61_41, n61_42, n61_43, n61_44, n61_45, n61_46, n61_47, n61_48, n61_49, n61_50, o61_1, o61_4, o61_7, o61_9, o61_12, o61_16, o61_19, o61_22, o61_25, o61_32, o61_35, o61_37, o61_42, o61_45, o61_49, res61, TT_3, TT_4, TT_5, TT_9, TT_21, TT_22, TT_25, TT_33, TT_35, TT_37, TT_39, TT_47, TT_52, TT_56, TT_59, TT_60, TT_62, TT_63, TT_65, TT_73, TT_77, TT_82, TT_84, bb, primP, primM, ev, evs, parts_, ofConst, bin, un, intBin, putA, enterT, Nat.reduceEqDiff, Nat.reduceAdd, Nat.reduceMul, Nat.reduceLeDiff, Nat.reduceLT, ↓reduceIte, reduceCtorEq, RunRes, resultsA, oneOf, AV.plain, AV.cells, AHeap.push, AHeap.set, AHeap.empty, fieldOf, loadA, storeA, BX.part, TK.isAgg, convA, builtinA, inertB, builtinP, buildA, fillA, splice, eqv, cellsEq, sizeT, adT, ldT, fwT, Nat.reduceBeqDiff, Nat.reduceBneDiff, Int.reduceBNe, Int.reduceBEq, Int.reduceEq, Int.reduceLT, Int.reduceLE, Int.reduceAdd, Int.reduceSub, Int.reduceMul, Int.reduceNeg, strBin, indexAddrA, elems, lenOf, chunk, List.reduceReplicate, Int.reduceToNat]
    refine fin _ ?_ ?_ ?_ ?_ ?_
    all_goals simp only [upd_app, t0, t1, t7, t8, t9, Nat.reduceEqDiff, ↓reduceIte]
  · obtain ⟨d, hd, hdd⟩ := hst.resolve_left hlen
    have h0 : ((i : Int) < (s.length : Int)) = True := eq_true (by omega)
    have hdg := digit_ok (d.toNat : Int)
    have hdd' : digI (d.toNat : Int) = false := hdd
    rw [hdd'] at hdg
    simp only [t0, t1, t7, t8, t9, h0, hi0, hd, indexA, Int.toNat_natCast, call_pure pure54 rfl hdg, n61_0, n61_1, n61_2, n61_3, n61_4, n61_5, n61_6, n61_7, n61_8, n61_9, n61_10, n61_11, n61_12, n61_13, n61_14, n61_15, n61_16, n61_17, n61_18, n61_19, n61_20, n61_21, n61_22, n61_23, n61_24, n61_25, n61_26, n61_27, n61_28, n61_29, n61_30, n61_31, n61_32, n61_33, n61_34, n61_35, n61_36, n61_37, n61_39, n61_41, n61_42, n61_43, n61_44, n61_45, n61_46, n61_47, n61_48, n61_49, n61_50, o61_1, o61_4, o61_7, o61_9, o61_12, o61_16, o61_19, o61_22, o61_25, o61_32, o61_35, o61_37, o61_42, o61_45, o61_49, res61, TT_3, TT_4, TT_5, TT_9, TT_21, TT_22, TT_25, TT_33, TT_35, TT_37, TT_39, TT_47, TT_52, TT_56, TT_59, TT_60, TT_62, TT_63, TT_65, TT_73, TT_77, TT_82, TT_84, bb, primP, primM, ev, evs, parts_, ofConst, bin, un, intBin, putA, enterT, Nat.reduceEqDiff, Nat.reduceAdd, Nat.reduceMul, Nat.reduceLeDiff, Nat.reduceLT, ↓reduceIte, reduceCtorEq, RunRes, resultsA, oneOf, AV.plain, AV.cells, AHeap.push, AHeap.set, AHeap.empty, fieldOf, loadA, storeA, BX.part, TK.isAgg, convA, builtinA, inertB, builtinP, buildA, fillA, splice, eqv, cellsEq, sizeT, adT, ldT, fwT, Nat.reduceBeqDiff, Nat.reduceBneDiff, Int.reduceBNe, Int.reduceBEq, Int.reduceEq, Int.reduceLT, Int.reduceLE, Int.reduceAdd, Int.reduceSub, Int.reduceMul, Int.reduceNeg, strBin, indexAddrA, elems, lenOf, chunk, List.reduceReplicate, Int.reduceToNat]
    refine fin _ ?_ ?_ ?_ ?_ ?_
    all_goals simp only [upd_app, t0, t1, t7, t8, t9, Nat.reduceEqDiff, ↓reduceIte]
theorem pm_stepG {s : Bytes} {r : AV} {sg : Int} {fr i acc : Nat} {c : UInt8} (hs : s.length ≤ 1000000) (hi : s[i]? = some c) (hc : dg c = true) (hacc : acc ≤ 18014398509481984) (hp : PM s r sg fr (i + 1) (min (10 * acc + (c.toNat - 48)) 18014398509481984)) : PM s r sg fr i acc := by
  intro T H t0 t1 t7 t8 t9
  have hlt : i < s.length := (List.getElem?_eq_some_iff.mp hi).1
  have h0 : ((i : Int) < (s.length : Int)) = True := eq_true (by omega)
  have hi0 : (0 : Int) ≤ (i : Int) := by omega
  have hdg := digit_ok (c.toNat : Int)
  have hdd : digI (c.toNat : Int) = true := hc
  rw [hdd] at hdg
  unfold digI at hdd
  simp only [Bool.and_eq_true, decide_eq_true_eq] at hdd
  have w1 : IntKind.i64.wrap (10 * (acc : Int)) = 10 * (acc : Int) := wr64 (by omega) (by omega)
  have w2 : IntKind.u8.wrap ((c.toNat : Int) - 48) = (c.toNat : Int) - 48 := wr8 (by omega) (by omega)
  have w3 : IntKind.i64.wrap ((c.toNat : Int) - 48) = (c.toNat : Int) - 48 := wr64 (by omega) (by omega)
  have w4 : IntKind.i64.wrap (10 * (acc : Int) + ((c.toNat : Int) - 48)) = ((10 * acc + (c.toNat - 48) : Nat) : Int) := by rw [wr64 (by omega) (by omega)]; omega
  have w5 : (if (18014398509481984 : Int) < ((10 * acc + (c.toNat - 48) : Nat) : Int) then (18014398509481984 : Int) else ((10 * acc + (c.toNat - 48) : Nat) : Int)) = ((min (10 * acc + (c.toNat - 48)) 18014398509481984 : Nat) : Int) := by
    split <;> omega
  have w6 : IntKind.i64.wrap ((i : Int) + 1) = ((i + 1 : Nat) : Int) := by rw [wr64 (by omega) (by omega)]; omega
  simp only [t0, t1, t7, t8, t9, h0, hi0, hi, w1, w2, w3, w4, w5, w6, minA, indexA, Int.toNat_natCast, call_pure pure54 rfl hdg, n61_0, n61_1, n61_2, n61_3, n61_4, n61_5, n61_6, n61_7, n61_8, n61_9, n61_10, n61_11, n61_12, n61_13, n61_14, n61_15, n61_16, n61_17, n61_18, n61_19, n61_20, n61_21, n61_22, n61_23, n61_24, n61_25, n61_26, n61_27, n61_28, n61_29, n61_30, n61_31, n61_32, n61_33, n61_34, n61_35, n61_36, n61_37, n61_39, n61_40, n61_41, n61_42, n61_43, n61_44, n61_45, n61_46, n61_47, n61_48, n61_49, n61_50, o61_1, o61_4, o61_7, o61_9, o61_12, o61_16, o61_19, o61_22, o61_25, o61_32, o61_35, o61_37, o61_42, o61_45, o61_49, res61, TT_3, TT_4, TT_5, TT_9, TT_21, TT_22, TT_25, TT_33, TT_35, TT_37, TT_39, TT_47, TT_52, TT_56, TT_59, TT_60, TT_62, TT_63, TT_65, TT_73, TT_77, TT_82, TT_84, bb, primP, primM, ev, evs, parts_, ofConst, bin, un, intBin, putA, enterT, Nat.reduceEqDiff, Nat.reduceAdd, Nat.reduceMul, Nat.reduceLeDiff, Nat.reduceLT, ↓reduceIte, reduceCtorEq, RunRes, resultsA, oneOf, AV.plain, AV.cells, AHeap.push, AHeap.set, AHeap.empty, fieldOf, loadA, storeA, BX.part, TK.isAgg, convA, builtinA, inertB, builtinP, buildA, fillA, splice, eqv, cellsEq, sizeT, adT, ldT, fwT, Nat.reduceBeqDiff, Nat.reduceBneDiff, Int.reduceBNe, Int.reduceBEq, Int.reduceEq, Int.reduceLT, Int.reduceLE, Int.reduceAdd, Int.reduceSub, Int.reduceMul, Int.reduceNeg, strBin, indexAddrA, elems, lenOf, chunk, List.reduceReplicate, Int.reduceToNat]
  unfold c61_38
  rw [run_goto number_goto, run_seq, run_skip]
  refine hp _ _ ?_ ?_ ?_ ?_ ?_
  all_goals simp only [upd_app, t0, t8, t9, Nat.reduceEqDiff, ↓reduceIte]
theorem pm_gen {s : Bytes} {sg : Int} {fr : Nat} {c : UInt8} (hs : s.length ≤ 1000000) (hf : s[fr]? = some c) (hsg : sg = 1 ∨ sg = -1) :
    ∀ (l : Bytes) (i acc : Nat), s.drop i = l → i ≤ s.length → acc ≤ 18014398509481984 → PM s (finN s sg fr (i + (l.takeWhile dg).length) (capF acc (l.takeWhile dg))) sg fr i acc
  | [], i, acc, hd, hi, ha => by
    have hl : s.length ≤ i := by
      have := congrArg List.length hd
      rw [List.length_drop] at this
      simp at this; omega
    exact pm_stop hs (.inl hl) hi hf ha hsg
  | d :: l, i, acc, hd, hi, ha => by
    obtain ⟨h1, h2, h3⟩ := drop_get hd
    cases hdd : dg d with
    | false =>
      rw [List.takeWhile_cons_of_neg (by simp [hdd])]
      exact pm_stop hs (.inr ⟨d, h1, hdd⟩) hi hf ha hsg
    | true =>
      rw [List.takeWhile_cons_of_pos hdd]
      have hp := pm_gen hs hf hsg l (i + 1) (min (10 * acc + (d.toNat - 48)) 18014398509481984) h2 (by omega) (by omega)
      have e : i + 1 + (l.takeWhile dg).length = i + (d :: l.takeWhile dg).length := by simp; omega
      rw [e] at hp
      exact pm_stepG hs h1 hdd ha hp
def resN (s : Bytes) (sg : Int) (fr : Nat) : AV :=
  match s[fr]? with
  | none => err3 2
  | some c => if dg c then finN s sg fr (fr + ((s.drop fr).takeWhile dg).length) (capF 0 ((s.drop fr).takeWhile dg)) else err3 6
def numM (s : Bytes) (i : Nat) : AV := if s[i]? = some 45 then resN s (-1) (i + 1) else resN s 1 i
theorem number_gen {s : Bytes} {p : Nat} (hs : s.length ≤ 1000000) (hp : p ≤ s.length) : PCall Cx 61 [.str s, .int .i64 (p : Int)] (numM s p) := by
  refine pcall_run (noext _) body61 ?_
  have w1 : IntKind.i64.wrap ((p : Int) + 1) = ((p + 1 : Nat) : Int) := by rw [wr64 (by omega) (by omega)]; omega
  have g1 : (0 : Int) ≤ (p : Int) := by omega
  have go : ∀ (T : Nat → AV) (sg : Int) (fr : Nat), (sg = 1 ∨ sg = -1) → fr ≤ s.length → T 0 = .str s → T 1 = .int .i64 (fr : Int) → T 7 = .int .i64 0 → T 8 = .int .i64 sg →
      Run Cx 61 T [] none [.code c61_11, .inScope c61_3] AHeap.empty (fun r0 H' => BX.freeze H' r0 = some (resN s sg fr)) := by
    intro T sg fr hsg hfr t0 t1 t7 t8
    have g4 : (0 : Int) ≤ (fr : Int) := by omega
    unfold resN
    cases hq : s[fr]? with
    | none =>
      have hl : s.length ≤ fr := List.getElem?_eq_none_iff.mp hq
      have g3 : ((s.length : Int) ≤ (fr : Int)) = True := eq_true (by omega)
      simp only [t0, t1, t7, t8, g3, err3, run_exit_start, exit_here, exit_code, run_inBlock, n61_0, n61_1, n61_2, n61_3, n61_4, n61_5, n61_6, n61_7, n61_8, n61_9, n61_10, n61_11, n61_12, n61_13, n61_14, n61_15, n61_16, n61_17, n61_18, n61_19, n61_20, n61_21, n61_22, n61_23, n61_24, n61_25, n61_26, n61_27, n61_28, n61_29, n61_30, n61_31, n61_32, n61_33, n61_34, n61_35, n61_36, n61_37, n61_39, n61_40, n61_41, n61_42, n61_43, n61_44, n61_45, n61_46, n61_47, n61_48, n61_49, n61_50, o61_1, o61_4, o61_7, o61_9, o61_12, o61_16, o61_19, o61_22, o61_25, o61_32, o61_35, o61_37, o61_42, o61_45, o61_49, res61, TT_3, TT_4, TT_5, TT_9, TT_21, TT_22, TT_25, TT_33, TT_35, TT_37, TT_39, TT_47, TT_52, TT_56, TT_59, TT_60, TT_62, TT_63, TT_65, TT_73, TT_77, TT_82, TT_84, bb, primP, primM, ev, evs, parts_, ofConst, bin, un, intBin, putA, enterT, Nat.reduceEqDiff, Nat.reduceAdd, Nat.reduceMul, Nat.reduceLeDiff, Nat.reduceLT, ↓reduceIte, reduceCtorEq, RunRes, resultsA, oneOf, AV.plain, AV.cells, AHeap.push, AHeap.set, AHeap.empty, fieldOf, loadA, storeA, BX.part, TK.isAgg, convA, builtinA, inertB, builtinP, buildA, fillA, splice, eqv, cellsEq, sizeT, adT, ldT, fwT, Nat.reduceBeqDiff, Nat.reduceBneDiff, Int.reduceBNe, Int.reduceBEq, Int.reduceEq, Int.reduceLT, Int.reduceLE, Int.reduceAdd, Int.reduceSub, Int.reduceMul, Int.reduceNeg, strBin, indexAddrA, elems, lenOf, chunk, List.reduceReplicate, Int.reduceToNat]
    | some c =>
      have hl : fr < s.length := (List.getElem?_eq_some_iff.mp hq).1
      have g3 : ((s.length : Int) ≤ (fr : Int)) = False := eq_false (by omega)
      have hdg := digit_ok (c.toNat : Int)
      have hde : digI (c.toNat : Int) = dg c := rfl
      rw [hde] at hdg
      cases hdc : dg c with
      | false =>
        rw [hdc] at hdg
        simp only [t0, t1, t7, t8, g3, g4, hq, hdc, err3, indexA, Int.toNat_natCast, call_pure pure54 rfl hdg, run_exit_start, exit_here, exit_code, run_inBlock, n61_0, n61_1, n61_2, n61_3, n61_4, n61_5, n61_6, n61_7, n61_8, n61_9, n61_10, n61_11, n61_12, n61_13, n61_14, n61_15, n61_16, n61_17, n61_18, n61_19, n61_20, n61_21, n61_22, n61_23, n61_24, n61_25, n61_26, n61_27, n61_28, n61_29, n61_30, n61_31, n61_32, n61_33, n61_34, n61_35, n61_36, n61_37, n61_39, n61_40, n61_41, n61_42, n61_43, n61_44, n61_45, n61_46, n61_47, n61_48, n61_49, n61_50, o61_1, o61_4, o61_7, o61_9, o61_12, o61_16, o61_19, o61_22, o61_25, o61_32, o61_35, o61_37, o61_42, o61_45, o61_49, res61, TT_3, TT_4, TT_5, TT_9, TT_21, TT_22, TT_25, TT_33, TT_35, TT_37, TT_39, TT_47, TT_52, TT_56, TT_59, TT_60, TT_62, TT_63, TT_65, TT_73, TT_77, TT_82, TT_84, bb, primP, primM, ev, evs, parts_, ofConst, bin, un, intBin, putA, enterT, Nat.reduceEqDiff, Nat.reduceAdd, Nat.reduceMul, Nat.reduceLeDiff, Nat.reduceLT, ↓reduceIte, reduceCtorEq, RunRes, resultsA, oneOf, AV.plain, AV.cells, AHeap.push, AHeap.set, AHeap.empty, fieldOf, loadA, storeA, BX.part, TK.isAgg, convA, builtinA, inertB, builtinP, buildA, fillA, splice, eqv, cellsEq, sizeT, adT, ldT, fwT, Nat.reduceBeqDiff, Nat.reduceBneDiff, Int.reduceBNe, Int.reduceBEq, Int.reduceEq, Int.reduceLT, Int.reduceLE, Int.reduceAdd, Int.reduceSub, Int.reduceMul, Int.reduceNeg, strBin, indexAddrA, elems, lenOf, chunk, List.reduceReplicate, Int.reduceToNat]
      | true =>
        rw [hdc] at hdg
        have hpm := pm_gen hs hq hsg (s.drop fr) fr 0 rfl hfr (by omega)
        simp only [t0, t1, t7, t8, g3, g4, hq, hdc, indexA, Int.toNat_natCast, call_pure pure54 rfl hdg, run_exit_start, exit_here, exit_code, run_inBlock, run_label, n61_0, n61_1, n61_2, n61_3, n61_4, n61_5, n61_6, n61_7, n61_8, n61_9, n61_10, n61_11, n61_12, n61_13, n61_14, n61_15, n61_16, n61_17, n61_18, n61_19, n61_20, n61_21, n61_22, n61_23, n61_24, n61_25, n61_26, n61_27, n61_28, n61_29, n61_31, n61_32, n61_33, n61_34, n61_35, n61_36, n61_37, n61_39, n61_40, n61_41, n61_42, n61_43, n61_44, n61_45, n61_46, n61_47, n61_48, n61_49, n61_50, o61_1, o61_4, o61_7, o61_9, o61_12, o61_16, o61_19, o61_22, o61_25, o61_32, o61_35, o61_37, o61_42, o61_45, o61_49, res61, TT_3, TT_4, TT_5, TT_9, TT_21, TT_22, TT_25, TT_33, TT_35, TT_37, TT_39, TT_47, TT_52, TT_56, TT_59, TT_60, TT_62, TT_63, TT_65, TT_73, TT_77, TT_82, TT_84, bb, primP, primM, ev, evs, parts_, ofConst, bin, un, intBin, putA, enterT, Nat.reduceEqDiff, Nat.reduceAdd, Nat.reduceMul, Nat.reduceLeDiff, Nat.reduceLT, ↓reduceIte, reduceCtorEq, RunRes, resultsA, oneOf, AV.plain, AV.cells, AHeap.push, AHeap.set, AHeap.empty, fieldOf, loadA, storeA, BX.part, TK.isAgg, convA, builtinA, inertB, builtinP, buildA, fillA, splice, eqv, cellsEq, sizeT, adT, ldT, fwT, Nat.reduceBeqDiff, Nat.reduceBneDiff, Int.reduceBNe, Int.reduceBEq, Int.reduceEq, Int.reduceLT, Int.reduceLE, Int.reduceAdd, Int.reduceSub, Int.reduceMul, Int.reduceNeg, strBin, indexAddrA, elems, lenOf, chunk, List.reduceReplicate, Int.reduceToNat]
        refine hpm _ _ ?_ ?_ ?_ ?_ ?_
        all_goals simp only [upd_app, t0, t1, t7, t8, Nat.reduceEqDiff, ↓reduceIte]
        all_goals rfl
  cases hq : s[p]? with
  | none =>
    have hl : s.length ≤ p := List.getElem?_eq_none_iff.mp hq
    have g0 : ((p : Int) < (s.length : Int)) = False := eq_false (by omega)
    have e : numM s p = resN s 1 p := by unfold numM; rw [if_neg (by rw [hq]; simp)]
    rw [e]
    simp only [g0, n61_0, n61_1, n61_2, n61_3, n61_4, n61_5, n61_6, n61_7, n61_8, n61_9, n61_10, n61_12, n61_13, n61_14, n61_15, n61_16, n61_17, n61_18, n61_19, n61_20, n61_21, n61_22, n61_23, n61_24, n61_25, n61_26, n61_27, n61_28, n61_29, n61_30, n61_31, n61_32, n61_33, n61_34, n61_35, n61_36, n61_37, n61_39, n61_40, n61_41, n61_42, n61_43, n61_44, n61_45, n61_46, n61_47, n61_48, n61_49, n61_50, o61_1, o61_4, o61_7, o61_9, o61_12, o61_16, o61_19, o61_22, o61_25, o61_32, o61_35, o61_37, o61_42, o61_45, o61_49, res61, TT_3, TT_4, TT_5, TT_9, TT_21, TT_22, TT_25, TT_33, TT_35, TT_37, TT_39, TT_47, TT_52, TT_56, TT_59, TT_60, TT_62, TT_63, TT_65, TT_73, TT_77, TT_82, TT_84, bb, primP, primM, ev, evs, parts_, ofConst, bin, un, intBin, putA, enterT, Nat.reduceEqDiff, Nat.reduceAdd, Nat.reduceMul, Nat.reduceLeDiff, Nat.reduceLT, ↓reduceIte, reduceCtorEq, RunRes, resultsA, oneOf, AV.plain, AV.cells, AHeap.push, AHeap.set, AHeap.empty, fieldOf, loadA, storeA, BX.part, TK.isAgg, convA, builtinA, inertB, builtinP, buildA, fillA, splice, eqv, cellsEq, sizeT, adT, ldT, fwT, Nat.reduceBeqDiff, Nat.reduceBneDiff, Int.reduceBNe, Int.reduceBEq, Int.reduceEq, Int.reduceLT, Int.reduceLE, Int.reduceAdd, Int.reduceSub, Int.reduceMul, Int.reduceNeg, strBin, indexAddrA, elems, lenOf, chunk, List.reduceReplicate, Int.reduceToNat]
    refine go _ 1 p (.inl rfl) hp ?_ ?_ ?_ ?_
    all_goals simp only [upd_app, enterT, List.getElem?_cons_zero, List.getElem?_cons_succ, Option.getD_some, Nat.reduceEqDiff, ↓reduceIte]
  | some c =>
    have hl : p < s.length := (List.getElem?_eq_some_iff.mp hq).1
    have g0 : ((p : Int) < (s.length : Int)) = True := eq_true (by omega)
    by_cases hc : c = 45
    · subst hc
      have g2 : (((45 : UInt8).toNat : Int) == 45) = true := rfl
      have e : numM s p = resN s (-1) (p + 1) := by unfold numM; rw [if_pos hq]
      rw [e]
      simp only [g0, g1, g2, w1, hq, indexA, Int.toNat_natCast, n61_0, n61_1, n61_2, n61_3, n61_4, n61_5, n61_6, n61_7, n61_8, n61_9, n61_10, n61_12, n61_13, n61_14, n61_15, n61_16, n61_17, n61_18, n61_19, n61_20, n61_21, n61_22, n61_23, n61_24, n61_25, n61_26, n61_27, n61_28, n61_29, n61_30, n61_31, n61_32, n61_33, n61_34, n61_35, n61_36, n61_37, n61_39, n61_40, n61_41, n61_42, n61_43, n61_44, n61_45, n61_46, n61_47, n61_48, n61_49, n61_50, o61_1, o61_4, o61_7, o61_9, o61_12, o61_16, o61_19, o61_22, o61_25, o61_32, o61_35, o61_37, o61_42, o61_45, o61_49, res61, TT_3, TT_4, TT_5, TT_9, TT_21, TT_22, TT_25, TT_33, TT_35, TT_37, TT_39, TT_47, TT_52, TT_56, TT_59, TT_60, TT_62, TT_63, TT_65, TT_73, TT_77, TT_82, TT_84, bb, primP, primM, ev, evs, parts_, ofConst, bin, un, intBin, putA, enterT, Nat.reduceEqDiff, Nat.reduceAdd, Nat.reduceMul, Nat.reduceLeDiff, Nat.reduceLT, ↓reduceIte, reduceCtorEq, RunRes, resultsA, oneOf, AV.plain, AV.cells, AHeap.push, AHeap.set, AHeap.empty, fieldOf, loadA, storeA, BX.part, TK.isAgg, convA, builtinA, inertB, builtinP, buildA, fillA, splice, eqv, cellsEq, sizeT, adT, ldT, fwT, Nat.reduceBeqDiff, Nat.reduceBneDiff, Int.reduceBNe, Int.reduceBEq, Int.reduceEq, Int.reduceLT, Int.reduceLE, Int.reduceAdd, Int.reduceSub, Int.reduceMul, Int.reduceNeg, strBin, indexAddrA, elems, lenOf, chunk, List.reduceReplicate, Int.reduceToNat]
      refine go _ (-1) (p + 1) (.inr rfl) (by omega) ?_ ?_ ?_ ?_
      all_goals simp only [upd_app, enterT, List.getElem?_cons_zero, List.getElem?_cons_succ, Option.getD_some, Nat.reduceEqDiff, ↓reduceIte]
    · have g2 : ((c.toNat : Int) == 45) = false := by
        simp only [beq_eq_false_iff_ne, ne_eq]
        intro e; exact hc (UInt8.toNat_inj.mp (by have : (45 : UInt8).toNat = 45 := rfl; omega))
      have e : numM s p = resN s 1 p := by unfold numM; rw [if_neg (by rw [hq]; intro h; exact hc (Option.some.inj h))]
      rw [e]
      simp only [g0, g1, g2, w1, hq, indexA, Int.toNat_natCast, n61_0, n61_1, n61_2, n61_3, n61_4, n61_5, n61_6, n61_7, n61_8, n61_9, n61_10, n61_12, n61_13, n61_14, n61_15, n61_16, n61_17, n61_18, n61_19, n61_20, n61_21, n61_22, n61_23, n61_24, n61_25, n61_26, n61_27, n61_28, n61_29, n61_30, n61_31, n61_32, n61_33, n61_34, n61_35, n61_36, n61_37, n61_39, n61_40, n61_41, n61_42, n61_43, n61_44, n61_45, n61_46, n61_47, n61_48, n61_49, n61_50, o61_1, o61_4, o61_7, o61_9, o61_12, o61_16, o61_19, o61_22, o61_25, o61_32, o61_35, o61_37, o61_42, o61_45, o61_49, res61, TT_3, TT_4, TT_5, TT_9, TT_21, TT_22, TT_25, TT_33, TT_35, TT_37, TT_39, TT_47, TT_52, TT_56, TT_59, TT_60, TT_62, TT_63, TT_65, TT_73, TT_77, TT_82, TT_84, bb, primP, primM, ev, evs, parts_, ofConst, bin, un, intBin, putA, enterT, Nat.reduceEqDiff, Nat.reduceAdd, Nat.reduceMul, Nat.reduceLeDiff, Nat.reduceLT, ↓reduceIte, reduceCtorEq, RunRes, resultsA, oneOf, AV.plain, AV.cells, AHeap.push, AHeap.set, AHeap.empty, fieldOf, loadA, storeA, BX.part, TK.isAgg, convA, builtinA, inertB, builtinP, buildA, fillA, splice, eqv, cellsEq, sizeT, adT, ldT, fwT, Nat.reduceBeqDiff, Nat.reduceBneDiff, Int.reduceBNe, Int.reduceBEq, Int.reduceEq, Int.reduceLT, Int.reduceLE, Int.reduceAdd, Int.reduceSub, Int.reduceMul, Int.reduceNeg, strBin, indexAddrA, elems, lenOf, chunk, List.reduceReplicate, Int.reduceToNat]
      refine go _ 1 p (.inl rfl) hp ?_ ?_ ?_ ?_
      all_goals simp only [upd_app, enterT, List.getElem?_cons_zero, List.getElem?_cons_succ, Option.getD_some, Nat.reduceEqDiff, ↓reduceIte]
end Go.Proofs.Ytkedlkcknhinoaa.G

namespace Go.Proofs.Ytkedlkcknhinoaa.G
open Go.BX
set_option linter.unusedSimpArgs false
set_option linter.unusedVariables false
structure Vl where
  k : Int
  n : Int
  s : Bytes
  x : Int
  y : Int
abbrev valA (v : Vl) : AV := .agg [.int .i64 v.k, .int .i64 v.n, .str v.s, .int .i64 v.x, .int .i64 v.y]
def okV (v : Vl) : Bool := rightV v.k v.n v.s v.x v.y
def finX (s : Bytes) (sg : Int) (fr i n : Nat) : Except Int (Int × Nat) := if s[fr]? = some 48 ∧ (fr + 1 < i ∨ sg < 0) then .error 6 else .ok (sg * n, i)
def resX (s : Bytes) (sg : Int) (fr : Nat) : Except Int (Int × Nat) :=
  match s[fr]? with
  | none => .error 2
  | some c => if dg c then finX s sg fr (fr + ((s.drop fr).takeWhile dg).length) (capF 0 ((s.drop fr).takeWhile dg)) else .error 6
def numX (s : Bytes) (i : Nat) : Except Int (Int × Nat) := if s[i]? = some 45 then resX s (-1) (i + 1) else resX s 1 i
def toA3 : Except Int (Int × Nat) → AV
  | .error e => err3 e
  | .ok (n, i) => .tuple [.int .i64 n, .int .i64 (i : Int), .int .i64 0]
theorem numM_eq (s : Bytes) (i : Nat) : numM s i = toA3 (numX s i) := by
  have h1 : ∀ sg fr, resN s sg fr = toA3 (resX s sg fr) := by
    intro sg fr
    unfold resN resX
    cases s[fr]? with
    | none => rfl
    | some c =>
      simp only
      unfold finN finX
      split
      · split <;> rfl
      · rfl
  unfold numM numX
  split
  · exact h1 _ _
  · exact h1 _ _
theorem capF_le : ∀ (l : Bytes) (a : Nat), a ≤ 18014398509481984 → capF a l ≤ 18014398509481984
  | [], a, h => h
  | c :: l, a, h => capF_le l _ (Nat.min_le_right _ _)
theorem tw_le (l : Bytes) : (l.takeWhile dg).length ≤ l.length := by
  induction l with
  | nil => simp
  | cons c l ih =>
    rw [List.takeWhile_cons]
    split
    · simp; omega
    · simp
theorem numX_cases (s : Bytes) (i : Nat) (hi : i ≤ s.length) : (∃ e, (e = 2 ∨ e = 6) ∧ numX s i = .error e) ∨ ∃ n k, numX s i = .ok (n, k) ∧ i < k ∧ k ≤ s.length ∧ -18014398509481984 ≤ n ∧ n ≤ 18014398509481984 := by
  have key : ∀ sg fr, (sg = 1 ∨ sg = -1) → i ≤ fr → (∃ e, (e = 2 ∨ e = 6) ∧ resX s sg fr = .error e) ∨ ∃ n k, resX s sg fr = .ok (n, k) ∧ i < k ∧ k ≤ s.length ∧ -18014398509481984 ≤ n ∧ n ≤ 18014398509481984 := by
    intro sg fr hsg hfr
    unfold resX
    cases hq : s[fr]? with
    | none => exact .inl ⟨2, .inl rfl, rfl⟩
    | some c =>
      have hl : fr < s.length := (List.getElem?_eq_some_iff.mp hq).1
      have hc : s.drop fr = c :: s.drop (fr + 1) := by
        rw [List.drop_eq_getElem_cons hl, (List.getElem?_eq_some_iff.mp hq).2]
      simp only
      cases hdc : dg c with
      | false => exact .inl ⟨6, .inr rfl, rfl⟩
      | true =>
        simp only [if_true]
        unfold finX
        split
        · exact .inl ⟨6, .inr rfl, rfl⟩
        · have h1 := tw_le (s.drop fr)
          have h2 := capF_le ((s.drop fr).takeWhile dg) 0 (by omega)
          have h3 : 0 < ((s.drop fr).takeWhile dg).length := by rw [hc, List.takeWhile_cons_of_pos hdc]; simp
          rw [List.length_drop] at h1
          refine .inr ⟨_, _, rfl, by omega, by omega, ?_, ?_⟩ <;> rcases hsg with rfl | rfl <;> omega
  unfold numX
  split
  · exact key _ _ (.inr rfl) (by omega)
  · exact key _ _ (.inl rfl) (Nat.le_refl _)
def numericX (s : Bytes) : Except Int (Vl × Nat) :=
  match numX s 0 with
  | .error e => .error e
  | .ok (n, i) =>
    if s[i]? = some 58 then
      match numX s (i + 1) with
      | .error e => .error e
      | .ok (m, k) => if okV ⟨2, 0, [], n, m⟩ then .ok (⟨2, 0, [], n, m⟩, k) else .error 14
    else if okV ⟨0, n, [], 0, 0⟩ then .ok (⟨0, n, [], 0, 0⟩, i) else .error 14
def toAV : Except Int (Vl × Nat) → AV
  | .error e => .tuple [val 0 0 [] 0 0, .int .i64 0, .int .i64 e]
  | .ok (v, i) => .tuple [valA v, .int .i64 (i : Int), .int .i64 0]
theorem numeric_gen {s : Bytes} (hs : s.length ≤ 1000000) : PCall Cx 55 [.str s] (toAV (numericX s)) := by
  refine pcall_run (noext _) body55 ?_
  have hn := number_gen (p := 0) hs (Nat.zero_le _)
  rw [numM_eq] at hn
  have hn' : PCall Cx 61 [.str s, .int .i64 0] (toA3 (numX s 0)) := hn
  unfold numericX
  rcases numX_cases s 0 (Nat.zero_le _) with ⟨e, he, h⟩ | ⟨n, i, h, hi0, hi1, hn0, hn1⟩
  · rw [h] at hn' ⊢
    have e0 : (e != 0) = true := by rcases he with rfl | rfl <;> rfl
    simp only [toA3, err3] at hn'
    simp only [toAV, e0, call_pure pure61 rfl hn', n55_0, n55_1, n55_2, n55_3, n55_4, n55_5, n55_6, n55_7, n55_8, n55_9, n55_10, n55_11, n55_12, n55_13, n55_14, n55_15, n55_16, n55_17, n55_18, n55_19, n55_20, n55_21, n55_22, n55_23, n55_24, n55_25, n55_26, n55_27, n55_28, n55_29, n55_30, n55_31, n55_32, n55_33, n55_34, n55_35, n55_36, n55_37, n55_38, n55_39, n55_40, o55_1, o55_3, o55_6, o55_9, o55_13, o55_16, o55_19, o55_22, o55_25, o55_28, o55_32, o55_35, o55_39, res55, TT_3, TT_4, TT_5, TT_9, TT_21, TT_22, TT_25, TT_33, TT_35, TT_37, TT_39, TT_47, TT_52, TT_56, TT_59, TT_60, TT_62, TT_63, TT_65, TT_73, TT_77, TT_82, TT_84, bb, primP, primM, ev, evs, parts_, ofConst, bin, un, intBin, putA, enterT, Nat.reduceEqDiff, Nat.reduceAdd, Nat.reduceMul, Nat.reduceLeDiff, Nat.reduceLT, ↓reduceIte, reduceCtorEq, RunRes, resultsA, oneOf, AV.plain, AV.cells, AHeap.push, AHeap.set, AHeap.empty, fieldOf, loadA, storeA, BX.part, TK.isAgg, convA, builtinA, inertB, builtinP, buildA, fillA, splice, eqv, cellsEq, sizeT, adT, ldT, fwT, Nat.reduceBeqDiff, Nat.reduceBneDiff, Int.reduceBNe, Int.reduceBEq, Int.reduceEq, Int.reduceLT, Int.reduceLE, Int.reduceAdd, Int.reduceSub, Int.reduceMul, Int.reduceNeg, strBin, indexAddrA, elems, lenOf, chunk, List.reduceReplicate, Int.reduceToNat]
  · rw [h] at hn' ⊢
    simp only [toA3] at hn'
    simp only
    have g1 : (0 : Int) ≤ (i : Int) := by omega
    have ri := Right_ok 0 n [] 0 0
    have eo : rightV 0 n [] 0 0 = okV ⟨0, n, [], 0, 0⟩ := rfl
    rw [eo] at ri
    cases hq : s[i]? with
    | none =>
      have hl : s.length ≤ i := List.getElem?_eq_none_iff.mp hq
      have g0 : ((i : Int) < (s.length : Int)) = False := eq_false (by omega)
      rw [if_neg (by simp)]
      cases ho : okV ⟨0, n, [], 0, 0⟩ with
      | false =>
        rw [ho] at ri
        simp only [toAV, g0, call_pure pure61 rfl hn', call_pure pure49 rfl ri, n55_0, n55_1, n55_2, n55_3, n55_4, n55_5, n55_6, n55_7, n55_8, n55_9, n55_10, n55_11, n55_12, n55_13, n55_14, n55_15, n55_16, n55_17, n55_18, n55_19, n55_20, n55_21, n55_22, n55_23, n55_24, n55_25, n55_26, n55_27, n55_28, n55_29, n55_30, n55_31, n55_32, n55_33, n55_34, n55_35, n55_36, n55_37, n55_38, n55_39, n55_40, o55_1, o55_3, o55_6, o55_9, o55_13, o55_16, o55_19, o55_22, o55_25, o55_28, o55_32, o55_35, o55_39, res55, TT_3, TT_4, TT_5, TT_9, TT_21, TT_22, TT_25, TT_33, TT_35, TT_37, TT_39, TT_47, TT_52, TT_56, TT_59, TT_60, TT_62, TT_63, TT_65, TT_73, TT_77, TT_82, TT_84, bb, primP, primM, ev, evs, parts_, ofConst, bin, un, intBin, putA, enterT, Nat.reduceEqDiff, Nat.reduceAdd, Nat.reduceMul, Nat.reduceLeDiff, Nat.reduceLT, ↓reduceIte, reduceCtorEq, RunRes, resultsA, oneOf, AV.plain, AV.cells, AHeap.push, AHeap.set, AHeap.empty, fieldOf, loadA, storeA, BX.part, TK.isAgg, convA, builtinA, inertB, builtinP, buildA, fillA, splice, eqv, cellsEq, sizeT, adT, ldT, fwT, Nat.reduceBeqDiff, Nat.reduceBneDiff, Int.reduceBNe, Int.reduceBEq, Int.reduceEq, Int.reduceLT, Int.reduceLE, Int.reduceAdd, Int.reduceSub, Int.reduceMul, Int.reduceNeg, strBin, indexAddrA, elems, lenOf, chunk, List.reduceReplicate, Int.reduceToNat]
      | true =>
        rw [ho] at ri
        simp only [toAV, g0, call_pure pure61 rfl hn', call_pure pure49 rfl ri, n55_0, n55_1, n55_2, n55_3, n55_4, n55_5, n55_6, n55_7, n55_8, n55_9, n55_10, n55_11, n55_12, n55_13, n55_14, n55_15, n55_16, n55_17, n55_18, n55_19, n55_20, n55_21, n55_22, n55_23, n55_24, n55_25, n55_26, n55_27, n55_28, n55_29, n55_30, n55_31, n55_32, n55_33, n55_34, n55_35, n55_36, n55_37, n55_38, n55_39, n55_40, o55_1, o55_3, o55_6, o55_9, o55_13, o55_16, o55_19, o55_22, o55_25, o55_28, o55_32, o55_35, o55_39, res55, TT_3, TT_4, TT_5, TT_9, TT_21, TT_22, TT_25, TT_33, TT_35, TT_37, TT_39, TT_47, TT_52, TT_56, TT_59, TT_60, TT_62, TT_63, TT_65, TT_73, TT_77, TT_82, TT_84, bb, primP, primM, ev, evs, parts_, ofConst, bin, un, intBin, putA, enterT, Nat.reduceEqDiff, Nat.reduceAdd, Nat.reduceMul, Nat.reduceLeDiff, Nat.reduceLT, ↓reduceIte, reduceCtorEq, RunRes, resultsA, oneOf, AV.plain, AV.cells, AHeap.push, AHeap.set, AHeap.empty, fieldOf, loadA, storeA, BX.part, TK.isAgg, convA, builtinA, inertB, builtinP, buildA, fillA, splice, eqv, cellsEq, sizeT, adT, ldT, fwT, Nat.reduceBeqDiff, Nat.reduceBneDiff, Int.reduceBNe, Int.reduceBEq, Int.reduceEq, Int.reduceLT, Int.reduceLE, Int.reduceAdd, Int.reduceSub, Int.reduceMul, Int.reduceNeg, strBin, indexAddrA, elems, lenOf, chunk, List.reduceReplicate, Int.reduceToNat]
    | some c =>
      have hl : i < s.length := (List.getElem?_eq_some_iff.mp hq).1
      have g0 : ((i : Int) < (s.length : Int)) = True := eq_true (by omega)
      by_cases hc : c = 58
      · subst hc
        rw [if_pos rfl]
        have g2 : (((58 : UInt8).toNat : Int) == 58) = true := rfl
        have w1 : IntKind.i64.wrap ((i : Int) + 1) = ((i + 1 : Nat) : Int) := by rw [wr64 (by omega) (by omega)]; omega
        have hm := number_gen (p := i + 1) hs (by omega)
        rw [numM_eq] at hm
        rcases numX_cases s (i + 1) (by omega) with ⟨e, he, h2⟩ | ⟨m, k, h2, hk0, hk1, hm0, hm1⟩
        · rw [h2] at hm ⊢
          have e0 : (e != 0) = true := by rcases he with rfl | rfl <;> rfl
          simp only [toA3, err3] at hm
          simp only [toAV, g0, g1, g2, w1, hq, e0, indexA, Int.toNat_natCast, call_pure pure61 rfl hn', call_pure pure61 rfl hm, n55_0, n55_1, n55_2, n55_3, n55_4, n55_5, n55_6, n55_7, n55_8, n55_9, n55_10, n55_11, n55_12, n55_13, n55_14, n55_15, n55_16, n55_17, n55_18, n55_19, n55_20, n55_21, n55_22, n55_23, n55_24, n55_25, n55_26, n55_27, n55_28, n55_29, n55_30, n55_31, n55_32, n55_33, n55_34, n55_35, n55_36, n55_37, n55_38, n55_39, n55_40, o55_1, o55_3, o55_6, o55_9, o55_13, o55_16, o55_19, o55_22, o55_25, o55_28, o55_32, o55_35, o55_39, res55, TT_3, TT_4, TT_5, TT_9, TT_21, TT_22, TT_25, TT_33, TT_35, TT_37, TT_39, TT_47, TT_52, TT_56, TT_59, TT_60, TT_62, TT_63, TT_65, TT_73, TT_77, TT_82, TT_84, bb, primP, primM, ev, evs, parts_, ofConst, bin, un, intBin, putA, enterT, Nat.reduceEqDiff, Nat.reduceAdd, Nat.reduceMul, Nat.reduceLeDiff, Nat.reduceLT, ↓reduceIte, reduceCtorEq, RunRes, resultsA, oneOf, AV.plain, AV.cells, AHeap.push, AHeap.set, AHeap.empty, fieldOf, loadA, storeA, BX.part, TK.isAgg, convA, builtinA, inertB, builtinP, buildA, fillA, splice, eqv, cellsEq, sizeT, adT, ldT, fwT, Nat.reduceBeqDiff, Nat.reduceBneDiff, Int.reduceBNe, Int.reduceBEq, Int.reduceEq, Int.reduceLT, Int.reduceLE, Int.reduceAdd, Int.reduceSub, Int.reduceMul, Int.reduceNeg, strBin, indexAddrA, elems, lenOf, chunk, List.reduceReplicate, Int.reduceToNat]
        · rw [h2] at hm ⊢
          simp only [toA3] at hm
          simp only
          have r2 := Right_ok 2 0 [] n m
          have eo2 : rightV 2 0 [] n m = okV ⟨2, 0, [], n, m⟩ := rfl
          rw [eo2] at r2
          cases ho : okV ⟨2, 0, [], n, m⟩ with
          | false =>
            rw [ho] at r2
            simp only [toAV, g0, g1, g2, w1, hq, indexA, Int.toNat_natCast, call_pure pure61 rfl hn', call_pure pure61 rfl hm, call_pure pure49 rfl r2, n55_0, n55_1, n55_2, n55_3, n55_4, n55_5, n55_6, n55_7, n55_8, n55_9, n55_10, n55_11, n55_12, n55_13, n55_14, n55_15, n55_16, n55_17, n55_18, n55_19, n55_20, n55_21, n55_22, n55_23, n55_24, n55_25, n55_26, n55_27, n55_28, n55_29, n55_30, n55_31, n55_32, n55_33, n55_34, n55_35, n55_36, n55_37, n55_38, n55_39, n55_40, o55_1, o55_3, o55_6, o55_9, o55_13, o55_16, o55_19, o55_22, o55_25, o55_28, o55_32, o55_35, o55_39, res55, TT_3, TT_4, TT_5, TT_9, TT_21, TT_22, TT_25, TT_33, TT_35, TT_37, TT_39, TT_47, TT_52, TT_56, TT_59, TT_60, TT_62, TT_63, TT_65, TT_73, TT_77, TT_82, TT_84, bb, primP, primM, ev, evs, parts_, ofConst, bin, un, intBin, putA, enterT, Nat.reduceEqDiff, Nat.reduceAdd, Nat.reduceMul, Nat.reduceLeDiff, Nat.reduceLT, ↓reduceIte, reduceCtorEq, RunRes, resultsA, oneOf, AV.plain, AV.cells, AHeap.push, AHeap.set, AHeap.empty, fieldOf, loadA, storeA, BX.part, TK.isAgg, convA, builtinA, inertB, builtinP, buildA, fillA, splice, eqv, cellsEq, sizeT, adT, ldT, fwT, Nat.reduceBeqDiff, Nat.reduceBneDiff, Int.reduceBNe, Int.reduceBEq, Int.reduceEq, Int.reduceLT, Int.reduceLE, Int.reduceAdd, Int.reduceSub, Int.reduceMul, Int.reduceNeg, strBin, indexAddrA, elems, lenOf, chunk, List.reduceReplicate, Int.reduceToNat]
          | true =>
            rw [ho] at r2
            simp only [toAV, g0, g1, g2, w1, hq, indexA, Int.toNat_natCast, call_pure pure61 rfl hn', call_pure pure61 rfl hm, call_pure pure49 rfl r2, n55_0, n55_1, n55_2, n55_3, n55_4, n55_5, n55_6, n55_7, n55_8, n55_9, n55_10, n55_11, n55_12, n55_13, n55_14, n55_15, n55_16, n55_17, n55_18, n55_19, n55_20, n55_21, n55_22, n55_23, n55_24, n55_25, n55_26, n55_27, n55_28, n55_29, n55_30, n55_31, n55_32, n55_33, n55_34, n55_35, n55_36, n55_37, n55_38, n55_39, n55_40, o55_1, o55_3, o55_6, o55_9, o55_13, o55_16, o55_19, o55_22, o55_25, o55_28, o55_32, o55_35, o55_39, res55, TT_3, TT_4, TT_5, TT_9, TT_21, TT_22, TT_25, TT_33, TT_35, TT_37, TT_39, TT_47, TT_52, TT_56, TT_59, TT_60, TT_62, TT_63, TT_65, TT_73, TT_77, TT_82, TT_84, bb, primP, primM, ev, evs, parts_, ofConst, bin, un, intBin, putA, enterT, Nat.reduceEqDiff, Nat.reduceAdd, Nat.reduceMul, Nat.reduceLeDiff, Nat.reduceLT, ↓reduceIte, reduceCtorEq, RunRes, resultsA, oneOf, AV.plain, AV.cells, AHeap.push, AHeap.set, AHeap.empty, fieldOf, loadA, storeA, BX.part, TK.isAgg, convA, builtinA, inertB, builtinP, buildA, fillA, splice, eqv, cellsEq, sizeT, adT, ldT, fwT, Nat.reduceBeqDiff, Nat.reduceBneDiff, Int.reduceBNe, Int.reduceBEq, Int.reduceEq, Int.reduceLT, Int.reduceLE, Int.reduceAdd, Int.reduceSub, Int.reduceMul, Int.reduceNeg, strBin, indexAddrA, elems, lenOf, chunk, List.reduceReplicate, Int.reduceToNat]
      · rw [if_neg (by intro h; exact hc (Option.some.inj h))]
        have g2 : ((c.toNat : Int) == 58) = false := by
          simp only [beq_eq_false_iff_ne, ne_eq]
          intro e; exact hc (UInt8.toNat_inj.mp (by have : (58 : UInt8).toNat = 58 := rfl; omega))
        cases ho : okV ⟨0, n, [], 0, 0⟩ with
        | false =>
          rw [ho] at ri
          simp only [toAV, g0, g1, g2, hq, indexA, Int.toNat_natCast, call_pure pure61 rfl hn', call_pure pure49 rfl ri, n55_0, n55_1, n55_2, n55_3, n55_4, n55_5, n55_6, n55_7, n55_8, n55_9, n55_10, n55_11, n55_12, n55_13, n55_14, n55_15, n55_16, n55_17, n55_18, n55_19, n55_20, n55_21, n55_22, n55_23, n55_24, n55_25, n55_26, n55_27, n55_28, n55_29, n55_30, n55_31, n55_32, n55_33, n55_34, n55_35, n55_36, n55_37, n55_38, n55_39, n55_40, o55_1, o55_3, o55_6, o55_9, o55_13, o55_16, o55_19, o55_22, o55_25, o55_28, o55_32, o55_35, o55_39, res55, TT_3, TT_4, TT_5, TT_9, TT_21, TT_22, TT_25, TT_33, TT_35, TT_37, TT_39, TT_47, TT_52, TT_56, TT_59, TT_60, TT_62, TT_63, TT_65, TT_73, TT_77, TT_82, TT_84, bb, primP, primM, ev, evs, parts_, ofConst, bin, un, intBin, putA, enterT, Nat.reduceEqDiff, Nat.reduceAdd, Nat.reduceMul, Nat.reduceLeDiff, Nat.reduceLT, ↓reduceIte, reduceCtorEq, RunRes, resultsA, oneOf, AV.plain, AV.cells, AHeap.push, AHeap.set, AHeap.empty, fieldOf, loadA, storeA, BX.part, TK.isAgg, convA, builtinA, inertB, builtinP, buildA, fillA, splice, eqv, cellsEq, sizeT, adT, ldT, fwT, Nat.reduceBeqDiff, Nat.reduceBneDiff, Int.reduceBNe, Int.reduceBEq, Int.reduceEq, Int.reduceLT, Int.reduceLE, Int.reduceAdd, Int.reduceSub, Int.reduceMul, Int.reduceNeg, strBin, indexAddrA, elems, lenOf, chunk, List.reduceReplicate, Int.reduceToNat]
        | true =>
          rw [ho] at ri
          simp only [toAV, g0, g1, g2, hq, indexA, Int.toNat_natCast, call_pure pure61 rfl hn', call_pure pure49 rfl ri, n55_0, n55_1, n55_2, n55_3, n55_4, n55_5, n55_6, n55_7, n55_8, n55_9, n55_10, n55_11, n55_12, n55_13, n55_14, n55_15, n55_16, n55_17, n55_18, n55_19, n55_20, n55_21, n55_22, n55_23, n55_24, n55_25, n55_26, n55_27, n55_28, n55_29, n55_30, n55_31, n55_32, n55_33, n55_34, n55_35, n55_36, n55_37, n55_38, n55_39, n55_40, o55_1, o55_3, o55_6, o55_9, o55_13, o55_16, o55_19, o55_22, o55_25, o55_28, o55_32, o55_35, o55_39, res55, TT_3, TT_4, TT_5, TT_9, TT_21, TT_22, TT_25, TT_33, TT_35, TT_37, TT_39, TT_47, TT_52, TT_56, TT_59, TT_60, TT_62, TT_63, TT_65, TT_73, TT_77, TT_82, TT_84, bb, primP, primM, ev, evs, parts_, ofConst, bin, un, intBin, putA, enterT, Nat.reduceEqDiff, Nat.reduceAdd, Nat.reduceMul, Nat.reduceLeDiff, Nat.reduceLT, ↓reduceIte, reduceCtorEq, RunRes, resultsA, oneOf, AV.plain, AV.cells, AHeap.push, AHeap.set, AHeap.empty, fieldOf, loadA, storeA, BX.part, TK.isAgg, convA, builtinA, inertB, builtinP, buildA, fillA, splice, eqv, cellsEq, sizeT, adT, ldT, fwT, Nat.reduceBeqDiff, Nat.reduceBneDiff, Int.reduceBNe, Int.reduceBEq, Int.reduceEq, Int.reduceLT, Int.reduceLE, Int.reduceAdd, Int.reduceSub, Int.reduceMul, Int.reduceNeg, strBin, indexAddrA, elems, lenOf, chunk, List.reduceReplicate, Int.reduceToNat]
def hx (c : UInt8) : Int := idxL c digits 0
theorem idxL_rng (c : UInt8) : ∀ (l : Bytes) (i : Nat), -1 ≤ idxL c l i ∧ (idxL c l i = -1 ∨ (i : Int) ≤ idxL c l i) ∧ idxL c l i < (i : Int) + l.length
  | [], i => by simp [idxL]; omega
  | x :: l, i => by
    unfold idxL
    have h := idxL_rng c l (i + 1)
    split
    · simp; omega
    · simp only [List.length_cons]; omega
theorem hx_rng (c : UInt8) : -1 ≤ hx c ∧ hx c ≤ 15 := by
  have h := idxL_rng c digits 0
  have hl : digits.length = 16 := rfl
  unfold hx
  omega
theorem pure_idx : Cx.pure 65 = true := by kernel_rfl
theorem nat_u8 (c : UInt8) : ((c.toNat : Int)).toNat.toUInt8 = c := by
  rw [Int.toNat_natCast]
  show UInt8.ofNat c.toNat = c
  exact UInt8.ofNat_toNat
theorem IndexByte_gen (c : UInt8) : PCall Cx 63 [.str digits, .int .u8 (c.toNat : Int)] (.int .i64 (hx c)) := by
  have h0 : PCall Cx 65 [.str digits, .int .u8 (c.toNat : Int)] (.int .i64 (hx c)) := by
    refine pcall_ext (g := idxG) rfl (r0 := .int .i64 (hx c)) (H' := AHeap.empty) ?_ rfl
    show some (AV.int .i64 (idxL ((c.toNat : Int)).toNat.toUInt8 digits 0), AHeap.empty) = _
    rw [nat_u8]
    rfl
  have h1 : PCall Cx 64 [.str digits, .int .u8 (c.toNat : Int)] (.int .i64 (hx c)) := by
    refine pcall_run (noext _) body64 ?_
    simp only [call_pure pure_idx rfl h0, n64_0, n64_1, n64_2, n64_3, n64_4, o64_1, o64_3, res64, TT_3, TT_4, TT_5, TT_9, TT_21, TT_22, TT_25, TT_33, TT_35, TT_37, TT_39, TT_47, TT_52, TT_56, TT_59, TT_60, TT_62, TT_63, TT_65, TT_73, TT_77, TT_82, TT_84, bb, primP, primM, ev, evs, parts_, ofConst, bin, un, intBin, putA, enterT, Nat.reduceEqDiff, Nat.reduceAdd, Nat.reduceMul, Nat.reduceLeDiff, Nat.reduceLT, ↓reduceIte, reduceCtorEq, RunRes, resultsA, oneOf, AV.plain, AV.cells, AHeap.push, AHeap.set, AHeap.empty, fieldOf, loadA, storeA, BX.part, TK.isAgg, convA, builtinA, inertB, builtinP, buildA, fillA, splice, eqv, cellsEq, sizeT, adT, ldT, fwT, Nat.reduceBeqDiff, Nat.reduceBneDiff, Int.reduceBNe, Int.reduceBEq, Int.reduceEq, Int.reduceLT, Int.reduceLE, Int.reduceAdd, Int.reduceSub, Int.reduceMul, Int.reduceNeg, strBin, indexAddrA, elems, lenOf, chunk, List.reduceReplicate, Int.reduceToNat]
  refine pcall_run (noext _) body63 ?_
  simp only [call_pure pure64 rfl h1, n63_0, n63_1, n63_2, n63_3, n63_4, o63_1, o63_3, res63, TT_3, TT_4, TT_5, TT_9, TT_21, TT_22, TT_25, TT_33, TT_35, TT_37, TT_39, TT_47, TT_52, TT_56, TT_59, TT_60, TT_62, TT_63, TT_65, TT_73, TT_77, TT_82, TT_84, bb, primP, primM, ev, evs, parts_, ofConst, bin, un, intBin, putA, enterT, Nat.reduceEqDiff, Nat.reduceAdd, Nat.reduceMul, Nat.reduceLeDiff, Nat.reduceLT, ↓reduceIte, reduceCtorEq, RunRes, resultsA, oneOf, AV.plain, AV.cells, AHeap.push, AHeap.set, AHeap.empty, fieldOf, loadA, storeA, BX.part, TK.isAgg, convA, builtinA, inertB, builtinP, buildA, fillA, splice, eqv, cellsEq, sizeT, adT, ldT, fwT, Nat.reduceBeqDiff, Nat.reduceBneDiff, Int.reduceBNe, Int.reduceBEq, Int.reduceEq, Int.reduceLT, Int.reduceLE, Int.reduceAdd, Int.reduceSub, Int.reduceMul, Int.reduceNeg, strBin, indexAddrA, elems, lenOf, chunk, List.reduceReplicate, Int.reduceToNat]
def escX : Bytes → Except Int Int
  | [] => .error 2
  | a :: r => if hx a < 0 then .error 6 else
    match r with
    | [] => .error 2
    | b :: _ => if hx b < 0 then .error 6 else if plainI (16 * hx a + hx b) then .error 6 else .ok (16 * hx a + hx b)
def toA2 : Except Int Int → AV
  | .error e => .tuple [.int .u8 0, .int .i64 e]
  | .ok c => .tuple [.int .u8 c, .int .i64 0]
theorem escaped_gen {s : Bytes} {p : Nat} (hs : s.length ≤ 1000000) (hp : p ≤ s.length) :
    PCall Cx 60 [.str s, .int .i64 (p : Int)] (toA2 (escX (s.drop p))) := by
  refine pcall_run (noext _) body60 ?_
  have w2 : IntKind.i64.wrap ((p : Int) + 2) = ((p + 2 : Nat) : Int) := by rw [wr64 (by omega) (by omega)]; omega
  have g1 : ((p : Int) < ((p + 2 : Nat) : Int)) = True := eq_true (by omega)
  have g2 : (((p + 1 : Nat) : Int) < ((p + 2 : Nat) : Int)) = True := eq_true (by omega)
  have g3 : (((p + 2 : Nat) : Int) < ((p + 2 : Nat) : Int)) = False := by simp
  have w1 : IntKind.i64.wrap ((p : Int) + 1) = ((p + 1 : Nat) : Int) := by rw [wr64 (by omega) (by omega)]; omega
  have w3 : IntKind.i64.wrap (((p + 1 : Nat) : Int) + 1) = ((p + 2 : Nat) : Int) := by rw [wr64 (by omega) (by omega)]; omega
  have g6 : (0 : Int) ≤ (p : Int) := by omega
  have g7 : (0 : Int) ≤ ((p + 1 : Nat) : Int) := by omega
  have w0 : IntKind.i64.wrap 0 = 0 := rfl
  cases hd : s.drop p with
  | nil =>
    have hl : s.length ≤ p := by
      have := congrArg List.length hd
      rw [List.length_drop] at this
      simp at this; omega
    have g4 : ((s.length : Int) ≤ (p : Int)) = True := eq_true (by omega)
    simp only [escX, toA2, w0, w1, w2, g1, g4, run_exit_start, exit_here, exit_code, exit_inLoop, run_inBlock, run_inLoop, n60_0, n60_1, n60_2, n60_3, n60_4, n60_5, n60_6, n60_7, n60_8, n60_9, n60_10, n60_11, n60_12, n60_13, n60_14, n60_15, n60_16, n60_17, n60_18, n60_19, n60_20, n60_21, n60_22, n60_23, n60_24, n60_25, n60_26, n60_27, n60_28, n60_29, n60_30, n60_31, n60_32, n60_33, n60_34, n60_35, n60_36, n60_37, n60_38, n60_39, n60_40, n60_41, n60_42, n60_43, n60_44, n60_45, n60_46, n60_47, o60_1, o60_3, o60_6, o60_11, o60_19, o60_22, o60_26, o60_29, o60_32, o60_35, o60_36, o60_39, o60_42, o60_46, res60, TT_3, TT_4, TT_5, TT_9, TT_21, TT_22, TT_25, TT_33, TT_35, TT_37, TT_39, TT_47, TT_52, TT_56, TT_59, TT_60, TT_62, TT_63, TT_65, TT_73, TT_77, TT_82, TT_84, bb, primP, primM, ev, evs, parts_, ofConst, bin, un, intBin, putA, enterT, Nat.reduceEqDiff, Nat.reduceAdd, Nat.reduceMul, Nat.reduceLeDiff, Nat.reduceLT, ↓reduceIte, reduceCtorEq, RunRes, resultsA, oneOf, AV.plain, AV.cells, AHeap.push, AHeap.set, AHeap.empty, fieldOf, loadA, storeA, BX.part, TK.isAgg, convA, builtinA, inertB, builtinP, buildA, fillA, splice, eqv, cellsEq, sizeT, adT, ldT, fwT, Nat.reduceBeqDiff, Nat.reduceBneDiff, Int.reduceBNe, Int.reduceBEq, Int.reduceEq, Int.reduceLT, Int.reduceLE, Int.reduceAdd, Int.reduceSub, Int.reduceMul, Int.reduceNeg, strBin, indexAddrA, elems, lenOf, chunk, List.reduceReplicate, Int.reduceToNat]
  | cons a r =>
    obtain ⟨h1, h2, l1⟩ := drop_get hd
    have g4 : ((s.length : Int) ≤ (p : Int)) = False := eq_false (by omega)
    have i1 := IndexByte_gen a
    obtain ⟨ra, rb⟩ := hx_rng a
    by_cases ha : hx a < 0
    · simp only [escX, toA2, ha, w0, w1, w2, g1, g4, g6, h1, indexA, Int.toNat_natCast, call_pure pure63 rfl i1, run_exit_start, exit_here, exit_code, exit_inLoop, run_inBlock, run_inLoop, n60_0, n60_1, n60_2, n60_3, n60_4, n60_5, n60_6, n60_7, n60_8, n60_9, n60_10, n60_11, n60_12, n60_13, n60_14, n60_15, n60_16, n60_17, n60_18, n60_19, n60_20, n60_21, n60_22, n60_23, n60_24, n60_25, n60_26, n60_27, n60_28, n60_29, n60_30, n60_31, n60_32, n60_33, n60_34, n60_35, n60_36, n60_37, n60_38, n60_39, n60_40, n60_41, n60_42, n60_43, n60_44, n60_45, n60_46, n60_47, o60_1, o60_3, o60_6, o60_11, o60_19, o60_22, o60_26, o60_29, o60_32, o60_35, o60_36, o60_39, o60_42, o60_46, res60, TT_3, TT_4, TT_5, TT_9, TT_21, TT_22, TT_25, TT_33, TT_35, TT_37, TT_39, TT_47, TT_52, TT_56, TT_59, TT_60, TT_62, TT_63, TT_65, TT_73, TT_77, TT_82, TT_84, bb, primP, primM, ev, evs, parts_, ofConst, bin, un, intBin, putA, enterT, Nat.reduceEqDiff, Nat.reduceAdd, Nat.reduceMul, Nat.reduceLeDiff, Nat.reduceLT, ↓reduceIte, reduceCtorEq, RunRes, resultsA, oneOf, AV.plain, AV.cells, AHeap.push, AHeap.set, AHeap.empty, fieldOf, loadA, storeA, BX.part, TK.isAgg, convA, builtinA, inertB, builtinP, buildA, fillA, splice, eqv, cellsEq, sizeT, adT, ldT, fwT, Nat.reduceBeqDiff, Nat.reduceBneDiff, Int.reduceBNe, Int.reduceBEq, Int.reduceEq, Int.reduceLT, Int.reduceLE, Int.reduceAdd, Int.reduceSub, Int.reduceMul, Int.reduceNeg, strBin, indexAddrA, elems, lenOf, chunk, List.reduceReplicate, Int.reduceToNat]
    · have wa : IntKind.i64.wrap (hx a) = hx a := wr64 (by omega) (by omega)
      have wb : IntKind.i64.wrap (16 * hx a) = 16 * hx a := wr64 (by omega) (by omega)
      cases r with
      | nil =>
        have hl : s.length ≤ p + 1 := by
          have := congrArg List.length h2
          rw [List.length_drop] at this
          simp at this; omega
        have g5 : ((s.length : Int) ≤ ((p + 1 : Nat) : Int)) = True := eq_true (by omega)
        simp only [escX, toA2, ha, wa, wb, w0, w1, w2, g1, g2, g4, g5, g6, h1, Int.mul_zero, Int.zero_add, indexA, Int.toNat_natCast, call_pure pure63 rfl i1, run_exit_start, exit_here, exit_code, exit_inLoop, run_inBlock, run_inLoop, n60_0, n60_1, n60_2, n60_3, n60_4, n60_5, n60_6, n60_7, n60_8, n60_9, n60_10, n60_11, n60_12, n60_13, n60_14, n60_15, n60_16, n60_17, n60_18, n60_19, n60_20, n60_21, n60_22, n60_23, n60_24, n60_25, n60_26, n60_27, n60_28, n60_29, n60_30, n60_31, n60_32, n60_33, n60_34, n60_35, n60_36, n60_37, n60_38, n60_39, n60_40, n60_41, n60_42, n60_43, n60_44, n60_45, n60_46, n60_47, o60_1, o60_3, o60_6, o60_11, o60_19, o60_22, o60_26, o60_29, o60_32, o60_35, o60_36, o60_39, o60_42, o60_46, res60, TT_3, TT_4, TT_5, TT_9, TT_21, TT_22, TT_25, TT_33, TT_35, TT_37, TT_39, TT_47, TT_52, TT_56, TT_59, TT_60, TT_62, TT_63, TT_65, TT_73, TT_77, TT_82, TT_84, bb, primP, primM, ev, evs, parts_, ofConst, bin, un, intBin, putA, enterT, Nat.reduceEqDiff, Nat.reduceAdd, Nat.reduceMul, Nat.reduceLeDiff, Nat.reduceLT, ↓reduceIte, reduceCtorEq, RunRes, resultsA, oneOf, AV.plain, AV.cells, AHeap.push, AHeap.set, AHeap.empty, fieldOf, loadA, storeA, BX.part, TK.isAgg, convA, builtinA, inertB, builtinP, buildA, fillA, splice, eqv, cellsEq, sizeT, adT, ldT, fwT, Nat.reduceBeqDiff, Nat.reduceBneDiff, Int.reduceBNe, Int.reduceBEq, Int.reduceEq, Int.reduceLT, Int.reduceLE, Int.reduceAdd, Int.reduceSub, Int.reduceMul, Int.reduceNeg, strBin, indexAddrA, elems, lenOf, chunk, List.reduceReplicate, Int.reduceToNat]
      | cons b r2 =>
        obtain ⟨h3, h4, l2⟩ := drop_get h2
        have g5 : ((s.length : Int) ≤ ((p + 1 : Nat) : Int)) = False := eq_false (by omega)
        have i2 := IndexByte_gen b
        obtain ⟨rc, rd⟩ := hx_rng b
        by_cases hb : hx b < 0
        · simp only [escX, toA2, ha, hb, wa, wb, w0, w1, w2, g1, g2, g4, g5, g6, g7, h1, h3, Int.mul_zero, Int.zero_add, indexA, Int.toNat_natCast, call_pure pure63 rfl i1, call_pure pure63 rfl i2, run_exit_start, exit_here, exit_code, exit_inLoop, run_inBlock, run_inLoop, n60_0, n60_1, n60_2, n60_3, n60_4, n60_5, n60_6, n60_7, n60_8, n60_9, n60_10, n60_11, n60_12, n60_13, n60_14, n60_15, n60_16, n60_17, n60_18, n60_19, n60_20, n60_21, n60_22, n60_23, n60_24, n60_25, n60_26, n60_27, n60_28, n60_29, n60_30, n60_31, n60_32, n60_33, n60_34, n60_35, n60_36, n60_37, n60_38, n60_39, n60_40, n60_41, n60_42, n60_43, n60_44, n60_45, n60_46, n60_47, o60_1, o60_3, o60_6, o60_11, o60_19, o60_22, o60_26, o60_29, o60_32, o60_35, o60_36, o60_39, o60_42, o60_46, res60, TT_3, TT_4, TT_5, TT_9, TT_21, TT_22, TT_25, TT_33, TT_35, TT_37, TT_39, TT_47, TT_52, TT_56, TT_59, TT_60, TT_62, TT_63, TT_65, TT_73, TT_77, TT_82, TT_84, bb, primP, primM, ev, evs, parts_, ofConst, bin, un, intBin, putA, enterT, Nat.reduceEqDiff, Nat.reduceAdd, Nat.reduceMul, Nat.reduceLeDiff, Nat.reduceLT, ↓reduceIte, reduceCtorEq, RunRes, resultsA, oneOf, AV.plain, AV.cells, AHeap.push, AHeap.set, AHeap.empty, fieldOf, loadA, storeA, BX.part, TK.isAgg, convA, builtinA, inertB, builtinP, buildA, fillA, splice, eqv, cellsEq, sizeT, adT, ldT, fwT, Nat.reduceBeqDiff, Nat.reduceBneDiff, Int.reduceBNe, Int.reduceBEq, Int.reduceEq, Int.reduceLT, Int.reduceLE, Int.reduceAdd, Int.reduceSub, Int.reduceMul, Int.reduceNeg, strBin, indexAddrA, elems, lenOf, chunk, List.reduceReplicate, Int.reduceToNat]
        · have wc : IntKind.i64.wrap (16 * hx a + hx b) = 16 * hx a + hx b := wr64 (by omega) (by omega)
          have wd : IntKind.u8.wrap (16 * hx a + hx b) = 16 * hx a + hx b := wr8 (by omega) (by omega)
          have hpl := plain_ok (16 * hx a + hx b)
          cases hp' : plainI (16 * hx a + hx b) with
          | true =>
            rw [hp'] at hpl
            simp only [escX, toA2, ha, hb, hp', wa, wb, wc, wd, w0, w1, w2, w3, g1, g2, g3, g4, g5, g6, g7, h1, h3, Int.mul_zero, Int.zero_add, indexA, Int.toNat_natCast, call_pure pure63 rfl i1, call_pure pure63 rfl i2, call_pure pure59 rfl hpl, run_exit_start, exit_here, exit_code, exit_inLoop, run_inBlock, run_inLoop, n60_0, n60_1, n60_2, n60_3, n60_4, n60_5, n60_6, n60_7, n60_8, n60_9, n60_10, n60_11, n60_12, n60_13, n60_14, n60_15, n60_16, n60_17, n60_18, n60_19, n60_20, n60_21, n60_22, n60_23, n60_24, n60_25, n60_26, n60_27, n60_28, n60_29, n60_30, n60_31, n60_32, n60_33, n60_34, n60_35, n60_36, n60_37, n60_38, n60_39, n60_40, n60_41, n60_42, n60_43, n60_44, n60_45, n60_46, n60_47, o60_1, o60_3, o60_6, o60_11, o60_19, o60_22, o60_26, o60_29, o60_32, o60_35, o60_36, o60_39, o60_42, o60_46, res60, TT_3, TT_4, TT_5, TT_9, TT_21, TT_22, TT_25, TT_33, TT_35, TT_37, TT_39, TT_47, TT_52, TT_56, TT_59, TT_60, TT_62, TT_63, TT_65, TT_73, TT_77, TT_82, TT_84, bb, primP, primM, ev, evs, parts_, ofConst, bin, un, intBin, putA, enterT, Nat.reduceEqDiff, Nat.reduceAdd, Nat.reduceMul, Nat.reduceLeDiff, Nat.reduceLT, ↓reduceIte, reduceCtorEq, RunRes, resultsA, oneOf, AV.plain, AV.cells, AHeap.push, AHeap.set, AHeap.empty, fieldOf, loadA, storeA, BX.part, TK.isAgg, convA, builtinA, inertB, builtinP, buildA, fillA, splice, eqv, cellsEq, sizeT, adT, ldT, fwT, Nat.reduceBeqDiff, Nat.reduceBneDiff, Int.reduceBNe, Int.reduceBEq, Int.reduceEq, Int.reduceLT, Int.reduceLE, Int.reduceAdd, Int.reduceSub, Int.reduceMul, Int.reduceNeg, strBin, indexAddrA, elems, lenOf, chunk, List.reduceReplicate, Int.reduceToNat]
          | false =>
            rw [hp'] at hpl
            simp only [escX, toA2, ha, hb, hp', wa, wb, wc, wd, w0, w1, w2, w3, g1, g2, g3, g4, g5, g6, g7, h1, h3, Int.mul_zero, Int.zero_add, indexA, Int.toNat_natCast, call_pure pure63 rfl i1, call_pure pure63 rfl i2, call_pure pure59 rfl hpl, run_exit_start, exit_here, exit_code, exit_inLoop, run_inBlock, run_inLoop, n60_0, n60_1, n60_2, n60_3, n60_4, n60_5, n60_6, n60_7, n60_8, n60_9, n60_10, n60_11, n60_12, n60_13, n60_14, n60_15, n60_16, n60_17, n60_18, n60_19, n60_20, n60_21, n60_22, n60_23, n60_24, n60_25, n60_26, n60_27, n60_28, n60_29, n60_30, n60_31, n60_32, n60_33, n60_34, n60_35, n60_36, n60_37, n60_38, n60_39, n60_40, n60_41, n60_42, n60_43, n60_44, n60_45, n60_46, n60_47, o60_1, o60_3, o60_6, o60_11, o60_19, o60_22, o60_26, o60_29, o60_32, o60_35, o60_36, o60_39, o60_42, o60_46, res60, TT_3, TT_4, TT_5, TT_9, TT_21, TT_22, TT_25, TT_33, TT_35, TT_37, TT_39, TT_47, TT_52, TT_56, TT_59, TT_60, TT_62, TT_63, TT_65, TT_73, TT_77, TT_82, TT_84, bb, primP, primM, ev, evs, parts_, ofConst, bin, un, intBin, putA, enterT, Nat.reduceEqDiff, Nat.reduceAdd, Nat.reduceMul, Nat.reduceLeDiff, Nat.reduceLT, ↓reduceIte, reduceCtorEq, RunRes, resultsA, oneOf, AV.plain, AV.cells, AHeap.push, AHeap.set, AHeap.empty, fieldOf, loadA, storeA, BX.part, TK.isAgg, convA, builtinA, inertB, builtinP, buildA, fillA, splice, eqv, cellsEq, sizeT, adT, ldT, fwT, Nat.reduceBeqDiff, Nat.reduceBneDiff, Int.reduceBNe, Int.reduceBEq, Int.reduceEq, Int.reduceLT, Int.reduceLE, Int.reduceAdd, Int.reduceSub, Int.reduceMul, Int.reduceNeg, strBin, indexAddrA, elems, lenOf, chunk, List.reduceReplicate, Int.reduceToNat]
end Go.Proofs.Ytkedlkcknhinoaa.G

