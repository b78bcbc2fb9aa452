import Derived.Test.YtckhmpcmlochpaaKRVChoice4
import Derived.Test.YtckhmpcmlochpaaKRVChoice3
import Derived.Laws.BitsLemmas
namespace Go.Proofs.Ytckhmpcmlochpaa.G
open Go.BX
section
variable {T : Nat → AV} {ds : List ADef} {ro : Option Nat} {k : List AItem} {H : AHeap} {Q : AV → AHeap → Prop}
abbrev o46_1 : List AO := [oA 2 (.alloc 26) 0,
  oA 3 (.assign (ci 0)) 3,
  oA 4 (.assign (ci 0)) 39]
def c46_1 : AC := .region o46_1 []
abbrev o46_4 : List AO := [oA 5 (.assign (.const (.slice none 0 0))) 114]
def c46_4 : AC := .region o46_4 []
abbrev o46_6 : List AO := [oA 6 (.assign (ci 1)) 3]
def c46_6 : AC := .region o46_6 []
def c46_8 : AC := .label 0
abbrev o46_12 : List AO := [oA 10 (.move (tm 6)) 3,
  oA 11 (.move (tm 0)) 9,
  oA 12 (cB .len #[(tm 11)] #[9]) 3,
  oA 13 (.binOp .geq 3 (tm 10) (tm 12) 3) 4,
  oA 9 (.assign (tm 13)) 4]
def c46_12 : AC := .region o46_12 []
abbrev o46_15 : List AO := [oA 14 (.build 26 #[]) 26,
  oN (.store 26 (tm 2) (tm 14)) 0,
  oA 3 (.assign (ci 0)) 3,
  oA 4 (.assign (ci 2)) 39]
def c46_15 : AC := .region o46_15 []
def c46_16 : AC := .ret
def c46_14 : AC := .seq c46_15 c46_16
abbrev o46_18 : List AO := [oA 16 (.move (tm 0)) 9,
  oA 17 (.move (tm 6)) 3,
  oA 18 (.index 9 (tm 16) (tm 17)) 5,
  oA 19 (.binOp .eql 5 (tm 18) (.const (.int .u8 34)) 5) 4,
  oA 15 (.assign (tm 19)) 4]
def c46_18 : AC := .region o46_18 []
abbrev o46_22 : List AO := [oA 20 (.move (tm 5)) 114,
  oA 21 (cB .len #[(tm 20)] #[114]) 3,
  oA 22 (.binOp .gtr 3 (tm 21) (ci 4096) 3) 4]
def c46_22 : AC := .region o46_22 []
abbrev o46_25 : List AO := [oA 23 (.build 26 #[]) 26,
  oN (.store 26 (tm 2) (tm 23)) 0,
  oA 3 (.assign (ci 0)) 3,
  oA 4 (.assign (ci 3)) 39]
def c46_25 : AC := .region o46_25 []
def c46_26 : AC := .ret
def c46_24 : AC := .seq c46_25 c46_26
def c46_27 : AC := .skip
def c46_23 : AC := .cond (tm 22) c46_24 c46_27
def c46_21 : AC := .seq c46_22 c46_23
abbrev o46_29 : List AO := [oA 24 (.move (tm 5)) 114,
  oA 25 (.convert 114 9 (tm 24)) 9,
  oA 26 (.build 26 #[(0, (ci 1)), (2, (tm 25))]) 26,
  oA 27 (.move (tm 6)) 3,
  oA 28 (.binOp .add 3 (tm 27) (ci 1) 3) 3,
  oN (.store 26 (tm 2) (tm 26)) 0,
  oA 3 (.assign (tm 28)) 3,
  oA 4 (.assign (ci 0)) 39]
def c46_29 : AC := .region o46_29 []
def c46_30 : AC := .ret
def c46_28 : AC := .seq c46_29 c46_30
def c46_20 : AC := .seq c46_21 c46_28
abbrev o46_32 : List AO := [oA 30 (.move (tm 0)) 9,
  oA 31 (.move (tm 6)) 3,
  oA 32 (.index 9 (tm 30) (tm 31)) 5,
  oA 33 (.binOp .eql 5 (tm 32) (.const (.int .u8 92)) 5) 4,
  oA 29 (.assign (tm 33)) 4]
def c46_32 : AC := .region o46_32 []
abbrev o46_35 : List AO := [oA 35 (.move (tm 0)) 9,
  oA 36 (.move (tm 6)) 3,
  oA 37 (.binOp .add 3 (tm 36) (ci 1) 3) 3,
  oA 38 (cF 64 #[(tm 35), (tm 37)] #[9, 3]) 115,
  oA 34 (.move (tm 38)) 115,
  oA 39 (.extract (tm 34) 0) 5,
  oA 40 (.extract (tm 34) 1) 39,
  oA 7 (.assign (tm 39)) 5,
  oA 8 (.assign (tm 40)) 39]
def c46_35 : AC := .region o46_35 []
abbrev o46_38 : List AO := [oA 41 (.move (tm 8)) 39,
  oA 42 (.binOp .neq 39 (tm 41) (ci 0) 39) 4]
def c46_38 : AC := .region o46_38 []
abbrev o46_41 : List AO := [oA 43 (.build 26 #[]) 26,
  oA 44 (.move (tm 8)) 39,
  oN (.store 26 (tm 2) (tm 43)) 0,
  oA 3 (.assign (ci 0)) 3,
  oA 4 (.assign (tm 44)) 39]
def c46_41 : AC := .region o46_41 []
def c46_42 : AC := .ret
def c46_40 : AC := .seq c46_41 c46_42
def c46_43 : AC := .skip
def c46_39 : AC := .cond (tm 42) c46_40 c46_43
def c46_37 : AC := .seq c46_38 c46_39
abbrev o46_45 : List AO := [oA 45 (.move (tm 5)) 114,
  oA 46 (.move (tm 7)) 5,
  oA 47 (.buildSlice 114 1 #[(0, (tm 46))]) 114,
  oA 48 (cB .append #[(tm 45), (tm 47)] #[114, 114]) 114,
  oA 5 (.assign (tm 48)) 114]
def c46_45 : AC := .region o46_45 []
abbrev o46_47 : List AO := [oA 49 (.move (tm 6)) 3,
  oA 50 (.binOp .add 3 (tm 49) (ci 3) 3) 3,
  oA 6 (.assign (tm 50)) 3]
def c46_47 : AC := .region o46_47 []
def c46_48 : AC := .goto 0
def c46_46 : AC := .seq c46_47 c46_48
def c46_44 : AC := .seq c46_45 c46_46
def c46_36 : AC := .seq c46_37 c46_44
def c46_34 : AC := .seq c46_35 c46_36
abbrev o46_50 : List AO := [oA 52 (.move (tm 0)) 9,
  oA 53 (.move (tm 6)) 3,
  oA 54 (.index 9 (tm 52) (tm 53)) 5,
  oA 55 (cF 65 #[(tm 54)] #[5]) 4,
  oA 56 (.unOp .not 4 (tm 55)) 4,
  oA 51 (.assign (tm 56)) 4]
def c46_50 : AC := .region o46_50 []
abbrev o46_53 : List AO := [oA 57 (.build 26 #[]) 26,
  oN (.store 26 (tm 2) (tm 57)) 0,
  oA 3 (.assign (ci 0)) 3,
  oA 4 (.assign (ci 6)) 39]
def c46_53 : AC := .region o46_53 []
def c46_54 : AC := .ret
def c46_52 : AC := .seq c46_53 c46_54
def c46_55 : AC := .skip
def c46_51 : AC := .cond (tm 51) c46_52 c46_55
def c46_49 : AC := .seq c46_50 c46_51
def c46_33 : AC := .cond (tm 29) c46_34 c46_49
def c46_31 : AC := .seq c46_32 c46_33
def c46_19 : AC := .cond (tm 15) c46_20 c46_31
def c46_17 : AC := .seq c46_18 c46_19
def c46_13 : AC := .cond (tm 9) c46_14 c46_17
def c46_11 : AC := .seq c46_12 c46_13
def c46_10 : AC := .block 0 c46_11
abbrev o46_57 : List AO := [oA 58 (.move (tm 5)) 114,
  oA 59 (.move (tm 0)) 9,
  oA 60 (.move (tm 6)) 3,
  oA 61 (.index 9 (tm 59) (tm 60)) 5,
  oA 62 (.buildSlice 114 1 #[(0, (tm 61))]) 114,
  oA 63 (cB .append #[(tm 58), (tm 62)] #[114, 114]) 114,
  oA 5 (.assign (tm 63)) 114]
def c46_57 : AC := .region o46_57 []
abbrev o46_59 : List AO := [oA 64 (.move (tm 6)) 3,
  oA 65 (.binOp .add 3 (tm 64) (ci 1) 3) 3,
  oA 6 (.assign (tm 65)) 3]
def c46_59 : AC := .region o46_59 []
def c46_60 : AC := .goto 0
def c46_58 : AC := .seq c46_59 c46_60
def c46_56 : AC := .seq c46_57 c46_58
def c46_9 : AC := .seq c46_10 c46_56
def c46_7 : AC := .seq c46_8 c46_9
def c46_5 : AC := .seq c46_6 c46_7
def c46_3 : AC := .seq c46_4 c46_5
def c46_2 : AC := .scope c46_3
def c46_0 : AC := .seq c46_1 c46_2
theorem r46_0 : SeqR Cx 46 c46_0 c46_1 c46_2 ∧ RegR Cx 46 c46_1 o46_1 ∧ ScopeR Cx 46 c46_2 c46_3 ∧ SeqR Cx 46 c46_3 c46_4 c46_5 ∧ RegR Cx 46 c46_4 o46_4 ∧ SeqR Cx 46 c46_5 c46_6 c46_7 ∧ RegR Cx 46 c46_6 o46_6 ∧ SeqR Cx 46 c46_7 c46_8 c46_9 := ⟨run_seq, run_region, run_scope, run_seq, run_region, run_seq, run_region, run_seq⟩
theorem r46_1 : SkipR Cx 46 c46_8 ∧ SeqR Cx 46 c46_9 c46_10 c46_56 ∧ BlkR Cx 46 c46_10 0 c46_11 ∧ SeqR Cx 46 c46_11 c46_12 c46_13 ∧ RegR Cx 46 c46_12 o46_12 ∧ CondR Cx 46 c46_13 (tm 9) c46_14 c46_17 ∧ SeqR Cx 46 c46_14 c46_15 c46_16 ∧ RegR Cx 46 c46_15 o46_15 := ⟨run_label, run_seq, run_block, run_seq, run_region, run_condC, run_seq, run_region⟩
theorem r46_2 : RetR Cx 46 c46_16 ∧ SeqR Cx 46 c46_17 c46_18 c46_19 ∧ RegR Cx 46 c46_18 o46_18 ∧ CondR Cx 46 c46_19 (tm 15) c46_20 c46_31 ∧ SeqR Cx 46 c46_20 c46_21 c46_28 ∧ SeqR Cx 46 c46_21 c46_22 c46_23 ∧ RegR Cx 46 c46_22 o46_22 ∧ CondR Cx 46 c46_23 (tm 22) c46_24 c46_27 := ⟨run_ret, run_seq, run_region, run_condC, run_seq, run_seq, run_region, run_condC⟩
theorem r46_3 : SeqR Cx 46 c46_24 c46_25 c46_26 ∧ RegR Cx 46 c46_25 o46_25 ∧ RetR Cx 46 c46_26 ∧ SkipR Cx 46 c46_27 ∧ SeqR Cx 46 c46_28 c46_29 c46_30 ∧ RegR Cx 46 c46_29 o46_29 ∧ RetR Cx 46 c46_30 ∧ SeqR Cx 46 c46_31 c46_32 c46_33 := ⟨run_seq, run_region, run_ret, run_skip, run_seq, run_region, run_ret, run_seq⟩
theorem r46_4 : RegR Cx 46 c46_32 o46_32 ∧ CondR Cx 46 c46_33 (tm 29) c46_34 c46_49 ∧ SeqR Cx 46 c46_34 c46_35 c46_36 ∧ RegR Cx 46 c46_35 o46_35 ∧ SeqR Cx 46 c46_36 c46_37 c46_44 ∧ SeqR Cx 46 c46_37 c46_38 c46_39 ∧ RegR Cx 46 c46_38 o46_38 ∧ CondR Cx 46 c46_39 (tm 42) c46_40 c46_43 := ⟨run_region, run_condC, run_seq, run_region, run_seq, run_seq, run_region, run_condC⟩
theorem r46_5 : SeqR Cx 46 c46_40 c46_41 c46_42 ∧ RegR Cx 46 c46_41 o46_41 ∧ RetR Cx 46 c46_42 ∧ SkipR Cx 46 c46_43 ∧ SeqR Cx 46 c46_44 c46_45 c46_46 ∧ RegR Cx 46 c46_45 o46_45 ∧ SeqR Cx 46 c46_46 c46_47 c46_48 ∧ RegR Cx 46 c46_47 o46_47 := ⟨run_seq, run_region, run_ret, run_skip, run_seq, run_region, run_seq, run_region⟩
theorem r46_6 : SeqR Cx 46 c46_49 c46_50 c46_51 ∧ RegR Cx 46 c46_50 o46_50 ∧ CondR Cx 46 c46_51 (tm 51) c46_52 c46_55 ∧ SeqR Cx 46 c46_52 c46_53 c46_54 ∧ RegR Cx 46 c46_53 o46_53 ∧ RetR Cx 46 c46_54 ∧ SkipR Cx 46 c46_55 ∧ SeqR Cx 46 c46_56 c46_57 c46_58 := ⟨run_seq, run_region, run_condC, run_seq, run_region, run_ret, run_skip, run_seq⟩
theorem r46_7 : RegR Cx 46 c46_57 o46_57 ∧ SeqR Cx 46 c46_58 c46_59 c46_60 ∧ RegR Cx 46 c46_59 o46_59 := ⟨run_region, run_seq, run_region⟩
theorem body46 : bodyOf Cx 46 = some c46_0 := by kernel_rfl
theorem res46 : resOf Cx 46 = some [.cell 2 26, .tmp 3, .tmp 4] := by kernel_rfl
theorem pure46 : Cx.pure 46 = true := by kernel_rfl
abbrev o47_1 : List AO := [oA 2 (.assign (.const (.bool false))) 4]
def c47_1 : AC := .region o47_1 []
abbrev o47_3 : List AO := [oA 3 (.move (tm 0)) 5,
  oA 4 (.binOp .geq 5 (tm 3) (.const (.int .u8 48)) 5) 4,
  oA 5 (.move (tm 4)) 4,
  oG 6 (.move (tm 0)) 5 5 true,
  oG 7 (.binOp .leq 5 (tm 6) (.const (.int .u8 57)) 5) 4 5 true,
  oA 8 (.pick (tm 5) (tm 7) (.const (.bool false))) 4,
  oA 2 (.assign (tm 8)) 4]
def c47_3 : AC := .region o47_3 []
def c47_4 : AC := .ret
def c47_2 : AC := .seq c47_3 c47_4
def c47_0 : AC := .seq c47_1 c47_2
theorem r47_0 : SeqR Cx 47 c47_0 c47_1 c47_2 ∧ RegR Cx 47 c47_1 o47_1 ∧ SeqR Cx 47 c47_2 c47_3 c47_4 ∧ RegR Cx 47 c47_3 o47_3 ∧ RetR Cx 47 c47_4 := ⟨run_seq, run_region, run_seq, run_region, run_ret⟩
theorem body47 : bodyOf Cx 47 = some c47_0 := by kernel_rfl
theorem res47 : resOf Cx 47 = some [.tmp 2] := by kernel_rfl
theorem pure47 : Cx.pure 47 = true := by kernel_rfl
abbrev o48_1 : List AO := [oA 2 (.alloc 26) 0,
  oA 3 (.assign (ci 0)) 3,
  oA 4 (.assign (ci 0)) 39]
def c48_1 : AC := .region o48_1 []
abbrev o48_3 : List AO := [oA 13 (.move (tm 0)) 9,
  oA 14 (cF 66 #[(tm 13), (ci 0)] #[9, 3]) 117,
  oA 12 (.move (tm 14)) 117,
  oA 15 (.extract (tm 12) 0) 3,
  oA 16 (.extract (tm 12) 1) 3,
  oA 17 (.extract (tm 12) 2) 39,
  oA 5 (.assign (tm 15)) 3,
  oA 6 (.assign (tm 16)) 3,
  oA 7 (.assign (tm 17)) 39]
def c48_3 : AC := .region o48_3 []
abbrev o48_6 : List AO := [oA 18 (.move (tm 7)) 39,
  oA 19 (.binOp .neq 39 (tm 18) (ci 0) 39) 4]
def c48_6 : AC := .region o48_6 []
abbrev o48_9 : List AO := [oA 20 (.build 26 #[]) 26,
  oA 21 (.move (tm 7)) 39,
  oN (.store 26 (tm 2) (tm 20)) 0,
  oA 3 (.assign (ci 0)) 3,
  oA 4 (.assign (tm 21)) 39]
def c48_9 : AC := .region o48_9 []
def c48_10 : AC := .ret
def c48_8 : AC := .seq c48_9 c48_10
def c48_11 : AC := .skip
def c48_7 : AC := .cond (tm 19) c48_8 c48_11
def c48_5 : AC := .seq c48_6 c48_7
abbrev o48_13 : List AO := [oA 22 (.move (tm 5)) 3,
  oA 23 (.build 26 #[(1, (tm 22))]) 26,
  oA 8 (.alloc 26) 0,
  oN (.store 26 (tm 8) (tm 23)) 0]
def c48_13 : AC := .region o48_13 []
abbrev o48_16 : List AO := [oA 24 (.move (tm 6)) 3,
  oA 25 (.move (tm 0)) 9,
  oA 26 (cB .len #[(tm 25)] #[9]) 3,
  oA 27 (.binOp .lss 3 (tm 24) (tm 26) 3) 4,
  oA 28 (.move (tm 27)) 4,
  oG 29 (.move (tm 0)) 9 28 true,
  oG 30 (.move (tm 6)) 3 28 true,
  oG 31 (.index 9 (tm 29) (tm 30)) 5 28 true,
  oG 32 (.binOp .eql 5 (tm 31) (.const (.int .u8 58)) 5) 4 28 true,
  oA 33 (.pick (tm 28) (tm 32) (.const (.bool false))) 4]
def c48_16 : AC := .region o48_16 []
abbrev o48_19 : List AO := [oA 35 (.move (tm 0)) 9,
  oA 36 (.move (tm 6)) 3,
  oA 37 (.binOp .add 3 (tm 36) (ci 1) 3) 3,
  oA 38 (cF 66 #[(tm 35), (tm 37)] #[9, 3]) 117,
  oA 34 (.move (tm 38)) 117,
  oA 39 (.extract (tm 34) 0) 3,
  oA 40 (.extract (tm 34) 1) 3,
  oA 41 (.extract (tm 34) 2) 39,
  oA 9 (.assign (tm 39)) 3,
  oA 10 (.assign (tm 40)) 3,
  oA 11 (.assign (tm 41)) 39]
def c48_19 : AC := .region o48_19 []
abbrev o48_22 : List AO := [oA 42 (.move (tm 11)) 39,
  oA 43 (.binOp .neq 39 (tm 42) (ci 0) 39) 4]
def c48_22 : AC := .region o48_22 []
abbrev o48_25 : List AO := [oA 44 (.build 26 #[]) 26,
  oA 45 (.move (tm 11)) 39,
  oN (.store 26 (tm 2) (tm 44)) 0,
  oA 3 (.assign (ci 0)) 3,
  oA 4 (.assign (tm 45)) 39]
def c48_25 : AC := .region o48_25 []
def c48_26 : AC := .ret
def c48_24 : AC := .seq c48_25 c48_26
def c48_27 : AC := .skip
def c48_23 : AC := .cond (tm 43) c48_24 c48_27
def c48_21 : AC := .seq c48_22 c48_23
abbrev o48_28 : List AO := [oA 46 (.move (tm 5)) 3,
  oA 47 (.move (tm 9)) 3,
  oA 48 (.build 24 #[(0, (tm 46)), (1, (tm 47))]) 24,
  oA 49 (.build 26 #[(0, (ci 2)), (3, (tm 48))]) 26,
  oA 50 (.move (tm 10)) 3,
  oN (.store 26 (tm 8) (tm 49)) 0,
  oA 6 (.assign (tm 50)) 3]
def c48_28 : AC := .region o48_28 []
def c48_20 : AC := .seq c48_21 c48_28
def c48_18 : AC := .seq c48_19 c48_20
def c48_29 : AC := .skip
def c48_17 : AC := .cond (tm 33) c48_18 c48_29
def c48_15 : AC := .seq c48_16 c48_17
abbrev o48_32 : List AO := [oA 51 (.load 26 (tm 8)) 26,
  oA 52 (cF 16 #[(tm 51)] #[26]) 4,
  oA 53 (.unOp .not 4 (tm 52)) 4]
def c48_32 : AC := .region o48_32 []
abbrev o48_35 : List AO := [oA 54 (.build 26 #[]) 26,
  oN (.store 26 (tm 2) (tm 54)) 0,
  oA 3 (.assign (ci 0)) 3,
  oA 4 (.assign (ci 14)) 39]
def c48_35 : AC := .region o48_35 []
def c48_36 : AC := .ret
def c48_34 : AC := .seq c48_35 c48_36
def c48_37 : AC := .skip
def c48_33 : AC := .cond (tm 53) c48_34 c48_37
def c48_31 : AC := .seq c48_32 c48_33
abbrev o48_39 : List AO := [oA 55 (.load 26 (tm 8)) 26,
  oA 56 (.move (tm 6)) 3,
  oN (.store 26 (tm 2) (tm 55)) 0,
  oA 3 (.assign (tm 56)) 3,
  oA 4 (.assign (ci 0)) 39]
def c48_39 : AC := .region o48_39 []
def c48_40 : AC := .ret
def c48_38 : AC := .seq c48_39 c48_40
def c48_30 : AC := .seq c48_31 c48_38
def c48_14 : AC := .seq c48_15 c48_30
def c48_12 : AC := .seq c48_13 c48_14
def c48_4 : AC := .seq c48_5 c48_12
def c48_2 : AC := .seq c48_3 c48_4
def c48_0 : AC := .seq c48_1 c48_2
theorem r48_0 : SeqR Cx 48 c48_0 c48_1 c48_2 ∧ RegR Cx 48 c48_1 o48_1 ∧ SeqR Cx 48 c48_2 c48_3 c48_4 ∧ RegR Cx 48 c48_3 o48_3 ∧ SeqR Cx 48 c48_4 c48_5 c48_12 ∧ SeqR Cx 48 c48_5 c48_6 c48_7 ∧ RegR Cx 48 c48_6 o48_6 ∧ CondR Cx 48 c48_7 (tm 19) c48_8 c48_11 := ⟨run_seq, run_region, run_seq, run_region, run_seq, run_seq, run_region, run_condC⟩
theorem r48_1 : SeqR Cx 48 c48_8 c48_9 c48_10 ∧ RegR Cx 48 c48_9 o48_9 ∧ RetR Cx 48 c48_10 ∧ SkipR Cx 48 c48_11 ∧ SeqR Cx 48 c48_12 c48_13 c48_14 ∧ RegR Cx 48 c48_13 o48_13 ∧ SeqR Cx 48 c48_14 c48_15 c48_30 ∧ SeqR Cx 48 c48_15 c48_16 c48_17 := ⟨run_seq, run_region, run_ret, run_skip, run_seq, run_region, run_seq, run_seq⟩
theorem r48_2 : RegR Cx 48 c48_16 o48_16 ∧ CondR Cx 48 c48_17 (tm 33) c48_18 c48_29 ∧ SeqR Cx 48 c48_18 c48_19 c48_20 ∧ RegR Cx 48 c48_19 o48_19 ∧ SeqR Cx 48 c48_20 c48_21 c48_28 ∧ SeqR Cx 48 c48_21 c48_22 c48_23 ∧ RegR Cx 48 c48_22 o48_22 ∧ CondR Cx 48 c48_23 (tm 43) c48_24 c48_27 := ⟨run_region, run_condC, run_seq, run_region, run_seq, run_seq, run_region, run_condC⟩
theorem r48_3 : SeqR Cx 48 c48_24 c48_25 c48_26 ∧ RegR Cx 48 c48_25 o48_25 ∧ RetR Cx 48 c48_26 ∧ SkipR Cx 48 c48_27 ∧ RegR Cx 48 c48_28 o48_28 ∧ SkipR Cx 48 c48_29 ∧ SeqR Cx 48 c48_30 c48_31 c48_38 ∧ SeqR Cx 48 c48_31 c48_32 c48_33 := ⟨run_seq, run_region, run_ret, run_skip, run_region, run_skip, run_seq, run_seq⟩
theorem r48_4 : RegR Cx 48 c48_32 o48_32 ∧ CondR Cx 48 c48_33 (tm 53) c48_34 c48_37 ∧ SeqR Cx 48 c48_34 c48_35 c48_36 ∧ RegR Cx 48 c48_35 o48_35 ∧ RetR Cx 48 c48_36 ∧ SkipR Cx 48 c48_37 ∧ SeqR Cx 48 c48_38 c48_39 c48_40 ∧ RegR Cx 48 c48_39 o48_39 := ⟨run_region, run_condC, run_seq, run_region, run_ret, run_skip, run_seq, run_region⟩
theorem r48_5 : RetR Cx 48 c48_40 := run_ret
theorem body48 : bodyOf Cx 48 = some c48_0 := by kernel_rfl
theorem res48 : resOf Cx 48 = some [.cell 2 26, .tmp 3, .tmp 4] := by kernel_rfl
theorem pure48 : Cx.pure 48 = true := by kernel_rfl
abbrev o49_0 : List AO := [oA 2 (.load 60 (tm 1)) 60,
  oA 3 (.load 3 (tm 0)) 3,
  oA 4 (.nilCheck (tm 2)) 0,
  oA 5 (.fieldAddr 64 (tm 4) 3) 0,
  oN (.store 3 (tm 5) (tm 3)) 0]
def c49_0 : AC := .region o49_0 []
theorem r49_0 : RegR Cx 49 c49_0 o49_0 := run_region
theorem body49 : bodyOf Cx 49 = some c49_0 := by kernel_rfl
theorem res49 : resOf Cx 49 = some [] := by kernel_rfl
abbrev o50_1 : List AO := [oA 6 (.box 24 (tm 2)) 0,
  oA 7 (.box 24 (tm 3)) 0,
  oA 8 (.alloc 26) 0]
def c50_1 : AC := .region o50_1 []
abbrev o50_4 : List AO := [oA 12 (.move (tm 1)) 9]
def c50_4 : AC := .region o50_4 []
abbrev o50_7 : List AO := [oA 14 (.binOp .eql 9 (tm 12) (.const (.string ⟨#[97, 100, 100]⟩)) 9) 4,
  oA 13 (.assign (tm 14)) 4]
def c50_7 : AC := .region o50_7 []
abbrev o50_10 : List AO := [oA 15 (.move (tm 0)) 60,
  oA 16 (.load 24 (tm 6)) 24,
  oA 17 (.load 24 (tm 7)) 24,
  oA 18 (cF 67 #[(tm 16), (tm 17)] #[24, 24]) 109,
  oA 19 (.extract (tm 18) 0) 24,
  oA 20 (.extract (tm 18) 1) 39,
  oA 21 (cF 59 #[(tm 15), (tm 19), (tm 20)] #[60, 24, 39]) 26,
  oN (.store 26 (tm 8) (tm 21)) 0]
def c50_10 : AC := .region o50_10 []
def c50_11 : AC := .ret
def c50_9 : AC := .seq c50_10 c50_11
abbrev o50_13 : List AO := [oA 23 (.binOp .eql 9 (tm 12) (.const (.string ⟨#[115, 117, 98]⟩)) 9) 4,
  oA 22 (.assign (tm 23)) 4]
def c50_13 : AC := .region o50_13 []
abbrev o50_16 : List AO := [oA 24 (.move (tm 0)) 60,
  oA 25 (.load 24 (tm 6)) 24,
  oA 26 (.load 24 (tm 7)) 24,
  oA 27 (cF 68 #[(tm 25), (tm 26)] #[24, 24]) 109,
  oA 28 (.extract (tm 27) 0) 24,
  oA 29 (.extract (tm 27) 1) 39,
  oA 30 (cF 59 #[(tm 24), (tm 28), (tm 29)] #[60, 24, 39]) 26,
  oN (.store 26 (tm 8) (tm 30)) 0]
def c50_16 : AC := .region o50_16 []
def c50_17 : AC := .ret
def c50_15 : AC := .seq c50_16 c50_17
abbrev o50_19 : List AO := [oA 32 (.binOp .eql 9 (tm 12) (.const (.string ⟨#[109, 117, 108]⟩)) 9) 4,
  oA 31 (.assign (tm 32)) 4]
def c50_19 : AC := .region o50_19 []
abbrev o50_22 : List AO := [oA 33 (.move (tm 0)) 60,
  oA 34 (.load 24 (tm 6)) 24,
  oA 35 (.load 24 (tm 7)) 24,
  oA 36 (cF 69 #[(tm 34), (tm 35)] #[24, 24]) 109,
  oA 37 (.extract (tm 36) 0) 24,
  oA 38 (.extract (tm 36) 1) 39,
  oA 39 (cF 59 #[(tm 33), (tm 37), (tm 38)] #[60, 24, 39]) 26,
  oN (.store 26 (tm 8) (tm 39)) 0]
def c50_22 : AC := .region o50_22 []
def c50_23 : AC := .ret
def c50_21 : AC := .seq c50_22 c50_23
def c50_24 : AC := .skip
def c50_20 : AC := .cond (tm 31) c50_21 c50_24
def c50_18 : AC := .seq c50_19 c50_20
def c50_14 : AC := .cond (tm 22) c50_15 c50_18
def c50_12 : AC := .seq c50_13 c50_14
def c50_8 : AC := .cond (tm 13) c50_9 c50_12
def c50_6 : AC := .seq c50_7 c50_8
def c50_5 : AC := .block 0 c50_6
def c50_3 : AC := .seq c50_4 c50_5
abbrev o50_26 : List AO := [oA 41 (.load 24 (tm 6)) 24,
  oA 42 (.load 24 (tm 7)) 24,
  oA 43 (cF 70 #[(tm 41), (tm 42)] #[24, 24]) 120,
  oA 40 (.move (tm 43)) 120,
  oA 44 (.extract (tm 40) 0) 24,
  oA 45 (.extract (tm 40) 1) 24,
  oA 46 (.extract (tm 40) 2) 39,
  oA 9 (.alloc 24) 0,
  oA 10 (.alloc 24) 0,
  oN (.store 24 (tm 9) (tm 44)) 0,
  oN (.store 24 (tm 10) (tm 45)) 0,
  oA 11 (.assign (tm 46)) 39]
def c50_26 : AC := .region o50_26 []
abbrev o50_29 : List AO := [oA 47 (.move (tm 1)) 9,
  oA 48 (.binOp .eql 9 (tm 47) (.const (.string ⟨#[109, 111, 100]⟩)) 9) 4]
def c50_29 : AC := .region o50_29 []
abbrev o50_32 : List AO := [oA 49 (.move (tm 0)) 60,
  oA 50 (.load 24 (tm 10)) 24,
  oA 51 (.move (tm 11)) 39,
  oA 52 (cF 59 #[(tm 49), (tm 50), (tm 51)] #[60, 24, 39]) 26,
  oN (.store 26 (tm 8) (tm 52)) 0]
def c50_32 : AC := .region o50_32 []
def c50_33 : AC := .ret
def c50_31 : AC := .seq c50_32 c50_33
def c50_34 : AC := .skip
def c50_30 : AC := .cond (tm 48) c50_31 c50_34
def c50_28 : AC := .seq c50_29 c50_30
abbrev o50_36 : List AO := [oA 53 (.move (tm 0)) 60,
  oA 54 (.load 24 (tm 9)) 24,
  oA 55 (.move (tm 11)) 39,
  oA 56 (cF 59 #[(tm 53), (tm 54), (tm 55)] #[60, 24, 39]) 26,
  oN (.store 26 (tm 8) (tm 56)) 0]
def c50_36 : AC := .region o50_36 []
def c50_37 : AC := .ret
def c50_35 : AC := .seq c50_36 c50_37
def c50_27 : AC := .seq c50_28 c50_35
def c50_25 : AC := .seq c50_26 c50_27
def c50_2 : AC := .seq c50_3 c50_25
def c50_0 : AC := .seq c50_1 c50_2
theorem r50_0 : SeqR Cx 50 c50_0 c50_1 c50_2 ∧ RegR Cx 50 c50_1 o50_1 ∧ SeqR Cx 50 c50_2 c50_3 c50_25 ∧ SeqR Cx 50 c50_3 c50_4 c50_5 ∧ RegR Cx 50 c50_4 o50_4 ∧ BlkR Cx 50 c50_5 0 c50_6 ∧ SeqR Cx 50 c50_6 c50_7 c50_8 ∧ RegR Cx 50 c50_7 o50_7 := ⟨run_seq, run_region, run_seq, run_seq, run_region, run_block, run_seq, run_region⟩
theorem r50_1 : CondR Cx 50 c50_8 (tm 13) c50_9 c50_12 ∧ SeqR Cx 50 c50_9 c50_10 c50_11 ∧ RegR Cx 50 c50_10 o50_10 ∧ RetR Cx 50 c50_11 ∧ SeqR Cx 50 c50_12 c50_13 c50_14 ∧ RegR Cx 50 c50_13 o50_13 ∧ CondR Cx 50 c50_14 (tm 22) c50_15 c50_18 ∧ SeqR Cx 50 c50_15 c50_16 c50_17 := ⟨run_condC, run_seq, run_region, run_ret, run_seq, run_region, run_condC, run_seq⟩
theorem r50_2 : RegR Cx 50 c50_16 o50_16 ∧ RetR Cx 50 c50_17 ∧ SeqR Cx 50 c50_18 c50_19 c50_20 ∧ RegR Cx 50 c50_19 o50_19 ∧ CondR Cx 50 c50_20 (tm 31) c50_21 c50_24 ∧ SeqR Cx 50 c50_21 c50_22 c50_23 ∧ RegR Cx 50 c50_22 o50_22 ∧ RetR Cx 50 c50_23 := ⟨run_region, run_ret, run_seq, run_region, run_condC, run_seq, run_region, run_ret⟩
theorem r50_3 : SkipR Cx 50 c50_24 ∧ SeqR Cx 50 c50_25 c50_26 c50_27 ∧ RegR Cx 50 c50_26 o50_26 ∧ SeqR Cx 50 c50_27 c50_28 c50_35 ∧ SeqR Cx 50 c50_28 c50_29 c50_30 ∧ RegR Cx 50 c50_29 o50_29 ∧ CondR Cx 50 c50_30 (tm 48) c50_31 c50_34 ∧ SeqR Cx 50 c50_31 c50_32 c50_33 := ⟨run_skip, run_seq, run_region, run_seq, run_seq, run_region, run_condC, run_seq⟩
theorem r50_4 : RegR Cx 50 c50_32 o50_32 ∧ RetR Cx 50 c50_33 ∧ SkipR Cx 50 c50_34 ∧ SeqR Cx 50 c50_35 c50_36 c50_37 ∧ RegR Cx 50 c50_36 o50_36 ∧ RetR Cx 50 c50_37 := ⟨run_region, run_ret, run_skip, run_seq, run_region, run_ret⟩
theorem body50 : bodyOf Cx 50 = some c50_0 := by kernel_rfl
theorem res50 : resOf Cx 50 = some [.cell 8 26] := by kernel_rfl
theorem pure50 : Cx.pure 50 = false := by kernel_rfl
abbrev o51_1 : List AO := [oA 6 (.assign (.const (.bool false))) 4]
def c51_1 : AC := .region o51_1 []
abbrev o51_4 : List AO := [oA 9 (.move (tm 2)) 77,
  oA 10 (cB .len #[(tm 9)] #[77]) 3,
  oA 11 (.move (ci 0)) 3]
def c51_4 : AC := .region o51_4 []
abbrev o51_8 : List AO := [oA 12 (.binOp .lss 3 (tm 11) (tm 10) 3) 0]
def c51_8 : AC := .region o51_8 []
def c51_11 : AC := .skip
def c51_12 : AC := .exit 0
def c51_10 : AC := .cond (tm 12) c51_11 c51_12
abbrev o51_16 : List AO := [oA 13 (.move (tm 11)) 3,
  oA 14 (.indexAddr 77 (tm 9) (tm 11)) 0,
  oA 15 (.load 26 (tm 14)) 26,
  oA 8 (.alloc 26) 0,
  oA 7 (.assign (tm 13)) 3,
  oN (.store 26 (tm 8) (tm 15)) 0]
def c51_16 : AC := .region o51_16 []
abbrev o51_18 : List AO := [oA 16 (.fieldAddr 26 (tm 8) 0) 0,
  oA 17 (.load 3 (tm 16)) 3,
  oA 18 (.index 9 (.const (.string ⟨#[110, 115, 112]⟩)) (tm 17)) 5,
  oA 19 (.move (tm 1)) 9,
  oA 20 (.move (tm 7)) 3,
  oA 21 (.index 9 (tm 19) (tm 20)) 5,
  oA 22 (.binOp .neq 5 (tm 18) (tm 21) 5) 4]
def c51_18 : AC := .region o51_18 []
abbrev o51_21 : List AO := [oA 23 (.move (tm 0)) 60,
  oA 24 (cF 25 #[(tm 23), (ci 13)] #[60, 39]) 26]
def c51_21 : AC := .region o51_21 []
abbrev o51_23 : List AO := [oA 6 (.assign (.const (.bool false))) 4]
def c51_23 : AC := .region o51_23 []
def c51_24 : AC := .ret
def c51_22 : AC := .seq c51_23 c51_24
def c51_20 : AC := .seq c51_21 c51_22
def c51_25 : AC := .skip
def c51_19 : AC := .cond (tm 22) c51_20 c51_25
def c51_17 : AC := .seq c51_18 c51_19
def c51_15 : AC := .seq c51_16 c51_17
def c51_14 : AC := .block 1 c51_15
abbrev o51_26 : List AO := [oA 25 (.binOp .add 3 (tm 11) (ci 1) 3) 3,
  oA 11 (.move (tm 25)) 3]
def c51_26 : AC := .region o51_26 []
def c51_13 : AC := .seq c51_14 c51_26
def c51_9 : AC := .seq c51_10 c51_13
def c51_7 : AC := .seq c51_8 c51_9
def c51_6 : AC := .loop c51_7
def c51_5 : AC := .block 0 c51_6
def c51_3 : AC := .seq c51_4 c51_5
abbrev o51_28 : List AO := [oA 6 (.assign (.const (.bool true))) 4]
def c51_28 : AC := .region o51_28 []
def c51_29 : AC := .ret
def c51_27 : AC := .seq c51_28 c51_29
def c51_2 : AC := .seq c51_3 c51_27
def c51_0 : AC := .seq c51_1 c51_2
theorem r51_0 : SeqR Cx 51 c51_0 c51_1 c51_2 ∧ RegR Cx 51 c51_1 o51_1 ∧ SeqR Cx 51 c51_2 c51_3 c51_27 ∧ SeqR Cx 51 c51_3 c51_4 c51_5 ∧ RegR Cx 51 c51_4 o51_4 ∧ BlkR Cx 51 c51_5 0 c51_6 ∧ LoopR Cx 51 c51_6 c51_7 ∧ SeqR Cx 51 c51_7 c51_8 c51_9 := ⟨run_seq, run_region, run_seq, run_seq, run_region, run_block, run_loop', run_seq⟩
theorem r51_1 : RegR Cx 51 c51_8 o51_8 ∧ SeqR Cx 51 c51_9 c51_10 c51_13 ∧ CondR Cx 51 c51_10 (tm 12) c51_11 c51_12 ∧ SkipR Cx 51 c51_11 ∧ ExitR Cx 51 c51_12 0 ∧ SeqR Cx 51 c51_13 c51_14 c51_26 ∧ BlkR Cx 51 c51_14 1 c51_15 ∧ SeqR Cx 51 c51_15 c51_16 c51_17 := ⟨run_region, run_seq, run_condC, run_skip, run_exit_start, run_seq, run_block, run_seq⟩
theorem r51_2 : RegR Cx 51 c51_16 o51_16 ∧ SeqR Cx 51 c51_17 c51_18 c51_19 ∧ RegR Cx 51 c51_18 o51_18 ∧ CondR Cx 51 c51_19 (tm 22) c51_20 c51_25 ∧ SeqR Cx 51 c51_20 c51_21 c51_22 ∧ RegR Cx 51 c51_21 o51_21 ∧ SeqR Cx 51 c51_22 c51_23 c51_24 ∧ RegR Cx 51 c51_23 o51_23 := ⟨run_region, run_seq, run_region, run_condC, run_seq, run_region, run_seq, run_region⟩
theorem r51_3 : RetR Cx 51 c51_24 ∧ SkipR Cx 51 c51_25 ∧ RegR Cx 51 c51_26 o51_26 ∧ SeqR Cx 51 c51_27 c51_28 c51_29 ∧ RegR Cx 51 c51_28 o51_28 ∧ RetR Cx 51 c51_29 := ⟨run_ret, run_skip, run_region, run_seq, run_region, run_ret⟩
theorem body51 : bodyOf Cx 51 = some c51_0 := by kernel_rfl
theorem res51 : resOf Cx 51 = some [.tmp 6] := by kernel_rfl
theorem pure51 : Cx.pure 51 = false := by kernel_rfl
abbrev o52_1 : List AO := [oA 3 (.box 26 (tm 1)) 0,
  oA 4 (.alloc 26) 0]
def c52_1 : AC := .region o52_1 []
abbrev o52_4 : List AO := [oA 5 (.load 26 (tm 3)) 26,
  oA 6 (cF 16 #[(tm 5)] #[26]) 4,
  oA 7 (.unOp .not 4 (tm 6)) 4]
def c52_4 : AC := .region o52_4 []
abbrev o52_7 : List AO := [oA 8 (.move (tm 0)) 60,
  oA 9 (cF 25 #[(tm 8), (ci 14)] #[60, 39]) 26,
  oN (.store 26 (tm 4) (tm 9)) 0]
def c52_7 : AC := .region o52_7 []
def c52_8 : AC := .ret
def c52_6 : AC := .seq c52_7 c52_8
def c52_9 : AC := .skip
def c52_5 : AC := .cond (tm 7) c52_6 c52_9
def c52_3 : AC := .seq c52_4 c52_5
abbrev o52_11 : List AO := [oA 10 (.load 26 (tm 3)) 26,
  oN (.store 26 (tm 4) (tm 10)) 0]
def c52_11 : AC := .region o52_11 []
def c52_12 : AC := .ret
def c52_10 : AC := .seq c52_11 c52_12
def c52_2 : AC := .seq c52_3 c52_10
def c52_0 : AC := .seq c52_1 c52_2
theorem r52_0 : SeqR Cx 52 c52_0 c52_1 c52_2 ∧ RegR Cx 52 c52_1 o52_1 ∧ SeqR Cx 52 c52_2 c52_3 c52_10 ∧ SeqR Cx 52 c52_3 c52_4 c52_5 ∧ RegR Cx 52 c52_4 o52_4 ∧ CondR Cx 52 c52_5 (tm 7) c52_6 c52_9 ∧ SeqR Cx 52 c52_6 c52_7 c52_8 ∧ RegR Cx 52 c52_7 o52_7 := ⟨run_seq, run_region, run_seq, run_seq, run_region, run_condC, run_seq, run_region⟩
theorem r52_1 : RetR Cx 52 c52_8 ∧ SkipR Cx 52 c52_9 ∧ SeqR Cx 52 c52_10 c52_11 c52_12 ∧ RegR Cx 52 c52_11 o52_11 ∧ RetR Cx 52 c52_12 := ⟨run_ret, run_skip, run_seq, run_region, run_ret⟩
theorem body52 : bodyOf Cx 52 = some c52_0 := by kernel_rfl
theorem res52 : resOf Cx 52 = some [.cell 4 26] := by kernel_rfl
theorem pure52 : Cx.pure 52 = false := by kernel_rfl
abbrev o53_1 : List AO := [oA 4 (.assign (.const (.bool false))) 4]
def c53_1 : AC := .region o53_1 []
abbrev o53_3 : List AO := [oA 5 (.move (tm 0)) 3,
  oA 6 (.binOp .neq 3 (tm 5) (ci 0) 3) 4,
  oA 7 (.move (tm 6)) 4,
  oG 8 (.move (tm 1)) 3 7 true,
  oG 9 (.move (tm 1)) 3 7 true,
  oG 10 (.unOp .neg 3 (tm 9)) 3 7 true,
  oG 11 (cB .max #[(tm 8), (tm 10)] #[3, 3]) 3 7 true,
  oG 12 (.move (tm 0)) 3 7 true,
  oG 13 (.move (tm 0)) 3 7 true,
  oG 14 (.unOp .neg 3 (tm 13)) 3 7 true,
  oG 15 (cB .max #[(tm 12), (tm 14)] #[3, 3]) 3 7 true,
  oG 16 (.binOp .quo 3 (ci 9007199254740992) (tm 15) 3) 3 7 true,
  oG 17 (.binOp .gtr 3 (tm 11) (tm 16) 3) 4 7 true,
  oA 18 (.pick (tm 7) (tm 17) (.const (.bool false))) 4,
  oA 4 (.assign (tm 18)) 4]
def c53_3 : AC := .region o53_3 []
def c53_4 : AC := .ret
def c53_2 : AC := .seq c53_3 c53_4
def c53_0 : AC := .seq c53_1 c53_2
theorem r53_0 : SeqR Cx 53 c53_0 c53_1 c53_2 ∧ RegR Cx 53 c53_1 o53_1 ∧ SeqR Cx 53 c53_2 c53_3 c53_4 ∧ RegR Cx 53 c53_3 o53_3 ∧ RetR Cx 53 c53_4 := ⟨run_seq, run_region, run_seq, run_region, run_ret⟩
theorem body53 : bodyOf Cx 53 = some c53_0 := by kernel_rfl
theorem res53 : resOf Cx 53 = some [.tmp 4] := by kernel_rfl
theorem pure53 : Cx.pure 53 = true := by kernel_rfl
abbrev o54_1 : List AO := [oA 4 (.assign (ci 0)) 3,
  oA 5 (.assign (ci 0)) 3]
def c54_1 : AC := .region o54_1 []
abbrev o54_3 : List AO := [oA 8 (.move (tm 0)) 3,
  oA 9 (.move (tm 1)) 3,
  oA 10 (.binOp .quo 3 (tm 8) (tm 9) 3) 3,
  oA 11 (.move (tm 0)) 3,
  oA 12 (.move (tm 1)) 3,
  oA 13 (.binOp .rem 3 (tm 11) (tm 12) 3) 3,
  oA 6 (.assign (tm 10)) 3,
  oA 7 (.assign (tm 13)) 3]
def c54_3 : AC := .region o54_3 []
abbrev o54_6 : List AO := [oA 14 (.move (tm 7)) 3,
  oA 15 (.binOp .neq 3 (tm 14) (ci 0) 3) 4,
  oA 16 (.move (tm 15)) 4,
  oG 17 (.move (tm 7)) 3 16 true,
  oG 18 (.binOp .lss 3 (tm 17) (ci 0) 3) 4 16 true,
  oG 19 (.move (tm 1)) 3 16 true,
  oG 20 (.binOp .lss 3 (tm 19) (ci 0) 3) 4 16 true,
  oG 21 (.binOp .neq 4 (tm 18) (tm 20) 4) 4 16 true,
  oA 22 (.pick (tm 16) (tm 21) (.const (.bool false))) 4]
def c54_6 : AC := .region o54_6 []
abbrev o54_8 : List AO := [oA 23 (.move (tm 6)) 3,
  oA 24 (.binOp .sub 3 (tm 23) (ci 1) 3) 3,
  oA 25 (.move (tm 7)) 3,
  oA 26 (.move (tm 1)) 3,
  oA 27 (.binOp .add 3 (tm 25) (tm 26) 3) 3,
  oA 6 (.assign (tm 24)) 3,
  oA 7 (.assign (tm 27)) 3]
def c54_8 : AC := .region o54_8 []
def c54_9 : AC := .skip
def c54_7 : AC := .cond (tm 22) c54_8 c54_9
def c54_5 : AC := .seq c54_6 c54_7
abbrev o54_11 : List AO := [oA 28 (.move (tm 6)) 3,
  oA 29 (.move (tm 7)) 3,
  oA 4 (.assign (tm 28)) 3,
  oA 5 (.assign (tm 29)) 3]
def c54_11 : AC := .region o54_11 []
def c54_12 : AC := .ret
def c54_10 : AC := .seq c54_11 c54_12
def c54_4 : AC := .seq c54_5 c54_10
def c54_2 : AC := .seq c54_3 c54_4
def c54_0 : AC := .seq c54_1 c54_2
theorem r54_0 : SeqR Cx 54 c54_0 c54_1 c54_2 ∧ RegR Cx 54 c54_1 o54_1 ∧ SeqR Cx 54 c54_2 c54_3 c54_4 ∧ RegR Cx 54 c54_3 o54_3 ∧ SeqR Cx 54 c54_4 c54_5 c54_10 ∧ SeqR Cx 54 c54_5 c54_6 c54_7 ∧ RegR Cx 54 c54_6 o54_6 ∧ CondR Cx 54 c54_7 (tm 22) c54_8 c54_9 := ⟨run_seq, run_region, run_seq, run_region, run_seq, run_seq, run_region, run_condC⟩
theorem r54_1 : RegR Cx 54 c54_8 o54_8 ∧ SkipR Cx 54 c54_9 ∧ SeqR Cx 54 c54_10 c54_11 c54_12 ∧ RegR Cx 54 c54_11 o54_11 ∧ RetR Cx 54 c54_12 := ⟨run_region, run_skip, run_seq, run_region, run_ret⟩
theorem body54 : bodyOf Cx 54 = some c54_0 := by kernel_rfl
theorem res54 : resOf Cx 54 = some [.tmp 4, .tmp 5] := by kernel_rfl
theorem pure54 : Cx.pure 54 = true := by kernel_rfl
abbrev o55_1 : List AO := [oA 2 (.box 26 (tm 0)) 0,
  oA 3 (.box 26 (tm 1)) 0,
  oA 4 (.assign (ci 0)) 3]
def c55_1 : AC := .region o55_1 []
abbrev o55_3 : List AO := [oA 5 (.fieldAddr 26 (tm 2) 0) 0,
  oA 6 (.load 3 (tm 5)) 3,
  oA 7 (.fieldAddr 26 (tm 3) 0) 0,
  oA 8 (.load 3 (tm 7)) 3,
  oA 9 (cF 72 #[(tm 6), (tm 8)] #[3, 3]) 3,
  oA 10 (.fieldAddr 26 (tm 2) 1) 0,
  oA 11 (.load 3 (tm 10)) 3,
  oA 12 (.fieldAddr 26 (tm 3) 1) 0,
  oA 13 (.load 3 (tm 12)) 3,
  oA 14 (cF 72 #[(tm 11), (tm 13)] #[3, 3]) 3,
  oA 15 (.fieldAddr 26 (tm 2) 2) 0,
  oA 16 (.load 9 (tm 15)) 9,
  oA 17 (.fieldAddr 26 (tm 3) 2) 0,
  oA 18 (.load 9 (tm 17)) 9,
  oA 19 (cF 73 #[(tm 16), (tm 18)] #[9, 9]) 3,
  oA 20 (.fieldAddr 26 (tm 2) 3) 0,
  oA 21 (.fieldAddr 24 (tm 20) 0) 0,
  oA 22 (.load 3 (tm 21)) 3,
  oA 23 (.fieldAddr 26 (tm 3) 3) 0,
  oA 24 (.fieldAddr 24 (tm 23) 0) 0,
  oA 25 (.load 3 (tm 24)) 3,
  oA 26 (cF 72 #[(tm 22), (tm 25)] #[3, 3]) 3,
  oA 27 (.fieldAddr 26 (tm 2) 3) 0,
  oA 28 (.fieldAddr 24 (tm 27) 1) 0,
  oA 29 (.load 3 (tm 28)) 3,
  oA 30 (.fieldAddr 26 (tm 3) 3) 0,
  oA 31 (.fieldAddr 24 (tm 30) 1) 0,
  oA 32 (.load 3 (tm 31)) 3,
  oA 33 (cF 72 #[(tm 29), (tm 32)] #[3, 3]) 3,
  oA 34 (.buildSlice 55 5 #[(0, (tm 9)), (1, (tm 14)), (2, (tm 19)), (3, (tm 26)), (4, (tm 33))]) 55,
  oA 35 (cF 71 #[(tm 34)] #[55]) 3,
  oA 4 (.assign (tm 35)) 3]
def c55_3 : AC := .region o55_3 []
def c55_4 : AC := .ret
def c55_2 : AC := .seq c55_3 c55_4
def c55_0 : AC := .seq c55_1 c55_2
theorem r55_0 : SeqR Cx 55 c55_0 c55_1 c55_2 ∧ RegR Cx 55 c55_1 o55_1 ∧ SeqR Cx 55 c55_2 c55_3 c55_4 ∧ RegR Cx 55 c55_3 o55_3 ∧ RetR Cx 55 c55_4 := ⟨run_seq, run_region, run_seq, run_region, run_ret⟩
theorem body55 : bodyOf Cx 55 = some c55_0 := by kernel_rfl
theorem res55 : resOf Cx 55 = some [.tmp 4] := by kernel_rfl
theorem pure55 : Cx.pure 55 = true := by kernel_rfl
abbrev o56_1 : List AO := [oA 2 (.alloc 26) 0]
def c56_1 : AC := .region o56_1 []
abbrev o56_4 : List AO := [oA 3 (.move (tm 0)) 4]
def c56_4 : AC := .region o56_4 []
abbrev o56_7 : List AO := [oA 4 (cF 39 #[(ci 1)] #[3]) 26,
  oN (.store 26 (tm 2) (tm 4)) 0]
def c56_7 : AC := .region o56_7 []
def c56_8 : AC := .ret
def c56_6 : AC := .seq c56_7 c56_8
def c56_9 : AC := .skip
def c56_5 : AC := .cond (tm 3) c56_6 c56_9
def c56_3 : AC := .seq c56_4 c56_5
abbrev o56_11 : List AO := [oA 5 (cF 39 #[(ci 0)] #[3]) 26,
  oN (.store 26 (tm 2) (tm 5)) 0]
def c56_11 : AC := .region o56_11 []
def c56_12 : AC := .ret
def c56_10 : AC := .seq c56_11 c56_12
def c56_2 : AC := .seq c56_3 c56_10
def c56_0 : AC := .seq c56_1 c56_2
theorem r56_0 : SeqR Cx 56 c56_0 c56_1 c56_2 ∧ RegR Cx 56 c56_1 o56_1 ∧ SeqR Cx 56 c56_2 c56_3 c56_10 ∧ SeqR Cx 56 c56_3 c56_4 c56_5 ∧ RegR Cx 56 c56_4 o56_4 ∧ CondR Cx 56 c56_5 (tm 3) c56_6 c56_9 ∧ SeqR Cx 56 c56_6 c56_7 c56_8 ∧ RegR Cx 56 c56_7 o56_7 := ⟨run_seq, run_region, run_seq, run_seq, run_region, run_condC, run_seq, run_region⟩
theorem r56_1 : RetR Cx 56 c56_8 ∧ SkipR Cx 56 c56_9 ∧ SeqR Cx 56 c56_10 c56_11 c56_12 ∧ RegR Cx 56 c56_11 o56_11 ∧ RetR Cx 56 c56_12 := ⟨run_ret, run_skip, run_seq, run_region, run_ret⟩
theorem body56 : bodyOf Cx 56 = some c56_0 := by kernel_rfl
theorem res56 : resOf Cx 56 = some [.cell 2 26] := by kernel_rfl
theorem pure56 : Cx.pure 56 = true := by kernel_rfl
abbrev o57_1 : List AO := [oA 2 (.assign (.const (.slice none 0 0))) 88]
def c57_1 : AC := .region o57_1 []
abbrev o57_3 : List AO := [oA 3 (.move (tm 0)) 9,
  oA 4 (cF 74 #[(tm 3), (.func 75)] #[9, 126]) 88,
  oA 2 (.assign (tm 4)) 88]
def c57_3 : AC := .region o57_3 []
def c57_4 : AC := .ret
def c57_2 : AC := .seq c57_3 c57_4
def c57_0 : AC := .seq c57_1 c57_2
theorem r57_0 : SeqR Cx 57 c57_0 c57_1 c57_2 ∧ RegR Cx 57 c57_1 o57_1 ∧ SeqR Cx 57 c57_2 c57_3 c57_4 ∧ RegR Cx 57 c57_3 o57_3 ∧ RetR Cx 57 c57_4 := ⟨run_seq, run_region, run_seq, run_region, run_ret⟩
theorem body57 : bodyOf Cx 57 = some c57_0 := by kernel_rfl
theorem res57 : resOf Cx 57 = some [.tmp 2] := by kernel_rfl
theorem pure57 : Cx.pure 57 = true := by kernel_rfl
abbrev o58_1 : List AO := [oA 1 (.box 24 (tm 0)) 0,
  oA 2 (.assign (ci 0)) 3,
  oA 3 (.assign (ci 0)) 39]
def c58_1 : AC := .region o58_1 []
abbrev o58_4 : List AO := [oA 4 (.load 24 (tm 1)) 24,
  oA 5 (cF 24 #[(tm 4)] #[24]) 4,
  oA 6 (.unOp .not 4 (tm 5)) 4]
def c58_4 : AC := .region o58_4 []
abbrev o58_7 : List AO := [oA 2 (.assign (ci 0)) 3,
  oA 3 (.assign (ci 14)) 39]
def c58_7 : AC := .region o58_7 []
def c58_8 : AC := .ret
def c58_6 : AC := .seq c58_7 c58_8
def c58_9 : AC := .skip
def c58_5 : AC := .cond (tm 6) c58_6 c58_9
def c58_3 : AC := .seq c58_4 c58_5
abbrev o58_11 : List AO := [oA 7 (.load 24 (tm 1)) 24,
  oA 8 (cF 76 #[(tm 7)] #[24]) 3,
  oA 2 (.assign (tm 8)) 3,
  oA 3 (.assign (ci 0)) 39]
def c58_11 : AC := .region o58_11 []
def c58_12 : AC := .ret
def c58_10 : AC := .seq c58_11 c58_12
def c58_2 : AC := .seq c58_3 c58_10
def c58_0 : AC := .seq c58_1 c58_2
theorem r58_0 : SeqR Cx 58 c58_0 c58_1 c58_2 ∧ RegR Cx 58 c58_1 o58_1 ∧ SeqR Cx 58 c58_2 c58_3 c58_10 ∧ SeqR Cx 58 c58_3 c58_4 c58_5 ∧ RegR Cx 58 c58_4 o58_4 ∧ CondR Cx 58 c58_5 (tm 6) c58_6 c58_9 ∧ SeqR Cx 58 c58_6 c58_7 c58_8 ∧ RegR Cx 58 c58_7 o58_7 := ⟨run_seq, run_region, run_seq, run_seq, run_region, run_condC, run_seq, run_region⟩
theorem r58_1 : RetR Cx 58 c58_8 ∧ SkipR Cx 58 c58_9 ∧ SeqR Cx 58 c58_10 c58_11 c58_12 ∧ RegR Cx 58 c58_11 o58_11 ∧ RetR Cx 58 c58_12 := ⟨run_ret, run_skip, run_seq, run_region, run_ret⟩
theorem body58 : bodyOf Cx 58 = some c58_0 := by kernel_rfl
theorem res58 : resOf Cx 58 = some [.tmp 2, .tmp 3] := by kernel_rfl
theorem pure58 : Cx.pure 58 = true := by kernel_rfl
abbrev o59_1 : List AO := [oA 4 (.box 24 (tm 1)) 0,
  oA 6 (.alloc 26) 0]
def c59_1 : AC := .region o59_1 []
abbrev o59_4 : List AO := [oA 7 (.move (tm 2)) 39,
  oA 8 (.binOp .neq 39 (tm 7) (ci 0) 39) 4]
def c59_4 : AC := .region o59_4 []
abbrev o59_7 : List AO := [oA 9 (.move (tm 0)) 60,
  oA 10 (.move (tm 2)) 39,
  oA 11 (cF 25 #[(tm 9), (tm 10)] #[60, 39]) 26,
  oN (.store 26 (tm 6) (tm 11)) 0]
def c59_7 : AC := .region o59_7 []
def c59_8 : AC := .ret
def c59_6 : AC := .seq c59_7 c59_8
def c59_9 : AC := .skip
def c59_5 : AC := .cond (tm 8) c59_6 c59_9
def c59_3 : AC := .seq c59_4 c59_5
abbrev o59_11 : List AO := [oA 12 (.load 24 (tm 4)) 24,
  oA 13 (cF 63 #[(tm 12)] #[24]) 26,
  oN (.store 26 (tm 6) (tm 13)) 0]
def c59_11 : AC := .region o59_11 []
def c59_12 : AC := .ret
def c59_10 : AC := .seq c59_11 c59_12
def c59_2 : AC := .seq c59_3 c59_10
def c59_0 : AC := .seq c59_1 c59_2
theorem r59_0 : SeqR Cx 59 c59_0 c59_1 c59_2 ∧ RegR Cx 59 c59_1 o59_1 ∧ SeqR Cx 59 c59_2 c59_3 c59_10 ∧ SeqR Cx 59 c59_3 c59_4 c59_5 ∧ RegR Cx 59 c59_4 o59_4 ∧ CondR Cx 59 c59_5 (tm 8) c59_6 c59_9 ∧ SeqR Cx 59 c59_6 c59_7 c59_8 ∧ RegR Cx 59 c59_7 o59_7 := ⟨run_seq, run_region, run_seq, run_seq, run_region, run_condC, run_seq, run_region⟩
theorem r59_1 : RetR Cx 59 c59_8 ∧ SkipR Cx 59 c59_9 ∧ SeqR Cx 59 c59_10 c59_11 c59_12 ∧ RegR Cx 59 c59_11 o59_11 ∧ RetR Cx 59 c59_12 := ⟨run_ret, run_skip, run_seq, run_region, run_ret⟩
theorem body59 : bodyOf Cx 59 = some c59_0 := by kernel_rfl
theorem res59 : resOf Cx 59 = some [.cell 6 26] := by kernel_rfl
theorem pure59 : Cx.pure 59 = false := by kernel_rfl
abbrev o60_1 : List AO := [oA 1 (.box 24 (tm 0)) 0,
  oA 2 (.alloc 24) 0,
  oA 3 (.assign (ci 0)) 39]
def c60_1 : AC := .region o60_1 []
abbrev o60_4 : List AO := [oA 4 (.load 24 (tm 1)) 24,
  oA 5 (cF 24 #[(tm 4)] #[24]) 4,
  oA 6 (.unOp .not 4 (tm 5)) 4]
def c60_4 : AC := .region o60_4 []
abbrev o60_7 : List AO := [oA 7 (.build 24 #[]) 24,
  oN (.store 24 (tm 2) (tm 7)) 0,
  oA 3 (.assign (ci 14)) 39]
def c60_7 : AC := .region o60_7 []
def c60_8 : AC := .ret
def c60_6 : AC := .seq c60_7 c60_8
def c60_9 : AC := .skip
def c60_5 : AC := .cond (tm 6) c60_6 c60_9
def c60_3 : AC := .seq c60_4 c60_5
abbrev o60_11 : List AO := [oA 8 (.fieldAddr 24 (tm 1) 0) 0,
  oA 9 (.load 3 (tm 8)) 3,
  oA 10 (.fieldAddr 24 (tm 1) 1) 0,
  oA 11 (.load 3 (tm 10)) 3,
  oA 12 (.unOp .neg 3 (tm 11)) 3,
  oA 13 (.build 24 #[(0, (tm 9)), (1, (tm 12))]) 24,
  oN (.store 24 (tm 2) (tm 13)) 0,
  oA 3 (.assign (ci 0)) 39]
def c60_11 : AC := .region o60_11 []
def c60_12 : AC := .ret
def c60_10 : AC := .seq c60_11 c60_12
def c60_2 : AC := .seq c60_3 c60_10
def c60_0 : AC := .seq c60_1 c60_2
theorem r60_0 : SeqR Cx 60 c60_0 c60_1 c60_2 ∧ RegR Cx 60 c60_1 o60_1 ∧ SeqR Cx 60 c60_2 c60_3 c60_10 ∧ SeqR Cx 60 c60_3 c60_4 c60_5 ∧ RegR Cx 60 c60_4 o60_4 ∧ CondR Cx 60 c60_5 (tm 6) c60_6 c60_9 ∧ SeqR Cx 60 c60_6 c60_7 c60_8 ∧ RegR Cx 60 c60_7 o60_7 := ⟨run_seq, run_region, run_seq, run_seq, run_region, run_condC, run_seq, run_region⟩
theorem r60_1 : RetR Cx 60 c60_8 ∧ SkipR Cx 60 c60_9 ∧ SeqR Cx 60 c60_10 c60_11 c60_12 ∧ RegR Cx 60 c60_11 o60_11 ∧ RetR Cx 60 c60_12 := ⟨run_ret, run_skip, run_seq, run_region, run_ret⟩
theorem body60 : bodyOf Cx 60 = some c60_0 := by kernel_rfl
theorem res60 : resOf Cx 60 = some [.cell 2 24, .tmp 3] := by kernel_rfl
theorem pure60 : Cx.pure 60 = true := by kernel_rfl
abbrev o61_1 : List AO := [oA 1 (.box 26 (tm 0)) 0,
  oA 2 (.assign (.const (.string ⟨#[]⟩))) 9]
def c61_1 : AC := .region o61_1 []
abbrev o61_4 : List AO := [oA 3 (.load 26 (tm 1)) 26,
  oA 4 (cF 16 #[(tm 3)] #[26]) 4,
  oA 5 (.unOp .not 4 (tm 4)) 4]
def c61_4 : AC := .region o61_4 []
abbrev o61_7 : List AO := [oA 2 (.assign (.const (.string ⟨#[]⟩))) 9]
def c61_7 : AC := .region o61_7 []
def c61_8 : AC := .ret
def c61_6 : AC := .seq c61_7 c61_8
def c61_9 : AC := .skip
def c61_5 : AC := .cond (tm 5) c61_6 c61_9
def c61_3 : AC := .seq c61_4 c61_5
abbrev o61_12 : List AO := [oA 6 (.fieldAddr 26 (tm 1) 0) 0,
  oA 7 (.load 3 (tm 6)) 3]
def c61_12 : AC := .region o61_12 []
abbrev o61_15 : List AO := [oA 9 (.binOp .eql 3 (tm 7) (ci 0) 3) 4,
  oA 8 (.assign (tm 9)) 4]
def c61_15 : AC := .region o61_15 []
abbrev o61_18 : List AO := [oA 10 (.fieldAddr 26 (tm 1) 1) 0,
  oA 11 (.load 3 (tm 10)) 3,
  oA 12 (cF 77 #[(tm 11)] #[3]) 9,
  oA 2 (.assign (tm 12)) 9]
def c61_18 : AC := .region o61_18 []
def c61_19 : AC := .ret
def c61_17 : AC := .seq c61_18 c61_19
abbrev o61_21 : List AO := [oA 14 (.binOp .eql 3 (tm 7) (ci 1) 3) 4,
  oA 13 (.assign (tm 14)) 4]
def c61_21 : AC := .region o61_21 []
abbrev o61_24 : List AO := [oA 15 (.fieldAddr 26 (tm 1) 2) 0,
  oA 16 (.load 9 (tm 15)) 9,
  oA 17 (cF 78 #[(tm 16)] #[9]) 9,
  oA 2 (.assign (tm 17)) 9]
def c61_24 : AC := .region o61_24 []
def c61_25 : AC := .ret
def c61_23 : AC := .seq c61_24 c61_25
def c61_26 : AC := .skip
def c61_22 : AC := .cond (tm 13) c61_23 c61_26
def c61_20 : AC := .seq c61_21 c61_22
def c61_16 : AC := .cond (tm 8) c61_17 c61_20
def c61_14 : AC := .seq c61_15 c61_16
def c61_13 : AC := .block 0 c61_14
def c61_11 : AC := .seq c61_12 c61_13
abbrev o61_28 : List AO := [oA 18 (.fieldAddr 26 (tm 1) 3) 0,
  oA 19 (.fieldAddr 24 (tm 18) 0) 0,
  oA 20 (.load 3 (tm 19)) 3,
  oA 21 (cF 77 #[(tm 20)] #[3]) 9,
  oA 22 (.binOp .add 9 (tm 21) (.const (.string ⟨#[58]⟩)) 9) 9,
  oA 23 (.fieldAddr 26 (tm 1) 3) 0,
  oA 24 (.fieldAddr 24 (tm 23) 1) 0,
  oA 25 (.load 3 (tm 24)) 3,
  oA 26 (cF 77 #[(tm 25)] #[3]) 9,
  oA 27 (.binOp .add 9 (tm 22) (tm 26) 9) 9,
  oA 2 (.assign (tm 27)) 9]
def c61_28 : AC := .region o61_28 []
def c61_29 : AC := .ret
def c61_27 : AC := .seq c61_28 c61_29
def c61_10 : AC := .seq c61_11 c61_27
def c61_2 : AC := .seq c61_3 c61_10
def c61_0 : AC := .seq c61_1 c61_2
theorem r61_0 : SeqR Cx 61 c61_0 c61_1 c61_2 ∧ RegR Cx 61 c61_1 o61_1 ∧ SeqR Cx 61 c61_2 c61_3 c61_10 ∧ SeqR Cx 61 c61_3 c61_4 c61_5 ∧ RegR Cx 61 c61_4 o61_4 ∧ CondR Cx 61 c61_5 (tm 5) c61_6 c61_9 ∧ SeqR Cx 61 c61_6 c61_7 c61_8 ∧ RegR Cx 61 c61_7 o61_7 := ⟨run_seq, run_region, run_seq, run_seq, run_region, run_condC, run_seq, run_region⟩
theorem r61_1 : RetR Cx 61 c61_8 ∧ SkipR Cx 61 c61_9 ∧ SeqR Cx 61 c61_10 c61_11 c61_27 ∧ SeqR Cx 61 c61_11 c61_12 c61_13 ∧ RegR Cx 61 c61_12 o61_12 ∧ BlkR Cx 61 c61_13 0 c61_14 ∧ SeqR Cx 61 c61_14 c61_15 c61_16 ∧ RegR Cx 61 c61_15 o61_15 := ⟨run_ret, run_skip, run_seq, run_seq, run_region, run_block, run_seq, run_region⟩
theorem r61_2 : CondR Cx 61 c61_16 (tm 8) c61_17 c61_20 ∧ SeqR Cx 61 c61_17 c61_18 c61_19 ∧ RegR Cx 61 c61_18 o61_18 ∧ RetR Cx 61 c61_19 ∧ SeqR Cx 61 c61_20 c61_21 c61_22 ∧ RegR Cx 61 c61_21 o61_21 ∧ CondR Cx 61 c61_22 (tm 13) c61_23 c61_26 ∧ SeqR Cx 61 c61_23 c61_24 c61_25 := ⟨run_condC, run_seq, run_region, run_ret, run_seq, run_region, run_condC, run_seq⟩
theorem r61_3 : RegR Cx 61 c61_24 o61_24 ∧ RetR Cx 61 c61_25 ∧ SkipR Cx 61 c61_26 ∧ SeqR Cx 61 c61_27 c61_28 c61_29 ∧ RegR Cx 61 c61_28 o61_28 ∧ RetR Cx 61 c61_29 := ⟨run_region, run_ret, run_skip, run_seq, run_region, run_ret⟩
theorem body61 : bodyOf Cx 61 = some c61_0 := by kernel_rfl
theorem res61 : resOf Cx 61 = some [.tmp 2] := by kernel_rfl
theorem pure61 : Cx.pure 61 = true := by kernel_rfl
abbrev o62_1 : List AO := [oA 4 (.alloc 26) 0]
def c62_1 : AC := .region o62_1 []
abbrev o62_5 : List AO := [oA 6 (.move (tm 1)) 77,
  oA 7 (.indexAddr 77 (tm 6) (ci 0)) 0,
  oA 8 (.fieldAddr 26 (tm 7) 0) 0,
  oA 9 (.load 3 (tm 8)) 3,
  oA 10 (.binOp .neq 3 (tm 9) (ci 1) 3) 4,
  oA 5 (.assign (tm 10)) 4]
def c62_5 : AC := .region o62_5 []
abbrev o62_8 : List AO := [oA 11 (.move (tm 0)) 60,
  oA 12 (cF 25 #[(tm 11), (ci 13)] #[60, 39]) 26,
  oN (.store 26 (tm 4) (tm 12)) 0]
def c62_8 : AC := .region o62_8 []
def c62_9 : AC := .ret
def c62_7 : AC := .seq c62_8 c62_9
abbrev o62_11 : List AO := [oA 14 (.move (tm 1)) 77,
  oA 15 (.indexAddr 77 (tm 14) (ci 0)) 0,
  oA 16 (.fieldAddr 26 (tm 15) 2) 0,
  oA 17 (.load 9 (tm 16)) 9,
  oA 18 (cB .len #[(tm 17)] #[9]) 3,
  oA 19 (.binOp .gtr 3 (tm 18) (ci 64) 3) 4,
  oA 13 (.assign (tm 19)) 4]
def c62_11 : AC := .region o62_11 []
abbrev o62_14 : List AO := [oA 20 (.move (tm 0)) 60,
  oA 21 (cF 25 #[(tm 20), (ci 3)] #[60, 39]) 26,
  oN (.store 26 (tm 4) (tm 21)) 0]
def c62_14 : AC := .region o62_14 []
def c62_15 : AC := .ret
def c62_13 : AC := .seq c62_14 c62_15
abbrev o62_17 : List AO := [oA 23 (.move (tm 0)) 60,
  oA 24 (.nilCheck (tm 23)) 0,
  oA 25 (.fieldAddr 64 (tm 24) 5) 0,
  oA 26 (.load 36 (tm 25)) 36,
  oA 27 (cB .len #[(tm 26)] #[36]) 3,
  oA 28 (.binOp .eql 3 (tm 27) (ci 64) 3) 4,
  oA 22 (.assign (tm 28)) 4]
def c62_17 : AC := .region o62_17 []
abbrev o62_20 : List AO := [oA 29 (.move (tm 0)) 60,
  oA 30 (cF 25 #[(tm 29), (ci 22)] #[60, 39]) 26,
  oN (.store 26 (tm 4) (tm 30)) 0]
def c62_20 : AC := .region o62_20 []
def c62_21 : AC := .ret
def c62_19 : AC := .seq c62_20 c62_21
def c62_22 : AC := .skip
def c62_18 : AC := .cond (tm 22) c62_19 c62_22
def c62_16 : AC := .seq c62_17 c62_18
def c62_12 : AC := .cond (tm 13) c62_13 c62_16
def c62_10 : AC := .seq c62_11 c62_12
def c62_6 : AC := .cond (tm 5) c62_7 c62_10
def c62_4 : AC := .seq c62_5 c62_6
def c62_3 : AC := .block 0 c62_4
abbrev o62_24 : List AO := [oA 31 (.move (tm 0)) 60,
  oA 32 (.move (tm 0)) 60,
  oA 33 (.nilCheck (tm 32)) 0,
  oA 34 (.fieldAddr 64 (tm 33) 5) 0,
  oA 35 (.load 36 (tm 34)) 36,
  oA 36 (.move (tm 1)) 77,
  oA 37 (.indexAddr 77 (tm 36) (ci 0)) 0,
  oA 38 (.fieldAddr 26 (tm 37) 2) 0,
  oA 39 (.load 9 (tm 38)) 9,
  oA 40 (.move (tm 1)) 77,
  oA 41 (.indexAddr 77 (tm 40) (ci 1)) 0,
  oA 42 (.load 26 (tm 41)) 26,
  oA 43 (.build 54 #[(0, (tm 39)), (1, (tm 42))]) 54,
  oA 44 (.buildSlice 36 1 #[(0, (tm 43))]) 36,
  oA 45 (cB .append #[(tm 35), (tm 44)] #[36, 36]) 36,
  oA 46 (.nilCheck (tm 31)) 0,
  oA 47 (.fieldAddr 64 (tm 46) 5) 0,
  oN (.store 36 (tm 47) (tm 45)) 0]
def c62_24 : AC := .region o62_24 []
abbrev o62_26 : List AO := [oA 48 (.move (tm 1)) 77,
  oA 49 (.indexAddr 77 (tm 48) (ci 1)) 0,
  oA 50 (.load 26 (tm 49)) 26,
  oN (.store 26 (tm 4) (tm 50)) 0]
def c62_26 : AC := .region o62_26 []
def c62_27 : AC := .ret
def c62_25 : AC := .seq c62_26 c62_27
def c62_23 : AC := .seq c62_24 c62_25
def c62_2 : AC := .seq c62_3 c62_23
def c62_0 : AC := .seq c62_1 c62_2
theorem r62_0 : SeqR Cx 62 c62_0 c62_1 c62_2 ∧ RegR Cx 62 c62_1 o62_1 ∧ SeqR Cx 62 c62_2 c62_3 c62_23 ∧ BlkR Cx 62 c62_3 0 c62_4 ∧ SeqR Cx 62 c62_4 c62_5 c62_6 ∧ RegR Cx 62 c62_5 o62_5 ∧ CondR Cx 62 c62_6 (tm 5) c62_7 c62_10 ∧ SeqR Cx 62 c62_7 c62_8 c62_9 := ⟨run_seq, run_region, run_seq, run_block, run_seq, run_region, run_condC, run_seq⟩
theorem r62_1 : RegR Cx 62 c62_8 o62_8 ∧ RetR Cx 62 c62_9 ∧ SeqR Cx 62 c62_10 c62_11 c62_12 ∧ RegR Cx 62 c62_11 o62_11 ∧ CondR Cx 62 c62_12 (tm 13) c62_13 c62_16 ∧ SeqR Cx 62 c62_13 c62_14 c62_15 ∧ RegR Cx 62 c62_14 o62_14 ∧ RetR Cx 62 c62_15 := ⟨run_region, run_ret, run_seq, run_region, run_condC, run_seq, run_region, run_ret⟩
theorem r62_2 : SeqR Cx 62 c62_16 c62_17 c62_18 ∧ RegR Cx 62 c62_17 o62_17 ∧ CondR Cx 62 c62_18 (tm 22) c62_19 c62_22 ∧ SeqR Cx 62 c62_19 c62_20 c62_21 ∧ RegR Cx 62 c62_20 o62_20 ∧ RetR Cx 62 c62_21 ∧ SkipR Cx 62 c62_22 ∧ SeqR Cx 62 c62_23 c62_24 c62_25 := ⟨run_seq, run_region, run_condC, run_seq, run_region, run_ret, run_skip, run_seq⟩
theorem r62_3 : RegR Cx 62 c62_24 o62_24 ∧ SeqR Cx 62 c62_25 c62_26 c62_27 ∧ RegR Cx 62 c62_26 o62_26 ∧ RetR Cx 62 c62_27 := ⟨run_region, run_seq, run_region, run_ret⟩
theorem body62 : bodyOf Cx 62 = some c62_0 := by kernel_rfl
theorem res62 : resOf Cx 62 = some [.cell 4 26] := by kernel_rfl
theorem pure62 : Cx.pure 62 = false := by kernel_rfl
abbrev o63_1 : List AO := [oA 1 (.box 24 (tm 0)) 0,
  oA 2 (.alloc 26) 0]
def c63_1 : AC := .region o63_1 []
abbrev o63_3 : List AO := [oA 3 (.load 24 (tm 1)) 24,
  oA 4 (.build 26 #[(0, (ci 2)), (3, (tm 3))]) 26,
  oN (.store 26 (tm 2) (tm 4)) 0]
def c63_3 : AC := .region o63_3 []
def c63_4 : AC := .ret
def c63_2 : AC := .seq c63_3 c63_4
def c63_0 : AC := .seq c63_1 c63_2
theorem r63_0 : SeqR Cx 63 c63_0 c63_1 c63_2 ∧ RegR Cx 63 c63_1 o63_1 ∧ SeqR Cx 63 c63_2 c63_3 c63_4 ∧ RegR Cx 63 c63_3 o63_3 ∧ RetR Cx 63 c63_4 := ⟨run_seq, run_region, run_seq, run_region, run_ret⟩
theorem body63 : bodyOf Cx 63 = some c63_0 := by kernel_rfl
theorem res63 : resOf Cx 63 = some [.cell 2 26] := by kernel_rfl
theorem pure63 : Cx.pure 63 = true := by kernel_rfl
abbrev o64_1 : List AO := [oA 4 (.assign (.const (.int .u8 0))) 5,
  oA 5 (.assign (ci 0)) 39]
def c64_1 : AC := .region o64_1 []
abbrev o64_3 : List AO := [oA 6 (.assign (ci 0)) 3]
def c64_3 : AC := .region o64_3 []
abbrev o64_6 : List AO := [oA 9 (.move (tm 1)) 3,
  oA 7 (.assign (tm 9)) 3]
def c64_6 : AC := .region o64_6 []
abbrev o64_11 : List AO := [oA 10 (.move (tm 7)) 3,
  oA 11 (.move (tm 1)) 3,
  oA 12 (.binOp .add 3 (tm 11) (ci 2) 3) 3,
  oA 13 (.binOp .lss 3 (tm 10) (tm 12) 3) 4]
def c64_11 : AC := .region o64_11 []
def c64_13 : AC := .skip
def c64_14 : AC := .exit 0
def c64_12 : AC := .cond (tm 13) c64_13 c64_14
def c64_10 : AC := .seq c64_11 c64_12
abbrev o64_19 : List AO := [oA 16 (.move (tm 7)) 3,
  oA 17 (.move (tm 0)) 9,
  oA 18 (cB .len #[(tm 17)] #[9]) 3,
  oA 19 (.binOp .geq 3 (tm 16) (tm 18) 3) 4]
def c64_19 : AC := .region o64_19 []
abbrev o64_22 : List AO := [oA 4 (.assign (.const (.int .u8 0))) 5,
  oA 5 (.assign (ci 2)) 39]
def c64_22 : AC := .region o64_22 []
def c64_23 : AC := .ret
def c64_21 : AC := .seq c64_22 c64_23
def c64_24 : AC := .skip
def c64_20 : AC := .cond (tm 19) c64_21 c64_24
def c64_18 : AC := .seq c64_19 c64_20
abbrev o64_26 : List AO := [oA 20 (.move (tm 0)) 9,
  oA 21 (.move (tm 7)) 3,
  oA 22 (.index 9 (tm 20) (tm 21)) 5,
  oA 23 (cF 79 #[(.const (.string ⟨#[48, 49, 50, 51, 52, 53, 54, 55, 56, 57, 97, 98, 99, 100, 101, 102]⟩)), (tm 22)] #[9, 5]) 3,
  oA 8 (.assign (tm 23)) 3]
def c64_26 : AC := .region o64_26 []
abbrev o64_29 : List AO := [oA 24 (.move (tm 8)) 3,
  oA 25 (.binOp .lss 3 (tm 24) (ci 0) 3) 4]
def c64_29 : AC := .region o64_29 []
abbrev o64_32 : List AO := [oA 4 (.assign (.const (.int .u8 0))) 5,
  oA 5 (.assign (ci 6)) 39]
def c64_32 : AC := .region o64_32 []
def c64_33 : AC := .ret
def c64_31 : AC := .seq c64_32 c64_33
def c64_34 : AC := .skip
def c64_30 : AC := .cond (tm 25) c64_31 c64_34
def c64_28 : AC := .seq c64_29 c64_30
abbrev o64_35 : List AO := [oA 26 (.move (tm 6)) 3,
  oA 27 (.binOp .mul 3 (ci 16) (tm 26) 3) 3,
  oA 28 (.move (tm 8)) 3,
  oA 29 (.binOp .add 3 (tm 27) (tm 28) 3) 3,
  oA 6 (.assign (tm 29)) 3]
def c64_35 : AC := .region o64_35 []
def c64_27 : AC := .seq c64_28 c64_35
def c64_25 : AC := .seq c64_26 c64_27
def c64_17 : AC := .seq c64_18 c64_25
def c64_16 : AC := .block 1 c64_17
abbrev o64_36 : List AO := [oA 14 (.move (tm 7)) 3,
  oA 15 (.binOp .add 3 (tm 14) (ci 1) 3) 3,
  oA 7 (.assign (tm 15)) 3]
def c64_36 : AC := .region o64_36 []
def c64_15 : AC := .seq c64_16 c64_36
def c64_9 : AC := .seq c64_10 c64_15
def c64_8 : AC := .loop c64_9
def c64_7 : AC := .block 0 c64_8
def c64_5 : AC := .seq c64_6 c64_7
abbrev o64_39 : List AO := [oA 30 (.move (tm 6)) 3,
  oA 31 (.convert 3 5 (tm 30)) 5,
  oA 32 (cF 65 #[(tm 31)] #[5]) 4]
def c64_39 : AC := .region o64_39 []
abbrev o64_42 : List AO := [oA 4 (.assign (.const (.int .u8 0))) 5,
  oA 5 (.assign (ci 6)) 39]
def c64_42 : AC := .region o64_42 []
def c64_43 : AC := .ret
def c64_41 : AC := .seq c64_42 c64_43
def c64_44 : AC := .skip
def c64_40 : AC := .cond (tm 32) c64_41 c64_44
def c64_38 : AC := .seq c64_39 c64_40
abbrev o64_46 : List AO := [oA 33 (.move (tm 6)) 3,
  oA 34 (.convert 3 5 (tm 33)) 5,
  oA 4 (.assign (tm 34)) 5,
  oA 5 (.assign (ci 0)) 39]
def c64_46 : AC := .region o64_46 []
def c64_47 : AC := .ret
def c64_45 : AC := .seq c64_46 c64_47
def c64_37 : AC := .seq c64_38 c64_45
def c64_4 : AC := .seq c64_5 c64_37
def c64_2 : AC := .seq c64_3 c64_4
def c64_0 : AC := .seq c64_1 c64_2
theorem r64_0 : SeqR Cx 64 c64_0 c64_1 c64_2 ∧ RegR Cx 64 c64_1 o64_1 ∧ SeqR Cx 64 c64_2 c64_3 c64_4 ∧ RegR Cx 64 c64_3 o64_3 ∧ SeqR Cx 64 c64_4 c64_5 c64_37 ∧ SeqR Cx 64 c64_5 c64_6 c64_7 ∧ RegR Cx 64 c64_6 o64_6 ∧ BlkR Cx 64 c64_7 0 c64_8 := ⟨run_seq, run_region, run_seq, run_region, run_seq, run_seq, run_region, run_block⟩
theorem r64_1 : LoopR Cx 64 c64_8 c64_9 ∧ SeqR Cx 64 c64_9 c64_10 c64_15 ∧ SeqR Cx 64 c64_10 c64_11 c64_12 ∧ RegR Cx 64 c64_11 o64_11 ∧ CondR Cx 64 c64_12 (tm 13) c64_13 c64_14 ∧ SkipR Cx 64 c64_13 ∧ ExitR Cx 64 c64_14 0 ∧ SeqR Cx 64 c64_15 c64_16 c64_36 := ⟨run_loop', run_seq, run_seq, run_region, run_condC, run_skip, run_exit_start, run_seq⟩
theorem r64_2 : BlkR Cx 64 c64_16 1 c64_17 ∧ SeqR Cx 64 c64_17 c64_18 c64_25 ∧ SeqR Cx 64 c64_18 c64_19 c64_20 ∧ RegR Cx 64 c64_19 o64_19 ∧ CondR Cx 64 c64_20 (tm 19) c64_21 c64_24 ∧ SeqR Cx 64 c64_21 c64_22 c64_23 ∧ RegR Cx 64 c64_22 o64_22 ∧ RetR Cx 64 c64_23 := ⟨run_block, run_seq, run_seq, run_region, run_condC, run_seq, run_region, run_ret⟩
theorem r64_3 : SkipR Cx 64 c64_24 ∧ SeqR Cx 64 c64_25 c64_26 c64_27 ∧ RegR Cx 64 c64_26 o64_26 ∧ SeqR Cx 64 c64_27 c64_28 c64_35 ∧ SeqR Cx 64 c64_28 c64_29 c64_30 ∧ RegR Cx 64 c64_29 o64_29 ∧ CondR Cx 64 c64_30 (tm 25) c64_31 c64_34 ∧ SeqR Cx 64 c64_31 c64_32 c64_33 := ⟨run_skip, run_seq, run_region, run_seq, run_seq, run_region, run_condC, run_seq⟩
theorem r64_4 : RegR Cx 64 c64_32 o64_32 ∧ RetR Cx 64 c64_33 ∧ SkipR Cx 64 c64_34 ∧ RegR Cx 64 c64_35 o64_35 ∧ RegR Cx 64 c64_36 o64_36 ∧ SeqR Cx 64 c64_37 c64_38 c64_45 ∧ SeqR Cx 64 c64_38 c64_39 c64_40 ∧ RegR Cx 64 c64_39 o64_39 := ⟨run_region, run_ret, run_skip, run_region, run_region, run_seq, run_seq, run_region⟩
theorem r64_5 : CondR Cx 64 c64_40 (tm 32) c64_41 c64_44 ∧ SeqR Cx 64 c64_41 c64_42 c64_43 ∧ RegR Cx 64 c64_42 o64_42 ∧ RetR Cx 64 c64_43 ∧ SkipR Cx 64 c64_44 ∧ SeqR Cx 64 c64_45 c64_46 c64_47 ∧ RegR Cx 64 c64_46 o64_46 ∧ RetR Cx 64 c64_47 := ⟨run_condC, run_seq, run_region, run_ret, run_skip, run_seq, run_region, run_ret⟩
theorem body64 : bodyOf Cx 64 = some c64_0 := by kernel_rfl
theorem res64 : resOf Cx 64 = some [.tmp 4, .tmp 5] := by kernel_rfl
theorem pure64 : Cx.pure 64 = true := by kernel_rfl
abbrev o65_1 : List AO := [oA 2 (.assign (.const (.bool false))) 4]
def c65_1 : AC := .region o65_1 []
abbrev o65_3 : List AO := [oA 3 (.move (tm 0)) 5,
  oA 4 (.binOp .geq 5 (tm 3) (.const (.int .u8 32)) 5) 4,
  oA 5 (.move (tm 4)) 4,
  oG 6 (.move (tm 0)) 5 5 true,
  oG 7 (.binOp .leq 5 (tm 6) (.const (.int .u8 126)) 5) 4 5 true,
  oA 8 (.pick (tm 5) (tm 7) (.const (.bool false))) 4,
  oA 9 (.move (tm 8)) 4,
  oG 10 (.move (tm 0)) 5 9 true,
  oG 11 (.binOp .neq 5 (tm 10) (.const (.int .u8 34)) 5) 4 9 true,
  oA 12 (.pick (tm 9) (tm 11) (.const (.bool false))) 4,
  oA 13 (.move (tm 12)) 4,
  oG 14 (.move (tm 0)) 5 13 true,
  oG 15 (.binOp .neq 5 (tm 14) (.const (.int .u8 92)) 5) 4 13 true,
  oA 16 (.pick (tm 13) (tm 15) (.const (.bool false))) 4,
  oA 2 (.assign (tm 16)) 4]
def c65_3 : AC := .region o65_3 []
def c65_4 : AC := .ret
def c65_2 : AC := .seq c65_3 c65_4
def c65_0 : AC := .seq c65_1 c65_2
theorem r65_0 : SeqR Cx 65 c65_0 c65_1 c65_2 ∧ RegR Cx 65 c65_1 o65_1 ∧ SeqR Cx 65 c65_2 c65_3 c65_4 ∧ RegR Cx 65 c65_3 o65_3 ∧ RetR Cx 65 c65_4 := ⟨run_seq, run_region, run_seq, run_region, run_ret⟩
theorem body65 : bodyOf Cx 65 = some c65_0 := by kernel_rfl
theorem res65 : resOf Cx 65 = some [.tmp 2] := by kernel_rfl
theorem pure65 : Cx.pure 65 = true := by kernel_rfl
abbrev o66_1 : List AO := [oA 4 (.assign (ci 0)) 3,
  oA 5 (.assign (ci 0)) 3,
  oA 6 (.assign (ci 0)) 39]
def c66_1 : AC := .region o66_1 []
abbrev o66_4 : List AO := [oA 7 (.assign (ci 0)) 3,
  oA 8 (.assign (ci 1)) 3]
def c66_4 : AC := .region o66_4 []
abbrev o66_7 : List AO := [oA 10 (.move (tm 1)) 3,
  oA 11 (.move (tm 0)) 9,
  oA 12 (cB .len #[(tm 11)] #[9]) 3,
  oA 13 (.binOp .lss 3 (tm 10) (tm 12) 3) 4,
  oA 14 (.move (tm 13)) 4,
  oG 15 (.move (tm 0)) 9 14 true,
  oG 16 (.move (tm 1)) 3 14 true,
  oG 17 (.index 9 (tm 15) (tm 16)) 5 14 true,
  oG 18 (.binOp .eql 5 (tm 17) (.const (.int .u8 45)) 5) 4 14 true,
  oA 19 (.pick (tm 14) (tm 18) (.const (.bool false))) 4]
def c66_7 : AC := .region o66_7 []
abbrev o66_9 : List AO := [oA 20 (.move (tm 1)) 3,
  oA 21 (.binOp .add 3 (tm 20) (ci 1) 3) 3,
  oA 8 (.assign (ci (-1))) 3,
  oA 1 (.assign (tm 21)) 3]
def c66_9 : AC := .region o66_9 []
def c66_10 : AC := .skip
def c66_8 : AC := .cond (tm 19) c66_9 c66_10
def c66_6 : AC := .seq c66_7 c66_8
abbrev o66_12 : List AO := [oA 22 (.move (tm 1)) 3,
  oA 9 (.assign (tm 22)) 3]
def c66_12 : AC := .region o66_12 []
abbrev o66_16 : List AO := [oA 24 (.move (tm 1)) 3,
  oA 25 (.move (tm 0)) 9,
  oA 26 (cB .len #[(tm 25)] #[9]) 3,
  oA 27 (.binOp .geq 3 (tm 24) (tm 26) 3) 4,
  oA 23 (.assign (tm 27)) 4]
def c66_16 : AC := .region o66_16 []
abbrev o66_19 : List AO := [oA 4 (.assign (ci 0)) 3,
  oA 5 (.assign (ci 0)) 3,
  oA 6 (.assign (ci 2)) 39]
def c66_19 : AC := .region o66_19 []
def c66_20 : AC := .ret
def c66_18 : AC := .seq c66_19 c66_20
abbrev o66_22 : List AO := [oA 29 (.move (tm 0)) 9,
  oA 30 (.move (tm 1)) 3,
  oA 31 (.index 9 (tm 29) (tm 30)) 5,
  oA 32 (cF 47 #[(tm 31)] #[5]) 4,
  oA 33 (.unOp .not 4 (tm 32)) 4,
  oA 28 (.assign (tm 33)) 4]
def c66_22 : AC := .region o66_22 []
abbrev o66_25 : List AO := [oA 4 (.assign (ci 0)) 3,
  oA 5 (.assign (ci 0)) 3,
  oA 6 (.assign (ci 6)) 39]
def c66_25 : AC := .region o66_25 []
def c66_26 : AC := .ret
def c66_24 : AC := .seq c66_25 c66_26
def c66_27 : AC := .skip
def c66_23 : AC := .cond (tm 28) c66_24 c66_27
def c66_21 : AC := .seq c66_22 c66_23
def c66_17 : AC := .cond (tm 23) c66_18 c66_21
def c66_15 : AC := .seq c66_16 c66_17
def c66_14 : AC := .block 0 c66_15
def c66_29 : AC := .label 0
abbrev o66_32 : List AO := [oA 34 (.move (tm 1)) 3,
  oA 35 (.move (tm 0)) 9,
  oA 36 (cB .len #[(tm 35)] #[9]) 3,
  oA 37 (.binOp .lss 3 (tm 34) (tm 36) 3) 4,
  oA 38 (.move (tm 37)) 4,
  oG 39 (.move (tm 0)) 9 38 true,
  oG 40 (.move (tm 1)) 3 38 true,
  oG 41 (.index 9 (tm 39) (tm 40)) 5 38 true,
  oG 42 (cF 47 #[(tm 41)] #[5]) 4 38 true,
  oA 43 (.pick (tm 38) (tm 42) (.const (.bool false))) 4]
def c66_32 : AC := .region o66_32 []
abbrev o66_35 : List AO := [oA 44 (.move (tm 7)) 3,
  oA 45 (.binOp .mul 3 (ci 10) (tm 44) 3) 3,
  oA 46 (.move (tm 0)) 9,
  oA 47 (.move (tm 1)) 3,
  oA 48 (.index 9 (tm 46) (tm 47)) 5,
  oA 49 (.binOp .sub 5 (tm 48) (.const (.int .u8 48)) 5) 5,
  oA 50 (.convert 5 3 (tm 49)) 3,
  oA 51 (.binOp .add 3 (tm 45) (tm 50) 3) 3,
  oA 52 (cB .min #[(tm 51), (ci 18014398509481984)] #[3, 3]) 3,
  oA 7 (.assign (tm 52)) 3]
def c66_35 : AC := .region o66_35 []
abbrev o66_37 : List AO := [oA 53 (.move (tm 1)) 3,
  oA 54 (.binOp .add 3 (tm 53) (ci 1) 3) 3,
  oA 1 (.assign (tm 54)) 3]
def c66_37 : AC := .region o66_37 []
def c66_38 : AC := .goto 0
def c66_36 : AC := .seq c66_37 c66_38
def c66_34 : AC := .seq c66_35 c66_36
def c66_39 : AC := .skip
def c66_33 : AC := .cond (tm 43) c66_34 c66_39
def c66_31 : AC := .seq c66_32 c66_33
abbrev o66_42 : List AO := [oA 55 (.move (tm 0)) 9,
  oA 56 (.move (tm 9)) 3,
  oA 57 (.index 9 (tm 55) (tm 56)) 5,
  oA 58 (.binOp .eql 5 (tm 57) (.const (.int .u8 48)) 5) 4,
  oA 59 (.move (tm 58)) 4,
  oG 60 (.move (tm 1)) 3 59 true,
  oG 61 (.move (tm 9)) 3 59 true,
  oG 62 (.binOp .add 3 (tm 61) (ci 1) 3) 3 59 true,
  oG 63 (.binOp .gtr 3 (tm 60) (tm 62) 3) 4 59 true,
  oG 64 (.move (tm 63)) 4 59 true,
  oG 65 (.move (tm 8)) 3 64 false,
  oG 66 (.binOp .lss 3 (tm 65) (ci 0) 3) 4 64 false,
  oG 67 (.pick (tm 64) (.const (.bool true)) (tm 66)) 4 59 true,
  oA 68 (.pick (tm 59) (tm 67) (.const (.bool false))) 4]
def c66_42 : AC := .region o66_42 []
abbrev o66_45 : List AO := [oA 4 (.assign (ci 0)) 3,
  oA 5 (.assign (ci 0)) 3,
  oA 6 (.assign (ci 6)) 39]
def c66_45 : AC := .region o66_45 []
def c66_46 : AC := .ret
def c66_44 : AC := .seq c66_45 c66_46
def c66_47 : AC := .skip
def c66_43 : AC := .cond (tm 68) c66_44 c66_47
def c66_41 : AC := .seq c66_42 c66_43
abbrev o66_49 : List AO := [oA 69 (.move (tm 8)) 3,
  oA 70 (.move (tm 7)) 3,
  oA 71 (.binOp .mul 3 (tm 69) (tm 70) 3) 3,
  oA 72 (.move (tm 1)) 3,
  oA 4 (.assign (tm 71)) 3,
  oA 5 (.assign (tm 72)) 3,
  oA 6 (.assign (ci 0)) 39]
def c66_49 : AC := .region o66_49 []
def c66_50 : AC := .ret
def c66_48 : AC := .seq c66_49 c66_50
def c66_40 : AC := .seq c66_41 c66_48
def c66_30 : AC := .seq c66_31 c66_40
def c66_28 : AC := .seq c66_29 c66_30
def c66_13 : AC := .seq c66_14 c66_28
def c66_11 : AC := .seq c66_12 c66_13
def c66_5 : AC := .seq c66_6 c66_11
def c66_3 : AC := .seq c66_4 c66_5
def c66_2 : AC := .scope c66_3
def c66_0 : AC := .seq c66_1 c66_2
theorem r66_0 : SeqR Cx 66 c66_0 c66_1 c66_2 ∧ RegR Cx 66 c66_1 o66_1 ∧ ScopeR Cx 66 c66_2 c66_3 ∧ SeqR Cx 66 c66_3 c66_4 c66_5 ∧ RegR Cx 66 c66_4 o66_4 ∧ SeqR Cx 66 c66_5 c66_6 c66_11 ∧ SeqR Cx 66 c66_6 c66_7 c66_8 ∧ RegR Cx 66 c66_7 o66_7 := ⟨run_seq, run_region, run_scope, run_seq, run_region, run_seq, run_seq, run_region⟩
theorem r66_1 : CondR Cx 66 c66_8 (tm 19) c66_9 c66_10 ∧ RegR Cx 66 c66_9 o66_9 ∧ SkipR Cx 66 c66_10 ∧ SeqR Cx 66 c66_11 c66_12 c66_13 ∧ RegR Cx 66 c66_12 o66_12 ∧ SeqR Cx 66 c66_13 c66_14 c66_28 ∧ BlkR Cx 66 c66_14 0 c66_15 ∧ SeqR Cx 66 c66_15 c66_16 c66_17 := ⟨run_condC, run_region, run_skip, run_seq, run_region, run_seq, run_block, run_seq⟩
theorem r66_2 : RegR Cx 66 c66_16 o66_16 ∧ CondR Cx 66 c66_17 (tm 23) c66_18 c66_21 ∧ SeqR Cx 66 c66_18 c66_19 c66_20 ∧ RegR Cx 66 c66_19 o66_19 ∧ RetR Cx 66 c66_20 ∧ SeqR Cx 66 c66_21 c66_22 c66_23 ∧ RegR Cx 66 c66_22 o66_22 ∧ CondR Cx 66 c66_23 (tm 28) c66_24 c66_27 := ⟨run_region, run_condC, run_seq, run_region, run_ret, run_seq, run_region, run_condC⟩
theorem r66_3 : SeqR Cx 66 c66_24 c66_25 c66_26 ∧ RegR Cx 66 c66_25 o66_25 ∧ RetR Cx 66 c66_26 ∧ SkipR Cx 66 c66_27 ∧ SeqR Cx 66 c66_28 c66_29 c66_30 ∧ SkipR Cx 66 c66_29 ∧ SeqR Cx 66 c66_30 c66_31 c66_40 ∧ SeqR Cx 66 c66_31 c66_32 c66_33 := ⟨run_seq, run_region, run_ret, run_skip, run_seq, run_label, run_seq, run_seq⟩
theorem r66_4 : RegR Cx 66 c66_32 o66_32 ∧ CondR Cx 66 c66_33 (tm 43) c66_34 c66_39 ∧ SeqR Cx 66 c66_34 c66_35 c66_36 ∧ RegR Cx 66 c66_35 o66_35 ∧ SeqR Cx 66 c66_36 c66_37 c66_38 ∧ RegR Cx 66 c66_37 o66_37 ∧ SkipR Cx 66 c66_39 ∧ SeqR Cx 66 c66_40 c66_41 c66_48 := ⟨run_region, run_condC, run_seq, run_region, run_seq, run_region, run_skip, run_seq⟩
theorem r66_5 : SeqR Cx 66 c66_41 c66_42 c66_43 ∧ RegR Cx 66 c66_42 o66_42 ∧ CondR Cx 66 c66_43 (tm 68) c66_44 c66_47 ∧ SeqR Cx 66 c66_44 c66_45 c66_46 ∧ RegR Cx 66 c66_45 o66_45 ∧ RetR Cx 66 c66_46 ∧ SkipR Cx 66 c66_47 ∧ SeqR Cx 66 c66_48 c66_49 c66_50 := ⟨run_seq, run_region, run_condC, run_seq, run_region, run_ret, run_skip, run_seq⟩
theorem r66_6 : RegR Cx 66 c66_49 o66_49 ∧ RetR Cx 66 c66_50 := ⟨run_region, run_ret⟩
theorem body66 : bodyOf Cx 66 = some c66_0 := by kernel_rfl
theorem res66 : resOf Cx 66 = some [.tmp 4, .tmp 5, .tmp 6] := by kernel_rfl
theorem pure66 : Cx.pure 66 = true := by kernel_rfl
abbrev o67_1 : List AO := [oA 2 (.box 24 (tm 0)) 0,
  oA 3 (.box 24 (tm 1)) 0,
  oA 4 (.alloc 24) 0,
  oA 5 (.assign (ci 0)) 39]
def c67_1 : AC := .region o67_1 []
abbrev o67_4 : List AO := [oA 6 (.load 24 (tm 2)) 24,
  oA 7 (cF 24 #[(tm 6)] #[24]) 4,
  oA 8 (.unOp .not 4 (tm 7)) 4,
  oA 9 (.move (tm 8)) 4,
  oG 10 (.load 24 (tm 3)) 24 9 false,
  oG 11 (cF 24 #[(tm 10)] #[24]) 4 9 false,
  oG 12 (.unOp .not 4 (tm 11)) 4 9 false,
  oA 13 (.pick (tm 9) (.const (.bool true)) (tm 12)) 4]
def c67_4 : AC := .region o67_4 []
abbrev o67_7 : List AO := [oA 14 (.build 24 #[]) 24,
  oN (.store 24 (tm 4) (tm 14)) 0,
  oA 5 (.assign (ci 14)) 39]
def c67_7 : AC := .region o67_7 []
def c67_8 : AC := .ret
def c67_6 : AC := .seq c67_7 c67_8
def c67_9 : AC := .skip
def c67_5 : AC := .cond (tm 13) c67_6 c67_9
def c67_3 : AC := .seq c67_4 c67_5
abbrev o67_11 : List AO := [oA 15 (.load 24 (tm 2)) 24,
  oA 16 (cF 81 #[(tm 15)] #[24]) 132,
  oA 17 (.load 24 (tm 3)) 24,
  oA 18 (cF 81 #[(tm 17)] #[24]) 132,
  oA 19 (.binOp .add 132 (tm 16) (tm 18) 132) 132,
  oA 20 (cF 80 #[(tm 19)] #[132]) 109,
  oA 21 (.extract (tm 20) 0) 24,
  oA 22 (.extract (tm 20) 1) 39,
  oN (.store 24 (tm 4) (tm 21)) 0,
  oA 5 (.assign (tm 22)) 39]
def c67_11 : AC := .region o67_11 []
def c67_12 : AC := .ret
def c67_10 : AC := .seq c67_11 c67_12
def c67_2 : AC := .seq c67_3 c67_10
def c67_0 : AC := .seq c67_1 c67_2
theorem r67_0 : SeqR Cx 67 c67_0 c67_1 c67_2 ∧ RegR Cx 67 c67_1 o67_1 ∧ SeqR Cx 67 c67_2 c67_3 c67_10 ∧ SeqR Cx 67 c67_3 c67_4 c67_5 ∧ RegR Cx 67 c67_4 o67_4 ∧ CondR Cx 67 c67_5 (tm 13) c67_6 c67_9 ∧ SeqR Cx 67 c67_6 c67_7 c67_8 ∧ RegR Cx 67 c67_7 o67_7 := ⟨run_seq, run_region, run_seq, run_seq, run_region, run_condC, run_seq, run_region⟩
theorem r67_1 : RetR Cx 67 c67_8 ∧ SkipR Cx 67 c67_9 ∧ SeqR Cx 67 c67_10 c67_11 c67_12 ∧ RegR Cx 67 c67_11 o67_11 ∧ RetR Cx 67 c67_12 := ⟨run_ret, run_skip, run_seq, run_region, run_ret⟩
theorem body67 : bodyOf Cx 67 = some c67_0 := by kernel_rfl
theorem res67 : resOf Cx 67 = some [.cell 4 24, .tmp 5] := by kernel_rfl
theorem pure67 : Cx.pure 67 = true := by kernel_rfl
abbrev o68_1 : List AO := [oA 2 (.box 24 (tm 0)) 0,
  oA 3 (.box 24 (tm 1)) 0,
  oA 4 (.alloc 24) 0,
  oA 5 (.assign (ci 0)) 39]
def c68_1 : AC := .region o68_1 []
abbrev o68_4 : List AO := [oA 6 (.load 24 (tm 2)) 24,
  oA 7 (cF 24 #[(tm 6)] #[24]) 4,
  oA 8 (.unOp .not 4 (tm 7)) 4,
  oA 9 (.move (tm 8)) 4,
  oG 10 (.load 24 (tm 3)) 24 9 false,
  oG 11 (cF 24 #[(tm 10)] #[24]) 4 9 false,
  oG 12 (.unOp .not 4 (tm 11)) 4 9 false,
  oA 13 (.pick (tm 9) (.const (.bool true)) (tm 12)) 4]
def c68_4 : AC := .region o68_4 []
abbrev o68_7 : List AO := [oA 14 (.build 24 #[]) 24,
  oN (.store 24 (tm 4) (tm 14)) 0,
  oA 5 (.assign (ci 14)) 39]
def c68_7 : AC := .region o68_7 []
def c68_8 : AC := .ret
def c68_6 : AC := .seq c68_7 c68_8
def c68_9 : AC := .skip
def c68_5 : AC := .cond (tm 13) c68_6 c68_9
def c68_3 : AC := .seq c68_4 c68_5
abbrev o68_11 : List AO := [oA 15 (.load 24 (tm 2)) 24,
  oA 16 (cF 81 #[(tm 15)] #[24]) 132,
  oA 17 (.load 24 (tm 3)) 24,
  oA 18 (cF 81 #[(tm 17)] #[24]) 132,
  oA 19 (.binOp .sub 132 (tm 16) (tm 18) 132) 132,
  oA 20 (cF 80 #[(tm 19)] #[132]) 109,
  oA 21 (.extract (tm 20) 0) 24,
  oA 22 (.extract (tm 20) 1) 39,
  oN (.store 24 (tm 4) (tm 21)) 0,
  oA 5 (.assign (tm 22)) 39]
def c68_11 : AC := .region o68_11 []
def c68_12 : AC := .ret
def c68_10 : AC := .seq c68_11 c68_12
def c68_2 : AC := .seq c68_3 c68_10
def c68_0 : AC := .seq c68_1 c68_2
theorem r68_0 : SeqR Cx 68 c68_0 c68_1 c68_2 ∧ RegR Cx 68 c68_1 o68_1 ∧ SeqR Cx 68 c68_2 c68_3 c68_10 ∧ SeqR Cx 68 c68_3 c68_4 c68_5 ∧ RegR Cx 68 c68_4 o68_4 ∧ CondR Cx 68 c68_5 (tm 13) c68_6 c68_9 ∧ SeqR Cx 68 c68_6 c68_7 c68_8 ∧ RegR Cx 68 c68_7 o68_7 := ⟨run_seq, run_region, run_seq, run_seq, run_region, run_condC, run_seq, run_region⟩
theorem r68_1 : RetR Cx 68 c68_8 ∧ SkipR Cx 68 c68_9 ∧ SeqR Cx 68 c68_10 c68_11 c68_12 ∧ RegR Cx 68 c68_11 o68_11 ∧ RetR Cx 68 c68_12 := ⟨run_ret, run_skip, run_seq, run_region, run_ret⟩
theorem body68 : bodyOf Cx 68 = some c68_0 := by kernel_rfl
theorem res68 : resOf Cx 68 = some [.cell 4 24, .tmp 5] := by kernel_rfl
theorem pure68 : Cx.pure 68 = true := by kernel_rfl
abbrev o69_1 : List AO := [oA 2 (.box 24 (tm 0)) 0,
  oA 3 (.box 24 (tm 1)) 0,
  oA 4 (.alloc 24) 0,
  oA 5 (.assign (ci 0)) 39]
def c69_1 : AC := .region o69_1 []
abbrev o69_4 : List AO := [oA 6 (.load 24 (tm 2)) 24,
  oA 7 (cF 24 #[(tm 6)] #[24]) 4,
  oA 8 (.unOp .not 4 (tm 7)) 4,
  oA 9 (.move (tm 8)) 4,
  oG 10 (.load 24 (tm 3)) 24 9 false,
  oG 11 (cF 24 #[(tm 10)] #[24]) 4 9 false,
  oG 12 (.unOp .not 4 (tm 11)) 4 9 false,
  oA 13 (.pick (tm 9) (.const (.bool true)) (tm 12)) 4]
def c69_4 : AC := .region o69_4 []
abbrev o69_7 : List AO := [oA 14 (.build 24 #[]) 24,
  oN (.store 24 (tm 4) (tm 14)) 0,
  oA 5 (.assign (ci 14)) 39]
def c69_7 : AC := .region o69_7 []
def c69_8 : AC := .ret
def c69_6 : AC := .seq c69_7 c69_8
def c69_9 : AC := .skip
def c69_5 : AC := .cond (tm 13) c69_6 c69_9
def c69_3 : AC := .seq c69_4 c69_5
abbrev o69_11 : List AO := [oA 15 (.load 24 (tm 2)) 24,
  oA 16 (cF 81 #[(tm 15)] #[24]) 132,
  oA 17 (.load 24 (tm 3)) 24,
  oA 18 (cF 81 #[(tm 17)] #[24]) 132,
  oA 19 (.binOp .mul 132 (tm 16) (tm 18) 132) 132,
  oA 20 (cF 80 #[(tm 19)] #[132]) 109,
  oA 21 (.extract (tm 20) 0) 24,
  oA 22 (.extract (tm 20) 1) 39,
  oN (.store 24 (tm 4) (tm 21)) 0,
  oA 5 (.assign (tm 22)) 39]
def c69_11 : AC := .region o69_11 []
def c69_12 : AC := .ret
def c69_10 : AC := .seq c69_11 c69_12
def c69_2 : AC := .seq c69_3 c69_10
def c69_0 : AC := .seq c69_1 c69_2
theorem r69_0 : SeqR Cx 69 c69_0 c69_1 c69_2 ∧ RegR Cx 69 c69_1 o69_1 ∧ SeqR Cx 69 c69_2 c69_3 c69_10 ∧ SeqR Cx 69 c69_3 c69_4 c69_5 ∧ RegR Cx 69 c69_4 o69_4 ∧ CondR Cx 69 c69_5 (tm 13) c69_6 c69_9 ∧ SeqR Cx 69 c69_6 c69_7 c69_8 ∧ RegR Cx 69 c69_7 o69_7 := ⟨run_seq, run_region, run_seq, run_seq, run_region, run_condC, run_seq, run_region⟩
theorem r69_1 : RetR Cx 69 c69_8 ∧ SkipR Cx 69 c69_9 ∧ SeqR Cx 69 c69_10 c69_11 c69_12 ∧ RegR Cx 69 c69_11 o69_11 ∧ RetR Cx 69 c69_12 := ⟨run_ret, run_skip, run_seq, run_region, run_ret⟩
theorem body69 : bodyOf Cx 69 = some c69_0 := by kernel_rfl
theorem res69 : resOf Cx 69 = some [.cell 4 24, .tmp 5] := by kernel_rfl
theorem pure69 : Cx.pure 69 = true := by kernel_rfl
abbrev o70_1 : List AO := [oA 2 (.box 24 (tm 0)) 0,
  oA 3 (.box 24 (tm 1)) 0,
  oA 4 (.alloc 24) 0,
  oA 5 (.alloc 24) 0,
  oA 6 (.assign (ci 0)) 39]
def c70_1 : AC := .region o70_1 []
abbrev o70_5 : List AO := [oA 10 (.load 24 (tm 2)) 24,
  oA 11 (cF 24 #[(tm 10)] #[24]) 4,
  oA 12 (.unOp .not 4 (tm 11)) 4,
  oA 13 (.move (tm 12)) 4,
  oG 14 (.load 24 (tm 3)) 24 13 false,
  oG 15 (cF 24 #[(tm 14)] #[24]) 4 13 false,
  oG 16 (.unOp .not 4 (tm 15)) 4 13 false,
  oA 17 (.pick (tm 13) (.const (.bool true)) (tm 16)) 4,
  oA 9 (.assign (tm 17)) 4]
def c70_5 : AC := .region o70_5 []
abbrev o70_8 : List AO := [oA 18 (.build 24 #[]) 24,
  oA 19 (.build 24 #[]) 24,
  oN (.store 24 (tm 4) (tm 18)) 0,
  oN (.store 24 (tm 5) (tm 19)) 0,
  oA 6 (.assign (ci 14)) 39]
def c70_8 : AC := .region o70_8 []
def c70_9 : AC := .ret
def c70_7 : AC := .seq c70_8 c70_9
abbrev o70_11 : List AO := [oA 21 (.load 24 (tm 3)) 24,
  oA 22 (.build 24 #[]) 24,
  oA 23 (.binOp .eql 24 (tm 21) (tm 22) 24) 4,
  oA 20 (.assign (tm 23)) 4]
def c70_11 : AC := .region o70_11 []
abbrev o70_14 : List AO := [oA 24 (.build 24 #[]) 24,
  oA 25 (.build 24 #[]) 24,
  oN (.store 24 (tm 4) (tm 24)) 0,
  oN (.store 24 (tm 5) (tm 25)) 0,
  oA 6 (.assign (ci 16)) 39]
def c70_14 : AC := .region o70_14 []
def c70_15 : AC := .ret
def c70_13 : AC := .seq c70_14 c70_15
def c70_16 : AC := .skip
def c70_12 : AC := .cond (tm 20) c70_13 c70_16
def c70_10 : AC := .seq c70_11 c70_12
def c70_6 : AC := .cond (tm 9) c70_7 c70_10
def c70_4 : AC := .seq c70_5 c70_6
def c70_3 : AC := .block 0 c70_4
abbrev o70_18 : List AO := [oA 27 (.load 24 (tm 2)) 24,
  oA 28 (.load 24 (tm 3)) 24,
  oA 29 (cF 82 #[(tm 27), (tm 28)] #[24, 24]) 134,
  oA 26 (.move (tm 29)) 134,
  oA 30 (.extract (tm 26) 0) 24,
  oA 31 (.extract (tm 26) 1) 24,
  oA 7 (.alloc 24) 0,
  oA 8 (.alloc 24) 0,
  oN (.store 24 (tm 7) (tm 30)) 0,
  oN (.store 24 (tm 8) (tm 31)) 0]
def c70_18 : AC := .region o70_18 []
abbrev o70_21 : List AO := [oA 32 (.load 24 (tm 7)) 24,
  oA 33 (cF 24 #[(tm 32)] #[24]) 4,
  oA 34 (.unOp .not 4 (tm 33)) 4,
  oA 35 (.move (tm 34)) 4,
  oG 36 (.load 24 (tm 8)) 24 35 false,
  oG 37 (cF 24 #[(tm 36)] #[24]) 4 35 false,
  oG 38 (.unOp .not 4 (tm 37)) 4 35 false,
  oA 39 (.pick (tm 35) (.const (.bool true)) (tm 38)) 4]
def c70_21 : AC := .region o70_21 []
abbrev o70_24 : List AO := [oA 40 (.build 24 #[]) 24,
  oA 41 (.build 24 #[]) 24,
  oN (.store 24 (tm 4) (tm 40)) 0,
  oN (.store 24 (tm 5) (tm 41)) 0,
  oA 6 (.assign (ci 14)) 39]
def c70_24 : AC := .region o70_24 []
def c70_25 : AC := .ret
def c70_23 : AC := .seq c70_24 c70_25
def c70_26 : AC := .skip
def c70_22 : AC := .cond (tm 39) c70_23 c70_26
def c70_20 : AC := .seq c70_21 c70_22
abbrev o70_28 : List AO := [oA 42 (.load 24 (tm 7)) 24,
  oA 43 (.load 24 (tm 8)) 24,
  oN (.store 24 (tm 4) (tm 42)) 0,
  oN (.store 24 (tm 5) (tm 43)) 0,
  oA 6 (.assign (ci 0)) 39]
def c70_28 : AC := .region o70_28 [[], [], [8], [], []]
def c70_29 : AC := .ret
def c70_27 : AC := .seq c70_28 c70_29
def c70_19 : AC := .seq c70_20 c70_27
def c70_17 : AC := .seq c70_18 c70_19
def c70_2 : AC := .seq c70_3 c70_17
def c70_0 : AC := .seq c70_1 c70_2
theorem r70_0 : SeqR Cx 70 c70_0 c70_1 c70_2 ∧ RegR Cx 70 c70_1 o70_1 ∧ SeqR Cx 70 c70_2 c70_3 c70_17 ∧ BlkR Cx 70 c70_3 0 c70_4 ∧ SeqR Cx 70 c70_4 c70_5 c70_6 ∧ RegR Cx 70 c70_5 o70_5 ∧ CondR Cx 70 c70_6 (tm 9) c70_7 c70_10 ∧ SeqR Cx 70 c70_7 c70_8 c70_9 := ⟨run_seq, run_region, run_seq, run_block, run_seq, run_region, run_condC, run_seq⟩
theorem r70_1 : RegR Cx 70 c70_8 o70_8 ∧ RetR Cx 70 c70_9 ∧ SeqR Cx 70 c70_10 c70_11 c70_12 ∧ RegR Cx 70 c70_11 o70_11 ∧ CondR Cx 70 c70_12 (tm 20) c70_13 c70_16 ∧ SeqR Cx 70 c70_13 c70_14 c70_15 ∧ RegR Cx 70 c70_14 o70_14 ∧ RetR Cx 70 c70_15 := ⟨run_region, run_ret, run_seq, run_region, run_condC, run_seq, run_region, run_ret⟩
theorem r70_2 : SkipR Cx 70 c70_16 ∧ SeqR Cx 70 c70_17 c70_18 c70_19 ∧ RegR Cx 70 c70_18 o70_18 ∧ SeqR Cx 70 c70_19 c70_20 c70_27 ∧ SeqR Cx 70 c70_20 c70_21 c70_22 ∧ RegR Cx 70 c70_21 o70_21 ∧ CondR Cx 70 c70_22 (tm 39) c70_23 c70_26 ∧ SeqR Cx 70 c70_23 c70_24 c70_25 := ⟨run_skip, run_seq, run_region, run_seq, run_seq, run_region, run_condC, run_seq⟩
theorem r70_3 : RegR Cx 70 c70_24 o70_24 ∧ RetR Cx 70 c70_25 ∧ SkipR Cx 70 c70_26 ∧ SeqR Cx 70 c70_27 c70_28 c70_29 ∧ RegD Cx 70 c70_28 o70_28 [[], [], [8], [], []] ∧ RetR Cx 70 c70_29 := ⟨run_region, run_ret, run_skip, run_seq, run_regionD, run_ret⟩
theorem body70 : bodyOf Cx 70 = some c70_0 := by kernel_rfl
theorem res70 : resOf Cx 70 = some [.cell 4 24, .cell 5 24, .tmp 6] := by kernel_rfl
theorem pure70 : Cx.pure 70 = true := by kernel_rfl
abbrev o71_1 : List AO := [oA 2 (.assign (ci 0)) 3]
def c71_1 : AC := .region o71_1 []
abbrev o71_3 : List AO := [oA 3 (.assign (ci 0)) 3]
def c71_3 : AC := .region o71_3 []
abbrev o71_6 : List AO := [oA 6 (.move (tm 0)) 55,
  oA 7 (cB .len #[(tm 6)] #[55]) 3,
  oA 8 (.move (ci 0)) 3]
def c71_6 : AC := .region o71_6 []
abbrev o71_10 : List AO := [oA 9 (.binOp .lss 3 (tm 8) (tm 7) 3) 0]
def c71_10 : AC := .region o71_10 []
def c71_13 : AC := .skip
def c71_14 : AC := .exit 0
def c71_12 : AC := .cond (tm 9) c71_13 c71_14
abbrev o71_18 : List AO := [oA 10 (.indexAddr 55 (tm 6) (tm 8)) 0,
  oA 11 (.load 3 (tm 10)) 3,
  oA 5 (.assign (tm 11)) 3]
def c71_18 : AC := .region o71_18 []
abbrev o71_20 : List AO := [oA 12 (.move (tm 5)) 3,
  oA 13 (.move (tm 3)) 3,
  oA 14 (.binOp .neq 3 (tm 12) (tm 13) 3) 4]
def c71_20 : AC := .region o71_20 []
abbrev o71_23 : List AO := [oA 15 (.move (tm 5)) 3,
  oA 2 (.assign (tm 15)) 3]
def c71_23 : AC := .region o71_23 []
def c71_24 : AC := .ret
def c71_22 : AC := .seq c71_23 c71_24
def c71_25 : AC := .skip
def c71_21 : AC := .cond (tm 14) c71_22 c71_25
def c71_19 : AC := .seq c71_20 c71_21
def c71_17 : AC := .seq c71_18 c71_19
def c71_16 : AC := .block 1 c71_17
abbrev o71_26 : List AO := [oA 16 (.binOp .add 3 (tm 8) (ci 1) 3) 3,
  oA 8 (.move (tm 16)) 3]
def c71_26 : AC := .region o71_26 []
def c71_15 : AC := .seq c71_16 c71_26
def c71_11 : AC := .seq c71_12 c71_15
def c71_9 : AC := .seq c71_10 c71_11
def c71_8 : AC := .loop c71_9
def c71_7 : AC := .block 0 c71_8
def c71_5 : AC := .seq c71_6 c71_7
abbrev o71_28 : List AO := [oA 17 (.move (tm 3)) 3,
  oA 2 (.assign (tm 17)) 3]
def c71_28 : AC := .region o71_28 []
def c71_29 : AC := .ret
def c71_27 : AC := .seq c71_28 c71_29
def c71_4 : AC := .seq c71_5 c71_27
def c71_2 : AC := .seq c71_3 c71_4
def c71_0 : AC := .seq c71_1 c71_2
theorem r71_0 : SeqR Cx 71 c71_0 c71_1 c71_2 ∧ RegR Cx 71 c71_1 o71_1 ∧ SeqR Cx 71 c71_2 c71_3 c71_4 ∧ RegR Cx 71 c71_3 o71_3 ∧ SeqR Cx 71 c71_4 c71_5 c71_27 ∧ SeqR Cx 71 c71_5 c71_6 c71_7 ∧ RegR Cx 71 c71_6 o71_6 ∧ BlkR Cx 71 c71_7 0 c71_8 := ⟨run_seq, run_region, run_seq, run_region, run_seq, run_seq, run_region, run_block⟩
theorem r71_1 : LoopR Cx 71 c71_8 c71_9 ∧ SeqR Cx 71 c71_9 c71_10 c71_11 ∧ RegR Cx 71 c71_10 o71_10 ∧ SeqR Cx 71 c71_11 c71_12 c71_15 ∧ CondR Cx 71 c71_12 (tm 9) c71_13 c71_14 ∧ SkipR Cx 71 c71_13 ∧ ExitR Cx 71 c71_14 0 ∧ SeqR Cx 71 c71_15 c71_16 c71_26 := ⟨run_loop', run_seq, run_region, run_seq, run_condC, run_skip, run_exit_start, run_seq⟩
theorem r71_2 : BlkR Cx 71 c71_16 1 c71_17 ∧ SeqR Cx 71 c71_17 c71_18 c71_19 ∧ RegR Cx 71 c71_18 o71_18 ∧ SeqR Cx 71 c71_19 c71_20 c71_21 ∧ RegR Cx 71 c71_20 o71_20 ∧ CondR Cx 71 c71_21 (tm 14) c71_22 c71_25 ∧ SeqR Cx 71 c71_22 c71_23 c71_24 ∧ RegR Cx 71 c71_23 o71_23 := ⟨run_block, run_seq, run_region, run_seq, run_region, run_condC, run_seq, run_region⟩
theorem r71_3 : RetR Cx 71 c71_24 ∧ SkipR Cx 71 c71_25 ∧ RegR Cx 71 c71_26 o71_26 ∧ SeqR Cx 71 c71_27 c71_28 c71_29 ∧ RegR Cx 71 c71_28 o71_28 ∧ RetR Cx 71 c71_29 := ⟨run_ret, run_skip, run_region, run_seq, run_region, run_ret⟩
theorem body71 : bodyOf Cx 71 = some c71_0 := by kernel_rfl
theorem res71 : resOf Cx 71 = some [.tmp 2] := by kernel_rfl
theorem pure71 : Cx.pure 71 = true := by kernel_rfl
abbrev o72_1 : List AO := [oA 4 (.assign (ci 0)) 3]
def c72_1 : AC := .region o72_1 []
abbrev o72_3 : List AO := [oA 7 (.move (tm 0)) 3,
  oA 8 (cF 83 #[(tm 7)] #[3]) 4,
  oA 5 (.assign (tm 8)) 4]
def c72_3 : AC := .region o72_3 []
abbrev o72_5 : List AO := [oA 9 (.move (tm 1)) 3,
  oA 10 (cF 83 #[(tm 9)] #[3]) 4,
  oA 6 (.assign (tm 10)) 4]
def c72_5 : AC := .region o72_5 []
abbrev o72_8 : List AO := [oA 11 (.move (tm 5)) 4]
def c72_8 : AC := .region o72_8 []
abbrev o72_12 : List AO := [oA 12 (.move (tm 6)) 4]
def c72_12 : AC := .region o72_12 []
abbrev o72_15 : List AO := [oA 4 (.assign (ci 0)) 3]
def c72_15 : AC := .region o72_15 []
def c72_16 : AC := .ret
def c72_14 : AC := .seq c72_15 c72_16
def c72_17 : AC := .skip
def c72_13 : AC := .cond (tm 12) c72_14 c72_17
def c72_11 : AC := .seq c72_12 c72_13
abbrev o72_19 : List AO := [oA 4 (.assign (ci (-1))) 3]
def c72_19 : AC := .region o72_19 []
def c72_20 : AC := .ret
def c72_18 : AC := .seq c72_19 c72_20
def c72_10 : AC := .seq c72_11 c72_18
def c72_21 : AC := .skip
def c72_9 : AC := .cond (tm 11) c72_10 c72_21
def c72_7 : AC := .seq c72_8 c72_9
abbrev o72_24 : List AO := [oA 13 (.move (tm 6)) 4]
def c72_24 : AC := .region o72_24 []
abbrev o72_27 : List AO := [oA 4 (.assign (ci 1)) 3]
def c72_27 : AC := .region o72_27 []
def c72_28 : AC := .ret
def c72_26 : AC := .seq c72_27 c72_28
def c72_29 : AC := .skip
def c72_25 : AC := .cond (tm 13) c72_26 c72_29
def c72_23 : AC := .seq c72_24 c72_25
abbrev o72_32 : List AO := [oA 14 (.move (tm 0)) 3,
  oA 15 (.move (tm 1)) 3,
  oA 16 (.binOp .lss 3 (tm 14) (tm 15) 3) 4]
def c72_32 : AC := .region o72_32 []
abbrev o72_35 : List AO := [oA 4 (.assign (ci (-1))) 3]
def c72_35 : AC := .region o72_35 []
def c72_36 : AC := .ret
def c72_34 : AC := .seq c72_35 c72_36
def c72_37 : AC := .skip
def c72_33 : AC := .cond (tm 16) c72_34 c72_37
def c72_31 : AC := .seq c72_32 c72_33
abbrev o72_40 : List AO := [oA 17 (.move (tm 0)) 3,
  oA 18 (.move (tm 1)) 3,
  oA 19 (.binOp .gtr 3 (tm 17) (tm 18) 3) 4]
def c72_40 : AC := .region o72_40 []
abbrev o72_43 : List AO := [oA 4 (.assign (ci 1)) 3]
def c72_43 : AC := .region o72_43 []
def c72_44 : AC := .ret
def c72_42 : AC := .seq c72_43 c72_44
def c72_45 : AC := .skip
def c72_41 : AC := .cond (tm 19) c72_42 c72_45
def c72_39 : AC := .seq c72_40 c72_41
abbrev o72_47 : List AO := [oA 4 (.assign (ci 0)) 3]
def c72_47 : AC := .region o72_47 []
def c72_48 : AC := .ret
def c72_46 : AC := .seq c72_47 c72_48
def c72_38 : AC := .seq c72_39 c72_46
def c72_30 : AC := .seq c72_31 c72_38
def c72_22 : AC := .seq c72_23 c72_30
def c72_6 : AC := .seq c72_7 c72_22
def c72_4 : AC := .seq c72_5 c72_6
def c72_2 : AC := .seq c72_3 c72_4
def c72_0 : AC := .seq c72_1 c72_2
theorem r72_0 : SeqR Cx 72 c72_0 c72_1 c72_2 ∧ RegR Cx 72 c72_1 o72_1 ∧ SeqR Cx 72 c72_2 c72_3 c72_4 ∧ RegR Cx 72 c72_3 o72_3 ∧ SeqR Cx 72 c72_4 c72_5 c72_6 ∧ RegR Cx 72 c72_5 o72_5 ∧ SeqR Cx 72 c72_6 c72_7 c72_22 ∧ SeqR Cx 72 c72_7 c72_8 c72_9 := ⟨run_seq, run_region, run_seq, run_region, run_seq, run_region, run_seq, run_seq⟩
theorem r72_1 : RegR Cx 72 c72_8 o72_8 ∧ CondR Cx 72 c72_9 (tm 11) c72_10 c72_21 ∧ SeqR Cx 72 c72_10 c72_11 c72_18 ∧ SeqR Cx 72 c72_11 c72_12 c72_13 ∧ RegR Cx 72 c72_12 o72_12 ∧ CondR Cx 72 c72_13 (tm 12) c72_14 c72_17 ∧ SeqR Cx 72 c72_14 c72_15 c72_16 ∧ RegR Cx 72 c72_15 o72_15 := ⟨run_region, run_condC, run_seq, run_seq, run_region, run_condC, run_seq, run_region⟩
theorem r72_2 : RetR Cx 72 c72_16 ∧ SkipR Cx 72 c72_17 ∧ SeqR Cx 72 c72_18 c72_19 c72_20 ∧ RegR Cx 72 c72_19 o72_19 ∧ RetR Cx 72 c72_20 ∧ SkipR Cx 72 c72_21 ∧ SeqR Cx 72 c72_22 c72_23 c72_30 ∧ SeqR Cx 72 c72_23 c72_24 c72_25 := ⟨run_ret, run_skip, run_seq, run_region, run_ret, run_skip, run_seq, run_seq⟩
theorem r72_3 : RegR Cx 72 c72_24 o72_24 ∧ CondR Cx 72 c72_25 (tm 13) c72_26 c72_29 ∧ SeqR Cx 72 c72_26 c72_27 c72_28 ∧ RegR Cx 72 c72_27 o72_27 ∧ RetR Cx 72 c72_28 ∧ SkipR Cx 72 c72_29 ∧ SeqR Cx 72 c72_30 c72_31 c72_38 ∧ SeqR Cx 72 c72_31 c72_32 c72_33 := ⟨run_region, run_condC, run_seq, run_region, run_ret, run_skip, run_seq, run_seq⟩
theorem r72_4 : RegR Cx 72 c72_32 o72_32 ∧ CondR Cx 72 c72_33 (tm 16) c72_34 c72_37 ∧ SeqR Cx 72 c72_34 c72_35 c72_36 ∧ RegR Cx 72 c72_35 o72_35 ∧ RetR Cx 72 c72_36 ∧ SkipR Cx 72 c72_37 ∧ SeqR Cx 72 c72_38 c72_39 c72_46 ∧ SeqR Cx 72 c72_39 c72_40 c72_41 := ⟨run_region, run_condC, run_seq, run_region, run_ret, run_skip, run_seq, run_seq⟩
theorem r72_5 : RegR Cx 72 c72_40 o72_40 ∧ CondR Cx 72 c72_41 (tm 19) c72_42 c72_45 ∧ SeqR Cx 72 c72_42 c72_43 c72_44 ∧ RegR Cx 72 c72_43 o72_43 ∧ RetR Cx 72 c72_44 ∧ SkipR Cx 72 c72_45 ∧ SeqR Cx 72 c72_46 c72_47 c72_48 ∧ RegR Cx 72 c72_47 o72_47 := ⟨run_region, run_condC, run_seq, run_region, run_ret, run_skip, run_seq, run_region⟩
theorem r72_6 : RetR Cx 72 c72_48 := run_ret
theorem body72 : bodyOf Cx 72 = some c72_0 := by kernel_rfl
theorem res72 : resOf Cx 72 = some [.tmp 4] := by kernel_rfl
theorem pure72 : Cx.pure 72 = true := by kernel_rfl
abbrev o73_1 : List AO := [oA 4 (.assign (ci 0)) 3]
def c73_1 : AC := .region o73_1 []
abbrev o73_3 : List AO := [oA 5 (.move (tm 0)) 9,
  oA 6 (.move (tm 1)) 9,
  oA 7 (cF 84 #[(tm 5), (tm 6)] #[9, 9]) 3,
  oA 4 (.assign (tm 7)) 3]
def c73_3 : AC := .region o73_3 []
def c73_4 : AC := .ret
def c73_2 : AC := .seq c73_3 c73_4
def c73_0 : AC := .seq c73_1 c73_2
theorem r73_0 : SeqR Cx 73 c73_0 c73_1 c73_2 ∧ RegR Cx 73 c73_1 o73_1 ∧ SeqR Cx 73 c73_2 c73_3 c73_4 ∧ RegR Cx 73 c73_3 o73_3 ∧ RetR Cx 73 c73_4 := ⟨run_seq, run_region, run_seq, run_region, run_ret⟩
theorem body73 : bodyOf Cx 73 = some c73_0 := by kernel_rfl
theorem res73 : resOf Cx 73 = some [.tmp 4] := by kernel_rfl
theorem pure73 : Cx.pure 73 = true := by kernel_rfl
abbrev o74_1 : List AO := [oA 4 (.assign (.const (.slice none 0 0))) 88]
def c74_1 : AC := .region o74_1 []
abbrev o74_3 : List AO := [oA 12 (.makeSlice 136 (ci 0) (ci 32)) 136,
  oA 5 (.assign (tm 12)) 136]
def c74_3 : AC := .region o74_3 []
abbrev o74_5 : List AO := [oA 6 (.assign (ci (-1))) 3]
def c74_5 : AC := .region o74_5 []
abbrev o74_8 : List AO := [oA 13 (.move (tm 0)) 9,
  oA 14 (.range 9 (tm 13)) 0]
def c74_8 : AC := .region o74_8 []
abbrev o74_12 : List AO := [oA 15 (.next (tm 14) true) 0,
  oA 16 (.extract (tm 15) 0) 4]
def c74_12 : AC := .region o74_12 []
def c74_15 : AC := .skip
def c74_16 : AC := .exit 0
def c74_14 : AC := .cond (tm 16) c74_15 c74_16
abbrev o74_19 : List AO := [oA 17 (.extract (tm 15) 1) 3,
  oA 18 (.extract (tm 15) 2) 21,
  oA 7 (.assign (tm 17)) 3,
  oA 8 (.assign (tm 18)) 21]
def c74_19 : AC := .region o74_19 []
abbrev o74_21 : List AO := [oA 19 (.move (tm 1)) 126,
  oA 20 (.move (tm 8)) 21,
  oA 21 (cV 19 #[(tm 20)] #[21]) 4]
def c74_21 : AC := .region o74_21 []
abbrev o74_24 : List AO := [oA 22 (.move (tm 6)) 3,
  oA 23 (.binOp .geq 3 (tm 22) (ci 0) 3) 4]
def c74_24 : AC := .region o74_24 []
abbrev o74_27 : List AO := [oA 24 (.move (tm 5)) 136,
  oA 25 (.move (tm 6)) 3,
  oA 26 (.move (tm 7)) 3,
  oA 27 (.build 138 #[(0, (tm 25)), (1, (tm 26))]) 138,
  oA 28 (.buildSlice 136 1 #[(0, (tm 27))]) 136,
  oA 29 (cB .append #[(tm 24), (tm 28)] #[136, 136]) 136,
  oA 5 (.assign (tm 29)) 136]
def c74_27 : AC := .region o74_27 []
abbrev o74_28 : List AO := [oA 30 (.move (tm 6)) 3,
  oA 31 (.unOp .xor 3 (tm 30)) 3,
  oA 6 (.assign (tm 31)) 3]
def c74_28 : AC := .region o74_28 []
def c74_26 : AC := .seq c74_27 c74_28
def c74_29 : AC := .skip
def c74_25 : AC := .cond (tm 23) c74_26 c74_29
def c74_23 : AC := .seq c74_24 c74_25
abbrev o74_31 : List AO := [oA 32 (.move (tm 6)) 3,
  oA 33 (.binOp .lss 3 (tm 32) (ci 0) 3) 4]
def c74_31 : AC := .region o74_31 []
abbrev o74_33 : List AO := [oA 34 (.move (tm 7)) 3,
  oA 6 (.assign (tm 34)) 3]
def c74_33 : AC := .region o74_33 []
def c74_34 : AC := .skip
def c74_32 : AC := .cond (tm 33) c74_33 c74_34
def c74_30 : AC := .seq c74_31 c74_32
def c74_22 : AC := .cond (tm 21) c74_23 c74_30
def c74_20 : AC := .seq c74_21 c74_22
def c74_18 : AC := .seq c74_19 c74_20
def c74_17 : AC := .block 1 c74_18
def c74_13 : AC := .seq c74_14 c74_17
def c74_11 : AC := .seq c74_12 c74_13
def c74_10 : AC := .loop c74_11
def c74_9 : AC := .block 0 c74_10
def c74_7 : AC := .seq c74_8 c74_9
abbrev o74_37 : List AO := [oA 35 (.move (tm 6)) 3,
  oA 36 (.binOp .geq 3 (tm 35) (ci 0) 3) 4]
def c74_37 : AC := .region o74_37 []
abbrev o74_39 : List AO := [oA 37 (.move (tm 5)) 136,
  oA 38 (.move (tm 6)) 3,
  oA 39 (.move (tm 0)) 9,
  oA 40 (cB .len #[(tm 39)] #[9]) 3,
  oA 41 (.build 138 #[(0, (tm 38)), (1, (tm 40))]) 138,
  oA 42 (.buildSlice 136 1 #[(0, (tm 41))]) 136,
  oA 43 (cB .append #[(tm 37), (tm 42)] #[136, 136]) 136,
  oA 5 (.assign (tm 43)) 136]
def c74_39 : AC := .region o74_39 []
def c74_40 : AC := .skip
def c74_38 : AC := .cond (tm 36) c74_39 c74_40
def c74_36 : AC := .seq c74_37 c74_38
abbrev o74_42 : List AO := [oA 44 (.move (tm 5)) 136,
  oA 45 (cB .len #[(tm 44)] #[136]) 3,
  oA 46 (.makeSlice 88 (tm 45) (tm 45)) 88,
  oA 9 (.assign (tm 46)) 88]
def c74_42 : AC := .region o74_42 []
abbrev o74_45 : List AO := [oA 47 (.move (tm 5)) 136,
  oA 48 (cB .len #[(tm 47)] #[136]) 3,
  oA 49 (.move (ci 0)) 3]
def c74_45 : AC := .region o74_45 []
abbrev o74_49 : List AO := [oA 50 (.binOp .lss 3 (tm 49) (tm 48) 3) 0]
def c74_49 : AC := .region o74_49 []
def c74_52 : AC := .skip
def c74_53 : AC := .exit 2
def c74_51 : AC := .cond (tm 50) c74_52 c74_53
abbrev o74_57 : List AO := [oA 51 (.move (tm 49)) 3,
  oA 52 (.indexAddr 136 (tm 47) (tm 49)) 0,
  oA 53 (.load 138 (tm 52)) 138,
  oA 11 (.alloc 138) 0,
  oA 10 (.assign (tm 51)) 3,
  oN (.store 138 (tm 11) (tm 53)) 0]
def c74_57 : AC := .region o74_57 []
abbrev o74_58 : List AO := [oA 54 (.move (tm 9)) 88,
  oA 55 (.move (tm 10)) 3,
  oA 56 (.move (tm 0)) 9,
  oA 57 (.fieldAddr 138 (tm 11) 0) 0,
  oA 58 (.load 3 (tm 57)) 3,
  oA 59 (.fieldAddr 138 (tm 11) 1) 0,
  oA 60 (.load 3 (tm 59)) 3,
  oA 61 (.slice 9 (tm 56) (some (tm 58)) (some (tm 60)) none) 9,
  oA 62 (.indexAddr 88 (tm 54) (tm 55)) 0,
  oN (.store 9 (tm 62) (tm 61)) 0]
def c74_58 : AC := .region o74_58 []
def c74_56 : AC := .seq c74_57 c74_58
def c74_55 : AC := .block 3 c74_56
abbrev o74_59 : List AO := [oA 63 (.binOp .add 3 (tm 49) (ci 1) 3) 3,
  oA 49 (.move (tm 63)) 3]
def c74_59 : AC := .region o74_59 []
def c74_54 : AC := .seq c74_55 c74_59
def c74_50 : AC := .seq c74_51 c74_54
def c74_48 : AC := .seq c74_49 c74_50
def c74_47 : AC := .loop c74_48
def c74_46 : AC := .block 2 c74_47
def c74_44 : AC := .seq c74_45 c74_46
abbrev o74_61 : List AO := [oA 64 (.move (tm 9)) 88,
  oA 4 (.assign (tm 64)) 88]
def c74_61 : AC := .region o74_61 []
def c74_62 : AC := .ret
def c74_60 : AC := .seq c74_61 c74_62
def c74_43 : AC := .seq c74_44 c74_60
def c74_41 : AC := .seq c74_42 c74_43
def c74_35 : AC := .seq c74_36 c74_41
def c74_6 : AC := .seq c74_7 c74_35
def c74_4 : AC := .seq c74_5 c74_6
def c74_2 : AC := .seq c74_3 c74_4
def c74_0 : AC := .seq c74_1 c74_2
theorem r74_0 : SeqR Cx 74 c74_0 c74_1 c74_2 ∧ RegR Cx 74 c74_1 o74_1 ∧ SeqR Cx 74 c74_2 c74_3 c74_4 ∧ RegR Cx 74 c74_3 o74_3 ∧ SeqR Cx 74 c74_4 c74_5 c74_6 ∧ RegR Cx 74 c74_5 o74_5 ∧ SeqR Cx 74 c74_6 c74_7 c74_35 ∧ SeqR Cx 74 c74_7 c74_8 c74_9 := ⟨run_seq, run_region, run_seq, run_region, run_seq, run_region, run_seq, run_seq⟩
theorem r74_1 : RegR Cx 74 c74_8 o74_8 ∧ BlkR Cx 74 c74_9 0 c74_10 ∧ LoopR Cx 74 c74_10 c74_11 ∧ SeqR Cx 74 c74_11 c74_12 c74_13 ∧ RegR Cx 74 c74_12 o74_12 ∧ SeqR Cx 74 c74_13 c74_14 c74_17 ∧ CondR Cx 74 c74_14 (tm 16) c74_15 c74_16 ∧ SkipR Cx 74 c74_15 := ⟨run_region, run_block, run_loop', run_seq, run_region, run_seq, run_condC, run_skip⟩
theorem r74_2 : ExitR Cx 74 c74_16 0 ∧ BlkR Cx 74 c74_17 1 c74_18 ∧ SeqR Cx 74 c74_18 c74_19 c74_20 ∧ RegR Cx 74 c74_19 o74_19 ∧ SeqR Cx 74 c74_20 c74_21 c74_22 ∧ RegR Cx 74 c74_21 o74_21 ∧ CondR Cx 74 c74_22 (tm 21) c74_23 c74_30 ∧ SeqR Cx 74 c74_23 c74_24 c74_25 := ⟨run_exit_start, run_block, run_seq, run_region, run_seq, run_region, run_condC, run_seq⟩
theorem r74_3 : RegR Cx 74 c74_24 o74_24 ∧ CondR Cx 74 c74_25 (tm 23) c74_26 c74_29 ∧ SeqR Cx 74 c74_26 c74_27 c74_28 ∧ RegR Cx 74 c74_27 o74_27 ∧ RegR Cx 74 c74_28 o74_28 ∧ SkipR Cx 74 c74_29 ∧ SeqR Cx 74 c74_30 c74_31 c74_32 ∧ RegR Cx 74 c74_31 o74_31 := ⟨run_region, run_condC, run_seq, run_region, run_region, run_skip, run_seq, run_region⟩
theorem r74_4 : CondR Cx 74 c74_32 (tm 33) c74_33 c74_34 ∧ RegR Cx 74 c74_33 o74_33 ∧ SkipR Cx 74 c74_34 ∧ SeqR Cx 74 c74_35 c74_36 c74_41 ∧ SeqR Cx 74 c74_36 c74_37 c74_38 ∧ RegR Cx 74 c74_37 o74_37 ∧ CondR Cx 74 c74_38 (tm 36) c74_39 c74_40 ∧ RegR Cx 74 c74_39 o74_39 := ⟨run_condC, run_region, run_skip, run_seq, run_seq, run_region, run_condC, run_region⟩
theorem r74_5 : SkipR Cx 74 c74_40 ∧ SeqR Cx 74 c74_41 c74_42 c74_43 ∧ RegR Cx 74 c74_42 o74_42 ∧ SeqR Cx 74 c74_43 c74_44 c74_60 ∧ SeqR Cx 74 c74_44 c74_45 c74_46 ∧ RegR Cx 74 c74_45 o74_45 ∧ BlkR Cx 74 c74_46 2 c74_47 ∧ LoopR Cx 74 c74_47 c74_48 := ⟨run_skip, run_seq, run_region, run_seq, run_seq, run_region, run_block, run_loop'⟩
theorem r74_6 : SeqR Cx 74 c74_48 c74_49 c74_50 ∧ RegR Cx 74 c74_49 o74_49 ∧ SeqR Cx 74 c74_50 c74_51 c74_54 ∧ CondR Cx 74 c74_51 (tm 50) c74_52 c74_53 ∧ SkipR Cx 74 c74_52 ∧ ExitR Cx 74 c74_53 2 ∧ SeqR Cx 74 c74_54 c74_55 c74_59 ∧ BlkR Cx 74 c74_55 3 c74_56 := ⟨run_seq, run_region, run_seq, run_condC, run_skip, run_exit_start, run_seq, run_block⟩
theorem r74_7 : SeqR Cx 74 c74_56 c74_57 c74_58 ∧ RegR Cx 74 c74_57 o74_57 ∧ RegR Cx 74 c74_58 o74_58 ∧ RegR Cx 74 c74_59 o74_59 ∧ SeqR Cx 74 c74_60 c74_61 c74_62 ∧ RegR Cx 74 c74_61 o74_61 ∧ RetR Cx 74 c74_62 := ⟨run_seq, run_region, run_region, run_region, run_seq, run_region, run_ret⟩
theorem body74 : bodyOf Cx 74 = some c74_0 := by kernel_rfl
theorem res74 : resOf Cx 74 = some [.tmp 4] := by kernel_rfl
theorem pure74 : Cx.pure 74 = false := by kernel_rfl
abbrev o75_1 : List AO := [oA 2 (.assign (.const (.bool false))) 4]
def c75_1 : AC := .region o75_1 []
abbrev o75_3 : List AO := [oA 3 (.move (tm 0)) 21,
  oA 4 (.binOp .eql 21 (tm 3) (.const (.int .i32 32)) 21) 4,
  oA 2 (.assign (tm 4)) 4]
def c75_3 : AC := .region o75_3 []
def c75_4 : AC := .ret
def c75_2 : AC := .seq c75_3 c75_4
def c75_0 : AC := .seq c75_1 c75_2
theorem r75_0 : SeqR Cx 75 c75_0 c75_1 c75_2 ∧ RegR Cx 75 c75_1 o75_1 ∧ SeqR Cx 75 c75_2 c75_3 c75_4 ∧ RegR Cx 75 c75_3 o75_3 ∧ RetR Cx 75 c75_4 := ⟨run_seq, run_region, run_seq, run_region, run_ret⟩
theorem body75 : bodyOf Cx 75 = some c75_0 := by kernel_rfl
theorem res75 : resOf Cx 75 = some [.tmp 2] := by kernel_rfl
theorem pure75 : Cx.pure 75 = true := by kernel_rfl
abbrev o76_1 : List AO := [oA 1 (.box 24 (tm 0)) 0,
  oA 2 (.assign (ci 0)) 3]
def c76_1 : AC := .region o76_1 []
abbrev o76_3 : List AO := [oA 3 (.fieldAddr 24 (tm 1) 0) 0,
  oA 4 (.load 3 (tm 3)) 3,
  oA 5 (.fieldAddr 24 (tm 1) 0) 0,
  oA 6 (.load 3 (tm 5)) 3,
  oA 7 (.binOp .mul 3 (tm 4) (tm 6) 3) 3,
  oA 8 (.fieldAddr 24 (tm 1) 1) 0,
  oA 9 (.load 3 (tm 8)) 3,
  oA 10 (.fieldAddr 24 (tm 1) 1) 0,
  oA 11 (.load 3 (tm 10)) 3,
  oA 12 (.binOp .mul 3 (tm 9) (tm 11) 3) 3,
  oA 13 (.binOp .add 3 (tm 7) (tm 12) 3) 3,
  oA 2 (.assign (tm 13)) 3]
def c76_3 : AC := .region o76_3 []
def c76_4 : AC := .ret
def c76_2 : AC := .seq c76_3 c76_4
def c76_0 : AC := .seq c76_1 c76_2
theorem r76_0 : SeqR Cx 76 c76_0 c76_1 c76_2 ∧ RegR Cx 76 c76_1 o76_1 ∧ SeqR Cx 76 c76_2 c76_3 c76_4 ∧ RegR Cx 76 c76_3 o76_3 ∧ RetR Cx 76 c76_4 := ⟨run_seq, run_region, run_seq, run_region, run_ret⟩
theorem body76 : bodyOf Cx 76 = some c76_0 := by kernel_rfl
theorem res76 : resOf Cx 76 = some [.tmp 2] := by kernel_rfl
theorem pure76 : Cx.pure 76 = true := by kernel_rfl
abbrev o77_1 : List AO := [oA 2 (.assign (.const (.string ⟨#[]⟩))) 9]
def c77_1 : AC := .region o77_1 []
abbrev o77_4 : List AO := [oA 4 (.move (tm 0)) 3,
  oA 5 (.binOp .lss 3 (tm 4) (ci 0) 3) 4]
def c77_4 : AC := .region o77_4 []
abbrev o77_7 : List AO := [oA 6 (.move (tm 0)) 3,
  oA 7 (.unOp .neg 3 (tm 6)) 3,
  oA 8 (cF 77 #[(tm 7)] #[3]) 9,
  oA 9 (.binOp .add 9 (.const (.string ⟨#[45]⟩)) (tm 8) 9) 9,
  oA 2 (.assign (tm 9)) 9]
def c77_7 : AC := .region o77_7 []
def c77_8 : AC := .ret
def c77_6 : AC := .seq c77_7 c77_8
def c77_9 : AC := .skip
def c77_5 : AC := .cond (tm 5) c77_6 c77_9
def c77_3 : AC := .seq c77_4 c77_5
abbrev o77_11 : List AO := [oA 3 (.assign (.const (.string ⟨#[]⟩))) 9]
def c77_11 : AC := .region o77_11 []
abbrev o77_16 : List AO := [oA 10 (.move (tm 0)) 3,
  oA 11 (.binOp .rem 3 (tm 10) (ci 10) 3) 3,
  oA 12 (.move (tm 0)) 3,
  oA 13 (.binOp .rem 3 (tm 12) (ci 10) 3) 3,
  oA 14 (.binOp .add 3 (tm 13) (ci 1) 3) 3,
  oA 15 (.slice 9 (.const (.string ⟨#[48, 49, 50, 51, 52, 53, 54, 55, 56, 57, 97, 98, 99, 100, 101, 102]⟩)) (some (tm 11)) (some (tm 14)) none) 9,
  oA 16 (.move (tm 3)) 9,
  oA 17 (.binOp .add 9 (tm 15) (tm 16) 9) 9,
  oA 3 (.assign (tm 17)) 9]
def c77_16 : AC := .region o77_16 []
abbrev o77_18 : List AO := [oA 18 (.move (tm 0)) 3,
  oA 19 (.binOp .quo 3 (tm 18) (ci 10) 3) 3,
  oA 0 (.assign (tm 19)) 3]
def c77_18 : AC := .region o77_18 []
abbrev o77_20 : List AO := [oA 20 (.move (tm 0)) 3,
  oA 21 (.binOp .eql 3 (tm 20) (ci 0) 3) 4]
def c77_20 : AC := .region o77_20 []
abbrev o77_23 : List AO := [oA 22 (.move (tm 3)) 9,
  oA 2 (.assign (tm 22)) 9]
def c77_23 : AC := .region o77_23 []
def c77_24 : AC := .ret
def c77_22 : AC := .seq c77_23 c77_24
def c77_25 : AC := .skip
def c77_21 : AC := .cond (tm 21) c77_22 c77_25
def c77_19 : AC := .seq c77_20 c77_21
def c77_17 : AC := .seq c77_18 c77_19
def c77_15 : AC := .seq c77_16 c77_17
def c77_14 : AC := .block 1 c77_15
def c77_13 : AC := .loop c77_14
def c77_12 : AC := .block 0 c77_13
def c77_10 : AC := .seq c77_11 c77_12
def c77_2 : AC := .seq c77_3 c77_10
def c77_0 : AC := .seq c77_1 c77_2
theorem r77_0 : SeqR Cx 77 c77_0 c77_1 c77_2 ∧ RegR Cx 77 c77_1 o77_1 ∧ SeqR Cx 77 c77_2 c77_3 c77_10 ∧ SeqR Cx 77 c77_3 c77_4 c77_5 ∧ RegR Cx 77 c77_4 o77_4 ∧ CondR Cx 77 c77_5 (tm 5) c77_6 c77_9 ∧ SeqR Cx 77 c77_6 c77_7 c77_8 ∧ RegR Cx 77 c77_7 o77_7 := ⟨run_seq, run_region, run_seq, run_seq, run_region, run_condC, run_seq, run_region⟩
theorem r77_1 : RetR Cx 77 c77_8 ∧ SkipR Cx 77 c77_9 ∧ SeqR Cx 77 c77_10 c77_11 c77_12 ∧ RegR Cx 77 c77_11 o77_11 ∧ BlkR Cx 77 c77_12 0 c77_13 ∧ LoopR Cx 77 c77_13 c77_14 ∧ BlkR Cx 77 c77_14 1 c77_15 ∧ SeqR Cx 77 c77_15 c77_16 c77_17 := ⟨run_ret, run_skip, run_seq, run_region, run_block, run_loop', run_block, run_seq⟩
theorem r77_2 : RegR Cx 77 c77_16 o77_16 ∧ SeqR Cx 77 c77_17 c77_18 c77_19 ∧ RegR Cx 77 c77_18 o77_18 ∧ SeqR Cx 77 c77_19 c77_20 c77_21 ∧ RegR Cx 77 c77_20 o77_20 ∧ CondR Cx 77 c77_21 (tm 21) c77_22 c77_25 ∧ SeqR Cx 77 c77_22 c77_23 c77_24 ∧ RegR Cx 77 c77_23 o77_23 := ⟨run_region, run_seq, run_region, run_seq, run_region, run_condC, run_seq, run_region⟩
theorem r77_3 : RetR Cx 77 c77_24 ∧ SkipR Cx 77 c77_25 := ⟨run_ret, run_skip⟩
theorem body77 : bodyOf Cx 77 = some c77_0 := by kernel_rfl
theorem res77 : resOf Cx 77 = some [.tmp 2] := by kernel_rfl
theorem pure77 : Cx.pure 77 = true := by kernel_rfl
abbrev o78_1 : List AO := [oA 2 (.assign (.const (.string ⟨#[]⟩))) 9]
def c78_1 : AC := .region o78_1 []
abbrev o78_3 : List AO := [oA 3 (.alloc 141) 0]
def c78_3 : AC := .region o78_3 []
abbrev o78_5 : List AO := [oA 6 (cF 85 #[(tm 3), (.const (.int .u8 34))] #[141, 5]) 143]
def c78_5 : AC := .region o78_5 []
abbrev o78_8 : List AO := [oA 7 (.move (tm 0)) 9,
  oA 8 (cB .len #[(tm 7)] #[9]) 3,
  oA 9 (.move (ci 0)) 3]
def c78_8 : AC := .region o78_8 []
abbrev o78_12 : List AO := [oA 10 (.binOp .lss 3 (tm 9) (tm 8) 3) 4]
def c78_12 : AC := .region o78_12 []
def c78_15 : AC := .skip
def c78_16 : AC := .exit 0
def c78_14 : AC := .cond (tm 10) c78_15 c78_16
abbrev o78_20 : List AO := [oA 11 (.move (tm 9)) 3,
  oA 4 (.assign (tm 11)) 3]
def c78_20 : AC := .region o78_20 []
abbrev o78_22 : List AO := [oA 12 (.move (tm 0)) 9,
  oA 13 (.move (tm 4)) 3,
  oA 14 (.index 9 (tm 12) (tm 13)) 5,
  oA 5 (.assign (tm 14)) 5]
def c78_22 : AC := .region o78_22 []
abbrev o78_24 : List AO := [oA 15 (.move (tm 5)) 5,
  oA 16 (cF 65 #[(tm 15)] #[5]) 4]
def c78_24 : AC := .region o78_24 []
abbrev o78_26 : List AO := [oA 17 (.move (tm 5)) 5,
  oA 18 (cF 85 #[(tm 3), (tm 17)] #[141, 5]) 143]
def c78_26 : AC := .region o78_26 []
abbrev o78_27 : List AO := [oA 19 (.move (tm 5)) 5,
  oA 20 (.binOp .quo 5 (tm 19) (.const (.int .u8 16)) 5) 5,
  oA 21 (.move (tm 5)) 5,
  oA 22 (.binOp .quo 5 (tm 21) (.const (.int .u8 16)) 5) 5,
  oA 23 (.binOp .add 5 (tm 22) (.const (.int .u8 1)) 5) 5,
  oA 24 (.slice 9 (.const (.string ⟨#[48, 49, 50, 51, 52, 53, 54, 55, 56, 57, 97, 98, 99, 100, 101, 102]⟩)) (some (tm 20)) (some (tm 23)) none) 9,
  oA 25 (.binOp .add 9 (.const (.string ⟨#[92]⟩)) (tm 24) 9) 9,
  oA 26 (.move (tm 5)) 5,
  oA 27 (.binOp .rem 5 (tm 26) (.const (.int .u8 16)) 5) 5,
  oA 28 (.move (tm 5)) 5,
  oA 29 (.binOp .rem 5 (tm 28) (.const (.int .u8 16)) 5) 5,
  oA 30 (.binOp .add 5 (tm 29) (.const (.int .u8 1)) 5) 5,
  oA 31 (.slice 9 (.const (.string ⟨#[48, 49, 50, 51, 52, 53, 54, 55, 56, 57, 97, 98, 99, 100, 101, 102]⟩)) (some (tm 27)) (some (tm 30)) none) 9,
  oA 32 (.binOp .add 9 (tm 25) (tm 31) 9) 9,
  oA 33 (cF 86 #[(tm 3), (tm 32)] #[141, 9]) 145]
def c78_27 : AC := .region o78_27 []
def c78_25 : AC := .cond (tm 16) c78_26 c78_27
def c78_23 : AC := .seq c78_24 c78_25
def c78_21 : AC := .seq c78_22 c78_23
def c78_19 : AC := .seq c78_20 c78_21
def c78_18 : AC := .block 1 c78_19
abbrev o78_28 : List AO := [oA 34 (.binOp .add 3 (tm 9) (ci 1) 3) 3,
  oA 9 (.move (tm 34)) 3]
def c78_28 : AC := .region o78_28 []
def c78_17 : AC := .seq c78_18 c78_28
def c78_13 : AC := .seq c78_14 c78_17
def c78_11 : AC := .seq c78_12 c78_13
def c78_10 : AC := .loop c78_11
def c78_9 : AC := .block 0 c78_10
def c78_7 : AC := .seq c78_8 c78_9
abbrev o78_30 : List AO := [oA 35 (cF 85 #[(tm 3), (.const (.int .u8 34))] #[141, 5]) 143]
def c78_30 : AC := .region o78_30 []
abbrev o78_32 : List AO := [oA 36 (cF 87 #[(tm 3)] #[141]) 9,
  oA 2 (.assign (tm 36)) 9]
def c78_32 : AC := .region o78_32 []
def c78_33 : AC := .ret
def c78_31 : AC := .seq c78_32 c78_33
def c78_29 : AC := .seq c78_30 c78_31
def c78_6 : AC := .seq c78_7 c78_29
def c78_4 : AC := .seq c78_5 c78_6
def c78_2 : AC := .seq c78_3 c78_4
def c78_0 : AC := .seq c78_1 c78_2
theorem r78_0 : SeqR Cx 78 c78_0 c78_1 c78_2 ∧ RegR Cx 78 c78_1 o78_1 ∧ SeqR Cx 78 c78_2 c78_3 c78_4 ∧ RegR Cx 78 c78_3 o78_3 ∧ SeqR Cx 78 c78_4 c78_5 c78_6 ∧ RegR Cx 78 c78_5 o78_5 ∧ SeqR Cx 78 c78_6 c78_7 c78_29 ∧ SeqR Cx 78 c78_7 c78_8 c78_9 := ⟨run_seq, run_region, run_seq, run_region, run_seq, run_region, run_seq, run_seq⟩
theorem r78_1 : RegR Cx 78 c78_8 o78_8 ∧ BlkR Cx 78 c78_9 0 c78_10 ∧ LoopR Cx 78 c78_10 c78_11 ∧ SeqR Cx 78 c78_11 c78_12 c78_13 ∧ RegR Cx 78 c78_12 o78_12 ∧ SeqR Cx 78 c78_13 c78_14 c78_17 ∧ CondR Cx 78 c78_14 (tm 10) c78_15 c78_16 ∧ SkipR Cx 78 c78_15 := ⟨run_region, run_block, run_loop', run_seq, run_region, run_seq, run_condC, run_skip⟩
theorem r78_2 : ExitR Cx 78 c78_16 0 ∧ SeqR Cx 78 c78_17 c78_18 c78_28 ∧ BlkR Cx 78 c78_18 1 c78_19 ∧ SeqR Cx 78 c78_19 c78_20 c78_21 ∧ RegR Cx 78 c78_20 o78_20 ∧ SeqR Cx 78 c78_21 c78_22 c78_23 ∧ RegR Cx 78 c78_22 o78_22 ∧ SeqR Cx 78 c78_23 c78_24 c78_25 := ⟨run_exit_start, run_seq, run_block, run_seq, run_region, run_seq, run_region, run_seq⟩
theorem r78_3 : RegR Cx 78 c78_24 o78_24 ∧ CondR Cx 78 c78_25 (tm 16) c78_26 c78_27 ∧ RegR Cx 78 c78_26 o78_26 ∧ RegR Cx 78 c78_27 o78_27 ∧ RegR Cx 78 c78_28 o78_28 ∧ SeqR Cx 78 c78_29 c78_30 c78_31 ∧ RegR Cx 78 c78_30 o78_30 ∧ SeqR Cx 78 c78_31 c78_32 c78_33 := ⟨run_region, run_condC, run_region, run_region, run_region, run_seq, run_region, run_seq⟩
theorem r78_4 : RegR Cx 78 c78_32 o78_32 ∧ RetR Cx 78 c78_33 := ⟨run_region, run_ret⟩
theorem body78 : bodyOf Cx 78 = some c78_0 := by kernel_rfl
theorem res78 : resOf Cx 78 = some [.tmp 2] := by kernel_rfl
theorem pure78 : Cx.pure 78 = true := by kernel_rfl
abbrev o79_1 : List AO := [oA 4 (.assign (ci 0)) 3]
def c79_1 : AC := .region o79_1 []
abbrev o79_3 : List AO := [oA 5 (.move (tm 0)) 9,
  oA 6 (.move (tm 1)) 5,
  oA 7 (cF 88 #[(tm 5), (tm 6)] #[9, 5]) 3,
  oA 4 (.assign (tm 7)) 3]
def c79_3 : AC := .region o79_3 []
def c79_4 : AC := .ret
def c79_2 : AC := .seq c79_3 c79_4
def c79_0 : AC := .seq c79_1 c79_2
theorem r79_0 : SeqR Cx 79 c79_0 c79_1 c79_2 ∧ RegR Cx 79 c79_1 o79_1 ∧ SeqR Cx 79 c79_2 c79_3 c79_4 ∧ RegR Cx 79 c79_3 o79_3 ∧ RetR Cx 79 c79_4 := ⟨run_seq, run_region, run_seq, run_region, run_ret⟩
theorem body79 : bodyOf Cx 79 = some c79_0 := by kernel_rfl
theorem res79 : resOf Cx 79 = some [.tmp 4] := by kernel_rfl
theorem pure79 : Cx.pure 79 = true := by kernel_rfl
abbrev o80_1 : List AO := [oA 2 (.alloc 24) 0,
  oA 3 (.assign (ci 0)) 39]
def c80_1 : AC := .region o80_1 []
abbrev o80_3 : List AO := [oA 5 (.move (tm 0)) 132,
  oA 6 (cB .real #[(tm 5)] #[132]) 148,
  oA 7 (.convert 148 3 (tm 6)) 3,
  oA 8 (.move (tm 0)) 132,
  oA 9 (cB .imag #[(tm 8)] #[132]) 148,
  oA 10 (.convert 148 3 (tm 9)) 3,
  oA 11 (.build 24 #[(0, (tm 7)), (1, (tm 10))]) 24,
  oA 4 (.alloc 24) 0,
  oN (.store 24 (tm 4) (tm 11)) 0]
def c80_3 : AC := .region o80_3 []
abbrev o80_6 : List AO := [oA 12 (.load 24 (tm 4)) 24,
  oA 13 (cF 24 #[(tm 12)] #[24]) 4,
  oA 14 (.unOp .not 4 (tm 13)) 4]
def c80_6 : AC := .region o80_6 []
abbrev o80_9 : List AO := [oA 15 (.build 24 #[]) 24,
  oN (.store 24 (tm 2) (tm 15)) 0,
  oA 3 (.assign (ci 14)) 39]
def c80_9 : AC := .region o80_9 []
def c80_10 : AC := .ret
def c80_8 : AC := .seq c80_9 c80_10
def c80_11 : AC := .skip
def c80_7 : AC := .cond (tm 14) c80_8 c80_11
def c80_5 : AC := .seq c80_6 c80_7
abbrev o80_13 : List AO := [oA 16 (.load 24 (tm 4)) 24,
  oN (.store 24 (tm 2) (tm 16)) 0,
  oA 3 (.assign (ci 0)) 39]
def c80_13 : AC := .region o80_13 []
def c80_14 : AC := .ret
def c80_12 : AC := .seq c80_13 c80_14
def c80_4 : AC := .seq c80_5 c80_12
def c80_2 : AC := .seq c80_3 c80_4
def c80_0 : AC := .seq c80_1 c80_2
theorem r80_0 : SeqR Cx 80 c80_0 c80_1 c80_2 ∧ RegR Cx 80 c80_1 o80_1 ∧ SeqR Cx 80 c80_2 c80_3 c80_4 ∧ RegR Cx 80 c80_3 o80_3 ∧ SeqR Cx 80 c80_4 c80_5 c80_12 ∧ SeqR Cx 80 c80_5 c80_6 c80_7 ∧ RegR Cx 80 c80_6 o80_6 ∧ CondR Cx 80 c80_7 (tm 14) c80_8 c80_11 := ⟨run_seq, run_region, run_seq, run_region, run_seq, run_seq, run_region, run_condC⟩
theorem r80_1 : SeqR Cx 80 c80_8 c80_9 c80_10 ∧ RegR Cx 80 c80_9 o80_9 ∧ RetR Cx 80 c80_10 ∧ SkipR Cx 80 c80_11 ∧ SeqR Cx 80 c80_12 c80_13 c80_14 ∧ RegR Cx 80 c80_13 o80_13 ∧ RetR Cx 80 c80_14 := ⟨run_seq, run_region, run_ret, run_skip, run_seq, run_region, run_ret⟩
theorem body80 : bodyOf Cx 80 = some c80_0 := by kernel_rfl
theorem res80 : resOf Cx 80 = some [.cell 2 24, .tmp 3] := by kernel_rfl
theorem pure80 : Cx.pure 80 = true := by kernel_rfl
abbrev o81_1 : List AO := [oA 1 (.box 24 (tm 0)) 0,
  oA 2 (.assign (.const (.complex .f64 0 0))) 132]
def c81_1 : AC := .region o81_1 []
abbrev o81_3 : List AO := [oA 3 (.fieldAddr 24 (tm 1) 0) 0,
  oA 4 (.load 3 (tm 3)) 3,
  oA 5 (.convert 3 148 (tm 4)) 148,
  oA 6 (.fieldAddr 24 (tm 1) 1) 0,
  oA 7 (.load 3 (tm 6)) 3,
  oA 8 (.convert 3 148 (tm 7)) 148,
  oA 9 (cB .complex #[(tm 5), (tm 8)] #[148, 148]) 132,
  oA 2 (.assign (tm 9)) 132]
def c81_3 : AC := .region o81_3 []
def c81_4 : AC := .ret
def c81_2 : AC := .seq c81_3 c81_4
def c81_0 : AC := .seq c81_1 c81_2
theorem r81_0 : SeqR Cx 81 c81_0 c81_1 c81_2 ∧ RegR Cx 81 c81_1 o81_1 ∧ SeqR Cx 81 c81_2 c81_3 c81_4 ∧ RegR Cx 81 c81_3 o81_3 ∧ RetR Cx 81 c81_4 := ⟨run_seq, run_region, run_seq, run_region, run_ret⟩
theorem body81 : bodyOf Cx 81 = some c81_0 := by kernel_rfl
theorem res81 : resOf Cx 81 = some [.tmp 2] := by kernel_rfl
theorem pure81 : Cx.pure 81 = true := by kernel_rfl
abbrev o82_1 : List AO := [oA 2 (.box 24 (tm 0)) 0,
  oA 3 (.box 24 (tm 1)) 0,
  oA 4 (.alloc 24) 0,
  oA 5 (.alloc 24) 0]
def c82_1 : AC := .region o82_1 []
abbrev o82_3 : List AO := [oA 10 (.load 24 (tm 2)) 24,
  oA 11 (cF 81 #[(tm 10)] #[24]) 132,
  oA 12 (.fieldAddr 24 (tm 3) 0) 0,
  oA 13 (.load 3 (tm 12)) 3,
  oA 14 (.fieldAddr 24 (tm 3) 1) 0,
  oA 15 (.load 3 (tm 14)) 3,
  oA 16 (.unOp .neg 3 (tm 15)) 3,
  oA 17 (.build 24 #[(0, (tm 13)), (1, (tm 16))]) 24,
  oA 18 (cF 81 #[(tm 17)] #[24]) 132,
  oA 19 (.binOp .mul 132 (tm 11) (tm 18) 132) 132,
  oA 6 (.assign (tm 19)) 132]
def c82_3 : AC := .region o82_3 []
abbrev o82_5 : List AO := [oA 20 (.load 24 (tm 3)) 24,
  oA 21 (cF 76 #[(tm 20)] #[24]) 3,
  oA 7 (.assign (tm 21)) 3]
def c82_5 : AC := .region o82_5 []
abbrev o82_7 : List AO := [oA 22 (.move (tm 6)) 132,
  oA 23 (cB .real #[(tm 22)] #[132]) 148,
  oA 24 (.convert 148 3 (tm 23)) 3,
  oA 25 (.move (tm 7)) 3,
  oA 26 (cF 89 #[(tm 24), (tm 25)] #[3, 3]) 3,
  oA 27 (.move (tm 6)) 132,
  oA 28 (cB .imag #[(tm 27)] #[132]) 148,
  oA 29 (.convert 148 3 (tm 28)) 3,
  oA 30 (.move (tm 7)) 3,
  oA 31 (cF 89 #[(tm 29), (tm 30)] #[3, 3]) 3,
  oA 32 (.build 24 #[(0, (tm 26)), (1, (tm 31))]) 24,
  oA 8 (.alloc 24) 0,
  oN (.store 24 (tm 8) (tm 32)) 0]
def c82_7 : AC := .region o82_7 []
abbrev o82_9 : List AO := [oA 33 (.load 24 (tm 2)) 24,
  oA 34 (cF 81 #[(tm 33)] #[24]) 132,
  oA 35 (.load 24 (tm 8)) 24,
  oA 36 (cF 81 #[(tm 35)] #[24]) 132,
  oA 37 (.load 24 (tm 3)) 24,
  oA 38 (cF 81 #[(tm 37)] #[24]) 132,
  oA 39 (.binOp .mul 132 (tm 36) (tm 38) 132) 132,
  oA 40 (.binOp .sub 132 (tm 34) (tm 39) 132) 132,
  oA 9 (.assign (tm 40)) 132]
def c82_9 : AC := .region o82_9 []
abbrev o82_11 : List AO := [oA 41 (.load 24 (tm 8)) 24,
  oA 42 (.move (tm 9)) 132,
  oA 43 (cB .real #[(tm 42)] #[132]) 148,
  oA 44 (.convert 148 3 (tm 43)) 3,
  oA 45 (.move (tm 9)) 132,
  oA 46 (cB .imag #[(tm 45)] #[132]) 148,
  oA 47 (.convert 148 3 (tm 46)) 3,
  oA 48 (.build 24 #[(0, (tm 44)), (1, (tm 47))]) 24,
  oN (.store 24 (tm 4) (tm 41)) 0,
  oN (.store 24 (tm 5) (tm 48)) 0]
def c82_11 : AC := .region o82_11 []
def c82_12 : AC := .ret
def c82_10 : AC := .seq c82_11 c82_12
def c82_8 : AC := .seq c82_9 c82_10
def c82_6 : AC := .seq c82_7 c82_8
def c82_4 : AC := .seq c82_5 c82_6
def c82_2 : AC := .seq c82_3 c82_4
def c82_0 : AC := .seq c82_1 c82_2
theorem r82_0 : SeqR Cx 82 c82_0 c82_1 c82_2 ∧ RegR Cx 82 c82_1 o82_1 ∧ SeqR Cx 82 c82_2 c82_3 c82_4 ∧ RegR Cx 82 c82_3 o82_3 ∧ SeqR Cx 82 c82_4 c82_5 c82_6 ∧ RegR Cx 82 c82_5 o82_5 ∧ SeqR Cx 82 c82_6 c82_7 c82_8 ∧ RegR Cx 82 c82_7 o82_7 := ⟨run_seq, run_region, run_seq, run_region, run_seq, run_region, run_seq, run_region⟩
theorem r82_1 : SeqR Cx 82 c82_8 c82_9 c82_10 ∧ RegR Cx 82 c82_9 o82_9 ∧ SeqR Cx 82 c82_10 c82_11 c82_12 ∧ RegR Cx 82 c82_11 o82_11 ∧ RetR Cx 82 c82_12 := ⟨run_seq, run_region, run_seq, run_region, run_ret⟩
theorem body82 : bodyOf Cx 82 = some c82_0 := by kernel_rfl
theorem res82 : resOf Cx 82 = some [.cell 4 24, .cell 5 24] := by kernel_rfl
theorem pure82 : Cx.pure 82 = true := by kernel_rfl
abbrev o83_1 : List AO := [oA 2 (.assign (.const (.bool false))) 4]
def c83_1 : AC := .region o83_1 []
abbrev o83_3 : List AO := [oA 3 (.move (tm 0)) 3,
  oA 4 (.move (tm 0)) 3,
  oA 5 (.binOp .neq 3 (tm 3) (tm 4) 3) 4,
  oA 2 (.assign (tm 5)) 4]
def c83_3 : AC := .region o83_3 []
def c83_4 : AC := .ret
def c83_2 : AC := .seq c83_3 c83_4
def c83_0 : AC := .seq c83_1 c83_2
theorem r83_0 : SeqR Cx 83 c83_0 c83_1 c83_2 ∧ RegR Cx 83 c83_1 o83_1 ∧ SeqR Cx 83 c83_2 c83_3 c83_4 ∧ RegR Cx 83 c83_3 o83_3 ∧ RetR Cx 83 c83_4 := ⟨run_seq, run_region, run_seq, run_region, run_ret⟩
theorem body83 : bodyOf Cx 83 = some c83_0 := by kernel_rfl
theorem res83 : resOf Cx 83 = some [.tmp 2] := by kernel_rfl
theorem pure83 : Cx.pure 83 = true := by kernel_rfl
abbrev o84_1 : List AO := [oA 4 (.assign (ci 0)) 3]
def c84_1 : AC := .region o84_1 []
abbrev o84_3 : List AO := [oA 5 (.move (tm 0)) 9,
  oA 6 (.move (tm 1)) 9,
  oA 7 (cF 90 #[(tm 5), (tm 6)] #[9, 9]) 3,
  oA 4 (.assign (tm 7)) 3]
def c84_3 : AC := .region o84_3 []
def c84_4 : AC := .ret
def c84_2 : AC := .seq c84_3 c84_4
def c84_0 : AC := .seq c84_1 c84_2
theorem r84_0 : SeqR Cx 84 c84_0 c84_1 c84_2 ∧ RegR Cx 84 c84_1 o84_1 ∧ SeqR Cx 84 c84_2 c84_3 c84_4 ∧ RegR Cx 84 c84_3 o84_3 ∧ RetR Cx 84 c84_4 := ⟨run_seq, run_region, run_seq, run_region, run_ret⟩
theorem body84 : bodyOf Cx 84 = some c84_0 := by kernel_rfl
theorem res84 : resOf Cx 84 = some [.tmp 4] := by kernel_rfl
theorem pure84 : Cx.pure 84 = true := by kernel_rfl
abbrev o85_1 : List AO := [oA 4 (.assign (.const .nilIface)) 143]
def c85_1 : AC := .region o85_1 []
abbrev o85_3 : List AO := [oA 5 (.move (tm 0)) 139,
  oA 6 (cF 91 #[(tm 5)] #[139]) 0]
def c85_3 : AC := .region o85_3 []
abbrev o85_5 : List AO := [oA 7 (.move (tm 0)) 139,
  oA 8 (.move (tm 0)) 139,
  oA 9 (.nilCheck (tm 8)) 0,
  oA 10 (.fieldAddr 141 (tm 9) 1) 0,
  oA 11 (.load 114 (tm 10)) 114,
  oA 12 (.move (tm 1)) 5,
  oA 13 (.buildSlice 114 1 #[(0, (tm 12))]) 114,
  oA 14 (cB .append #[(tm 11), (tm 13)] #[114, 114]) 114,
  oA 15 (.nilCheck (tm 7)) 0,
  oA 16 (.fieldAddr 141 (tm 15) 1) 0,
  oN (.store 114 (tm 16) (tm 14)) 0]
def c85_5 : AC := .region o85_5 []
abbrev o85_7 : List AO := [oA 4 (.assign (.const .nilIface)) 143]
def c85_7 : AC := .region o85_7 []
def c85_8 : AC := .ret
def c85_6 : AC := .seq c85_7 c85_8
def c85_4 : AC := .seq c85_5 c85_6
def c85_2 : AC := .seq c85_3 c85_4
def c85_0 : AC := .seq c85_1 c85_2
theorem r85_0 : SeqR Cx 85 c85_0 c85_1 c85_2 ∧ RegR Cx 85 c85_1 o85_1 ∧ SeqR Cx 85 c85_2 c85_3 c85_4 ∧ RegR Cx 85 c85_3 o85_3 ∧ SeqR Cx 85 c85_4 c85_5 c85_6 ∧ RegR Cx 85 c85_5 o85_5 ∧ SeqR Cx 85 c85_6 c85_7 c85_8 ∧ RegR Cx 85 c85_7 o85_7 := ⟨run_seq, run_region, run_seq, run_region, run_seq, run_region, run_seq, run_region⟩
theorem r85_1 : RetR Cx 85 c85_8 := run_ret
theorem body85 : bodyOf Cx 85 = some c85_0 := by kernel_rfl
theorem res85 : resOf Cx 85 = some [.tmp 4] := by kernel_rfl
theorem pure85 : Cx.pure 85 = false := by kernel_rfl
abbrev o86_1 : List AO := [oA 4 (.assign (ci 0)) 3,
  oA 5 (.assign (.const .nilIface)) 143]
def c86_1 : AC := .region o86_1 []
abbrev o86_3 : List AO := [oA 6 (.move (tm 0)) 139,
  oA 7 (cF 91 #[(tm 6)] #[139]) 0]
def c86_3 : AC := .region o86_3 []
abbrev o86_5 : List AO := [oA 8 (.move (tm 0)) 139,
  oA 9 (.move (tm 0)) 139,
  oA 10 (.nilCheck (tm 9)) 0,
  oA 11 (.fieldAddr 141 (tm 10) 1) 0,
  oA 12 (.load 114 (tm 11)) 114,
  oA 13 (.move (tm 1)) 9,
  oA 14 (cB .append #[(tm 12), (tm 13)] #[114, 9]) 114,
  oA 15 (.nilCheck (tm 8)) 0,
  oA 16 (.fieldAddr 141 (tm 15) 1) 0,
  oN (.store 114 (tm 16) (tm 14)) 0]
def c86_5 : AC := .region o86_5 []
abbrev o86_7 : List AO := [oA 17 (.move (tm 1)) 9,
  oA 18 (cB .len #[(tm 17)] #[9]) 3,
  oA 4 (.assign (tm 18)) 3,
  oA 5 (.assign (.const .nilIface)) 143]
def c86_7 : AC := .region o86_7 []
def c86_8 : AC := .ret
def c86_6 : AC := .seq c86_7 c86_8
def c86_4 : AC := .seq c86_5 c86_6
def c86_2 : AC := .seq c86_3 c86_4
def c86_0 : AC := .seq c86_1 c86_2
theorem r86_0 : SeqR Cx 86 c86_0 c86_1 c86_2 ∧ RegR Cx 86 c86_1 o86_1 ∧ SeqR Cx 86 c86_2 c86_3 c86_4 ∧ RegR Cx 86 c86_3 o86_3 ∧ SeqR Cx 86 c86_4 c86_5 c86_6 ∧ RegR Cx 86 c86_5 o86_5 ∧ SeqR Cx 86 c86_6 c86_7 c86_8 ∧ RegR Cx 86 c86_7 o86_7 := ⟨run_seq, run_region, run_seq, run_region, run_seq, run_region, run_seq, run_region⟩
theorem r86_1 : RetR Cx 86 c86_8 := run_ret
theorem body86 : bodyOf Cx 86 = some c86_0 := by kernel_rfl
theorem res86 : resOf Cx 86 = some [.tmp 4, .tmp 5] := by kernel_rfl
theorem pure86 : Cx.pure 86 = false := by kernel_rfl
abbrev o87_1 : List AO := [oA 2 (.assign (.const (.string ⟨#[]⟩))) 9]
def c87_1 : AC := .region o87_1 []
abbrev o87_3 : List AO := [oA 3 (.move (tm 0)) 139,
  oA 4 (.nilCheck (tm 3)) 0,
  oA 5 (.fieldAddr 141 (tm 4) 1) 0,
  oA 6 (.load 114 (tm 5)) 114,
  oA 7 (cB .unsafeSliceData #[(tm 6)] #[114]) 149,
  oA 8 (.move (tm 0)) 139,
  oA 9 (.nilCheck (tm 8)) 0,
  oA 10 (.fieldAddr 141 (tm 9) 1) 0,
  oA 11 (.load 114 (tm 10)) 114,
  oA 12 (cB .len #[(tm 11)] #[114]) 3,
  oA 13 (cB .unsafeString #[(tm 7), (tm 12)] #[149, 3]) 9,
  oA 2 (.assign (tm 13)) 9]
def c87_3 : AC := .region o87_3 []
def c87_4 : AC := .ret
def c87_2 : AC := .seq c87_3 c87_4
def c87_0 : AC := .seq c87_1 c87_2
theorem r87_0 : SeqR Cx 87 c87_0 c87_1 c87_2 ∧ RegR Cx 87 c87_1 o87_1 ∧ SeqR Cx 87 c87_2 c87_3 c87_4 ∧ RegR Cx 87 c87_3 o87_3 ∧ RetR Cx 87 c87_4 := ⟨run_seq, run_region, run_seq, run_region, run_ret⟩
abbrev o88_1 : List AO := [oA 4 (.assign (ci 0)) 3]
def c88_1 : AC := .region o88_1 []
abbrev o88_3 : List AO := [oA 5 (.move (tm 0)) 9,
  oA 6 (.move (tm 1)) 5,
  oA 7 (cF 92 #[(tm 5), (tm 6)] #[9, 5]) 3,
  oA 4 (.assign (tm 7)) 3]
def c88_3 : AC := .region o88_3 []
def c88_4 : AC := .ret
def c88_2 : AC := .seq c88_3 c88_4
def c88_0 : AC := .seq c88_1 c88_2
theorem r88_0 : SeqR Cx 88 c88_0 c88_1 c88_2 ∧ RegR Cx 88 c88_1 o88_1 ∧ SeqR Cx 88 c88_2 c88_3 c88_4 ∧ RegR Cx 88 c88_3 o88_3 ∧ RetR Cx 88 c88_4 := ⟨run_seq, run_region, run_seq, run_region, run_ret⟩
theorem body88 : bodyOf Cx 88 = some c88_0 := by kernel_rfl
theorem res88 : resOf Cx 88 = some [.tmp 4] := by kernel_rfl
theorem pure88 : Cx.pure 88 = true := by kernel_rfl
abbrev o89_1 : List AO := [oA 4 (.assign (ci 0)) 3]
def c89_1 : AC := .region o89_1 []
abbrev o89_3 : List AO := [oA 7 (.move (tm 0)) 3,
  oA 8 (.binOp .mul 3 (ci 2) (tm 7) 3) 3,
  oA 9 (.move (tm 1)) 3,
  oA 10 (.binOp .add 3 (tm 8) (tm 9) 3) 3,
  oA 5 (.assign (tm 10)) 3]
def c89_3 : AC := .region o89_3 []
abbrev o89_5 : List AO := [oA 11 (.move (tm 5)) 3,
  oA 12 (.move (tm 1)) 3,
  oA 13 (.binOp .mul 3 (ci 2) (tm 12) 3) 3,
  oA 14 (.binOp .quo 3 (tm 11) (tm 13) 3) 3,
  oA 6 (.assign (tm 14)) 3]
def c89_5 : AC := .region o89_5 []
abbrev o89_8 : List AO := [oA 15 (.move (tm 5)) 3,
  oA 16 (.move (tm 1)) 3,
  oA 17 (.binOp .mul 3 (ci 2) (tm 16) 3) 3,
  oA 18 (.binOp .rem 3 (tm 15) (tm 17) 3) 3,
  oA 19 (.binOp .lss 3 (tm 18) (ci 0) 3) 4]
def c89_8 : AC := .region o89_8 []
abbrev o89_10 : List AO := [oA 20 (.move (tm 6)) 3,
  oA 21 (.binOp .sub 3 (tm 20) (ci 1) 3) 3,
  oA 6 (.assign (tm 21)) 3]
def c89_10 : AC := .region o89_10 []
def c89_11 : AC := .skip
def c89_9 : AC := .cond (tm 19) c89_10 c89_11
def c89_7 : AC := .seq c89_8 c89_9
abbrev o89_13 : List AO := [oA 22 (.move (tm 6)) 3,
  oA 4 (.assign (tm 22)) 3]
def c89_13 : AC := .region o89_13 []
def c89_14 : AC := .ret
def c89_12 : AC := .seq c89_13 c89_14
def c89_6 : AC := .seq c89_7 c89_12
def c89_4 : AC := .seq c89_5 c89_6
def c89_2 : AC := .seq c89_3 c89_4
def c89_0 : AC := .seq c89_1 c89_2
theorem r89_0 : SeqR Cx 89 c89_0 c89_1 c89_2 ∧ RegR Cx 89 c89_1 o89_1 ∧ SeqR Cx 89 c89_2 c89_3 c89_4 ∧ RegR Cx 89 c89_3 o89_3 ∧ SeqR Cx 89 c89_4 c89_5 c89_6 ∧ RegR Cx 89 c89_5 o89_5 ∧ SeqR Cx 89 c89_6 c89_7 c89_12 ∧ SeqR Cx 89 c89_7 c89_8 c89_9 := ⟨run_seq, run_region, run_seq, run_region, run_seq, run_region, run_seq, run_seq⟩
theorem r89_1 : RegR Cx 89 c89_8 o89_8 ∧ CondR Cx 89 c89_9 (tm 19) c89_10 c89_11 ∧ RegR Cx 89 c89_10 o89_10 ∧ SkipR Cx 89 c89_11 ∧ SeqR Cx 89 c89_12 c89_13 c89_14 ∧ RegR Cx 89 c89_13 o89_13 ∧ RetR Cx 89 c89_14 := ⟨run_region, run_condC, run_region, run_skip, run_seq, run_region, run_ret⟩
theorem body89 : bodyOf Cx 89 = some c89_0 := by kernel_rfl
theorem res89 : resOf Cx 89 = some [.tmp 4] := by kernel_rfl
theorem pure89 : Cx.pure 89 = true := by kernel_rfl
end
end Go.Proofs.Ytckhmpcmlochpaa.G


namespace Go.Proofs.Ytckhmpcmlochpaa.G
open Go.BX
set_option linter.unusedSimpArgs false
set_option linter.unusedVariables false
theorem pure_cc : Cx.pure 91 = false := by kernel_rfl
theorem ext_cc : Cx.ext 91 = some (copyG 141) := rfl
theorem pure_str : Cx.pure 87 = false := by kernel_rfl
theorem ext_str : Cx.ext 87 = some (strG 141 5) := rfl
variable {fn : FuncId} {T : Nat → AV} {ds : List ADef} {ro : Option Nat} {k : List AItem} {Q : AV → AHeap → Prop} {dst : Option Nat} {os : List AO}
theorem WriteByte_call {n : Nat} {A : Nat → Blk} {b : Nat} {g : Option Nat} {acc : Bytes} {x : UInt8} (h : IsB 141 5 ⟨n, A⟩ b g acc) (hm : acc.length + 1 ≤ most)
    (hk : ∀ H' z, IsB 141 5 H' b (some z) (acc ++ [x]) → Kept ⟨n, A⟩ H' b g (some z) → RunOps Cx fn (putA T dst .nilI) ds ro os k H' Q) :
    RunCall Cx fn T ds ro 85 [.ptr b 2 0 0, .int .u8 (x.toNat : Int)] dst os k ⟨n, A⟩ Q := by
  refine call_body pure85 (noext _) body85 ?_
  obtain ⟨lt, ⟨a, ha, hb⟩, hbuf⟩ := h
  have lt' : b < n := lt
  have e1 : (b = n) = False := eq_false (by omega)
  have e2 : (n = b) = False := eq_false (by omega)
  have e3 : (b = n + 1) = False := eq_false (by omega)
  have e4 : (n = n + 1) = False := eq_false (by omega)
  have e5 : (n + 1 = n) = False := eq_false (by omega)
  have e6 : (n + 1 = b) = False := eq_false (by omega)
  have hm1 : 1 ≤ most := by unfold most; omega
  cases g with
  | none =>
    have hacc : acc = [] := hbuf
    subst hacc
    have hb' : A b = .cells 141 2 [[a, .nilS]] := hb
    have fin : ∀ A', A' b = .cells 141 2 [[.ptr b 2 0 0, .slc (n + 1) 1 0 1]] → A' (n + 1) = .cells 5 1 [[.int .u8 (x.toNat : Int)]] → (∀ d, d < n → d ≠ b → A' d = A d) → RunOps Cx fn (putA T dst .nilI) ds ro os k ⟨n + 1 + 1, A'⟩ Q := by
      intro A' h1 h2 h3
      refine hk _ (n + 1) ⟨(by show b < n + 1 + 1; omega), ⟨_, .inr rfl, h1⟩, (by omega), (by show n + 1 < n + 1 + 1; omega), h2⟩ ⟨(by show n ≤ n + 1 + 1; omega), fun d hd hd2 _ => h3 d hd hd2, .inr ⟨n + 1, rfl, (by show n ≤ n + 1; omega)⟩⟩
    rcases ha with rfl | rfl <;>
    (simp only [hb', e1, e3, hm1, call_ext pure_cc ext_cc, copyG, runVH_some, builtinM, appendA, source, Nat.mul_one, r85_0, r85_1, res85, tt, bb, bc, ↓bd, Nat.reduceEqDiff, Nat.reduceAdd, Nat.reduceLeDiff, ↓reduceIte, reduceCtorEq, List.reduceReplicate]
     refine fin _ ?_ ?_ ?_
     · simp only [upd_app, ↓reduceIte]
     · simp only [upd_app, e6, ↓reduceIte]
     · intro d h1 h2
       simp only [upd_app, h2, show (d = n) = False from eq_false (by omega), show (d = n + 1) = False from eq_false (by omega), ↓reduceIte])
  | some g =>
    obtain ⟨hgb, hgn, hg⟩ := hbuf
    have hgn' : g < n := hgn
    have hg' : A g = .cells 5 1 (ofBytes acc) := hg
    have hb' : A b = .cells 141 2 [[a, .slc g 1 0 acc.length]] := hb
    have f1 : (g = n) = False := eq_false (by omega)
    have f2 : (n = g) = False := eq_false (by omega)
    have f3 : (g = n + 1) = False := eq_false (by omega)
    have f4 : (n + 1 = g) = False := eq_false (by omega)
    have f5 : (g = b) = False := eq_false hgb
    have f6 : (b = g) = False := eq_false (fun e => hgb e.symm)
    have f7 : (acc.length ≤ (ofBytes acc).length) = True := eq_true (by rw [len_ofB]; omega)
    have f8 : acc.length + 1 ≤ most := hm
    have fin : ∀ A', A' b = .cells 141 2 [[.ptr b 2 0 0, .slc (n + 1) 1 0 (acc.length + 1)]] → A' (n + 1) = .cells 5 1 (ofBytes acc ++ [[.int .u8 (x.toNat : Int)]]) → (∀ d, d < n → d ≠ b → d ≠ g → A' d = A d) → RunOps Cx fn (putA T dst .nilI) ds ro os k ⟨n + 1 + 1, A'⟩ Q := by
      intro A' h1 h2 h3
      rw [ofB_snoc] at h2
      refine hk _ (n + 1) ⟨(by show b < n + 1 + 1; omega), ⟨_, .inr rfl, by rw [List.length_append]; exact h1⟩, (by omega), (by show n + 1 < n + 1 + 1; omega), h2⟩ ⟨(by show n ≤ n + 1 + 1; omega), fun d hd hd2 hd3 => h3 d hd hd2 (fun e => hd3 (by rw [e])), .inr ⟨n + 1, rfl, (by show n ≤ n + 1; omega)⟩⟩
    rcases ha with rfl | rfl <;>
    (simp only [hb', hg', e1, e3, f1, f5, f6, f7, f8, take_ofB, call_ext pure_cc ext_cc, copyG, runVH_some, builtinM, appendA, source, Nat.mul_one, r85_0, r85_1, res85, tt, bb, bc, ↓bd, Nat.reduceEqDiff, Nat.reduceAdd, Nat.reduceLeDiff, ↓reduceIte, reduceCtorEq, List.reduceReplicate]
     refine fin _ ?_ ?_ ?_
     · simp only [upd_app, ↓reduceIte]
     · simp only [upd_app, e6, ↓reduceIte]
     · intro d h1 h2 h3
       simp only [upd_app, h2, h3, show (d = n) = False from eq_false (by omega), show (d = n + 1) = False from eq_false (by omega), ↓reduceIte])
end Go.Proofs.Ytckhmpcmlochpaa.G

namespace Go.Proofs.Ytckhmpcmlochpaa.G
open Go.BX
set_option linter.unusedSimpArgs false
set_option linter.unusedVariables false
variable {fn : FuncId} {T : Nat → AV} {ds : List ADef} {ro : Option Nat} {k : List AItem} {Q : AV → AHeap → Prop} {dst : Option Nat} {os : List AO}
theorem WriteString_call {n : Nat} {A : Nat → Blk} {b : Nat} {g : Option Nat} {acc s : Bytes} (h : IsB 141 5 ⟨n, A⟩ b g acc) (hm : acc.length + s.length ≤ most)
    (hk : ∀ H' g', IsB 141 5 H' b g' (acc ++ s) → Kept ⟨n, A⟩ H' b g g' → RunOps Cx fn (putA T dst (.tuple [.int .i64 (s.length : Int), .nilI])) ds ro os k H' Q) :
    RunCall Cx fn T ds ro 86 [.ptr b 2 0 0, .str s] dst os k ⟨n, A⟩ Q := by
  refine call_body pure86 (noext _) body86 ?_
  obtain ⟨lt, ⟨a, ha, hb⟩, hbuf⟩ := h
  have lt' : b < n := lt
  have e1 : (b = n) = False := eq_false (by omega)
  have e2 : (n = b) = False := eq_false (by omega)
  have hl : s.length ≤ most := by omega
  by_cases hs : s = []
  · subst hs
    have hz : (ofBytes ([] : Bytes) = []) = True := eq_true rfl
    cases g with
    | none =>
      have hacc : acc = [] := hbuf
      subst hacc
      have hb' : A b = .cells 141 2 [[a, .nilS]] := hb
      have fin : ∀ A', A' b = .cells 141 2 [[.ptr b 2 0 0, .nilS]] → (∀ d, d < n → d ≠ b → A' d = A d) → RunOps Cx fn (putA T dst (.tuple [.int .i64 (([] : Bytes).length : Int), .nilI])) ds ro os k ⟨n, A'⟩ Q := by
        intro A' h1 h3
        exact hk _ none ⟨lt, ⟨_, .inr rfl, h1⟩, rfl⟩ ⟨Nat.le_refl _, fun d hd hd2 _ => h3 d hd hd2, .inl rfl⟩
      rcases ha with rfl | rfl <;>
      (simp only [hb', hz, call_ext pure_cc ext_cc, copyG, runVH_some, builtinM, appendA, source, r86_0, r86_1, res86, tt, bb, bc, ↓bd, Nat.reduceEqDiff, Nat.reduceAdd, ↓reduceIte, reduceCtorEq]
       refine fin _ ?_ ?_
       · simp only [upd_app, ↓reduceIte]
       · intro d h1 h2
         simp only [upd_app, h2, ↓reduceIte])
    | some g =>
      obtain ⟨hgb, hgn, hg⟩ := hbuf
      have hgn' : g < n := hgn
      have hg' : A g = .cells 5 1 (ofBytes acc) := hg
      have hb' : A b = .cells 141 2 [[a, .slc g 1 0 acc.length]] := hb
      have f5 : (g = b) = False := eq_false hgb
      have f6 : (b = g) = False := eq_false (fun e => hgb e.symm)
      have f7 : (acc.length ≤ (ofBytes acc).length) = True := eq_true (by rw [len_ofB]; omega)
      have f8 : acc.length ≤ most := by omega
      have fin : ∀ A', A' b = .cells 141 2 [[.ptr b 2 0 0, .slc g 1 0 acc.length]] → A' g = A g → (∀ d, d < n → d ≠ b → d ≠ g → A' d = A d) → RunOps Cx fn (putA T dst (.tuple [.int .i64 (([] : Bytes).length : Int), .nilI])) ds ro os k ⟨n, A'⟩ Q := by
        intro A' h1 h2 h3
        refine hk _ (some g) ⟨lt, ⟨_, .inr rfl, by rw [List.append_nil]; exact h1⟩, hgb, hgn, by rw [List.append_nil]; exact h2.trans hg'⟩ ⟨Nat.le_refl _, fun d hd hd2 hd3 => h3 d hd hd2 (fun e => hd3 (by rw [e])), .inl rfl⟩
      rcases ha with rfl | rfl <;>
      (simp only [hb', hg', f5, f8, hz, call_ext pure_cc ext_cc, copyG, runVH_some, builtinM, appendA, source, Nat.mul_one, len_ofB, r86_0, r86_1, res86, tt, bb, bc, ↓bd, Nat.reduceEqDiff, Nat.reduceAdd, ↓reduceIte, reduceCtorEq]
       refine fin _ ?_ ?_ ?_
       · simp only [upd_app, ↓reduceIte]
       · simp only [upd_app, f5, ↓reduceIte]
       · intro d h1 h2 h3
         simp only [upd_app, h2, ↓reduceIte])
  · have hz : (ofBytes s = []) = False := eq_false (by simpa [ofBytes] using hs)
    cases g with
    | none =>
      have hacc : acc = [] := hbuf
      subst hacc
      have hb' : A b = .cells 141 2 [[a, .nilS]] := hb
      have fin : ∀ A', A' b = .cells 141 2 [[.ptr b 2 0 0, .slc n 1 0 s.length]] → A' n = .cells 5 1 (ofBytes s) → (∀ d, d < n → d ≠ b → A' d = A d) → RunOps Cx fn (putA T dst (.tuple [.int .i64 (s.length : Int), .nilI])) ds ro os k ⟨n + 1, A'⟩ Q := by
        intro A' h1 h2 h3
        exact hk _ (some n) ⟨(by show b < n + 1; omega), ⟨_, .inr rfl, h1⟩, (by omega), (by show n < n + 1; omega), h2⟩ ⟨(by show n ≤ n + 1; omega), fun d hd hd2 _ => h3 d hd hd2, .inr ⟨n, rfl, Nat.le_refl _⟩⟩
      rcases ha with rfl | rfl <;>
      (simp only [hb', e1, hz, hl, call_ext pure_cc ext_cc, copyG, runVH_some, builtinM, appendA, source, Nat.mul_one, len_ofB, r86_0, r86_1, res86, tt, bb, bc, ↓bd, Nat.reduceEqDiff, Nat.reduceAdd, ↓reduceIte, reduceCtorEq]
       refine fin _ ?_ ?_ ?_
       · simp only [upd_app, ↓reduceIte]
       · simp only [upd_app, e2, ↓reduceIte]
       · intro d h1 h2
         simp only [upd_app, h2, show (d = n) = False from eq_false (by omega), ↓reduceIte])
    | some g =>
      obtain ⟨hgb, hgn, hg⟩ := hbuf
      have hgn' : g < n := hgn
      have hg' : A g = .cells 5 1 (ofBytes acc) := hg
      have hb' : A b = .cells 141 2 [[a, .slc g 1 0 acc.length]] := hb
      have f1 : (g = n) = False := eq_false (by omega)
      have f2 : (n = g) = False := eq_false (by omega)
      have f5 : (g = b) = False := eq_false hgb
      have f6 : (b = g) = False := eq_false (fun e => hgb e.symm)
      have f7 : (acc.length ≤ (ofBytes acc).length) = True := eq_true (by rw [len_ofB]; omega)
      have f8 : acc.length + s.length ≤ most := hm
      have fin : ∀ A', A' b = .cells 141 2 [[.ptr b 2 0 0, .slc n 1 0 (acc.length + s.length)]] → A' n = .cells 5 1 (ofBytes acc ++ ofBytes s) → (∀ d, d < n → d ≠ b → d ≠ g → A' d = A d) → RunOps Cx fn (putA T dst (.tuple [.int .i64 (s.length : Int), .nilI])) ds ro os k ⟨n + 1, A'⟩ Q := by
        intro A' h1 h2 h3
        rw [ofB_append] at h2
        refine hk _ (some n) ⟨(by show b < n + 1; omega), ⟨_, .inr rfl, by rw [List.length_append]; exact h1⟩, (by omega), (by show n < n + 1; omega), h2⟩ ⟨(by show n ≤ n + 1; omega), fun d hd hd2 hd3 => h3 d hd hd2 (fun e => hd3 (by rw [e])), .inr ⟨n, rfl, Nat.le_refl _⟩⟩
      rcases ha with rfl | rfl <;>
      (simp only [hb', hg', e1, f5, f6, f8, hz, take_ofB, call_ext pure_cc ext_cc, copyG, runVH_some, builtinM, appendA, source, Nat.mul_one, len_ofB, r86_0, r86_1, res86, tt, bb, bc, ↓bd, Nat.reduceEqDiff, Nat.reduceAdd, ↓reduceIte, reduceCtorEq]
       refine fin _ ?_ ?_ ?_
       · simp only [upd_app, ↓reduceIte]
       · simp only [upd_app, e2, ↓reduceIte]
       · intro d h1 h2 h3
         simp only [upd_app, h2, h3, show (d = n) = False from eq_false (by omega), ↓reduceIte])
theorem String_call {n : Nat} {A : Nat → Blk} {b g : Nat} {acc : Bytes} (h : IsB 141 5 ⟨n, A⟩ b (some g) acc) (h0 : acc ≠ []) (hm : acc.length ≤ maxLen) :
    RunCall Cx fn T ds ro 87 [.ptr b 2 0 0] dst os k ⟨n, A⟩ Q = RunOps Cx fn (putA T dst (.str acc)) ds ro os k ⟨n, upd A g .dead⟩ Q := by
  obtain ⟨lt, ⟨a, ha, hb⟩, hgb, hgn, hg⟩ := h
  have hg' : A g = .cells 5 1 (ofBytes acc) := hg
  have hb' : A b = .cells 141 2 [[a, .slc g 1 0 acc.length]] := hb
  rw [call_ext pure_str ext_str]
  have hc : strG 141 5 [.ptr b 2 0 0] ⟨n, A⟩ = some (.str acc, ⟨n, upd A g .dead⟩) := by
    unfold strG
    simp only [hb', hg']
    rw [if_pos ⟨trivial, trivial, by simpa using h0, by rw [len_ofB]; omega, hm, by rw [take_ofB]; exact u8ok_ofB acc⟩, take_ofB, bytesOf_ofB]
    rfl
  rw [hc]
  rfl
end Go.Proofs.Ytckhmpcmlochpaa.G

namespace Go.Proofs.Ytckhmpcmlochpaa.G
open Go.BX
set_option linter.unusedSimpArgs false
set_option linter.unusedVariables false
theorem wr64 {n : Int} (h1 : -9223372036854775808 ≤ n) (h2 : n ≤ 9223372036854775807) : IntKind.i64.wrap n = n := by
  rw [IntKind.wrap_i64]; omega
structure Pr where
  key : Bytes
  k : Int
  n : Int
  s : Bytes
  x : Int
  y : Int
def encP (p : Pr) : List AV := [.str p.key, .int .i64 p.k, .int .i64 p.n, .str p.s, .int .i64 p.x, .int .i64 p.y]
end Go.Proofs.Ytckhmpcmlochpaa.G


namespace Go.Proofs.Ytckhmpcmlochpaa.G
open Go.BX
set_option linter.unusedSimpArgs false
set_option linter.unusedVariables false
theorem wr8 {n : Int} (h1 : 0 ≤ n) (h2 : n ≤ 255) : IntKind.u8.wrap n = n := by
  rw [IntKind.wrap_u8]; omega
theorem u8_of {n : Int} (h1 : 0 ≤ n) (h2 : n ≤ 255) : (((UInt8.ofNat n.toNat).toNat : Nat) : Int) = n := by
  rw [UInt8.toNat_ofNat']; omega
end Go.Proofs.Ytckhmpcmlochpaa.G
namespace Go.Proofs.Ytckhmpcmlochpaa.G
open Go.BX
set_option linter.unusedSimpArgs false
set_option linter.unusedVariables false
def digB (d : Nat) : UInt8 := UInt8.ofNat (48 + d)
def decN (m : Nat) : Bytes := if m < 10 then [digB m] else decN (m / 10) ++ [digB (m % 10)]
termination_by m
decreasing_by omega
def decS (n : Int) : Bytes := if n < 0 then 45 :: decN (-n).toNat else decN n.toNat
theorem decN_lt {m : Nat} (h : m < 10) : decN m = [digB m] := by rw [decN, if_pos h]
theorem decN_ge {m : Nat} (h : ¬ m < 10) : decN m = decN (m / 10) ++ [digB (m % 10)] := by rw [decN, if_neg h]
theorem decN_len8 : ∀ {k m : Nat}, m < 10 ^ (k + 1) → (decN m).length ≤ k + 1
  | 0, m, h => by rw [decN_lt (by simpa using h)]; simp
  | k + 1, m, h => by
    by_cases h1 : m < 10
    · rw [decN_lt h1]; simp
    · rw [decN_ge h1, List.length_append, List.length_singleton]
      have := @decN_len8 k (m / 10) (by rw [Nat.pow_succ] at h; omega)
      omega
theorem td10 {n : Int} (h : 0 ≤ n) : n.tmod 10 = n % 10 ∧ n.tdiv 10 = n / 10 := ⟨Int.tmod_eq_emod_of_nonneg h, Int.tdiv_eq_ediv_of_nonneg h⟩
def hexB (d : Nat) : UInt8 := if d < 10 then UInt8.ofNat (48 + d) else UInt8.ofNat (87 + d)
abbrev digits : Bytes := [48, 49, 50, 51, 52, 53, 54, 55, 56, 57, 97, 98, 99, 100, 101, 102]
theorem slice_dig {k : IntKind} {d : Int} (h0 : 0 ≤ d) (h1 : d < 16) : sliceA Cx 9 (.str digits) (some (.int k d)) (some (.int k (d + 1))) none = some (.str [hexB d.toNat]) := by
  have : d = 0 ∨ d = 1 ∨ d = 2 ∨ d = 3 ∨ d = 4 ∨ d = 5 ∨ d = 6 ∨ d = 7 ∨ d = 8 ∨ d = 9 ∨ d = 10 ∨ d = 11 ∨ d = 12 ∨ d = 13 ∨ d = 14 ∨ d = 15 := by omega
  unfold sliceA
  rw [TT_9]
  rcases this with rfl | rfl | rfl | rfl | rfl | rfl | rfl | rfl | rfl | rfl | rfl | rfl | rfl | rfl | rfl | rfl <;> rfl
theorem hexB_dig {d : Nat} (h : d < 10) : hexB d = digB d := by unfold hexB digB; rw [if_pos h]
def PD (r : AV) (n : Int) (out : Bytes) : Prop :=
  ∀ (T : Nat → AV) (H : AHeap), T 0 = .int .i64 n → T 3 = .str out →
    Run Cx 77 T [] none [.inLoop c77_14, .inBlock 0] H (fun r0 H' => BX.freeze H' r0 = some r)
theorem pd_step {n : Int} {out : Bytes} {r : AV} (h0 : 0 ≤ n) (hn : n ≤ 9007199254740992) (hl : out.length ≤ 1000) (hp : n / 10 = 0 ∧ r = .str (digB (n % 10).toNat :: out) ∨ ¬ n / 10 = 0 ∧ PD r (n / 10) (digB (n % 10).toNat :: out)) : PD r n out := by
  intro T H t0 t3
  rw [run_inLoop]
  obtain ⟨t1, t2⟩ := td10 (n := n) (by omega)
  have w1 : IntKind.i64.wrap (n % 10 + 1) = n % 10 + 1 := wr64 (by omega) (by omega)
  have w3 : IntKind.i64.wrap (n / 10) = n / 10 := wr64 (by omega) (by omega)
  have z : ((10 : Int) = 0) = False := by simp
  have hs := slice_dig (k := .i64) (d := n % 10) (by omega) (by omega)
  rw [hexB_dig (by omega)] at hs
  have hlen : (1 + out.length ≤ 9223372036854775807) = True := eq_true (by omega)
  rcases hp with ⟨hz, rfl⟩ | ⟨hz, hp⟩
  · have w0 : IntKind.i64.wrap 0 = 0 := rfl
    simp only [t0, t3, t1, t2, w0, w1, z, hs, hz, hlen, evo, r77_1, r77_2, r77_3, res77, bb, bc, ↓bd, Nat.reduceEqDiff, ↓reduceIte, reduceCtorEq]
  · have hz' : (n / 10 == 0) = false := by simpa using hz
    simp only [t0, t3, t1, t2, w1, w3, z, hs, hz', hlen, evo, run_inBlock, r77_1, r77_2, r77_3, bb, ↓bd, Nat.reduceEqDiff, ↓reduceIte, reduceCtorEq]
    refine hp _ _ ?_ ?_
    all_goals simp only [upd_app, Nat.reduceEqDiff, ↓reduceIte]
theorem pd_all : ∀ (m : Nat) (out : Bytes), m ≤ 9007199254740992 → out.length + (decN m).length ≤ 1000 → PD (.str (decN m ++ out)) (m : Int) out := by
  intro m
  induction m using Nat.strongRecOn with
  | _ m ih =>
    intro out hm hl
    have e2 : ((m : Int) % 10).toNat = m % 10 := by omega
    by_cases h : m < 10
    · rw [decN_lt h] at hl ⊢
      refine pd_step (by omega) (by omega) (by omega) (.inl ⟨by omega, ?_⟩)
      rw [e2, Nat.mod_eq_of_lt h]; rfl
    · rw [decN_ge h] at hl ⊢
      rw [List.length_append, List.length_singleton] at hl
      refine pd_step (by omega) (by omega) (by omega) (.inr ⟨by omega, ?_⟩)
      rw [e2, show (m : Int) / 10 = ((m / 10 : Nat) : Int) by omega]
      have := ih (m / 10) (by omega) (digB (m % 10) :: out) (by omega) (by rw [List.length_cons]; omega)
      rwa [List.append_assoc]
theorem decimal_nat (n : Int) (h0 : 0 ≤ n) (hn : n ≤ 9007199254740992) : PCall Cx 77 [.int .i64 n] (.str (decN n.toNat)) := by
  refine pcall_run (noext _) body77 ?_
  have h1 : ¬ n < 0 := by omega
  have hp : PD (.str (decN n.toNat)) n [] := by
    have hl := decN_len8 (k := 15) (m := n.toNat) (by omega)
    have := pd_all n.toNat [] (by omega) (by rw [List.length_nil]; omega)
    rwa [List.append_nil, show ((n.toNat : Nat) : Int) = n by omega] at this
  simp only [h1, r77_0, r77_1.2.1, r77_1.2.2.1, r77_1.2.2.2.1, r77_1.2.2.2.2.1, r77_1.2.2.2.2.2.1, bb, ↓bd, ↓reduceIte, reduceCtorEq]
  refine hp _ _ ?_ ?_
  all_goals simp only [upd_app, enterT, List.getElem?_cons_zero, Option.getD_some, Nat.reduceEqDiff, ↓reduceIte]
theorem decN_len (n : Int) (hn : n ≤ 9007199254740992) : (decN n.toNat).length ≤ 16 := decN_len8 (k := 15) (by omega)
theorem decS_len (n : Int) (hn : -9007199254740992 ≤ n ∧ n ≤ 9007199254740992) : (decS n).length ≤ 17 := by
  unfold decS
  split
  · rw [List.length_cons]; have := decN_len (-n) (by omega); omega
  · have := decN_len n (by omega); omega
theorem decimal_ok (n : Int) (hn : -9007199254740992 ≤ n ∧ n ≤ 9007199254740992) : PCall Cx 77 [.int .i64 n] (.str (decS n)) := by
  unfold decS
  by_cases h : n < 0
  · rw [if_pos h]
    have hd := decimal_nat (-n) (by omega) (by omega)
    refine pcall_run (noext _) body77 ?_
    have w : IntKind.i64.wrap (0 - n) = -n := by rw [wr64 (by omega) (by omega), Int.zero_sub]
    have hl := decN_len (-n) (by omega)
    have hlen : (1 + (decN (-n).toNat).length ≤ 9223372036854775807) = True := eq_true (by omega)
    simp only [h, w, hlen, call_pure pure77 rfl hd, r77_0, r77_1, res77, bb, bc, ↓bd, ↓reduceIte, reduceCtorEq]
  · rw [if_neg h]
    exact decimal_nat n (by omega) (by omega)
end Go.Proofs.Ytckhmpcmlochpaa.G
namespace Go.Proofs.Ytckhmpcmlochpaa.G
open Go.BX
set_option linter.unusedSimpArgs false
set_option linter.unusedVariables false
def plainI (n : Int) : Bool := ((decide (32 ≤ n) && decide (n ≤ 126)) && n != 34) && n != 92
def plainB (c : UInt8) : Bool := plainI (c.toNat : Int)
theorem plain_ok (n : Int) : PCall Cx 65 [.int .u8 n] (.bool (plainI n)) := by
  refine pcall_run (noext _) body65 ?_
  unfold plainI
  by_cases h1 : 32 ≤ n <;> by_cases h2 : n ≤ 126 <;> cases h3 : (n != 34) <;>
  simp only [h1, h2, h3, r65_0, res65, bb, bc, ↓bd, Nat.reduceEqDiff, ↓reduceIte, reduceCtorEq]
def q1 (c : UInt8) : Bytes := if plainB c then [c] else [92, hexB (c.toNat / 16), hexB (c.toNat % 16)]
def quoM (s : Bytes) : Bytes := s.flatMap q1
def quoS (s : Bytes) : Bytes := 34 :: (quoM s ++ [34])
theorem q1_len (c : UInt8) : (q1 c).length ≤ 3 := by unfold q1; split <;> simp
theorem quoM_cons (c : UInt8) (s : Bytes) : quoM (c :: s) = q1 c ++ quoM s := rfl
theorem td16 {n : Int} (h : 0 ≤ n) : n.tmod 16 = n % 16 ∧ n.tdiv 16 = n / 16 := ⟨Int.tmod_eq_emod_of_nonneg h, Int.tdiv_eq_ediv_of_nonneg h⟩
def PQ (s : Bytes) (r : AV) (i : Nat) (acc : Bytes) : Prop :=
  ∀ (T : Nat → AV) (H : AHeap) (g : Nat), T 0 = .str s → T 3 = .ptr 0 2 0 0 → T 8 = .int .i64 (s.length : Int) → T 9 = .int .i64 (i : Int) → IsB 141 5 H 0 (some g) acc →
    Run Cx 78 T [] none [.inLoop c78_11, .inBlock 0, .code c78_29] H (fun r0 H' => BX.freeze H' r0 = some r)
theorem pq_end {s acc : Bytes} (hl : acc.length ≤ 1000000) : PQ s (.str (acc ++ [34])) s.length acc := by
  intro T H g t0 t3 t8 t9 hB
  obtain ⟨n, A⟩ := H
  rw [run_inLoop]
  have h0 : ((s.length : Int) < (s.length : Int)) = False := by simp
  simp only [t3, t8, t9, h0, exit_here, exit_code, exit_inLoop, r78_1, r78_2, r78_3, bb, bc, ↓bd, Nat.reduceEqDiff, ↓reduceIte]
  refine WriteByte_call (x := 34) hB (by unfold most; omega) ?_
  intro H' z hB' _
  obtain ⟨n', A'⟩ := H'
  simp only [t3, r78_3, r78_4, bb, bc, ↓bd, Nat.reduceEqDiff, ↓reduceIte]
  rw [String_call hB' (by simp) (by unfold maxLen; rw [List.length_append, List.length_singleton]; omega)]
  simp only [r78_4, res78, bb, bc, ↓bd, ↓reduceIte]
theorem pq_step {s acc : Bytes} {i : Nat} {c : UInt8} {r : AV} (hi : s[i]? = some c) (hs : s.length ≤ 100000) (hl : acc.length ≤ 1000000) (hp : PQ s r (i + 1) (acc ++ q1 c)) : PQ s r i acc := by
  intro T H g t0 t3 t8 t9 hB
  obtain ⟨n, A⟩ := H
  rw [run_inLoop]
  have hlt : i < s.length := (List.getElem?_eq_some_iff.mp hi).1
  have h0 : ((i : Int) < (s.length : Int)) = True := eq_true (by omega)
  have w1 : IntKind.i64.wrap ((i : Int) + 1) = ((i + 1 : Nat) : Int) := by rw [wr64 (by omega) (by omega)]; omega
  have hcu := c.toNat_lt
  have hc0 : (0 : Int) ≤ (i : Int) := by omega
  have hpl := plain_ok (c.toNat : Int)
  unfold q1 at hp
  by_cases hc : plainB c = true
  · have hc' : plainI (c.toNat : Int) = true := hc
    rw [if_pos hc] at hp
    simp only [t0, t3, t8, t9, h0, hi, hc', hc0, indexA, Int.toNat_natCast, call_pure pure65 rfl hpl, r78_1, r78_2, r78_3, tt, bb, bc, ↓bd, Nat.reduceEqDiff, ↓reduceIte, reduceCtorEq]
    refine WriteByte_call hB (by unfold most; omega) ?_
    intro H' z hB' _
    simp only [t9, w1, run_inBlock, r78_3, bb, ↓bd, Nat.reduceEqDiff, ↓reduceIte]
    refine hp _ _ z ?_ ?_ ?_ ?_ hB'
    all_goals simp only [upd_app, t0, t3, t8, Nat.reduceEqDiff, ↓reduceIte]
  · have hc' : plainI (c.toNat : Int) = false := by
      show plainB c = false
      simpa using hc
    rw [if_neg hc] at hp
    obtain ⟨t1, t2⟩ := td16 (n := c.toNat) (by omega)
    have z16 : ((16 : Int) = 0) = False := by simp
    have w2 : IntKind.u8.wrap ((c.toNat : Int) / 16) = (c.toNat : Int) / 16 := wr8 (by omega) (by omega)
    have w3 : IntKind.u8.wrap ((c.toNat : Int) / 16 + 1) = (c.toNat : Int) / 16 + 1 := wr8 (by omega) (by omega)
    have w4 : IntKind.u8.wrap ((c.toNat : Int) % 16 + 1) = (c.toNat : Int) % 16 + 1 := wr8 (by omega) (by omega)
    have s1 := slice_dig (k := .u8) (d := (c.toNat : Int) / 16) (by omega) (by omega)
    have s2 := slice_dig (k := .u8) (d := (c.toNat : Int) % 16) (by omega) (by omega)
    rw [show ((c.toNat : Int) / 16).toNat = c.toNat / 16 by omega] at s1
    rw [show ((c.toNat : Int) % 16).toNat = c.toNat % 16 by omega] at s2
    simp only [t0, t3, t8, t9, h0, hi, hc', hc0, t1, t2, z16, w2, w3, w4, s1, s2, evo, indexA, Int.toNat_natCast, call_pure pure65 rfl hpl, r78_1, r78_2, r78_3, tt, bb, bc, ↓bd, Nat.reduceEqDiff, Nat.reduceAdd, Nat.reduceLeDiff, ↓reduceIte, reduceCtorEq]
    refine WriteString_call hB (by unfold most; simp; omega) ?_
    intro H' g' hB' _
    have hg : ∃ z, g' = some z := by
      cases g' with
      | some z => exact ⟨z, rfl⟩
      | none => have := hB'.buf; simp at this
    obtain ⟨z, rfl⟩ := hg
    simp only [t9, w1, run_inBlock, r78_3, bb, ↓bd, Nat.reduceEqDiff, Nat.reduceAdd, ↓reduceIte]
    refine hp _ _ z ?_ ?_ ?_ ?_ hB'
    all_goals simp only [upd_app, t0, t3, t8, Nat.reduceEqDiff, ↓reduceIte]
theorem pq_all {s : Bytes} (hs : s.length ≤ 100000) : ∀ (j i : Nat) (acc : Bytes), i + j = s.length → acc.length ≤ 1 + 3 * i → PQ s (.str (acc ++ (quoM (s.drop i) ++ [34]))) i acc
  | 0, i, acc, hij, hl => by
    have e : i = s.length := by omega
    subst e
    rw [List.drop_length]
    exact pq_end (by omega)
  | j + 1, i, acc, hij, hl => by
    have hi : i < s.length := by omega
    have hd : s.drop i = s[i] :: s.drop (i + 1) := List.drop_eq_getElem_cons hi
    rw [hd, quoM_cons]
    have := pq_all hs j (i + 1) (acc ++ q1 s[i]) (by omega) (by rw [List.length_append]; have := q1_len s[i]; omega)
    simp only [List.append_assoc] at this ⊢
    exact pq_step (List.getElem?_eq_getElem hi) hs (by omega) this
theorem quoted_ok (s : Bytes) (hs : s.length ≤ 100000) : PCall Cx 78 [.str s] (.str (quoS s)) := by
  refine pcall_run (noext _) body78 ?_
  have hp := pq_all hs s.length 0 [34] (by omega) (by simp)
  simp only [r78_0, tt, bb, bc, ↓bd, ↓reduceIte]
  refine WriteByte_call (x := 34) (g := none) (acc := []) ⟨by show 0 < 1; omega, ⟨.nilP, .inl rfl, by simp only [upd_app, ↓reduceIte]⟩, rfl⟩ (by unfold most; simp) ?_
  intro H' z hB _
  simp only [r78_0, r78_1.1, r78_1.2.1, r78_1.2.2.1, tt, bb, bc, ↓bd, ↓reduceIte, reduceCtorEq]
  refine hp _ _ z ?_ ?_ ?_ ?_ hB
  all_goals simp only [upd_app, enterT, List.getElem?_cons_zero, Option.getD_some, Nat.reduceEqDiff, ↓reduceIte, Int.ofNat_zero]
  all_goals rfl
end Go.Proofs.Ytckhmpcmlochpaa.G

namespace Go.Proofs.Ytckhmpcmlochpaa.G
open Go.BX
set_option linter.unusedSimpArgs false
set_option linter.unusedVariables false
abbrev spot (x y : Int) : AV := .agg [.int .i64 x, .int .i64 y]
abbrev val (k n : Int) (s : Bytes) (x y : Int) : AV := .agg [.int .i64 k, .int .i64 n, .str s, .int .i64 x, .int .i64 y]
def inR (n : Int) : Bool := decide (-16777216 ≤ n) && decide (n ≤ 16777216)
theorem inside_ok (x : Int) : PCall Cx 37 [.int .i64 x] (.bool (inR x)) := by
  refine pcall_run (noext _) body37 ?_
  by_cases h : -16777216 ≤ x <;>
  simp only [h, inR, r37_0, res37, bb, bc, ↓bd, Nat.reduceEqDiff, ↓reduceIte, reduceCtorEq, Int.reduceNeg]
theorem gRight_ok (x y : Int) : PCall Cx 24 [spot x y] (.bool (inR x && inR y)) := by
  refine pcall_run (noext _) body24 ?_
  by_cases h : inR x = true
  · simp only [h, spot, call_pure pure37 rfl (inside_ok x), call_pure pure37 rfl (inside_ok y), r24_0, res24, tt, bb, bc, ↓bd, Nat.reduceEqDiff, Nat.reduceAdd, ↓reduceIte]
  · simp only [Bool.not_eq_true] at h
    simp only [h, spot, call_pure pure37 rfl (inside_ok x), r24_0, res24, tt, bb, bc, ↓bd, Nat.reduceEqDiff, Nat.reduceAdd, ↓reduceIte]
def rightV (k n : Int) (s : Bytes) (x y : Int) : Bool :=
  if k = 0 then ((decide (-9007199254740992 ≤ n) && decide (n ≤ 9007199254740992)) && !(s != [])) && !(!((x == 0) && (y == 0)))
  else if k = 1 then (decide ((s.length : Int) ≤ 4096) && !(n != 0)) && !(!((x == 0) && (y == 0)))
  else if k = 2 then ((inR x && inR y) && !(n != 0)) && !(s != [])
  else false
theorem Right_ok (k n : Int) (s : Bytes) (x y : Int) : PCall Cx 16 [val k n s x y] (.bool (rightV k n s x y)) := by
  refine pcall_run (noext _) body16 ?_
  unfold rightV
  by_cases h0 : k = 0
  · subst h0
    cases h1 : decide (-9007199254740992 ≤ n) with
    | false => simp only [h1, Bool.false_and, r16_0, r16_1, res16, tt, bb, bc, ↓bd, Nat.reduceEqDiff, Nat.reduceAdd, ↓reduceIte, Int.reduceNeg]
    | true =>
      cases h2 : decide (n ≤ 9007199254740992) with
      | false => simp only [h1, h2, Bool.false_and, r16_0, r16_1, res16, tt, bb, bc, ↓bd, Nat.reduceEqDiff, Nat.reduceAdd, ↓reduceIte, Int.reduceNeg]
      | true =>
        cases h3 : (s != []) <;>
        simp only [h1, h2, h3, Bool.false_and, Bool.true_and, r16_0, r16_1, res16, tt, bb, bc, ↓bd, Nat.reduceEqDiff, Nat.reduceAdd, ↓reduceIte, Int.reduceNeg]
  · have e0 : (k == 0) = false := by simpa using h0
    by_cases h1 : k = 1
    · subst h1
      cases h2 : decide ((s.length : Int) ≤ 4096) with
      | false => simp only [h2, Bool.false_and, r16_0, r16_1, r16_2, res16, tt, bb, bc, ↓bd, Nat.reduceEqDiff, Nat.reduceAdd, ↓reduceIte, Int.reduceBEq, Int.reduceEq]
      | true =>
        cases h3 : (n != 0) <;>
        simp only [h2, h3, Bool.false_and, Bool.true_and, r16_0, r16_1, r16_2, res16, tt, bb, bc, ↓bd, Nat.reduceEqDiff, Nat.reduceAdd, ↓reduceIte, Int.reduceBEq, Int.reduceEq]
    · have e1 : (k == 1) = false := by simpa using h1
      by_cases h2 : k = 2
      · subst h2
        cases h3 : (inR x && inR y) with
        | false => simp only [h3, call_pure pure24 rfl (gRight_ok x y), Bool.false_and, r16_0, r16_1, r16_2, r16_3, res16, tt, bb, bc, ↓bd, Nat.reduceEqDiff, Nat.reduceAdd, ↓reduceIte, Int.reduceBEq, Int.reduceEq]
        | true =>
          cases h4 : (n != 0) <;>
          simp only [h3, h4, call_pure pure24 rfl (gRight_ok x y), Bool.false_and, Bool.true_and, r16_0, r16_1, r16_2, r16_3, res16, tt, bb, bc, ↓bd, Nat.reduceEqDiff, Nat.reduceAdd, ↓reduceIte, Int.reduceBEq, Int.reduceEq]
      · have e2 : (k == 2) = false := by simpa using h2
        simp only [h0, h1, h2, e0, e1, e2, run_inBlock, r16_0, r16_1, r16_2, r16_3, res16, tt, bb, bc, ↓bd, Nat.reduceEqDiff, Nat.reduceAdd, ↓reduceIte]
theorem isNaN_ok (x : Int) : PCall Cx 83 [.int .i64 x] (.bool false) := by
  refine pcall_run (noext _) body83 ?_
  simp only [r83_0, res83, bb, bc, ↓bd, Nat.reduceEqDiff, ↓reduceIte, reduceCtorEq]
def cmpI (x y : Int) : Int := if x < y then -1 else if y < x then 1 else 0
theorem Compare_ok (x y : Int) : PCall Cx 72 [.int .i64 x, .int .i64 y] (.int .i64 (cmpI x y)) := by
  refine pcall_run (noext _) body72 ?_
  unfold cmpI
  by_cases h1 : x < y <;> by_cases h2 : y < x <;>
  simp only [h1, h2, call_pure pure83 rfl (isNaN_ok x), call_pure pure83 rfl (isNaN_ok y), r72_0, r72_1, r72_2, r72_3, r72_4, r72_5, r72_6, res72, bb, bc, ↓bd, Nat.reduceEqDiff, ↓reduceIte, reduceCtorEq, Int.reduceNeg]
theorem cmpstring_ok (a b : Bytes) : PCall Cx 90 [.str a, .str b] (.int .i64 (cmpL a b)) := pcall_ext (g := cmpG) rfl rfl rfl
theorem pure_cmpstring : Cx.pure 90 = true := by kernel_rfl
theorem CompareString_ok (a b : Bytes) : PCall Cx 84 [.str a, .str b] (.int .i64 (cmpL a b)) := by
  refine pcall_run (noext _) body84 ?_
  simp only [call_pure pure_cmpstring rfl (cmpstring_ok a b), r84_0, res84, bb, bc, ↓bd, Nat.reduceEqDiff, ↓reduceIte, reduceCtorEq]
theorem strCompare_ok (a b : Bytes) : PCall Cx 73 [.str a, .str b] (.int .i64 (cmpL a b)) := by
  refine pcall_run (noext _) body73 ?_
  simp only [call_pure pure84 rfl (CompareString_ok a b), r73_0, res73, bb, bc, ↓bd, Nat.reduceEqDiff, ↓reduceIte, reduceCtorEq]
def oc (a b : Int) : Int := if a = 0 then b else a
set_option maxRecDepth 20000 in
theorem Or_ok (a b c d e : Int) : PCall Cx 71 [.vec 1 [[.int .i64 a], [.int .i64 b], [.int .i64 c], [.int .i64 d], [.int .i64 e]]] (.int .i64 (oc a (oc b (oc c (oc d e))))) := by
  refine pcall_run (noext _) body71 ?_
  unfold oc
  have w1 : IntKind.i64.wrap 1 = 1 := rfl
  have w2 : IntKind.i64.wrap 2 = 2 := rfl
  have w3 : IntKind.i64.wrap 3 = 3 := rfl
  have w4 : IntKind.i64.wrap 4 = 4 := rfl
  have w5 : IntKind.i64.wrap 5 = 5 := rfl
  have key : ∀ x : Int, x = 0 ∨ (x != 0) = true ∧ (x = 0) = False := fun x => by
    by_cases h : x = 0
    · exact .inl h
    · exact .inr ⟨by simpa using h, eq_false h⟩
  rcases key a with rfl | ⟨ea, fa⟩
  · rcases key b with rfl | ⟨eb, fb⟩
    · rcases key c with rfl | ⟨ec, fc⟩
      · rcases key d with rfl | ⟨ed, fd⟩
        · rcases key e with rfl | ⟨ee, fe⟩
          · simp only [w1, w2, w3, w4, w5, xx, run_inLoop, r71_0, r71_1, r71_2, r71_3, res71, tt, bb, bc, ↓bd, Nat.reduceEqDiff, Nat.reduceAdd, ↓reduceIte, reduceCtorEq, Int.reduceLT, Int.reduceLE, Int.reduceAdd, Int.reduceToNat]
          · simp only [ee, w1, w2, w3, w4, xx, run_inLoop, r71_0, r71_1, r71_2, r71_3, res71, tt, bb, bc, ↓bd, Nat.reduceEqDiff, Nat.reduceAdd, ↓reduceIte, reduceCtorEq, Int.reduceLT, Int.reduceLE, Int.reduceAdd, Int.reduceToNat]
        · simp only [ed, fd, w1, w2, w3, xx, run_inLoop, r71_0, r71_1, r71_2, r71_3, res71, tt, bb, bc, ↓bd, Nat.reduceEqDiff, Nat.reduceAdd, ↓reduceIte, reduceCtorEq, Int.reduceLT, Int.reduceLE, Int.reduceAdd, Int.reduceToNat]
      · simp only [ec, fc, w1, w2, xx, run_inLoop, r71_0, r71_1, r71_2, r71_3, res71, tt, bb, bc, ↓bd, Nat.reduceEqDiff, Nat.reduceAdd, ↓reduceIte, reduceCtorEq, Int.reduceLT, Int.reduceLE, Int.reduceAdd, Int.reduceToNat]
    · simp only [eb, fb, w1, xx, run_inLoop, r71_0, r71_1, r71_2, r71_3, res71, tt, bb, bc, ↓bd, Nat.reduceEqDiff, Nat.reduceAdd, ↓reduceIte, reduceCtorEq, Int.reduceLT, Int.reduceLE, Int.reduceAdd]
  · simp only [ea, fa, run_inLoop, r71_0, r71_1, r71_2, r71_3, res71, tt, bb, bc, ↓bd, Nat.reduceEqDiff, Nat.reduceAdd, ↓reduceIte, reduceCtorEq, Int.reduceLT, Int.reduceLE]
def ordV (k n : Int) (s : Bytes) (x y : Int) (k' n' : Int) (s' : Bytes) (x' y' : Int) : Int := oc (cmpI k k') (oc (cmpI n n') (oc (cmpL s s') (oc (cmpI x x') (cmpI y y'))))
set_option maxRecDepth 20000 in
theorem Order_ok (k n : Int) (s : Bytes) (x y : Int) (k' n' : Int) (s' : Bytes) (x' y' : Int) : PCall Cx 55 [val k n s x y, val k' n' s' x' y'] (.int .i64 (ordV k n s x y k' n' s' x' y')) := by
  refine pcall_run (noext _) body55 ?_
  unfold ordV
  simp only [call_pure pure72 rfl (Compare_ok k k'), call_pure pure72 rfl (Compare_ok n n'), call_pure pure72 rfl (Compare_ok x x'), call_pure pure72 rfl (Compare_ok y y'), call_pure pure73 rfl (strCompare_ok s s'), call_any pure71 rfl (Or_ok (cmpI k k') (cmpI n n') (cmpL s s') (cmpI x x') (cmpI y y')), r55_0, res55, tt, bb, bc, ↓bd, Nat.reduceEqDiff, Nat.reduceAdd, Nat.reduceMul, Nat.reduceLeDiff, ↓reduceIte, reduceCtorEq, List.reduceReplicate]
end Go.Proofs.Ytckhmpcmlochpaa.G

namespace Go.Proofs.Ytckhmpcmlochpaa.G
open Go.BX
set_option linter.unusedSimpArgs false
structure IsCmp {α : Type} (c : α → α → Int) : Prop where
  rng : ∀ a b, c a b = -1 ∨ c a b = 0 ∨ c a b = 1
  anti : ∀ a b, c b a = - c a b
  zero : ∀ a b, c a b = 0 ↔ a = b
  trans : ∀ a b d, c a b ≤ 0 → c b d ≤ 0 → c a d ≤ 0
theorem cmpI_cmp : IsCmp cmpI where
  rng a b := by
    unfold cmpI
    split
    · exact .inl rfl
    · split
      · exact .inr (.inr rfl)
      · exact .inr (.inl rfl)
  anti a b := by
    unfold cmpI
    rcases Int.lt_trichotomy a b with h | h | h
    · rw [if_neg (by omega), if_pos h, if_pos h]; rfl
    · subst h; simp
    · rw [if_pos h, if_neg (by omega), if_pos h]
  zero a b := by
    unfold cmpI
    rcases Int.lt_trichotomy a b with h | h | h
    · rw [if_pos h]; constructor <;> intro h2 <;> omega
    · subst h; simp
    · rw [if_neg (by omega), if_pos h]; constructor <;> intro h2 <;> omega
  trans a b d h1 h2 := by
    unfold cmpI at *
    split at h1 <;> split at h2 <;> split <;> (try split at h1) <;> (try split at h2) <;> (try split) <;> omega
theorem u8_lt_trichotomy (x y : UInt8) : x < y ∨ x = y ∨ y < x := by
  rcases Nat.lt_trichotomy x.toNat y.toNat with h | h | h
  · exact .inl h
  · exact .inr (.inl (UInt8.toNat_inj.mp h))
  · exact .inr (.inr h)
theorem cmpL_rng : ∀ a b, cmpL a b = -1 ∨ cmpL a b = 0 ∨ cmpL a b = 1
  | [], [] => by simp [cmpL]
  | [], _ :: _ => by simp [cmpL]
  | _ :: _, [] => by simp [cmpL]
  | x :: xs, y :: ys => by
    unfold cmpL
    have ih := cmpL_rng xs ys
    split
    · exact ih
    · split
      · exact .inl rfl
      · exact .inr (.inr rfl)
theorem cmpL_anti : ∀ a b, cmpL b a = - cmpL a b
  | [], [] => by simp [cmpL]
  | [], _ :: _ => by simp [cmpL]
  | _ :: _, [] => by simp [cmpL]
  | x :: xs, y :: ys => by
    have ih := cmpL_anti xs ys
    unfold cmpL
    rcases u8_lt_trichotomy x y with h | h | h
    · have h1 : ¬ x = y := fun e => by subst e; exact absurd h (UInt8.lt_irrefl _)
      have h2 : ¬ y < x := fun e => absurd (UInt8.lt_trans h e) (UInt8.lt_irrefl _)
      rw [if_neg (fun e => h1 e.symm), if_neg h2, if_neg h1, if_pos h]; rfl
    · subst h; simp [ih]
    · have h1 : ¬ x = y := fun e => by subst e; exact absurd h (UInt8.lt_irrefl _)
      have h2 : ¬ x < y := fun e => absurd (UInt8.lt_trans h e) (UInt8.lt_irrefl _)
      rw [if_neg (fun e => h1 e.symm), if_pos h, if_neg h1, if_neg h2]
theorem cmpL_zero : ∀ a b, cmpL a b = 0 ↔ a = b
  | [], [] => by simp [cmpL]
  | [], _ :: _ => by simp [cmpL]
  | _ :: _, [] => by simp [cmpL]
  | x :: xs, y :: ys => by
    have ih := cmpL_zero xs ys
    unfold cmpL
    by_cases h : x = y
    · subst h; simp [ih]
    · rw [if_neg h]
      split <;> simp [h]
theorem cmpL_trans : ∀ a b d, cmpL a b ≤ 0 → cmpL b d ≤ 0 → cmpL a d ≤ 0
  | [], _, [] => by simp [cmpL]
  | [], _, _ :: _ => by simp [cmpL]
  | _ :: _, [], _ => by simp [cmpL]
  | _ :: _, _ :: _, [] => by simp [cmpL]
  | x :: xs, y :: ys, z :: zs => by
    have ih := cmpL_trans xs ys zs
    unfold cmpL
    intro h1 h2
    by_cases hxy : x = y
    · subst hxy
      rw [if_pos rfl] at h1
      by_cases hz : x = z
      · subst hz
        rw [if_pos rfl] at h2 ⊢
        exact ih h1 h2
      · rw [if_neg hz] at h2 ⊢
        exact h2
    · rw [if_neg hxy] at h1
      have hlt : x < y := by
        by_cases h : x < y
        · exact h
        · rw [if_neg h] at h1; omega
      by_cases hyz : y = z
      · subst hyz
        rw [if_neg hxy, if_pos hlt]; omega
      · rw [if_neg hyz] at h2
        have hlt2 : y < z := by
          by_cases h : y < z
          · exact h
          · rw [if_neg h] at h2; omega
        have hxz := UInt8.lt_trans hlt hlt2
        have hne : ¬ x = z := fun e => by subst e; exact absurd hxz (UInt8.lt_irrefl _)
        rw [if_neg hne, if_pos hxz]; omega
theorem cmpL_cmp : IsCmp cmpL := ⟨cmpL_rng, cmpL_anti, cmpL_zero, cmpL_trans⟩
theorem lex_cmp {α β : Type} {c : α → α → Int} {d : β → β → Int} (hc : IsCmp c) (hd : IsCmp d) : IsCmp (fun (a b : α × β) => oc (c a.1 b.1) (d a.2 b.2)) where
  rng a b := by
    unfold oc
    split
    · exact hd.rng _ _
    · exact hc.rng _ _
  anti a b := by
    unfold oc
    have h1 := hc.anti a.1 b.1
    have h2 := hd.anti a.2 b.2
    by_cases h : c a.1 b.1 = 0
    · rw [if_pos h, if_pos (by omega), h2]
    · rw [if_neg h, if_neg (by omega), h1]
  zero a b := by
    unfold oc
    have h1 := hc.zero a.1 b.1
    have h2 := hd.zero a.2 b.2
    by_cases h : c a.1 b.1 = 0
    · rw [if_pos h, h2]
      constructor
      · intro e; exact Prod.ext (h1.mp h) e
      · intro e; rw [e]
    · rw [if_neg h]
      constructor
      · intro e; exact absurd e h
      · intro e; exact h1.mpr (by rw [e])
  trans a b e h1 h2 := by
    unfold oc at *
    by_cases g1 : c a.1 b.1 = 0
    · have e1 := (hc.zero _ _).mp g1
      rw [if_pos g1] at h1
      rw [e1]
      by_cases g2 : c b.1 e.1 = 0
      · rw [if_pos g2] at h2 ⊢
        exact hd.trans _ _ _ h1 h2
      · rw [if_neg g2] at h2 ⊢
        exact h2
    · rw [if_neg g1] at h1
      by_cases g2 : c b.1 e.1 = 0
      · have e2 := (hc.zero _ _).mp g2
        rw [← e2, if_neg g1]
        exact h1
      · rw [if_neg g2] at h2
        have h3 := hc.trans _ _ _ h1 h2
        have h4 : c a.1 e.1 ≠ 0 := by
          intro h0
          have e0 := (hc.zero _ _).mp h0
          have := hc.anti b.1 e.1
          rw [← e0] at this h2 g2
          omega
        rw [if_neg h4]; exact h3
abbrev V5 := Int × Int × Bytes × Int × Int
theorem ord_cmp : IsCmp (fun (a b : V5) => ordV a.1 a.2.1 a.2.2.1 a.2.2.2.1 a.2.2.2.2 b.1 b.2.1 b.2.2.1 b.2.2.2.1 b.2.2.2.2) :=
  lex_cmp cmpI_cmp (lex_cmp cmpI_cmp (lex_cmp cmpL_cmp (lex_cmp cmpI_cmp cmpI_cmp)))
theorem ord_same (k n : Int) (s : Bytes) (x y : Int) (k' n' : Int) (s' : Bytes) (x' y' : Int) :
    ((k == k') && ((n == n') && ((s == s') && ((x == x') && (y == y'))))) = (ordV k n s x y k' n' s' x' y' == 0) := by
  have h := ord_cmp.zero (k, n, s, x, y) (k', n', s', x', y')
  rw [Bool.eq_iff_iff]
  simp only [Bool.and_eq_true, beq_iff_eq]
  rw [h]
  simp only [Prod.mk.injEq]
end Go.Proofs.Ytckhmpcmlochpaa.G
namespace Go.Proofs.Ytckhmpcmlochpaa.G
open Go.BX
set_option linter.unusedSimpArgs false
set_option linter.unusedVariables false
def writeV (k n : Int) (s : Bytes) (x y : Int) : Bytes :=
  if k = 0 then decS n else if k = 1 then quoS s else decS x ++ [58] ++ decS y
theorem right_cases {k n : Int} {s : Bytes} {x y : Int} (h : rightV k n s x y = true) :
    (k = 0 ∧ (-9007199254740992 ≤ n ∧ n ≤ 9007199254740992) ∧ s = [] ∧ x = 0 ∧ y = 0) ∨ (k = 1 ∧ s.length ≤ 4096 ∧ n = 0 ∧ x = 0 ∧ y = 0) ∨ (k = 2 ∧ (inR x = true ∧ inR y = true) ∧ n = 0 ∧ s = []) := by
  unfold rightV at h
  split at h
  · rename_i h0
    simp at h
    exact .inl ⟨h0, ⟨h.1.1.1, h.1.1.2⟩, h.1.2, h.2.1, h.2.2⟩
  · split at h
    · rename_i h1
      simp at h
      exact .inr (.inl ⟨h1, by omega, h.1.2, h.2.1, h.2.2⟩)
    · split at h
      · rename_i h2
        simp at h
        exact .inr (.inr ⟨h2, h.1.1, h.1.2, h.2⟩)
      · cases h
theorem inR_iff {x : Int} : inR x = true ↔ -16777216 ≤ x ∧ x ≤ 16777216 := by simp [inR]
theorem Write_ok {k n : Int} {s : Bytes} {x y : Int} (h : rightV k n s x y = true) : PCall Cx 61 [val k n s x y] (.str (writeV k n s x y)) := by
  refine pcall_run (noext _) body61 ?_
  have r := Right_ok k n s x y
  rw [h] at r
  unfold writeV
  rcases right_cases h with ⟨rfl, hn, rfl, rfl, rfl⟩ | ⟨rfl, hs, rfl, rfl, rfl⟩ | ⟨rfl, ⟨hx, hy⟩, rfl, rfl⟩
  · simp only [call_pure pure16 rfl r, call_pure pure77 rfl (decimal_ok n hn), r61_0, r61_1, r61_2, res61, tt, bb, bc, ↓bd, Nat.reduceEqDiff, Nat.reduceAdd, ↓reduceIte]
  · simp only [call_pure pure16 rfl r, call_pure pure78 rfl (quoted_ok s (by omega)), r61_0, r61_1, r61_2, r61_3, res61, tt, bb, bc, ↓bd, Nat.reduceEqDiff, Nat.reduceAdd, ↓reduceIte, Int.reduceBEq, Int.reduceEq]
  · rw [inR_iff] at hx hy
    have d1 := decimal_ok x (by omega)
    have d2 := decimal_ok y (by omega)
    have l1 := decS_len x (by omega)
    have l2 := decS_len y (by omega)
    have h1 : ((decS x).length + 1 ≤ 9223372036854775807) = True := eq_true (by omega)
    have h2 : ((decS x ++ [58]).length + (decS y).length ≤ 9223372036854775807) = True := eq_true (by rw [List.length_append, List.length_singleton]; omega)
    simp only [h1, h2, call_pure pure16 rfl r, call_pure pure77 rfl d1, call_pure pure77 rfl d2, run_inBlock, r61_0, r61_1, r61_2, r61_3, res61, tt, bb, bc, ↓bd, Nat.reduceEqDiff, Nat.reduceAdd, ↓reduceIte, Int.reduceBEq, Int.reduceEq]
end Go.Proofs.Ytckhmpcmlochpaa.G
namespace Go.Proofs.Ytckhmpcmlochpaa.G
open Go.BX
set_option linter.unusedSimpArgs false
set_option linter.unusedVariables false
def valD (l : Bytes) : Nat := l.foldl (fun a c => a * 10 + (c.toNat - 48)) 0
theorem digB_val {d : Nat} (h : d < 10) : (digB d).toNat = 48 + d := by
  unfold digB
  rw [UInt8.toNat_ofNat']; omega
theorem valD_dec (m : Nat) : valD (decN m) = m := by
  induction m using Nat.strongRecOn with
  | _ m ih =>
    by_cases h : m < 10
    · rw [decN_lt h]
      unfold valD
      simp only [List.foldl_cons, List.foldl_nil]
      rw [digB_val h]; omega
    · rw [decN_ge h]
      have := ih (m / 10) (by omega)
      unfold valD at this ⊢
      rw [List.foldl_append, this]
      simp only [List.foldl_cons, List.foldl_nil]
      rw [digB_val (by omega)]; omega
theorem decN_dig (m : Nat) : ∀ c, c ∈ decN m → 48 ≤ c.toNat ∧ c.toNat ≤ 57 := by
  induction m using Nat.strongRecOn with
  | _ m ih =>
    intro c hc
    by_cases h : m < 10
    · rw [decN_lt h] at hc
      simp only [List.mem_singleton] at hc
      subst hc
      rw [digB_val h]; omega
    · rw [decN_ge h] at hc
      rcases List.mem_append.mp hc with h1 | h1
      · exact ih (m / 10) (by omega) c h1
      · simp only [List.mem_singleton] at h1
        subst h1
        rw [digB_val (by omega)]; omega
theorem decN_ne (m : Nat) : decN m ≠ [] := by
  by_cases h : m < 10
  · rw [decN_lt h]; simp
  · rw [decN_ge h]; simp
end Go.Proofs.Ytckhmpcmlochpaa.G
namespace Go.Proofs.Ytckhmpcmlochpaa.G
open Go.BX
theorem drop_get {s : Bytes} {p : Nat} {c : UInt8} {r : Bytes} (h : s.drop p = c :: r) : s[p]? = some c ∧ s.drop (p + 1) = r ∧ p < s.length := by
  have hlt : p < s.length := by
    rcases Nat.lt_or_ge p s.length with h1 | h1
    · exact h1
    · rw [List.drop_of_length_le h1] at h; cases h
  rw [List.drop_eq_getElem_cons hlt] at h
  simp only [List.cons.injEq] at h
  exact ⟨by rw [List.getElem?_eq_getElem hlt, h.1], h.2, hlt⟩
end Go.Proofs.Ytckhmpcmlochpaa.G

namespace Go.Proofs.Ytckhmpcmlochpaa.G
open Go.BX
set_option linter.unusedSimpArgs false
set_option linter.unusedVariables false
def digI (n : Int) : Bool := decide (48 ≤ n) && decide (n ≤ 57)
theorem digit_ok (n : Int) : PCall Cx 47 [.int .u8 n] (.bool (digI n)) := by
  refine pcall_run (noext _) body47 ?_
  unfold digI
  by_cases h1 : 48 ≤ n <;>
  simp only [h1, r47_0, res47, bb, bc, ↓bd, Nat.reduceEqDiff, ↓reduceIte, reduceCtorEq]
theorem decN_head : ∀ (m : Nat) {c : UInt8} {l : Bytes}, decN m = c :: l → (c = 48 → m = 0 ∧ l = []) := by
  intro m
  induction m using Nat.strongRecOn with
  | _ m ih =>
    intro c l h hc
    by_cases h1 : m < 10
    · rw [decN_lt h1] at h
      simp only [List.cons.injEq] at h
      have := digB_val h1
      rw [h.1, hc] at this
      have h48 : (48 : UInt8).toNat = 48 := rfl
      exact ⟨by omega, h.2.symm⟩
    · rw [decN_ge h1] at h
      cases hd : decN (m / 10) with
      | nil => exact absurd hd (decN_ne _)
      | cons d r =>
        rw [hd] at h
        simp only [List.cons_append, List.cons.injEq] at h
        have := (ih (m / 10) (by omega) hd (by rw [h.1]; exact hc)).1
        omega
def valF (a : Nat) (l : Bytes) : Nat := l.foldl (fun a c => a * 10 + (c.toNat - 48)) a
theorem valF_le (l : Bytes) : ∀ a, a ≤ valF a l := by
  induction l with
  | nil => intro a; exact Nat.le_refl _
  | cons c l ih => intro a; have := ih (a * 10 + (c.toNat - 48)); show a ≤ valF (a * 10 + (c.toNat - 48)) l; omega
def stops (s : Bytes) (p : Nat) : Prop := ∃ c, s[p]? = some c ∧ digI (c.toNat : Int) = false
def PM (s : Bytes) (r : AV) (sg : Int) (from' i acc : Nat) : Prop :=
  ∀ (T : Nat → AV) (H : AHeap), T 0 = .str s → T 1 = .int .i64 (i : Int) → T 7 = .int .i64 (acc : Int) → T 8 = .int .i64 sg → T 9 = .int .i64 (from' : Int) →
    Run Cx 66 T [] none [.code c66_30, .inScope c66_3] H (fun r0 H' => BX.freeze H' r0 = some r)
theorem number_goto : gotoA 0 [.code c66_40, .inScope c66_3] = some [.code (.seq .skip c66_30), .inScope c66_3] := by kernel_rfl
theorem pm_end {s : Bytes} {sg : Int} {from' i acc : Nat} {c : UInt8} (hs : s.length ≤ 1000000) (hi : stops s i) (hf : s[from']? = some c) (hacc : acc ≤ 9007199254740992) (hsg : sg = 1 ∨ sg = -1) (hz : c = 48 → i ≤ from' + 1 ∧ sg = 1) :
    PM s (.tuple [.int .i64 (sg * acc), .int .i64 (i : Int), .int .i64 0]) sg from' i acc := by
  intro T H t0 t1 t7 t8 t9
  obtain ⟨d, hd, hdd⟩ := hi
  have hlt : i < s.length := (List.getElem?_eq_some_iff.mp hd).1
  have h0 : ((i : Int) < (s.length : Int)) = True := eq_true (by omega)
  have hi0 : (0 : Int) ≤ (i : Int) := by omega
  have hf0 : (0 : Int) ≤ (from' : Int) := by omega
  have hdg := digit_ok (d.toNat : Int)
  rw [hdd] at hdg
  have hfl : from' < s.length := (List.getElem?_eq_some_iff.mp hf).1
  have w1 : IntKind.i64.wrap ((from' : Int) + 1) = ((from' + 1 : Nat) : Int) := by rw [wr64 (by omega) (by omega)]; omega
  have w2 : IntKind.i64.wrap (sg * (acc : Int)) = sg * (acc : Int) := by rcases hsg with rfl | rfl <;> exact wr64 (by omega) (by omega)
  by_cases hc : c = 48
  · obtain ⟨h1, rfl⟩ := hz hc
    have hc' : ((c.toNat : Int) == 48) = true := by subst hc; rfl
    have h2 : (((from' + 1 : Nat) : Int) < (i : Int)) = False := eq_false (by omega)
    simp only [t0, t1, t7, t8, t9, h0, hi0, hf0, hd, hf, hc', h2, w1, w2, indexA, Int.toNat_natCast, call_pure pure47 rfl hdg, r66_3, r66_4, r66_5, r66_6, res66, tt, bb, bc, ↓bd, Nat.reduceEqDiff, ↓reduceIte, reduceCtorEq, Int.reduceLT]
  · have hc' : ((c.toNat : Int) == 48) = false := by
      simp only [beq_eq_false_iff_ne, ne_eq]
      intro e
      apply hc
      apply UInt8.toNat_inj.mp
      have h48 : (48 : UInt8).toNat = 48 := rfl
      omega
    simp only [t0, t1, t7, t8, t9, h0, hi0, hf0, hd, hf, hc', w2, indexA, Int.toNat_natCast, call_pure pure47 rfl hdg, r66_3, r66_4, r66_5, r66_6, res66, tt, bb, bc, ↓bd, Nat.reduceEqDiff, ↓reduceIte, reduceCtorEq]
theorem pm_step {s : Bytes} {r : AV} {sg : Int} {from' i acc : Nat} {c : UInt8} (hs : s.length ≤ 1000000) (hi : s[i]? = some c) (hc : 48 ≤ c.toNat ∧ c.toNat ≤ 57) (hacc : acc * 10 + (c.toNat - 48) ≤ 9007199254740992) (hp : PM s r sg from' (i + 1) (acc * 10 + (c.toNat - 48))) : PM s r sg from' i acc := by
  intro T H t0 t1 t7 t8 t9
  have hlt : i < s.length := (List.getElem?_eq_some_iff.mp hi).1
  have h0 : ((i : Int) < (s.length : Int)) = True := eq_true (by omega)
  have hi0 : (0 : Int) ≤ (i : Int) := by omega
  have hdg := digit_ok (c.toNat : Int)
  have hdd : digI (c.toNat : Int) = true := by unfold digI; simp; omega
  rw [hdd] at hdg
  have w1 : IntKind.i64.wrap (10 * (acc : Int)) = 10 * (acc : Int) := wr64 (by omega) (by omega)
  have w2 : IntKind.u8.wrap ((c.toNat : Int) - 48) = (c.toNat : Int) - 48 := wr8 (by omega) (by omega)
  have w3 : IntKind.i64.wrap ((c.toNat : Int) - 48) = (c.toNat : Int) - 48 := wr64 (by omega) (by omega)
  have w4 : IntKind.i64.wrap (10 * (acc : Int) + ((c.toNat : Int) - 48)) = ((acc * 10 + (c.toNat - 48) : Nat) : Int) := by rw [wr64 (by omega) (by omega)]; omega
  have w5 : (18014398509481984 < ((acc * 10 + (c.toNat - 48) : Nat) : Int)) = False := eq_false (by omega)
  have w6 : IntKind.i64.wrap ((i : Int) + 1) = ((i + 1 : Nat) : Int) := by rw [wr64 (by omega) (by omega)]; omega
  simp only [t0, t1, t7, h0, hi0, hi, w1, w2, w3, w4, w5, w6, minA, indexA, Int.toNat_natCast, call_pure pure47 rfl hdg, r66_3, r66_4, tt, bb, bc, ↓bd, Nat.reduceEqDiff, ↓reduceIte, reduceCtorEq]
  unfold c66_38
  rw [run_goto number_goto, run_seq, run_skip]
  refine hp _ _ ?_ ?_ ?_ ?_ ?_
  all_goals simp only [upd_app, t0, t8, t9, Nat.reduceEqDiff, ↓reduceIte]
theorem pm_all {s : Bytes} {sg : Int} {from' : Nat} {c : UInt8} (hs : s.length ≤ 1000000) (hf : s[from']? = some c) (hsg : sg = 1 ∨ sg = -1) :
    ∀ (l : Bytes) (i acc : Nat) (rest : Bytes), s.drop i = l ++ rest → (∀ d, d ∈ l → 48 ≤ d.toNat ∧ d.toNat ≤ 57) → stops s (i + l.length) → valF acc l ≤ 9007199254740992 → (c = 48 → i + l.length ≤ from' + 1 ∧ sg = 1) →
    PM s (.tuple [.int .i64 (sg * valF acc l), .int .i64 ((i + l.length : Nat) : Int), .int .i64 0]) sg from' i acc
  | [], i, acc, rest, hd, _, hst, hv, hz => pm_end hs (by simpa using hst) hf hv hsg (by simpa using hz)
  | d :: l, i, acc, rest, hd, hdig, hst, hv, hz => by
    rw [List.cons_append] at hd
    obtain ⟨h1, h2, _⟩ := drop_get hd
    have hv' : valF (acc * 10 + (d.toNat - 48)) l ≤ 9007199254740992 := hv
    have hle := valF_le l (acc * 10 + (d.toNat - 48))
    refine pm_step hs h1 (hdig d (by simp)) (by omega) ?_
    have := pm_all hs hf hsg l (i + 1) (acc * 10 + (d.toNat - 48)) rest h2 (fun e he => hdig e (by simp [he])) (by rw [Nat.add_assoc, Nat.add_comm 1]; exact hst) hv' (by rw [Nat.add_assoc, Nat.add_comm 1]; exact hz)
    rw [Nat.add_assoc, Nat.add_comm 1] at this
    exact this
theorem number_ok {s rest : Bytes} {p : Nat} {n : Int} (hs : s.length ≤ 1000000) (hd : s.drop p = decS n ++ rest) (hst : stops s (p + (decS n).length)) (hn : -9007199254740992 ≤ n ∧ n ≤ 9007199254740992) :
    PCall Cx 66 [.str s, .int .i64 (p : Int)] (.tuple [.int .i64 n, .int .i64 ((p + (decS n).length : Nat) : Int), .int .i64 0]) := by
  refine pcall_run (noext _) body66 ?_
  by_cases hneg : n < 0
  · have e : decS n = 45 :: decN (-n).toNat := by unfold decS; rw [if_pos hneg]
    rw [e] at hd hst ⊢
    rw [List.cons_append] at hd
    obtain ⟨h1, h2, hlt⟩ := drop_get hd
    cases hl : decN (-n).toNat with
    | nil => exact absurd hl (decN_ne _)
    | cons c l =>
      have h3 : s.drop (p + 1) = c :: (l ++ rest) := by rw [h2, hl]; rfl
      obtain ⟨h4, h5, hlt2⟩ := drop_get h3
      have hcd := decN_dig _ c (by rw [hl]; simp)
      have hne : c ≠ 48 := fun hc => by have := (decN_head _ hl hc).1; omega
      have hvd : valF 0 (decN (-n).toNat) = (-n).toNat := valD_dec _
      rw [List.length_cons] at hst ⊢
      have hp := pm_all (sg := -1) (from' := p + 1) (c := c) hs h4 (.inr rfl) (decN (-n).toNat) (p + 1) 0 rest h2 (fun d hdm => decN_dig _ d hdm) (by rw [Nat.add_assoc, Nat.add_comm 1]; exact hst) (by rw [hvd]; omega) (fun hc => absurd hc hne)
      rw [hvd, Nat.add_assoc, Nat.add_comm 1, show (-1 : Int) * (((-n).toNat : Nat) : Int) = n by omega, hl] at hp
      have g0 : ((p : Int) < (s.length : Int)) = True := eq_true (by omega)
      have g1 : (0 : Int) ≤ (p : Int) := by omega
      have g2 : (((45 : UInt8).toNat : Int) == 45) = true := rfl
      have w1 : IntKind.i64.wrap ((p : Int) + 1) = ((p + 1 : Nat) : Int) := by rw [wr64 (by omega) (by omega)]; omega
      have g3 : ((s.length : Int) ≤ ((p + 1 : Nat) : Int)) = False := eq_false (by omega)
      have g4 : (0 : Int) ≤ ((p + 1 : Nat) : Int) := by omega
      have hdg := digit_ok (c.toNat : Int)
      have hdd : digI (c.toNat : Int) = true := by unfold digI; simp; omega
      rw [hdd] at hdg
      simp only [g0, g1, g2, g3, g4, w1, h1, h4, indexA, Int.toNat_natCast, call_pure pure47 rfl hdg, run_inBlock, r66_0, r66_1, r66_2, r66_3.2.2.2.1, r66_3.2.2.2.2.1, r66_3.2.2.2.2.2.1, tt, bb, bc, ↓bd, Nat.reduceEqDiff, ↓reduceIte, reduceCtorEq, Int.reduceNeg]
      refine hp _ _ ?_ ?_ ?_ ?_ ?_
      all_goals simp only [upd_app, enterT, List.getElem?_cons_zero, Option.getD_some, Nat.reduceEqDiff, ↓reduceIte]
      all_goals rfl
  · have e : decS n = decN n.toNat := by unfold decS; rw [if_neg hneg]
    rw [e] at hd hst ⊢
    cases hl : decN n.toNat with
    | nil => exact absurd hl (decN_ne _)
    | cons c l =>
      have h3 : s.drop p = c :: (l ++ rest) := by rw [hd, hl]; rfl
      obtain ⟨h4, h5, hlt2⟩ := drop_get h3
      have hcd := decN_dig _ c (by rw [hl]; simp)
      have hvd : valF 0 (decN n.toNat) = n.toNat := valD_dec _
      have hp := pm_all (sg := 1) (from' := p) (c := c) hs h4 (.inl rfl) (decN n.toNat) p 0 rest hd (fun d hdm => decN_dig _ d hdm) hst (by rw [hvd]; omega) (fun hc => by
        have := (decN_head _ hl hc).2
        rw [hl, this]; exact ⟨by simp, rfl⟩)
      rw [hvd, Int.one_mul, show ((n.toNat : Nat) : Int) = n by omega, hl] at hp
      have g0 : ((p : Int) < (s.length : Int)) = True := eq_true (by omega)
      have g1 : (0 : Int) ≤ (p : Int) := by omega
      have g2 : ((c.toNat : Int) == 45) = false := by simp; omega
      have g3 : ((s.length : Int) ≤ (p : Int)) = False := eq_false (by omega)
      have hdg := digit_ok (c.toNat : Int)
      have hdd : digI (c.toNat : Int) = true := by unfold digI; simp; omega
      rw [hdd] at hdg
      simp only [g0, g1, g2, g3, h4, indexA, Int.toNat_natCast, call_pure pure47 rfl hdg, run_inBlock, r66_0, r66_1, r66_2, r66_3.2.2.2.1, r66_3.2.2.2.2.1, r66_3.2.2.2.2.2.1, tt, bb, bc, ↓bd, Nat.reduceEqDiff, ↓reduceIte, reduceCtorEq]
      refine hp _ _ ?_ ?_ ?_ ?_ ?_
      all_goals simp only [upd_app, enterT, List.getElem?_cons_zero, List.getElem?_cons_succ, Option.getD_some, Nat.reduceEqDiff, ↓reduceIte]
      all_goals rfl
end Go.Proofs.Ytckhmpcmlochpaa.G

namespace Go.Proofs.Ytckhmpcmlochpaa.G
open Go.BX
set_option linter.unusedSimpArgs false
set_option linter.unusedVariables false
def capF (a : Nat) (l : Bytes) : Nat := l.foldl (fun a c => min (10 * a + (c.toNat - 48)) 18014398509481984) a
def dg (c : UInt8) : Bool := digI (c.toNat : Int)
def err3 (e : Int) : AV := .tuple [.int .i64 0, .int .i64 0, .int .i64 e]
def finN (s : Bytes) (sg : Int) (fr i n : Nat) : AV := if s[fr]? = some 48 ∧ (fr + 1 < i ∨ sg < 0) then err3 6 else .tuple [.int .i64 (sg * n), .int .i64 (i : Int), .int .i64 0]
theorem pm_stop {s : Bytes} {sg : Int} {fr i acc : Nat} {c : UInt8} (hs : s.length ≤ 1000000) (hst : s.length ≤ i ∨ ∃ d, s[i]? = some d ∧ dg d = false) (hi : i ≤ s.length) (hf : s[fr]? = some c) (hacc : acc ≤ 18014398509481984) (hsg : sg = 1 ∨ sg = -1) :
    PM s (finN s sg fr i acc) sg fr i acc := by
  intro T H t0 t1 t7 t8 t9
  have hf0 : (0 : Int) ≤ (fr : Int) := by omega
  have hi0 : (0 : Int) ≤ (i : Int) := by omega
  have hfl : fr < s.length := (List.getElem?_eq_some_iff.mp hf).1
  have w1 : IntKind.i64.wrap ((fr : Int) + 1) = ((fr + 1 : Nat) : Int) := by rw [wr64 (by omega) (by omega)]; omega
  have w2 : IntKind.i64.wrap (sg * (acc : Int)) = sg * (acc : Int) := by rcases hsg with rfl | rfl <;> exact wr64 (by omega) (by omega)
  unfold finN
  rw [hf]
  have e48 : (c = 48) ↔ ((c.toNat : Int) == 48) = true := by
    rw [beq_iff_eq]
    constructor
    · rintro rfl; rfl
    · intro e
      exact UInt8.toNat_inj.mp (by have : (48 : UInt8).toNat = 48 := rfl; omega)
  have fin : ∀ (T : Nat → AV), T 0 = .str s → T 1 = .int .i64 (i : Int) → T 7 = .int .i64 (acc : Int) → T 8 = .int .i64 sg → T 9 = .int .i64 (fr : Int) →
      Run Cx 66 T [] none [.code c66_40, .inScope c66_3] H (fun r0 H' => BX.freeze H' r0 = some (if some c = some 48 ∧ (fr + 1 < i ∨ sg < 0) then err3 6 else .tuple [.int .i64 (sg * acc), .int .i64 (i : Int), .int .i64 0])) := by
    intro T t0 t1 t7 t8 t9
    by_cases hc : c = 48
    · have hc' := e48.mp hc
      by_cases h1 : fr + 1 < i
      · have h2 : (((fr + 1 : Nat) : Int) < (i : Int)) = True := eq_true (by omega)
        rw [if_pos ⟨by rw [hc], .inl h1⟩]
        simp only [t0, t1, t9, hf0, hf, hc', h2, w1, err3, indexA, Int.toNat_natCast, r66_4, r66_5, res66, tt, bb, bc, ↓bd, Nat.reduceEqDiff, ↓reduceIte, reduceCtorEq]
      · have h2 : (((fr + 1 : Nat) : Int) < (i : Int)) = False := eq_false (by omega)
        rcases hsg with rfl | rfl
        · rw [if_neg (by rintro ⟨_, h | h⟩ <;> omega)]
          simp only [t0, t1, t7, t8, t9, hf0, hf, hc', h2, w1, w2, indexA, Int.toNat_natCast, r66_4, r66_5, r66_6, res66, tt, bb, bc, ↓bd, Nat.reduceEqDiff, ↓reduceIte, Int.reduceLT]
        · rw [if_pos ⟨by rw [hc], .inr (by omega)⟩]
          simp only [t0, t1, t8, t9, hf0, hf, hc', h2, w1, err3, indexA, Int.toNat_natCast, r66_4, r66_5, res66, tt, bb, bc, ↓bd, Nat.reduceEqDiff, ↓reduceIte, Int.reduceLT, Int.reduceNeg]
    · have hc' : ((c.toNat : Int) == 48) = false := by
        rw [← Bool.not_eq_true]; exact fun h => hc (e48.mpr h)
      rw [if_neg (by rintro ⟨h, _⟩; exact hc (Option.some.inj h))]
      simp only [t0, t1, t7, t8, t9, hf0, hf, hc', w2, indexA, Int.toNat_natCast, r66_4, r66_5, r66_6, res66, tt, bb, bc, ↓bd, Nat.reduceEqDiff, ↓reduceIte]
  by_cases hlen : s.length ≤ i
  · have h0 : ((i : Int) < (s.length : Int)) = False := eq_false (by omega)
    simp only [t0, t1, h0, r66_3, r66_4.1, r66_4.2.1, r66_4.2.2.2.2.2.2.1, tt, bb, bc, ↓bd, Nat.reduceEqDiff, ↓reduceIte, reduceCtorEq]
    refine fin _ ?_ ?_ ?_ ?_ ?_
    all_goals simp only [upd_app, t0, t1, t7, t8, t9, Nat.reduceEqDiff, ↓reduceIte]
  · obtain ⟨d, hd, hdd⟩ := hst.resolve_left hlen
    have h0 : ((i : Int) < (s.length : Int)) = True := eq_true (by omega)
    have hdg := digit_ok (d.toNat : Int)
    have hdd' : digI (d.toNat : Int) = false := hdd
    rw [hdd'] at hdg
    simp only [t0, t1, h0, hi0, hd, indexA, Int.toNat_natCast, call_pure pure47 rfl hdg, r66_3, r66_4.1, r66_4.2.1, r66_4.2.2.2.2.2.2.1, tt, bb, bc, ↓bd, Nat.reduceEqDiff, ↓reduceIte, reduceCtorEq]
    refine fin _ ?_ ?_ ?_ ?_ ?_
    all_goals simp only [upd_app, t0, t1, t7, t8, t9, Nat.reduceEqDiff, ↓reduceIte]
theorem pm_stepG {s : Bytes} {r : AV} {sg : Int} {fr i acc : Nat} {c : UInt8} (hs : s.length ≤ 1000000) (hi : s[i]? = some c) (hc : dg c = true) (hacc : acc ≤ 18014398509481984) (hp : PM s r sg fr (i + 1) (min (10 * acc + (c.toNat - 48)) 18014398509481984)) : PM s r sg fr i acc := by
  intro T H t0 t1 t7 t8 t9
  have hlt : i < s.length := (List.getElem?_eq_some_iff.mp hi).1
  have h0 : ((i : Int) < (s.length : Int)) = True := eq_true (by omega)
  have hi0 : (0 : Int) ≤ (i : Int) := by omega
  have hdg := digit_ok (c.toNat : Int)
  have hdd : digI (c.toNat : Int) = true := hc
  rw [hdd] at hdg
  unfold digI at hdd
  simp only [Bool.and_eq_true, decide_eq_true_eq] at hdd
  have w1 : IntKind.i64.wrap (10 * (acc : Int)) = 10 * (acc : Int) := wr64 (by omega) (by omega)
  have w2 : IntKind.u8.wrap ((c.toNat : Int) - 48) = (c.toNat : Int) - 48 := wr8 (by omega) (by omega)
  have w3 : IntKind.i64.wrap ((c.toNat : Int) - 48) = (c.toNat : Int) - 48 := wr64 (by omega) (by omega)
  have w4 : IntKind.i64.wrap (10 * (acc : Int) + ((c.toNat : Int) - 48)) = ((10 * acc + (c.toNat - 48) : Nat) : Int) := by rw [wr64 (by omega) (by omega)]; omega
  have w5 : (if (18014398509481984 : Int) < ((10 * acc + (c.toNat - 48) : Nat) : Int) then (18014398509481984 : Int) else ((10 * acc + (c.toNat - 48) : Nat) : Int)) = ((min (10 * acc + (c.toNat - 48)) 18014398509481984 : Nat) : Int) := by
    split <;> omega
  have w6 : IntKind.i64.wrap ((i : Int) + 1) = ((i + 1 : Nat) : Int) := by rw [wr64 (by omega) (by omega)]; omega
  simp only [t0, t1, t7, h0, hi0, hi, w1, w2, w3, w4, w5, w6, minA, indexA, Int.toNat_natCast, call_pure pure47 rfl hdg, r66_3, r66_4, tt, bb, bc, ↓bd, Nat.reduceEqDiff, ↓reduceIte, reduceCtorEq]
  unfold c66_38
  rw [run_goto number_goto, run_seq, run_skip]
  refine hp _ _ ?_ ?_ ?_ ?_ ?_
  all_goals simp only [upd_app, t0, t8, t9, Nat.reduceEqDiff, ↓reduceIte]
theorem pm_gen {s : Bytes} {sg : Int} {fr : Nat} {c : UInt8} (hs : s.length ≤ 1000000) (hf : s[fr]? = some c) (hsg : sg = 1 ∨ sg = -1) :
    ∀ (l : Bytes) (i acc : Nat), s.drop i = l → i ≤ s.length → acc ≤ 18014398509481984 → PM s (finN s sg fr (i + (l.takeWhile dg).length) (capF acc (l.takeWhile dg))) sg fr i acc
  | [], i, acc, hd, hi, ha => by
    have hl : s.length ≤ i := by
      have := congrArg List.length hd
      rw [List.length_drop] at this
      simp at this; omega
    exact pm_stop hs (.inl hl) hi hf ha hsg
  | d :: l, i, acc, hd, hi, ha => by
    obtain ⟨h1, h2, h3⟩ := drop_get hd
    cases hdd : dg d with
    | false =>
      rw [List.takeWhile_cons_of_neg (by simp [hdd])]
      exact pm_stop hs (.inr ⟨d, h1, hdd⟩) hi hf ha hsg
    | true =>
      rw [List.takeWhile_cons_of_pos hdd]
      have hp := pm_gen hs hf hsg l (i + 1) (min (10 * acc + (d.toNat - 48)) 18014398509481984) h2 (by omega) (by omega)
      have e : i + 1 + (l.takeWhile dg).length = i + (d :: l.takeWhile dg).length := by simp; omega
      rw [e] at hp
      exact pm_stepG hs h1 hdd ha hp
def resN (s : Bytes) (sg : Int) (fr : Nat) : AV :=
  match s[fr]? with
  | none => err3 2
  | some c => if dg c then finN s sg fr (fr + ((s.drop fr).takeWhile dg).length) (capF 0 ((s.drop fr).takeWhile dg)) else err3 6
def numM (s : Bytes) (i : Nat) : AV := if s[i]? = some 45 then resN s (-1) (i + 1) else resN s 1 i
theorem number_gen {s : Bytes} {p : Nat} (hs : s.length ≤ 1000000) (hp : p ≤ s.length) : PCall Cx 66 [.str s, .int .i64 (p : Int)] (numM s p) := by
  refine pcall_run (noext _) body66 ?_
  have w1 : IntKind.i64.wrap ((p : Int) + 1) = ((p + 1 : Nat) : Int) := by rw [wr64 (by omega) (by omega)]; omega
  have g1 : (0 : Int) ≤ (p : Int) := by omega
  have go : ∀ (T : Nat → AV) (sg : Int) (fr : Nat), (sg = 1 ∨ sg = -1) → fr ≤ s.length → T 0 = .str s → T 1 = .int .i64 (fr : Int) → T 7 = .int .i64 0 → T 8 = .int .i64 sg →
      Run Cx 66 T [] none [.code c66_11, .inScope c66_3] AHeap.empty (fun r0 H' => BX.freeze H' r0 = some (resN s sg fr)) := by
    intro T sg fr hsg hfr t0 t1 t7 t8
    have g4 : (0 : Int) ≤ (fr : Int) := by omega
    unfold resN
    cases hq : s[fr]? with
    | none =>
      have hl : s.length ≤ fr := List.getElem?_eq_none_iff.mp hq
      have g3 : ((s.length : Int) ≤ (fr : Int)) = True := eq_true (by omega)
      simp only [t0, t1, g3, err3, r66_1, r66_2, res66, tt, bb, bc, ↓bd, Nat.reduceEqDiff, ↓reduceIte, reduceCtorEq]
    | some c =>
      have hl : fr < s.length := (List.getElem?_eq_some_iff.mp hq).1
      have g3 : ((s.length : Int) ≤ (fr : Int)) = False := eq_false (by omega)
      have hdg := digit_ok (c.toNat : Int)
      have hde : digI (c.toNat : Int) = dg c := rfl
      rw [hde] at hdg
      cases hdc : dg c with
      | false =>
        rw [hdc] at hdg
        simp only [t0, t1, g3, g4, hq, hdc, err3, indexA, Int.toNat_natCast, call_pure pure47 rfl hdg, r66_1, r66_2, r66_3, res66, tt, bb, bc, ↓bd, Nat.reduceEqDiff, ↓reduceIte, reduceCtorEq]
      | true =>
        rw [hdc] at hdg
        have hpm := pm_gen hs hq hsg (s.drop fr) fr 0 rfl hfr (by omega)
        simp only [t0, t1, g3, g4, hq, hdc, indexA, Int.toNat_natCast, call_pure pure47 rfl hdg, run_inBlock, r66_1, r66_2, r66_3.2.2.2.1, r66_3.2.2.2.2.1, r66_3.2.2.2.2.2.1, tt, bb, bc, ↓bd, Nat.reduceEqDiff, ↓reduceIte, reduceCtorEq]
        refine hpm _ _ ?_ ?_ ?_ ?_ ?_
        all_goals simp only [upd_app, t0, t1, t7, t8, Nat.reduceEqDiff, ↓reduceIte]
        all_goals rfl
  cases hq : s[p]? with
  | none =>
    have hl : s.length ≤ p := List.getElem?_eq_none_iff.mp hq
    have g0 : ((p : Int) < (s.length : Int)) = False := eq_false (by omega)
    have e : numM s p = resN s 1 p := by unfold numM; rw [if_neg (by rw [hq]; simp)]
    rw [e]
    simp only [g0, r66_0, r66_1.1, r66_1.2.2.1, tt, bb, bc, ↓bd, Nat.reduceEqDiff, ↓reduceIte, reduceCtorEq]
    refine go _ 1 p (.inl rfl) hp ?_ ?_ ?_ ?_
    all_goals simp only [upd_app, enterT, List.getElem?_cons_zero, List.getElem?_cons_succ, Option.getD_some, Nat.reduceEqDiff, ↓reduceIte]
  | some c =>
    have hl : p < s.length := (List.getElem?_eq_some_iff.mp hq).1
    have g0 : ((p : Int) < (s.length : Int)) = True := eq_true (by omega)
    by_cases hc : c = 45
    · subst hc
      have g2 : (((45 : UInt8).toNat : Int) == 45) = true := rfl
      have e : numM s p = resN s (-1) (p + 1) := by unfold numM; rw [if_pos hq]
      rw [e]
      simp only [g0, g1, g2, w1, hq, indexA, Int.toNat_natCast, r66_0, r66_1.1, r66_1.2.1, tt, bb, bc, ↓bd, Nat.reduceEqDiff, ↓reduceIte, reduceCtorEq, Int.reduceNeg]
      refine go _ (-1) (p + 1) (.inr rfl) (by omega) ?_ ?_ ?_ ?_
      all_goals simp only [upd_app, enterT, List.getElem?_cons_zero, Option.getD_some, Nat.reduceEqDiff, ↓reduceIte]
    · have g2 : ((c.toNat : Int) == 45) = false := by
        simp only [beq_eq_false_iff_ne, ne_eq]
        intro e; exact hc (UInt8.toNat_inj.mp (by have : (45 : UInt8).toNat = 45 := rfl; omega))
      have e : numM s p = resN s 1 p := by unfold numM; rw [if_neg (by rw [hq]; intro h; exact hc (Option.some.inj h))]
      rw [e]
      simp only [g0, g1, g2, hq, indexA, Int.toNat_natCast, r66_0, r66_1.1, r66_1.2.2.1, tt, bb, bc, ↓bd, Nat.reduceEqDiff, ↓reduceIte, reduceCtorEq]
      refine go _ 1 p (.inl rfl) hp ?_ ?_ ?_ ?_
      all_goals simp only [upd_app, enterT, List.getElem?_cons_zero, List.getElem?_cons_succ, Option.getD_some, Nat.reduceEqDiff, ↓reduceIte]
end Go.Proofs.Ytckhmpcmlochpaa.G

namespace Go.Proofs.Ytckhmpcmlochpaa.G
open Go.BX
set_option linter.unusedSimpArgs false
set_option linter.unusedVariables false
structure Vl where
  k : Int
  n : Int
  s : Bytes
  x : Int
  y : Int
abbrev valA (v : Vl) : AV := .agg [.int .i64 v.k, .int .i64 v.n, .str v.s, .int .i64 v.x, .int .i64 v.y]
def okV (v : Vl) : Bool := rightV v.k v.n v.s v.x v.y
def finX (s : Bytes) (sg : Int) (fr i n : Nat) : Except Int (Int × Nat) := if s[fr]? = some 48 ∧ (fr + 1 < i ∨ sg < 0) then .error 6 else .ok (sg * n, i)
def resX (s : Bytes) (sg : Int) (fr : Nat) : Except Int (Int × Nat) :=
  match s[fr]? with
  | none => .error 2
  | some c => if dg c then finX s sg fr (fr + ((s.drop fr).takeWhile dg).length) (capF 0 ((s.drop fr).takeWhile dg)) else .error 6
def numX (s : Bytes) (i : Nat) : Except Int (Int × Nat) := if s[i]? = some 45 then resX s (-1) (i + 1) else resX s 1 i
def toA3 : Except Int (Int × Nat) → AV
  | .error e => err3 e
  | .ok (n, i) => .tuple [.int .i64 n, .int .i64 (i : Int), .int .i64 0]
theorem numM_eq (s : Bytes) (i : Nat) : numM s i = toA3 (numX s i) := by
  have h1 : ∀ sg fr, resN s sg fr = toA3 (resX s sg fr) := by
    intro sg fr
    unfold resN resX
    cases s[fr]? with
    | none => rfl
    | some c =>
      simp only
      unfold finN finX
      split
      · split <;> rfl
      · rfl
  unfold numM numX
  split
  · exact h1 _ _
  · exact h1 _ _
theorem capF_le : ∀ (l : Bytes) (a : Nat), a ≤ 18014398509481984 → capF a l ≤ 18014398509481984
  | [], a, h => h
  | c :: l, a, h => capF_le l _ (Nat.min_le_right _ _)
theorem tw_le (l : Bytes) : (l.takeWhile dg).length ≤ l.length := by
  induction l with
  | nil => simp
  | cons c l ih =>
    rw [List.takeWhile_cons]
    split
    · simp; omega
    · simp
theorem numX_cases (s : Bytes) (i : Nat) (hi : i ≤ s.length) : (∃ e, (e = 2 ∨ e = 6) ∧ numX s i = .error e) ∨ ∃ n k, numX s i = .ok (n, k) ∧ i < k ∧ k ≤ s.length ∧ -18014398509481984 ≤ n ∧ n ≤ 18014398509481984 := by
  have key : ∀ sg fr, (sg = 1 ∨ sg = -1) → i ≤ fr → (∃ e, (e = 2 ∨ e = 6) ∧ resX s sg fr = .error e) ∨ ∃ n k, resX s sg fr = .ok (n, k) ∧ i < k ∧ k ≤ s.length ∧ -18014398509481984 ≤ n ∧ n ≤ 18014398509481984 := by
    intro sg fr hsg hfr
    unfold resX
    cases hq : s[fr]? with
    | none => exact .inl ⟨2, .inl rfl, rfl⟩
    | some c =>
      have hl : fr < s.length := (List.getElem?_eq_some_iff.mp hq).1
      have hc : s.drop fr = c :: s.drop (fr + 1) := by
        rw [List.drop_eq_getElem_cons hl, (List.getElem?_eq_some_iff.mp hq).2]
      simp only
      cases hdc : dg c with
      | false => exact .inl ⟨6, .inr rfl, rfl⟩
      | true =>
        simp only [if_true]
        unfold finX
        split
        · exact .inl ⟨6, .inr rfl, rfl⟩
        · have h1 := tw_le (s.drop fr)
          have h2 := capF_le ((s.drop fr).takeWhile dg) 0 (by omega)
          have h3 : 0 < ((s.drop fr).takeWhile dg).length := by rw [hc, List.takeWhile_cons_of_pos hdc]; simp
          rw [List.length_drop] at h1
          refine .inr ⟨_, _, rfl, by omega, by omega, ?_, ?_⟩ <;> rcases hsg with rfl | rfl <;> omega
  unfold numX
  split
  · exact key _ _ (.inr rfl) (by omega)
  · exact key _ _ (.inl rfl) (Nat.le_refl _)
def numericX (s : Bytes) : Except Int (Vl × Nat) :=
  match numX s 0 with
  | .error e => .error e
  | .ok (n, i) =>
    if s[i]? = some 58 then
      match numX s (i + 1) with
      | .error e => .error e
      | .ok (m, k) => if okV ⟨2, 0, [], n, m⟩ then .ok (⟨2, 0, [], n, m⟩, k) else .error 14
    else if okV ⟨0, n, [], 0, 0⟩ then .ok (⟨0, n, [], 0, 0⟩, i) else .error 14
def toAV : Except Int (Vl × Nat) → AV
  | .error e => .tuple [val 0 0 [] 0 0, .int .i64 0, .int .i64 e]
  | .ok (v, i) => .tuple [valA v, .int .i64 (i : Int), .int .i64 0]
theorem numeric_gen {s : Bytes} (hs : s.length ≤ 1000000) : PCall Cx 48 [.str s] (toAV (numericX s)) := by
  refine pcall_run (noext _) body48 ?_
  have hn := number_gen (p := 0) hs (Nat.zero_le _)
  rw [numM_eq] at hn
  have hn' : PCall Cx 66 [.str s, .int .i64 0] (toA3 (numX s 0)) := hn
  unfold numericX
  rcases numX_cases s 0 (Nat.zero_le _) with ⟨e, he, h⟩ | ⟨n, i, h, hi0, hi1, hn0, hn1⟩
  · rw [h] at hn' ⊢
    have e0 : (e != 0) = true := by rcases he with rfl | rfl <;> rfl
    simp only [toA3, err3] at hn'
    simp only [toAV, e0, call_pure pure66 rfl hn', r48_0, r48_1, res48, tt, bb, bc, ↓bd, Nat.reduceEqDiff, Nat.reduceAdd, ↓reduceIte, reduceCtorEq]
  · rw [h] at hn' ⊢
    simp only [toA3] at hn'
    simp only
    have g1 : (0 : Int) ≤ (i : Int) := by omega
    have ri := Right_ok 0 n [] 0 0
    have eo : rightV 0 n [] 0 0 = okV ⟨0, n, [], 0, 0⟩ := rfl
    rw [eo] at ri
    cases hq : s[i]? with
    | none =>
      have hl : s.length ≤ i := List.getElem?_eq_none_iff.mp hq
      have g0 : ((i : Int) < (s.length : Int)) = False := eq_false (by omega)
      rw [if_neg (by simp)]
      cases ho : okV ⟨0, n, [], 0, 0⟩ with
      | false =>
        rw [ho] at ri
        simp only [toAV, g0, call_pure pure66 rfl hn', call_pure pure16 rfl ri, r48_0, r48_1, r48_2, r48_3, r48_4, res48, tt, bb, bc, ↓bd, Nat.reduceEqDiff, Nat.reduceAdd, Nat.reduceLeDiff, ↓reduceIte, reduceCtorEq]
      | true =>
        rw [ho] at ri
        simp only [toAV, g0, call_pure pure66 rfl hn', call_pure pure16 rfl ri, r48_0, r48_1, r48_2, r48_3, r48_4, r48_5, res48, tt, bb, bc, ↓bd, Nat.reduceEqDiff, Nat.reduceAdd, Nat.reduceLeDiff, ↓reduceIte, reduceCtorEq]
    | some c =>
      have hl : i < s.length := (List.getElem?_eq_some_iff.mp hq).1
      have g0 : ((i : Int) < (s.length : Int)) = True := eq_true (by omega)
      by_cases hc : c = 58
      · subst hc
        rw [if_pos rfl]
        have g2 : (((58 : UInt8).toNat : Int) == 58) = true := rfl
        have w1 : IntKind.i64.wrap ((i : Int) + 1) = ((i + 1 : Nat) : Int) := by rw [wr64 (by omega) (by omega)]; omega
        have hm := number_gen (p := i + 1) hs (by omega)
        rw [numM_eq] at hm
        rcases numX_cases s (i + 1) (by omega) with ⟨e, he, h2⟩ | ⟨m, k, h2, hk0, hk1, hm0, hm1⟩
        · rw [h2] at hm ⊢
          have e0 : (e != 0) = true := by rcases he with rfl | rfl <;> rfl
          simp only [toA3, err3] at hm
          simp only [toAV, g0, g1, g2, w1, hq, e0, indexA, Int.toNat_natCast, call_pure pure66 rfl hn', call_pure pure66 rfl hm, r48_0, r48_1, r48_2, r48_3, res48, tt, bb, bc, ↓bd, Nat.reduceEqDiff, Nat.reduceAdd, Nat.reduceLeDiff, ↓reduceIte, reduceCtorEq]
        · rw [h2] at hm ⊢
          simp only [toA3] at hm
          simp only
          have r2 := Right_ok 2 0 [] n m
          have eo2 : rightV 2 0 [] n m = okV ⟨2, 0, [], n, m⟩ := rfl
          rw [eo2] at r2
          cases ho : okV ⟨2, 0, [], n, m⟩ with
          | false =>
            rw [ho] at r2
            simp only [toAV, g0, g1, g2, w1, hq, indexA, Int.toNat_natCast, call_pure pure66 rfl hn', call_pure pure66 rfl hm, call_pure pure16 rfl r2, r48_0, r48_1, r48_2, r48_3, r48_4, res48, tt, bb, bc, ↓bd, Nat.reduceEqDiff, Nat.reduceAdd, Nat.reduceLeDiff, ↓reduceIte, reduceCtorEq]
          | true =>
            rw [ho] at r2
            simp only [toAV, g0, g1, g2, w1, hq, indexA, Int.toNat_natCast, call_pure pure66 rfl hn', call_pure pure66 rfl hm, call_pure pure16 rfl r2, r48_0, r48_1, r48_2, r48_3, r48_4, r48_5, res48, tt, bb, bc, ↓bd, Nat.reduceEqDiff, Nat.reduceAdd, Nat.reduceLeDiff, ↓reduceIte, reduceCtorEq]
      · rw [if_neg (by intro h; exact hc (Option.some.inj h))]
        have g2 : ((c.toNat : Int) == 58) = false := by
          simp only [beq_eq_false_iff_ne, ne_eq]
          intro e; exact hc (UInt8.toNat_inj.mp (by have : (58 : UInt8).toNat = 58 := rfl; omega))
        cases ho : okV ⟨0, n, [], 0, 0⟩ with
        | false =>
          rw [ho] at ri
          simp only [toAV, g0, g1, g2, hq, indexA, Int.toNat_natCast, call_pure pure66 rfl hn', call_pure pure16 rfl ri, r48_0, r48_1, r48_2, r48_3, r48_4, res48, tt, bb, bc, ↓bd, Nat.reduceEqDiff, Nat.reduceAdd, Nat.reduceLeDiff, ↓reduceIte, reduceCtorEq]
        | true =>
          rw [ho] at ri
          simp only [toAV, g0, g1, g2, hq, indexA, Int.toNat_natCast, call_pure pure66 rfl hn', call_pure pure16 rfl ri, r48_0, r48_1, r48_2, r48_3, r48_4, r48_5, res48, tt, bb, bc, ↓bd, Nat.reduceEqDiff, Nat.reduceAdd, Nat.reduceLeDiff, ↓reduceIte, reduceCtorEq]
def hx (c : UInt8) : Int := idxL c digits 0
theorem idxL_rng (c : UInt8) : ∀ (l : Bytes) (i : Nat), -1 ≤ idxL c l i ∧ (idxL c l i = -1 ∨ (i : Int) ≤ idxL c l i) ∧ idxL c l i < (i : Int) + l.length
  | [], i => by simp [idxL]; omega
  | x :: l, i => by
    unfold idxL
    have h := idxL_rng c l (i + 1)
    split
    · simp; omega
    · simp only [List.length_cons]; omega
theorem hx_rng (c : UInt8) : -1 ≤ hx c ∧ hx c ≤ 15 := by
  have h := idxL_rng c digits 0
  have hl : digits.length = 16 := rfl
  unfold hx
  omega
theorem pure_idx : Cx.pure 92 = true := by kernel_rfl
theorem nat_u8 (c : UInt8) : ((c.toNat : Int)).toNat.toUInt8 = c := by
  rw [Int.toNat_natCast]
  show UInt8.ofNat c.toNat = c
  exact UInt8.ofNat_toNat
theorem IndexByte_gen (c : UInt8) : PCall Cx 79 [.str digits, .int .u8 (c.toNat : Int)] (.int .i64 (hx c)) := by
  have h0 : PCall Cx 92 [.str digits, .int .u8 (c.toNat : Int)] (.int .i64 (hx c)) := by
    refine pcall_ext (g := idxG) rfl (r0 := .int .i64 (hx c)) (H' := AHeap.empty) ?_ rfl
    show some (AV.int .i64 (idxL ((c.toNat : Int)).toNat.toUInt8 digits 0), AHeap.empty) = _
    rw [nat_u8]
    rfl
  have h1 : PCall Cx 88 [.str digits, .int .u8 (c.toNat : Int)] (.int .i64 (hx c)) := by
    refine pcall_run (noext _) body88 ?_
    simp only [call_pure pure_idx rfl h0, r88_0, res88, bb, bc, ↓bd, Nat.reduceEqDiff, ↓reduceIte, reduceCtorEq]
  refine pcall_run (noext _) body79 ?_
  simp only [call_pure pure88 rfl h1, r79_0, res79, bb, bc, ↓bd, Nat.reduceEqDiff, ↓reduceIte, reduceCtorEq]
def escX : Bytes → Except Int Int
  | [] => .error 2
  | a :: r => if hx a < 0 then .error 6 else
    match r with
    | [] => .error 2
    | b :: _ => if hx b < 0 then .error 6 else if plainI (16 * hx a + hx b) then .error 6 else .ok (16 * hx a + hx b)
def toA2 : Except Int Int → AV
  | .error e => .tuple [.int .u8 0, .int .i64 e]
  | .ok c => .tuple [.int .u8 c, .int .i64 0]
theorem escaped_gen {s : Bytes} {p : Nat} (hs : s.length ≤ 1000000) (hp : p ≤ s.length) :
    PCall Cx 64 [.str s, .int .i64 (p : Int)] (toA2 (escX (s.drop p))) := by
  refine pcall_run (noext _) body64 ?_
  have w2 : IntKind.i64.wrap ((p : Int) + 2) = ((p + 2 : Nat) : Int) := by rw [wr64 (by omega) (by omega)]; omega
  have g1 : ((p : Int) < ((p + 2 : Nat) : Int)) = True := eq_true (by omega)
  have g2 : (((p + 1 : Nat) : Int) < ((p + 2 : Nat) : Int)) = True := eq_true (by omega)
  have g3 : (((p + 2 : Nat) : Int) < ((p + 2 : Nat) : Int)) = False := by simp
  have w1 : IntKind.i64.wrap ((p : Int) + 1) = ((p + 1 : Nat) : Int) := by rw [wr64 (by omega) (by omega)]; omega
  have w3 : IntKind.i64.wrap (((p + 1 : Nat) : Int) + 1) = ((p + 2 : Nat) : Int) := by rw [wr64 (by omega) (by omega)]; omega
  have g6 : (0 : Int) ≤ (p : Int) := by omega
  have g7 : (0 : Int) ≤ ((p + 1 : Nat) : Int) := by omega
  have w0 : IntKind.i64.wrap 0 = 0 := rfl
  cases hd : s.drop p with
  | nil =>
    have hl : s.length ≤ p := by
      have := congrArg List.length hd
      rw [List.length_drop] at this
      simp at this; omega
    have g4 : ((s.length : Int) ≤ (p : Int)) = True := eq_true (by omega)
    simp only [escX, toA2, w2, g1, g4, run_inLoop, r64_0, r64_1, r64_2, res64, tt, bb, bc, ↓bd, Nat.reduceEqDiff, ↓reduceIte, reduceCtorEq]
  | cons a r =>
    obtain ⟨h1, h2, l1⟩ := drop_get hd
    have g4 : ((s.length : Int) ≤ (p : Int)) = False := eq_false (by omega)
    have i1 := IndexByte_gen a
    obtain ⟨ra, rb⟩ := hx_rng a
    by_cases ha : hx a < 0
    · simp only [escX, toA2, ha, w2, g1, g4, g6, h1, indexA, Int.toNat_natCast, call_pure pure79 rfl i1, run_inLoop, r64_0, r64_1, r64_2, r64_3, r64_4, res64, tt, bb, bc, ↓bd, Nat.reduceEqDiff, ↓reduceIte, reduceCtorEq]
    · have wa : IntKind.i64.wrap (hx a) = hx a := wr64 (by omega) (by omega)
      have wb : IntKind.i64.wrap (16 * hx a) = 16 * hx a := wr64 (by omega) (by omega)
      cases r with
      | nil =>
        have hl : s.length ≤ p + 1 := by
          have := congrArg List.length h2
          rw [List.length_drop] at this
          simp at this; omega
        have g5 : ((s.length : Int) ≤ ((p + 1 : Nat) : Int)) = True := eq_true (by omega)
        simp only [escX, toA2, ha, wa, w0, w1, w2, g1, g2, g4, g5, g6, h1, Int.mul_zero, Int.zero_add, indexA, Int.toNat_natCast, call_pure pure79 rfl i1, xx, run_inLoop, r64_0, r64_1, r64_2, r64_3, r64_4, res64, tt, bb, bc, ↓bd, Nat.reduceEqDiff, ↓reduceIte, reduceCtorEq]
      | cons b r2 =>
        obtain ⟨h3, h4, l2⟩ := drop_get h2
        have g5 : ((s.length : Int) ≤ ((p + 1 : Nat) : Int)) = False := eq_false (by omega)
        have i2 := IndexByte_gen b
        obtain ⟨rc, rd⟩ := hx_rng b
        by_cases hb : hx b < 0
        · simp only [escX, toA2, ha, hb, wa, w0, w1, w2, g1, g2, g4, g5, g6, g7, h1, h3, Int.mul_zero, Int.zero_add, indexA, Int.toNat_natCast, call_pure pure79 rfl i1, call_pure pure79 rfl i2, xx, run_inLoop, r64_0, r64_1, r64_2, r64_3, r64_4, res64, tt, bb, bc, ↓bd, Nat.reduceEqDiff, ↓reduceIte, reduceCtorEq]
        · have wc : IntKind.i64.wrap (16 * hx a + hx b) = 16 * hx a + hx b := wr64 (by omega) (by omega)
          have wd : IntKind.u8.wrap (16 * hx a + hx b) = 16 * hx a + hx b := wr8 (by omega) (by omega)
          have hpl := plain_ok (16 * hx a + hx b)
          cases hp' : plainI (16 * hx a + hx b) with
          | true =>
            rw [hp'] at hpl
            simp only [escX, toA2, ha, hb, hp', wa, wb, wc, wd, w0, w1, w2, w3, g1, g2, g3, g4, g5, g6, g7, h1, h3, Int.mul_zero, Int.zero_add, indexA, Int.toNat_natCast, call_pure pure79 rfl i1, call_pure pure79 rfl i2, call_pure pure65 rfl hpl, xx, run_inLoop, r64_0, r64_1, r64_2, r64_3, r64_4, r64_5, res64, tt, bb, bc, ↓bd, Nat.reduceEqDiff, ↓reduceIte, reduceCtorEq]
          | false =>
            rw [hp'] at hpl
            simp only [escX, toA2, ha, hb, hp', wa, wb, wc, wd, w0, w1, w2, w3, g1, g2, g3, g4, g5, g6, g7, h1, h3, Int.mul_zero, Int.zero_add, indexA, Int.toNat_natCast, call_pure pure79 rfl i1, call_pure pure79 rfl i2, call_pure pure65 rfl hpl, xx, run_inLoop, r64_0, r64_1, r64_2, r64_3, r64_4, r64_5, res64, tt, bb, bc, ↓bd, Nat.reduceEqDiff, ↓reduceIte, reduceCtorEq]
end Go.Proofs.Ytckhmpcmlochpaa.G

namespace Go.Proofs.Ytckhmpcmlochpaa.G
open Go.BX
set_option linter.unusedSimpArgs false
set_option linter.unusedVariables false
def txX (l : Bytes) (acc : Bytes) (i : Nat) : Except Int (Bytes × Nat) :=
  match l with
  | [] => .error 2
  | c :: r =>
    if c = 34 then (if 4096 < acc.length then .error 3 else .ok (acc, i + 1))
    else if c = 92 then
      match escX r with
      | .error e => .error e
      | .ok n => txX (r.drop 2) (acc ++ [UInt8.ofNat n.toNat]) (i + 3)
    else if plainB c then txX r (acc ++ [c]) (i + 1)
    else .error 6
termination_by l.length
decreasing_by
  all_goals simp only [List.length_cons, List.length_drop]; omega
def toAT : Except Int (Bytes × Nat) → AV
  | .error e => .tuple [val 0 0 [] 0 0, .int .i64 0, .int .i64 e]
  | .ok (t, i) => .tuple [val 1 0 t 0 0, .int .i64 (i : Int), .int .i64 0]
theorem escX_ok {r : Bytes} {n : Int} (h : escX r = .ok n) : 0 ≤ n ∧ n ≤ 255 ∧ 2 ≤ r.length := by
  unfold escX at h
  split at h
  · cases h
  · split at h
    · cases h
    · split at h
      · cases h
      · rename_i a _ ha b r2
        obtain ⟨h1, h2⟩ := hx_rng a
        obtain ⟨h3, h4⟩ := hx_rng b
        split at h
        · cases h
        · split at h
          · cases h
          · cases h
            refine ⟨by omega, by omega, by simp⟩
theorem escX_err {r : Bytes} {e : Int} (h : escX r = .error e) : e = 2 ∨ e = 6 := by
  unfold escX at h
  split at h
  · cases h; exact .inl rfl
  · split at h
    · cases h; exact .inr rfl
    · split at h
      · cases h; exact .inl rfl
      · split at h
        · cases h; exact .inr rfl
        · split at h
          · cases h; exact .inr rfl
          · cases h
def PX (s : Bytes) (r : AV) (i : Nat) (acc : Bytes) : Prop :=
  ∀ (T : Nat → AV) (h : Nat) (A : Nat → Blk), T 0 = .str s → T 2 = .ptr 0 5 0 0 → T 6 = .int .i64 (i : Int) → A 0 = .cells 26 5 [[.int .i64 0, .int .i64 0, .str [], .int .i64 0, .int .i64 0]] → 0 < h →
    ((T 5 = .nilS ∧ acc = []) ∨ ∃ g, T 5 = .slc g 1 0 acc.length ∧ 0 < g ∧ g < h ∧ A g = .cells 5 1 (ofBytes acc)) →
    Run Cx 46 T [] none [.code c46_9, .inScope c46_3] ⟨h, A⟩ (fun r0 H' => BX.freeze H' r0 = some r)
theorem text_goto1 : gotoA 0 [.inBlock 0, .code c46_56, .inScope c46_3] = some [.code (.seq .skip c46_9), .inScope c46_3] := by kernel_rfl
theorem text_goto2 : gotoA 0 [.inScope c46_3] = some [.code (.seq .skip c46_9), .inScope c46_3] := by kernel_rfl
theorem u8_ne {c : UInt8} {n : Nat} (hn : n < 256) (h : c ≠ UInt8.ofNat n) : ((c.toNat : Int) == (n : Int)) = false := by
  simp only [beq_eq_false_iff_ne, ne_eq]
  intro e
  refine h (UInt8.toNat_inj.mp ?_)
  rw [UInt8.toNat_ofNat']
  omega
theorem px_short {s acc : Bytes} {i : Nat} (hi : s.length ≤ i) : PX s (toAT (.error 2)) i acc := by
  intro T h A t0 t2 t6 a0 hh hb
  have g1 : ((s.length : Int) ≤ (i : Int)) = True := eq_true (by omega)
  simp only [toAT, t0, t2, t6, a0, g1, r46_1, r46_2, res46, tt, bb, bc, ↓bd, Nat.reduceEqDiff, Nat.reduceAdd, ↓reduceIte, reduceCtorEq]
theorem px_end {s acc : Bytes} {i : Nat} (hs : s.length ≤ 1000000) (hi : s[i]? = some 34) :
    PX s (toAT (if 4096 < acc.length then .error 3 else .ok (acc, i + 1))) i acc := by
  intro T h A t0 t2 t6 a0 hh hb
  have hlt : i < s.length := (List.getElem?_eq_some_iff.mp hi).1
  have g1 : ((s.length : Int) ≤ (i : Int)) = False := eq_false (by omega)
  have g2 : (0 : Int) ≤ (i : Int) := by omega
  have g3 : (((34 : UInt8).toNat : Int) == 34) = true := rfl
  have w1 : IntKind.i64.wrap ((i : Int) + 1) = ((i + 1 : Nat) : Int) := by rw [wr64 (by omega) (by omega)]; omega
  rcases hb with ⟨t5, rfl⟩ | ⟨g, t5, hg0, hgh, hA⟩
  · have g5 : ((4096 : Int) < (0 : Int)) = False := by simp
    have g6 : bytesOf ([] : List (List AV)) = some [] := rfl
    rw [if_neg (by simp)]
    simp only [toAT, t0, t2, t5, t6, a0, hi, g1, g2, g3, g5, g6, w1, indexA, Int.toNat_natCast, r46_1, r46_2, r46_3, res46, tt, bb, bc, ↓bd, Nat.reduceEqDiff, Nat.reduceAdd, Nat.reduceLeDiff, ↓reduceIte, reduceCtorEq]
  · have hbb := bytesOf_ofB acc
    have f7 : (acc.length ≤ (ofBytes acc).length) = True := eq_true (by rw [len_ofB]; omega)
    by_cases h4 : 4096 < acc.length
    · have g4 : ((4096 : Int) < (acc.length : Int)) = True := eq_true (by omega)
      rw [if_pos h4]
      simp only [toAT, t0, t2, t5, t6, a0, hi, g1, g2, g3, g4, indexA, Int.toNat_natCast, r46_1, r46_2, r46_3, res46, tt, bb, bc, ↓bd, Nat.reduceEqDiff, Nat.reduceAdd, ↓reduceIte, reduceCtorEq]
    · have g4 : ((4096 : Int) < (acc.length : Int)) = False := eq_false (by omega)
      rw [if_neg h4]
      simp only [toAT, t0, t2, t5, t6, a0, hA, hi, g1, g2, g3, g4, w1, hbb, f7, take_ofB, indexA, Int.toNat_natCast, r46_1, r46_2, r46_3, res46, tt, bb, bc, ↓bd, Nat.reduceEqDiff, Nat.reduceAdd, Nat.reduceLeDiff, ↓reduceIte, reduceCtorEq]
theorem px_form {s acc : Bytes} {i : Nat} {c : UInt8} (hs : s.length ≤ 1000000) (hi : s[i]? = some c) (h34 : c ≠ 34) (h92 : c ≠ 92) (hc : plainB c = false) : PX s (toAT (.error 6)) i acc := by
  intro T h A t0 t2 t6 a0 hh hb
  have hlt : i < s.length := (List.getElem?_eq_some_iff.mp hi).1
  have g1 : ((s.length : Int) ≤ (i : Int)) = False := eq_false (by omega)
  have g2 : (0 : Int) ≤ (i : Int) := by omega
  have g3 : ((c.toNat : Int) == 34) = false := u8_ne (n := 34) (by omega) h34
  have g4 : ((c.toNat : Int) == 92) = false := u8_ne (n := 92) (by omega) h92
  have hcc : plainI (c.toNat : Int) = false := hc
  have hpl := plain_ok (c.toNat : Int)
  rw [hcc] at hpl
  simp only [toAT, t0, t2, t6, a0, hi, g1, g2, g3, g4, indexA, Int.toNat_natCast, call_pure pure65 rfl hpl, r46_1, r46_2, r46_3, r46_4, r46_6, res46, tt, bb, bc, ↓bd, Nat.reduceEqDiff, Nat.reduceAdd, ↓reduceIte, reduceCtorEq]
theorem px_plain {s acc : Bytes} {i : Nat} {c : UInt8} {r : AV} (hs : s.length ≤ 1000000) (hi : s[i]? = some c) (h34 : c ≠ 34) (h92 : c ≠ 92) (hc : plainB c = true) (hl : acc.length ≤ 1000000) (hp : PX s r (i + 1) (acc ++ [c])) : PX s r i acc := by
  intro T h A t0 t2 t6 a0 hh hb
  have hlt : i < s.length := (List.getElem?_eq_some_iff.mp hi).1
  have g1 : ((s.length : Int) ≤ (i : Int)) = False := eq_false (by omega)
  have g2 : (0 : Int) ≤ (i : Int) := by omega
  have w1 : IntKind.i64.wrap ((i : Int) + 1) = ((i + 1 : Nat) : Int) := by rw [wr64 (by omega) (by omega)]; omega
  have hcc : plainI (c.toNat : Int) = true := hc
  have g3 : ((c.toNat : Int) == 34) = false := u8_ne (n := 34) (by omega) h34
  have g4 : ((c.toNat : Int) == 92) = false := u8_ne (n := 92) (by omega) h92
  have hpl := plain_ok (c.toNat : Int)
  rw [hcc] at hpl
  have hm1 : 1 ≤ most := by unfold most; omega
  have hm2 : acc.length + 1 ≤ most := by unfold most; omega
  have e1 : (h = h + 1) = False := eq_false (by omega)
  have e2 : (h + 1 = h) = False := eq_false (by omega)
  have e0 : (0 = h) = False := eq_false (by omega)
  have e00 : (0 = h + 1) = False := eq_false (by omega)
  have hsn := ofB_snoc acc c
  rcases hb with ⟨t5, rfl⟩ | ⟨g, t5, hg0, hgh, hA⟩
  · simp only [t0, t5, t6, hi, g1, g2, g3, g4, w1, hm1, builtinM, appendA, source, Nat.mul_one, runVH_some, indexA, Int.toNat_natCast, call_pure pure65 rfl hpl, run_inBlock, r46_1, r46_2, r46_3, r46_4, r46_6, r46_7, tt, bb, bc, ↓bd, Nat.reduceEqDiff, Nat.reduceLeDiff, ↓reduceIte, reduceCtorEq, List.reduceReplicate]
    unfold c46_60
    rw [run_goto text_goto2, run_seq, run_skip]
    refine hp _ _ _ ?_ ?_ ?_ ?_ ?_ (.inr ⟨h + 1, ?_, ?_, ?_, ?_⟩)
    all_goals first | omega | (simp only [upd_app, t0, t2, a0, e0, e00, Nat.reduceEqDiff, ↓reduceIte]; done) | (simp only [upd_app, Nat.reduceEqDiff, ↓reduceIte]; rfl)
  · have f1 : (g = h) = False := eq_false (by omega)
    have f2 : (h = g) = False := eq_false (by omega)
    have f3 : (g = h + 1) = False := eq_false (by omega)
    have f4 : (h + 1 = g) = False := eq_false (by omega)
    have f5 : (0 = g) = False := eq_false (by omega)
    have f7 : (acc.length ≤ (ofBytes acc).length) = True := eq_true (by rw [len_ofB]; omega)
    simp only [t0, t5, t6, hA, hi, g1, g2, g3, g4, w1, hm2, f1, f7, take_ofB, hsn, builtinM, appendA, source, Nat.mul_one, runVH_some, indexA, Int.toNat_natCast, call_pure pure65 rfl hpl, run_inBlock, r46_1, r46_2, r46_3, r46_4, r46_6, r46_7, tt, bb, bc, ↓bd, Nat.reduceEqDiff, Nat.reduceLeDiff, ↓reduceIte, reduceCtorEq, List.reduceReplicate]
    unfold c46_60
    rw [run_goto text_goto2, run_seq, run_skip]
    refine hp _ _ _ ?_ ?_ ?_ ?_ ?_ (.inr ⟨h + 1, ?_, ?_, ?_, ?_⟩)
    all_goals first | omega | (simp only [upd_app, t0, t2, a0, e0, e00, f5, List.length_append, List.length_singleton, Nat.reduceEqDiff, ↓reduceIte]; done)
theorem px_escE {s acc : Bytes} {i : Nat} {e : Int} (hs : s.length ≤ 1000000) (hi : s[i]? = some 92) (he : escX (s.drop (i + 1)) = .error e) : PX s (toAT (.error e)) i acc := by
  intro T h A t0 t2 t6 a0 hh hb
  have hlt : i < s.length := (List.getElem?_eq_some_iff.mp hi).1
  have g1 : ((s.length : Int) ≤ (i : Int)) = False := eq_false (by omega)
  have g2 : (0 : Int) ≤ (i : Int) := by omega
  have w1 : IntKind.i64.wrap ((i : Int) + 1) = ((i + 1 : Nat) : Int) := by rw [wr64 (by omega) (by omega)]; omega
  have g3 : (((92 : UInt8).toNat : Int) == 34) = false := rfl
  have g4 : (((92 : UInt8).toNat : Int) == 92) = true := rfl
  have hesc := escaped_gen (p := i + 1) hs (by omega)
  rw [he] at hesc
  simp only [toA2] at hesc
  have ge : (e != 0) = true := by rcases escX_err he with rfl | rfl <;> rfl
  simp only [toAT, t0, t2, t6, a0, hi, g1, g2, g3, g4, w1, ge, indexA, Int.toNat_natCast, call_pure pure64 rfl hesc, r46_1, r46_2, r46_3, r46_4, r46_5, res46, tt, bb, bc, ↓bd, Nat.reduceEqDiff, Nat.reduceAdd, ↓reduceIte, reduceCtorEq]
theorem px_esc {s acc : Bytes} {i : Nat} {n : Int} {r : AV} (hs : s.length ≤ 1000000) (hi : s[i]? = some 92) (he : escX (s.drop (i + 1)) = .ok n) (hl : acc.length ≤ 1000000) (hp : PX s r (i + 3) (acc ++ [UInt8.ofNat n.toNat])) : PX s r i acc := by
  intro T h A t0 t2 t6 a0 hh hb
  have hlt : i < s.length := (List.getElem?_eq_some_iff.mp hi).1
  have g1 : ((s.length : Int) ≤ (i : Int)) = False := eq_false (by omega)
  have g2 : (0 : Int) ≤ (i : Int) := by omega
  have w1 : IntKind.i64.wrap ((i : Int) + 1) = ((i + 1 : Nat) : Int) := by rw [wr64 (by omega) (by omega)]; omega
  have w3 : IntKind.i64.wrap ((i : Int) + 3) = ((i + 3 : Nat) : Int) := by rw [wr64 (by omega) (by omega)]; omega
  have g3 : (((92 : UInt8).toNat : Int) == 34) = false := rfl
  have g4 : (((92 : UInt8).toNat : Int) == 92) = true := rfl
  have hesc := escaped_gen (p := i + 1) hs (by omega)
  rw [he] at hesc
  obtain ⟨n0, n1, _⟩ := escX_ok he
  have hn : (((UInt8.ofNat n.toNat).toNat : Nat) : Int) = n := u8_of n0 n1
  simp only [toA2] at hesc
  have hm1 : 1 ≤ most := by unfold most; omega
  have hm2 : acc.length + 1 ≤ most := by unfold most; omega
  have e1 : (h = h + 1) = False := eq_false (by omega)
  have e2 : (h + 1 = h) = False := eq_false (by omega)
  have e0 : (0 = h) = False := eq_false (by omega)
  have e00 : (0 = h + 1) = False := eq_false (by omega)
  have hsn := ofB_snoc acc (UInt8.ofNat n.toNat)
  rw [hn] at hsn
  have hsn0 : [[AV.int .u8 n]] = ofBytes [UInt8.ofNat n.toNat] := by
    show _ = [[AV.int .u8 (((UInt8.ofNat n.toNat).toNat : Nat) : Int)]]
    rw [hn]
  rcases hb with ⟨t5, rfl⟩ | ⟨g, t5, hg0, hgh, hA⟩
  · simp only [t0, t5, t6, hi, g1, g2, g3, g4, w1, w3, hm1, builtinM, appendA, source, Nat.mul_one, runVH_some, indexA, Int.toNat_natCast, call_pure pure64 rfl hesc, r46_1, r46_2, r46_3, r46_4, r46_5, tt, bb, bc, ↓bd, Nat.reduceEqDiff, Nat.reduceLeDiff, ↓reduceIte, reduceCtorEq, List.reduceReplicate]
    unfold c46_48
    rw [run_goto text_goto1, run_seq, run_skip]
    refine hp _ _ _ ?_ ?_ ?_ ?_ ?_ (.inr ⟨h + 1, ?_, ?_, ?_, ?_⟩)
    all_goals first | omega | (simp only [upd_app, t0, t2, a0, e0, e00, Nat.reduceEqDiff, ↓reduceIte]; done) | (simp only [upd_app, Nat.reduceEqDiff, ↓reduceIte]; rfl) | (simp only [upd_app, ↓reduceIte]; rw [hsn0]; rfl)
  · have f1 : (g = h) = False := eq_false (by omega)
    have f2 : (h = g) = False := eq_false (by omega)
    have f3 : (g = h + 1) = False := eq_false (by omega)
    have f4 : (h + 1 = g) = False := eq_false (by omega)
    have f5 : (0 = g) = False := eq_false (by omega)
    have f7 : (acc.length ≤ (ofBytes acc).length) = True := eq_true (by rw [len_ofB]; omega)
    simp only [t0, t5, t6, hA, hi, g1, g2, g3, g4, w1, w3, hm2, f1, f7, take_ofB, hsn, builtinM, appendA, source, Nat.mul_one, runVH_some, indexA, Int.toNat_natCast, call_pure pure64 rfl hesc, r46_1, r46_2, r46_3, r46_4, r46_5, tt, bb, bc, ↓bd, Nat.reduceEqDiff, Nat.reduceLeDiff, ↓reduceIte, reduceCtorEq, List.reduceReplicate]
    unfold c46_48
    rw [run_goto text_goto1, run_seq, run_skip]
    refine hp _ _ _ ?_ ?_ ?_ ?_ ?_ (.inr ⟨h + 1, ?_, ?_, ?_, ?_⟩)
    all_goals first | omega | (simp only [upd_app, t0, t2, a0, e0, e00, f5, List.length_append, List.length_singleton, Nat.reduceEqDiff, ↓reduceIte]; done)
theorem px_gen {s : Bytes} (hs : s.length ≤ 1000000) : ∀ (m : Nat) (l : Bytes) (i : Nat) (acc : Bytes), l.length ≤ m → s.drop i = l → acc.length ≤ i → i ≤ s.length → PX s (toAT (txX l acc i)) i acc := by
  intro m
  induction m with
  | zero =>
    intro l i acc hm hd ha hi
    have hl : l = [] := List.eq_nil_of_length_eq_zero (by omega)
    subst hl
    rw [txX]
    refine px_short ?_
    have := congrArg List.length hd
    rw [List.length_drop] at this
    simp at this; omega
  | succ m ih =>
    intro l i acc hm hd ha hi
    cases l with
    | nil =>
      rw [txX]
      refine px_short ?_
      have := congrArg List.length hd
      rw [List.length_drop] at this
      simp at this; omega
    | cons c r =>
      obtain ⟨h1, h2, h3⟩ := drop_get hd
      rw [List.length_cons] at hm
      rw [txX]
      by_cases h34 : c = 34
      · subst h34
        rw [if_pos rfl]
        exact px_end hs h1
      · rw [if_neg h34]
        by_cases h92 : c = 92
        · subst h92
          rw [if_pos rfl]
          cases he : escX r with
          | error e =>
            exact px_escE hs h1 (by rw [h2]; exact he)
          | ok n =>
            have hr := (escX_ok he).2.2
            have hrl : r.length = s.length - (i + 1) := by rw [← h2, List.length_drop]
            refine px_esc hs h1 (by rw [h2]; exact he) (by omega) ?_
            refine ih (r.drop 2) (i + 3) _ (by rw [List.length_drop]; omega) ?_ (by simp; omega) (by omega)
            rw [← h2, List.drop_drop]
        · rw [if_neg h92]
          cases hc : plainB c with
          | true =>
            simp only [if_true]
            exact px_plain hs h1 h34 h92 hc (by omega) (ih r (i + 1) _ (by omega) h2 (by simp; omega) (by omega))
          | false =>
            simp only [Bool.false_eq_true, if_false]
            exact px_form hs h1 h34 h92 hc
theorem text_gen {s : Bytes} (hs : s.length ≤ 1000000) (h1 : 1 ≤ s.length) : PCall Cx 46 [.str s] (toAT (txX (s.drop 1) [] 1)) := by
  refine pcall_run (noext _) body46 ?_
  have hp := px_gen hs (s.drop 1).length (s.drop 1) 1 [] (Nat.le_refl _) rfl (by simp) h1
  simp only [r46_0, r46_1.1, tt, bb, ↓bd]
  refine hp _ _ _ ?_ ?_ ?_ ?_ ?_ (.inl ⟨?_, rfl⟩)
  all_goals first | omega | (simp only [upd_app, enterT, List.getElem?_cons_zero, Option.getD_some, Nat.reduceEqDiff, ↓reduceIte]; done) | (simp only [upd_app, ↓reduceIte]; rfl)
def parseX (s : Bytes) : Except Int (Vl × Nat) :=
  match s with
  | [] => .error 10
  | c :: r =>
    if c = 34 then
      match txX r [] 1 with
      | .error e => .error e
      | .ok (t, i) => .ok (⟨1, 0, t, 0, 0⟩, i)
    else if c = 45 ∨ dg c = true then numericX s
    else .error 10
theorem parseX_cons (c : UInt8) (r : Bytes) : parseX (c :: r) = if c = 34 then (match txX r [] 1 with
      | .error e => .error e
      | .ok (t, i) => .ok (⟨1, 0, t, 0, 0⟩, i)) else if c = 45 ∨ dg c = true then numericX (c :: r) else .error 10 := rfl
theorem toAV_shape (z : Except Int (Vl × Nat)) : ∃ (v : Vl) (i e : Int), toAV z = .tuple [.agg [.int .i64 v.k, .int .i64 v.n, .str v.s, .int .i64 v.x, .int .i64 v.y], .int .i64 i, .int .i64 e] := by
  cases z with
  | error e => exact ⟨⟨0, 0, [], 0, 0⟩, 0, e, rfl⟩
  | ok p => obtain ⟨v, i⟩ := p; exact ⟨v, i, 0, rfl⟩
theorem Parse_gen {s : Bytes} (hs : s.length ≤ 1000000) : PCall Cx 36 [.str s] (toAV (parseX s)) := by
  refine pcall_run (noext _) body36 ?_
  cases s with
  | nil =>
    have e : (([] : Bytes) != []) = false := rfl
    simp only [parseX, toAV, e, run_inBlock, r36_0, r36_1, r36_2, res36, tt, bb, bc, ↓bd, Nat.reduceEqDiff, Nat.reduceAdd, ↓reduceIte, reduceCtorEq]
  | cons c r =>
    have e : ((c :: r : Bytes) != []) = true := rfl
    have g0 : (c :: r)[0]? = some c := rfl
    have p0 : (0 : Int) ≤ 0 := by omega
    rw [parseX_cons]
    by_cases h34 : c = 34
    · subst h34
      rw [if_pos rfl]
      have g3 : (((34 : UInt8).toNat : Int) == 34) = true := rfl
      have ht := text_gen (s := 34 :: r) hs (by simp)
      have hd : (34 :: r : Bytes).drop 1 = r := rfl
      rw [hd] at ht
      cases hx : txX r [] 1 with
      | error q =>
        rw [hx] at ht
        simp only [toAT] at ht
        simp only [toAV, e, g0, g3, p0, indexA, Int.toNat_zero, call_pure pure46 rfl ht, r36_0, r36_1, res36, tt, bb, bc, ↓bd, Nat.reduceEqDiff, Nat.reduceAdd, ↓reduceIte, reduceCtorEq]
      | ok q =>
        obtain ⟨t, i⟩ := q
        rw [hx] at ht
        simp only [toAT] at ht
        simp only [toAV, e, g0, g3, p0, indexA, Int.toNat_zero, call_pure pure46 rfl ht, r36_0, r36_1, res36, tt, bb, bc, ↓bd, Nat.reduceEqDiff, Nat.reduceAdd, ↓reduceIte, reduceCtorEq]
    · rw [if_neg h34]
      have g3 : ((c.toNat : Int) == 34) = false := u8_ne (n := 34) (by omega) h34
      have hn := numeric_gen hs
      obtain ⟨v, i, q, hv⟩ := toAV_shape (numericX (c :: r))
      by_cases h45 : c = 45
      · subst h45
        rw [if_pos (.inl rfl)]
        have g4 : (((45 : UInt8).toNat : Int) == 45) = true := rfl
        rw [hv] at hn ⊢
        simp only [e, g0, g3, g4, p0, indexA, Int.toNat_zero, call_pure pure48 rfl hn, r36_0, r36_1, res36, tt, bb, bc, ↓bd, Nat.reduceEqDiff, Nat.reduceAdd, ↓reduceIte, reduceCtorEq]
      · have g4 : ((c.toNat : Int) == 45) = false := u8_ne (n := 45) (by omega) h45
        have hdg := digit_ok (c.toNat : Int)
        have hde : digI (c.toNat : Int) = dg c := rfl
        rw [hde] at hdg
        cases hdc : dg c with
        | true =>
          rw [hdc] at hdg
          rw [if_pos (.inr rfl), hv]
          rw [hv] at hn
          simp only [e, g0, g3, g4, p0, indexA, Int.toNat_zero, call_pure pure47 rfl hdg, call_pure pure48 rfl hn, r36_0, r36_1, res36, tt, bb, bc, ↓bd, Nat.reduceEqDiff, Nat.reduceAdd, ↓reduceIte, reduceCtorEq]
        | false =>
          rw [hdc] at hdg
          rw [if_neg (by simp [h45])]
          simp only [toAV, e, g0, g3, g4, p0, indexA, Int.toNat_zero, call_pure pure47 rfl hdg, run_inBlock, r36_0, r36_1, r36_2, res36, tt, bb, bc, ↓bd, Nat.reduceEqDiff, Nat.reduceAdd, ↓reduceIte, reduceCtorEq]
end Go.Proofs.Ytckhmpcmlochpaa.G

namespace Go.Proofs.Ytckhmpcmlochpaa.G
open Go.BX
set_option linter.unusedSimpArgs false
set_option linter.unusedVariables false
theorem txX_ok : ∀ (m : Nat) (l acc : Bytes) (i : Nat) (t : Bytes) (k : Nat), l.length ≤ m → txX l acc i = .ok (t, k) → t.length ≤ 4096 ∧ i < k ∧ k ≤ i + l.length := by
  intro m
  induction m with
  | zero =>
    intro l acc i t k hm h
    have hl : l = [] := List.eq_nil_of_length_eq_zero (by omega)
    subst hl
    rw [txX] at h
    cases h
  | succ m ih =>
    intro l acc i t k hm h
    cases l with
    | nil => rw [txX] at h; cases h
    | cons c r =>
      rw [List.length_cons] at hm ⊢
      rw [txX] at h
      split at h
      · split at h
        · cases h
        · cases h; omega
      · split at h
        · split at h
          · cases h
          · rename_i n he
            have h2 := (escX_ok he).2.2
            have := ih (r.drop 2) _ _ _ _ (by rw [List.length_drop]; omega) h
            rw [List.length_drop] at this
            omega
        · split at h
          · have := ih r _ _ _ _ (by omega) h
            omega
          · cases h
theorem txX_err : ∀ (m : Nat) (l acc : Bytes) (i : Nat) (e : Int), l.length ≤ m → txX l acc i = .error e → e = 2 ∨ e = 3 ∨ e = 6 := by
  intro m
  induction m with
  | zero =>
    intro l acc i e hm h
    have hl : l = [] := List.eq_nil_of_length_eq_zero (by omega)
    subst hl
    rw [txX] at h
    cases h; exact .inl rfl
  | succ m ih =>
    intro l acc i e hm h
    cases l with
    | nil => rw [txX] at h; cases h; exact .inl rfl
    | cons c r =>
      rw [List.length_cons] at hm
      rw [txX] at h
      split at h
      · split at h
        · cases h; exact .inr (.inl rfl)
        · cases h
      · split at h
        · split at h
          · rename_i e' he
            cases h
            rcases escX_err he with rfl | rfl
            · exact .inl rfl
            · exact .inr (.inr rfl)
          · exact ih _ _ _ _ (by rw [List.length_drop]; omega) h
        · split at h
          · exact ih r _ _ _ (by omega) h
          · cases h; exact .inr (.inr rfl)
theorem parseX_ok {s : Bytes} {v : Vl} {n : Nat} (h : parseX s = .ok (v, n)) : okV v = true ∧ 0 < n ∧ n ≤ s.length := by
  have hnum : ∀ {s : Bytes} {v : Vl} {n : Nat}, numericX s = .ok (v, n) → okV v = true ∧ 0 < n ∧ n ≤ s.length := by
    intro s v n h
    unfold numericX at h
    rcases numX_cases s 0 (Nat.zero_le _) with ⟨e, _, h1⟩ | ⟨a, i, h1, hi0, hi1, _, _⟩
    · rw [h1] at h; cases h
    · rw [h1] at h
      simp only at h
      split at h
      · rcases numX_cases s (i + 1) (by
          rename_i hq
          have := (List.getElem?_eq_some_iff.mp hq).1
          omega) with ⟨e, _, h2⟩ | ⟨b, k, h2, hk0, hk1, _, _⟩
        · rw [h2] at h; cases h
        · rw [h2] at h
          simp only at h
          split at h
          · cases h
            exact ⟨by assumption, by omega, by omega⟩
          · cases h
      · split at h
        · cases h
          exact ⟨by assumption, by omega, by omega⟩
        · cases h
  cases s with
  | nil => cases h
  | cons c r =>
    rw [parseX_cons] at h
    split at h
    · split at h
      · cases h
      · rename_i t i ht
        cases h
        have := txX_ok r.length r [] 1 t n (Nat.le_refl _) ht
        refine ⟨?_, by omega, by rw [List.length_cons]; omega⟩
        unfold okV rightV
        simp
        omega
    · split at h
      · exact hnum h
      · cases h
theorem parseX_err {s : Bytes} {e : Int} (h : parseX s = .error e) : e = 2 ∨ e = 3 ∨ e = 6 ∨ e = 10 ∨ e = 14 := by
  have hnum : ∀ {s : Bytes} {e : Int}, numericX s = .error e → e = 2 ∨ e = 6 ∨ e = 14 := by
    intro s e h
    unfold numericX at h
    rcases numX_cases s 0 (Nat.zero_le _) with ⟨e', he, h1⟩ | ⟨a, i, h1, hi0, hi1, _, _⟩
    · rw [h1] at h; cases h; omega
    · rw [h1] at h
      simp only at h
      split at h
      · rcases numX_cases s (i + 1) (by
          rename_i hq
          have := (List.getElem?_eq_some_iff.mp hq).1
          omega) with ⟨e', he, h2⟩ | ⟨b, k, h2, hk0, hk1, _, _⟩
        · rw [h2] at h; cases h; omega
        · rw [h2] at h
          simp only at h
          split at h
          · cases h
          · cases h; omega
      · split at h
        · cases h
        · cases h; omega
  cases s with
  | nil => cases h; omega
  | cons c r =>
    rw [parseX_cons] at h
    split at h
    · split at h
      · rename_i e' ht
        cases h
        have := txX_err r.length r [] 1 e (Nat.le_refl _) ht
        omega
      · cases h
    · split at h
      · have := hnum h
        omega
      · cases h; omega
end Go.Proofs.Ytckhmpcmlochpaa.G

