import Derived.Test.YtjnopnlgcmlkfaaKRSFolds3
namespace Go.Proofs.Ytjnopnlgcmlkfaa.G
open Go.BX
section
variable {T : Nat → AV} {ds : List ADef} {ro : Option Nat} {k : List AItem} {H : AHeap} {Q : AV → AHeap → Prop}
abbrev o3_1 : List AO := [oA 6 (.assign (.const (.bool false))) 4]
def c3_1 : AC := .region o3_1 []
abbrev o3_4 : List AO := [oA 17 (cF 5 #[] #[]) 4,
  oA 18 (.unOp .not 4 (tm 17)) 4,
  oA 19 (.move (tm 18)) 4,
  oG 20 (.move (tm 0)) 22 19 false,
  oG 21 (cF 6 #[(tm 20)] #[22]) 3 19 false,
  oG 22 (.binOp .eql 3 (tm 21) (ci 0) 3) 4 19 false,
  oA 23 (.pick (tm 19) (.const (.bool true)) (tm 22)) 4,
  oA 24 (.move (tm 23)) 4,
  oG 25 (.move (tm 0)) 22 24 false,
  oG 26 (cF 7 #[(tm 25)] #[22]) 4 24 false,
  oG 27 (.unOp .not 4 (tm 26)) 4 24 false,
  oA 28 (.pick (tm 24) (.const (.bool true)) (tm 27)) 4,
  oA 29 (.move (tm 28)) 4,
  oG 30 (.move (tm 0)) 22 29 false,
  oG 31 (cB .len #[(tm 30)] #[22]) 3 29 false,
  oG 32 (.binOp .eql 3 (tm 31) (ci 0) 3) 4 29 false,
  oA 33 (.pick (tm 29) (.const (.bool true)) (tm 32)) 4]
def c3_4 : AC := .region o3_4 []
abbrev o3_7 : List AO := [oA 34 (cF 5 #[] #[]) 4,
  oA 6 (.assign (tm 34)) 4]
def c3_7 : AC := .region o3_7 []
def c3_8 : AC := .ret
def c3_6 : AC := .seq c3_7 c3_8
def c3_9 : AC := .skip
def c3_5 : AC := .cond (tm 33) c3_6 c3_9
def c3_3 : AC := .seq c3_4 c3_5
abbrev o3_11 : List AO := [oA 35 (.buildSlice 26 4 #[(0, (.const (.string ⟨#[115, 117, 109]⟩))), (1, (.const (.string ⟨#[109, 97, 120]⟩))), (2, (.const (.string ⟨#[109, 105, 110]⟩))), (3, (.const (.string ⟨#[103, 99, 100]⟩)))]) 26,
  oA 36 (.move (tm 2)) 5,
  oA 37 (.binOp .rem 5 (tm 36) (.const (.int .u8 4)) 5) 5,
  oA 38 (.indexAddr 26 (tm 35) (tm 37)) 0,
  oA 39 (.load 9 (tm 38)) 9,
  oA 7 (.assign (tm 39)) 9]
def c3_11 : AC := .region o3_11 []
abbrev o3_13 : List AO := [oA 40 (.move (tm 1)) 5,
  oA 41 (.convert 5 3 (tm 40)) 3,
  oA 42 (.move (tm 0)) 22,
  oA 43 (cB .len #[(tm 42)] #[22]) 3,
  oA 44 (.binOp .add 3 (tm 43) (ci 1) 3) 3,
  oA 45 (.binOp .rem 3 (tm 41) (tm 44) 3) 3,
  oA 8 (.assign (tm 45)) 3]
def c3_13 : AC := .region o3_13 []
abbrev o3_15 : List AO := [oA 47 (.move (tm 0)) 22,
  oA 48 (.move (tm 8)) 3,
  oA 49 (.slice 22 (tm 47) none (some (tm 48)) none) 22,
  oA 50 (cF 9 #[(tm 49)] #[22]) 22,
  oA 51 (.move (tm 7)) 9,
  oA 52 (cF 8 #[(tm 50), (tm 51)] #[22, 9]) 28,
  oA 46 (.move (tm 52)) 28,
  oA 53 (.extract (tm 46) 0) 22,
  oA 54 (.extract (tm 46) 1) 27,
  oA 9 (.assign (tm 53)) 22,
  oA 10 (.assign (tm 54)) 27]
def c3_15 : AC := .region o3_15 []
abbrev o3_17 : List AO := [oA 56 (.move (tm 0)) 22,
  oA 57 (.move (tm 8)) 3,
  oA 58 (.slice 22 (tm 56) (some (tm 57)) none none) 22,
  oA 59 (cF 9 #[(tm 58)] #[22]) 22,
  oA 60 (.move (tm 7)) 9,
  oA 61 (cF 8 #[(tm 59), (tm 60)] #[22, 9]) 28,
  oA 55 (.move (tm 61)) 28,
  oA 62 (.extract (tm 55) 0) 22,
  oA 63 (.extract (tm 55) 1) 27,
  oA 11 (.assign (tm 62)) 22,
  oA 12 (.assign (tm 63)) 27]
def c3_17 : AC := .region o3_17 []
abbrev o3_19 : List AO := [oA 65 (.move (tm 0)) 22,
  oA 66 (cF 9 #[(tm 65)] #[22]) 22,
  oA 67 (.move (tm 7)) 9,
  oA 68 (cF 8 #[(tm 66), (tm 67)] #[22, 9]) 28,
  oA 64 (.move (tm 68)) 28,
  oA 69 (.extract (tm 64) 0) 22,
  oA 70 (.extract (tm 64) 1) 27,
  oA 13 (.assign (tm 69)) 22,
  oA 14 (.assign (tm 70)) 27]
def c3_19 : AC := .region o3_19 []
abbrev o3_22 : List AO := [oA 71 (.move (tm 10)) 27,
  oA 72 (.binOp .neq 27 (tm 71) (ci 0) 27) 4,
  oA 73 (.move (tm 72)) 4,
  oG 74 (.move (tm 12)) 27 73 false,
  oG 75 (.binOp .neq 27 (tm 74) (ci 0) 27) 4 73 false,
  oA 76 (.pick (tm 73) (.const (.bool true)) (tm 75)) 4]
def c3_22 : AC := .region o3_22 []
abbrev o3_25 : List AO := [oA 77 (.move (tm 14)) 27,
  oA 78 (.binOp .eql 27 (tm 77) (ci 13) 27) 4,
  oA 6 (.assign (tm 78)) 4]
def c3_25 : AC := .region o3_25 []
def c3_26 : AC := .ret
def c3_24 : AC := .seq c3_25 c3_26
def c3_27 : AC := .skip
def c3_23 : AC := .cond (tm 76) c3_24 c3_27
def c3_21 : AC := .seq c3_22 c3_23
abbrev o3_29 : List AO := [oA 80 (.move (tm 9)) 22,
  oA 81 (.move (tm 11)) 22,
  oA 82 (.buildSlice 48 2 #[(0, (tm 80)), (1, (tm 81))]) 48,
  oA 83 (cF 10 #[(tm 82)] #[48]) 22,
  oA 84 (.move (tm 7)) 9,
  oA 85 (cF 8 #[(tm 83), (tm 84)] #[22, 9]) 28,
  oA 79 (.move (tm 85)) 28,
  oA 86 (.extract (tm 79) 0) 22,
  oA 87 (.extract (tm 79) 1) 27,
  oA 15 (.assign (tm 86)) 22,
  oA 16 (.assign (tm 87)) 27]
def c3_29 : AC := .region o3_29 []
abbrev o3_31 : List AO := [oA 88 (.move (tm 14)) 27,
  oA 89 (.move (tm 16)) 27,
  oA 90 (.binOp .eql 27 (tm 88) (tm 89) 27) 4,
  oA 91 (.move (tm 90)) 4,
  oG 92 (.move (tm 13)) 22 91 true,
  oG 93 (.move (tm 15)) 22 91 true,
  oG 94 (cF 11 #[(tm 92), (tm 93)] #[22, 22]) 4 91 true,
  oA 95 (.pick (tm 91) (tm 94) (.const (.bool false))) 4,
  oA 6 (.assign (tm 95)) 4]
def c3_31 : AC := .region o3_31 []
def c3_32 : AC := .ret
def c3_30 : AC := .seq c3_31 c3_32
def c3_28 : AC := .seq c3_29 c3_30
def c3_20 : AC := .seq c3_21 c3_28
def c3_18 : AC := .seq c3_19 c3_20
def c3_16 : AC := .seq c3_17 c3_18
def c3_14 : AC := .seq c3_15 c3_16
def c3_12 : AC := .seq c3_13 c3_14
def c3_10 : AC := .seq c3_11 c3_12
def c3_2 : AC := .seq c3_3 c3_10
def c3_0 : AC := .seq c3_1 c3_2
theorem r3_0 : SeqR Cx 3 c3_0 c3_1 c3_2 ∧ RegR Cx 3 c3_1 o3_1 ∧ SeqR Cx 3 c3_2 c3_3 c3_10 ∧ SeqR Cx 3 c3_3 c3_4 c3_5 ∧ RegR Cx 3 c3_4 o3_4 ∧ CondR Cx 3 c3_5 (tm 33) c3_6 c3_9 ∧ SeqR Cx 3 c3_6 c3_7 c3_8 ∧ RegR Cx 3 c3_7 o3_7 := ⟨run_seq, run_region, run_seq, run_seq, run_region, run_condC, run_seq, run_region⟩
theorem r3_1 : RetR Cx 3 c3_8 ∧ SkipR Cx 3 c3_9 ∧ SeqR Cx 3 c3_10 c3_11 c3_12 ∧ RegR Cx 3 c3_11 o3_11 ∧ SeqR Cx 3 c3_12 c3_13 c3_14 ∧ RegR Cx 3 c3_13 o3_13 ∧ SeqR Cx 3 c3_14 c3_15 c3_16 ∧ RegR Cx 3 c3_15 o3_15 := ⟨run_ret, run_skip, run_seq, run_region, run_seq, run_region, run_seq, run_region⟩
theorem r3_2 : SeqR Cx 3 c3_16 c3_17 c3_18 ∧ RegR Cx 3 c3_17 o3_17 ∧ SeqR Cx 3 c3_18 c3_19 c3_20 ∧ RegR Cx 3 c3_19 o3_19 ∧ SeqR Cx 3 c3_20 c3_21 c3_28 ∧ SeqR Cx 3 c3_21 c3_22 c3_23 ∧ RegR Cx 3 c3_22 o3_22 ∧ CondR Cx 3 c3_23 (tm 76) c3_24 c3_27 := ⟨run_seq, run_region, run_seq, run_region, run_seq, run_seq, run_region, run_condC⟩
theorem r3_3 : SeqR Cx 3 c3_24 c3_25 c3_26 ∧ RegR Cx 3 c3_25 o3_25 ∧ RetR Cx 3 c3_26 ∧ SkipR Cx 3 c3_27 ∧ SeqR Cx 3 c3_28 c3_29 c3_30 ∧ RegR Cx 3 c3_29 o3_29 ∧ SeqR Cx 3 c3_30 c3_31 c3_32 ∧ RegR Cx 3 c3_31 o3_31 := ⟨run_seq, run_region, run_ret, run_skip, run_seq, run_region, run_seq, run_region⟩
theorem r3_4 : RetR Cx 3 c3_32 := run_ret
theorem body3 : bodyOf Cx 3 = some c3_0 := by kernel_rfl
theorem res3 : resOf Cx 3 = some [.tmp 6] := by kernel_rfl
abbrev o4_1 : List AO := [oA 8 (.assign (.const (.bool false))) 4]
def c4_1 : AC := .region o4_1 []
abbrev o4_4 : List AO := [oA 17 (cF 5 #[] #[]) 4,
  oA 18 (.unOp .not 4 (tm 17)) 4,
  oA 19 (.move (tm 18)) 4,
  oG 20 (.move (tm 0)) 22 19 false,
  oG 21 (cF 6 #[(tm 20)] #[22]) 3 19 false,
  oG 22 (.binOp .eql 3 (tm 21) (ci 0) 3) 4 19 false,
  oA 23 (.pick (tm 19) (.const (.bool true)) (tm 22)) 4,
  oA 24 (.move (tm 23)) 4,
  oG 25 (.move (tm 1)) 22 24 false,
  oG 26 (cF 6 #[(tm 25)] #[22]) 3 24 false,
  oG 27 (.binOp .eql 3 (tm 26) (ci 0) 3) 4 24 false,
  oA 28 (.pick (tm 24) (.const (.bool true)) (tm 27)) 4,
  oA 29 (.move (tm 28)) 4,
  oG 30 (.move (tm 2)) 22 29 false,
  oG 31 (cF 6 #[(tm 30)] #[22]) 3 29 false,
  oG 32 (.binOp .eql 3 (tm 31) (ci 0) 3) 4 29 false,
  oA 33 (.pick (tm 29) (.const (.bool true)) (tm 32)) 4]
def c4_4 : AC := .region o4_4 []
abbrev o4_7 : List AO := [oA 34 (cF 5 #[] #[]) 4,
  oA 8 (.assign (tm 34)) 4]
def c4_7 : AC := .region o4_7 []
def c4_8 : AC := .ret
def c4_6 : AC := .seq c4_7 c4_8
def c4_9 : AC := .skip
def c4_5 : AC := .cond (tm 33) c4_6 c4_9
def c4_3 : AC := .seq c4_4 c4_5
abbrev o4_11 : List AO := [oA 9 (.assign (.const (.slice none 0 0))) 22]
def c4_11 : AC := .region o4_11 []
abbrev o4_13 : List AO := [oA 35 (.move (tm 9)) 22,
  oA 36 (.move (tm 0)) 22,
  oA 37 (cB .append #[(tm 35), (tm 36)] #[22, 22]) 22,
  oA 38 (.move (tm 1)) 22,
  oA 39 (cB .append #[(tm 37), (tm 38)] #[22, 22]) 22,
  oA 40 (.move (tm 2)) 22,
  oA 41 (cB .append #[(tm 39), (tm 40)] #[22, 22]) 22,
  oA 9 (.assign (tm 41)) 22]
def c4_13 : AC := .region o4_13 []
abbrev o4_15 : List AO := [oA 42 (.move (tm 0)) 22,
  oA 43 (.move (tm 0)) 22,
  oA 44 (cF 12 #[(tm 43)] #[22]) 22,
  oA 45 (cF 11 #[(tm 42), (tm 44)] #[22, 22]) 4,
  oA 46 (.move (tm 45)) 4,
  oG 47 (.move (tm 1)) 22 46 true,
  oG 48 (.move (tm 1)) 22 46 true,
  oG 49 (cF 12 #[(tm 48)] #[22]) 22 46 true,
  oG 50 (cF 11 #[(tm 47), (tm 49)] #[22, 22]) 4 46 true,
  oA 51 (.pick (tm 46) (tm 50) (.const (.bool false))) 4,
  oA 52 (.move (tm 51)) 4,
  oG 53 (.move (tm 2)) 22 52 true,
  oG 54 (.move (tm 2)) 22 52 true,
  oG 55 (cF 12 #[(tm 54)] #[22]) 22 52 true,
  oG 56 (cF 11 #[(tm 53), (tm 55)] #[22, 22]) 4 52 true,
  oA 57 (.pick (tm 52) (tm 56) (.const (.bool false))) 4,
  oA 10 (.assign (tm 57)) 4]
def c4_15 : AC := .region o4_15 []
abbrev o4_17 : List AO := [oA 59 (.move (tm 0)) 22,
  oA 60 (.move (tm 1)) 22,
  oA 61 (.move (tm 2)) 22,
  oA 62 (.buildSlice 48 3 #[(0, (tm 59)), (1, (tm 60)), (2, (tm 61))]) 48,
  oA 63 (cF 13 #[(tm 62)] #[48]) 28,
  oA 58 (.move (tm 63)) 28,
  oA 64 (.extract (tm 58) 0) 22,
  oA 65 (.extract (tm 58) 1) 27,
  oA 11 (.assign (tm 64)) 22,
  oA 12 (.assign (tm 65)) 27]
def c4_17 : AC := .region o4_17 []
abbrev o4_20 : List AO := [oA 66 (.move (tm 10)) 4,
  oA 67 (.unOp .not 4 (tm 66)) 4]
def c4_20 : AC := .region o4_20 []
abbrev o4_23 : List AO := [oA 68 (.move (tm 12)) 27,
  oA 69 (.binOp .neq 27 (tm 68) (ci 17) 27) 4,
  oA 70 (.move (tm 69)) 4,
  oG 71 (.move (tm 11)) 22 70 false,
  oG 72 (cB .len #[(tm 71)] #[22]) 3 70 false,
  oG 73 (.binOp .neq 3 (tm 72) (ci 0) 3) 4 70 false,
  oA 74 (.pick (tm 70) (.const (.bool true)) (tm 73)) 4]
def c4_23 : AC := .region o4_23 []
abbrev o4_26 : List AO := [oA 8 (.assign (.const (.bool false))) 4]
def c4_26 : AC := .region o4_26 []
def c4_27 : AC := .ret
def c4_25 : AC := .seq c4_26 c4_27
def c4_28 : AC := .skip
def c4_24 : AC := .cond (tm 74) c4_25 c4_28
def c4_22 : AC := .seq c4_23 c4_24
abbrev o4_30 : List AO := [oA 75 (.move (tm 12)) 27,
  oA 76 (.binOp .neq 27 (tm 75) (ci 0) 27) 4,
  oA 77 (.move (tm 76)) 4,
  oG 78 (.move (tm 11)) 22 77 false,
  oG 79 (.move (tm 9)) 22 77 false,
  oG 80 (cF 12 #[(tm 79)] #[22]) 22 77 false,
  oG 81 (cF 11 #[(tm 78), (tm 80)] #[22, 22]) 4 77 false,
  oG 82 (.unOp .not 4 (tm 81)) 4 77 false,
  oA 83 (.pick (tm 77) (.const (.bool true)) (tm 82)) 4]
def c4_30 : AC := .region o4_30 []
abbrev o4_33 : List AO := [oA 8 (.assign (.const (.bool false))) 4]
def c4_33 : AC := .region o4_33 []
def c4_34 : AC := .ret
def c4_32 : AC := .seq c4_33 c4_34
def c4_35 : AC := .skip
def c4_31 : AC := .cond (tm 83) c4_32 c4_35
def c4_29 : AC := .seq c4_30 c4_31
def c4_21 : AC := .cond (tm 67) c4_22 c4_29
def c4_19 : AC := .seq c4_20 c4_21
abbrev o4_37 : List AO := [oA 85 (.move (tm 0)) 22,
  oA 86 (.move (tm 3)) 9,
  oA 87 (cF 8 #[(tm 85), (tm 86)] #[22, 9]) 28,
  oA 84 (.move (tm 87)) 28,
  oA 88 (.extract (tm 84) 0) 22,
  oA 89 (.extract (tm 84) 1) 27,
  oA 13 (.assign (tm 88)) 22,
  oA 14 (.assign (tm 89)) 27]
def c4_37 : AC := .region o4_37 []
abbrev o4_40 : List AO := [oA 90 (.move (tm 0)) 22,
  oA 91 (.move (tm 0)) 22,
  oA 92 (cF 12 #[(tm 91)] #[22]) 22,
  oA 93 (cF 11 #[(tm 90), (tm 92)] #[22, 22]) 4,
  oA 94 (.unOp .not 4 (tm 93)) 4]
def c4_40 : AC := .region o4_40 []
abbrev o4_43 : List AO := [oA 95 (.move (tm 14)) 27,
  oA 96 (.binOp .eql 27 (tm 95) (ci 17) 27) 4,
  oA 97 (.move (tm 96)) 4,
  oG 98 (.move (tm 13)) 22 97 true,
  oG 99 (cB .len #[(tm 98)] #[22]) 3 97 true,
  oG 100 (.binOp .eql 3 (tm 99) (ci 0) 3) 4 97 true,
  oA 101 (.pick (tm 97) (tm 100) (.const (.bool false))) 4,
  oA 8 (.assign (tm 101)) 4]
def c4_43 : AC := .region o4_43 []
def c4_44 : AC := .ret
def c4_42 : AC := .seq c4_43 c4_44
def c4_45 : AC := .skip
def c4_41 : AC := .cond (tm 94) c4_42 c4_45
def c4_39 : AC := .seq c4_40 c4_41
abbrev o4_47 : List AO := [oA 103 (.move (tm 0)) 22,
  oA 104 (.move (tm 3)) 9,
  oA 105 (cF 14 #[(tm 103), (tm 104)] #[22, 9]) 35,
  oA 102 (.move (tm 105)) 35,
  oA 106 (.extract (tm 102) 0) 22,
  oA 107 (.extract (tm 102) 1) 3,
  oA 15 (.assign (tm 106)) 22,
  oA 16 (.assign (tm 107)) 3]
def c4_47 : AC := .region o4_47 []
abbrev o4_49 : List AO := [oA 108 (.move (tm 14)) 27,
  oA 109 (.move (tm 16)) 3,
  oA 110 (.binOp .eql 3 (tm 108) (tm 109) 3) 4,
  oA 111 (.move (tm 110)) 4,
  oG 112 (.move (tm 13)) 22 111 true,
  oG 113 (.move (tm 15)) 22 111 true,
  oG 114 (cF 11 #[(tm 112), (tm 113)] #[22, 22]) 4 111 true,
  oA 115 (.pick (tm 111) (tm 114) (.const (.bool false))) 4,
  oA 8 (.assign (tm 115)) 4]
def c4_49 : AC := .region o4_49 []
def c4_50 : AC := .ret
def c4_48 : AC := .seq c4_49 c4_50
def c4_46 : AC := .seq c4_47 c4_48
def c4_38 : AC := .seq c4_39 c4_46
def c4_36 : AC := .seq c4_37 c4_38
def c4_18 : AC := .seq c4_19 c4_36
def c4_16 : AC := .seq c4_17 c4_18
def c4_14 : AC := .seq c4_15 c4_16
def c4_12 : AC := .seq c4_13 c4_14
def c4_10 : AC := .seq c4_11 c4_12
def c4_2 : AC := .seq c4_3 c4_10
def c4_0 : AC := .seq c4_1 c4_2
theorem r4_0 : SeqR Cx 4 c4_0 c4_1 c4_2 ∧ RegR Cx 4 c4_1 o4_1 ∧ SeqR Cx 4 c4_2 c4_3 c4_10 ∧ SeqR Cx 4 c4_3 c4_4 c4_5 ∧ RegR Cx 4 c4_4 o4_4 ∧ CondR Cx 4 c4_5 (tm 33) c4_6 c4_9 ∧ SeqR Cx 4 c4_6 c4_7 c4_8 ∧ RegR Cx 4 c4_7 o4_7 := ⟨run_seq, run_region, run_seq, run_seq, run_region, run_condC, run_seq, run_region⟩
theorem r4_1 : RetR Cx 4 c4_8 ∧ SkipR Cx 4 c4_9 ∧ SeqR Cx 4 c4_10 c4_11 c4_12 ∧ RegR Cx 4 c4_11 o4_11 ∧ SeqR Cx 4 c4_12 c4_13 c4_14 ∧ RegR Cx 4 c4_13 o4_13 ∧ SeqR Cx 4 c4_14 c4_15 c4_16 ∧ RegR Cx 4 c4_15 o4_15 := ⟨run_ret, run_skip, run_seq, run_region, run_seq, run_region, run_seq, run_region⟩
theorem r4_2 : SeqR Cx 4 c4_16 c4_17 c4_18 ∧ RegR Cx 4 c4_17 o4_17 ∧ SeqR Cx 4 c4_18 c4_19 c4_36 ∧ SeqR Cx 4 c4_19 c4_20 c4_21 ∧ RegR Cx 4 c4_20 o4_20 ∧ CondR Cx 4 c4_21 (tm 67) c4_22 c4_29 ∧ SeqR Cx 4 c4_22 c4_23 c4_24 ∧ RegR Cx 4 c4_23 o4_23 := ⟨run_seq, run_region, run_seq, run_seq, run_region, run_condC, run_seq, run_region⟩
theorem r4_3 : CondR Cx 4 c4_24 (tm 74) c4_25 c4_28 ∧ SeqR Cx 4 c4_25 c4_26 c4_27 ∧ RegR Cx 4 c4_26 o4_26 ∧ RetR Cx 4 c4_27 ∧ SkipR Cx 4 c4_28 ∧ SeqR Cx 4 c4_29 c4_30 c4_31 ∧ RegR Cx 4 c4_30 o4_30 ∧ CondR Cx 4 c4_31 (tm 83) c4_32 c4_35 := ⟨run_condC, run_seq, run_region, run_ret, run_skip, run_seq, run_region, run_condC⟩
theorem r4_4 : SeqR Cx 4 c4_32 c4_33 c4_34 ∧ RegR Cx 4 c4_33 o4_33 ∧ RetR Cx 4 c4_34 ∧ SkipR Cx 4 c4_35 ∧ SeqR Cx 4 c4_36 c4_37 c4_38 ∧ RegR Cx 4 c4_37 o4_37 ∧ SeqR Cx 4 c4_38 c4_39 c4_46 ∧ SeqR Cx 4 c4_39 c4_40 c4_41 := ⟨run_seq, run_region, run_ret, run_skip, run_seq, run_region, run_seq, run_seq⟩
theorem r4_5 : RegR Cx 4 c4_40 o4_40 ∧ CondR Cx 4 c4_41 (tm 94) c4_42 c4_45 ∧ SeqR Cx 4 c4_42 c4_43 c4_44 ∧ RegR Cx 4 c4_43 o4_43 ∧ RetR Cx 4 c4_44 ∧ SkipR Cx 4 c4_45 ∧ SeqR Cx 4 c4_46 c4_47 c4_48 ∧ RegR Cx 4 c4_47 o4_47 := ⟨run_region, run_condC, run_seq, run_region, run_ret, run_skip, run_seq, run_region⟩
theorem r4_6 : SeqR Cx 4 c4_48 c4_49 c4_50 ∧ RegR Cx 4 c4_49 o4_49 ∧ RetR Cx 4 c4_50 := ⟨run_seq, run_region, run_ret⟩
abbrev o5_1 : List AO := [oA 0 (.assign (.const (.bool false))) 4]
def c5_1 : AC := .region o5_1 []
abbrev o5_3 : List AO := [oA 5 (cF 15 #[(ci 2)] #[3]) 39,
  oA 4 (.move (tm 5)) 39,
  oA 6 (.extract (tm 4) 0) 38,
  oA 7 (.extract (tm 4) 1) 27,
  oA 1 (.assign (tm 6)) 38,
  oA 2 (.assign (tm 7)) 27]
def c5_3 : AC := .region o5_3 []
abbrev o5_5 : List AO := [oA 8 (.move (tm 1)) 38,
  oA 9 (.build 47 #[(0, (.const (.string ⟨#[98]⟩)))]) 47,
  oA 10 (cF 16 #[(tm 8), (tm 9)] #[38, 47]) 27]
def c5_5 : AC := .region o5_5 []
abbrev o5_7 : List AO := [oA 11 (.move (tm 1)) 38,
  oA 12 (.build 47 #[(0, (.const (.string ⟨#[97]⟩)))]) 47,
  oA 13 (cF 16 #[(tm 11), (tm 12)] #[38, 47]) 27]
def c5_7 : AC := .region o5_7 []
abbrev o5_9 : List AO := [oA 14 (.move (tm 1)) 38,
  oA 15 (.build 47 #[(0, (.const (.string ⟨#[99]⟩)))]) 47,
  oA 16 (cF 16 #[(tm 14), (tm 15)] #[38, 47]) 27]
def c5_9 : AC := .region o5_9 []
abbrev o5_11 : List AO := [oA 17 (.move (tm 1)) 38,
  oA 18 (cF 17 #[(tm 17)] #[38]) 48,
  oA 3 (.assign (tm 18)) 48]
def c5_11 : AC := .region o5_11 []
abbrev o5_13 : List AO := [oA 19 (.move (tm 2)) 27,
  oA 20 (.binOp .eql 27 (tm 19) (ci 0) 27) 4,
  oA 21 (.move (tm 20)) 4,
  oG 22 (.move (tm 3)) 48 21 true,
  oG 23 (cB .len #[(tm 22)] #[48]) 3 21 true,
  oG 24 (.binOp .eql 3 (tm 23) (ci 2) 3) 4 21 true,
  oA 25 (.pick (tm 21) (tm 24) (.const (.bool false))) 4,
  oA 26 (.move (tm 25)) 4,
  oG 27 (.move (tm 3)) 48 26 true,
  oG 28 (.indexAddr 48 (tm 27) (ci 0)) 0 26 true,
  oG 29 (.load 22 (tm 28)) 22 26 true,
  oG 30 (cB .len #[(tm 29)] #[22]) 3 26 true,
  oG 31 (.binOp .eql 3 (tm 30) (ci 2) 3) 4 26 true,
  oA 32 (.pick (tm 26) (tm 31) (.const (.bool false))) 4,
  oA 33 (.move (tm 32)) 4,
  oG 34 (.move (tm 3)) 48 33 true,
  oG 35 (.indexAddr 48 (tm 34) (ci 0)) 0 33 true,
  oG 36 (.load 22 (tm 35)) 22 33 true,
  oG 37 (.indexAddr 22 (tm 36) (ci 0)) 0 33 true,
  oG 38 (.fieldAddr 47 (tm 37) 0) 0 33 true,
  oG 39 (.load 9 (tm 38)) 9 33 true,
  oG 40 (.binOp .eql 9 (tm 39) (.const (.string ⟨#[97]⟩)) 9) 4 33 true,
  oA 41 (.pick (tm 33) (tm 40) (.const (.bool false))) 4,
  oA 42 (.move (tm 41)) 4,
  oG 43 (.move (tm 3)) 48 42 true,
  oG 44 (.indexAddr 48 (tm 43) (ci 1)) 0 42 true,
  oG 45 (.load 22 (tm 44)) 22 42 true,
  oG 46 (.indexAddr 22 (tm 45) (ci 0)) 0 42 true,
  oG 47 (.fieldAddr 47 (tm 46) 0) 0 42 true,
  oG 48 (.load 9 (tm 47)) 9 42 true,
  oG 49 (.binOp .eql 9 (tm 48) (.const (.string ⟨#[99]⟩)) 9) 4 42 true,
  oA 50 (.pick (tm 42) (tm 49) (.const (.bool false))) 4,
  oA 0 (.assign (tm 50)) 4]
def c5_13 : AC := .region o5_13 []
def c5_14 : AC := .ret
def c5_12 : AC := .seq c5_13 c5_14
def c5_10 : AC := .seq c5_11 c5_12
def c5_8 : AC := .seq c5_9 c5_10
def c5_6 : AC := .seq c5_7 c5_8
def c5_4 : AC := .seq c5_5 c5_6
def c5_2 : AC := .seq c5_3 c5_4
def c5_0 : AC := .seq c5_1 c5_2
theorem r5_0 : SeqR Cx 5 c5_0 c5_1 c5_2 ∧ RegR Cx 5 c5_1 o5_1 ∧ SeqR Cx 5 c5_2 c5_3 c5_4 ∧ RegR Cx 5 c5_3 o5_3 ∧ SeqR Cx 5 c5_4 c5_5 c5_6 ∧ RegR Cx 5 c5_5 o5_5 ∧ SeqR Cx 5 c5_6 c5_7 c5_8 ∧ RegR Cx 5 c5_7 o5_7 := ⟨run_seq, run_region, run_seq, run_region, run_seq, run_region, run_seq, run_region⟩
theorem r5_1 : SeqR Cx 5 c5_8 c5_9 c5_10 ∧ RegR Cx 5 c5_9 o5_9 ∧ SeqR Cx 5 c5_10 c5_11 c5_12 ∧ RegR Cx 5 c5_11 o5_11 ∧ SeqR Cx 5 c5_12 c5_13 c5_14 ∧ RegR Cx 5 c5_13 o5_13 ∧ RetR Cx 5 c5_14 := ⟨run_seq, run_region, run_seq, run_region, run_seq, run_region, run_ret⟩
theorem pure5 : Cx.pure 5 = true := by kernel_rfl
abbrev o6_1 : List AO := [oA 2 (.assign (ci 0)) 3]
def c6_1 : AC := .region o6_1 []
abbrev o6_3 : List AO := [oA 3 (.assign (ci 0)) 3]
def c6_3 : AC := .region o6_3 []
abbrev o6_6 : List AO := [oA 4 (.assign (ci 0)) 3]
def c6_6 : AC := .region o6_6 []
abbrev o6_11 : List AO := [oA 5 (.move (tm 4)) 3,
  oA 6 (.move (tm 0)) 22,
  oA 7 (cB .len #[(tm 6)] #[22]) 3,
  oA 8 (.binOp .lss 3 (tm 5) (tm 7) 3) 4,
  oA 9 (.move (tm 8)) 4,
  oG 10 (.move (tm 4)) 3 9 true,
  oG 11 (.binOp .leq 3 (tm 10) (ci 100) 3) 4 9 true,
  oA 12 (.pick (tm 9) (tm 11) (.const (.bool false))) 4]
def c6_11 : AC := .region o6_11 []
def c6_13 : AC := .skip
def c6_14 : AC := .exit 0
def c6_12 : AC := .cond (tm 12) c6_13 c6_14
def c6_10 : AC := .seq c6_11 c6_12
abbrev o6_17 : List AO := [oA 15 (.move (tm 3)) 3,
  oA 16 (.move (tm 0)) 22,
  oA 17 (.move (tm 4)) 3,
  oA 18 (.indexAddr 22 (tm 16) (tm 17)) 0,
  oA 19 (.fieldAddr 47 (tm 18) 0) 0,
  oA 20 (.load 9 (tm 19)) 9,
  oA 21 (cB .len #[(tm 20)] #[9]) 3,
  oA 22 (cB .min #[(tm 21), (ci 100000)] #[3, 3]) 3,
  oA 23 (.binOp .add 3 (tm 15) (tm 22) 3) 3,
  oA 24 (.move (tm 0)) 22,
  oA 25 (.move (tm 4)) 3,
  oA 26 (.indexAddr 22 (tm 24) (tm 25)) 0,
  oA 27 (.fieldAddr 47 (tm 26) 1) 0,
  oA 28 (.fieldAddr 45 (tm 27) 2) 0,
  oA 29 (.load 9 (tm 28)) 9,
  oA 30 (cB .len #[(tm 29)] #[9]) 3,
  oA 31 (cB .min #[(tm 30), (ci 100000)] #[3, 3]) 3,
  oA 32 (.binOp .add 3 (tm 23) (tm 31) 3) 3,
  oA 3 (.assign (tm 32)) 3]
def c6_17 : AC := .region o6_17 []
def c6_16 : AC := .block 1 c6_17
abbrev o6_18 : List AO := [oA 13 (.move (tm 4)) 3,
  oA 14 (.binOp .add 3 (tm 13) (ci 1) 3) 3,
  oA 4 (.assign (tm 14)) 3]
def c6_18 : AC := .region o6_18 []
def c6_15 : AC := .seq c6_16 c6_18
def c6_9 : AC := .seq c6_10 c6_15
def c6_8 : AC := .loop c6_9
def c6_7 : AC := .block 0 c6_8
def c6_5 : AC := .seq c6_6 c6_7
abbrev o6_21 : List AO := [oA 33 (.move (tm 0)) 22,
  oA 34 (cB .len #[(tm 33)] #[22]) 3,
  oA 35 (.binOp .gtr 3 (tm 34) (ci 100) 3) 4,
  oA 36 (.move (tm 35)) 4,
  oG 37 (.move (tm 3)) 3 36 false,
  oG 38 (.binOp .gtr 3 (tm 37) (ci 10000) 3) 4 36 false,
  oA 39 (.pick (tm 36) (.const (.bool true)) (tm 38)) 4]
def c6_21 : AC := .region o6_21 []
abbrev o6_24 : List AO := [oA 2 (.assign (ci 0)) 3]
def c6_24 : AC := .region o6_24 []
def c6_25 : AC := .ret
def c6_23 : AC := .seq c6_24 c6_25
def c6_26 : AC := .skip
def c6_22 : AC := .cond (tm 39) c6_23 c6_26
def c6_20 : AC := .seq c6_21 c6_22
abbrev o6_28 : List AO := [oA 2 (.assign (ci 1)) 3]
def c6_28 : AC := .region o6_28 []
def c6_29 : AC := .ret
def c6_27 : AC := .seq c6_28 c6_29
def c6_19 : AC := .seq c6_20 c6_27
def c6_4 : AC := .seq c6_5 c6_19
def c6_2 : AC := .seq c6_3 c6_4
def c6_0 : AC := .seq c6_1 c6_2
theorem r6_0 : SeqR Cx 6 c6_0 c6_1 c6_2 ∧ RegR Cx 6 c6_1 o6_1 ∧ SeqR Cx 6 c6_2 c6_3 c6_4 ∧ RegR Cx 6 c6_3 o6_3 ∧ SeqR Cx 6 c6_4 c6_5 c6_19 ∧ SeqR Cx 6 c6_5 c6_6 c6_7 ∧ RegR Cx 6 c6_6 o6_6 ∧ BlkR Cx 6 c6_7 0 c6_8 := ⟨run_seq, run_region, run_seq, run_region, run_seq, run_seq, run_region, run_block⟩
theorem r6_1 : LoopR Cx 6 c6_8 c6_9 ∧ SeqR Cx 6 c6_9 c6_10 c6_15 ∧ SeqR Cx 6 c6_10 c6_11 c6_12 ∧ RegR Cx 6 c6_11 o6_11 ∧ CondR Cx 6 c6_12 (tm 12) c6_13 c6_14 ∧ SkipR Cx 6 c6_13 ∧ ExitR Cx 6 c6_14 0 ∧ SeqR Cx 6 c6_15 c6_16 c6_18 := ⟨run_loop', run_seq, run_seq, run_region, run_condC, run_skip, run_exit_start, run_seq⟩
theorem r6_2 : BlkR Cx 6 c6_16 1 c6_17 ∧ RegR Cx 6 c6_17 o6_17 ∧ RegR Cx 6 c6_18 o6_18 ∧ SeqR Cx 6 c6_19 c6_20 c6_27 ∧ SeqR Cx 6 c6_20 c6_21 c6_22 ∧ RegR Cx 6 c6_21 o6_21 ∧ CondR Cx 6 c6_22 (tm 39) c6_23 c6_26 ∧ SeqR Cx 6 c6_23 c6_24 c6_25 := ⟨run_block, run_region, run_region, run_seq, run_seq, run_region, run_condC, run_seq⟩
theorem r6_3 : RegR Cx 6 c6_24 o6_24 ∧ RetR Cx 6 c6_25 ∧ SkipR Cx 6 c6_26 ∧ SeqR Cx 6 c6_27 c6_28 c6_29 ∧ RegR Cx 6 c6_28 o6_28 ∧ RetR Cx 6 c6_29 := ⟨run_region, run_ret, run_skip, run_seq, run_region, run_ret⟩
theorem body6 : bodyOf Cx 6 = some c6_0 := by kernel_rfl
theorem res6 : resOf Cx 6 = some [.tmp 2] := by kernel_rfl
theorem pure6 : Cx.pure 6 = true := by kernel_rfl
abbrev o7_1 : List AO := [oA 2 (.assign (.const (.bool false))) 4]
def c7_1 : AC := .region o7_1 []
abbrev o7_3 : List AO := [oA 3 (.move (tm 0)) 22,
  oA 4 (cF 18 #[(tm 3), (.func 19)] #[22, 52]) 4,
  oA 5 (.unOp .not 4 (tm 4)) 4,
  oA 2 (.assign (tm 5)) 4]
def c7_3 : AC := .region o7_3 []
def c7_4 : AC := .ret
def c7_2 : AC := .seq c7_3 c7_4
def c7_0 : AC := .seq c7_1 c7_2
theorem r7_0 : SeqR Cx 7 c7_0 c7_1 c7_2 ∧ RegR Cx 7 c7_1 o7_1 ∧ SeqR Cx 7 c7_2 c7_3 c7_4 ∧ RegR Cx 7 c7_3 o7_3 ∧ RetR Cx 7 c7_4 := ⟨run_seq, run_region, run_seq, run_region, run_ret⟩
theorem body7 : bodyOf Cx 7 = some c7_0 := by kernel_rfl
theorem res7 : resOf Cx 7 = some [.tmp 2] := by kernel_rfl
theorem pure7 : Cx.pure 7 = true := by kernel_rfl
abbrev o8_1 : List AO := [oA 3 (.box 9 (tm 1)) 0,
  oA 4 (.alloc 22) 0,
  oA 5 (.alloc 27) 0]
def c8_1 : AC := .region o8_1 []
abbrev o8_4 : List AO := [oA 14 (.move (tm 0)) 22,
  oA 15 (cF 21 #[(tm 14)] #[22]) 4,
  oA 16 (.unOp .not 4 (tm 15)) 4]
def c8_4 : AC := .region o8_4 []
abbrev o8_7 : List AO := [oN (.store 22 (tm 4) (.const (.slice none 0 0))) 0,
  oN (.store 27 (tm 5) (ci 17)) 0]
def c8_7 : AC := .region o8_7 []
def c8_8 : AC := .ret
def c8_6 : AC := .seq c8_7 c8_8
def c8_9 : AC := .skip
def c8_5 : AC := .cond (tm 16) c8_6 c8_9
def c8_3 : AC := .seq c8_4 c8_5
abbrev o8_11 : List AO := [oA 6 (.alloc 22) 0]
def c8_11 : AC := .region o8_11 []
abbrev o8_14 : List AO := [oA 17 (.move (tm 0)) 22,
  oA 18 (cF 22 #[(tm 17)] #[22]) 54]
def c8_14 : AC := .region o8_14 []
abbrev o8_18 : List AO := [oA 7 (.assign (tm 19)) 9]
def c8_18 : AC := .region o8_18 []
abbrev o8_19 : List AO := [oA 8 (.assign (tm 20)) 56]
def c8_19 : AC := .region o8_19 []
def c8_17 : AC := .seq c8_18 c8_19
abbrev o8_22 : List AO := [oA 21 (.move (tm 8)) 56,
  oA 22 (.indexAddr 56 (tm 21) (ci 0)) 0,
  oA 23 (.load 45 (tm 22)) 45,
  oA 9 (.alloc 45) 0,
  oN (.store 45 (tm 9) (tm 23)) 0]
def c8_22 : AC := .region o8_22 []
abbrev o8_25 : List AO := [oA 24 (.move (tm 8)) 56,
  oA 25 (.slice 56 (tm 24) (some (ci 1)) none none) 56,
  oA 26 (cB .len #[(tm 25)] #[56]) 3,
  oA 27 (.move (ci 0)) 3]
def c8_25 : AC := .region o8_25 []
abbrev o8_29 : List AO := [oA 28 (.binOp .lss 3 (tm 27) (tm 26) 3) 0]
def c8_29 : AC := .region o8_29 []
def c8_32 : AC := .skip
def c8_33 : AC := .exit 2
def c8_31 : AC := .cond (tm 28) c8_32 c8_33
abbrev o8_37 : List AO := [oA 29 (.indexAddr 56 (tm 25) (tm 27)) 0,
  oA 30 (.load 45 (tm 29)) 45,
  oA 11 (.alloc 45) 0,
  oN (.store 45 (tm 11) (tm 30)) 0]
def c8_37 : AC := .region o8_37 []
abbrev o8_39 : List AO := [oA 32 (.load 9 (tm 3)) 9,
  oA 33 (.load 45 (tm 9)) 45,
  oA 34 (.load 45 (tm 11)) 45,
  oA 35 (cF 23 #[(tm 32), (tm 33), (tm 34)] #[9, 45, 45]) 57,
  oA 31 (.move (tm 35)) 57,
  oA 36 (.extract (tm 31) 0) 45,
  oA 37 (.extract (tm 31) 1) 27,
  oA 12 (.alloc 45) 0,
  oN (.store 45 (tm 12) (tm 36)) 0,
  oA 13 (.assign (tm 37)) 27]
def c8_39 : AC := .region o8_39 []
abbrev o8_42 : List AO := [oA 38 (.move (tm 13)) 27,
  oA 39 (.binOp .neq 27 (tm 38) (ci 0) 27) 4]
def c8_42 : AC := .region o8_42 []
abbrev o8_45 : List AO := [oA 40 (.move (tm 13)) 27,
  oN (.store 22 (tm 4) (.const (.slice none 0 0))) 0,
  oN (.store 27 (tm 5) (tm 40)) 0]
def c8_45 : AC := .region o8_45 []
def c8_46 : AC := .ret
def c8_44 : AC := .seq c8_45 c8_46
def c8_47 : AC := .skip
def c8_43 : AC := .cond (tm 39) c8_44 c8_47
def c8_41 : AC := .seq c8_42 c8_43
abbrev o8_48 : List AO := [oA 41 (.load 45 (tm 12)) 45,
  oN (.store 45 (tm 9) (tm 41)) 0]
def c8_48 : AC := .region o8_48 []
def c8_40 : AC := .seq c8_41 c8_48
def c8_38 : AC := .seq c8_39 c8_40
def c8_36 : AC := .seq c8_37 c8_38
def c8_35 : AC := .block 3 c8_36
abbrev o8_49 : List AO := [oA 42 (.binOp .add 3 (tm 27) (ci 1) 3) 3,
  oA 27 (.move (tm 42)) 3]
def c8_49 : AC := .region o8_49 []
def c8_34 : AC := .seq c8_35 c8_49
def c8_30 : AC := .seq c8_31 c8_34
def c8_28 : AC := .seq c8_29 c8_30
def c8_27 : AC := .loop c8_28
def c8_26 : AC := .block 2 c8_27
def c8_24 : AC := .seq c8_25 c8_26
abbrev o8_50 : List AO := [oA 43 (.load 22 (tm 6)) 22,
  oA 44 (.move (tm 7)) 9,
  oA 45 (.load 45 (tm 9)) 45,
  oA 46 (.build 47 #[(0, (tm 44)), (1, (tm 45))]) 47,
  oA 47 (.buildSlice 22 1 #[(0, (tm 46))]) 22,
  oA 48 (cB .append #[(tm 43), (tm 47)] #[22, 22]) 22,
  oN (.store 22 (tm 6) (tm 48)) 0]
def c8_50 : AC := .region o8_50 []
def c8_23 : AC := .seq c8_24 c8_50
def c8_21 : AC := .seq c8_22 c8_23
def c8_20 : AC := .block 1 c8_21
def c8_16 : AC := .rangeFunc (tm 18) [19, 20] c8_17 c8_20
def c8_15 : AC := .block 0 c8_16
def c8_13 : AC := .seq c8_14 c8_15
abbrev o8_52 : List AO := [oA 49 (.load 22 (tm 6)) 22,
  oN (.store 22 (tm 4) (tm 49)) 0,
  oN (.store 27 (tm 5) (ci 0)) 0]
def c8_52 : AC := .region o8_52 []
def c8_53 : AC := .ret
def c8_51 : AC := .seq c8_52 c8_53
def c8_12 : AC := .seq c8_13 c8_51
def c8_10 : AC := .seq c8_11 c8_12
def c8_2 : AC := .seq c8_3 c8_10
def c8_0 : AC := .seq c8_1 c8_2
theorem r8_0 : SeqR Cx 8 c8_0 c8_1 c8_2 ∧ RegR Cx 8 c8_1 o8_1 ∧ SeqR Cx 8 c8_2 c8_3 c8_10 ∧ SeqR Cx 8 c8_3 c8_4 c8_5 ∧ RegR Cx 8 c8_4 o8_4 ∧ CondR Cx 8 c8_5 (tm 16) c8_6 c8_9 ∧ SeqR Cx 8 c8_6 c8_7 c8_8 ∧ RegR Cx 8 c8_7 o8_7 := ⟨run_seq, run_region, run_seq, run_seq, run_region, run_condC, run_seq, run_region⟩
theorem r8_1 : RetR Cx 8 c8_8 ∧ SkipR Cx 8 c8_9 ∧ SeqR Cx 8 c8_10 c8_11 c8_12 ∧ RegR Cx 8 c8_11 o8_11 ∧ SeqR Cx 8 c8_12 c8_13 c8_51 ∧ SeqR Cx 8 c8_13 c8_14 c8_15 ∧ RegR Cx 8 c8_14 o8_14 ∧ BlkR Cx 8 c8_15 0 c8_16 := ⟨run_ret, run_skip, run_seq, run_region, run_seq, run_seq, run_region, run_block⟩
theorem r8_2 : SeqR Cx 8 c8_17 c8_18 c8_19 ∧ RegR Cx 8 c8_18 o8_18 ∧ RegR Cx 8 c8_19 o8_19 ∧ BlkR Cx 8 c8_20 1 c8_21 ∧ SeqR Cx 8 c8_21 c8_22 c8_23 ∧ RegR Cx 8 c8_22 o8_22 ∧ SeqR Cx 8 c8_23 c8_24 c8_50 ∧ SeqR Cx 8 c8_24 c8_25 c8_26 := ⟨run_seq, run_region, run_region, run_block, run_seq, run_region, run_seq, run_seq⟩
theorem r8_3 : RegR Cx 8 c8_25 o8_25 ∧ BlkR Cx 8 c8_26 2 c8_27 ∧ LoopR Cx 8 c8_27 c8_28 ∧ SeqR Cx 8 c8_28 c8_29 c8_30 ∧ RegR Cx 8 c8_29 o8_29 ∧ SeqR Cx 8 c8_30 c8_31 c8_34 ∧ CondR Cx 8 c8_31 (tm 28) c8_32 c8_33 ∧ SkipR Cx 8 c8_32 := ⟨run_region, run_block, run_loop', run_seq, run_region, run_seq, run_condC, run_skip⟩
theorem r8_4 : ExitR Cx 8 c8_33 2 ∧ SeqR Cx 8 c8_34 c8_35 c8_49 ∧ BlkR Cx 8 c8_35 3 c8_36 ∧ SeqR Cx 8 c8_36 c8_37 c8_38 ∧ RegR Cx 8 c8_37 o8_37 ∧ SeqR Cx 8 c8_38 c8_39 c8_40 ∧ RegR Cx 8 c8_39 o8_39 ∧ SeqR Cx 8 c8_40 c8_41 c8_48 := ⟨run_exit_start, run_seq, run_block, run_seq, run_region, run_seq, run_region, run_seq⟩
theorem r8_5 : SeqR Cx 8 c8_41 c8_42 c8_43 ∧ RegR Cx 8 c8_42 o8_42 ∧ CondR Cx 8 c8_43 (tm 39) c8_44 c8_47 ∧ SeqR Cx 8 c8_44 c8_45 c8_46 ∧ RegR Cx 8 c8_45 o8_45 ∧ RetR Cx 8 c8_46 ∧ SkipR Cx 8 c8_47 ∧ RegR Cx 8 c8_48 o8_48 := ⟨run_seq, run_region, run_condC, run_seq, run_region, run_ret, run_skip, run_region⟩
theorem r8_6 : RegR Cx 8 c8_49 o8_49 ∧ RegR Cx 8 c8_50 o8_50 ∧ SeqR Cx 8 c8_51 c8_52 c8_53 ∧ RegR Cx 8 c8_52 o8_52 ∧ RetR Cx 8 c8_53 := ⟨run_region, run_region, run_seq, run_region, run_ret⟩
theorem body8 : bodyOf Cx 8 = some c8_0 := by kernel_rfl
theorem res8 : resOf Cx 8 = some [.cell 4 22, .cell 5 27] := by kernel_rfl
theorem pure8 : Cx.pure 8 = true := by kernel_rfl
abbrev o9_1 : List AO := [oA 2 (.assign (.const (.slice none 0 0))) 22]
def c9_1 : AC := .region o9_1 []
abbrev o9_3 : List AO := [oA 4 (.move (tm 0)) 22,
  oA 5 (cF 24 #[(tm 4)] #[22]) 22,
  oA 3 (.assign (tm 5)) 22]
def c9_3 : AC := .region o9_3 []
abbrev o9_5 : List AO := [oA 6 (.move (tm 3)) 22,
  oA 7 (cF 25 #[(tm 6), (.func 26)] #[22, 60]) 0]
def c9_5 : AC := .region o9_5 []
abbrev o9_7 : List AO := [oA 8 (.move (tm 3)) 22,
  oA 2 (.assign (tm 8)) 22]
def c9_7 : AC := .region o9_7 []
def c9_8 : AC := .ret
def c9_6 : AC := .seq c9_7 c9_8
def c9_4 : AC := .seq c9_5 c9_6
def c9_2 : AC := .seq c9_3 c9_4
def c9_0 : AC := .seq c9_1 c9_2
theorem r9_0 : SeqR Cx 9 c9_0 c9_1 c9_2 ∧ RegR Cx 9 c9_1 o9_1 ∧ SeqR Cx 9 c9_2 c9_3 c9_4 ∧ RegR Cx 9 c9_3 o9_3 ∧ SeqR Cx 9 c9_4 c9_5 c9_6 ∧ RegR Cx 9 c9_5 o9_5 ∧ SeqR Cx 9 c9_6 c9_7 c9_8 ∧ RegR Cx 9 c9_7 o9_7 := ⟨run_seq, run_region, run_seq, run_region, run_seq, run_region, run_seq, run_region⟩
theorem r9_1 : RetR Cx 9 c9_8 := run_ret
theorem body9 : bodyOf Cx 9 = some c9_0 := by kernel_rfl
theorem res9 : resOf Cx 9 = some [.tmp 2] := by kernel_rfl
theorem pure9 : Cx.pure 9 = true := by kernel_rfl
abbrev o10_1 : List AO := [oA 2 (.assign (.const (.slice none 0 0))) 22]
def c10_1 : AC := .region o10_1 []
abbrev o10_3 : List AO := [oA 3 (.move (tm 0)) 48,
  oA 4 (cF 27 #[(tm 3)] #[48]) 22,
  oA 5 (cF 9 #[(tm 4)] #[22]) 22,
  oA 2 (.assign (tm 5)) 22]
def c10_3 : AC := .region o10_3 []
def c10_4 : AC := .ret
def c10_2 : AC := .seq c10_3 c10_4
def c10_0 : AC := .seq c10_1 c10_2
theorem r10_0 : SeqR Cx 10 c10_0 c10_1 c10_2 ∧ RegR Cx 10 c10_1 o10_1 ∧ SeqR Cx 10 c10_2 c10_3 c10_4 ∧ RegR Cx 10 c10_3 o10_3 ∧ RetR Cx 10 c10_4 := ⟨run_seq, run_region, run_seq, run_region, run_ret⟩
theorem body10 : bodyOf Cx 10 = some c10_0 := by kernel_rfl
theorem res10 : resOf Cx 10 = some [.tmp 2] := by kernel_rfl
theorem pure10 : Cx.pure 10 = false := by kernel_rfl
abbrev o11_1 : List AO := [oA 4 (.assign (.const (.bool false))) 4]
def c11_1 : AC := .region o11_1 []
abbrev o11_4 : List AO := [oA 6 (.move (tm 0)) 22,
  oA 7 (cB .len #[(tm 6)] #[22]) 3,
  oA 8 (.move (tm 1)) 22,
  oA 9 (cB .len #[(tm 8)] #[22]) 3,
  oA 10 (.binOp .neq 3 (tm 7) (tm 9) 3) 4]
def c11_4 : AC := .region o11_4 []
abbrev o11_7 : List AO := [oA 4 (.assign (.const (.bool false))) 4]
def c11_7 : AC := .region o11_7 []
def c11_8 : AC := .ret
def c11_6 : AC := .seq c11_7 c11_8
def c11_9 : AC := .skip
def c11_5 : AC := .cond (tm 10) c11_6 c11_9
def c11_3 : AC := .seq c11_4 c11_5
abbrev o11_12 : List AO := [oA 5 (.assign (ci 0)) 3]
def c11_12 : AC := .region o11_12 []
abbrev o11_17 : List AO := [oA 11 (.move (tm 5)) 3,
  oA 12 (.move (tm 0)) 22,
  oA 13 (cB .len #[(tm 12)] #[22]) 3,
  oA 14 (.binOp .lss 3 (tm 11) (tm 13) 3) 4]
def c11_17 : AC := .region o11_17 []
def c11_19 : AC := .skip
def c11_20 : AC := .exit 0
def c11_18 : AC := .cond (tm 14) c11_19 c11_20
def c11_16 : AC := .seq c11_17 c11_18
abbrev o11_24 : List AO := [oA 17 (.move (tm 0)) 22,
  oA 18 (.move (tm 5)) 3,
  oA 19 (.indexAddr 22 (tm 17) (tm 18)) 0,
  oA 20 (.load 47 (tm 19)) 47,
  oA 21 (.move (tm 1)) 22,
  oA 22 (.move (tm 5)) 3,
  oA 23 (.indexAddr 22 (tm 21) (tm 22)) 0,
  oA 24 (.load 47 (tm 23)) 47,
  oA 25 (.binOp .neq 47 (tm 20) (tm 24) 47) 4]
def c11_24 : AC := .region o11_24 []
abbrev o11_27 : List AO := [oA 4 (.assign (.const (.bool false))) 4]
def c11_27 : AC := .region o11_27 []
def c11_28 : AC := .ret
def c11_26 : AC := .seq c11_27 c11_28
def c11_29 : AC := .skip
def c11_25 : AC := .cond (tm 25) c11_26 c11_29
def c11_23 : AC := .seq c11_24 c11_25
def c11_22 : AC := .block 1 c11_23
abbrev o11_30 : List AO := [oA 15 (.move (tm 5)) 3,
  oA 16 (.binOp .add 3 (tm 15) (ci 1) 3) 3,
  oA 5 (.assign (tm 16)) 3]
def c11_30 : AC := .region o11_30 []
def c11_21 : AC := .seq c11_22 c11_30
def c11_15 : AC := .seq c11_16 c11_21
def c11_14 : AC := .loop c11_15
def c11_13 : AC := .block 0 c11_14
def c11_11 : AC := .seq c11_12 c11_13
abbrev o11_32 : List AO := [oA 4 (.assign (.const (.bool true))) 4]
def c11_32 : AC := .region o11_32 []
def c11_33 : AC := .ret
def c11_31 : AC := .seq c11_32 c11_33
def c11_10 : AC := .seq c11_11 c11_31
def c11_2 : AC := .seq c11_3 c11_10
def c11_0 : AC := .seq c11_1 c11_2
theorem r11_0 : SeqR Cx 11 c11_0 c11_1 c11_2 ∧ RegR Cx 11 c11_1 o11_1 ∧ SeqR Cx 11 c11_2 c11_3 c11_10 ∧ SeqR Cx 11 c11_3 c11_4 c11_5 ∧ RegR Cx 11 c11_4 o11_4 ∧ CondR Cx 11 c11_5 (tm 10) c11_6 c11_9 ∧ SeqR Cx 11 c11_6 c11_7 c11_8 ∧ RegR Cx 11 c11_7 o11_7 := ⟨run_seq, run_region, run_seq, run_seq, run_region, run_condC, run_seq, run_region⟩
theorem r11_1 : RetR Cx 11 c11_8 ∧ SkipR Cx 11 c11_9 ∧ SeqR Cx 11 c11_10 c11_11 c11_31 ∧ SeqR Cx 11 c11_11 c11_12 c11_13 ∧ RegR Cx 11 c11_12 o11_12 ∧ BlkR Cx 11 c11_13 0 c11_14 ∧ LoopR Cx 11 c11_14 c11_15 ∧ SeqR Cx 11 c11_15 c11_16 c11_21 := ⟨run_ret, run_skip, run_seq, run_seq, run_region, run_block, run_loop', run_seq⟩
theorem r11_2 : SeqR Cx 11 c11_16 c11_17 c11_18 ∧ RegR Cx 11 c11_17 o11_17 ∧ CondR Cx 11 c11_18 (tm 14) c11_19 c11_20 ∧ SkipR Cx 11 c11_19 ∧ ExitR Cx 11 c11_20 0 ∧ SeqR Cx 11 c11_21 c11_22 c11_30 ∧ BlkR Cx 11 c11_22 1 c11_23 ∧ SeqR Cx 11 c11_23 c11_24 c11_25 := ⟨run_seq, run_region, run_condC, run_skip, run_exit_start, run_seq, run_block, run_seq⟩
theorem r11_3 : RegR Cx 11 c11_24 o11_24 ∧ CondR Cx 11 c11_25 (tm 25) c11_26 c11_29 ∧ SeqR Cx 11 c11_26 c11_27 c11_28 ∧ RegR Cx 11 c11_27 o11_27 ∧ RetR Cx 11 c11_28 ∧ SkipR Cx 11 c11_29 ∧ RegR Cx 11 c11_30 o11_30 ∧ SeqR Cx 11 c11_31 c11_32 c11_33 := ⟨run_region, run_condC, run_seq, run_region, run_ret, run_skip, run_region, run_seq⟩
theorem r11_4 : RegR Cx 11 c11_32 o11_32 ∧ RetR Cx 11 c11_33 := ⟨run_region, run_ret⟩
theorem body11 : bodyOf Cx 11 = some c11_0 := by kernel_rfl
theorem res11 : resOf Cx 11 = some [.tmp 4] := by kernel_rfl
theorem pure11 : Cx.pure 11 = true := by kernel_rfl
abbrev o12_1 : List AO := [oA 2 (.assign (.const (.slice none 0 0))) 22]
def c12_1 : AC := .region o12_1 []
abbrev o12_3 : List AO := [oA 3 (.assign (.const (.slice none 0 0))) 22]
def c12_3 : AC := .region o12_3 []
abbrev o12_6 : List AO := [oA 4 (.assign (ci 0)) 3]
def c12_6 : AC := .region o12_6 []
abbrev o12_11 : List AO := [oA 7 (.move (tm 4)) 3,
  oA 8 (.move (tm 0)) 22,
  oA 9 (cB .len #[(tm 8)] #[22]) 3,
  oA 10 (.binOp .lss 3 (tm 7) (tm 9) 3) 4]
def c12_11 : AC := .region o12_11 []
def c12_13 : AC := .skip
def c12_14 : AC := .exit 0
def c12_12 : AC := .cond (tm 10) c12_13 c12_14
def c12_10 : AC := .seq c12_11 c12_12
abbrev o12_18 : List AO := [oA 13 (.move (tm 3)) 22,
  oA 14 (cB .len #[(tm 13)] #[22]) 3,
  oA 5 (.assign (tm 14)) 3]
def c12_18 : AC := .region o12_18 []
abbrev o12_24 : List AO := [oA 15 (.move (tm 5)) 3,
  oA 16 (.binOp .gtr 3 (tm 15) (ci 0) 3) 4,
  oA 17 (.move (tm 16)) 4,
  oG 18 (.move (tm 3)) 22 17 true,
  oG 19 (.move (tm 5)) 3 17 true,
  oG 20 (.binOp .sub 3 (tm 19) (ci 1) 3) 3 17 true,
  oG 21 (.indexAddr 22 (tm 18) (tm 20)) 0 17 true,
  oG 22 (.fieldAddr 47 (tm 21) 0) 0 17 true,
  oG 23 (.load 9 (tm 22)) 9 17 true,
  oG 24 (.move (tm 0)) 22 17 true,
  oG 25 (.move (tm 4)) 3 17 true,
  oG 26 (.indexAddr 22 (tm 24) (tm 25)) 0 17 true,
  oG 27 (.fieldAddr 47 (tm 26) 0) 0 17 true,
  oG 28 (.load 9 (tm 27)) 9 17 true,
  oG 29 (.binOp .gtr 9 (tm 23) (tm 28) 9) 4 17 true,
  oA 30 (.pick (tm 17) (tm 29) (.const (.bool false))) 4]
def c12_24 : AC := .region o12_24 []
def c12_26 : AC := .skip
def c12_27 : AC := .exit 2
def c12_25 : AC := .cond (tm 30) c12_26 c12_27
def c12_23 : AC := .seq c12_24 c12_25
abbrev o12_29 : List AO := [oA 31 (.move (tm 5)) 3,
  oA 32 (.binOp .sub 3 (tm 31) (ci 1) 3) 3,
  oA 5 (.assign (tm 32)) 3]
def c12_29 : AC := .region o12_29 []
def c12_28 : AC := .block 3 c12_29
def c12_22 : AC := .seq c12_23 c12_28
def c12_21 : AC := .loop c12_22
def c12_20 : AC := .block 2 c12_21
abbrev o12_31 : List AO := [oA 33 (.move (tm 3)) 22,
  oA 34 (.move (tm 0)) 22,
  oA 35 (.move (tm 4)) 3,
  oA 36 (.indexAddr 22 (tm 34) (tm 35)) 0,
  oA 37 (.load 47 (tm 36)) 47,
  oA 38 (.buildSlice 22 1 #[(0, (tm 37))]) 22,
  oA 39 (cB .append #[(tm 33), (tm 38)] #[22, 22]) 22,
  oA 3 (.assign (tm 39)) 22]
def c12_31 : AC := .region o12_31 []
abbrev o12_34 : List AO := [oA 40 (.move (tm 3)) 22,
  oA 41 (cB .len #[(tm 40)] #[22]) 3,
  oA 42 (.binOp .sub 3 (tm 41) (ci 1) 3) 3,
  oA 6 (.assign (tm 42)) 3]
def c12_34 : AC := .region o12_34 []
abbrev o12_39 : List AO := [oA 43 (.move (tm 6)) 3,
  oA 44 (.move (tm 5)) 3,
  oA 45 (.binOp .gtr 3 (tm 43) (tm 44) 3) 4]
def c12_39 : AC := .region o12_39 []
def c12_41 : AC := .skip
def c12_42 : AC := .exit 4
def c12_40 : AC := .cond (tm 45) c12_41 c12_42
def c12_38 : AC := .seq c12_39 c12_40
abbrev o12_45 : List AO := [oA 48 (.move (tm 3)) 22,
  oA 49 (.move (tm 6)) 3,
  oA 50 (.move (tm 3)) 22,
  oA 51 (.move (tm 6)) 3,
  oA 52 (.binOp .sub 3 (tm 51) (ci 1) 3) 3,
  oA 53 (.indexAddr 22 (tm 50) (tm 52)) 0,
  oA 54 (.load 47 (tm 53)) 47,
  oA 55 (.indexAddr 22 (tm 48) (tm 49)) 0,
  oN (.store 47 (tm 55) (tm 54)) 0]
def c12_45 : AC := .region o12_45 []
def c12_44 : AC := .block 5 c12_45
abbrev o12_46 : List AO := [oA 46 (.move (tm 6)) 3,
  oA 47 (.binOp .sub 3 (tm 46) (ci 1) 3) 3,
  oA 6 (.assign (tm 47)) 3]
def c12_46 : AC := .region o12_46 []
def c12_43 : AC := .seq c12_44 c12_46
def c12_37 : AC := .seq c12_38 c12_43
def c12_36 : AC := .loop c12_37
def c12_35 : AC := .block 4 c12_36
def c12_33 : AC := .seq c12_34 c12_35
abbrev o12_47 : List AO := [oA 56 (.move (tm 3)) 22,
  oA 57 (.move (tm 5)) 3,
  oA 58 (.move (tm 0)) 22,
  oA 59 (.move (tm 4)) 3,
  oA 60 (.indexAddr 22 (tm 58) (tm 59)) 0,
  oA 61 (.load 47 (tm 60)) 47,
  oA 62 (.indexAddr 22 (tm 56) (tm 57)) 0,
  oN (.store 47 (tm 62) (tm 61)) 0]
def c12_47 : AC := .region o12_47 []
def c12_32 : AC := .seq c12_33 c12_47
def c12_30 : AC := .seq c12_31 c12_32
def c12_19 : AC := .seq c12_20 c12_30
def c12_17 : AC := .seq c12_18 c12_19
def c12_16 : AC := .block 1 c12_17
abbrev o12_48 : List AO := [oA 11 (.move (tm 4)) 3,
  oA 12 (.binOp .add 3 (tm 11) (ci 1) 3) 3,
  oA 4 (.assign (tm 12)) 3]
def c12_48 : AC := .region o12_48 []
def c12_15 : AC := .seq c12_16 c12_48
def c12_9 : AC := .seq c12_10 c12_15
def c12_8 : AC := .loop c12_9
def c12_7 : AC := .block 0 c12_8
def c12_5 : AC := .seq c12_6 c12_7
abbrev o12_50 : List AO := [oA 63 (.move (tm 3)) 22,
  oA 2 (.assign (tm 63)) 22]
def c12_50 : AC := .region o12_50 []
def c12_51 : AC := .ret
def c12_49 : AC := .seq c12_50 c12_51
def c12_4 : AC := .seq c12_5 c12_49
def c12_2 : AC := .seq c12_3 c12_4
def c12_0 : AC := .seq c12_1 c12_2
theorem r12_0 : SeqR Cx 12 c12_0 c12_1 c12_2 ∧ RegR Cx 12 c12_1 o12_1 ∧ SeqR Cx 12 c12_2 c12_3 c12_4 ∧ RegR Cx 12 c12_3 o12_3 ∧ SeqR Cx 12 c12_4 c12_5 c12_49 ∧ SeqR Cx 12 c12_5 c12_6 c12_7 ∧ RegR Cx 12 c12_6 o12_6 ∧ BlkR Cx 12 c12_7 0 c12_8 := ⟨run_seq, run_region, run_seq, run_region, run_seq, run_seq, run_region, run_block⟩
theorem r12_1 : LoopR Cx 12 c12_8 c12_9 ∧ SeqR Cx 12 c12_9 c12_10 c12_15 ∧ SeqR Cx 12 c12_10 c12_11 c12_12 ∧ RegR Cx 12 c12_11 o12_11 ∧ CondR Cx 12 c12_12 (tm 10) c12_13 c12_14 ∧ SkipR Cx 12 c12_13 ∧ ExitR Cx 12 c12_14 0 ∧ SeqR Cx 12 c12_15 c12_16 c12_48 := ⟨run_loop', run_seq, run_seq, run_region, run_condC, run_skip, run_exit_start, run_seq⟩
theorem r12_2 : BlkR Cx 12 c12_16 1 c12_17 ∧ SeqR Cx 12 c12_17 c12_18 c12_19 ∧ RegR Cx 12 c12_18 o12_18 ∧ SeqR Cx 12 c12_19 c12_20 c12_30 ∧ BlkR Cx 12 c12_20 2 c12_21 ∧ LoopR Cx 12 c12_21 c12_22 ∧ SeqR Cx 12 c12_22 c12_23 c12_28 ∧ SeqR Cx 12 c12_23 c12_24 c12_25 := ⟨run_block, run_seq, run_region, run_seq, run_block, run_loop', run_seq, run_seq⟩
theorem r12_3 : RegR Cx 12 c12_24 o12_24 ∧ CondR Cx 12 c12_25 (tm 30) c12_26 c12_27 ∧ SkipR Cx 12 c12_26 ∧ ExitR Cx 12 c12_27 2 ∧ BlkR Cx 12 c12_28 3 c12_29 ∧ RegR Cx 12 c12_29 o12_29 ∧ SeqR Cx 12 c12_30 c12_31 c12_32 ∧ RegR Cx 12 c12_31 o12_31 := ⟨run_region, run_condC, run_skip, run_exit_start, run_block, run_region, run_seq, run_region⟩
theorem r12_4 : SeqR Cx 12 c12_32 c12_33 c12_47 ∧ SeqR Cx 12 c12_33 c12_34 c12_35 ∧ RegR Cx 12 c12_34 o12_34 ∧ BlkR Cx 12 c12_35 4 c12_36 ∧ LoopR Cx 12 c12_36 c12_37 ∧ SeqR Cx 12 c12_37 c12_38 c12_43 ∧ SeqR Cx 12 c12_38 c12_39 c12_40 ∧ RegR Cx 12 c12_39 o12_39 := ⟨run_seq, run_seq, run_region, run_block, run_loop', run_seq, run_seq, run_region⟩
theorem r12_5 : CondR Cx 12 c12_40 (tm 45) c12_41 c12_42 ∧ SkipR Cx 12 c12_41 ∧ ExitR Cx 12 c12_42 4 ∧ SeqR Cx 12 c12_43 c12_44 c12_46 ∧ BlkR Cx 12 c12_44 5 c12_45 ∧ RegR Cx 12 c12_45 o12_45 ∧ RegR Cx 12 c12_46 o12_46 ∧ RegR Cx 12 c12_47 o12_47 := ⟨run_condC, run_skip, run_exit_start, run_seq, run_block, run_region, run_region, run_region⟩
theorem r12_6 : RegR Cx 12 c12_48 o12_48 ∧ SeqR Cx 12 c12_49 c12_50 c12_51 ∧ RegR Cx 12 c12_50 o12_50 ∧ RetR Cx 12 c12_51 := ⟨run_region, run_seq, run_region, run_ret⟩
theorem body12 : bodyOf Cx 12 = some c12_0 := by kernel_rfl
theorem res12 : resOf Cx 12 = some [.tmp 2] := by kernel_rfl
abbrev o13_1 : List AO := [oA 2 (.assign (.const (.slice none 0 0))) 22,
  oA 3 (.assign (ci 0)) 27]
def c13_1 : AC := .region o13_1 []
abbrev o13_4 : List AO := [oA 6 (.move (tm 0)) 48,
  oA 7 (cF 28 #[(tm 6), (.func 29)] #[48, 25]) 4]
def c13_4 : AC := .region o13_4 []
abbrev o13_7 : List AO := [oA 2 (.assign (.const (.slice none 0 0))) 22,
  oA 3 (.assign (ci 17)) 27]
def c13_7 : AC := .region o13_7 []
def c13_8 : AC := .ret
def c13_6 : AC := .seq c13_7 c13_8
def c13_9 : AC := .skip
def c13_5 : AC := .cond (tm 7) c13_6 c13_9
def c13_3 : AC := .seq c13_4 c13_5
abbrev o13_11 : List AO := [oA 4 (.alloc 22) 0]
def c13_11 : AC := .region o13_11 []
abbrev o13_14 : List AO := [oA 8 (.move (tm 0)) 48,
  oA 9 (cF 30 #[(tm 8)] #[48]) 63]
def c13_14 : AC := .region o13_14 []
abbrev o13_17 : List AO := [oA 5 (.alloc 47) 0,
  oN (.store 47 (tm 5) (tm 10)) 0]
def c13_17 : AC := .region o13_17 []
abbrev o13_19 : List AO := [oA 11 (.load 22 (tm 4)) 22,
  oA 12 (.load 47 (tm 5)) 47,
  oA 13 (.buildSlice 22 1 #[(0, (tm 12))]) 22,
  oA 14 (cB .append #[(tm 11), (tm 13)] #[22, 22]) 22,
  oN (.store 22 (tm 4) (tm 14)) 0]
def c13_19 : AC := .region o13_19 []
def c13_18 : AC := .block 1 c13_19
def c13_16 : AC := .rangeFunc (tm 9) [10] c13_17 c13_18
def c13_15 : AC := .block 0 c13_16
def c13_13 : AC := .seq c13_14 c13_15
abbrev o13_21 : List AO := [oA 15 (.load 22 (tm 4)) 22,
  oA 2 (.assign (tm 15)) 22,
  oA 3 (.assign (ci 0)) 27]
def c13_21 : AC := .region o13_21 []
def c13_22 : AC := .ret
def c13_20 : AC := .seq c13_21 c13_22
def c13_12 : AC := .seq c13_13 c13_20
def c13_10 : AC := .seq c13_11 c13_12
def c13_2 : AC := .seq c13_3 c13_10
def c13_0 : AC := .seq c13_1 c13_2
theorem r13_0 : SeqR Cx 13 c13_0 c13_1 c13_2 ∧ RegR Cx 13 c13_1 o13_1 ∧ SeqR Cx 13 c13_2 c13_3 c13_10 ∧ SeqR Cx 13 c13_3 c13_4 c13_5 ∧ RegR Cx 13 c13_4 o13_4 ∧ CondR Cx 13 c13_5 (tm 7) c13_6 c13_9 ∧ SeqR Cx 13 c13_6 c13_7 c13_8 ∧ RegR Cx 13 c13_7 o13_7 := ⟨run_seq, run_region, run_seq, run_seq, run_region, run_condC, run_seq, run_region⟩
theorem r13_1 : RetR Cx 13 c13_8 ∧ SkipR Cx 13 c13_9 ∧ SeqR Cx 13 c13_10 c13_11 c13_12 ∧ RegR Cx 13 c13_11 o13_11 ∧ SeqR Cx 13 c13_12 c13_13 c13_20 ∧ SeqR Cx 13 c13_13 c13_14 c13_15 ∧ RegR Cx 13 c13_14 o13_14 ∧ BlkR Cx 13 c13_15 0 c13_16 := ⟨run_ret, run_skip, run_seq, run_region, run_seq, run_seq, run_region, run_block⟩
theorem r13_2 : RegR Cx 13 c13_17 o13_17 ∧ BlkR Cx 13 c13_18 1 c13_19 ∧ RegR Cx 13 c13_19 o13_19 ∧ SeqR Cx 13 c13_20 c13_21 c13_22 ∧ RegR Cx 13 c13_21 o13_21 ∧ RetR Cx 13 c13_22 := ⟨run_region, run_block, run_region, run_seq, run_region, run_ret⟩
abbrev o14_1 : List AO := [oA 4 (.assign (.const (.slice none 0 0))) 22,
  oA 5 (.assign (ci 0)) 3]
def c14_1 : AC := .region o14_1 []
abbrev o14_3 : List AO := [oA 6 (.assign (.const (.slice none 0 0))) 22]
def c14_3 : AC := .region o14_3 []
abbrev o14_6 : List AO := [oA 7 (.assign (ci 0)) 3]
def c14_6 : AC := .region o14_6 []
abbrev o14_11 : List AO := [oA 10 (.move (tm 7)) 3,
  oA 11 (.move (tm 0)) 22,
  oA 12 (cB .len #[(tm 11)] #[22]) 3,
  oA 13 (.binOp .lss 3 (tm 10) (tm 12) 3) 4]
def c14_11 : AC := .region o14_11 []
def c14_13 : AC := .skip
def c14_14 : AC := .exit 0
def c14_12 : AC := .cond (tm 13) c14_13 c14_14
def c14_10 : AC := .seq c14_11 c14_12
abbrev o14_19 : List AO := [oA 16 (.move (tm 7)) 3,
  oA 17 (.binOp .eql 3 (tm 16) (ci 0) 3) 4,
  oA 18 (.move (tm 17)) 4,
  oG 19 (.move (tm 0)) 22 18 false,
  oG 20 (.move (tm 7)) 3 18 false,
  oG 21 (.indexAddr 22 (tm 19) (tm 20)) 0 18 false,
  oG 22 (.fieldAddr 47 (tm 21) 0) 0 18 false,
  oG 23 (.load 9 (tm 22)) 9 18 false,
  oG 24 (.move (tm 0)) 22 18 false,
  oG 25 (.move (tm 7)) 3 18 false,
  oG 26 (.binOp .sub 3 (tm 25) (ci 1) 3) 3 18 false,
  oG 27 (.indexAddr 22 (tm 24) (tm 26)) 0 18 false,
  oG 28 (.fieldAddr 47 (tm 27) 0) 0 18 false,
  oG 29 (.load 9 (tm 28)) 9 18 false,
  oG 30 (.binOp .neq 9 (tm 23) (tm 29) 9) 4 18 false,
  oA 31 (.pick (tm 18) (.const (.bool true)) (tm 30)) 4]
def c14_19 : AC := .region o14_19 []
abbrev o14_22 : List AO := [oA 32 (.move (tm 6)) 22,
  oA 33 (.move (tm 0)) 22,
  oA 34 (.move (tm 7)) 3,
  oA 35 (.indexAddr 22 (tm 33) (tm 34)) 0,
  oA 36 (.load 47 (tm 35)) 47,
  oA 37 (.buildSlice 22 1 #[(0, (tm 36))]) 22,
  oA 38 (cB .append #[(tm 32), (tm 37)] #[22, 22]) 22,
  oA 6 (.assign (tm 38)) 22]
def c14_22 : AC := .region o14_22 []
def c14_23 : AC := .exit 1
def c14_21 : AC := .seq c14_22 c14_23
def c14_24 : AC := .skip
def c14_20 : AC := .cond (tm 31) c14_21 c14_24
def c14_18 : AC := .seq c14_19 c14_20
abbrev o14_26 : List AO := [oA 40 (.move (tm 1)) 9,
  oA 41 (.move (tm 6)) 22,
  oA 42 (.move (tm 6)) 22,
  oA 43 (cB .len #[(tm 42)] #[22]) 3,
  oA 44 (.binOp .sub 3 (tm 43) (ci 1) 3) 3,
  oA 45 (.indexAddr 22 (tm 41) (tm 44)) 0,
  oA 46 (.fieldAddr 47 (tm 45) 1) 0,
  oA 47 (.load 45 (tm 46)) 45,
  oA 48 (.move (tm 0)) 22,
  oA 49 (.move (tm 7)) 3,
  oA 50 (.indexAddr 22 (tm 48) (tm 49)) 0,
  oA 51 (.fieldAddr 47 (tm 50) 1) 0,
  oA 52 (.load 45 (tm 51)) 45,
  oA 53 (cF 31 #[(tm 40), (tm 47), (tm 52)] #[9, 45, 45]) 65,
  oA 39 (.move (tm 53)) 65,
  oA 54 (.extract (tm 39) 0) 45,
  oA 55 (.extract (tm 39) 1) 3,
  oA 8 (.alloc 45) 0,
  oN (.store 45 (tm 8) (tm 54)) 0,
  oA 9 (.assign (tm 55)) 3]
def c14_26 : AC := .region o14_26 []
abbrev o14_29 : List AO := [oA 56 (.move (tm 9)) 3,
  oA 57 (.binOp .neq 3 (tm 56) (ci 0) 3) 4]
def c14_29 : AC := .region o14_29 []
abbrev o14_32 : List AO := [oA 58 (.move (tm 9)) 3,
  oA 4 (.assign (.const (.slice none 0 0))) 22,
  oA 5 (.assign (tm 58)) 3]
def c14_32 : AC := .region o14_32 []
def c14_33 : AC := .ret
def c14_31 : AC := .seq c14_32 c14_33
def c14_34 : AC := .skip
def c14_30 : AC := .cond (tm 57) c14_31 c14_34
def c14_28 : AC := .seq c14_29 c14_30
abbrev o14_35 : List AO := [oA 59 (.move (tm 6)) 22,
  oA 60 (.move (tm 6)) 22,
  oA 61 (cB .len #[(tm 60)] #[22]) 3,
  oA 62 (.binOp .sub 3 (tm 61) (ci 1) 3) 3,
  oA 63 (.load 45 (tm 8)) 45,
  oA 64 (.indexAddr 22 (tm 59) (tm 62)) 0,
  oA 65 (.fieldAddr 47 (tm 64) 1) 0,
  oN (.store 45 (tm 65) (tm 63)) 0]
def c14_35 : AC := .region o14_35 []
def c14_27 : AC := .seq c14_28 c14_35
def c14_25 : AC := .seq c14_26 c14_27
def c14_17 : AC := .seq c14_18 c14_25
def c14_16 : AC := .block 1 c14_17
abbrev o14_36 : List AO := [oA 14 (.move (tm 7)) 3,
  oA 15 (.binOp .add 3 (tm 14) (ci 1) 3) 3,
  oA 7 (.assign (tm 15)) 3]
def c14_36 : AC := .region o14_36 []
def c14_15 : AC := .seq c14_16 c14_36
def c14_9 : AC := .seq c14_10 c14_15
def c14_8 : AC := .loop c14_9
def c14_7 : AC := .block 0 c14_8
def c14_5 : AC := .seq c14_6 c14_7
abbrev o14_38 : List AO := [oA 66 (.move (tm 6)) 22,
  oA 4 (.assign (tm 66)) 22,
  oA 5 (.assign (ci 0)) 3]
def c14_38 : AC := .region o14_38 []
def c14_39 : AC := .ret
def c14_37 : AC := .seq c14_38 c14_39
def c14_4 : AC := .seq c14_5 c14_37
def c14_2 : AC := .seq c14_3 c14_4
def c14_0 : AC := .seq c14_1 c14_2
theorem r14_0 : SeqR Cx 14 c14_0 c14_1 c14_2 ∧ RegR Cx 14 c14_1 o14_1 ∧ SeqR Cx 14 c14_2 c14_3 c14_4 ∧ RegR Cx 14 c14_3 o14_3 ∧ SeqR Cx 14 c14_4 c14_5 c14_37 ∧ SeqR Cx 14 c14_5 c14_6 c14_7 ∧ RegR Cx 14 c14_6 o14_6 ∧ BlkR Cx 14 c14_7 0 c14_8 := ⟨run_seq, run_region, run_seq, run_region, run_seq, run_seq, run_region, run_block⟩
theorem r14_1 : LoopR Cx 14 c14_8 c14_9 ∧ SeqR Cx 14 c14_9 c14_10 c14_15 ∧ SeqR Cx 14 c14_10 c14_11 c14_12 ∧ RegR Cx 14 c14_11 o14_11 ∧ CondR Cx 14 c14_12 (tm 13) c14_13 c14_14 ∧ SkipR Cx 14 c14_13 ∧ ExitR Cx 14 c14_14 0 ∧ SeqR Cx 14 c14_15 c14_16 c14_36 := ⟨run_loop', run_seq, run_seq, run_region, run_condC, run_skip, run_exit_start, run_seq⟩
theorem r14_2 : BlkR Cx 14 c14_16 1 c14_17 ∧ SeqR Cx 14 c14_17 c14_18 c14_25 ∧ SeqR Cx 14 c14_18 c14_19 c14_20 ∧ RegR Cx 14 c14_19 o14_19 ∧ CondR Cx 14 c14_20 (tm 31) c14_21 c14_24 ∧ SeqR Cx 14 c14_21 c14_22 c14_23 ∧ RegR Cx 14 c14_22 o14_22 ∧ ExitR Cx 14 c14_23 1 := ⟨run_block, run_seq, run_seq, run_region, run_condC, run_seq, run_region, run_exit_start⟩
theorem r14_3 : SkipR Cx 14 c14_24 ∧ SeqR Cx 14 c14_25 c14_26 c14_27 ∧ RegR Cx 14 c14_26 o14_26 ∧ SeqR Cx 14 c14_27 c14_28 c14_35 ∧ SeqR Cx 14 c14_28 c14_29 c14_30 ∧ RegR Cx 14 c14_29 o14_29 ∧ CondR Cx 14 c14_30 (tm 57) c14_31 c14_34 ∧ SeqR Cx 14 c14_31 c14_32 c14_33 := ⟨run_skip, run_seq, run_region, run_seq, run_seq, run_region, run_condC, run_seq⟩
theorem r14_4 : RegR Cx 14 c14_32 o14_32 ∧ RetR Cx 14 c14_33 ∧ SkipR Cx 14 c14_34 ∧ RegR Cx 14 c14_35 o14_35 ∧ RegR Cx 14 c14_36 o14_36 ∧ SeqR Cx 14 c14_37 c14_38 c14_39 ∧ RegR Cx 14 c14_38 o14_38 ∧ RetR Cx 14 c14_39 := ⟨run_region, run_ret, run_skip, run_region, run_region, run_seq, run_region, run_ret⟩
abbrev o15_1 : List AO := [oA 2 (.assign (.const (.pointer none))) 38,
  oA 3 (.assign (ci 0)) 27]
def c15_1 : AC := .region o15_1 []
abbrev o15_4 : List AO := [oA 4 (.move (tm 0)) 3,
  oA 5 (.binOp .lss 3 (tm 4) (ci 1) 3) 4,
  oA 6 (.move (tm 5)) 4,
  oG 7 (.move (tm 0)) 3 6 false,
  oG 8 (.binOp .gtr 3 (tm 7) (ci 4096) 3) 4 6 false,
  oA 9 (.pick (tm 6) (.const (.bool true)) (tm 8)) 4]
def c15_4 : AC := .region o15_4 []
abbrev o15_7 : List AO := [oA 2 (.assign (.const (.pointer none))) 38,
  oA 3 (.assign (ci 1)) 27]
def c15_7 : AC := .region o15_7 []
def c15_8 : AC := .ret
def c15_6 : AC := .seq c15_7 c15_8
def c15_9 : AC := .skip
def c15_5 : AC := .cond (tm 9) c15_6 c15_9
def c15_3 : AC := .seq c15_4 c15_5
abbrev o15_11 : List AO := [oA 10 (.move (tm 0)) 3,
  oA 11 (.build 68 #[(0, (tm 10))]) 68,
  oA 12 (.box 68 (tm 11)) 38,
  oA 2 (.assign (tm 12)) 38,
  oA 3 (.assign (ci 0)) 27]
def c15_11 : AC := .region o15_11 []
def c15_12 : AC := .ret
def c15_10 : AC := .seq c15_11 c15_12
def c15_2 : AC := .seq c15_3 c15_10
def c15_0 : AC := .seq c15_1 c15_2
theorem r15_0 : SeqR Cx 15 c15_0 c15_1 c15_2 ∧ RegR Cx 15 c15_1 o15_1 ∧ SeqR Cx 15 c15_2 c15_3 c15_10 ∧ SeqR Cx 15 c15_3 c15_4 c15_5 ∧ RegR Cx 15 c15_4 o15_4 ∧ CondR Cx 15 c15_5 (tm 9) c15_6 c15_9 ∧ SeqR Cx 15 c15_6 c15_7 c15_8 ∧ RegR Cx 15 c15_7 o15_7 := ⟨run_seq, run_region, run_seq, run_seq, run_region, run_condC, run_seq, run_region⟩
theorem r15_1 : RetR Cx 15 c15_8 ∧ SkipR Cx 15 c15_9 ∧ SeqR Cx 15 c15_10 c15_11 c15_12 ∧ RegR Cx 15 c15_11 o15_11 ∧ RetR Cx 15 c15_12 := ⟨run_ret, run_skip, run_seq, run_region, run_ret⟩
abbrev o16_1 : List AO := [oA 3 (.box 47 (tm 1)) 0,
  oA 4 (.assign (ci 0)) 27]
def c16_1 : AC := .region o16_1 []
abbrev o16_4 : List AO := [oA 5 (.move (tm 0)) 38,
  oA 6 (.binOp .eql 38 (tm 5) (.const (.pointer none)) 38) 4,
  oA 7 (.move (tm 6)) 4,
  oG 8 (.load 47 (tm 3)) 47 7 false,
  oG 9 (.buildSlice 22 1 #[(0, (tm 8))]) 22 7 false,
  oG 10 (cF 7 #[(tm 9)] #[22]) 4 7 false,
  oG 11 (.unOp .not 4 (tm 10)) 4 7 false,
  oA 12 (.pick (tm 7) (.const (.bool true)) (tm 11)) 4]
def c16_4 : AC := .region o16_4 []
abbrev o16_7 : List AO := [oA 4 (.assign (ci 1)) 27]
def c16_7 : AC := .region o16_7 []
def c16_8 : AC := .ret
def c16_6 : AC := .seq c16_7 c16_8
def c16_9 : AC := .skip
def c16_5 : AC := .cond (tm 12) c16_6 c16_9
def c16_3 : AC := .seq c16_4 c16_5
abbrev o16_11 : List AO := [oA 13 (.move (tm 0)) 38,
  oA 14 (.nilCheck (tm 13)) 0,
  oA 15 (.fieldAddr 68 (tm 14) 3) 0,
  oA 16 (.load 3 (tm 15)) 3,
  oA 17 (.binOp .add 3 (tm 16) (ci 1) 3) 3,
  oA 18 (.nilCheck (tm 13)) 0,
  oA 19 (.fieldAddr 68 (tm 18) 3) 0,
  oN (.store 3 (tm 19) (tm 17)) 0]
def c16_11 : AC := .region o16_11 []
abbrev o16_13 : List AO := [oA 20 (.move (tm 0)) 38,
  oA 21 (.move (tm 0)) 38,
  oA 22 (.nilCheck (tm 21)) 0,
  oA 23 (.fieldAddr 68 (tm 22) 1) 0,
  oA 24 (.load 22 (tm 23)) 22,
  oA 25 (.load 47 (tm 3)) 47,
  oA 26 (.buildSlice 22 1 #[(0, (tm 25))]) 22,
  oA 27 (cB .append #[(tm 24), (tm 26)] #[22, 22]) 22,
  oA 28 (.nilCheck (tm 20)) 0,
  oA 29 (.fieldAddr 68 (tm 28) 1) 0,
  oN (.store 22 (tm 29) (tm 27)) 0]
def c16_13 : AC := .region o16_13 []
abbrev o16_16 : List AO := [oA 30 (.move (tm 0)) 38,
  oA 31 (.nilCheck (tm 30)) 0,
  oA 32 (.fieldAddr 68 (tm 31) 1) 0,
  oA 33 (.load 22 (tm 32)) 22,
  oA 34 (cB .len #[(tm 33)] #[22]) 3,
  oA 35 (.move (tm 0)) 38,
  oA 36 (.nilCheck (tm 35)) 0,
  oA 37 (.fieldAddr 68 (tm 36) 0) 0,
  oA 38 (.load 3 (tm 37)) 3,
  oA 39 (.binOp .eql 3 (tm 34) (tm 38) 3) 4]
def c16_16 : AC := .region o16_16 []
abbrev o16_18 : List AO := [oA 40 (.move (tm 0)) 38,
  oA 41 (.move (tm 0)) 38,
  oA 42 (.move (tm 0)) 38,
  oA 43 (.nilCheck (tm 42)) 0,
  oA 44 (.fieldAddr 68 (tm 43) 2) 0,
  oA 45 (.load 48 (tm 44)) 48,
  oA 46 (.move (tm 0)) 38,
  oA 47 (.nilCheck (tm 46)) 0,
  oA 48 (.fieldAddr 68 (tm 47) 1) 0,
  oA 49 (.load 22 (tm 48)) 22,
  oA 50 (cF 9 #[(tm 49)] #[22]) 22,
  oA 51 (.buildSlice 48 1 #[(0, (tm 50))]) 48,
  oA 52 (cB .append #[(tm 45), (tm 51)] #[48, 48]) 48,
  oA 53 (.nilCheck (tm 40)) 0,
  oA 54 (.fieldAddr 68 (tm 53) 2) 0,
  oN (.store 48 (tm 54) (tm 52)) 0,
  oA 55 (.nilCheck (tm 41)) 0,
  oA 56 (.fieldAddr 68 (tm 55) 1) 0,
  oN (.store 22 (tm 56) (.const (.slice none 0 0))) 0]
def c16_18 : AC := .region o16_18 []
def c16_19 : AC := .skip
def c16_17 : AC := .cond (tm 39) c16_18 c16_19
def c16_15 : AC := .seq c16_16 c16_17
abbrev o16_21 : List AO := [oA 4 (.assign (ci 0)) 27]
def c16_21 : AC := .region o16_21 []
def c16_22 : AC := .ret
def c16_20 : AC := .seq c16_21 c16_22
def c16_14 : AC := .seq c16_15 c16_20
def c16_12 : AC := .seq c16_13 c16_14
def c16_10 : AC := .seq c16_11 c16_12
def c16_2 : AC := .seq c16_3 c16_10
def c16_0 : AC := .seq c16_1 c16_2
theorem r16_0 : SeqR Cx 16 c16_0 c16_1 c16_2 ∧ RegR Cx 16 c16_1 o16_1 ∧ SeqR Cx 16 c16_2 c16_3 c16_10 ∧ SeqR Cx 16 c16_3 c16_4 c16_5 ∧ RegR Cx 16 c16_4 o16_4 ∧ CondR Cx 16 c16_5 (tm 12) c16_6 c16_9 ∧ SeqR Cx 16 c16_6 c16_7 c16_8 ∧ RegR Cx 16 c16_7 o16_7 := ⟨run_seq, run_region, run_seq, run_seq, run_region, run_condC, run_seq, run_region⟩
theorem r16_1 : RetR Cx 16 c16_8 ∧ SkipR Cx 16 c16_9 ∧ SeqR Cx 16 c16_10 c16_11 c16_12 ∧ RegR Cx 16 c16_11 o16_11 ∧ SeqR Cx 16 c16_12 c16_13 c16_14 ∧ RegR Cx 16 c16_13 o16_13 ∧ SeqR Cx 16 c16_14 c16_15 c16_20 ∧ SeqR Cx 16 c16_15 c16_16 c16_17 := ⟨run_ret, run_skip, run_seq, run_region, run_seq, run_region, run_seq, run_seq⟩
theorem r16_2 : RegR Cx 16 c16_16 o16_16 ∧ CondR Cx 16 c16_17 (tm 39) c16_18 c16_19 ∧ RegR Cx 16 c16_18 o16_18 ∧ SkipR Cx 16 c16_19 ∧ SeqR Cx 16 c16_20 c16_21 c16_22 ∧ RegR Cx 16 c16_21 o16_21 ∧ RetR Cx 16 c16_22 := ⟨run_region, run_condC, run_region, run_skip, run_seq, run_region, run_ret⟩
abbrev o17_1 : List AO := [oA 2 (.assign (.const (.slice none 0 0))) 48]
def c17_1 : AC := .region o17_1 []
abbrev o17_4 : List AO := [oA 6 (.move (tm 0)) 38,
  oA 7 (.binOp .eql 38 (tm 6) (.const (.pointer none)) 38) 4]
def c17_4 : AC := .region o17_4 []
abbrev o17_7 : List AO := [oA 2 (.assign (.const (.slice none 0 0))) 48]
def c17_7 : AC := .region o17_7 []
def c17_8 : AC := .ret
def c17_6 : AC := .seq c17_7 c17_8
def c17_9 : AC := .skip
def c17_5 : AC := .cond (tm 7) c17_6 c17_9
def c17_3 : AC := .seq c17_4 c17_5
abbrev o17_11 : List AO := [oA 3 (.assign (.const (.slice none 0 0))) 48]
def c17_11 : AC := .region o17_11 []
abbrev o17_14 : List AO := [oA 8 (.move (tm 0)) 38,
  oA 9 (.nilCheck (tm 8)) 0,
  oA 10 (.fieldAddr 68 (tm 9) 2) 0,
  oA 11 (.load 48 (tm 10)) 48,
  oA 12 (cB .len #[(tm 11)] #[48]) 3,
  oA 13 (.move (ci 0)) 3]
def c17_14 : AC := .region o17_14 []
abbrev o17_18 : List AO := [oA 14 (.binOp .lss 3 (tm 13) (tm 12) 3) 0]
def c17_18 : AC := .region o17_18 []
def c17_21 : AC := .skip
def c17_22 : AC := .exit 0
def c17_20 : AC := .cond (tm 14) c17_21 c17_22
abbrev o17_26 : List AO := [oA 15 (.indexAddr 48 (tm 11) (tm 13)) 0,
  oA 16 (.load 22 (tm 15)) 22,
  oA 5 (.assign (tm 16)) 22]
def c17_26 : AC := .region o17_26 []
abbrev o17_27 : List AO := [oA 17 (.move (tm 3)) 48,
  oA 18 (.move (tm 5)) 22,
  oA 19 (cF 24 #[(tm 18)] #[22]) 22,
  oA 20 (.buildSlice 48 1 #[(0, (tm 19))]) 48,
  oA 21 (cB .append #[(tm 17), (tm 20)] #[48, 48]) 48,
  oA 3 (.assign (tm 21)) 48]
def c17_27 : AC := .region o17_27 []
def c17_25 : AC := .seq c17_26 c17_27
def c17_24 : AC := .block 1 c17_25
abbrev o17_28 : List AO := [oA 22 (.binOp .add 3 (tm 13) (ci 1) 3) 3,
  oA 13 (.move (tm 22)) 3]
def c17_28 : AC := .region o17_28 []
def c17_23 : AC := .seq c17_24 c17_28
def c17_19 : AC := .seq c17_20 c17_23
def c17_17 : AC := .seq c17_18 c17_19
def c17_16 : AC := .loop c17_17
def c17_15 : AC := .block 0 c17_16
def c17_13 : AC := .seq c17_14 c17_15
abbrev o17_31 : List AO := [oA 23 (.move (tm 0)) 38,
  oA 24 (.nilCheck (tm 23)) 0,
  oA 25 (.fieldAddr 68 (tm 24) 1) 0,
  oA 26 (.load 22 (tm 25)) 22,
  oA 27 (cB .len #[(tm 26)] #[22]) 3,
  oA 28 (.binOp .gtr 3 (tm 27) (ci 0) 3) 4]
def c17_31 : AC := .region o17_31 []
abbrev o17_33 : List AO := [oA 29 (.move (tm 3)) 48,
  oA 30 (.move (tm 0)) 38,
  oA 31 (.nilCheck (tm 30)) 0,
  oA 32 (.fieldAddr 68 (tm 31) 1) 0,
  oA 33 (.load 22 (tm 32)) 22,
  oA 34 (cF 9 #[(tm 33)] #[22]) 22,
  oA 35 (.buildSlice 48 1 #[(0, (tm 34))]) 48,
  oA 36 (cB .append #[(tm 29), (tm 35)] #[48, 48]) 48,
  oA 3 (.assign (tm 36)) 48]
def c17_33 : AC := .region o17_33 []
def c17_34 : AC := .skip
def c17_32 : AC := .cond (tm 28) c17_33 c17_34
def c17_30 : AC := .seq c17_31 c17_32
abbrev o17_36 : List AO := [oA 37 (.move (tm 3)) 48,
  oA 2 (.assign (tm 37)) 48]
def c17_36 : AC := .region o17_36 []
def c17_37 : AC := .ret
def c17_35 : AC := .seq c17_36 c17_37
def c17_29 : AC := .seq c17_30 c17_35
def c17_12 : AC := .seq c17_13 c17_29
def c17_10 : AC := .seq c17_11 c17_12
def c17_2 : AC := .seq c17_3 c17_10
def c17_0 : AC := .seq c17_1 c17_2
theorem r17_0 : SeqR Cx 17 c17_0 c17_1 c17_2 ∧ RegR Cx 17 c17_1 o17_1 ∧ SeqR Cx 17 c17_2 c17_3 c17_10 ∧ SeqR Cx 17 c17_3 c17_4 c17_5 ∧ RegR Cx 17 c17_4 o17_4 ∧ CondR Cx 17 c17_5 (tm 7) c17_6 c17_9 ∧ SeqR Cx 17 c17_6 c17_7 c17_8 ∧ RegR Cx 17 c17_7 o17_7 := ⟨run_seq, run_region, run_seq, run_seq, run_region, run_condC, run_seq, run_region⟩
theorem r17_1 : RetR Cx 17 c17_8 ∧ SkipR Cx 17 c17_9 ∧ SeqR Cx 17 c17_10 c17_11 c17_12 ∧ RegR Cx 17 c17_11 o17_11 ∧ SeqR Cx 17 c17_12 c17_13 c17_29 ∧ SeqR Cx 17 c17_13 c17_14 c17_15 ∧ RegR Cx 17 c17_14 o17_14 ∧ BlkR Cx 17 c17_15 0 c17_16 := ⟨run_ret, run_skip, run_seq, run_region, run_seq, run_seq, run_region, run_block⟩
theorem r17_2 : LoopR Cx 17 c17_16 c17_17 ∧ SeqR Cx 17 c17_17 c17_18 c17_19 ∧ RegR Cx 17 c17_18 o17_18 ∧ SeqR Cx 17 c17_19 c17_20 c17_23 ∧ CondR Cx 17 c17_20 (tm 14) c17_21 c17_22 ∧ SkipR Cx 17 c17_21 ∧ ExitR Cx 17 c17_22 0 ∧ SeqR Cx 17 c17_23 c17_24 c17_28 := ⟨run_loop', run_seq, run_region, run_seq, run_condC, run_skip, run_exit_start, run_seq⟩
theorem r17_3 : BlkR Cx 17 c17_24 1 c17_25 ∧ SeqR Cx 17 c17_25 c17_26 c17_27 ∧ RegR Cx 17 c17_26 o17_26 ∧ RegR Cx 17 c17_27 o17_27 ∧ RegR Cx 17 c17_28 o17_28 ∧ SeqR Cx 17 c17_29 c17_30 c17_35 ∧ SeqR Cx 17 c17_30 c17_31 c17_32 ∧ RegR Cx 17 c17_31 o17_31 := ⟨run_block, run_seq, run_region, run_region, run_region, run_seq, run_seq, run_region⟩
theorem r17_4 : CondR Cx 17 c17_32 (tm 28) c17_33 c17_34 ∧ RegR Cx 17 c17_33 o17_33 ∧ SkipR Cx 17 c17_34 ∧ SeqR Cx 17 c17_35 c17_36 c17_37 ∧ RegR Cx 17 c17_36 o17_36 ∧ RetR Cx 17 c17_37 := ⟨run_condC, run_region, run_skip, run_seq, run_region, run_ret⟩
abbrev o18_1 : List AO := [oA 4 (.assign (.const (.bool false))) 4]
def c18_1 : AC := .region o18_1 []
abbrev o18_3 : List AO := [oA 5 (.move (tm 0)) 22,
  oA 6 (.move (tm 1)) 52,
  oA 7 (cF 32 #[(tm 5), (tm 6)] #[22, 52]) 3,
  oA 8 (.binOp .geq 3 (tm 7) (ci 0) 3) 4,
  oA 4 (.assign (tm 8)) 4]
def c18_3 : AC := .region o18_3 []
def c18_4 : AC := .ret
def c18_2 : AC := .seq c18_3 c18_4
def c18_0 : AC := .seq c18_1 c18_2
theorem r18_0 : SeqR Cx 18 c18_0 c18_1 c18_2 ∧ RegR Cx 18 c18_1 o18_1 ∧ SeqR Cx 18 c18_2 c18_3 c18_4 ∧ RegR Cx 18 c18_3 o18_3 ∧ RetR Cx 18 c18_4 := ⟨run_seq, run_region, run_seq, run_region, run_ret⟩
theorem body18 : bodyOf Cx 18 = some c18_0 := by kernel_rfl
theorem res18 : resOf Cx 18 = some [.tmp 4] := by kernel_rfl
theorem pure18 : Cx.pure 18 = false := by kernel_rfl
abbrev o19_1 : List AO := [oA 1 (.box 47 (tm 0)) 0,
  oA 2 (.assign (.const (.bool false))) 4]
def c19_1 : AC := .region o19_1 []
abbrev o19_3 : List AO := [oA 3 (.fieldAddr 47 (tm 1) 0) 0,
  oA 4 (.load 9 (tm 3)) 9,
  oA 5 (cB .len #[(tm 4)] #[9]) 3,
  oA 6 (.binOp .gtr 3 (tm 5) (ci 64) 3) 4,
  oA 7 (.move (tm 6)) 4,
  oG 8 (.fieldAddr 47 (tm 1) 1) 0 7 false,
  oG 9 (.load 45 (tm 8)) 45 7 false,
  oG 10 (cF 20 #[(tm 9)] #[45]) 4 7 false,
  oG 11 (.unOp .not 4 (tm 10)) 4 7 false,
  oA 12 (.pick (tm 7) (.const (.bool true)) (tm 11)) 4,
  oA 2 (.assign (tm 12)) 4]
def c19_3 : AC := .region o19_3 []
def c19_4 : AC := .ret
def c19_2 : AC := .seq c19_3 c19_4
def c19_0 : AC := .seq c19_1 c19_2
theorem r19_0 : SeqR Cx 19 c19_0 c19_1 c19_2 ∧ RegR Cx 19 c19_1 o19_1 ∧ SeqR Cx 19 c19_2 c19_3 c19_4 ∧ RegR Cx 19 c19_3 o19_3 ∧ RetR Cx 19 c19_4 := ⟨run_seq, run_region, run_seq, run_region, run_ret⟩
theorem body19 : bodyOf Cx 19 = some c19_0 := by kernel_rfl
theorem res19 : resOf Cx 19 = some [.tmp 2] := by kernel_rfl
theorem pure19 : Cx.pure 19 = true := by kernel_rfl
abbrev o20_1 : List AO := [oA 1 (.box 45 (tm 0)) 0,
  oA 2 (.assign (.const (.bool false))) 4]
def c20_1 : AC := .region o20_1 []
abbrev o20_3 : List AO := [oA 6 (.fieldAddr 45 (tm 1) 1) 0,
  oA 7 (.load 3 (tm 6)) 3,
  oA 8 (.binOp .neq 3 (tm 7) (ci 0) 3) 4,
  oA 9 (.fieldAddr 45 (tm 1) 2) 0,
  oA 10 (.load 9 (tm 9)) 9,
  oA 11 (.binOp .neq 9 (tm 10) (.const (.string ⟨#[]⟩)) 9) 4,
  oA 12 (.fieldAddr 45 (tm 1) 3) 0,
  oA 13 (.load 43 (tm 12)) 43,
  oA 14 (.build 43 #[]) 43,
  oA 15 (.binOp .neq 43 (tm 13) (tm 14) 43) 4,
  oA 3 (.assign (tm 8)) 4,
  oA 4 (.assign (tm 11)) 4,
  oA 5 (.assign (tm 15)) 4]
def c20_3 : AC := .region o20_3 []
abbrev o20_6 : List AO := [oA 16 (.fieldAddr 45 (tm 1) 0) 0,
  oA 17 (.load 3 (tm 16)) 3]
def c20_6 : AC := .region o20_6 []
abbrev o20_9 : List AO := [oA 19 (.binOp .eql 3 (tm 17) (ci 0) 3) 4,
  oA 18 (.assign (tm 19)) 4]
def c20_9 : AC := .region o20_9 []
abbrev o20_12 : List AO := [oA 20 (.fieldAddr 45 (tm 1) 1) 0,
  oA 21 (.load 3 (tm 20)) 3,
  oA 22 (.binOp .geq 3 (tm 21) (ci (-9007199254740992)) 3) 4,
  oA 23 (.move (tm 22)) 4,
  oG 24 (.fieldAddr 45 (tm 1) 1) 0 23 true,
  oG 25 (.load 3 (tm 24)) 3 23 true,
  oG 26 (.binOp .leq 3 (tm 25) (ci 9007199254740992) 3) 4 23 true,
  oA 27 (.pick (tm 23) (tm 26) (.const (.bool false))) 4,
  oA 28 (.move (tm 27)) 4,
  oG 29 (.move (tm 4)) 4 28 true,
  oG 30 (.unOp .not 4 (tm 29)) 4 28 true,
  oA 31 (.pick (tm 28) (tm 30) (.const (.bool false))) 4,
  oA 32 (.move (tm 31)) 4,
  oG 33 (.move (tm 5)) 4 32 true,
  oG 34 (.unOp .not 4 (tm 33)) 4 32 true,
  oA 35 (.pick (tm 32) (tm 34) (.const (.bool false))) 4,
  oA 2 (.assign (tm 35)) 4]
def c20_12 : AC := .region o20_12 []
def c20_13 : AC := .ret
def c20_11 : AC := .seq c20_12 c20_13
abbrev o20_15 : List AO := [oA 37 (.binOp .eql 3 (tm 17) (ci 1) 3) 4,
  oA 36 (.assign (tm 37)) 4]
def c20_15 : AC := .region o20_15 []
abbrev o20_18 : List AO := [oA 38 (.fieldAddr 45 (tm 1) 2) 0,
  oA 39 (.load 9 (tm 38)) 9,
  oA 40 (cB .len #[(tm 39)] #[9]) 3,
  oA 41 (.binOp .leq 3 (tm 40) (ci 4096) 3) 4,
  oA 42 (.move (tm 41)) 4,
  oG 43 (.move (tm 3)) 4 42 true,
  oG 44 (.unOp .not 4 (tm 43)) 4 42 true,
  oA 45 (.pick (tm 42) (tm 44) (.const (.bool false))) 4,
  oA 46 (.move (tm 45)) 4,
  oG 47 (.move (tm 5)) 4 46 true,
  oG 48 (.unOp .not 4 (tm 47)) 4 46 true,
  oA 49 (.pick (tm 46) (tm 48) (.const (.bool false))) 4,
  oA 2 (.assign (tm 49)) 4]
def c20_18 : AC := .region o20_18 []
def c20_19 : AC := .ret
def c20_17 : AC := .seq c20_18 c20_19
abbrev o20_21 : List AO := [oA 51 (.binOp .eql 3 (tm 17) (ci 2) 3) 4,
  oA 50 (.assign (tm 51)) 4]
def c20_21 : AC := .region o20_21 []
abbrev o20_24 : List AO := [oA 52 (.fieldAddr 45 (tm 1) 3) 0,
  oA 53 (.load 43 (tm 52)) 43,
  oA 54 (cF 33 #[(tm 53)] #[43]) 4,
  oA 55 (.move (tm 54)) 4,
  oG 56 (.move (tm 3)) 4 55 true,
  oG 57 (.unOp .not 4 (tm 56)) 4 55 true,
  oA 58 (.pick (tm 55) (tm 57) (.const (.bool false))) 4,
  oA 59 (.move (tm 58)) 4,
  oG 60 (.move (tm 4)) 4 59 true,
  oG 61 (.unOp .not 4 (tm 60)) 4 59 true,
  oA 62 (.pick (tm 59) (tm 61) (.const (.bool false))) 4,
  oA 2 (.assign (tm 62)) 4]
def c20_24 : AC := .region o20_24 []
def c20_25 : AC := .ret
def c20_23 : AC := .seq c20_24 c20_25
def c20_26 : AC := .skip
def c20_22 : AC := .cond (tm 50) c20_23 c20_26
def c20_20 : AC := .seq c20_21 c20_22
def c20_16 : AC := .cond (tm 36) c20_17 c20_20
def c20_14 : AC := .seq c20_15 c20_16
def c20_10 : AC := .cond (tm 18) c20_11 c20_14
def c20_8 : AC := .seq c20_9 c20_10
def c20_7 : AC := .block 0 c20_8
def c20_5 : AC := .seq c20_6 c20_7
abbrev o20_28 : List AO := [oA 2 (.assign (.const (.bool false))) 4]
def c20_28 : AC := .region o20_28 []
def c20_29 : AC := .ret
def c20_27 : AC := .seq c20_28 c20_29
def c20_4 : AC := .seq c20_5 c20_27
def c20_2 : AC := .seq c20_3 c20_4
def c20_0 : AC := .seq c20_1 c20_2
theorem r20_0 : SeqR Cx 20 c20_0 c20_1 c20_2 ∧ RegR Cx 20 c20_1 o20_1 ∧ SeqR Cx 20 c20_2 c20_3 c20_4 ∧ RegR Cx 20 c20_3 o20_3 ∧ SeqR Cx 20 c20_4 c20_5 c20_27 ∧ SeqR Cx 20 c20_5 c20_6 c20_7 ∧ RegR Cx 20 c20_6 o20_6 ∧ BlkR Cx 20 c20_7 0 c20_8 := ⟨run_seq, run_region, run_seq, run_region, run_seq, run_seq, run_region, run_block⟩
theorem r20_1 : SeqR Cx 20 c20_8 c20_9 c20_10 ∧ RegR Cx 20 c20_9 o20_9 ∧ CondR Cx 20 c20_10 (tm 18) c20_11 c20_14 ∧ SeqR Cx 20 c20_11 c20_12 c20_13 ∧ RegR Cx 20 c20_12 o20_12 ∧ RetR Cx 20 c20_13 ∧ SeqR Cx 20 c20_14 c20_15 c20_16 ∧ RegR Cx 20 c20_15 o20_15 := ⟨run_seq, run_region, run_condC, run_seq, run_region, run_ret, run_seq, run_region⟩
theorem r20_2 : CondR Cx 20 c20_16 (tm 36) c20_17 c20_20 ∧ SeqR Cx 20 c20_17 c20_18 c20_19 ∧ RegR Cx 20 c20_18 o20_18 ∧ RetR Cx 20 c20_19 ∧ SeqR Cx 20 c20_20 c20_21 c20_22 ∧ RegR Cx 20 c20_21 o20_21 ∧ CondR Cx 20 c20_22 (tm 50) c20_23 c20_26 ∧ SeqR Cx 20 c20_23 c20_24 c20_25 := ⟨run_condC, run_seq, run_region, run_ret, run_seq, run_region, run_condC, run_seq⟩
theorem r20_3 : RegR Cx 20 c20_24 o20_24 ∧ RetR Cx 20 c20_25 ∧ SkipR Cx 20 c20_26 ∧ SeqR Cx 20 c20_27 c20_28 c20_29 ∧ RegR Cx 20 c20_28 o20_28 ∧ RetR Cx 20 c20_29 := ⟨run_region, run_ret, run_skip, run_seq, run_region, run_ret⟩
theorem body20 : bodyOf Cx 20 = some c20_0 := by kernel_rfl
theorem res20 : resOf Cx 20 = some [.tmp 2] := by kernel_rfl
theorem pure20 : Cx.pure 20 = true := by kernel_rfl
abbrev o21_1 : List AO := [oA 2 (.assign (.const (.bool false))) 4]
def c21_1 : AC := .region o21_1 []
abbrev o21_3 : List AO := [oA 3 (.move (tm 0)) 22,
  oA 4 (cF 34 #[(tm 3), (.func 26)] #[22, 60]) 4,
  oA 2 (.assign (tm 4)) 4]
def c21_3 : AC := .region o21_3 []
def c21_4 : AC := .ret
def c21_2 : AC := .seq c21_3 c21_4
def c21_0 : AC := .seq c21_1 c21_2
theorem r21_0 : SeqR Cx 21 c21_0 c21_1 c21_2 ∧ RegR Cx 21 c21_1 o21_1 ∧ SeqR Cx 21 c21_2 c21_3 c21_4 ∧ RegR Cx 21 c21_3 o21_3 ∧ RetR Cx 21 c21_4 := ⟨run_seq, run_region, run_seq, run_region, run_ret⟩
theorem body21 : bodyOf Cx 21 = some c21_0 := by kernel_rfl
theorem res21 : resOf Cx 21 = some [.tmp 2] := by kernel_rfl
theorem pure21 : Cx.pure 21 = true := by kernel_rfl
abbrev o22_1 : List AO := [oA 1 (.box 22 (tm 0)) 0,
  oA 2 (.assign (.const .nilFunc)) 54]
def c22_1 : AC := .region o22_1 []
abbrev o22_3 : List AO := [oA 3 (.makeFunc (.func 35) #[] #[(tm 1)]) 53,
  oA 2 (.assign (tm 3)) 54]
def c22_3 : AC := .region o22_3 []
def c22_4 : AC := .ret
def c22_2 : AC := .seq c22_3 c22_4
def c22_0 : AC := .seq c22_1 c22_2
theorem r22_0 : SeqR Cx 22 c22_0 c22_1 c22_2 ∧ RegR Cx 22 c22_1 o22_1 ∧ SeqR Cx 22 c22_2 c22_3 c22_4 ∧ RegR Cx 22 c22_3 o22_3 ∧ RetR Cx 22 c22_4 := ⟨run_seq, run_region, run_seq, run_region, run_ret⟩
theorem body22 : bodyOf Cx 22 = some c22_0 := by kernel_rfl
theorem res22 : resOf Cx 22 = some [.tmp 2] := by kernel_rfl
theorem pure22 : Cx.pure 22 = false := by kernel_rfl
abbrev o23_1 : List AO := [oA 4 (.box 45 (tm 1)) 0,
  oA 5 (.box 45 (tm 2)) 0,
  oA 6 (.alloc 45) 0,
  oA 7 (.assign (ci 0)) 27]
def c23_1 : AC := .region o23_1 []
abbrev o23_4 : List AO := [oA 9 (cF 37 #[] #[]) 26,
  oA 10 (.move (tm 0)) 9,
  oA 11 (cF 36 #[(tm 9), (tm 10)] #[26, 9]) 4,
  oA 12 (.unOp .not 4 (tm 11)) 4,
  oA 13 (.move (tm 12)) 4,
  oG 14 (.load 45 (tm 4)) 45 13 false,
  oG 15 (cF 20 #[(tm 14)] #[45]) 4 13 false,
  oG 16 (.unOp .not 4 (tm 15)) 4 13 false,
  oA 17 (.pick (tm 13) (.const (.bool true)) (tm 16)) 4,
  oA 18 (.move (tm 17)) 4,
  oG 19 (.load 45 (tm 5)) 45 18 false,
  oG 20 (cF 20 #[(tm 19)] #[45]) 4 18 false,
  oG 21 (.unOp .not 4 (tm 20)) 4 18 false,
  oA 22 (.pick (tm 18) (.const (.bool true)) (tm 21)) 4]
def c23_4 : AC := .region o23_4 []
abbrev o23_7 : List AO := [oA 23 (.build 45 #[]) 45,
  oN (.store 45 (tm 6) (tm 23)) 0,
  oA 7 (.assign (ci 1)) 27]
def c23_7 : AC := .region o23_7 []
def c23_8 : AC := .ret
def c23_6 : AC := .seq c23_7 c23_8
def c23_9 : AC := .skip
def c23_5 : AC := .cond (tm 22) c23_6 c23_9
def c23_3 : AC := .seq c23_4 c23_5
abbrev o23_11 : List AO := [oA 24 (.load 45 (tm 4)) 45,
  oA 25 (.load 45 (tm 5)) 45,
  oA 26 (cF 38 #[(tm 24), (tm 25)] #[45, 45]) 3,
  oA 8 (.assign (tm 26)) 3]
def c23_11 : AC := .region o23_11 []
abbrev o23_15 : List AO := [oA 28 (.fieldAddr 45 (tm 4) 0) 0,
  oA 29 (.load 3 (tm 28)) 3,
  oA 30 (.fieldAddr 45 (tm 5) 0) 0,
  oA 31 (.load 3 (tm 30)) 3,
  oA 32 (.binOp .neq 3 (tm 29) (tm 31) 3) 4,
  oA 27 (.assign (tm 32)) 4]
def c23_15 : AC := .region o23_15 []
abbrev o23_18 : List AO := [oA 33 (.build 45 #[]) 45,
  oN (.store 45 (tm 6) (tm 33)) 0,
  oA 7 (.assign (ci 13)) 27]
def c23_18 : AC := .region o23_18 []
def c23_19 : AC := .ret
def c23_17 : AC := .seq c23_18 c23_19
abbrev o23_21 : List AO := [oA 35 (.move (tm 0)) 9,
  oA 36 (.binOp .eql 9 (tm 35) (.const (.string ⟨#[109, 97, 120]⟩)) 9) 4,
  oA 37 (.move (tm 36)) 4,
  oG 38 (.move (tm 8)) 3 37 true,
  oG 39 (.binOp .gtr 3 (tm 38) (ci 0) 3) 4 37 true,
  oA 40 (.pick (tm 37) (tm 39) (.const (.bool false))) 4,
  oA 41 (.move (tm 40)) 4,
  oG 42 (.move (tm 0)) 9 41 false,
  oG 43 (.binOp .eql 9 (tm 42) (.const (.string ⟨#[109, 105, 110]⟩)) 9) 4 41 false,
  oG 44 (.move (tm 43)) 4 41 false,
  oG 45 (.move (tm 8)) 3 44 true,
  oG 46 (.binOp .lss 3 (tm 45) (ci 0) 3) 4 44 true,
  oG 47 (.pick (tm 44) (tm 46) (.const (.bool false))) 4 41 false,
  oA 48 (.pick (tm 41) (.const (.bool true)) (tm 47)) 4,
  oA 34 (.assign (tm 48)) 4]
def c23_21 : AC := .region o23_21 []
abbrev o23_24 : List AO := [oA 49 (.load 45 (tm 4)) 45,
  oN (.store 45 (tm 6) (tm 49)) 0,
  oA 7 (.assign (ci 0)) 27]
def c23_24 : AC := .region o23_24 []
def c23_25 : AC := .ret
def c23_23 : AC := .seq c23_24 c23_25
abbrev o23_27 : List AO := [oA 51 (.move (tm 0)) 9,
  oA 52 (.binOp .eql 9 (tm 51) (.const (.string ⟨#[109, 97, 120]⟩)) 9) 4,
  oA 53 (.move (tm 52)) 4,
  oG 54 (.move (tm 0)) 9 53 false,
  oG 55 (.binOp .eql 9 (tm 54) (.const (.string ⟨#[109, 105, 110]⟩)) 9) 4 53 false,
  oA 56 (.pick (tm 53) (.const (.bool true)) (tm 55)) 4,
  oA 50 (.assign (tm 56)) 4]
def c23_27 : AC := .region o23_27 []
abbrev o23_30 : List AO := [oA 57 (.load 45 (tm 5)) 45,
  oN (.store 45 (tm 6) (tm 57)) 0,
  oA 7 (.assign (ci 0)) 27]
def c23_30 : AC := .region o23_30 []
def c23_31 : AC := .ret
def c23_29 : AC := .seq c23_30 c23_31
abbrev o23_33 : List AO := [oA 59 (.fieldAddr 45 (tm 4) 0) 0,
  oA 60 (.load 3 (tm 59)) 3,
  oA 61 (.binOp .eql 3 (tm 60) (ci 0) 3) 4,
  oA 58 (.assign (tm 61)) 4]
def c23_33 : AC := .region o23_33 []
abbrev o23_36 : List AO := [oA 62 (.move (tm 0)) 9,
  oA 63 (.fieldAddr 45 (tm 4) 1) 0,
  oA 64 (.load 3 (tm 63)) 3,
  oA 65 (.fieldAddr 45 (tm 5) 1) 0,
  oA 66 (.load 3 (tm 65)) 3,
  oA 67 (cF 39 #[(tm 62), (tm 64), (tm 66)] #[9, 3, 3]) 45,
  oN (.store 45 (tm 6) (tm 67)) 0,
  oA 7 (.assign (ci 0)) 27]
def c23_36 : AC := .region o23_36 []
def c23_37 : AC := .ret
def c23_35 : AC := .seq c23_36 c23_37
abbrev o23_39 : List AO := [oA 69 (.fieldAddr 45 (tm 4) 0) 0,
  oA 70 (.load 3 (tm 69)) 3,
  oA 71 (.binOp .eql 3 (tm 70) (ci 2) 3) 4,
  oA 68 (.assign (tm 71)) 4]
def c23_39 : AC := .region o23_39 []
abbrev o23_42 : List AO := [oA 72 (.move (tm 0)) 9,
  oA 73 (.fieldAddr 45 (tm 4) 3) 0,
  oA 74 (.load 43 (tm 73)) 43,
  oA 75 (.fieldAddr 45 (tm 5) 3) 0,
  oA 76 (.load 43 (tm 75)) 43,
  oA 77 (cF 40 #[(tm 72), (tm 74), (tm 76)] #[9, 43, 43]) 45,
  oN (.store 45 (tm 6) (tm 77)) 0,
  oA 7 (.assign (ci 0)) 27]
def c23_42 : AC := .region o23_42 []
def c23_43 : AC := .ret
def c23_41 : AC := .seq c23_42 c23_43
def c23_44 : AC := .skip
def c23_40 : AC := .cond (tm 68) c23_41 c23_44
def c23_38 : AC := .seq c23_39 c23_40
def c23_34 : AC := .cond (tm 58) c23_35 c23_38
def c23_32 : AC := .seq c23_33 c23_34
def c23_28 : AC := .cond (tm 50) c23_29 c23_32
def c23_26 : AC := .seq c23_27 c23_28
def c23_22 : AC := .cond (tm 34) c23_23 c23_26
def c23_20 : AC := .seq c23_21 c23_22
def c23_16 : AC := .cond (tm 27) c23_17 c23_20
def c23_14 : AC := .seq c23_15 c23_16
def c23_13 : AC := .block 0 c23_14
abbrev o23_46 : List AO := [oA 78 (.build 45 #[]) 45,
  oN (.store 45 (tm 6) (tm 78)) 0,
  oA 7 (.assign (ci 13)) 27]
def c23_46 : AC := .region o23_46 []
def c23_47 : AC := .ret
def c23_45 : AC := .seq c23_46 c23_47
def c23_12 : AC := .seq c23_13 c23_45
def c23_10 : AC := .seq c23_11 c23_12
def c23_2 : AC := .seq c23_3 c23_10
def c23_0 : AC := .seq c23_1 c23_2
theorem r23_0 : SeqR Cx 23 c23_0 c23_1 c23_2 ∧ RegR Cx 23 c23_1 o23_1 ∧ SeqR Cx 23 c23_2 c23_3 c23_10 ∧ SeqR Cx 23 c23_3 c23_4 c23_5 ∧ RegR Cx 23 c23_4 o23_4 ∧ CondR Cx 23 c23_5 (tm 22) c23_6 c23_9 ∧ SeqR Cx 23 c23_6 c23_7 c23_8 ∧ RegR Cx 23 c23_7 o23_7 := ⟨run_seq, run_region, run_seq, run_seq, run_region, run_condC, run_seq, run_region⟩
theorem r23_1 : RetR Cx 23 c23_8 ∧ SkipR Cx 23 c23_9 ∧ SeqR Cx 23 c23_10 c23_11 c23_12 ∧ RegR Cx 23 c23_11 o23_11 ∧ SeqR Cx 23 c23_12 c23_13 c23_45 ∧ BlkR Cx 23 c23_13 0 c23_14 ∧ SeqR Cx 23 c23_14 c23_15 c23_16 ∧ RegR Cx 23 c23_15 o23_15 := ⟨run_ret, run_skip, run_seq, run_region, run_seq, run_block, run_seq, run_region⟩
theorem r23_2 : CondR Cx 23 c23_16 (tm 27) c23_17 c23_20 ∧ SeqR Cx 23 c23_17 c23_18 c23_19 ∧ RegR Cx 23 c23_18 o23_18 ∧ RetR Cx 23 c23_19 ∧ SeqR Cx 23 c23_20 c23_21 c23_22 ∧ RegR Cx 23 c23_21 o23_21 ∧ CondR Cx 23 c23_22 (tm 34) c23_23 c23_26 ∧ SeqR Cx 23 c23_23 c23_24 c23_25 := ⟨run_condC, run_seq, run_region, run_ret, run_seq, run_region, run_condC, run_seq⟩
theorem r23_3 : RegR Cx 23 c23_24 o23_24 ∧ RetR Cx 23 c23_25 ∧ SeqR Cx 23 c23_26 c23_27 c23_28 ∧ RegR Cx 23 c23_27 o23_27 ∧ CondR Cx 23 c23_28 (tm 50) c23_29 c23_32 ∧ SeqR Cx 23 c23_29 c23_30 c23_31 ∧ RegR Cx 23 c23_30 o23_30 ∧ RetR Cx 23 c23_31 := ⟨run_region, run_ret, run_seq, run_region, run_condC, run_seq, run_region, run_ret⟩
theorem r23_4 : SeqR Cx 23 c23_32 c23_33 c23_34 ∧ RegR Cx 23 c23_33 o23_33 ∧ CondR Cx 23 c23_34 (tm 58) c23_35 c23_38 ∧ SeqR Cx 23 c23_35 c23_36 c23_37 ∧ RegR Cx 23 c23_36 o23_36 ∧ RetR Cx 23 c23_37 ∧ SeqR Cx 23 c23_38 c23_39 c23_40 ∧ RegR Cx 23 c23_39 o23_39 := ⟨run_seq, run_region, run_condC, run_seq, run_region, run_ret, run_seq, run_region⟩
theorem r23_5 : CondR Cx 23 c23_40 (tm 68) c23_41 c23_44 ∧ SeqR Cx 23 c23_41 c23_42 c23_43 ∧ RegR Cx 23 c23_42 o23_42 ∧ RetR Cx 23 c23_43 ∧ SkipR Cx 23 c23_44 ∧ SeqR Cx 23 c23_45 c23_46 c23_47 ∧ RegR Cx 23 c23_46 o23_46 ∧ RetR Cx 23 c23_47 := ⟨run_condC, run_seq, run_region, run_ret, run_skip, run_seq, run_region, run_ret⟩
theorem body23 : bodyOf Cx 23 = some c23_0 := by kernel_rfl
theorem res23 : resOf Cx 23 = some [.cell 6 45, .tmp 7] := by kernel_rfl
theorem pure23 : Cx.pure 23 = true := by kernel_rfl
abbrev o24_1 : List AO := [oA 2 (.assign (.const (.slice none 0 0))) 22]
def c24_1 : AC := .region o24_1 []
abbrev o24_4 : List AO := [oA 3 (.move (tm 0)) 22,
  oA 4 (.binOp .eql 22 (tm 3) (.const (.slice none 0 0)) 22) 4]
def c24_4 : AC := .region o24_4 []
abbrev o24_7 : List AO := [oA 2 (.assign (.const (.slice none 0 0))) 22]
def c24_7 : AC := .region o24_7 []
def c24_8 : AC := .ret
def c24_6 : AC := .seq c24_7 c24_8
def c24_9 : AC := .skip
def c24_5 : AC := .cond (tm 4) c24_6 c24_9
def c24_3 : AC := .seq c24_4 c24_5
abbrev o24_11 : List AO := [oA 5 (.buildSlice 22 0 #[]) 22,
  oA 6 (.move (tm 0)) 22,
  oA 7 (cB .append #[(tm 5), (tm 6)] #[22, 22]) 22,
  oA 2 (.assign (tm 7)) 22]
def c24_11 : AC := .region o24_11 []
def c24_12 : AC := .ret
def c24_10 : AC := .seq c24_11 c24_12
def c24_2 : AC := .seq c24_3 c24_10
def c24_0 : AC := .seq c24_1 c24_2
theorem r24_0 : SeqR Cx 24 c24_0 c24_1 c24_2 ∧ RegR Cx 24 c24_1 o24_1 ∧ SeqR Cx 24 c24_2 c24_3 c24_10 ∧ SeqR Cx 24 c24_3 c24_4 c24_5 ∧ RegR Cx 24 c24_4 o24_4 ∧ CondR Cx 24 c24_5 (tm 4) c24_6 c24_9 ∧ SeqR Cx 24 c24_6 c24_7 c24_8 ∧ RegR Cx 24 c24_7 o24_7 := ⟨run_seq, run_region, run_seq, run_seq, run_region, run_condC, run_seq, run_region⟩
theorem r24_1 : RetR Cx 24 c24_8 ∧ SkipR Cx 24 c24_9 ∧ SeqR Cx 24 c24_10 c24_11 c24_12 ∧ RegR Cx 24 c24_11 o24_11 ∧ RetR Cx 24 c24_12 := ⟨run_ret, run_skip, run_seq, run_region, run_ret⟩
theorem body24 : bodyOf Cx 24 = some c24_0 := by kernel_rfl
theorem res24 : resOf Cx 24 = some [.tmp 2] := by kernel_rfl
theorem pure24 : Cx.pure 24 = false := by kernel_rfl
abbrev o25_0 : List AO := [oA 4 (.move (tm 0)) 22,
  oA 5 (.move (tm 0)) 22,
  oA 6 (cB .len #[(tm 5)] #[22]) 3,
  oA 7 (.move (tm 1)) 60,
  oA 8 (cF 41 #[(tm 4), (tm 6), (tm 7)] #[22, 3, 60]) 0]
def c25_0 : AC := .region o25_0 []
theorem r25_0 : RegR Cx 25 c25_0 o25_0 := run_region
theorem body25 : bodyOf Cx 25 = some c25_0 := by kernel_rfl
theorem res25 : resOf Cx 25 = some [] := by kernel_rfl
theorem pure25 : Cx.pure 25 = false := by kernel_rfl
abbrev o26_1 : List AO := [oA 2 (.box 47 (tm 0)) 0,
  oA 3 (.box 47 (tm 1)) 0,
  oA 4 (.assign (ci 0)) 3]
def c26_1 : AC := .region o26_1 []
abbrev o26_3 : List AO := [oA 5 (.fieldAddr 47 (tm 2) 0) 0,
  oA 6 (.load 9 (tm 5)) 9,
  oA 7 (.fieldAddr 47 (tm 3) 0) 0,
  oA 8 (.load 9 (tm 7)) 9,
  oA 9 (cF 42 #[(tm 6), (tm 8)] #[9, 9]) 3,
  oA 4 (.assign (tm 9)) 3]
def c26_3 : AC := .region o26_3 []
def c26_4 : AC := .ret
def c26_2 : AC := .seq c26_3 c26_4
def c26_0 : AC := .seq c26_1 c26_2
theorem r26_0 : SeqR Cx 26 c26_0 c26_1 c26_2 ∧ RegR Cx 26 c26_1 o26_1 ∧ SeqR Cx 26 c26_2 c26_3 c26_4 ∧ RegR Cx 26 c26_3 o26_3 ∧ RetR Cx 26 c26_4 := ⟨run_seq, run_region, run_seq, run_region, run_ret⟩
theorem body26 : bodyOf Cx 26 = some c26_0 := by kernel_rfl
theorem res26 : resOf Cx 26 = some [.tmp 4] := by kernel_rfl
theorem pure26 : Cx.pure 26 = true := by kernel_rfl
abbrev o27_1 : List AO := [oA 2 (.assign (.const (.slice none 0 0))) 22]
def c27_1 : AC := .region o27_1 []
abbrev o27_3 : List AO := [oA 3 (.assign (ci 0)) 3]
def c27_3 : AC := .region o27_3 []
abbrev o27_6 : List AO := [oA 9 (.move (tm 0)) 48,
  oA 10 (cB .len #[(tm 9)] #[48]) 3,
  oA 11 (.move (ci 0)) 3]
def c27_6 : AC := .region o27_6 []
abbrev o27_10 : List AO := [oA 12 (.binOp .lss 3 (tm 11) (tm 10) 3) 0]
def c27_10 : AC := .region o27_10 []
def c27_13 : AC := .skip
def c27_14 : AC := .exit 0
def c27_12 : AC := .cond (tm 12) c27_13 c27_14
abbrev o27_18 : List AO := [oA 13 (.indexAddr 48 (tm 9) (tm 11)) 0,
  oA 14 (.load 22 (tm 13)) 22,
  oA 5 (.assign (tm 14)) 22]
def c27_18 : AC := .region o27_18 []
abbrev o27_20 : List AO := [oA 15 (.move (tm 3)) 3,
  oA 16 (.move (tm 5)) 22,
  oA 17 (cB .len #[(tm 16)] #[22]) 3,
  oA 18 (.binOp .add 3 (tm 15) (tm 17) 3) 3,
  oA 3 (.assign (tm 18)) 3]
def c27_20 : AC := .region o27_20 []
abbrev o27_22 : List AO := [oA 19 (.move (tm 3)) 3,
  oA 20 (.binOp .lss 3 (tm 19) (ci 0) 3) 4]
def c27_22 : AC := .region o27_22 []
abbrev o27_24 : List AO := [oA 21 (.makeInterface 9 (.const (.string ⟨#[108, 101, 110, 32, 111, 117, 116, 32, 111, 102, 32, 114, 97, 110, 103, 101]⟩))) 20,
  oN (.panic (tm 21)) 0]
def c27_24 : AC := .region o27_24 []
def c27_25 : AC := .skip
def c27_23 : AC := .cond (tm 20) c27_24 c27_25
def c27_21 : AC := .seq c27_22 c27_23
def c27_19 : AC := .seq c27_20 c27_21
def c27_17 : AC := .seq c27_18 c27_19
def c27_16 : AC := .block 1 c27_17
abbrev o27_26 : List AO := [oA 22 (.binOp .add 3 (tm 11) (ci 1) 3) 3,
  oA 11 (.move (tm 22)) 3]
def c27_26 : AC := .region o27_26 []
def c27_15 : AC := .seq c27_16 c27_26
def c27_11 : AC := .seq c27_12 c27_15
def c27_9 : AC := .seq c27_10 c27_11
def c27_8 : AC := .loop c27_9
def c27_7 : AC := .block 0 c27_8
def c27_5 : AC := .seq c27_6 c27_7
abbrev o27_28 : List AO := [oA 23 (.move (tm 3)) 3,
  oA 24 (cF 43 #[(.const (.slice none 0 0)), (tm 23)] #[22, 3]) 22,
  oA 6 (.assign (tm 24)) 22]
def c27_28 : AC := .region o27_28 []
abbrev o27_31 : List AO := [oA 25 (.move (tm 0)) 48,
  oA 26 (cB .len #[(tm 25)] #[48]) 3,
  oA 27 (.move (ci 0)) 3]
def c27_31 : AC := .region o27_31 []
abbrev o27_35 : List AO := [oA 28 (.binOp .lss 3 (tm 27) (tm 26) 3) 0]
def c27_35 : AC := .region o27_35 []
def c27_38 : AC := .skip
def c27_39 : AC := .exit 2
def c27_37 : AC := .cond (tm 28) c27_38 c27_39
abbrev o27_43 : List AO := [oA 29 (.indexAddr 48 (tm 25) (tm 27)) 0,
  oA 30 (.load 22 (tm 29)) 22,
  oA 8 (.assign (tm 30)) 22]
def c27_43 : AC := .region o27_43 []
abbrev o27_44 : List AO := [oA 31 (.move (tm 6)) 22,
  oA 32 (.move (tm 8)) 22,
  oA 33 (cB .append #[(tm 31), (tm 32)] #[22, 22]) 22,
  oA 6 (.assign (tm 33)) 22]
def c27_44 : AC := .region o27_44 []
def c27_42 : AC := .seq c27_43 c27_44
def c27_41 : AC := .block 3 c27_42
abbrev o27_45 : List AO := [oA 34 (.binOp .add 3 (tm 27) (ci 1) 3) 3,
  oA 27 (.move (tm 34)) 3]
def c27_45 : AC := .region o27_45 []
def c27_40 : AC := .seq c27_41 c27_45
def c27_36 : AC := .seq c27_37 c27_40
def c27_34 : AC := .seq c27_35 c27_36
def c27_33 : AC := .loop c27_34
def c27_32 : AC := .block 2 c27_33
def c27_30 : AC := .seq c27_31 c27_32
abbrev o27_47 : List AO := [oA 35 (.move (tm 6)) 22,
  oA 2 (.assign (tm 35)) 22]
def c27_47 : AC := .region o27_47 []
def c27_48 : AC := .ret
def c27_46 : AC := .seq c27_47 c27_48
def c27_29 : AC := .seq c27_30 c27_46
def c27_27 : AC := .seq c27_28 c27_29
def c27_4 : AC := .seq c27_5 c27_27
def c27_2 : AC := .seq c27_3 c27_4
def c27_0 : AC := .seq c27_1 c27_2
theorem r27_0 : SeqR Cx 27 c27_0 c27_1 c27_2 ∧ RegR Cx 27 c27_1 o27_1 ∧ SeqR Cx 27 c27_2 c27_3 c27_4 ∧ RegR Cx 27 c27_3 o27_3 ∧ SeqR Cx 27 c27_4 c27_5 c27_27 ∧ SeqR Cx 27 c27_5 c27_6 c27_7 ∧ RegR Cx 27 c27_6 o27_6 ∧ BlkR Cx 27 c27_7 0 c27_8 := ⟨run_seq, run_region, run_seq, run_region, run_seq, run_seq, run_region, run_block⟩
theorem r27_1 : LoopR Cx 27 c27_8 c27_9 ∧ SeqR Cx 27 c27_9 c27_10 c27_11 ∧ RegR Cx 27 c27_10 o27_10 ∧ SeqR Cx 27 c27_11 c27_12 c27_15 ∧ CondR Cx 27 c27_12 (tm 12) c27_13 c27_14 ∧ SkipR Cx 27 c27_13 ∧ ExitR Cx 27 c27_14 0 ∧ SeqR Cx 27 c27_15 c27_16 c27_26 := ⟨run_loop', run_seq, run_region, run_seq, run_condC, run_skip, run_exit_start, run_seq⟩
theorem r27_2 : BlkR Cx 27 c27_16 1 c27_17 ∧ SeqR Cx 27 c27_17 c27_18 c27_19 ∧ RegR Cx 27 c27_18 o27_18 ∧ SeqR Cx 27 c27_19 c27_20 c27_21 ∧ RegR Cx 27 c27_20 o27_20 ∧ SeqR Cx 27 c27_21 c27_22 c27_23 ∧ RegR Cx 27 c27_22 o27_22 ∧ CondR Cx 27 c27_23 (tm 20) c27_24 c27_25 := ⟨run_block, run_seq, run_region, run_seq, run_region, run_seq, run_region, run_condC⟩
theorem r27_3 : RegR Cx 27 c27_24 o27_24 ∧ SkipR Cx 27 c27_25 ∧ RegR Cx 27 c27_26 o27_26 ∧ SeqR Cx 27 c27_27 c27_28 c27_29 ∧ RegR Cx 27 c27_28 o27_28 ∧ SeqR Cx 27 c27_29 c27_30 c27_46 ∧ SeqR Cx 27 c27_30 c27_31 c27_32 ∧ RegR Cx 27 c27_31 o27_31 := ⟨run_region, run_skip, run_region, run_seq, run_region, run_seq, run_seq, run_region⟩
theorem r27_4 : BlkR Cx 27 c27_32 2 c27_33 ∧ LoopR Cx 27 c27_33 c27_34 ∧ SeqR Cx 27 c27_34 c27_35 c27_36 ∧ RegR Cx 27 c27_35 o27_35 ∧ SeqR Cx 27 c27_36 c27_37 c27_40 ∧ CondR Cx 27 c27_37 (tm 28) c27_38 c27_39 ∧ SkipR Cx 27 c27_38 ∧ ExitR Cx 27 c27_39 2 := ⟨run_block, run_loop', run_seq, run_region, run_seq, run_condC, run_skip, run_exit_start⟩
theorem r27_5 : SeqR Cx 27 c27_40 c27_41 c27_45 ∧ BlkR Cx 27 c27_41 3 c27_42 ∧ SeqR Cx 27 c27_42 c27_43 c27_44 ∧ RegR Cx 27 c27_43 o27_43 ∧ RegR Cx 27 c27_44 o27_44 ∧ RegR Cx 27 c27_45 o27_45 ∧ SeqR Cx 27 c27_46 c27_47 c27_48 ∧ RegR Cx 27 c27_47 o27_47 := ⟨run_seq, run_block, run_seq, run_region, run_region, run_region, run_seq, run_region⟩
theorem r27_6 : RetR Cx 27 c27_48 := run_ret
theorem body27 : bodyOf Cx 27 = some c27_0 := by kernel_rfl
theorem res27 : resOf Cx 27 = some [.tmp 2] := by kernel_rfl
theorem pure27 : Cx.pure 27 = false := by kernel_rfl
abbrev o28_1 : List AO := [oA 4 (.assign (.const (.bool false))) 4]
def c28_1 : AC := .region o28_1 []
abbrev o28_3 : List AO := [oA 5 (.move (tm 0)) 48,
  oA 6 (.move (tm 1)) 25,
  oA 7 (cF 44 #[(tm 5), (tm 6)] #[48, 25]) 3,
  oA 8 (.binOp .geq 3 (tm 7) (ci 0) 3) 4,
  oA 4 (.assign (tm 8)) 4]
def c28_3 : AC := .region o28_3 []
def c28_4 : AC := .ret
def c28_2 : AC := .seq c28_3 c28_4
def c28_0 : AC := .seq c28_1 c28_2
theorem r28_0 : SeqR Cx 28 c28_0 c28_1 c28_2 ∧ RegR Cx 28 c28_1 o28_1 ∧ SeqR Cx 28 c28_2 c28_3 c28_4 ∧ RegR Cx 28 c28_3 o28_3 ∧ RetR Cx 28 c28_4 := ⟨run_seq, run_region, run_seq, run_region, run_ret⟩
abbrev o29_1 : List AO := [oA 2 (.assign (.const (.bool false))) 4]
def c29_1 : AC := .region o29_1 []
abbrev o29_3 : List AO := [oA 3 (.move (tm 0)) 22,
  oA 4 (cF 21 #[(tm 3)] #[22]) 4,
  oA 5 (.unOp .not 4 (tm 4)) 4,
  oA 2 (.assign (tm 5)) 4]
def c29_3 : AC := .region o29_3 []
def c29_4 : AC := .ret
def c29_2 : AC := .seq c29_3 c29_4
def c29_0 : AC := .seq c29_1 c29_2
theorem r29_0 : SeqR Cx 29 c29_0 c29_1 c29_2 ∧ RegR Cx 29 c29_1 o29_1 ∧ SeqR Cx 29 c29_2 c29_3 c29_4 ∧ RegR Cx 29 c29_3 o29_3 ∧ RetR Cx 29 c29_4 := ⟨run_seq, run_region, run_seq, run_region, run_ret⟩
abbrev o30_1 : List AO := [oA 1 (.box 48 (tm 0)) 0,
  oA 2 (.assign (.const .nilFunc)) 63]
def c30_1 : AC := .region o30_1 []
abbrev o30_3 : List AO := [oA 3 (.makeFunc (.func 45) #[] #[(tm 1)]) 62,
  oA 2 (.assign (tm 3)) 63]
def c30_3 : AC := .region o30_3 []
def c30_4 : AC := .ret
def c30_2 : AC := .seq c30_3 c30_4
def c30_0 : AC := .seq c30_1 c30_2
theorem r30_0 : SeqR Cx 30 c30_0 c30_1 c30_2 ∧ RegR Cx 30 c30_1 o30_1 ∧ SeqR Cx 30 c30_2 c30_3 c30_4 ∧ RegR Cx 30 c30_3 o30_3 ∧ RetR Cx 30 c30_4 := ⟨run_seq, run_region, run_seq, run_region, run_ret⟩
abbrev o31_1 : List AO := [oA 4 (.box 45 (tm 1)) 0,
  oA 5 (.box 45 (tm 2)) 0,
  oA 6 (.alloc 45) 0,
  oA 7 (.assign (ci 0)) 3]
def c31_1 : AC := .region o31_1 []
abbrev o31_4 : List AO := [oA 9 (.move (tm 0)) 9,
  oA 10 (cF 49 #[(tm 9)] #[9]) 4,
  oA 11 (.unOp .not 4 (tm 10)) 4,
  oA 12 (.move (tm 11)) 4,
  oG 13 (.load 45 (tm 4)) 45 12 false,
  oG 14 (cF 50 #[(tm 13)] #[45]) 4 12 false,
  oG 15 (.unOp .not 4 (tm 14)) 4 12 false,
  oA 16 (.pick (tm 12) (.const (.bool true)) (tm 15)) 4,
  oA 17 (.move (tm 16)) 4,
  oG 18 (.load 45 (tm 5)) 45 17 false,
  oG 19 (cF 50 #[(tm 18)] #[45]) 4 17 false,
  oG 20 (.unOp .not 4 (tm 19)) 4 17 false,
  oA 21 (.pick (tm 17) (.const (.bool true)) (tm 20)) 4]
def c31_4 : AC := .region o31_4 []
abbrev o31_7 : List AO := [oA 22 (.build 45 #[]) 45,
  oN (.store 45 (tm 6) (tm 22)) 0,
  oA 7 (.assign (ci 1)) 3]
def c31_7 : AC := .region o31_7 []
def c31_8 : AC := .ret
def c31_6 : AC := .seq c31_7 c31_8
def c31_9 : AC := .skip
def c31_5 : AC := .cond (tm 21) c31_6 c31_9
def c31_3 : AC := .seq c31_4 c31_5
abbrev o31_12 : List AO := [oA 23 (.fieldAddr 45 (tm 4) 0) 0,
  oA 24 (.load 3 (tm 23)) 3,
  oA 25 (.fieldAddr 45 (tm 5) 0) 0,
  oA 26 (.load 3 (tm 25)) 3,
  oA 27 (.binOp .neq 3 (tm 24) (tm 26) 3) 4,
  oA 28 (.move (tm 27)) 4,
  oG 29 (.fieldAddr 45 (tm 4) 0) 0 28 false,
  oG 30 (.load 3 (tm 29)) 3 28 false,
  oG 31 (.binOp .eql 3 (tm 30) (ci 1) 3) 4 28 false,
  oG 32 (.move (tm 31)) 4 28 false,
  oG 33 (.move (tm 0)) 9 32 true,
  oG 34 (.binOp .eql 9 (tm 33) (.const (.string ⟨#[115, 117, 109]⟩)) 9) 4 32 true,
  oG 35 (.move (tm 34)) 4 32 true,
  oG 36 (.move (tm 0)) 9 35 false,
  oG 37 (.binOp .eql 9 (tm 36) (.const (.string ⟨#[103, 99, 100]⟩)) 9) 4 35 false,
  oG 38 (.pick (tm 35) (.const (.bool true)) (tm 37)) 4 32 true,
  oG 39 (.pick (tm 32) (tm 38) (.const (.bool false))) 4 28 false,
  oA 40 (.pick (tm 28) (.const (.bool true)) (tm 39)) 4]
def c31_12 : AC := .region o31_12 []
abbrev o31_15 : List AO := [oA 41 (.build 45 #[]) 45,
  oN (.store 45 (tm 6) (tm 41)) 0,
  oA 7 (.assign (ci 13)) 3]
def c31_15 : AC := .region o31_15 []
def c31_16 : AC := .ret
def c31_14 : AC := .seq c31_15 c31_16
def c31_17 : AC := .skip
def c31_13 : AC := .cond (tm 40) c31_14 c31_17
def c31_11 : AC := .seq c31_12 c31_13
abbrev o31_19 : List AO := [oA 42 (.load 45 (tm 4)) 45,
  oA 43 (.load 45 (tm 5)) 45,
  oA 44 (cF 51 #[(tm 42), (tm 43)] #[45, 45]) 3,
  oA 8 (.assign (tm 44)) 3]
def c31_19 : AC := .region o31_19 []
abbrev o31_22 : List AO := [oA 45 (.move (tm 0)) 9,
  oA 46 (.binOp .eql 9 (tm 45) (.const (.string ⟨#[109, 97, 120]⟩)) 9) 4]
def c31_22 : AC := .region o31_22 []
abbrev o31_24 : List AO := [oA 47 (.move (tm 8)) 3,
  oA 48 (.unOp .neg 3 (tm 47)) 3,
  oA 8 (.assign (tm 48)) 3]
def c31_24 : AC := .region o31_24 []
def c31_25 : AC := .skip
def c31_23 : AC := .cond (tm 46) c31_24 c31_25
def c31_21 : AC := .seq c31_22 c31_23
abbrev o31_28 : List AO := [oA 49 (.move (tm 0)) 9,
  oA 50 (.binOp .eql 9 (tm 49) (.const (.string ⟨#[109, 97, 120]⟩)) 9) 4,
  oA 51 (.move (tm 50)) 4,
  oG 52 (.move (tm 0)) 9 51 false,
  oG 53 (.binOp .eql 9 (tm 52) (.const (.string ⟨#[109, 105, 110]⟩)) 9) 4 51 false,
  oA 54 (.pick (tm 51) (.const (.bool true)) (tm 53)) 4]
def c31_28 : AC := .region o31_28 []
abbrev o31_32 : List AO := [oA 55 (.move (tm 8)) 3,
  oA 56 (.binOp .lss 3 (tm 55) (ci 0) 3) 4]
def c31_32 : AC := .region o31_32 []
abbrev o31_35 : List AO := [oA 57 (.load 45 (tm 4)) 45,
  oN (.store 45 (tm 6) (tm 57)) 0,
  oA 7 (.assign (ci 0)) 3]
def c31_35 : AC := .region o31_35 []
def c31_36 : AC := .ret
def c31_34 : AC := .seq c31_35 c31_36
def c31_37 : AC := .skip
def c31_33 : AC := .cond (tm 56) c31_34 c31_37
def c31_31 : AC := .seq c31_32 c31_33
abbrev o31_39 : List AO := [oA 58 (.load 45 (tm 5)) 45,
  oN (.store 45 (tm 6) (tm 58)) 0,
  oA 7 (.assign (ci 0)) 3]
def c31_39 : AC := .region o31_39 []
def c31_40 : AC := .ret
def c31_38 : AC := .seq c31_39 c31_40
def c31_30 : AC := .seq c31_31 c31_38
def c31_41 : AC := .skip
def c31_29 : AC := .cond (tm 54) c31_30 c31_41
def c31_27 : AC := .seq c31_28 c31_29
abbrev o31_44 : List AO := [oA 59 (.move (tm 0)) 9,
  oA 60 (.binOp .eql 9 (tm 59) (.const (.string ⟨#[115, 117, 109]⟩)) 9) 4]
def c31_44 : AC := .region o31_44 []
abbrev o31_48 : List AO := [oA 61 (.fieldAddr 45 (tm 4) 0) 0,
  oA 62 (.load 3 (tm 61)) 3,
  oA 63 (.binOp .eql 3 (tm 62) (ci 0) 3) 4]
def c31_48 : AC := .region o31_48 []
abbrev o31_51 : List AO := [oA 64 (.fieldAddr 45 (tm 4) 1) 0,
  oA 65 (.load 3 (tm 64)) 3,
  oA 66 (.fieldAddr 45 (tm 5) 1) 0,
  oA 67 (.load 3 (tm 66)) 3,
  oA 68 (.binOp .add 3 (tm 65) (tm 67) 3) 3,
  oA 69 (cF 52 #[(tm 68), (ci 9007199254740992)] #[3, 3]) 3,
  oA 70 (.build 45 #[(1, (tm 69))]) 45,
  oN (.store 45 (tm 6) (tm 70)) 0,
  oA 7 (.assign (ci 0)) 3]
def c31_51 : AC := .region o31_51 []
def c31_52 : AC := .ret
def c31_50 : AC := .seq c31_51 c31_52
def c31_53 : AC := .skip
def c31_49 : AC := .cond (tm 63) c31_50 c31_53
def c31_47 : AC := .seq c31_48 c31_49
abbrev o31_55 : List AO := [oA 71 (.fieldAddr 45 (tm 4) 3) 0,
  oA 72 (.fieldAddr 43 (tm 71) 0) 0,
  oA 73 (.load 3 (tm 72)) 3,
  oA 74 (.fieldAddr 45 (tm 5) 3) 0,
  oA 75 (.fieldAddr 43 (tm 74) 0) 0,
  oA 76 (.load 3 (tm 75)) 3,
  oA 77 (.binOp .add 3 (tm 73) (tm 76) 3) 3,
  oA 78 (cF 52 #[(tm 77), (ci 16777216)] #[3, 3]) 3,
  oA 79 (.fieldAddr 45 (tm 4) 3) 0,
  oA 80 (.fieldAddr 43 (tm 79) 1) 0,
  oA 81 (.load 3 (tm 80)) 3,
  oA 82 (.fieldAddr 45 (tm 5) 3) 0,
  oA 83 (.fieldAddr 43 (tm 82) 1) 0,
  oA 84 (.load 3 (tm 83)) 3,
  oA 85 (.binOp .add 3 (tm 81) (tm 84) 3) 3,
  oA 86 (cF 52 #[(tm 85), (ci 16777216)] #[3, 3]) 3,
  oA 87 (.build 43 #[(0, (tm 78)), (1, (tm 86))]) 43,
  oA 88 (.build 45 #[(0, (ci 2)), (3, (tm 87))]) 45,
  oN (.store 45 (tm 6) (tm 88)) 0,
  oA 7 (.assign (ci 0)) 3]
def c31_55 : AC := .region o31_55 []
def c31_56 : AC := .ret
def c31_54 : AC := .seq c31_55 c31_56
def c31_46 : AC := .seq c31_47 c31_54
def c31_57 : AC := .skip
def c31_45 : AC := .cond (tm 60) c31_46 c31_57
def c31_43 : AC := .seq c31_44 c31_45
abbrev o31_60 : List AO := [oA 89 (.fieldAddr 45 (tm 4) 0) 0,
  oA 90 (.load 3 (tm 89)) 3,
  oA 91 (.binOp .eql 3 (tm 90) (ci 2) 3) 4]
def c31_60 : AC := .region o31_60 []
abbrev o31_63 : List AO := [oA 92 (.fieldAddr 45 (tm 4) 3) 0,
  oA 93 (.load 43 (tm 92)) 43,
  oA 94 (.fieldAddr 45 (tm 5) 3) 0,
  oA 95 (.load 43 (tm 94)) 43,
  oA 96 (cF 53 #[(tm 93), (tm 95)] #[43, 43]) 43,
  oA 97 (.build 45 #[(0, (ci 2)), (3, (tm 96))]) 45,
  oN (.store 45 (tm 6) (tm 97)) 0,
  oA 7 (.assign (ci 0)) 3]
def c31_63 : AC := .region o31_63 []
def c31_64 : AC := .ret
def c31_62 : AC := .seq c31_63 c31_64
def c31_65 : AC := .skip
def c31_61 : AC := .cond (tm 91) c31_62 c31_65
def c31_59 : AC := .seq c31_60 c31_61
abbrev o31_67 : List AO := [oA 98 (.fieldAddr 45 (tm 4) 1) 0,
  oA 99 (.load 3 (tm 98)) 3,
  oA 100 (.fieldAddr 45 (tm 4) 1) 0,
  oA 101 (.load 3 (tm 100)) 3,
  oA 102 (.unOp .neg 3 (tm 101)) 3,
  oA 103 (cB .max #[(tm 99), (tm 102)] #[3, 3]) 3,
  oA 104 (.fieldAddr 45 (tm 5) 1) 0,
  oA 105 (.load 3 (tm 104)) 3,
  oA 106 (.fieldAddr 45 (tm 5) 1) 0,
  oA 107 (.load 3 (tm 106)) 3,
  oA 108 (.unOp .neg 3 (tm 107)) 3,
  oA 109 (cB .max #[(tm 105), (tm 108)] #[3, 3]) 3,
  oA 110 (cF 54 #[(tm 103), (tm 109)] #[3, 3]) 3,
  oA 111 (.build 45 #[(1, (tm 110))]) 45,
  oN (.store 45 (tm 6) (tm 111)) 0,
  oA 7 (.assign (ci 0)) 3]
def c31_67 : AC := .region o31_67 []
def c31_68 : AC := .ret
def c31_66 : AC := .seq c31_67 c31_68
def c31_58 : AC := .seq c31_59 c31_66
def c31_42 : AC := .seq c31_43 c31_58
def c31_26 : AC := .seq c31_27 c31_42
def c31_20 : AC := .seq c31_21 c31_26
def c31_18 : AC := .seq c31_19 c31_20
def c31_10 : AC := .seq c31_11 c31_18
def c31_2 : AC := .seq c31_3 c31_10
def c31_0 : AC := .seq c31_1 c31_2
theorem r31_0 : SeqR Cx 31 c31_0 c31_1 c31_2 ∧ RegR Cx 31 c31_1 o31_1 ∧ SeqR Cx 31 c31_2 c31_3 c31_10 ∧ SeqR Cx 31 c31_3 c31_4 c31_5 ∧ RegR Cx 31 c31_4 o31_4 ∧ CondR Cx 31 c31_5 (tm 21) c31_6 c31_9 ∧ SeqR Cx 31 c31_6 c31_7 c31_8 ∧ RegR Cx 31 c31_7 o31_7 := ⟨run_seq, run_region, run_seq, run_seq, run_region, run_condC, run_seq, run_region⟩
theorem r31_1 : RetR Cx 31 c31_8 ∧ SkipR Cx 31 c31_9 ∧ SeqR Cx 31 c31_10 c31_11 c31_18 ∧ SeqR Cx 31 c31_11 c31_12 c31_13 ∧ RegR Cx 31 c31_12 o31_12 ∧ CondR Cx 31 c31_13 (tm 40) c31_14 c31_17 ∧ SeqR Cx 31 c31_14 c31_15 c31_16 ∧ RegR Cx 31 c31_15 o31_15 := ⟨run_ret, run_skip, run_seq, run_seq, run_region, run_condC, run_seq, run_region⟩
theorem r31_2 : RetR Cx 31 c31_16 ∧ SkipR Cx 31 c31_17 ∧ SeqR Cx 31 c31_18 c31_19 c31_20 ∧ RegR Cx 31 c31_19 o31_19 ∧ SeqR Cx 31 c31_20 c31_21 c31_26 ∧ SeqR Cx 31 c31_21 c31_22 c31_23 ∧ RegR Cx 31 c31_22 o31_22 ∧ CondR Cx 31 c31_23 (tm 46) c31_24 c31_25 := ⟨run_ret, run_skip, run_seq, run_region, run_seq, run_seq, run_region, run_condC⟩
theorem r31_3 : RegR Cx 31 c31_24 o31_24 ∧ SkipR Cx 31 c31_25 ∧ SeqR Cx 31 c31_26 c31_27 c31_42 ∧ SeqR Cx 31 c31_27 c31_28 c31_29 ∧ RegR Cx 31 c31_28 o31_28 ∧ CondR Cx 31 c31_29 (tm 54) c31_30 c31_41 ∧ SeqR Cx 31 c31_30 c31_31 c31_38 ∧ SeqR Cx 31 c31_31 c31_32 c31_33 := ⟨run_region, run_skip, run_seq, run_seq, run_region, run_condC, run_seq, run_seq⟩
theorem r31_4 : RegR Cx 31 c31_32 o31_32 ∧ CondR Cx 31 c31_33 (tm 56) c31_34 c31_37 ∧ SeqR Cx 31 c31_34 c31_35 c31_36 ∧ RegR Cx 31 c31_35 o31_35 ∧ RetR Cx 31 c31_36 ∧ SkipR Cx 31 c31_37 ∧ SeqR Cx 31 c31_38 c31_39 c31_40 ∧ RegR Cx 31 c31_39 o31_39 := ⟨run_region, run_condC, run_seq, run_region, run_ret, run_skip, run_seq, run_region⟩
theorem r31_5 : RetR Cx 31 c31_40 ∧ SkipR Cx 31 c31_41 ∧ SeqR Cx 31 c31_42 c31_43 c31_58 ∧ SeqR Cx 31 c31_43 c31_44 c31_45 ∧ RegR Cx 31 c31_44 o31_44 ∧ CondR Cx 31 c31_45 (tm 60) c31_46 c31_57 ∧ SeqR Cx 31 c31_46 c31_47 c31_54 ∧ SeqR Cx 31 c31_47 c31_48 c31_49 := ⟨run_ret, run_skip, run_seq, run_seq, run_region, run_condC, run_seq, run_seq⟩
theorem r31_6 : RegR Cx 31 c31_48 o31_48 ∧ CondR Cx 31 c31_49 (tm 63) c31_50 c31_53 ∧ SeqR Cx 31 c31_50 c31_51 c31_52 ∧ RegR Cx 31 c31_51 o31_51 ∧ RetR Cx 31 c31_52 ∧ SkipR Cx 31 c31_53 ∧ SeqR Cx 31 c31_54 c31_55 c31_56 ∧ RegR Cx 31 c31_55 o31_55 := ⟨run_region, run_condC, run_seq, run_region, run_ret, run_skip, run_seq, run_region⟩
theorem r31_7 : RetR Cx 31 c31_56 ∧ SkipR Cx 31 c31_57 ∧ SeqR Cx 31 c31_58 c31_59 c31_66 ∧ SeqR Cx 31 c31_59 c31_60 c31_61 ∧ RegR Cx 31 c31_60 o31_60 ∧ CondR Cx 31 c31_61 (tm 91) c31_62 c31_65 ∧ SeqR Cx 31 c31_62 c31_63 c31_64 ∧ RegR Cx 31 c31_63 o31_63 := ⟨run_ret, run_skip, run_seq, run_seq, run_region, run_condC, run_seq, run_region⟩
theorem r31_8 : RetR Cx 31 c31_64 ∧ SkipR Cx 31 c31_65 ∧ SeqR Cx 31 c31_66 c31_67 c31_68 ∧ RegR Cx 31 c31_67 o31_67 ∧ RetR Cx 31 c31_68 := ⟨run_ret, run_skip, run_seq, run_region, run_ret⟩
abbrev o32_1 : List AO := [oA 4 (.assign (ci 0)) 3]
def c32_1 : AC := .region o32_1 []
abbrev o32_4 : List AO := [oA 6 (.move (tm 0)) 22,
  oA 7 (cB .len #[(tm 6)] #[22]) 3,
  oA 8 (.move (ci 0)) 3]
def c32_4 : AC := .region o32_4 []
abbrev o32_8 : List AO := [oA 9 (.binOp .lss 3 (tm 8) (tm 7) 3) 0]
def c32_8 : AC := .region o32_8 []
def c32_11 : AC := .skip
def c32_12 : AC := .exit 0
def c32_10 : AC := .cond (tm 9) c32_11 c32_12
abbrev o32_16 : List AO := [oA 10 (.move (tm 8)) 3,
  oA 5 (.assign (tm 10)) 3]
def c32_16 : AC := .region o32_16 []
abbrev o32_18 : List AO := [oA 11 (.move (tm 1)) 52,
  oA 12 (.move (tm 0)) 22,
  oA 13 (.move (tm 5)) 3,
  oA 14 (.indexAddr 22 (tm 12) (tm 13)) 0,
  oA 15 (.load 47 (tm 14)) 47,
  oA 16 (cV 11 #[(tm 15)] #[47]) 4]
def c32_18 : AC := .region o32_18 []
abbrev o32_21 : List AO := [oA 17 (.move (tm 5)) 3,
  oA 4 (.assign (tm 17)) 3]
def c32_21 : AC := .region o32_21 []
def c32_22 : AC := .ret
def c32_20 : AC := .seq c32_21 c32_22
def c32_23 : AC := .skip
def c32_19 : AC := .cond (tm 16) c32_20 c32_23
def c32_17 : AC := .seq c32_18 c32_19
def c32_15 : AC := .seq c32_16 c32_17
def c32_14 : AC := .block 1 c32_15
abbrev o32_24 : List AO := [oA 18 (.binOp .add 3 (tm 8) (ci 1) 3) 3,
  oA 8 (.move (tm 18)) 3]
def c32_24 : AC := .region o32_24 []
def c32_13 : AC := .seq c32_14 c32_24
def c32_9 : AC := .seq c32_10 c32_13
def c32_7 : AC := .seq c32_8 c32_9
def c32_6 : AC := .loop c32_7
def c32_5 : AC := .block 0 c32_6
def c32_3 : AC := .seq c32_4 c32_5
abbrev o32_26 : List AO := [oA 4 (.assign (ci (-1))) 3]
def c32_26 : AC := .region o32_26 []
def c32_27 : AC := .ret
def c32_25 : AC := .seq c32_26 c32_27
def c32_2 : AC := .seq c32_3 c32_25
def c32_0 : AC := .seq c32_1 c32_2
theorem r32_0 : SeqR Cx 32 c32_0 c32_1 c32_2 ∧ RegR Cx 32 c32_1 o32_1 ∧ SeqR Cx 32 c32_2 c32_3 c32_25 ∧ SeqR Cx 32 c32_3 c32_4 c32_5 ∧ RegR Cx 32 c32_4 o32_4 ∧ BlkR Cx 32 c32_5 0 c32_6 ∧ LoopR Cx 32 c32_6 c32_7 ∧ SeqR Cx 32 c32_7 c32_8 c32_9 := ⟨run_seq, run_region, run_seq, run_seq, run_region, run_block, run_loop', run_seq⟩
theorem r32_1 : RegR Cx 32 c32_8 o32_8 ∧ SeqR Cx 32 c32_9 c32_10 c32_13 ∧ CondR Cx 32 c32_10 (tm 9) c32_11 c32_12 ∧ SkipR Cx 32 c32_11 ∧ ExitR Cx 32 c32_12 0 ∧ SeqR Cx 32 c32_13 c32_14 c32_24 ∧ BlkR Cx 32 c32_14 1 c32_15 ∧ SeqR Cx 32 c32_15 c32_16 c32_17 := ⟨run_region, run_seq, run_condC, run_skip, run_exit_start, run_seq, run_block, run_seq⟩
theorem r32_2 : RegR Cx 32 c32_16 o32_16 ∧ SeqR Cx 32 c32_17 c32_18 c32_19 ∧ RegR Cx 32 c32_18 o32_18 ∧ CondR Cx 32 c32_19 (tm 16) c32_20 c32_23 ∧ SeqR Cx 32 c32_20 c32_21 c32_22 ∧ RegR Cx 32 c32_21 o32_21 ∧ RetR Cx 32 c32_22 ∧ SkipR Cx 32 c32_23 := ⟨run_region, run_seq, run_region, run_condC, run_seq, run_region, run_ret, run_skip⟩
theorem r32_3 : RegR Cx 32 c32_24 o32_24 ∧ SeqR Cx 32 c32_25 c32_26 c32_27 ∧ RegR Cx 32 c32_26 o32_26 ∧ RetR Cx 32 c32_27 := ⟨run_region, run_seq, run_region, run_ret⟩
theorem body32 : bodyOf Cx 32 = some c32_0 := by kernel_rfl
theorem res32 : resOf Cx 32 = some [.tmp 4] := by kernel_rfl
theorem pure32 : Cx.pure 32 = false := by kernel_rfl
abbrev o33_1 : List AO := [oA 1 (.box 43 (tm 0)) 0,
  oA 2 (.assign (.const (.bool false))) 4]
def c33_1 : AC := .region o33_1 []
abbrev o33_3 : List AO := [oA 3 (.fieldAddr 43 (tm 1) 0) 0,
  oA 4 (.load 3 (tm 3)) 3,
  oA 5 (cF 55 #[(tm 4)] #[3]) 4,
  oA 6 (.move (tm 5)) 4,
  oG 7 (.fieldAddr 43 (tm 1) 1) 0 6 true,
  oG 8 (.load 3 (tm 7)) 3 6 true,
  oG 9 (cF 55 #[(tm 8)] #[3]) 4 6 true,
  oA 10 (.pick (tm 6) (tm 9) (.const (.bool false))) 4,
  oA 2 (.assign (tm 10)) 4]
def c33_3 : AC := .region o33_3 []
def c33_4 : AC := .ret
def c33_2 : AC := .seq c33_3 c33_4
def c33_0 : AC := .seq c33_1 c33_2
theorem r33_0 : SeqR Cx 33 c33_0 c33_1 c33_2 ∧ RegR Cx 33 c33_1 o33_1 ∧ SeqR Cx 33 c33_2 c33_3 c33_4 ∧ RegR Cx 33 c33_3 o33_3 ∧ RetR Cx 33 c33_4 := ⟨run_seq, run_region, run_seq, run_region, run_ret⟩
theorem body33 : bodyOf Cx 33 = some c33_0 := by kernel_rfl
theorem res33 : resOf Cx 33 = some [.tmp 2] := by kernel_rfl
theorem pure33 : Cx.pure 33 = true := by kernel_rfl
abbrev o34_1 : List AO := [oA 4 (.assign (.const (.bool false))) 4]
def c34_1 : AC := .region o34_1 []
abbrev o34_4 : List AO := [oA 6 (.move (tm 0)) 22,
  oA 7 (cB .len #[(tm 6)] #[22]) 3,
  oA 8 (.binOp .sub 3 (tm 7) (ci 1) 3) 3,
  oA 5 (.assign (tm 8)) 3]
def c34_4 : AC := .region o34_4 []
abbrev o34_9 : List AO := [oA 9 (.move (tm 5)) 3,
  oA 10 (.binOp .gtr 3 (tm 9) (ci 0) 3) 4]
def c34_9 : AC := .region o34_9 []
def c34_11 : AC := .skip
def c34_12 : AC := .exit 0
def c34_10 : AC := .cond (tm 10) c34_11 c34_12
def c34_8 : AC := .seq c34_9 c34_10
abbrev o34_16 : List AO := [oA 13 (.move (tm 1)) 60,
  oA 14 (.move (tm 0)) 22,
  oA 15 (.move (tm 5)) 3,
  oA 16 (.indexAddr 22 (tm 14) (tm 15)) 0,
  oA 17 (.load 47 (tm 16)) 47,
  oA 18 (.move (tm 0)) 22,
  oA 19 (.move (tm 5)) 3,
  oA 20 (.binOp .sub 3 (tm 19) (ci 1) 3) 3,
  oA 21 (.indexAddr 22 (tm 18) (tm 20)) 0,
  oA 22 (.load 47 (tm 21)) 47,
  oA 23 (cV 13 #[(tm 17), (tm 22)] #[47, 47]) 3,
  oA 24 (.binOp .lss 3 (tm 23) (ci 0) 3) 4]
def c34_16 : AC := .region o34_16 []
abbrev o34_19 : List AO := [oA 4 (.assign (.const (.bool false))) 4]
def c34_19 : AC := .region o34_19 []
def c34_20 : AC := .ret
def c34_18 : AC := .seq c34_19 c34_20
def c34_21 : AC := .skip
def c34_17 : AC := .cond (tm 24) c34_18 c34_21
def c34_15 : AC := .seq c34_16 c34_17
def c34_14 : AC := .block 1 c34_15
abbrev o34_22 : List AO := [oA 11 (.move (tm 5)) 3,
  oA 12 (.binOp .sub 3 (tm 11) (ci 1) 3) 3,
  oA 5 (.assign (tm 12)) 3]
def c34_22 : AC := .region o34_22 []
def c34_13 : AC := .seq c34_14 c34_22
def c34_7 : AC := .seq c34_8 c34_13
def c34_6 : AC := .loop c34_7
def c34_5 : AC := .block 0 c34_6
def c34_3 : AC := .seq c34_4 c34_5
abbrev o34_24 : List AO := [oA 4 (.assign (.const (.bool true))) 4]
def c34_24 : AC := .region o34_24 []
def c34_25 : AC := .ret
def c34_23 : AC := .seq c34_24 c34_25
def c34_2 : AC := .seq c34_3 c34_23
def c34_0 : AC := .seq c34_1 c34_2
theorem r34_0 : SeqR Cx 34 c34_0 c34_1 c34_2 ∧ RegR Cx 34 c34_1 o34_1 ∧ SeqR Cx 34 c34_2 c34_3 c34_23 ∧ SeqR Cx 34 c34_3 c34_4 c34_5 ∧ RegR Cx 34 c34_4 o34_4 ∧ BlkR Cx 34 c34_5 0 c34_6 ∧ LoopR Cx 34 c34_6 c34_7 ∧ SeqR Cx 34 c34_7 c34_8 c34_13 := ⟨run_seq, run_region, run_seq, run_seq, run_region, run_block, run_loop', run_seq⟩
theorem r34_1 : SeqR Cx 34 c34_8 c34_9 c34_10 ∧ RegR Cx 34 c34_9 o34_9 ∧ CondR Cx 34 c34_10 (tm 10) c34_11 c34_12 ∧ SkipR Cx 34 c34_11 ∧ ExitR Cx 34 c34_12 0 ∧ SeqR Cx 34 c34_13 c34_14 c34_22 ∧ BlkR Cx 34 c34_14 1 c34_15 ∧ SeqR Cx 34 c34_15 c34_16 c34_17 := ⟨run_seq, run_region, run_condC, run_skip, run_exit_start, run_seq, run_block, run_seq⟩
theorem r34_2 : RegR Cx 34 c34_16 o34_16 ∧ CondR Cx 34 c34_17 (tm 24) c34_18 c34_21 ∧ SeqR Cx 34 c34_18 c34_19 c34_20 ∧ RegR Cx 34 c34_19 o34_19 ∧ RetR Cx 34 c34_20 ∧ SkipR Cx 34 c34_21 ∧ RegR Cx 34 c34_22 o34_22 ∧ SeqR Cx 34 c34_23 c34_24 c34_25 := ⟨run_region, run_condC, run_seq, run_region, run_ret, run_skip, run_region, run_seq⟩
theorem r34_3 : RegR Cx 34 c34_24 o34_24 ∧ RetR Cx 34 c34_25 := ⟨run_region, run_ret⟩
theorem body34 : bodyOf Cx 34 = some c34_0 := by kernel_rfl
theorem res34 : resOf Cx 34 = some [.tmp 4] := by kernel_rfl
theorem pure34 : Cx.pure 34 = false := by kernel_rfl
abbrev o35_1 : List AO := [oA 3 (.assign (.const (.slice none 0 0))) 56]
def c35_1 : AC := .region o35_1 []
abbrev o35_3 : List AO := [oA 4 (.assign (.const (.string ⟨#[]⟩))) 9]
def c35_3 : AC := .region o35_3 []
abbrev o35_6 : List AO := [oA 7 (.load 22 (tm 1)) 22,
  oA 8 (cF 9 #[(tm 7)] #[22]) 22,
  oA 9 (cB .len #[(tm 8)] #[22]) 3,
  oA 10 (.move (ci 0)) 3]
def c35_6 : AC := .region o35_6 []
abbrev o35_10 : List AO := [oA 11 (.binOp .lss 3 (tm 10) (tm 9) 3) 0]
def c35_10 : AC := .region o35_10 []
def c35_13 : AC := .skip
def c35_14 : AC := .exit 0
def c35_12 : AC := .cond (tm 11) c35_13 c35_14
abbrev o35_18 : List AO := [oA 12 (.move (tm 10)) 3,
  oA 13 (.indexAddr 22 (tm 8) (tm 10)) 0,
  oA 14 (.load 47 (tm 13)) 47,
  oA 6 (.alloc 47) 0,
  oA 5 (.assign (tm 12)) 3,
  oN (.store 47 (tm 6) (tm 14)) 0]
def c35_18 : AC := .region o35_18 []
abbrev o35_21 : List AO := [oA 15 (.move (tm 5)) 3,
  oA 16 (.binOp .gtr 3 (tm 15) (ci 0) 3) 4,
  oA 17 (.move (tm 16)) 4,
  oG 18 (.fieldAddr 47 (tm 6) 0) 0 17 true,
  oG 19 (.load 9 (tm 18)) 9 17 true,
  oG 20 (.move (tm 4)) 9 17 true,
  oG 21 (.binOp .neq 9 (tm 19) (tm 20) 9) 4 17 true,
  oA 22 (.pick (tm 17) (tm 21) (.const (.bool false))) 4]
def c35_21 : AC := .region o35_21 []
abbrev o35_25 : List AO := [oA 23 (.move (tm 0)) 72,
  oA 24 (.move (tm 4)) 9,
  oA 25 (.move (tm 3)) 56,
  oA 26 (cV 23 #[(tm 24), (tm 25)] #[9, 56]) 4,
  oA 27 (.unOp .not 4 (tm 26)) 4]
def c35_25 : AC := .region o35_25 []
def c35_27 : AC := .ret
def c35_28 : AC := .skip
def c35_26 : AC := .cond (tm 27) c35_27 c35_28
def c35_24 : AC := .seq c35_25 c35_26
abbrev o35_29 : List AO := [oA 3 (.assign (.const (.slice none 0 0))) 56]
def c35_29 : AC := .region o35_29 []
def c35_23 : AC := .seq c35_24 c35_29
def c35_30 : AC := .skip
def c35_22 : AC := .cond (tm 22) c35_23 c35_30
def c35_20 : AC := .seq c35_21 c35_22
abbrev o35_31 : List AO := [oA 28 (.fieldAddr 47 (tm 6) 0) 0,
  oA 29 (.load 9 (tm 28)) 9,
  oA 30 (.move (tm 3)) 56,
  oA 31 (.fieldAddr 47 (tm 6) 1) 0,
  oA 32 (.load 45 (tm 31)) 45,
  oA 33 (.buildSlice 56 1 #[(0, (tm 32))]) 56,
  oA 34 (cB .append #[(tm 30), (tm 33)] #[56, 56]) 56,
  oA 4 (.assign (tm 29)) 9,
  oA 3 (.assign (tm 34)) 56]
def c35_31 : AC := .region o35_31 [[], [], [], [], [], [], [28], [], []]
def c35_19 : AC := .seq c35_20 c35_31
def c35_17 : AC := .seq c35_18 c35_19
def c35_16 : AC := .block 1 c35_17
abbrev o35_32 : List AO := [oA 35 (.binOp .add 3 (tm 10) (ci 1) 3) 3,
  oA 10 (.move (tm 35)) 3]
def c35_32 : AC := .region o35_32 []
def c35_15 : AC := .seq c35_16 c35_32
def c35_11 : AC := .seq c35_12 c35_15
def c35_9 : AC := .seq c35_10 c35_11
def c35_8 : AC := .loop c35_9
def c35_7 : AC := .block 0 c35_8
def c35_5 : AC := .seq c35_6 c35_7
abbrev o35_34 : List AO := [oA 36 (.move (tm 3)) 56,
  oA 37 (cB .len #[(tm 36)] #[56]) 3,
  oA 38 (.binOp .gtr 3 (tm 37) (ci 0) 3) 4]
def c35_34 : AC := .region o35_34 []
abbrev o35_36 : List AO := [oA 39 (.move (tm 0)) 72,
  oA 40 (.move (tm 4)) 9,
  oA 41 (.move (tm 3)) 56,
  oA 42 (cV 39 #[(tm 40), (tm 41)] #[9, 56]) 4]
def c35_36 : AC := .region o35_36 []
def c35_37 : AC := .skip
def c35_35 : AC := .cond (tm 38) c35_36 c35_37
def c35_33 : AC := .seq c35_34 c35_35
def c35_4 : AC := .seq c35_5 c35_33
def c35_2 : AC := .seq c35_3 c35_4
def c35_0 : AC := .seq c35_1 c35_2
theorem r35_0 : SeqR Cx 35 c35_0 c35_1 c35_2 ∧ RegR Cx 35 c35_1 o35_1 ∧ SeqR Cx 35 c35_2 c35_3 c35_4 ∧ RegR Cx 35 c35_3 o35_3 ∧ SeqR Cx 35 c35_4 c35_5 c35_33 ∧ SeqR Cx 35 c35_5 c35_6 c35_7 ∧ RegR Cx 35 c35_6 o35_6 ∧ BlkR Cx 35 c35_7 0 c35_8 := ⟨run_seq, run_region, run_seq, run_region, run_seq, run_seq, run_region, run_block⟩
theorem r35_1 : LoopR Cx 35 c35_8 c35_9 ∧ SeqR Cx 35 c35_9 c35_10 c35_11 ∧ RegR Cx 35 c35_10 o35_10 ∧ SeqR Cx 35 c35_11 c35_12 c35_15 ∧ CondR Cx 35 c35_12 (tm 11) c35_13 c35_14 ∧ SkipR Cx 35 c35_13 ∧ ExitR Cx 35 c35_14 0 ∧ SeqR Cx 35 c35_15 c35_16 c35_32 := ⟨run_loop', run_seq, run_region, run_seq, run_condC, run_skip, run_exit_start, run_seq⟩
theorem r35_2 : BlkR Cx 35 c35_16 1 c35_17 ∧ SeqR Cx 35 c35_17 c35_18 c35_19 ∧ RegR Cx 35 c35_18 o35_18 ∧ SeqR Cx 35 c35_19 c35_20 c35_31 ∧ SeqR Cx 35 c35_20 c35_21 c35_22 ∧ RegR Cx 35 c35_21 o35_21 ∧ CondR Cx 35 c35_22 (tm 22) c35_23 c35_30 ∧ SeqR Cx 35 c35_23 c35_24 c35_29 := ⟨run_block, run_seq, run_region, run_seq, run_seq, run_region, run_condC, run_seq⟩
theorem r35_3 : SeqR Cx 35 c35_24 c35_25 c35_26 ∧ RegR Cx 35 c35_25 o35_25 ∧ CondR Cx 35 c35_26 (tm 27) c35_27 c35_28 ∧ RetR Cx 35 c35_27 ∧ SkipR Cx 35 c35_28 ∧ RegR Cx 35 c35_29 o35_29 ∧ SkipR Cx 35 c35_30 ∧ RegD Cx 35 c35_31 o35_31 [[], [], [], [], [], [], [28], [], []] := ⟨run_seq, run_region, run_condC, run_ret, run_skip, run_region, run_skip, run_regionD⟩
theorem r35_4 : RegR Cx 35 c35_32 o35_32 ∧ SeqR Cx 35 c35_33 c35_34 c35_35 ∧ RegR Cx 35 c35_34 o35_34 ∧ CondR Cx 35 c35_35 (tm 38) c35_36 c35_37 ∧ RegR Cx 35 c35_36 o35_36 ∧ SkipR Cx 35 c35_37 := ⟨run_region, run_seq, run_region, run_condC, run_region, run_skip⟩
theorem body35 : bodyOf Cx 35 = some c35_0 := by kernel_rfl
theorem res35 : resOf Cx 35 = some [] := by kernel_rfl
theorem pure35 : Cx.pure 35 = false := by kernel_rfl
abbrev o36_1 : List AO := [oA 4 (.assign (.const (.bool false))) 4]
def c36_1 : AC := .region o36_1 []
abbrev o36_3 : List AO := [oA 5 (.move (tm 0)) 26,
  oA 6 (.move (tm 1)) 9,
  oA 7 (cF 56 #[(tm 5), (tm 6)] #[26, 9]) 3,
  oA 8 (.binOp .geq 3 (tm 7) (ci 0) 3) 4,
  oA 4 (.assign (tm 8)) 4]
def c36_3 : AC := .region o36_3 []
def c36_4 : AC := .ret
def c36_2 : AC := .seq c36_3 c36_4
def c36_0 : AC := .seq c36_1 c36_2
theorem r36_0 : SeqR Cx 36 c36_0 c36_1 c36_2 ∧ RegR Cx 36 c36_1 o36_1 ∧ SeqR Cx 36 c36_2 c36_3 c36_4 ∧ RegR Cx 36 c36_3 o36_3 ∧ RetR Cx 36 c36_4 := ⟨run_seq, run_region, run_seq, run_region, run_ret⟩
theorem body36 : bodyOf Cx 36 = some c36_0 := by kernel_rfl
theorem res36 : resOf Cx 36 = some [.tmp 4] := by kernel_rfl
theorem pure36 : Cx.pure 36 = true := by kernel_rfl
abbrev o37_1 : List AO := [oA 0 (.assign (.const (.slice none 0 0))) 26]
def c37_1 : AC := .region o37_1 []
abbrev o37_3 : List AO := [oA 1 (.buildSlice 26 4 #[(0, (.const (.string ⟨#[115, 117, 109]⟩))), (1, (.const (.string ⟨#[109, 97, 120]⟩))), (2, (.const (.string ⟨#[109, 105, 110]⟩))), (3, (.const (.string ⟨#[103, 99, 100]⟩)))]) 26,
  oA 0 (.assign (tm 1)) 26]
def c37_3 : AC := .region o37_3 []
def c37_4 : AC := .ret
def c37_2 : AC := .seq c37_3 c37_4
def c37_0 : AC := .seq c37_1 c37_2
theorem r37_0 : SeqR Cx 37 c37_0 c37_1 c37_2 ∧ RegR Cx 37 c37_1 o37_1 ∧ SeqR Cx 37 c37_2 c37_3 c37_4 ∧ RegR Cx 37 c37_3 o37_3 ∧ RetR Cx 37 c37_4 := ⟨run_seq, run_region, run_seq, run_region, run_ret⟩
theorem pure37 : Cx.pure 37 = true := by kernel_rfl
abbrev o38_1 : List AO := [oA 2 (.box 45 (tm 0)) 0,
  oA 3 (.box 45 (tm 1)) 0,
  oA 4 (.assign (ci 0)) 3]
def c38_1 : AC := .region o38_1 []
abbrev o38_3 : List AO := [oA 5 (.fieldAddr 45 (tm 2) 0) 0,
  oA 6 (.load 3 (tm 5)) 3,
  oA 7 (.fieldAddr 45 (tm 3) 0) 0,
  oA 8 (.load 3 (tm 7)) 3,
  oA 9 (cF 58 #[(tm 6), (tm 8)] #[3, 3]) 3,
  oA 10 (.fieldAddr 45 (tm 2) 1) 0,
  oA 11 (.load 3 (tm 10)) 3,
  oA 12 (.fieldAddr 45 (tm 3) 1) 0,
  oA 13 (.load 3 (tm 12)) 3,
  oA 14 (cF 58 #[(tm 11), (tm 13)] #[3, 3]) 3,
  oA 15 (.fieldAddr 45 (tm 2) 2) 0,
  oA 16 (.load 9 (tm 15)) 9,
  oA 17 (.fieldAddr 45 (tm 3) 2) 0,
  oA 18 (.load 9 (tm 17)) 9,
  oA 19 (cF 59 #[(tm 16), (tm 18)] #[9, 9]) 3,
  oA 20 (.fieldAddr 45 (tm 2) 3) 0,
  oA 21 (.fieldAddr 43 (tm 20) 0) 0,
  oA 22 (.load 3 (tm 21)) 3,
  oA 23 (.fieldAddr 45 (tm 3) 3) 0,
  oA 24 (.fieldAddr 43 (tm 23) 0) 0,
  oA 25 (.load 3 (tm 24)) 3,
  oA 26 (cF 58 #[(tm 22), (tm 25)] #[3, 3]) 3,
  oA 27 (.fieldAddr 45 (tm 2) 3) 0,
  oA 28 (.fieldAddr 43 (tm 27) 1) 0,
  oA 29 (.load 3 (tm 28)) 3,
  oA 30 (.fieldAddr 45 (tm 3) 3) 0,
  oA 31 (.fieldAddr 43 (tm 30) 1) 0,
  oA 32 (.load 3 (tm 31)) 3,
  oA 33 (cF 58 #[(tm 29), (tm 32)] #[3, 3]) 3,
  oA 34 (.buildSlice 105 5 #[(0, (tm 9)), (1, (tm 14)), (2, (tm 19)), (3, (tm 26)), (4, (tm 33))]) 105,
  oA 35 (cF 57 #[(tm 34)] #[105]) 3,
  oA 4 (.assign (tm 35)) 3]
def c38_3 : AC := .region o38_3 []
def c38_4 : AC := .ret
def c38_2 : AC := .seq c38_3 c38_4
def c38_0 : AC := .seq c38_1 c38_2
theorem r38_0 : SeqR Cx 38 c38_0 c38_1 c38_2 ∧ RegR Cx 38 c38_1 o38_1 ∧ SeqR Cx 38 c38_2 c38_3 c38_4 ∧ RegR Cx 38 c38_3 o38_3 ∧ RetR Cx 38 c38_4 := ⟨run_seq, run_region, run_seq, run_region, run_ret⟩
theorem body38 : bodyOf Cx 38 = some c38_0 := by kernel_rfl
theorem res38 : resOf Cx 38 = some [.tmp 4] := by kernel_rfl
theorem pure38 : Cx.pure 38 = true := by kernel_rfl
abbrev o39_1 : List AO := [oA 6 (.alloc 45) 0]
def c39_1 : AC := .region o39_1 []
abbrev o39_4 : List AO := [oA 7 (.move (tm 0)) 9,
  oA 8 (.binOp .eql 9 (tm 7) (.const (.string ⟨#[115, 117, 109]⟩)) 9) 4]
def c39_4 : AC := .region o39_4 []
abbrev o39_7 : List AO := [oA 9 (.move (tm 1)) 3,
  oA 10 (.move (tm 2)) 3,
  oA 11 (.binOp .add 3 (tm 9) (tm 10) 3) 3,
  oA 12 (cF 60 #[(tm 11), (ci 9007199254740992)] #[3, 3]) 3,
  oA 13 (.build 45 #[(1, (tm 12))]) 45,
  oN (.store 45 (tm 6) (tm 13)) 0]
def c39_7 : AC := .region o39_7 []
def c39_8 : AC := .ret
def c39_6 : AC := .seq c39_7 c39_8
def c39_9 : AC := .skip
def c39_5 : AC := .cond (tm 8) c39_6 c39_9
def c39_3 : AC := .seq c39_4 c39_5
abbrev o39_11 : List AO := [oA 14 (.move (tm 1)) 3,
  oA 15 (.move (tm 2)) 3,
  oA 16 (cF 61 #[(tm 14), (tm 15)] #[3, 3]) 3,
  oA 17 (.build 45 #[(1, (tm 16))]) 45,
  oN (.store 45 (tm 6) (tm 17)) 0]
def c39_11 : AC := .region o39_11 []
def c39_12 : AC := .ret
def c39_10 : AC := .seq c39_11 c39_12
def c39_2 : AC := .seq c39_3 c39_10
def c39_0 : AC := .seq c39_1 c39_2
theorem r39_0 : SeqR Cx 39 c39_0 c39_1 c39_2 ∧ RegR Cx 39 c39_1 o39_1 ∧ SeqR Cx 39 c39_2 c39_3 c39_10 ∧ SeqR Cx 39 c39_3 c39_4 c39_5 ∧ RegR Cx 39 c39_4 o39_4 ∧ CondR Cx 39 c39_5 (tm 8) c39_6 c39_9 ∧ SeqR Cx 39 c39_6 c39_7 c39_8 ∧ RegR Cx 39 c39_7 o39_7 := ⟨run_seq, run_region, run_seq, run_seq, run_region, run_condC, run_seq, run_region⟩
theorem r39_1 : RetR Cx 39 c39_8 ∧ SkipR Cx 39 c39_9 ∧ SeqR Cx 39 c39_10 c39_11 c39_12 ∧ RegR Cx 39 c39_11 o39_11 ∧ RetR Cx 39 c39_12 := ⟨run_ret, run_skip, run_seq, run_region, run_ret⟩
theorem body39 : bodyOf Cx 39 = some c39_0 := by kernel_rfl
theorem res39 : resOf Cx 39 = some [.cell 6 45] := by kernel_rfl
theorem pure39 : Cx.pure 39 = true := by kernel_rfl
abbrev o40_1 : List AO := [oA 4 (.box 43 (tm 1)) 0,
  oA 5 (.box 43 (tm 2)) 0,
  oA 6 (.alloc 45) 0]
def c40_1 : AC := .region o40_1 []
abbrev o40_4 : List AO := [oA 9 (.move (tm 0)) 9,
  oA 10 (.binOp .eql 9 (tm 9) (.const (.string ⟨#[115, 117, 109]⟩)) 9) 4]
def c40_4 : AC := .region o40_4 []
abbrev o40_7 : List AO := [oA 11 (.fieldAddr 43 (tm 4) 0) 0,
  oA 12 (.load 3 (tm 11)) 3,
  oA 13 (.fieldAddr 43 (tm 5) 0) 0,
  oA 14 (.load 3 (tm 13)) 3,
  oA 15 (.binOp .add 3 (tm 12) (tm 14) 3) 3,
  oA 16 (cF 60 #[(tm 15), (ci 16777216)] #[3, 3]) 3,
  oA 17 (.fieldAddr 43 (tm 4) 1) 0,
  oA 18 (.load 3 (tm 17)) 3,
  oA 19 (.fieldAddr 43 (tm 5) 1) 0,
  oA 20 (.load 3 (tm 19)) 3,
  oA 21 (.binOp .add 3 (tm 18) (tm 20) 3) 3,
  oA 22 (cF 60 #[(tm 21), (ci 16777216)] #[3, 3]) 3,
  oA 23 (.build 43 #[(0, (tm 16)), (1, (tm 22))]) 43,
  oA 24 (.build 45 #[(0, (ci 2)), (3, (tm 23))]) 45,
  oN (.store 45 (tm 6) (tm 24)) 0]
def c40_7 : AC := .region o40_7 []
def c40_8 : AC := .ret
def c40_6 : AC := .seq c40_7 c40_8
def c40_9 : AC := .skip
def c40_5 : AC := .cond (tm 10) c40_6 c40_9
def c40_3 : AC := .seq c40_4 c40_5
abbrev o40_11 : List AO := [oA 26 (.load 43 (tm 4)) 43,
  oA 27 (.load 43 (tm 5)) 43,
  oA 28 (cF 62 #[(tm 26), (tm 27)] #[43, 43]) 97,
  oA 25 (.move (tm 28)) 97,
  oA 29 (.extract (tm 25) 0) 43,
  oA 30 (.extract (tm 25) 1) 27,
  oA 7 (.alloc 43) 0,
  oN (.store 43 (tm 7) (tm 29)) 0,
  oA 8 (.assign (tm 30)) 27]
def c40_11 : AC := .region o40_11 []
abbrev o40_13 : List AO := [oA 31 (.load 43 (tm 7)) 43,
  oA 32 (.build 45 #[(0, (ci 2)), (3, (tm 31))]) 45,
  oN (.store 45 (tm 6) (tm 32)) 0]
def c40_13 : AC := .region o40_13 []
def c40_14 : AC := .ret
def c40_12 : AC := .seq c40_13 c40_14
def c40_10 : AC := .seq c40_11 c40_12
def c40_2 : AC := .seq c40_3 c40_10
def c40_0 : AC := .seq c40_1 c40_2
theorem r40_0 : SeqR Cx 40 c40_0 c40_1 c40_2 ∧ RegR Cx 40 c40_1 o40_1 ∧ SeqR Cx 40 c40_2 c40_3 c40_10 ∧ SeqR Cx 40 c40_3 c40_4 c40_5 ∧ RegR Cx 40 c40_4 o40_4 ∧ CondR Cx 40 c40_5 (tm 10) c40_6 c40_9 ∧ SeqR Cx 40 c40_6 c40_7 c40_8 ∧ RegR Cx 40 c40_7 o40_7 := ⟨run_seq, run_region, run_seq, run_seq, run_region, run_condC, run_seq, run_region⟩
theorem r40_1 : RetR Cx 40 c40_8 ∧ SkipR Cx 40 c40_9 ∧ SeqR Cx 40 c40_10 c40_11 c40_12 ∧ RegR Cx 40 c40_11 o40_11 ∧ SeqR Cx 40 c40_12 c40_13 c40_14 ∧ RegR Cx 40 c40_13 o40_13 ∧ RetR Cx 40 c40_14 := ⟨run_ret, run_skip, run_seq, run_region, run_seq, run_region, run_ret⟩
theorem body40 : bodyOf Cx 40 = some c40_0 := by kernel_rfl
theorem res40 : resOf Cx 40 = some [.cell 6 45] := by kernel_rfl
theorem pure40 : Cx.pure 40 = true := by kernel_rfl
abbrev o41_1 : List AO := [oA 6 (.assign (ci 20)) 3]
def c41_1 : AC := .region o41_1 []
abbrev o41_3 : List AO := [oA 10 (.move (tm 6)) 3,
  oA 7 (.assign (ci 0)) 3,
  oA 8 (.assign (tm 10)) 3]
def c41_3 : AC := .region o41_3 []
abbrev o41_9 : List AO := [oA 11 (.move (tm 8)) 3,
  oA 12 (.move (tm 1)) 3,
  oA 13 (.binOp .leq 3 (tm 11) (tm 12) 3) 4]
def c41_9 : AC := .region o41_9 []
def c41_11 : AC := .skip
def c41_12 : AC := .exit 0
def c41_10 : AC := .cond (tm 13) c41_11 c41_12
def c41_8 : AC := .seq c41_9 c41_10
abbrev o41_15 : List AO := [oA 14 (.move (tm 0)) 22,
  oA 15 (.move (tm 7)) 3,
  oA 16 (.move (tm 8)) 3,
  oA 17 (.move (tm 2)) 60,
  oA 18 (cF 63 #[(tm 14), (tm 15), (tm 16), (tm 17)] #[22, 3, 3, 60]) 0]
def c41_15 : AC := .region o41_15 []
abbrev o41_17 : List AO := [oA 19 (.move (tm 8)) 3,
  oA 7 (.assign (tm 19)) 3]
def c41_17 : AC := .region o41_17 []
abbrev o41_18 : List AO := [oA 20 (.move (tm 8)) 3,
  oA 21 (.move (tm 6)) 3,
  oA 22 (.binOp .add 3 (tm 20) (tm 21) 3) 3,
  oA 8 (.assign (tm 22)) 3]
def c41_18 : AC := .region o41_18 []
def c41_16 : AC := .seq c41_17 c41_18
def c41_14 : AC := .seq c41_15 c41_16
def c41_13 : AC := .block 1 c41_14
def c41_7 : AC := .seq c41_8 c41_13
def c41_6 : AC := .loop c41_7
def c41_5 : AC := .block 0 c41_6
abbrev o41_20 : List AO := [oA 23 (.move (tm 0)) 22,
  oA 24 (.move (tm 7)) 3,
  oA 25 (.move (tm 1)) 3,
  oA 26 (.move (tm 2)) 60,
  oA 27 (cF 63 #[(tm 23), (tm 24), (tm 25), (tm 26)] #[22, 3, 3, 60]) 0]
def c41_20 : AC := .region o41_20 []
abbrev o41_25 : List AO := [oA 28 (.move (tm 6)) 3,
  oA 29 (.move (tm 1)) 3,
  oA 30 (.binOp .lss 3 (tm 28) (tm 29) 3) 4]
def c41_25 : AC := .region o41_25 []
def c41_27 : AC := .skip
def c41_28 : AC := .exit 2
def c41_26 : AC := .cond (tm 30) c41_27 c41_28
def c41_24 : AC := .seq c41_25 c41_26
abbrev o41_31 : List AO := [oA 31 (.move (tm 6)) 3,
  oA 32 (.binOp .mul 3 (ci 2) (tm 31) 3) 3,
  oA 7 (.assign (ci 0)) 3,
  oA 8 (.assign (tm 32)) 3]
def c41_31 : AC := .region o41_31 []
abbrev o41_37 : List AO := [oA 33 (.move (tm 8)) 3,
  oA 34 (.move (tm 1)) 3,
  oA 35 (.binOp .leq 3 (tm 33) (tm 34) 3) 4]
def c41_37 : AC := .region o41_37 []
def c41_39 : AC := .skip
def c41_40 : AC := .exit 4
def c41_38 : AC := .cond (tm 35) c41_39 c41_40
def c41_36 : AC := .seq c41_37 c41_38
abbrev o41_43 : List AO := [oA 36 (.move (tm 0)) 22,
  oA 37 (.move (tm 7)) 3,
  oA 38 (.move (tm 7)) 3,
  oA 39 (.move (tm 6)) 3,
  oA 40 (.binOp .add 3 (tm 38) (tm 39) 3) 3,
  oA 41 (.move (tm 8)) 3,
  oA 42 (.move (tm 2)) 60,
  oA 43 (cF 64 #[(tm 36), (tm 37), (tm 40), (tm 41), (tm 42)] #[22, 3, 3, 3, 60]) 0]
def c41_43 : AC := .region o41_43 []
abbrev o41_45 : List AO := [oA 44 (.move (tm 8)) 3,
  oA 7 (.assign (tm 44)) 3]
def c41_45 : AC := .region o41_45 []
abbrev o41_46 : List AO := [oA 45 (.move (tm 8)) 3,
  oA 46 (.move (tm 6)) 3,
  oA 47 (.binOp .mul 3 (ci 2) (tm 46) 3) 3,
  oA 48 (.binOp .add 3 (tm 45) (tm 47) 3) 3,
  oA 8 (.assign (tm 48)) 3]
def c41_46 : AC := .region o41_46 []
def c41_44 : AC := .seq c41_45 c41_46
def c41_42 : AC := .seq c41_43 c41_44
def c41_41 : AC := .block 5 c41_42
def c41_35 : AC := .seq c41_36 c41_41
def c41_34 : AC := .loop c41_35
def c41_33 : AC := .block 4 c41_34
abbrev o41_49 : List AO := [oA 49 (.move (tm 7)) 3,
  oA 50 (.move (tm 6)) 3,
  oA 51 (.binOp .add 3 (tm 49) (tm 50) 3) 3,
  oA 9 (.assign (tm 51)) 3]
def c41_49 : AC := .region o41_49 []
abbrev o41_51 : List AO := [oA 52 (.move (tm 9)) 3,
  oA 53 (.move (tm 1)) 3,
  oA 54 (.binOp .lss 3 (tm 52) (tm 53) 3) 4]
def c41_51 : AC := .region o41_51 []
abbrev o41_53 : List AO := [oA 55 (.move (tm 0)) 22,
  oA 56 (.move (tm 7)) 3,
  oA 57 (.move (tm 9)) 3,
  oA 58 (.move (tm 1)) 3,
  oA 59 (.move (tm 2)) 60,
  oA 60 (cF 64 #[(tm 55), (tm 56), (tm 57), (tm 58), (tm 59)] #[22, 3, 3, 3, 60]) 0]
def c41_53 : AC := .region o41_53 []
def c41_54 : AC := .skip
def c41_52 : AC := .cond (tm 54) c41_53 c41_54
def c41_50 : AC := .seq c41_51 c41_52
def c41_48 : AC := .seq c41_49 c41_50
abbrev o41_55 : List AO := [oA 61 (.move (tm 6)) 3,
  oA 62 (.binOp .mul 3 (tm 61) (ci 2) 3) 3,
  oA 6 (.assign (tm 62)) 3]
def c41_55 : AC := .region o41_55 []
def c41_47 : AC := .seq c41_48 c41_55
def c41_32 : AC := .seq c41_33 c41_47
def c41_30 : AC := .seq c41_31 c41_32
def c41_29 : AC := .block 3 c41_30
def c41_23 : AC := .seq c41_24 c41_29
def c41_22 : AC := .loop c41_23
def c41_21 : AC := .block 2 c41_22
def c41_19 : AC := .seq c41_20 c41_21
def c41_4 : AC := .seq c41_5 c41_19
def c41_2 : AC := .seq c41_3 c41_4
def c41_0 : AC := .seq c41_1 c41_2
theorem r41_0 : SeqR Cx 41 c41_0 c41_1 c41_2 ∧ RegR Cx 41 c41_1 o41_1 ∧ SeqR Cx 41 c41_2 c41_3 c41_4 ∧ RegR Cx 41 c41_3 o41_3 ∧ SeqR Cx 41 c41_4 c41_5 c41_19 ∧ BlkR Cx 41 c41_5 0 c41_6 ∧ LoopR Cx 41 c41_6 c41_7 ∧ SeqR Cx 41 c41_7 c41_8 c41_13 := ⟨run_seq, run_region, run_seq, run_region, run_seq, run_block, run_loop', run_seq⟩
theorem r41_1 : SeqR Cx 41 c41_8 c41_9 c41_10 ∧ RegR Cx 41 c41_9 o41_9 ∧ CondR Cx 41 c41_10 (tm 13) c41_11 c41_12 ∧ SkipR Cx 41 c41_11 ∧ ExitR Cx 41 c41_12 0 ∧ BlkR Cx 41 c41_13 1 c41_14 ∧ SeqR Cx 41 c41_14 c41_15 c41_16 ∧ RegR Cx 41 c41_15 o41_15 := ⟨run_seq, run_region, run_condC, run_skip, run_exit_start, run_block, run_seq, run_region⟩
theorem r41_2 : SeqR Cx 41 c41_16 c41_17 c41_18 ∧ RegR Cx 41 c41_17 o41_17 ∧ RegR Cx 41 c41_18 o41_18 ∧ SeqR Cx 41 c41_19 c41_20 c41_21 ∧ RegR Cx 41 c41_20 o41_20 ∧ BlkR Cx 41 c41_21 2 c41_22 ∧ LoopR Cx 41 c41_22 c41_23 ∧ SeqR Cx 41 c41_23 c41_24 c41_29 := ⟨run_seq, run_region, run_region, run_seq, run_region, run_block, run_loop', run_seq⟩
theorem r41_3 : SeqR Cx 41 c41_24 c41_25 c41_26 ∧ RegR Cx 41 c41_25 o41_25 ∧ CondR Cx 41 c41_26 (tm 30) c41_27 c41_28 ∧ SkipR Cx 41 c41_27 ∧ ExitR Cx 41 c41_28 2 ∧ BlkR Cx 41 c41_29 3 c41_30 ∧ SeqR Cx 41 c41_30 c41_31 c41_32 ∧ RegR Cx 41 c41_31 o41_31 := ⟨run_seq, run_region, run_condC, run_skip, run_exit_start, run_block, run_seq, run_region⟩
theorem r41_4 : SeqR Cx 41 c41_32 c41_33 c41_47 ∧ BlkR Cx 41 c41_33 4 c41_34 ∧ LoopR Cx 41 c41_34 c41_35 ∧ SeqR Cx 41 c41_35 c41_36 c41_41 ∧ SeqR Cx 41 c41_36 c41_37 c41_38 ∧ RegR Cx 41 c41_37 o41_37 ∧ CondR Cx 41 c41_38 (tm 35) c41_39 c41_40 ∧ SkipR Cx 41 c41_39 := ⟨run_seq, run_block, run_loop', run_seq, run_seq, run_region, run_condC, run_skip⟩
theorem r41_5 : ExitR Cx 41 c41_40 4 ∧ BlkR Cx 41 c41_41 5 c41_42 ∧ SeqR Cx 41 c41_42 c41_43 c41_44 ∧ RegR Cx 41 c41_43 o41_43 ∧ SeqR Cx 41 c41_44 c41_45 c41_46 ∧ RegR Cx 41 c41_45 o41_45 ∧ RegR Cx 41 c41_46 o41_46 ∧ SeqR Cx 41 c41_47 c41_48 c41_55 := ⟨run_exit_start, run_block, run_seq, run_region, run_seq, run_region, run_region, run_seq⟩
theorem r41_6 : SeqR Cx 41 c41_48 c41_49 c41_50 ∧ RegR Cx 41 c41_49 o41_49 ∧ SeqR Cx 41 c41_50 c41_51 c41_52 ∧ RegR Cx 41 c41_51 o41_51 ∧ CondR Cx 41 c41_52 (tm 54) c41_53 c41_54 ∧ RegR Cx 41 c41_53 o41_53 ∧ SkipR Cx 41 c41_54 ∧ RegR Cx 41 c41_55 o41_55 := ⟨run_seq, run_region, run_seq, run_region, run_condC, run_region, run_skip, run_region⟩
theorem body41 : bodyOf Cx 41 = some c41_0 := by kernel_rfl
theorem res41 : resOf Cx 41 = some [] := by kernel_rfl
theorem pure41 : Cx.pure 41 = false := by kernel_rfl
abbrev o42_1 : List AO := [oA 4 (.assign (ci 0)) 3]
def c42_1 : AC := .region o42_1 []
abbrev o42_3 : List AO := [oA 7 (.move (tm 0)) 9,
  oA 8 (cF 65 #[(tm 7)] #[9]) 4,
  oA 5 (.assign (tm 8)) 4]
def c42_3 : AC := .region o42_3 []
abbrev o42_5 : List AO := [oA 9 (.move (tm 1)) 9,
  oA 10 (cF 65 #[(tm 9)] #[9]) 4,
  oA 6 (.assign (tm 10)) 4]
def c42_5 : AC := .region o42_5 []
abbrev o42_8 : List AO := [oA 11 (.move (tm 5)) 4]
def c42_8 : AC := .region o42_8 []
abbrev o42_12 : List AO := [oA 12 (.move (tm 6)) 4]
def c42_12 : AC := .region o42_12 []
abbrev o42_15 : List AO := [oA 4 (.assign (ci 0)) 3]
def c42_15 : AC := .region o42_15 []
def c42_16 : AC := .ret
def c42_14 : AC := .seq c42_15 c42_16
def c42_17 : AC := .skip
def c42_13 : AC := .cond (tm 12) c42_14 c42_17
def c42_11 : AC := .seq c42_12 c42_13
abbrev o42_19 : List AO := [oA 4 (.assign (ci (-1))) 3]
def c42_19 : AC := .region o42_19 []
def c42_20 : AC := .ret
def c42_18 : AC := .seq c42_19 c42_20
def c42_10 : AC := .seq c42_11 c42_18
def c42_21 : AC := .skip
def c42_9 : AC := .cond (tm 11) c42_10 c42_21
def c42_7 : AC := .seq c42_8 c42_9
abbrev o42_24 : List AO := [oA 13 (.move (tm 6)) 4]
def c42_24 : AC := .region o42_24 []
abbrev o42_27 : List AO := [oA 4 (.assign (ci 1)) 3]
def c42_27 : AC := .region o42_27 []
def c42_28 : AC := .ret
def c42_26 : AC := .seq c42_27 c42_28
def c42_29 : AC := .skip
def c42_25 : AC := .cond (tm 13) c42_26 c42_29
def c42_23 : AC := .seq c42_24 c42_25
abbrev o42_32 : List AO := [oA 14 (.move (tm 0)) 9,
  oA 15 (.move (tm 1)) 9,
  oA 16 (.binOp .lss 9 (tm 14) (tm 15) 9) 4]
def c42_32 : AC := .region o42_32 []
abbrev o42_35 : List AO := [oA 4 (.assign (ci (-1))) 3]
def c42_35 : AC := .region o42_35 []
def c42_36 : AC := .ret
def c42_34 : AC := .seq c42_35 c42_36
def c42_37 : AC := .skip
def c42_33 : AC := .cond (tm 16) c42_34 c42_37
def c42_31 : AC := .seq c42_32 c42_33
abbrev o42_40 : List AO := [oA 17 (.move (tm 0)) 9,
  oA 18 (.move (tm 1)) 9,
  oA 19 (.binOp .gtr 9 (tm 17) (tm 18) 9) 4]
def c42_40 : AC := .region o42_40 []
abbrev o42_43 : List AO := [oA 4 (.assign (ci 1)) 3]
def c42_43 : AC := .region o42_43 []
def c42_44 : AC := .ret
def c42_42 : AC := .seq c42_43 c42_44
def c42_45 : AC := .skip
def c42_41 : AC := .cond (tm 19) c42_42 c42_45
def c42_39 : AC := .seq c42_40 c42_41
abbrev o42_47 : List AO := [oA 4 (.assign (ci 0)) 3]
def c42_47 : AC := .region o42_47 []
def c42_48 : AC := .ret
def c42_46 : AC := .seq c42_47 c42_48
def c42_38 : AC := .seq c42_39 c42_46
def c42_30 : AC := .seq c42_31 c42_38
def c42_22 : AC := .seq c42_23 c42_30
def c42_6 : AC := .seq c42_7 c42_22
def c42_4 : AC := .seq c42_5 c42_6
def c42_2 : AC := .seq c42_3 c42_4
def c42_0 : AC := .seq c42_1 c42_2
theorem r42_0 : SeqR Cx 42 c42_0 c42_1 c42_2 ∧ RegR Cx 42 c42_1 o42_1 ∧ SeqR Cx 42 c42_2 c42_3 c42_4 ∧ RegR Cx 42 c42_3 o42_3 ∧ SeqR Cx 42 c42_4 c42_5 c42_6 ∧ RegR Cx 42 c42_5 o42_5 ∧ SeqR Cx 42 c42_6 c42_7 c42_22 ∧ SeqR Cx 42 c42_7 c42_8 c42_9 := ⟨run_seq, run_region, run_seq, run_region, run_seq, run_region, run_seq, run_seq⟩
theorem r42_1 : RegR Cx 42 c42_8 o42_8 ∧ CondR Cx 42 c42_9 (tm 11) c42_10 c42_21 ∧ SeqR Cx 42 c42_10 c42_11 c42_18 ∧ SeqR Cx 42 c42_11 c42_12 c42_13 ∧ RegR Cx 42 c42_12 o42_12 ∧ CondR Cx 42 c42_13 (tm 12) c42_14 c42_17 ∧ SeqR Cx 42 c42_14 c42_15 c42_16 ∧ RegR Cx 42 c42_15 o42_15 := ⟨run_region, run_condC, run_seq, run_seq, run_region, run_condC, run_seq, run_region⟩
theorem r42_2 : RetR Cx 42 c42_16 ∧ SkipR Cx 42 c42_17 ∧ SeqR Cx 42 c42_18 c42_19 c42_20 ∧ RegR Cx 42 c42_19 o42_19 ∧ RetR Cx 42 c42_20 ∧ SkipR Cx 42 c42_21 ∧ SeqR Cx 42 c42_22 c42_23 c42_30 ∧ SeqR Cx 42 c42_23 c42_24 c42_25 := ⟨run_ret, run_skip, run_seq, run_region, run_ret, run_skip, run_seq, run_seq⟩
theorem r42_3 : RegR Cx 42 c42_24 o42_24 ∧ CondR Cx 42 c42_25 (tm 13) c42_26 c42_29 ∧ SeqR Cx 42 c42_26 c42_27 c42_28 ∧ RegR Cx 42 c42_27 o42_27 ∧ RetR Cx 42 c42_28 ∧ SkipR Cx 42 c42_29 ∧ SeqR Cx 42 c42_30 c42_31 c42_38 ∧ SeqR Cx 42 c42_31 c42_32 c42_33 := ⟨run_region, run_condC, run_seq, run_region, run_ret, run_skip, run_seq, run_seq⟩
theorem r42_4 : RegR Cx 42 c42_32 o42_32 ∧ CondR Cx 42 c42_33 (tm 16) c42_34 c42_37 ∧ SeqR Cx 42 c42_34 c42_35 c42_36 ∧ RegR Cx 42 c42_35 o42_35 ∧ RetR Cx 42 c42_36 ∧ SkipR Cx 42 c42_37 ∧ SeqR Cx 42 c42_38 c42_39 c42_46 ∧ SeqR Cx 42 c42_39 c42_40 c42_41 := ⟨run_region, run_condC, run_seq, run_region, run_ret, run_skip, run_seq, run_seq⟩
theorem r42_5 : RegR Cx 42 c42_40 o42_40 ∧ CondR Cx 42 c42_41 (tm 19) c42_42 c42_45 ∧ SeqR Cx 42 c42_42 c42_43 c42_44 ∧ RegR Cx 42 c42_43 o42_43 ∧ RetR Cx 42 c42_44 ∧ SkipR Cx 42 c42_45 ∧ SeqR Cx 42 c42_46 c42_47 c42_48 ∧ RegR Cx 42 c42_47 o42_47 := ⟨run_region, run_condC, run_seq, run_region, run_ret, run_skip, run_seq, run_region⟩
theorem r42_6 : RetR Cx 42 c42_48 := run_ret
theorem body42 : bodyOf Cx 42 = some c42_0 := by kernel_rfl
theorem res42 : resOf Cx 42 = some [.tmp 4] := by kernel_rfl
theorem pure42 : Cx.pure 42 = true := by kernel_rfl
abbrev o43_1 : List AO := [oA 4 (.assign (.const (.slice none 0 0))) 22]
def c43_1 : AC := .region o43_1 []
abbrev o43_4 : List AO := [oA 5 (.move (tm 1)) 3,
  oA 6 (.binOp .lss 3 (tm 5) (ci 0) 3) 4]
def c43_4 : AC := .region o43_4 []
abbrev o43_6 : List AO := [oA 7 (.makeInterface 9 (.const (.string ⟨#[99, 97, 110, 110, 111, 116, 32, 98, 101, 32, 110, 101, 103, 97, 116, 105, 118, 101]⟩))) 20,
  oN (.panic (tm 7)) 0]
def c43_6 : AC := .region o43_6 []
def c43_7 : AC := .skip
def c43_5 : AC := .cond (tm 6) c43_6 c43_7
def c43_3 : AC := .seq c43_4 c43_5
abbrev o43_10 : List AO := [oA 8 (.move (tm 1)) 3,
  oA 9 (.move (tm 0)) 22,
  oA 10 (cB .cap #[(tm 9)] #[22]) 3,
  oA 11 (.move (tm 0)) 22,
  oA 12 (cB .len #[(tm 11)] #[22]) 3,
  oA 13 (.binOp .sub 3 (tm 10) (tm 12) 3) 3,
  oA 14 (.binOp .sub 3 (tm 8) (tm 13) 3) 3,
  oA 1 (.assign (tm 14)) 3]
def c43_10 : AC := .region o43_10 []
abbrev o43_12 : List AO := [oA 15 (.move (tm 1)) 3,
  oA 16 (.binOp .gtr 3 (tm 15) (ci 0) 3) 4]
def c43_12 : AC := .region o43_12 []
abbrev o43_14 : List AO := [oA 17 (.move (tm 0)) 22,
  oA 18 (.move (tm 0)) 22,
  oA 19 (cB .cap #[(tm 18)] #[22]) 3,
  oA 20 (.slice 22 (tm 17) none (some (tm 19)) none) 22,
  oA 21 (.move (tm 1)) 3,
  oA 22 (cB .append #[(tm 20), (tm 21)] #[22, 3]) 22,
  oA 23 (.move (tm 0)) 22,
  oA 24 (cB .len #[(tm 23)] #[22]) 3,
  oA 25 (.slice 22 (tm 22) none (some (tm 24)) none) 22,
  oA 0 (.assign (tm 25)) 22]
def c43_14 : AC := .region o43_14 []
def c43_15 : AC := .skip
def c43_13 : AC := .cond (tm 16) c43_14 c43_15
def c43_11 : AC := .seq c43_12 c43_13
def c43_9 : AC := .seq c43_10 c43_11
abbrev o43_17 : List AO := [oA 26 (.move (tm 0)) 22,
  oA 4 (.assign (tm 26)) 22]
def c43_17 : AC := .region o43_17 []
def c43_18 : AC := .ret
def c43_16 : AC := .seq c43_17 c43_18
def c43_8 : AC := .seq c43_9 c43_16
def c43_2 : AC := .seq c43_3 c43_8
def c43_0 : AC := .seq c43_1 c43_2
theorem r43_0 : SeqR Cx 43 c43_0 c43_1 c43_2 ∧ RegR Cx 43 c43_1 o43_1 ∧ SeqR Cx 43 c43_2 c43_3 c43_8 ∧ SeqR Cx 43 c43_3 c43_4 c43_5 ∧ RegR Cx 43 c43_4 o43_4 ∧ CondR Cx 43 c43_5 (tm 6) c43_6 c43_7 ∧ RegR Cx 43 c43_6 o43_6 ∧ SkipR Cx 43 c43_7 := ⟨run_seq, run_region, run_seq, run_seq, run_region, run_condC, run_region, run_skip⟩
theorem r43_1 : SeqR Cx 43 c43_8 c43_9 c43_16 ∧ SeqR Cx 43 c43_9 c43_10 c43_11 ∧ RegR Cx 43 c43_10 o43_10 ∧ SeqR Cx 43 c43_11 c43_12 c43_13 ∧ RegR Cx 43 c43_12 o43_12 ∧ CondR Cx 43 c43_13 (tm 16) c43_14 c43_15 ∧ RegR Cx 43 c43_14 o43_14 ∧ SkipR Cx 43 c43_15 := ⟨run_seq, run_seq, run_region, run_seq, run_region, run_condC, run_region, run_skip⟩
theorem r43_2 : SeqR Cx 43 c43_16 c43_17 c43_18 ∧ RegR Cx 43 c43_17 o43_17 ∧ RetR Cx 43 c43_18 := ⟨run_seq, run_region, run_ret⟩
theorem body43 : bodyOf Cx 43 = some c43_0 := by kernel_rfl
theorem res43 : resOf Cx 43 = some [.tmp 4] := by kernel_rfl
theorem pure43 : Cx.pure 43 = false := by kernel_rfl
abbrev o44_1 : List AO := [oA 4 (.assign (ci 0)) 3]
def c44_1 : AC := .region o44_1 []
abbrev o44_4 : List AO := [oA 6 (.move (tm 0)) 48,
  oA 7 (cB .len #[(tm 6)] #[48]) 3,
  oA 8 (.move (ci 0)) 3]
def c44_4 : AC := .region o44_4 []
abbrev o44_8 : List AO := [oA 9 (.binOp .lss 3 (tm 8) (tm 7) 3) 0]
def c44_8 : AC := .region o44_8 []
def c44_11 : AC := .skip
def c44_12 : AC := .exit 0
def c44_10 : AC := .cond (tm 9) c44_11 c44_12
abbrev o44_16 : List AO := [oA 10 (.move (tm 8)) 3,
  oA 5 (.assign (tm 10)) 3]
def c44_16 : AC := .region o44_16 []
abbrev o44_18 : List AO := [oA 11 (.move (tm 1)) 25,
  oA 12 (.move (tm 0)) 48,
  oA 13 (.move (tm 5)) 3,
  oA 14 (.indexAddr 48 (tm 12) (tm 13)) 0,
  oA 15 (.load 22 (tm 14)) 22,
  oA 16 (cV 11 #[(tm 15)] #[22]) 4]
def c44_18 : AC := .region o44_18 []
abbrev o44_21 : List AO := [oA 17 (.move (tm 5)) 3,
  oA 4 (.assign (tm 17)) 3]
def c44_21 : AC := .region o44_21 []
def c44_22 : AC := .ret
def c44_20 : AC := .seq c44_21 c44_22
def c44_23 : AC := .skip
def c44_19 : AC := .cond (tm 16) c44_20 c44_23
def c44_17 : AC := .seq c44_18 c44_19
def c44_15 : AC := .seq c44_16 c44_17
def c44_14 : AC := .block 1 c44_15
abbrev o44_24 : List AO := [oA 18 (.binOp .add 3 (tm 8) (ci 1) 3) 3,
  oA 8 (.move (tm 18)) 3]
def c44_24 : AC := .region o44_24 []
def c44_13 : AC := .seq c44_14 c44_24
def c44_9 : AC := .seq c44_10 c44_13
def c44_7 : AC := .seq c44_8 c44_9
def c44_6 : AC := .loop c44_7
def c44_5 : AC := .block 0 c44_6
def c44_3 : AC := .seq c44_4 c44_5
abbrev o44_26 : List AO := [oA 4 (.assign (ci (-1))) 3]
def c44_26 : AC := .region o44_26 []
def c44_27 : AC := .ret
def c44_25 : AC := .seq c44_26 c44_27
def c44_2 : AC := .seq c44_3 c44_25
def c44_0 : AC := .seq c44_1 c44_2
theorem r44_0 : SeqR Cx 44 c44_0 c44_1 c44_2 ∧ RegR Cx 44 c44_1 o44_1 ∧ SeqR Cx 44 c44_2 c44_3 c44_25 ∧ SeqR Cx 44 c44_3 c44_4 c44_5 ∧ RegR Cx 44 c44_4 o44_4 ∧ BlkR Cx 44 c44_5 0 c44_6 ∧ LoopR Cx 44 c44_6 c44_7 ∧ SeqR Cx 44 c44_7 c44_8 c44_9 := ⟨run_seq, run_region, run_seq, run_seq, run_region, run_block, run_loop', run_seq⟩
theorem r44_1 : RegR Cx 44 c44_8 o44_8 ∧ SeqR Cx 44 c44_9 c44_10 c44_13 ∧ CondR Cx 44 c44_10 (tm 9) c44_11 c44_12 ∧ SkipR Cx 44 c44_11 ∧ ExitR Cx 44 c44_12 0 ∧ SeqR Cx 44 c44_13 c44_14 c44_24 ∧ BlkR Cx 44 c44_14 1 c44_15 ∧ SeqR Cx 44 c44_15 c44_16 c44_17 := ⟨run_region, run_seq, run_condC, run_skip, run_exit_start, run_seq, run_block, run_seq⟩
theorem r44_2 : RegR Cx 44 c44_16 o44_16 ∧ SeqR Cx 44 c44_17 c44_18 c44_19 ∧ RegR Cx 44 c44_18 o44_18 ∧ CondR Cx 44 c44_19 (tm 16) c44_20 c44_23 ∧ SeqR Cx 44 c44_20 c44_21 c44_22 ∧ RegR Cx 44 c44_21 o44_21 ∧ RetR Cx 44 c44_22 ∧ SkipR Cx 44 c44_23 := ⟨run_region, run_seq, run_region, run_condC, run_seq, run_region, run_ret, run_skip⟩
theorem r44_3 : RegR Cx 44 c44_24 o44_24 ∧ SeqR Cx 44 c44_25 c44_26 c44_27 ∧ RegR Cx 44 c44_26 o44_26 ∧ RetR Cx 44 c44_27 := ⟨run_region, run_seq, run_region, run_ret⟩
abbrev o45_1 : List AO := [oA 7 (.build 88 #[(1, (.func 46))]) 88,
  oA 8 (.box 88 (tm 7)) 82,
  oA 3 (.assign (tm 8)) 82]
def c45_1 : AC := .region o45_1 []
abbrev o45_4 : List AO := [oA 9 (.load 48 (tm 1)) 48,
  oA 10 (cB .len #[(tm 9)] #[48]) 3,
  oA 11 (.move (ci 0)) 3]
def c45_4 : AC := .region o45_4 []
abbrev o45_8 : List AO := [oA 12 (.binOp .lss 3 (tm 11) (tm 10) 3) 0]
def c45_8 : AC := .region o45_8 []
def c45_11 : AC := .skip
def c45_12 : AC := .exit 0
def c45_10 : AC := .cond (tm 12) c45_11 c45_12
abbrev o45_16 : List AO := [oA 13 (.move (tm 11)) 3,
  oA 14 (.indexAddr 48 (tm 9) (tm 11)) 0,
  oA 15 (.load 22 (tm 14)) 22,
  oA 4 (.assign (tm 13)) 3,
  oA 5 (.assign (tm 15)) 22]
def c45_16 : AC := .region o45_16 []
abbrev o45_18 : List AO := [oA 16 (.move (tm 5)) 22,
  oA 17 (cB .len #[(tm 16)] #[22]) 3,
  oA 18 (.binOp .gtr 3 (tm 17) (ci 0) 3) 4]
def c45_18 : AC := .region o45_18 []
abbrev o45_20 : List AO := [oA 19 (.move (tm 3)) 82,
  oA 20 (.move (tm 5)) 22,
  oA 21 (.move (tm 4)) 3,
  oA 22 (.build 84 #[(0, (tm 20)), (1, (ci 0)), (2, (tm 21))]) 84,
  oA 23 (cF 47 #[(tm 19), (tm 22)] #[82, 84]) 0]
def c45_20 : AC := .region o45_20 []
def c45_21 : AC := .skip
def c45_19 : AC := .cond (tm 18) c45_20 c45_21
def c45_17 : AC := .seq c45_18 c45_19
def c45_15 : AC := .seq c45_16 c45_17
def c45_14 : AC := .block 1 c45_15
abbrev o45_22 : List AO := [oA 24 (.binOp .add 3 (tm 11) (ci 1) 3) 3,
  oA 11 (.move (tm 24)) 3]
def c45_22 : AC := .region o45_22 []
def c45_13 : AC := .seq c45_14 c45_22
def c45_9 : AC := .seq c45_10 c45_13
def c45_7 : AC := .seq c45_8 c45_9
def c45_6 : AC := .loop c45_7
def c45_5 : AC := .block 0 c45_6
def c45_3 : AC := .seq c45_4 c45_5
abbrev o45_27 : List AO := [oA 25 (.move (tm 3)) 82,
  oA 26 (.nilCheck (tm 25)) 0,
  oA 27 (.fieldAddr 88 (tm 26) 0) 0,
  oA 28 (.load 86 (tm 27)) 86,
  oA 29 (cB .len #[(tm 28)] #[86]) 3,
  oA 30 (.binOp .gtr 3 (tm 29) (ci 0) 3) 4]
def c45_27 : AC := .region o45_27 []
def c45_29 : AC := .skip
def c45_30 : AC := .exit 2
def c45_28 : AC := .cond (tm 30) c45_29 c45_30
def c45_26 : AC := .seq c45_27 c45_28
abbrev o45_33 : List AO := [oA 31 (.move (tm 3)) 82,
  oA 32 (cF 48 #[(tm 31)] #[82]) 84,
  oA 6 (.alloc 84) 0,
  oN (.store 84 (tm 6) (tm 32)) 0]
def c45_33 : AC := .region o45_33 []
abbrev o45_36 : List AO := [oA 33 (.move (tm 0)) 52,
  oA 34 (.fieldAddr 84 (tm 6) 0) 0,
  oA 35 (.load 22 (tm 34)) 22,
  oA 36 (.fieldAddr 84 (tm 6) 1) 0,
  oA 37 (.load 3 (tm 36)) 3,
  oA 38 (.indexAddr 22 (tm 35) (tm 37)) 0,
  oA 39 (.load 47 (tm 38)) 47,
  oA 40 (cV 33 #[(tm 39)] #[47]) 4,
  oA 41 (.unOp .not 4 (tm 40)) 4]
def c45_36 : AC := .region o45_36 []
def c45_38 : AC := .ret
def c45_39 : AC := .skip
def c45_37 : AC := .cond (tm 41) c45_38 c45_39
def c45_35 : AC := .seq c45_36 c45_37
abbrev o45_41 : List AO := [oA 42 (.fieldAddr 84 (tm 6) 1) 0,
  oA 43 (.load 3 (tm 42)) 3,
  oA 44 (.binOp .add 3 (tm 43) (ci 1) 3) 3,
  oA 45 (.fieldAddr 84 (tm 6) 1) 0,
  oN (.store 3 (tm 45) (tm 44)) 0]
def c45_41 : AC := .region o45_41 []
abbrev o45_43 : List AO := [oA 46 (.fieldAddr 84 (tm 6) 1) 0,
  oA 47 (.load 3 (tm 46)) 3,
  oA 48 (.fieldAddr 84 (tm 6) 0) 0,
  oA 49 (.load 22 (tm 48)) 22,
  oA 50 (cB .len #[(tm 49)] #[22]) 3,
  oA 51 (.binOp .lss 3 (tm 47) (tm 50) 3) 4]
def c45_43 : AC := .region o45_43 []
abbrev o45_45 : List AO := [oA 52 (.move (tm 3)) 82,
  oA 53 (.load 84 (tm 6)) 84,
  oA 54 (cF 47 #[(tm 52), (tm 53)] #[82, 84]) 0]
def c45_45 : AC := .region o45_45 []
def c45_46 : AC := .skip
def c45_44 : AC := .cond (tm 51) c45_45 c45_46
def c45_42 : AC := .seq c45_43 c45_44
def c45_40 : AC := .seq c45_41 c45_42
def c45_34 : AC := .seq c45_35 c45_40
def c45_32 : AC := .seq c45_33 c45_34
def c45_31 : AC := .block 3 c45_32
def c45_25 : AC := .seq c45_26 c45_31
def c45_24 : AC := .loop c45_25
def c45_23 : AC := .block 2 c45_24
def c45_2 : AC := .seq c45_3 c45_23
def c45_0 : AC := .seq c45_1 c45_2
theorem r45_0 : SeqR Cx 45 c45_0 c45_1 c45_2 ∧ RegR Cx 45 c45_1 o45_1 ∧ SeqR Cx 45 c45_2 c45_3 c45_23 ∧ SeqR Cx 45 c45_3 c45_4 c45_5 ∧ RegR Cx 45 c45_4 o45_4 ∧ BlkR Cx 45 c45_5 0 c45_6 ∧ LoopR Cx 45 c45_6 c45_7 ∧ SeqR Cx 45 c45_7 c45_8 c45_9 := ⟨run_seq, run_region, run_seq, run_seq, run_region, run_block, run_loop', run_seq⟩
theorem r45_1 : RegR Cx 45 c45_8 o45_8 ∧ SeqR Cx 45 c45_9 c45_10 c45_13 ∧ CondR Cx 45 c45_10 (tm 12) c45_11 c45_12 ∧ SkipR Cx 45 c45_11 ∧ ExitR Cx 45 c45_12 0 ∧ SeqR Cx 45 c45_13 c45_14 c45_22 ∧ BlkR Cx 45 c45_14 1 c45_15 ∧ SeqR Cx 45 c45_15 c45_16 c45_17 := ⟨run_region, run_seq, run_condC, run_skip, run_exit_start, run_seq, run_block, run_seq⟩
theorem r45_2 : RegR Cx 45 c45_16 o45_16 ∧ SeqR Cx 45 c45_17 c45_18 c45_19 ∧ RegR Cx 45 c45_18 o45_18 ∧ CondR Cx 45 c45_19 (tm 18) c45_20 c45_21 ∧ RegR Cx 45 c45_20 o45_20 ∧ SkipR Cx 45 c45_21 ∧ RegR Cx 45 c45_22 o45_22 ∧ BlkR Cx 45 c45_23 2 c45_24 := ⟨run_region, run_seq, run_region, run_condC, run_region, run_skip, run_region, run_block⟩
theorem r45_3 : LoopR Cx 45 c45_24 c45_25 ∧ SeqR Cx 45 c45_25 c45_26 c45_31 ∧ SeqR Cx 45 c45_26 c45_27 c45_28 ∧ RegR Cx 45 c45_27 o45_27 ∧ CondR Cx 45 c45_28 (tm 30) c45_29 c45_30 ∧ SkipR Cx 45 c45_29 ∧ ExitR Cx 45 c45_30 2 ∧ BlkR Cx 45 c45_31 3 c45_32 := ⟨run_loop', run_seq, run_seq, run_region, run_condC, run_skip, run_exit_start, run_block⟩
theorem r45_4 : SeqR Cx 45 c45_32 c45_33 c45_34 ∧ RegR Cx 45 c45_33 o45_33 ∧ SeqR Cx 45 c45_34 c45_35 c45_40 ∧ SeqR Cx 45 c45_35 c45_36 c45_37 ∧ RegR Cx 45 c45_36 o45_36 ∧ CondR Cx 45 c45_37 (tm 41) c45_38 c45_39 ∧ RetR Cx 45 c45_38 ∧ SkipR Cx 45 c45_39 := ⟨run_seq, run_region, run_seq, run_seq, run_region, run_condC, run_ret, run_skip⟩
theorem r45_5 : SeqR Cx 45 c45_40 c45_41 c45_42 ∧ RegR Cx 45 c45_41 o45_41 ∧ SeqR Cx 45 c45_42 c45_43 c45_44 ∧ RegR Cx 45 c45_43 o45_43 ∧ CondR Cx 45 c45_44 (tm 51) c45_45 c45_46 ∧ RegR Cx 45 c45_45 o45_45 ∧ SkipR Cx 45 c45_46 := ⟨run_seq, run_region, run_seq, run_region, run_condC, run_region, run_skip⟩
abbrev o46_1 : List AO := [oA 2 (.box 84 (tm 0)) 0,
  oA 3 (.box 84 (tm 1)) 0,
  oA 4 (.assign (.const (.bool false))) 4]
def c46_1 : AC := .region o46_1 []
abbrev o46_3 : List AO := [oA 7 (.fieldAddr 84 (tm 2) 0) 0,
  oA 8 (.load 22 (tm 7)) 22,
  oA 9 (.fieldAddr 84 (tm 2) 1) 0,
  oA 10 (.load 3 (tm 9)) 3,
  oA 11 (.indexAddr 22 (tm 8) (tm 10)) 0,
  oA 12 (.fieldAddr 47 (tm 11) 0) 0,
  oA 13 (.load 9 (tm 12)) 9,
  oA 14 (.fieldAddr 84 (tm 3) 0) 0,
  oA 15 (.load 22 (tm 14)) 22,
  oA 16 (.fieldAddr 84 (tm 3) 1) 0,
  oA 17 (.load 3 (tm 16)) 3,
  oA 18 (.indexAddr 22 (tm 15) (tm 17)) 0,
  oA 19 (.fieldAddr 47 (tm 18) 0) 0,
  oA 20 (.load 9 (tm 19)) 9,
  oA 5 (.assign (tm 13)) 9,
  oA 6 (.assign (tm 20)) 9]
def c46_3 : AC := .region o46_3 []
abbrev o46_5 : List AO := [oA 21 (.move (tm 5)) 9,
  oA 22 (.move (tm 6)) 9,
  oA 23 (.binOp .lss 9 (tm 21) (tm 22) 9) 4,
  oA 24 (.move (tm 23)) 4,
  oG 25 (.move (tm 5)) 9 24 false,
  oG 26 (.move (tm 6)) 9 24 false,
  oG 27 (.binOp .eql 9 (tm 25) (tm 26) 9) 4 24 false,
  oG 28 (.move (tm 27)) 4 24 false,
  oG 29 (.fieldAddr 84 (tm 2) 2) 0 28 true,
  oG 30 (.load 3 (tm 29)) 3 28 true,
  oG 31 (.fieldAddr 84 (tm 3) 2) 0 28 true,
  oG 32 (.load 3 (tm 31)) 3 28 true,
  oG 33 (.binOp .lss 3 (tm 30) (tm 32) 3) 4 28 true,
  oG 34 (.pick (tm 28) (tm 33) (.const (.bool false))) 4 24 false,
  oA 35 (.pick (tm 24) (.const (.bool true)) (tm 34)) 4,
  oA 4 (.assign (tm 35)) 4]
def c46_5 : AC := .region o46_5 []
def c46_6 : AC := .ret
def c46_4 : AC := .seq c46_5 c46_6
def c46_2 : AC := .seq c46_3 c46_4
def c46_0 : AC := .seq c46_1 c46_2
theorem r46_0 : SeqR Cx 46 c46_0 c46_1 c46_2 ∧ RegR Cx 46 c46_1 o46_1 ∧ SeqR Cx 46 c46_2 c46_3 c46_4 ∧ RegR Cx 46 c46_3 o46_3 ∧ SeqR Cx 46 c46_4 c46_5 c46_6 ∧ RegR Cx 46 c46_5 o46_5 ∧ RetR Cx 46 c46_6 := ⟨run_seq, run_region, run_seq, run_region, run_seq, run_region, run_ret⟩
abbrev o47_1 : List AO := [oA 3 (.box 84 (tm 1)) 0]
def c47_1 : AC := .region o47_1 []
abbrev o47_3 : List AO := [oA 5 (.move (tm 0)) 82,
  oA 6 (.move (tm 0)) 82,
  oA 7 (.nilCheck (tm 6)) 0,
  oA 8 (.fieldAddr 88 (tm 7) 0) 0,
  oA 9 (.load 86 (tm 8)) 86,
  oA 10 (.load 84 (tm 3)) 84,
  oA 11 (.buildSlice 86 1 #[(0, (tm 10))]) 86,
  oA 12 (cB .append #[(tm 9), (tm 11)] #[86, 86]) 86,
  oA 13 (.nilCheck (tm 5)) 0,
  oA 14 (.fieldAddr 88 (tm 13) 0) 0,
  oN (.store 86 (tm 14) (tm 12)) 0]
def c47_3 : AC := .region o47_3 []
abbrev o47_5 : List AO := [oA 15 (.move (tm 0)) 82,
  oA 16 (.nilCheck (tm 15)) 0,
  oA 17 (.fieldAddr 88 (tm 16) 0) 0,
  oA 18 (.load 86 (tm 17)) 86,
  oA 19 (cB .len #[(tm 18)] #[86]) 3,
  oA 20 (.binOp .sub 3 (tm 19) (ci 1) 3) 3,
  oA 4 (.assign (tm 20)) 3]
def c47_5 : AC := .region o47_5 []
abbrev o47_10 : List AO := [oA 21 (.move (tm 4)) 3,
  oA 22 (.binOp .gtr 3 (tm 21) (ci 0) 3) 4,
  oA 23 (.move (tm 22)) 4,
  oG 24 (.move (tm 0)) 82 23 true,
  oG 25 (.nilCheck (tm 24)) 0 23 true,
  oG 26 (.fieldAddr 88 (tm 25) 1) 0 23 true,
  oG 27 (.load 85 (tm 26)) 85 23 true,
  oG 28 (.move (tm 0)) 82 23 true,
  oG 29 (.nilCheck (tm 28)) 0 23 true,
  oG 30 (.fieldAddr 88 (tm 29) 0) 0 23 true,
  oG 31 (.load 86 (tm 30)) 86 23 true,
  oG 32 (.move (tm 4)) 3 23 true,
  oG 33 (.indexAddr 86 (tm 31) (tm 32)) 0 23 true,
  oG 34 (.load 84 (tm 33)) 84 23 true,
  oG 35 (.move (tm 0)) 82 23 true,
  oG 36 (.nilCheck (tm 35)) 0 23 true,
  oG 37 (.fieldAddr 88 (tm 36) 0) 0 23 true,
  oG 38 (.load 86 (tm 37)) 86 23 true,
  oG 39 (.move (tm 4)) 3 23 true,
  oG 40 (.binOp .sub 3 (tm 39) (ci 1) 3) 3 23 true,
  oG 41 (.binOp .quo 3 (tm 40) (ci 2) 3) 3 23 true,
  oG 42 (.indexAddr 86 (tm 38) (tm 41)) 0 23 true,
  oG 43 (.load 84 (tm 42)) 84 23 true,
  oG 44 (cV 27 #[(tm 34), (tm 43)] #[84, 84]) 4 23 true,
  oA 45 (.pick (tm 23) (tm 44) (.const (.bool false))) 4]
def c47_10 : AC := .region o47_10 []
def c47_12 : AC := .skip
def c47_13 : AC := .exit 0
def c47_11 : AC := .cond (tm 45) c47_12 c47_13
def c47_9 : AC := .seq c47_10 c47_11
abbrev o47_16 : List AO := [oA 49 (.move (tm 0)) 82,
  oA 50 (.nilCheck (tm 49)) 0,
  oA 51 (.fieldAddr 88 (tm 50) 0) 0,
  oA 52 (.load 86 (tm 51)) 86,
  oA 53 (.move (tm 4)) 3,
  oA 54 (.move (tm 0)) 82,
  oA 55 (.nilCheck (tm 54)) 0,
  oA 56 (.fieldAddr 88 (tm 55) 0) 0,
  oA 57 (.load 86 (tm 56)) 86,
  oA 58 (.move (tm 4)) 3,
  oA 59 (.binOp .sub 3 (tm 58) (ci 1) 3) 3,
  oA 60 (.binOp .quo 3 (tm 59) (ci 2) 3) 3,
  oA 61 (.move (tm 0)) 82,
  oA 62 (.nilCheck (tm 61)) 0,
  oA 63 (.fieldAddr 88 (tm 62) 0) 0,
  oA 64 (.load 86 (tm 63)) 86,
  oA 65 (.move (tm 4)) 3,
  oA 66 (.binOp .sub 3 (tm 65) (ci 1) 3) 3,
  oA 67 (.binOp .quo 3 (tm 66) (ci 2) 3) 3,
  oA 68 (.indexAddr 86 (tm 64) (tm 67)) 0,
  oA 69 (.load 84 (tm 68)) 84,
  oA 70 (.move (tm 0)) 82,
  oA 71 (.nilCheck (tm 70)) 0,
  oA 72 (.fieldAddr 88 (tm 71) 0) 0,
  oA 73 (.load 86 (tm 72)) 86,
  oA 74 (.move (tm 4)) 3,
  oA 75 (.indexAddr 86 (tm 73) (tm 74)) 0,
  oA 76 (.load 84 (tm 75)) 84,
  oA 77 (.indexAddr 86 (tm 52) (tm 53)) 0,
  oN (.store 84 (tm 77) (tm 69)) 0,
  oA 78 (.indexAddr 86 (tm 57) (tm 60)) 0,
  oN (.store 84 (tm 78) (tm 76)) 0]
def c47_16 : AC := .region o47_16 []
def c47_15 : AC := .block 1 c47_16
abbrev o47_17 : List AO := [oA 46 (.move (tm 4)) 3,
  oA 47 (.binOp .sub 3 (tm 46) (ci 1) 3) 3,
  oA 48 (.binOp .quo 3 (tm 47) (ci 2) 3) 3,
  oA 4 (.assign (tm 48)) 3]
def c47_17 : AC := .region o47_17 []
def c47_14 : AC := .seq c47_15 c47_17
def c47_8 : AC := .seq c47_9 c47_14
def c47_7 : AC := .loop c47_8
def c47_6 : AC := .block 0 c47_7
def c47_4 : AC := .seq c47_5 c47_6
def c47_2 : AC := .seq c47_3 c47_4
def c47_0 : AC := .seq c47_1 c47_2
theorem r47_0 : SeqR Cx 47 c47_0 c47_1 c47_2 ∧ RegR Cx 47 c47_1 o47_1 ∧ SeqR Cx 47 c47_2 c47_3 c47_4 ∧ RegR Cx 47 c47_3 o47_3 ∧ SeqR Cx 47 c47_4 c47_5 c47_6 ∧ RegR Cx 47 c47_5 o47_5 ∧ BlkR Cx 47 c47_6 0 c47_7 ∧ LoopR Cx 47 c47_7 c47_8 := ⟨run_seq, run_region, run_seq, run_region, run_seq, run_region, run_block, run_loop'⟩
theorem r47_1 : SeqR Cx 47 c47_8 c47_9 c47_14 ∧ SeqR Cx 47 c47_9 c47_10 c47_11 ∧ RegR Cx 47 c47_10 o47_10 ∧ CondR Cx 47 c47_11 (tm 45) c47_12 c47_13 ∧ SkipR Cx 47 c47_12 ∧ ExitR Cx 47 c47_13 0 ∧ SeqR Cx 47 c47_14 c47_15 c47_17 ∧ BlkR Cx 47 c47_15 1 c47_16 := ⟨run_seq, run_seq, run_region, run_condC, run_skip, run_exit_start, run_seq, run_block⟩
theorem r47_2 : RegR Cx 47 c47_16 o47_16 ∧ RegR Cx 47 c47_17 o47_17 := ⟨run_region, run_region⟩
abbrev o48_1 : List AO := [oA 2 (.alloc 84) 0]
def c48_1 : AC := .region o48_1 []
abbrev o48_4 : List AO := [oA 7 (.move (tm 0)) 82,
  oA 8 (.nilCheck (tm 7)) 0,
  oA 9 (.fieldAddr 88 (tm 8) 0) 0,
  oA 10 (.load 86 (tm 9)) 86,
  oA 11 (.indexAddr 86 (tm 10) (ci 0)) 0,
  oA 12 (.load 84 (tm 11)) 84,
  oA 3 (.alloc 84) 0,
  oN (.store 84 (tm 3) (tm 12)) 0]
def c48_4 : AC := .region o48_4 []
abbrev o48_6 : List AO := [oA 13 (.move (tm 0)) 82,
  oA 14 (.nilCheck (tm 13)) 0,
  oA 15 (.fieldAddr 88 (tm 14) 0) 0,
  oA 16 (.load 86 (tm 15)) 86,
  oA 17 (cB .len #[(tm 16)] #[86]) 3,
  oA 18 (.binOp .sub 3 (tm 17) (ci 1) 3) 3,
  oA 4 (.assign (tm 18)) 3]
def c48_6 : AC := .region o48_6 []
abbrev o48_8 : List AO := [oA 19 (.move (tm 0)) 82,
  oA 20 (.nilCheck (tm 19)) 0,
  oA 21 (.fieldAddr 88 (tm 20) 0) 0,
  oA 22 (.load 86 (tm 21)) 86,
  oA 23 (.move (tm 0)) 82,
  oA 24 (.nilCheck (tm 23)) 0,
  oA 25 (.fieldAddr 88 (tm 24) 0) 0,
  oA 26 (.load 86 (tm 25)) 86,
  oA 27 (.move (tm 4)) 3,
  oA 28 (.indexAddr 86 (tm 26) (tm 27)) 0,
  oA 29 (.load 84 (tm 28)) 84,
  oA 30 (.indexAddr 86 (tm 22) (ci 0)) 0,
  oN (.store 84 (tm 30) (tm 29)) 0]
def c48_8 : AC := .region o48_8 []
abbrev o48_10 : List AO := [oA 31 (.move (tm 0)) 82,
  oA 32 (.move (tm 0)) 82,
  oA 33 (.nilCheck (tm 32)) 0,
  oA 34 (.fieldAddr 88 (tm 33) 0) 0,
  oA 35 (.load 86 (tm 34)) 86,
  oA 36 (.move (tm 4)) 3,
  oA 37 (.slice 86 (tm 35) none (some (tm 36)) none) 86,
  oA 38 (.nilCheck (tm 31)) 0,
  oA 39 (.fieldAddr 88 (tm 38) 0) 0,
  oN (.store 86 (tm 39) (tm 37)) 0]
def c48_10 : AC := .region o48_10 []
abbrev o48_12 : List AO := [oA 5 (.assign (ci 0)) 3]
def c48_12 : AC := .region o48_12 []
def c48_14 : AC := .label 0
abbrev o48_16 : List AO := [oA 40 (.move (tm 5)) 3,
  oA 41 (.binOp .mul 3 (ci 2) (tm 40) 3) 3,
  oA 42 (.binOp .add 3 (tm 41) (ci 1) 3) 3,
  oA 6 (.assign (tm 42)) 3]
def c48_16 : AC := .region o48_16 []
abbrev o48_19 : List AO := [oA 43 (.move (tm 6)) 3,
  oA 44 (.move (tm 4)) 3,
  oA 45 (.binOp .lss 3 (tm 43) (tm 44) 3) 4]
def c48_19 : AC := .region o48_19 []
abbrev o48_23 : List AO := [oA 46 (.move (tm 6)) 3,
  oA 47 (.binOp .add 3 (tm 46) (ci 1) 3) 3,
  oA 48 (.move (tm 4)) 3,
  oA 49 (.binOp .lss 3 (tm 47) (tm 48) 3) 4,
  oA 50 (.move (tm 49)) 4,
  oG 51 (.move (tm 0)) 82 50 true,
  oG 52 (.nilCheck (tm 51)) 0 50 true,
  oG 53 (.fieldAddr 88 (tm 52) 1) 0 50 true,
  oG 54 (.load 85 (tm 53)) 85 50 true,
  oG 55 (.move (tm 0)) 82 50 true,
  oG 56 (.nilCheck (tm 55)) 0 50 true,
  oG 57 (.fieldAddr 88 (tm 56) 0) 0 50 true,
  oG 58 (.load 86 (tm 57)) 86 50 true,
  oG 59 (.move (tm 6)) 3 50 true,
  oG 60 (.binOp .add 3 (tm 59) (ci 1) 3) 3 50 true,
  oG 61 (.indexAddr 86 (tm 58) (tm 60)) 0 50 true,
  oG 62 (.load 84 (tm 61)) 84 50 true,
  oG 63 (.move (tm 0)) 82 50 true,
  oG 64 (.nilCheck (tm 63)) 0 50 true,
  oG 65 (.fieldAddr 88 (tm 64) 0) 0 50 true,
  oG 66 (.load 86 (tm 65)) 86 50 true,
  oG 67 (.move (tm 6)) 3 50 true,
  oG 68 (.indexAddr 86 (tm 66) (tm 67)) 0 50 true,
  oG 69 (.load 84 (tm 68)) 84 50 true,
  oG 70 (cV 54 #[(tm 62), (tm 69)] #[84, 84]) 4 50 true,
  oA 71 (.pick (tm 50) (tm 70) (.const (.bool false))) 4]
def c48_23 : AC := .region o48_23 []
abbrev o48_25 : List AO := [oA 72 (.move (tm 6)) 3,
  oA 73 (.binOp .add 3 (tm 72) (ci 1) 3) 3,
  oA 6 (.assign (tm 73)) 3]
def c48_25 : AC := .region o48_25 []
def c48_26 : AC := .skip
def c48_24 : AC := .cond (tm 71) c48_25 c48_26
def c48_22 : AC := .seq c48_23 c48_24
abbrev o48_28 : List AO := [oA 74 (.move (tm 0)) 82,
  oA 75 (.nilCheck (tm 74)) 0,
  oA 76 (.fieldAddr 88 (tm 75) 1) 0,
  oA 77 (.load 85 (tm 76)) 85,
  oA 78 (.move (tm 0)) 82,
  oA 79 (.nilCheck (tm 78)) 0,
  oA 80 (.fieldAddr 88 (tm 79) 0) 0,
  oA 81 (.load 86 (tm 80)) 86,
  oA 82 (.move (tm 6)) 3,
  oA 83 (.indexAddr 86 (tm 81) (tm 82)) 0,
  oA 84 (.load 84 (tm 83)) 84,
  oA 85 (.move (tm 0)) 82,
  oA 86 (.nilCheck (tm 85)) 0,
  oA 87 (.fieldAddr 88 (tm 86) 0) 0,
  oA 88 (.load 86 (tm 87)) 86,
  oA 89 (.move (tm 5)) 3,
  oA 90 (.indexAddr 86 (tm 88) (tm 89)) 0,
  oA 91 (.load 84 (tm 90)) 84,
  oA 92 (cV 77 #[(tm 84), (tm 91)] #[84, 84]) 4]
def c48_28 : AC := .region o48_28 []
abbrev o48_31 : List AO := [oA 93 (.move (tm 0)) 82,
  oA 94 (.nilCheck (tm 93)) 0,
  oA 95 (.fieldAddr 88 (tm 94) 0) 0,
  oA 96 (.load 86 (tm 95)) 86,
  oA 97 (.move (tm 5)) 3,
  oA 98 (.move (tm 0)) 82,
  oA 99 (.nilCheck (tm 98)) 0,
  oA 100 (.fieldAddr 88 (tm 99) 0) 0,
  oA 101 (.load 86 (tm 100)) 86,
  oA 102 (.move (tm 6)) 3,
  oA 103 (.move (tm 0)) 82,
  oA 104 (.nilCheck (tm 103)) 0,
  oA 105 (.fieldAddr 88 (tm 104) 0) 0,
  oA 106 (.load 86 (tm 105)) 86,
  oA 107 (.move (tm 6)) 3,
  oA 108 (.indexAddr 86 (tm 106) (tm 107)) 0,
  oA 109 (.load 84 (tm 108)) 84,
  oA 110 (.move (tm 0)) 82,
  oA 111 (.nilCheck (tm 110)) 0,
  oA 112 (.fieldAddr 88 (tm 111) 0) 0,
  oA 113 (.load 86 (tm 112)) 86,
  oA 114 (.move (tm 5)) 3,
  oA 115 (.indexAddr 86 (tm 113) (tm 114)) 0,
  oA 116 (.load 84 (tm 115)) 84,
  oA 117 (.indexAddr 86 (tm 96) (tm 97)) 0,
  oN (.store 84 (tm 117) (tm 109)) 0,
  oA 118 (.indexAddr 86 (tm 101) (tm 102)) 0,
  oN (.store 84 (tm 118) (tm 116)) 0]
def c48_31 : AC := .region o48_31 []
abbrev o48_33 : List AO := [oA 119 (.move (tm 6)) 3,
  oA 5 (.assign (tm 119)) 3]
def c48_33 : AC := .region o48_33 []
def c48_34 : AC := .goto 0
def c48_32 : AC := .seq c48_33 c48_34
def c48_30 : AC := .seq c48_31 c48_32
def c48_35 : AC := .skip
def c48_29 : AC := .cond (tm 92) c48_30 c48_35
def c48_27 : AC := .seq c48_28 c48_29
def c48_21 : AC := .seq c48_22 c48_27
def c48_36 : AC := .skip
def c48_20 : AC := .cond (tm 45) c48_21 c48_36
def c48_18 : AC := .seq c48_19 c48_20
abbrev o48_38 : List AO := [oA 120 (.load 84 (tm 3)) 84,
  oN (.store 84 (tm 2) (tm 120)) 0]
def c48_38 : AC := .region o48_38 []
def c48_39 : AC := .ret
def c48_37 : AC := .seq c48_38 c48_39
def c48_17 : AC := .seq c48_18 c48_37
def c48_15 : AC := .seq c48_16 c48_17
def c48_13 : AC := .seq c48_14 c48_15
def c48_11 : AC := .seq c48_12 c48_13
def c48_9 : AC := .seq c48_10 c48_11
def c48_7 : AC := .seq c48_8 c48_9
def c48_5 : AC := .seq c48_6 c48_7
def c48_3 : AC := .seq c48_4 c48_5
def c48_2 : AC := .scope c48_3
def c48_0 : AC := .seq c48_1 c48_2
theorem r48_0 : SeqR Cx 48 c48_0 c48_1 c48_2 ∧ RegR Cx 48 c48_1 o48_1 ∧ ScopeR Cx 48 c48_2 c48_3 ∧ SeqR Cx 48 c48_3 c48_4 c48_5 ∧ RegR Cx 48 c48_4 o48_4 ∧ SeqR Cx 48 c48_5 c48_6 c48_7 ∧ RegR Cx 48 c48_6 o48_6 ∧ SeqR Cx 48 c48_7 c48_8 c48_9 := ⟨run_seq, run_region, run_scope, run_seq, run_region, run_seq, run_region, run_seq⟩
theorem r48_1 : RegR Cx 48 c48_8 o48_8 ∧ SeqR Cx 48 c48_9 c48_10 c48_11 ∧ RegR Cx 48 c48_10 o48_10 ∧ SeqR Cx 48 c48_11 c48_12 c48_13 ∧ RegR Cx 48 c48_12 o48_12 ∧ SeqR Cx 48 c48_13 c48_14 c48_15 ∧ SkipR Cx 48 c48_14 ∧ SeqR Cx 48 c48_15 c48_16 c48_17 := ⟨run_region, run_seq, run_region, run_seq, run_region, run_seq, run_label, run_seq⟩
theorem r48_2 : RegR Cx 48 c48_16 o48_16 ∧ SeqR Cx 48 c48_17 c48_18 c48_37 ∧ SeqR Cx 48 c48_18 c48_19 c48_20 ∧ RegR Cx 48 c48_19 o48_19 ∧ CondR Cx 48 c48_20 (tm 45) c48_21 c48_36 ∧ SeqR Cx 48 c48_21 c48_22 c48_27 ∧ SeqR Cx 48 c48_22 c48_23 c48_24 ∧ RegR Cx 48 c48_23 o48_23 := ⟨run_region, run_seq, run_seq, run_region, run_condC, run_seq, run_seq, run_region⟩
theorem r48_3 : CondR Cx 48 c48_24 (tm 71) c48_25 c48_26 ∧ RegR Cx 48 c48_25 o48_25 ∧ SkipR Cx 48 c48_26 ∧ SeqR Cx 48 c48_27 c48_28 c48_29 ∧ RegR Cx 48 c48_28 o48_28 ∧ CondR Cx 48 c48_29 (tm 92) c48_30 c48_35 ∧ SeqR Cx 48 c48_30 c48_31 c48_32 ∧ RegR Cx 48 c48_31 o48_31 := ⟨run_condC, run_region, run_skip, run_seq, run_region, run_condC, run_seq, run_region⟩
theorem r48_4 : SeqR Cx 48 c48_32 c48_33 c48_34 ∧ RegR Cx 48 c48_33 o48_33 ∧ SkipR Cx 48 c48_35 ∧ SkipR Cx 48 c48_36 ∧ SeqR Cx 48 c48_37 c48_38 c48_39 ∧ RegR Cx 48 c48_38 o48_38 ∧ RetR Cx 48 c48_39 := ⟨run_seq, run_region, run_skip, run_skip, run_seq, run_region, run_ret⟩
abbrev o49_1 : List AO := [oA 2 (.assign (.const (.bool false))) 4]
def c49_1 : AC := .region o49_1 []
abbrev o49_3 : List AO := [oA 3 (.move (tm 0)) 9,
  oA 4 (.binOp .eql 9 (tm 3) (.const (.string ⟨#[115, 117, 109]⟩)) 9) 4,
  oA 5 (.move (tm 4)) 4,
  oG 6 (.move (tm 0)) 9 5 false,
  oG 7 (.binOp .eql 9 (tm 6) (.const (.string ⟨#[109, 97, 120]⟩)) 9) 4 5 false,
  oA 8 (.pick (tm 5) (.const (.bool true)) (tm 7)) 4,
  oA 9 (.move (tm 8)) 4,
  oG 10 (.move (tm 0)) 9 9 false,
  oG 11 (.binOp .eql 9 (tm 10) (.const (.string ⟨#[109, 105, 110]⟩)) 9) 4 9 false,
  oA 12 (.pick (tm 9) (.const (.bool true)) (tm 11)) 4,
  oA 13 (.move (tm 12)) 4,
  oG 14 (.move (tm 0)) 9 13 false,
  oG 15 (.binOp .eql 9 (tm 14) (.const (.string ⟨#[103, 99, 100]⟩)) 9) 4 13 false,
  oA 16 (.pick (tm 13) (.const (.bool true)) (tm 15)) 4,
  oA 2 (.assign (tm 16)) 4]
def c49_3 : AC := .region o49_3 []
def c49_4 : AC := .ret
def c49_2 : AC := .seq c49_3 c49_4
def c49_0 : AC := .seq c49_1 c49_2
theorem r49_0 : SeqR Cx 49 c49_0 c49_1 c49_2 ∧ RegR Cx 49 c49_1 o49_1 ∧ SeqR Cx 49 c49_2 c49_3 c49_4 ∧ RegR Cx 49 c49_3 o49_3 ∧ RetR Cx 49 c49_4 := ⟨run_seq, run_region, run_seq, run_region, run_ret⟩
abbrev o50_1 : List AO := [oA 1 (.box 45 (tm 0)) 0,
  oA 2 (.assign (.const (.bool false))) 4]
def c50_1 : AC := .region o50_1 []
abbrev o50_4 : List AO := [oA 3 (.fieldAddr 45 (tm 1) 0) 0,
  oA 4 (.load 3 (tm 3)) 3]
def c50_4 : AC := .region o50_4 []
abbrev o50_7 : List AO := [oA 6 (.binOp .eql 3 (tm 4) (ci 0) 3) 4,
  oA 5 (.assign (tm 6)) 4]
def c50_7 : AC := .region o50_7 []
abbrev o50_10 : List AO := [oA 7 (.fieldAddr 45 (tm 1) 1) 0,
  oA 8 (.load 3 (tm 7)) 3,
  oA 9 (.binOp .geq 3 (tm 8) (ci (-9007199254740992)) 3) 4,
  oA 10 (.move (tm 9)) 4,
  oG 11 (.fieldAddr 45 (tm 1) 1) 0 10 true,
  oG 12 (.load 3 (tm 11)) 3 10 true,
  oG 13 (.binOp .leq 3 (tm 12) (ci 9007199254740992) 3) 4 10 true,
  oA 14 (.pick (tm 10) (tm 13) (.const (.bool false))) 4,
  oA 15 (.move (tm 14)) 4,
  oG 16 (.fieldAddr 45 (tm 1) 2) 0 15 true,
  oG 17 (.load 9 (tm 16)) 9 15 true,
  oG 18 (.binOp .eql 9 (tm 17) (.const (.string ⟨#[]⟩)) 9) 4 15 true,
  oA 19 (.pick (tm 15) (tm 18) (.const (.bool false))) 4,
  oA 20 (.move (tm 19)) 4,
  oG 21 (.fieldAddr 45 (tm 1) 3) 0 20 true,
  oG 22 (.load 43 (tm 21)) 43 20 true,
  oG 23 (.build 43 #[]) 43 20 true,
  oG 24 (.binOp .eql 43 (tm 22) (tm 23) 43) 4 20 true,
  oA 25 (.pick (tm 20) (tm 24) (.const (.bool false))) 4,
  oA 2 (.assign (tm 25)) 4]
def c50_10 : AC := .region o50_10 []
def c50_11 : AC := .ret
def c50_9 : AC := .seq c50_10 c50_11
abbrev o50_13 : List AO := [oA 27 (.binOp .eql 3 (tm 4) (ci 1) 3) 4,
  oA 26 (.assign (tm 27)) 4]
def c50_13 : AC := .region o50_13 []
abbrev o50_16 : List AO := [oA 28 (.fieldAddr 45 (tm 1) 2) 0,
  oA 29 (.load 9 (tm 28)) 9,
  oA 30 (cB .len #[(tm 29)] #[9]) 3,
  oA 31 (.binOp .leq 3 (tm 30) (ci 4096) 3) 4,
  oA 32 (.move (tm 31)) 4,
  oG 33 (.fieldAddr 45 (tm 1) 1) 0 32 true,
  oG 34 (.load 3 (tm 33)) 3 32 true,
  oG 35 (.binOp .eql 3 (tm 34) (ci 0) 3) 4 32 true,
  oA 36 (.pick (tm 32) (tm 35) (.const (.bool false))) 4,
  oA 37 (.move (tm 36)) 4,
  oG 38 (.fieldAddr 45 (tm 1) 3) 0 37 true,
  oG 39 (.load 43 (tm 38)) 43 37 true,
  oG 40 (.build 43 #[]) 43 37 true,
  oG 41 (.binOp .eql 43 (tm 39) (tm 40) 43) 4 37 true,
  oA 42 (.pick (tm 37) (tm 41) (.const (.bool false))) 4,
  oA 2 (.assign (tm 42)) 4]
def c50_16 : AC := .region o50_16 []
def c50_17 : AC := .ret
def c50_15 : AC := .seq c50_16 c50_17
abbrev o50_19 : List AO := [oA 44 (.binOp .eql 3 (tm 4) (ci 2) 3) 4,
  oA 43 (.assign (tm 44)) 4]
def c50_19 : AC := .region o50_19 []
abbrev o50_22 : List AO := [oA 45 (.fieldAddr 45 (tm 1) 3) 0,
  oA 46 (.load 43 (tm 45)) 43,
  oA 47 (cF 66 #[(tm 46)] #[43]) 4,
  oA 48 (.move (tm 47)) 4,
  oG 49 (.fieldAddr 45 (tm 1) 1) 0 48 true,
  oG 50 (.load 3 (tm 49)) 3 48 true,
  oG 51 (.binOp .eql 3 (tm 50) (ci 0) 3) 4 48 true,
  oA 52 (.pick (tm 48) (tm 51) (.const (.bool false))) 4,
  oA 53 (.move (tm 52)) 4,
  oG 54 (.fieldAddr 45 (tm 1) 2) 0 53 true,
  oG 55 (.load 9 (tm 54)) 9 53 true,
  oG 56 (.binOp .eql 9 (tm 55) (.const (.string ⟨#[]⟩)) 9) 4 53 true,
  oA 57 (.pick (tm 53) (tm 56) (.const (.bool false))) 4,
  oA 2 (.assign (tm 57)) 4]
def c50_22 : AC := .region o50_22 []
def c50_23 : AC := .ret
def c50_21 : AC := .seq c50_22 c50_23
def c50_24 : AC := .skip
def c50_20 : AC := .cond (tm 43) c50_21 c50_24
def c50_18 : AC := .seq c50_19 c50_20
def c50_14 : AC := .cond (tm 26) c50_15 c50_18
def c50_12 : AC := .seq c50_13 c50_14
def c50_8 : AC := .cond (tm 5) c50_9 c50_12
def c50_6 : AC := .seq c50_7 c50_8
def c50_5 : AC := .block 0 c50_6
def c50_3 : AC := .seq c50_4 c50_5
abbrev o50_26 : List AO := [oA 2 (.assign (.const (.bool false))) 4]
def c50_26 : AC := .region o50_26 []
def c50_27 : AC := .ret
def c50_25 : AC := .seq c50_26 c50_27
def c50_2 : AC := .seq c50_3 c50_25
def c50_0 : AC := .seq c50_1 c50_2
theorem r50_0 : SeqR Cx 50 c50_0 c50_1 c50_2 ∧ RegR Cx 50 c50_1 o50_1 ∧ SeqR Cx 50 c50_2 c50_3 c50_25 ∧ SeqR Cx 50 c50_3 c50_4 c50_5 ∧ RegR Cx 50 c50_4 o50_4 ∧ BlkR Cx 50 c50_5 0 c50_6 ∧ SeqR Cx 50 c50_6 c50_7 c50_8 ∧ RegR Cx 50 c50_7 o50_7 := ⟨run_seq, run_region, run_seq, run_seq, run_region, run_block, run_seq, run_region⟩
theorem r50_1 : CondR Cx 50 c50_8 (tm 5) c50_9 c50_12 ∧ SeqR Cx 50 c50_9 c50_10 c50_11 ∧ RegR Cx 50 c50_10 o50_10 ∧ RetR Cx 50 c50_11 ∧ SeqR Cx 50 c50_12 c50_13 c50_14 ∧ RegR Cx 50 c50_13 o50_13 ∧ CondR Cx 50 c50_14 (tm 26) c50_15 c50_18 ∧ SeqR Cx 50 c50_15 c50_16 c50_17 := ⟨run_condC, run_seq, run_region, run_ret, run_seq, run_region, run_condC, run_seq⟩
theorem r50_2 : RegR Cx 50 c50_16 o50_16 ∧ RetR Cx 50 c50_17 ∧ SeqR Cx 50 c50_18 c50_19 c50_20 ∧ RegR Cx 50 c50_19 o50_19 ∧ CondR Cx 50 c50_20 (tm 43) c50_21 c50_24 ∧ SeqR Cx 50 c50_21 c50_22 c50_23 ∧ RegR Cx 50 c50_22 o50_22 ∧ RetR Cx 50 c50_23 := ⟨run_region, run_ret, run_seq, run_region, run_condC, run_seq, run_region, run_ret⟩
theorem r50_3 : SkipR Cx 50 c50_24 ∧ SeqR Cx 50 c50_25 c50_26 c50_27 ∧ RegR Cx 50 c50_26 o50_26 ∧ RetR Cx 50 c50_27 := ⟨run_skip, run_seq, run_region, run_ret⟩
abbrev o51_1 : List AO := [oA 2 (.box 45 (tm 0)) 0,
  oA 3 (.box 45 (tm 1)) 0,
  oA 4 (.assign (ci 0)) 3]
def c51_1 : AC := .region o51_1 []
abbrev o51_4 : List AO := [oA 5 (.load 45 (tm 2)) 45,
  oA 6 (.load 45 (tm 3)) 45,
  oA 7 (cF 67 #[(tm 5), (tm 6)] #[45, 45]) 4]
def c51_4 : AC := .region o51_4 []
abbrev o51_7 : List AO := [oA 4 (.assign (ci (-1))) 3]
def c51_7 : AC := .region o51_7 []
def c51_8 : AC := .ret
def c51_6 : AC := .seq c51_7 c51_8
def c51_9 : AC := .skip
def c51_5 : AC := .cond (tm 7) c51_6 c51_9
def c51_3 : AC := .seq c51_4 c51_5
abbrev o51_12 : List AO := [oA 8 (.load 45 (tm 3)) 45,
  oA 9 (.load 45 (tm 2)) 45,
  oA 10 (cF 67 #[(tm 8), (tm 9)] #[45, 45]) 4]
def c51_12 : AC := .region o51_12 []
abbrev o51_15 : List AO := [oA 4 (.assign (ci 1)) 3]
def c51_15 : AC := .region o51_15 []
def c51_16 : AC := .ret
def c51_14 : AC := .seq c51_15 c51_16
def c51_17 : AC := .skip
def c51_13 : AC := .cond (tm 10) c51_14 c51_17
def c51_11 : AC := .seq c51_12 c51_13
abbrev o51_19 : List AO := [oA 4 (.assign (ci 0)) 3]
def c51_19 : AC := .region o51_19 []
def c51_20 : AC := .ret
def c51_18 : AC := .seq c51_19 c51_20
def c51_10 : AC := .seq c51_11 c51_18
def c51_2 : AC := .seq c51_3 c51_10
def c51_0 : AC := .seq c51_1 c51_2
theorem r51_0 : SeqR Cx 51 c51_0 c51_1 c51_2 ∧ RegR Cx 51 c51_1 o51_1 ∧ SeqR Cx 51 c51_2 c51_3 c51_10 ∧ SeqR Cx 51 c51_3 c51_4 c51_5 ∧ RegR Cx 51 c51_4 o51_4 ∧ CondR Cx 51 c51_5 (tm 7) c51_6 c51_9 ∧ SeqR Cx 51 c51_6 c51_7 c51_8 ∧ RegR Cx 51 c51_7 o51_7 := ⟨run_seq, run_region, run_seq, run_seq, run_region, run_condC, run_seq, run_region⟩
theorem r51_1 : RetR Cx 51 c51_8 ∧ SkipR Cx 51 c51_9 ∧ SeqR Cx 51 c51_10 c51_11 c51_18 ∧ SeqR Cx 51 c51_11 c51_12 c51_13 ∧ RegR Cx 51 c51_12 o51_12 ∧ CondR Cx 51 c51_13 (tm 10) c51_14 c51_17 ∧ SeqR Cx 51 c51_14 c51_15 c51_16 ∧ RegR Cx 51 c51_15 o51_15 := ⟨run_ret, run_skip, run_seq, run_seq, run_region, run_condC, run_seq, run_region⟩
theorem r51_2 : RetR Cx 51 c51_16 ∧ SkipR Cx 51 c51_17 ∧ SeqR Cx 51 c51_18 c51_19 c51_20 ∧ RegR Cx 51 c51_19 o51_19 ∧ RetR Cx 51 c51_20 := ⟨run_ret, run_skip, run_seq, run_region, run_ret⟩
abbrev o52_1 : List AO := [oA 4 (.assign (ci 0)) 3]
def c52_1 : AC := .region o52_1 []
abbrev o52_3 : List AO := [oA 5 (.move (tm 0)) 3,
  oA 6 (.move (tm 1)) 3,
  oA 7 (.binOp .add 3 (tm 5) (tm 6) 3) 3,
  oA 8 (.move (tm 1)) 3,
  oA 9 (.binOp .mul 3 (ci 2) (tm 8) 3) 3,
  oA 10 (.binOp .rem 3 (tm 7) (tm 9) 3) 3,
  oA 0 (.assign (tm 10)) 3]
def c52_3 : AC := .region o52_3 []
abbrev o52_6 : List AO := [oA 11 (.move (tm 0)) 3,
  oA 12 (.binOp .lss 3 (tm 11) (ci 0) 3) 4]
def c52_6 : AC := .region o52_6 []
abbrev o52_8 : List AO := [oA 13 (.move (tm 0)) 3,
  oA 14 (.move (tm 1)) 3,
  oA 15 (.binOp .mul 3 (ci 2) (tm 14) 3) 3,
  oA 16 (.binOp .add 3 (tm 13) (tm 15) 3) 3,
  oA 0 (.assign (tm 16)) 3]
def c52_8 : AC := .region o52_8 []
def c52_9 : AC := .skip
def c52_7 : AC := .cond (tm 12) c52_8 c52_9
def c52_5 : AC := .seq c52_6 c52_7
abbrev o52_11 : List AO := [oA 17 (.move (tm 0)) 3,
  oA 18 (.move (tm 1)) 3,
  oA 19 (.binOp .sub 3 (tm 17) (tm 18) 3) 3,
  oA 4 (.assign (tm 19)) 3]
def c52_11 : AC := .region o52_11 []
def c52_12 : AC := .ret
def c52_10 : AC := .seq c52_11 c52_12
def c52_4 : AC := .seq c52_5 c52_10
def c52_2 : AC := .seq c52_3 c52_4
def c52_0 : AC := .seq c52_1 c52_2
theorem r52_0 : SeqR Cx 52 c52_0 c52_1 c52_2 ∧ RegR Cx 52 c52_1 o52_1 ∧ SeqR Cx 52 c52_2 c52_3 c52_4 ∧ RegR Cx 52 c52_3 o52_3 ∧ SeqR Cx 52 c52_4 c52_5 c52_10 ∧ SeqR Cx 52 c52_5 c52_6 c52_7 ∧ RegR Cx 52 c52_6 o52_6 ∧ CondR Cx 52 c52_7 (tm 12) c52_8 c52_9 := ⟨run_seq, run_region, run_seq, run_region, run_seq, run_seq, run_region, run_condC⟩
theorem r52_1 : RegR Cx 52 c52_8 o52_8 ∧ SkipR Cx 52 c52_9 ∧ SeqR Cx 52 c52_10 c52_11 c52_12 ∧ RegR Cx 52 c52_11 o52_11 ∧ RetR Cx 52 c52_12 := ⟨run_region, run_skip, run_seq, run_region, run_ret⟩
abbrev o53_1 : List AO := [oA 2 (.box 43 (tm 0)) 0,
  oA 3 (.box 43 (tm 1)) 0,
  oA 4 (.alloc 43) 0]
def c53_1 : AC := .region o53_1 []
abbrev o53_4 : List AO := [oA 7 (.load 43 (tm 3)) 43,
  oA 8 (.build 43 #[]) 43,
  oA 9 (.binOp .eql 43 (tm 7) (tm 8) 43) 4]
def c53_4 : AC := .region o53_4 []
abbrev o53_7 : List AO := [oA 10 (.load 43 (tm 2)) 43,
  oA 11 (cF 68 #[(tm 10)] #[43]) 43,
  oN (.store 43 (tm 4) (tm 11)) 0]
def c53_7 : AC := .region o53_7 []
def c53_8 : AC := .ret
def c53_6 : AC := .seq c53_7 c53_8
def c53_9 : AC := .skip
def c53_5 : AC := .cond (tm 9) c53_6 c53_9
def c53_3 : AC := .seq c53_4 c53_5
abbrev o53_11 : List AO := [oA 13 (.load 43 (tm 2)) 43,
  oA 14 (.load 43 (tm 3)) 43,
  oA 15 (cF 69 #[(tm 13), (tm 14)] #[43, 43]) 103,
  oA 12 (.move (tm 15)) 103,
  oA 16 (.extract (tm 12) 0) 43,
  oA 17 (.extract (tm 12) 1) 43,
  oA 5 (.alloc 43) 0,
  oA 6 (.alloc 43) 0,
  oN (.store 43 (tm 5) (tm 16)) 0,
  oN (.store 43 (tm 6) (tm 17)) 0]
def c53_11 : AC := .region o53_11 []
abbrev o53_13 : List AO := [oA 18 (.load 43 (tm 3)) 43,
  oA 19 (.load 43 (tm 6)) 43,
  oA 20 (cF 53 #[(tm 18), (tm 19)] #[43, 43]) 43,
  oN (.store 43 (tm 4) (tm 20)) 0]
def c53_13 : AC := .region o53_13 []
def c53_14 : AC := .ret
def c53_12 : AC := .seq c53_13 c53_14
def c53_10 : AC := .seq c53_11 c53_12
def c53_2 : AC := .seq c53_3 c53_10
def c53_0 : AC := .seq c53_1 c53_2
theorem r53_0 : SeqR Cx 53 c53_0 c53_1 c53_2 ∧ RegR Cx 53 c53_1 o53_1 ∧ SeqR Cx 53 c53_2 c53_3 c53_10 ∧ SeqR Cx 53 c53_3 c53_4 c53_5 ∧ RegR Cx 53 c53_4 o53_4 ∧ CondR Cx 53 c53_5 (tm 9) c53_6 c53_9 ∧ SeqR Cx 53 c53_6 c53_7 c53_8 ∧ RegR Cx 53 c53_7 o53_7 := ⟨run_seq, run_region, run_seq, run_seq, run_region, run_condC, run_seq, run_region⟩
theorem r53_1 : RetR Cx 53 c53_8 ∧ SkipR Cx 53 c53_9 ∧ SeqR Cx 53 c53_10 c53_11 c53_12 ∧ RegR Cx 53 c53_11 o53_11 ∧ SeqR Cx 53 c53_12 c53_13 c53_14 ∧ RegR Cx 53 c53_13 o53_13 ∧ RetR Cx 53 c53_14 := ⟨run_ret, run_skip, run_seq, run_region, run_seq, run_region, run_ret⟩
abbrev o54_1 : List AO := [oA 4 (.assign (ci 0)) 3]
def c54_1 : AC := .region o54_1 []
abbrev o54_4 : List AO := [oA 5 (.move (tm 1)) 3,
  oA 6 (.binOp .eql 3 (tm 5) (ci 0) 3) 4]
def c54_4 : AC := .region o54_4 []
abbrev o54_7 : List AO := [oA 7 (.move (tm 0)) 3,
  oA 4 (.assign (tm 7)) 3]
def c54_7 : AC := .region o54_7 []
def c54_8 : AC := .ret
def c54_6 : AC := .seq c54_7 c54_8
def c54_9 : AC := .skip
def c54_5 : AC := .cond (tm 6) c54_6 c54_9
def c54_3 : AC := .seq c54_4 c54_5
abbrev o54_11 : List AO := [oA 8 (.move (tm 1)) 3,
  oA 9 (.move (tm 0)) 3,
  oA 10 (.move (tm 1)) 3,
  oA 11 (.binOp .rem 3 (tm 9) (tm 10) 3) 3,
  oA 12 (cF 54 #[(tm 8), (tm 11)] #[3, 3]) 3,
  oA 4 (.assign (tm 12)) 3]
def c54_11 : AC := .region o54_11 []
def c54_12 : AC := .ret
def c54_10 : AC := .seq c54_11 c54_12
def c54_2 : AC := .seq c54_3 c54_10
def c54_0 : AC := .seq c54_1 c54_2
theorem r54_0 : SeqR Cx 54 c54_0 c54_1 c54_2 ∧ RegR Cx 54 c54_1 o54_1 ∧ SeqR Cx 54 c54_2 c54_3 c54_10 ∧ SeqR Cx 54 c54_3 c54_4 c54_5 ∧ RegR Cx 54 c54_4 o54_4 ∧ CondR Cx 54 c54_5 (tm 6) c54_6 c54_9 ∧ SeqR Cx 54 c54_6 c54_7 c54_8 ∧ RegR Cx 54 c54_7 o54_7 := ⟨run_seq, run_region, run_seq, run_seq, run_region, run_condC, run_seq, run_region⟩
theorem r54_1 : RetR Cx 54 c54_8 ∧ SkipR Cx 54 c54_9 ∧ SeqR Cx 54 c54_10 c54_11 c54_12 ∧ RegR Cx 54 c54_11 o54_11 ∧ RetR Cx 54 c54_12 := ⟨run_ret, run_skip, run_seq, run_region, run_ret⟩
abbrev o55_1 : List AO := [oA 2 (.assign (.const (.bool false))) 4]
def c55_1 : AC := .region o55_1 []
abbrev o55_3 : List AO := [oA 3 (.move (tm 0)) 3,
  oA 4 (.binOp .geq 3 (tm 3) (ci (-16777216)) 3) 4,
  oA 5 (.move (tm 4)) 4,
  oG 6 (.move (tm 0)) 3 5 true,
  oG 7 (.binOp .leq 3 (tm 6) (ci 16777216) 3) 4 5 true,
  oA 8 (.pick (tm 5) (tm 7) (.const (.bool false))) 4,
  oA 2 (.assign (tm 8)) 4]
def c55_3 : AC := .region o55_3 []
def c55_4 : AC := .ret
def c55_2 : AC := .seq c55_3 c55_4
def c55_0 : AC := .seq c55_1 c55_2
theorem r55_0 : SeqR Cx 55 c55_0 c55_1 c55_2 ∧ RegR Cx 55 c55_1 o55_1 ∧ SeqR Cx 55 c55_2 c55_3 c55_4 ∧ RegR Cx 55 c55_3 o55_3 ∧ RetR Cx 55 c55_4 := ⟨run_seq, run_region, run_seq, run_region, run_ret⟩
theorem body55 : bodyOf Cx 55 = some c55_0 := by kernel_rfl
theorem res55 : resOf Cx 55 = some [.tmp 2] := by kernel_rfl
theorem pure55 : Cx.pure 55 = true := by kernel_rfl
abbrev o56_1 : List AO := [oA 4 (.assign (ci 0)) 3]
def c56_1 : AC := .region o56_1 []
abbrev o56_4 : List AO := [oA 6 (.move (tm 0)) 26,
  oA 7 (cB .len #[(tm 6)] #[26]) 3,
  oA 8 (.move (ci 0)) 3]
def c56_4 : AC := .region o56_4 []
abbrev o56_8 : List AO := [oA 9 (.binOp .lss 3 (tm 8) (tm 7) 3) 0]
def c56_8 : AC := .region o56_8 []
def c56_11 : AC := .skip
def c56_12 : AC := .exit 0
def c56_10 : AC := .cond (tm 9) c56_11 c56_12
abbrev o56_16 : List AO := [oA 10 (.move (tm 8)) 3,
  oA 5 (.assign (tm 10)) 3]
def c56_16 : AC := .region o56_16 []
abbrev o56_18 : List AO := [oA 11 (.move (tm 1)) 9,
  oA 12 (.move (tm 0)) 26,
  oA 13 (.move (tm 5)) 3,
  oA 14 (.indexAddr 26 (tm 12) (tm 13)) 0,
  oA 15 (.load 9 (tm 14)) 9,
  oA 16 (.binOp .eql 9 (tm 11) (tm 15) 9) 4]
def c56_18 : AC := .region o56_18 []
abbrev o56_21 : List AO := [oA 17 (.move (tm 5)) 3,
  oA 4 (.assign (tm 17)) 3]
def c56_21 : AC := .region o56_21 []
def c56_22 : AC := .ret
def c56_20 : AC := .seq c56_21 c56_22
def c56_23 : AC := .skip
def c56_19 : AC := .cond (tm 16) c56_20 c56_23
def c56_17 : AC := .seq c56_18 c56_19
def c56_15 : AC := .seq c56_16 c56_17
def c56_14 : AC := .block 1 c56_15
abbrev o56_24 : List AO := [oA 18 (.binOp .add 3 (tm 8) (ci 1) 3) 3,
  oA 8 (.move (tm 18)) 3]
def c56_24 : AC := .region o56_24 []
def c56_13 : AC := .seq c56_14 c56_24
def c56_9 : AC := .seq c56_10 c56_13
def c56_7 : AC := .seq c56_8 c56_9
def c56_6 : AC := .loop c56_7
def c56_5 : AC := .block 0 c56_6
def c56_3 : AC := .seq c56_4 c56_5
abbrev o56_26 : List AO := [oA 4 (.assign (ci (-1))) 3]
def c56_26 : AC := .region o56_26 []
def c56_27 : AC := .ret
def c56_25 : AC := .seq c56_26 c56_27
def c56_2 : AC := .seq c56_3 c56_25
def c56_0 : AC := .seq c56_1 c56_2
theorem r56_0 : SeqR Cx 56 c56_0 c56_1 c56_2 ∧ RegR Cx 56 c56_1 o56_1 ∧ SeqR Cx 56 c56_2 c56_3 c56_25 ∧ SeqR Cx 56 c56_3 c56_4 c56_5 ∧ RegR Cx 56 c56_4 o56_4 ∧ BlkR Cx 56 c56_5 0 c56_6 ∧ LoopR Cx 56 c56_6 c56_7 ∧ SeqR Cx 56 c56_7 c56_8 c56_9 := ⟨run_seq, run_region, run_seq, run_seq, run_region, run_block, run_loop', run_seq⟩
theorem r56_1 : RegR Cx 56 c56_8 o56_8 ∧ SeqR Cx 56 c56_9 c56_10 c56_13 ∧ CondR Cx 56 c56_10 (tm 9) c56_11 c56_12 ∧ SkipR Cx 56 c56_11 ∧ ExitR Cx 56 c56_12 0 ∧ SeqR Cx 56 c56_13 c56_14 c56_24 ∧ BlkR Cx 56 c56_14 1 c56_15 ∧ SeqR Cx 56 c56_15 c56_16 c56_17 := ⟨run_region, run_seq, run_condC, run_skip, run_exit_start, run_seq, run_block, run_seq⟩
theorem r56_2 : RegR Cx 56 c56_16 o56_16 ∧ SeqR Cx 56 c56_17 c56_18 c56_19 ∧ RegR Cx 56 c56_18 o56_18 ∧ CondR Cx 56 c56_19 (tm 16) c56_20 c56_23 ∧ SeqR Cx 56 c56_20 c56_21 c56_22 ∧ RegR Cx 56 c56_21 o56_21 ∧ RetR Cx 56 c56_22 ∧ SkipR Cx 56 c56_23 := ⟨run_region, run_seq, run_region, run_condC, run_seq, run_region, run_ret, run_skip⟩
theorem r56_3 : RegR Cx 56 c56_24 o56_24 ∧ SeqR Cx 56 c56_25 c56_26 c56_27 ∧ RegR Cx 56 c56_26 o56_26 ∧ RetR Cx 56 c56_27 := ⟨run_region, run_seq, run_region, run_ret⟩
theorem body56 : bodyOf Cx 56 = some c56_0 := by kernel_rfl
theorem res56 : resOf Cx 56 = some [.tmp 4] := by kernel_rfl
theorem pure56 : Cx.pure 56 = true := by kernel_rfl
abbrev o57_1 : List AO := [oA 2 (.assign (ci 0)) 3]
def c57_1 : AC := .region o57_1 []
abbrev o57_3 : List AO := [oA 3 (.assign (ci 0)) 3]
def c57_3 : AC := .region o57_3 []
abbrev o57_6 : List AO := [oA 6 (.move (tm 0)) 105,
  oA 7 (cB .len #[(tm 6)] #[105]) 3,
  oA 8 (.move (ci 0)) 3]
def c57_6 : AC := .region o57_6 []
abbrev o57_10 : List AO := [oA 9 (.binOp .lss 3 (tm 8) (tm 7) 3) 0]
def c57_10 : AC := .region o57_10 []
def c57_13 : AC := .skip
def c57_14 : AC := .exit 0
def c57_12 : AC := .cond (tm 9) c57_13 c57_14
abbrev o57_18 : List AO := [oA 10 (.indexAddr 105 (tm 6) (tm 8)) 0,
  oA 11 (.load 3 (tm 10)) 3,
  oA 5 (.assign (tm 11)) 3]
def c57_18 : AC := .region o57_18 []
abbrev o57_20 : List AO := [oA 12 (.move (tm 5)) 3,
  oA 13 (.move (tm 3)) 3,
  oA 14 (.binOp .neq 3 (tm 12) (tm 13) 3) 4]
def c57_20 : AC := .region o57_20 []
abbrev o57_23 : List AO := [oA 15 (.move (tm 5)) 3,
  oA 2 (.assign (tm 15)) 3]
def c57_23 : AC := .region o57_23 []
def c57_24 : AC := .ret
def c57_22 : AC := .seq c57_23 c57_24
def c57_25 : AC := .skip
def c57_21 : AC := .cond (tm 14) c57_22 c57_25
def c57_19 : AC := .seq c57_20 c57_21
def c57_17 : AC := .seq c57_18 c57_19
def c57_16 : AC := .block 1 c57_17
abbrev o57_26 : List AO := [oA 16 (.binOp .add 3 (tm 8) (ci 1) 3) 3,
  oA 8 (.move (tm 16)) 3]
def c57_26 : AC := .region o57_26 []
def c57_15 : AC := .seq c57_16 c57_26
def c57_11 : AC := .seq c57_12 c57_15
def c57_9 : AC := .seq c57_10 c57_11
def c57_8 : AC := .loop c57_9
def c57_7 : AC := .block 0 c57_8
def c57_5 : AC := .seq c57_6 c57_7
abbrev o57_28 : List AO := [oA 17 (.move (tm 3)) 3,
  oA 2 (.assign (tm 17)) 3]
def c57_28 : AC := .region o57_28 []
def c57_29 : AC := .ret
def c57_27 : AC := .seq c57_28 c57_29
def c57_4 : AC := .seq c57_5 c57_27
def c57_2 : AC := .seq c57_3 c57_4
def c57_0 : AC := .seq c57_1 c57_2
theorem r57_0 : SeqR Cx 57 c57_0 c57_1 c57_2 ∧ RegR Cx 57 c57_1 o57_1 ∧ SeqR Cx 57 c57_2 c57_3 c57_4 ∧ RegR Cx 57 c57_3 o57_3 ∧ SeqR Cx 57 c57_4 c57_5 c57_27 ∧ SeqR Cx 57 c57_5 c57_6 c57_7 ∧ RegR Cx 57 c57_6 o57_6 ∧ BlkR Cx 57 c57_7 0 c57_8 := ⟨run_seq, run_region, run_seq, run_region, run_seq, run_seq, run_region, run_block⟩
theorem r57_1 : LoopR Cx 57 c57_8 c57_9 ∧ SeqR Cx 57 c57_9 c57_10 c57_11 ∧ RegR Cx 57 c57_10 o57_10 ∧ SeqR Cx 57 c57_11 c57_12 c57_15 ∧ CondR Cx 57 c57_12 (tm 9) c57_13 c57_14 ∧ SkipR Cx 57 c57_13 ∧ ExitR Cx 57 c57_14 0 ∧ SeqR Cx 57 c57_15 c57_16 c57_26 := ⟨run_loop', run_seq, run_region, run_seq, run_condC, run_skip, run_exit_start, run_seq⟩
theorem r57_2 : BlkR Cx 57 c57_16 1 c57_17 ∧ SeqR Cx 57 c57_17 c57_18 c57_19 ∧ RegR Cx 57 c57_18 o57_18 ∧ SeqR Cx 57 c57_19 c57_20 c57_21 ∧ RegR Cx 57 c57_20 o57_20 ∧ CondR Cx 57 c57_21 (tm 14) c57_22 c57_25 ∧ SeqR Cx 57 c57_22 c57_23 c57_24 ∧ RegR Cx 57 c57_23 o57_23 := ⟨run_block, run_seq, run_region, run_seq, run_region, run_condC, run_seq, run_region⟩
theorem r57_3 : RetR Cx 57 c57_24 ∧ SkipR Cx 57 c57_25 ∧ RegR Cx 57 c57_26 o57_26 ∧ SeqR Cx 57 c57_27 c57_28 c57_29 ∧ RegR Cx 57 c57_28 o57_28 ∧ RetR Cx 57 c57_29 := ⟨run_ret, run_skip, run_region, run_seq, run_region, run_ret⟩
theorem body57 : bodyOf Cx 57 = some c57_0 := by kernel_rfl
theorem res57 : resOf Cx 57 = some [.tmp 2] := by kernel_rfl
theorem pure57 : Cx.pure 57 = true := by kernel_rfl
abbrev o58_1 : List AO := [oA 4 (.assign (ci 0)) 3]
def c58_1 : AC := .region o58_1 []
abbrev o58_3 : List AO := [oA 7 (.move (tm 0)) 3,
  oA 8 (cF 70 #[(tm 7)] #[3]) 4,
  oA 5 (.assign (tm 8)) 4]
def c58_3 : AC := .region o58_3 []
abbrev o58_5 : List AO := [oA 9 (.move (tm 1)) 3,
  oA 10 (cF 70 #[(tm 9)] #[3]) 4,
  oA 6 (.assign (tm 10)) 4]
def c58_5 : AC := .region o58_5 []
abbrev o58_8 : List AO := [oA 11 (.move (tm 5)) 4]
def c58_8 : AC := .region o58_8 []
abbrev o58_12 : List AO := [oA 12 (.move (tm 6)) 4]
def c58_12 : AC := .region o58_12 []
abbrev o58_15 : List AO := [oA 4 (.assign (ci 0)) 3]
def c58_15 : AC := .region o58_15 []
def c58_16 : AC := .ret
def c58_14 : AC := .seq c58_15 c58_16
def c58_17 : AC := .skip
def c58_13 : AC := .cond (tm 12) c58_14 c58_17
def c58_11 : AC := .seq c58_12 c58_13
abbrev o58_19 : List AO := [oA 4 (.assign (ci (-1))) 3]
def c58_19 : AC := .region o58_19 []
def c58_20 : AC := .ret
def c58_18 : AC := .seq c58_19 c58_20
def c58_10 : AC := .seq c58_11 c58_18
def c58_21 : AC := .skip
def c58_9 : AC := .cond (tm 11) c58_10 c58_21
def c58_7 : AC := .seq c58_8 c58_9
abbrev o58_24 : List AO := [oA 13 (.move (tm 6)) 4]
def c58_24 : AC := .region o58_24 []
abbrev o58_27 : List AO := [oA 4 (.assign (ci 1)) 3]
def c58_27 : AC := .region o58_27 []
def c58_28 : AC := .ret
def c58_26 : AC := .seq c58_27 c58_28
def c58_29 : AC := .skip
def c58_25 : AC := .cond (tm 13) c58_26 c58_29
def c58_23 : AC := .seq c58_24 c58_25
abbrev o58_32 : List AO := [oA 14 (.move (tm 0)) 3,
  oA 15 (.move (tm 1)) 3,
  oA 16 (.binOp .lss 3 (tm 14) (tm 15) 3) 4]
def c58_32 : AC := .region o58_32 []
abbrev o58_35 : List AO := [oA 4 (.assign (ci (-1))) 3]
def c58_35 : AC := .region o58_35 []
def c58_36 : AC := .ret
def c58_34 : AC := .seq c58_35 c58_36
def c58_37 : AC := .skip
def c58_33 : AC := .cond (tm 16) c58_34 c58_37
def c58_31 : AC := .seq c58_32 c58_33
abbrev o58_40 : List AO := [oA 17 (.move (tm 0)) 3,
  oA 18 (.move (tm 1)) 3,
  oA 19 (.binOp .gtr 3 (tm 17) (tm 18) 3) 4]
def c58_40 : AC := .region o58_40 []
abbrev o58_43 : List AO := [oA 4 (.assign (ci 1)) 3]
def c58_43 : AC := .region o58_43 []
def c58_44 : AC := .ret
def c58_42 : AC := .seq c58_43 c58_44
def c58_45 : AC := .skip
def c58_41 : AC := .cond (tm 19) c58_42 c58_45
def c58_39 : AC := .seq c58_40 c58_41
abbrev o58_47 : List AO := [oA 4 (.assign (ci 0)) 3]
def c58_47 : AC := .region o58_47 []
def c58_48 : AC := .ret
def c58_46 : AC := .seq c58_47 c58_48
def c58_38 : AC := .seq c58_39 c58_46
def c58_30 : AC := .seq c58_31 c58_38
def c58_22 : AC := .seq c58_23 c58_30
def c58_6 : AC := .seq c58_7 c58_22
def c58_4 : AC := .seq c58_5 c58_6
def c58_2 : AC := .seq c58_3 c58_4
def c58_0 : AC := .seq c58_1 c58_2
theorem r58_0 : SeqR Cx 58 c58_0 c58_1 c58_2 ∧ RegR Cx 58 c58_1 o58_1 ∧ SeqR Cx 58 c58_2 c58_3 c58_4 ∧ RegR Cx 58 c58_3 o58_3 ∧ SeqR Cx 58 c58_4 c58_5 c58_6 ∧ RegR Cx 58 c58_5 o58_5 ∧ SeqR Cx 58 c58_6 c58_7 c58_22 ∧ SeqR Cx 58 c58_7 c58_8 c58_9 := ⟨run_seq, run_region, run_seq, run_region, run_seq, run_region, run_seq, run_seq⟩
theorem r58_1 : RegR Cx 58 c58_8 o58_8 ∧ CondR Cx 58 c58_9 (tm 11) c58_10 c58_21 ∧ SeqR Cx 58 c58_10 c58_11 c58_18 ∧ SeqR Cx 58 c58_11 c58_12 c58_13 ∧ RegR Cx 58 c58_12 o58_12 ∧ CondR Cx 58 c58_13 (tm 12) c58_14 c58_17 ∧ SeqR Cx 58 c58_14 c58_15 c58_16 ∧ RegR Cx 58 c58_15 o58_15 := ⟨run_region, run_condC, run_seq, run_seq, run_region, run_condC, run_seq, run_region⟩
theorem r58_2 : RetR Cx 58 c58_16 ∧ SkipR Cx 58 c58_17 ∧ SeqR Cx 58 c58_18 c58_19 c58_20 ∧ RegR Cx 58 c58_19 o58_19 ∧ RetR Cx 58 c58_20 ∧ SkipR Cx 58 c58_21 ∧ SeqR Cx 58 c58_22 c58_23 c58_30 ∧ SeqR Cx 58 c58_23 c58_24 c58_25 := ⟨run_ret, run_skip, run_seq, run_region, run_ret, run_skip, run_seq, run_seq⟩
theorem r58_3 : RegR Cx 58 c58_24 o58_24 ∧ CondR Cx 58 c58_25 (tm 13) c58_26 c58_29 ∧ SeqR Cx 58 c58_26 c58_27 c58_28 ∧ RegR Cx 58 c58_27 o58_27 ∧ RetR Cx 58 c58_28 ∧ SkipR Cx 58 c58_29 ∧ SeqR Cx 58 c58_30 c58_31 c58_38 ∧ SeqR Cx 58 c58_31 c58_32 c58_33 := ⟨run_region, run_condC, run_seq, run_region, run_ret, run_skip, run_seq, run_seq⟩
theorem r58_4 : RegR Cx 58 c58_32 o58_32 ∧ CondR Cx 58 c58_33 (tm 16) c58_34 c58_37 ∧ SeqR Cx 58 c58_34 c58_35 c58_36 ∧ RegR Cx 58 c58_35 o58_35 ∧ RetR Cx 58 c58_36 ∧ SkipR Cx 58 c58_37 ∧ SeqR Cx 58 c58_38 c58_39 c58_46 ∧ SeqR Cx 58 c58_39 c58_40 c58_41 := ⟨run_region, run_condC, run_seq, run_region, run_ret, run_skip, run_seq, run_seq⟩
theorem r58_5 : RegR Cx 58 c58_40 o58_40 ∧ CondR Cx 58 c58_41 (tm 19) c58_42 c58_45 ∧ SeqR Cx 58 c58_42 c58_43 c58_44 ∧ RegR Cx 58 c58_43 o58_43 ∧ RetR Cx 58 c58_44 ∧ SkipR Cx 58 c58_45 ∧ SeqR Cx 58 c58_46 c58_47 c58_48 ∧ RegR Cx 58 c58_47 o58_47 := ⟨run_region, run_condC, run_seq, run_region, run_ret, run_skip, run_seq, run_region⟩
theorem r58_6 : RetR Cx 58 c58_48 := run_ret
theorem body58 : bodyOf Cx 58 = some c58_0 := by kernel_rfl
theorem res58 : resOf Cx 58 = some [.tmp 4] := by kernel_rfl
theorem pure58 : Cx.pure 58 = true := by kernel_rfl
abbrev o59_1 : List AO := [oA 4 (.assign (ci 0)) 3]
def c59_1 : AC := .region o59_1 []
abbrev o59_3 : List AO := [oA 5 (.move (tm 0)) 9,
  oA 6 (.move (tm 1)) 9,
  oA 7 (cF 71 #[(tm 5), (tm 6)] #[9, 9]) 3,
  oA 4 (.assign (tm 7)) 3]
def c59_3 : AC := .region o59_3 []
def c59_4 : AC := .ret
def c59_2 : AC := .seq c59_3 c59_4
def c59_0 : AC := .seq c59_1 c59_2
theorem r59_0 : SeqR Cx 59 c59_0 c59_1 c59_2 ∧ RegR Cx 59 c59_1 o59_1 ∧ SeqR Cx 59 c59_2 c59_3 c59_4 ∧ RegR Cx 59 c59_3 o59_3 ∧ RetR Cx 59 c59_4 := ⟨run_seq, run_region, run_seq, run_region, run_ret⟩
theorem body59 : bodyOf Cx 59 = some c59_0 := by kernel_rfl
theorem res59 : resOf Cx 59 = some [.tmp 4] := by kernel_rfl
theorem pure59 : Cx.pure 59 = true := by kernel_rfl
abbrev o60_1 : List AO := [oA 4 (.assign (ci 0)) 3]
def c60_1 : AC := .region o60_1 []
abbrev o60_5 : List AO := [oA 6 (.move (tm 0)) 3,
  oA 7 (.move (tm 1)) 3,
  oA 8 (.unOp .neg 3 (tm 7)) 3,
  oA 9 (.binOp .lss 3 (tm 6) (tm 8) 3) 4,
  oA 5 (.assign (tm 9)) 4]
def c60_5 : AC := .region o60_5 []
abbrev o60_8 : List AO := [oA 10 (.move (tm 0)) 3,
  oA 11 (.move (tm 1)) 3,
  oA 12 (.binOp .mul 3 (ci 2) (tm 11) 3) 3,
  oA 13 (.binOp .add 3 (tm 10) (tm 12) 3) 3,
  oA 4 (.assign (tm 13)) 3]
def c60_8 : AC := .region o60_8 []
def c60_9 : AC := .ret
def c60_7 : AC := .seq c60_8 c60_9
abbrev o60_11 : List AO := [oA 15 (.move (tm 0)) 3,
  oA 16 (.move (tm 1)) 3,
  oA 17 (.binOp .geq 3 (tm 15) (tm 16) 3) 4,
  oA 14 (.assign (tm 17)) 4]
def c60_11 : AC := .region o60_11 []
abbrev o60_14 : List AO := [oA 18 (.move (tm 0)) 3,
  oA 19 (.move (tm 1)) 3,
  oA 20 (.binOp .mul 3 (ci 2) (tm 19) 3) 3,
  oA 21 (.binOp .sub 3 (tm 18) (tm 20) 3) 3,
  oA 4 (.assign (tm 21)) 3]
def c60_14 : AC := .region o60_14 []
def c60_15 : AC := .ret
def c60_13 : AC := .seq c60_14 c60_15
def c60_16 : AC := .skip
def c60_12 : AC := .cond (tm 14) c60_13 c60_16
def c60_10 : AC := .seq c60_11 c60_12
def c60_6 : AC := .cond (tm 5) c60_7 c60_10
def c60_4 : AC := .seq c60_5 c60_6
def c60_3 : AC := .block 0 c60_4
abbrev o60_18 : List AO := [oA 22 (.move (tm 0)) 3,
  oA 4 (.assign (tm 22)) 3]
def c60_18 : AC := .region o60_18 []
def c60_19 : AC := .ret
def c60_17 : AC := .seq c60_18 c60_19
def c60_2 : AC := .seq c60_3 c60_17
def c60_0 : AC := .seq c60_1 c60_2
theorem r60_0 : SeqR Cx 60 c60_0 c60_1 c60_2 ∧ RegR Cx 60 c60_1 o60_1 ∧ SeqR Cx 60 c60_2 c60_3 c60_17 ∧ BlkR Cx 60 c60_3 0 c60_4 ∧ SeqR Cx 60 c60_4 c60_5 c60_6 ∧ RegR Cx 60 c60_5 o60_5 ∧ CondR Cx 60 c60_6 (tm 5) c60_7 c60_10 ∧ SeqR Cx 60 c60_7 c60_8 c60_9 := ⟨run_seq, run_region, run_seq, run_block, run_seq, run_region, run_condC, run_seq⟩
theorem r60_1 : RegR Cx 60 c60_8 o60_8 ∧ RetR Cx 60 c60_9 ∧ SeqR Cx 60 c60_10 c60_11 c60_12 ∧ RegR Cx 60 c60_11 o60_11 ∧ CondR Cx 60 c60_12 (tm 14) c60_13 c60_16 ∧ SeqR Cx 60 c60_13 c60_14 c60_15 ∧ RegR Cx 60 c60_14 o60_14 ∧ RetR Cx 60 c60_15 := ⟨run_region, run_ret, run_seq, run_region, run_condC, run_seq, run_region, run_ret⟩
theorem r60_2 : SkipR Cx 60 c60_16 ∧ SeqR Cx 60 c60_17 c60_18 c60_19 ∧ RegR Cx 60 c60_18 o60_18 ∧ RetR Cx 60 c60_19 := ⟨run_skip, run_seq, run_region, run_ret⟩
theorem body60 : bodyOf Cx 60 = some c60_0 := by kernel_rfl
theorem res60 : resOf Cx 60 = some [.tmp 4] := by kernel_rfl
theorem pure60 : Cx.pure 60 = true := by kernel_rfl
abbrev o61_1 : List AO := [oA 4 (.assign (ci 0)) 3]
def c61_1 : AC := .region o61_1 []
def c61_4 : AC := .label 0
abbrev o61_7 : List AO := [oA 5 (.move (tm 1)) 3,
  oA 6 (.binOp .neq 3 (tm 5) (ci 0) 3) 4]
def c61_7 : AC := .region o61_7 []
abbrev o61_10 : List AO := [oA 7 (.move (tm 1)) 3,
  oA 8 (.move (tm 0)) 3,
  oA 9 (.move (tm 1)) 3,
  oA 10 (.binOp .rem 3 (tm 8) (tm 9) 3) 3,
  oA 0 (.assign (tm 7)) 3,
  oA 1 (.assign (tm 10)) 3]
def c61_10 : AC := .region o61_10 []
def c61_11 : AC := .goto 0
def c61_9 : AC := .seq c61_10 c61_11
def c61_12 : AC := .skip
def c61_8 : AC := .cond (tm 6) c61_9 c61_12
def c61_6 : AC := .seq c61_7 c61_8
abbrev o61_14 : List AO := [oA 11 (.move (tm 0)) 3,
  oA 12 (.move (tm 0)) 3,
  oA 13 (.unOp .neg 3 (tm 12)) 3,
  oA 14 (cB .max #[(tm 11), (tm 13)] #[3, 3]) 3,
  oA 4 (.assign (tm 14)) 3]
def c61_14 : AC := .region o61_14 []
def c61_15 : AC := .ret
def c61_13 : AC := .seq c61_14 c61_15
def c61_5 : AC := .seq c61_6 c61_13
def c61_3 : AC := .seq c61_4 c61_5
def c61_2 : AC := .scope c61_3
def c61_0 : AC := .seq c61_1 c61_2
theorem r61_0 : SeqR Cx 61 c61_0 c61_1 c61_2 ∧ RegR Cx 61 c61_1 o61_1 ∧ ScopeR Cx 61 c61_2 c61_3 ∧ SeqR Cx 61 c61_3 c61_4 c61_5 ∧ SkipR Cx 61 c61_4 ∧ SeqR Cx 61 c61_5 c61_6 c61_13 ∧ SeqR Cx 61 c61_6 c61_7 c61_8 ∧ RegR Cx 61 c61_7 o61_7 := ⟨run_seq, run_region, run_scope, run_seq, run_label, run_seq, run_seq, run_region⟩
theorem r61_1 : CondR Cx 61 c61_8 (tm 6) c61_9 c61_12 ∧ SeqR Cx 61 c61_9 c61_10 c61_11 ∧ RegR Cx 61 c61_10 o61_10 ∧ SkipR Cx 61 c61_12 ∧ SeqR Cx 61 c61_13 c61_14 c61_15 ∧ RegR Cx 61 c61_14 o61_14 ∧ RetR Cx 61 c61_15 := ⟨run_condC, run_seq, run_region, run_skip, run_seq, run_region, run_ret⟩
theorem body61 : bodyOf Cx 61 = some c61_0 := by kernel_rfl
theorem res61 : resOf Cx 61 = some [.tmp 4] := by kernel_rfl
theorem pure61 : Cx.pure 61 = true := by kernel_rfl
abbrev o62_1 : List AO := [oA 2 (.box 43 (tm 0)) 0,
  oA 3 (.box 43 (tm 1)) 0,
  oA 4 (.alloc 43) 0,
  oA 5 (.assign (ci 0)) 27]
def c62_1 : AC := .region o62_1 []
abbrev o62_5 : List AO := [oA 8 (.load 43 (tm 2)) 43,
  oA 9 (cF 33 #[(tm 8)] #[43]) 4,
  oA 10 (.unOp .not 4 (tm 9)) 4,
  oA 11 (.move (tm 10)) 4,
  oG 12 (.load 43 (tm 3)) 43 11 false,
  oG 13 (cF 33 #[(tm 12)] #[43]) 4 11 false,
  oG 14 (.unOp .not 4 (tm 13)) 4 11 false,
  oA 15 (.pick (tm 11) (.const (.bool true)) (tm 14)) 4]
def c62_5 : AC := .region o62_5 []
abbrev o62_8 : List AO := [oA 16 (.build 43 #[]) 43,
  oN (.store 43 (tm 4) (tm 16)) 0,
  oA 5 (.assign (ci 14)) 27]
def c62_8 : AC := .region o62_8 []
def c62_9 : AC := .ret
def c62_7 : AC := .seq c62_8 c62_9
def c62_10 : AC := .skip
def c62_6 : AC := .cond (tm 15) c62_7 c62_10
def c62_4 : AC := .seq c62_5 c62_6
def c62_12 : AC := .label 0
abbrev o62_15 : List AO := [oA 17 (.load 43 (tm 3)) 43,
  oA 18 (.build 43 #[]) 43,
  oA 19 (.binOp .neq 43 (tm 17) (tm 18) 43) 4]
def c62_15 : AC := .region o62_15 []
abbrev o62_18 : List AO := [oA 21 (.load 43 (tm 2)) 43,
  oA 22 (.load 43 (tm 3)) 43,
  oA 23 (cF 72 #[(tm 21), (tm 22)] #[43, 43]) 103,
  oA 20 (.move (tm 23)) 103,
  oA 24 (.extract (tm 20) 0) 43,
  oA 25 (.extract (tm 20) 1) 43,
  oA 6 (.alloc 43) 0,
  oA 7 (.alloc 43) 0,
  oN (.store 43 (tm 6) (tm 24)) 0,
  oN (.store 43 (tm 7) (tm 25)) 0]
def c62_18 : AC := .region o62_18 []
abbrev o62_20 : List AO := [oA 26 (.load 43 (tm 3)) 43,
  oA 27 (.load 43 (tm 7)) 43,
  oN (.store 43 (tm 2) (tm 26)) 0,
  oN (.store 43 (tm 3) (tm 27)) 0]
def c62_20 : AC := .region o62_20 [[], [], [7], []]
def c62_21 : AC := .goto 0
def c62_19 : AC := .seq c62_20 c62_21
def c62_17 : AC := .seq c62_18 c62_19
def c62_22 : AC := .skip
def c62_16 : AC := .cond (tm 19) c62_17 c62_22
def c62_14 : AC := .seq c62_15 c62_16
abbrev o62_28 : List AO := [oA 28 (.load 43 (tm 2)) 43,
  oA 29 (.build 43 #[]) 43,
  oA 30 (.binOp .neq 43 (tm 28) (tm 29) 43) 4,
  oA 31 (.move (tm 30)) 4,
  oG 32 (.fieldAddr 43 (tm 2) 0) 0 31 true,
  oG 33 (.load 3 (tm 32)) 3 31 true,
  oG 34 (.binOp .leq 3 (tm 33) (ci 0) 3) 4 31 true,
  oG 35 (.move (tm 34)) 4 31 true,
  oG 36 (.fieldAddr 43 (tm 2) 1) 0 35 false,
  oG 37 (.load 3 (tm 36)) 3 35 false,
  oG 38 (.binOp .lss 3 (tm 37) (ci 0) 3) 4 35 false,
  oG 39 (.pick (tm 35) (.const (.bool true)) (tm 38)) 4 31 true,
  oA 40 (.pick (tm 31) (tm 39) (.const (.bool false))) 4]
def c62_28 : AC := .region o62_28 []
def c62_30 : AC := .skip
def c62_31 : AC := .exit 0
def c62_29 : AC := .cond (tm 40) c62_30 c62_31
def c62_27 : AC := .seq c62_28 c62_29
abbrev o62_33 : List AO := [oA 41 (.fieldAddr 43 (tm 2) 1) 0,
  oA 42 (.load 3 (tm 41)) 3,
  oA 43 (.unOp .neg 3 (tm 42)) 3,
  oA 44 (.fieldAddr 43 (tm 2) 0) 0,
  oA 45 (.load 3 (tm 44)) 3,
  oA 46 (.build 43 #[(0, (tm 43)), (1, (tm 45))]) 43,
  oN (.store 43 (tm 2) (tm 46)) 0]
def c62_33 : AC := .region o62_33 []
def c62_32 : AC := .block 1 c62_33
def c62_26 : AC := .seq c62_27 c62_32
def c62_25 : AC := .loop c62_26
def c62_24 : AC := .block 0 c62_25
abbrev o62_35 : List AO := [oA 47 (.load 43 (tm 2)) 43,
  oN (.store 43 (tm 4) (tm 47)) 0,
  oA 5 (.assign (ci 0)) 27]
def c62_35 : AC := .region o62_35 []
def c62_36 : AC := .ret
def c62_34 : AC := .seq c62_35 c62_36
def c62_23 : AC := .seq c62_24 c62_34
def c62_13 : AC := .seq c62_14 c62_23
def c62_11 : AC := .seq c62_12 c62_13
def c62_3 : AC := .seq c62_4 c62_11
def c62_2 : AC := .scope c62_3
def c62_0 : AC := .seq c62_1 c62_2
theorem r62_0 : SeqR Cx 62 c62_0 c62_1 c62_2 ∧ RegR Cx 62 c62_1 o62_1 ∧ ScopeR Cx 62 c62_2 c62_3 ∧ SeqR Cx 62 c62_3 c62_4 c62_11 ∧ SeqR Cx 62 c62_4 c62_5 c62_6 ∧ RegR Cx 62 c62_5 o62_5 ∧ CondR Cx 62 c62_6 (tm 15) c62_7 c62_10 ∧ SeqR Cx 62 c62_7 c62_8 c62_9 := ⟨run_seq, run_region, run_scope, run_seq, run_seq, run_region, run_condC, run_seq⟩
theorem r62_1 : RegR Cx 62 c62_8 o62_8 ∧ RetR Cx 62 c62_9 ∧ SkipR Cx 62 c62_10 ∧ SeqR Cx 62 c62_11 c62_12 c62_13 ∧ SkipR Cx 62 c62_12 ∧ SeqR Cx 62 c62_13 c62_14 c62_23 ∧ SeqR Cx 62 c62_14 c62_15 c62_16 ∧ RegR Cx 62 c62_15 o62_15 := ⟨run_region, run_ret, run_skip, run_seq, run_label, run_seq, run_seq, run_region⟩
theorem r62_2 : CondR Cx 62 c62_16 (tm 19) c62_17 c62_22 ∧ SeqR Cx 62 c62_17 c62_18 c62_19 ∧ RegR Cx 62 c62_18 o62_18 ∧ SeqR Cx 62 c62_19 c62_20 c62_21 ∧ RegD Cx 62 c62_20 o62_20 [[], [], [7], []] ∧ SkipR Cx 62 c62_22 ∧ SeqR Cx 62 c62_23 c62_24 c62_34 ∧ BlkR Cx 62 c62_24 0 c62_25 := ⟨run_condC, run_seq, run_region, run_seq, run_regionD, run_skip, run_seq, run_block⟩
theorem r62_3 : LoopR Cx 62 c62_25 c62_26 ∧ SeqR Cx 62 c62_26 c62_27 c62_32 ∧ SeqR Cx 62 c62_27 c62_28 c62_29 ∧ RegR Cx 62 c62_28 o62_28 ∧ CondR Cx 62 c62_29 (tm 40) c62_30 c62_31 ∧ SkipR Cx 62 c62_30 ∧ ExitR Cx 62 c62_31 0 ∧ BlkR Cx 62 c62_32 1 c62_33 := ⟨run_loop', run_seq, run_seq, run_region, run_condC, run_skip, run_exit_start, run_block⟩
theorem r62_4 : RegR Cx 62 c62_33 o62_33 ∧ SeqR Cx 62 c62_34 c62_35 c62_36 ∧ RegR Cx 62 c62_35 o62_35 ∧ RetR Cx 62 c62_36 := ⟨run_region, run_seq, run_region, run_ret⟩
theorem body62 : bodyOf Cx 62 = some c62_0 := by kernel_rfl
theorem res62 : resOf Cx 62 = some [.cell 4 43, .tmp 5] := by kernel_rfl
theorem pure62 : Cx.pure 62 = true := by kernel_rfl
abbrev o63_1 : List AO := [oA 10 (.move (tm 1)) 3,
  oA 11 (.binOp .add 3 (tm 10) (ci 1) 3) 3,
  oA 8 (.assign (tm 11)) 3]
def c63_1 : AC := .region o63_1 []
abbrev o63_6 : List AO := [oA 12 (.move (tm 8)) 3,
  oA 13 (.move (tm 2)) 3,
  oA 14 (.binOp .lss 3 (tm 12) (tm 13) 3) 4]
def c63_6 : AC := .region o63_6 []
def c63_8 : AC := .skip
def c63_9 : AC := .exit 0
def c63_7 : AC := .cond (tm 14) c63_8 c63_9
def c63_5 : AC := .seq c63_6 c63_7
abbrev o63_13 : List AO := [oA 17 (.move (tm 8)) 3,
  oA 9 (.assign (tm 17)) 3]
def c63_13 : AC := .region o63_13 []
abbrev o63_18 : List AO := [oA 18 (.move (tm 9)) 3,
  oA 19 (.move (tm 1)) 3,
  oA 20 (.binOp .gtr 3 (tm 18) (tm 19) 3) 4,
  oA 21 (.move (tm 20)) 4,
  oG 22 (.move (tm 3)) 60 21 true,
  oG 23 (.move (tm 0)) 22 21 true,
  oG 24 (.move (tm 9)) 3 21 true,
  oG 25 (.indexAddr 22 (tm 23) (tm 24)) 0 21 true,
  oG 26 (.load 47 (tm 25)) 47 21 true,
  oG 27 (.move (tm 0)) 22 21 true,
  oG 28 (.move (tm 9)) 3 21 true,
  oG 29 (.binOp .sub 3 (tm 28) (ci 1) 3) 3 21 true,
  oG 30 (.indexAddr 22 (tm 27) (tm 29)) 0 21 true,
  oG 31 (.load 47 (tm 30)) 47 21 true,
  oG 32 (cV 22 #[(tm 26), (tm 31)] #[47, 47]) 3 21 true,
  oG 33 (.binOp .lss 3 (tm 32) (ci 0) 3) 4 21 true,
  oA 34 (.pick (tm 21) (tm 33) (.const (.bool false))) 4]
def c63_18 : AC := .region o63_18 []
def c63_20 : AC := .skip
def c63_21 : AC := .exit 2
def c63_19 : AC := .cond (tm 34) c63_20 c63_21
def c63_17 : AC := .seq c63_18 c63_19
abbrev o63_24 : List AO := [oA 37 (.move (tm 0)) 22,
  oA 38 (.move (tm 9)) 3,
  oA 39 (.move (tm 0)) 22,
  oA 40 (.move (tm 9)) 3,
  oA 41 (.binOp .sub 3 (tm 40) (ci 1) 3) 3,
  oA 42 (.move (tm 0)) 22,
  oA 43 (.move (tm 9)) 3,
  oA 44 (.binOp .sub 3 (tm 43) (ci 1) 3) 3,
  oA 45 (.indexAddr 22 (tm 42) (tm 44)) 0,
  oA 46 (.load 47 (tm 45)) 47,
  oA 47 (.move (tm 0)) 22,
  oA 48 (.move (tm 9)) 3,
  oA 49 (.indexAddr 22 (tm 47) (tm 48)) 0,
  oA 50 (.load 47 (tm 49)) 47,
  oA 51 (.indexAddr 22 (tm 37) (tm 38)) 0,
  oN (.store 47 (tm 51) (tm 46)) 0,
  oA 52 (.indexAddr 22 (tm 39) (tm 41)) 0,
  oN (.store 47 (tm 52) (tm 50)) 0]
def c63_24 : AC := .region o63_24 []
def c63_23 : AC := .block 3 c63_24
abbrev o63_25 : List AO := [oA 35 (.move (tm 9)) 3,
  oA 36 (.binOp .sub 3 (tm 35) (ci 1) 3) 3,
  oA 9 (.assign (tm 36)) 3]
def c63_25 : AC := .region o63_25 []
def c63_22 : AC := .seq c63_23 c63_25
def c63_16 : AC := .seq c63_17 c63_22
def c63_15 : AC := .loop c63_16
def c63_14 : AC := .block 2 c63_15
def c63_12 : AC := .seq c63_13 c63_14
def c63_11 : AC := .block 1 c63_12
abbrev o63_26 : List AO := [oA 15 (.move (tm 8)) 3,
  oA 16 (.binOp .add 3 (tm 15) (ci 1) 3) 3,
  oA 8 (.assign (tm 16)) 3]
def c63_26 : AC := .region o63_26 []
def c63_10 : AC := .seq c63_11 c63_26
def c63_4 : AC := .seq c63_5 c63_10
def c63_3 : AC := .loop c63_4
def c63_2 : AC := .block 0 c63_3
def c63_0 : AC := .seq c63_1 c63_2
theorem r63_0 : SeqR Cx 63 c63_0 c63_1 c63_2 ∧ RegR Cx 63 c63_1 o63_1 ∧ BlkR Cx 63 c63_2 0 c63_3 ∧ LoopR Cx 63 c63_3 c63_4 ∧ SeqR Cx 63 c63_4 c63_5 c63_10 ∧ SeqR Cx 63 c63_5 c63_6 c63_7 ∧ RegR Cx 63 c63_6 o63_6 ∧ CondR Cx 63 c63_7 (tm 14) c63_8 c63_9 := ⟨run_seq, run_region, run_block, run_loop', run_seq, run_seq, run_region, run_condC⟩
theorem r63_1 : SkipR Cx 63 c63_8 ∧ ExitR Cx 63 c63_9 0 ∧ SeqR Cx 63 c63_10 c63_11 c63_26 ∧ BlkR Cx 63 c63_11 1 c63_12 ∧ SeqR Cx 63 c63_12 c63_13 c63_14 ∧ RegR Cx 63 c63_13 o63_13 ∧ BlkR Cx 63 c63_14 2 c63_15 ∧ LoopR Cx 63 c63_15 c63_16 := ⟨run_skip, run_exit_start, run_seq, run_block, run_seq, run_region, run_block, run_loop'⟩
theorem r63_2 : SeqR Cx 63 c63_16 c63_17 c63_22 ∧ SeqR Cx 63 c63_17 c63_18 c63_19 ∧ RegR Cx 63 c63_18 o63_18 ∧ CondR Cx 63 c63_19 (tm 34) c63_20 c63_21 ∧ SkipR Cx 63 c63_20 ∧ ExitR Cx 63 c63_21 2 ∧ SeqR Cx 63 c63_22 c63_23 c63_25 ∧ BlkR Cx 63 c63_23 3 c63_24 := ⟨run_seq, run_seq, run_region, run_condC, run_skip, run_exit_start, run_seq, run_block⟩
theorem r63_3 : RegR Cx 63 c63_24 o63_24 ∧ RegR Cx 63 c63_25 o63_25 ∧ RegR Cx 63 c63_26 o63_26 := ⟨run_region, run_region, run_region⟩
theorem body63 : bodyOf Cx 63 = some c63_0 := by kernel_rfl
theorem res63 : resOf Cx 63 = some [] := by kernel_rfl
theorem pure63 : Cx.pure 63 = false := by kernel_rfl
abbrev o64_2 : List AO := [oA 25 (.move (tm 2)) 3,
  oA 26 (.move (tm 1)) 3,
  oA 27 (.binOp .sub 3 (tm 25) (tm 26) 3) 3,
  oA 28 (.binOp .eql 3 (tm 27) (ci 1) 3) 4]
def c64_2 : AC := .region o64_2 []
abbrev o64_5 : List AO := [oA 29 (.move (tm 2)) 3,
  oA 10 (.assign (tm 29)) 3]
def c64_5 : AC := .region o64_5 []
abbrev o64_7 : List AO := [oA 30 (.move (tm 3)) 3,
  oA 11 (.assign (tm 30)) 3]
def c64_7 : AC := .region o64_7 []
abbrev o64_13 : List AO := [oA 31 (.move (tm 10)) 3,
  oA 32 (.move (tm 11)) 3,
  oA 33 (.binOp .lss 3 (tm 31) (tm 32) 3) 4]
def c64_13 : AC := .region o64_13 []
def c64_15 : AC := .skip
def c64_16 : AC := .exit 0
def c64_14 : AC := .cond (tm 33) c64_15 c64_16
def c64_12 : AC := .seq c64_13 c64_14
abbrev o64_19 : List AO := [oA 34 (.move (tm 10)) 3,
  oA 35 (.move (tm 11)) 3,
  oA 36 (.binOp .add 3 (tm 34) (tm 35) 3) 3,
  oA 37 (.convert 3 106 (tm 36)) 106,
  oA 38 (.binOp .shr 106 (tm 37) (.const (.int .u64 1)) 106) 106,
  oA 39 (.convert 106 3 (tm 38)) 3,
  oA 12 (.assign (tm 39)) 3]
def c64_19 : AC := .region o64_19 []
abbrev o64_21 : List AO := [oA 40 (.move (tm 4)) 60,
  oA 41 (.move (tm 0)) 22,
  oA 42 (.move (tm 12)) 3,
  oA 43 (.indexAddr 22 (tm 41) (tm 42)) 0,
  oA 44 (.load 47 (tm 43)) 47,
  oA 45 (.move (tm 0)) 22,
  oA 46 (.move (tm 1)) 3,
  oA 47 (.indexAddr 22 (tm 45) (tm 46)) 0,
  oA 48 (.load 47 (tm 47)) 47,
  oA 49 (cV 40 #[(tm 44), (tm 48)] #[47, 47]) 3,
  oA 50 (.binOp .lss 3 (tm 49) (ci 0) 3) 4]
def c64_21 : AC := .region o64_21 []
abbrev o64_23 : List AO := [oA 51 (.move (tm 12)) 3,
  oA 52 (.binOp .add 3 (tm 51) (ci 1) 3) 3,
  oA 10 (.assign (tm 52)) 3]
def c64_23 : AC := .region o64_23 []
abbrev o64_24 : List AO := [oA 53 (.move (tm 12)) 3,
  oA 11 (.assign (tm 53)) 3]
def c64_24 : AC := .region o64_24 []
def c64_22 : AC := .cond (tm 50) c64_23 c64_24
def c64_20 : AC := .seq c64_21 c64_22
def c64_18 : AC := .seq c64_19 c64_20
def c64_17 : AC := .block 1 c64_18
def c64_11 : AC := .seq c64_12 c64_17
def c64_10 : AC := .loop c64_11
def c64_9 : AC := .block 0 c64_10
abbrev o64_27 : List AO := [oA 54 (.move (tm 1)) 3,
  oA 13 (.assign (tm 54)) 3]
def c64_27 : AC := .region o64_27 []
abbrev o64_32 : List AO := [oA 55 (.move (tm 13)) 3,
  oA 56 (.move (tm 10)) 3,
  oA 57 (.binOp .sub 3 (tm 56) (ci 1) 3) 3,
  oA 58 (.binOp .lss 3 (tm 55) (tm 57) 3) 4]
def c64_32 : AC := .region o64_32 []
def c64_34 : AC := .skip
def c64_35 : AC := .exit 2
def c64_33 : AC := .cond (tm 58) c64_34 c64_35
def c64_31 : AC := .seq c64_32 c64_33
abbrev o64_38 : List AO := [oA 61 (.move (tm 0)) 22,
  oA 62 (.move (tm 13)) 3,
  oA 63 (.move (tm 0)) 22,
  oA 64 (.move (tm 13)) 3,
  oA 65 (.binOp .add 3 (tm 64) (ci 1) 3) 3,
  oA 66 (.move (tm 0)) 22,
  oA 67 (.move (tm 13)) 3,
  oA 68 (.binOp .add 3 (tm 67) (ci 1) 3) 3,
  oA 69 (.indexAddr 22 (tm 66) (tm 68)) 0,
  oA 70 (.load 47 (tm 69)) 47,
  oA 71 (.move (tm 0)) 22,
  oA 72 (.move (tm 13)) 3,
  oA 73 (.indexAddr 22 (tm 71) (tm 72)) 0,
  oA 74 (.load 47 (tm 73)) 47,
  oA 75 (.indexAddr 22 (tm 61) (tm 62)) 0,
  oN (.store 47 (tm 75) (tm 70)) 0,
  oA 76 (.indexAddr 22 (tm 63) (tm 65)) 0,
  oN (.store 47 (tm 76) (tm 74)) 0]
def c64_38 : AC := .region o64_38 []
def c64_37 : AC := .block 3 c64_38
abbrev o64_39 : List AO := [oA 59 (.move (tm 13)) 3,
  oA 60 (.binOp .add 3 (tm 59) (ci 1) 3) 3,
  oA 13 (.assign (tm 60)) 3]
def c64_39 : AC := .region o64_39 []
def c64_36 : AC := .seq c64_37 c64_39
def c64_30 : AC := .seq c64_31 c64_36
def c64_29 : AC := .loop c64_30
def c64_28 : AC := .block 2 c64_29
def c64_26 : AC := .seq c64_27 c64_28
def c64_40 : AC := .ret
def c64_25 : AC := .seq c64_26 c64_40
def c64_8 : AC := .seq c64_9 c64_25
def c64_6 : AC := .seq c64_7 c64_8
def c64_4 : AC := .seq c64_5 c64_6
def c64_41 : AC := .skip
def c64_3 : AC := .cond (tm 28) c64_4 c64_41
def c64_1 : AC := .seq c64_2 c64_3
abbrev o64_44 : List AO := [oA 77 (.move (tm 3)) 3,
  oA 78 (.move (tm 2)) 3,
  oA 79 (.binOp .sub 3 (tm 77) (tm 78) 3) 3,
  oA 80 (.binOp .eql 3 (tm 79) (ci 1) 3) 4]
def c64_44 : AC := .region o64_44 []
abbrev o64_47 : List AO := [oA 81 (.move (tm 1)) 3,
  oA 14 (.assign (tm 81)) 3]
def c64_47 : AC := .region o64_47 []
abbrev o64_49 : List AO := [oA 82 (.move (tm 2)) 3,
  oA 15 (.assign (tm 82)) 3]
def c64_49 : AC := .region o64_49 []
abbrev o64_55 : List AO := [oA 83 (.move (tm 14)) 3,
  oA 84 (.move (tm 15)) 3,
  oA 85 (.binOp .lss 3 (tm 83) (tm 84) 3) 4]
def c64_55 : AC := .region o64_55 []
def c64_57 : AC := .skip
def c64_58 : AC := .exit 4
def c64_56 : AC := .cond (tm 85) c64_57 c64_58
def c64_54 : AC := .seq c64_55 c64_56
abbrev o64_61 : List AO := [oA 86 (.move (tm 14)) 3,
  oA 87 (.move (tm 15)) 3,
  oA 88 (.binOp .add 3 (tm 86) (tm 87) 3) 3,
  oA 89 (.convert 3 106 (tm 88)) 106,
  oA 90 (.binOp .shr 106 (tm 89) (.const (.int .u64 1)) 106) 106,
  oA 91 (.convert 106 3 (tm 90)) 3,
  oA 16 (.assign (tm 91)) 3]
def c64_61 : AC := .region o64_61 []
abbrev o64_63 : List AO := [oA 92 (.move (tm 4)) 60,
  oA 93 (.move (tm 0)) 22,
  oA 94 (.move (tm 2)) 3,
  oA 95 (.indexAddr 22 (tm 93) (tm 94)) 0,
  oA 96 (.load 47 (tm 95)) 47,
  oA 97 (.move (tm 0)) 22,
  oA 98 (.move (tm 16)) 3,
  oA 99 (.indexAddr 22 (tm 97) (tm 98)) 0,
  oA 100 (.load 47 (tm 99)) 47,
  oA 101 (cV 92 #[(tm 96), (tm 100)] #[47, 47]) 3,
  oA 102 (.binOp .lss 3 (tm 101) (ci 0) 3) 4,
  oA 103 (.unOp .not 4 (tm 102)) 4]
def c64_63 : AC := .region o64_63 []
abbrev o64_65 : List AO := [oA 104 (.move (tm 16)) 3,
  oA 105 (.binOp .add 3 (tm 104) (ci 1) 3) 3,
  oA 14 (.assign (tm 105)) 3]
def c64_65 : AC := .region o64_65 []
abbrev o64_66 : List AO := [oA 106 (.move (tm 16)) 3,
  oA 15 (.assign (tm 106)) 3]
def c64_66 : AC := .region o64_66 []
def c64_64 : AC := .cond (tm 103) c64_65 c64_66
def c64_62 : AC := .seq c64_63 c64_64
def c64_60 : AC := .seq c64_61 c64_62
def c64_59 : AC := .block 5 c64_60
def c64_53 : AC := .seq c64_54 c64_59
def c64_52 : AC := .loop c64_53
def c64_51 : AC := .block 4 c64_52
abbrev o64_69 : List AO := [oA 107 (.move (tm 2)) 3,
  oA 17 (.assign (tm 107)) 3]
def c64_69 : AC := .region o64_69 []
abbrev o64_74 : List AO := [oA 108 (.move (tm 17)) 3,
  oA 109 (.move (tm 14)) 3,
  oA 110 (.binOp .gtr 3 (tm 108) (tm 109) 3) 4]
def c64_74 : AC := .region o64_74 []
def c64_76 : AC := .skip
def c64_77 : AC := .exit 6
def c64_75 : AC := .cond (tm 110) c64_76 c64_77
def c64_73 : AC := .seq c64_74 c64_75
abbrev o64_80 : List AO := [oA 113 (.move (tm 0)) 22,
  oA 114 (.move (tm 17)) 3,
  oA 115 (.move (tm 0)) 22,
  oA 116 (.move (tm 17)) 3,
  oA 117 (.binOp .sub 3 (tm 116) (ci 1) 3) 3,
  oA 118 (.move (tm 0)) 22,
  oA 119 (.move (tm 17)) 3,
  oA 120 (.binOp .sub 3 (tm 119) (ci 1) 3) 3,
  oA 121 (.indexAddr 22 (tm 118) (tm 120)) 0,
  oA 122 (.load 47 (tm 121)) 47,
  oA 123 (.move (tm 0)) 22,
  oA 124 (.move (tm 17)) 3,
  oA 125 (.indexAddr 22 (tm 123) (tm 124)) 0,
  oA 126 (.load 47 (tm 125)) 47,
  oA 127 (.indexAddr 22 (tm 113) (tm 114)) 0,
  oN (.store 47 (tm 127) (tm 122)) 0,
  oA 128 (.indexAddr 22 (tm 115) (tm 117)) 0,
  oN (.store 47 (tm 128) (tm 126)) 0]
def c64_80 : AC := .region o64_80 []
def c64_79 : AC := .block 7 c64_80
abbrev o64_81 : List AO := [oA 111 (.move (tm 17)) 3,
  oA 112 (.binOp .sub 3 (tm 111) (ci 1) 3) 3,
  oA 17 (.assign (tm 112)) 3]
def c64_81 : AC := .region o64_81 []
def c64_78 : AC := .seq c64_79 c64_81
def c64_72 : AC := .seq c64_73 c64_78
def c64_71 : AC := .loop c64_72
def c64_70 : AC := .block 6 c64_71
def c64_68 : AC := .seq c64_69 c64_70
def c64_82 : AC := .ret
def c64_67 : AC := .seq c64_68 c64_82
def c64_50 : AC := .seq c64_51 c64_67
def c64_48 : AC := .seq c64_49 c64_50
def c64_46 : AC := .seq c64_47 c64_48
def c64_83 : AC := .skip
def c64_45 : AC := .cond (tm 80) c64_46 c64_83
def c64_43 : AC := .seq c64_44 c64_45
abbrev o64_85 : List AO := [oA 129 (.move (tm 1)) 3,
  oA 130 (.move (tm 3)) 3,
  oA 131 (.binOp .add 3 (tm 129) (tm 130) 3) 3,
  oA 132 (.convert 3 106 (tm 131)) 106,
  oA 133 (.binOp .shr 106 (tm 132) (.const (.int .u64 1)) 106) 106,
  oA 134 (.convert 106 3 (tm 133)) 3,
  oA 18 (.assign (tm 134)) 3]
def c64_85 : AC := .region o64_85 []
abbrev o64_87 : List AO := [oA 135 (.move (tm 18)) 3,
  oA 136 (.move (tm 2)) 3,
  oA 137 (.binOp .add 3 (tm 135) (tm 136) 3) 3,
  oA 19 (.assign (tm 137)) 3]
def c64_87 : AC := .region o64_87 []
abbrev o64_89 : List AO := [oA 20 (.assign (ci 0)) 3,
  oA 21 (.assign (ci 0)) 3]
def c64_89 : AC := .region o64_89 []
abbrev o64_92 : List AO := [oA 138 (.move (tm 2)) 3,
  oA 139 (.move (tm 18)) 3,
  oA 140 (.binOp .gtr 3 (tm 138) (tm 139) 3) 4]
def c64_92 : AC := .region o64_92 []
abbrev o64_95 : List AO := [oA 141 (.move (tm 19)) 3,
  oA 142 (.move (tm 3)) 3,
  oA 143 (.binOp .sub 3 (tm 141) (tm 142) 3) 3,
  oA 20 (.assign (tm 143)) 3]
def c64_95 : AC := .region o64_95 []
abbrev o64_96 : List AO := [oA 144 (.move (tm 18)) 3,
  oA 21 (.assign (tm 144)) 3]
def c64_96 : AC := .region o64_96 []
def c64_94 : AC := .seq c64_95 c64_96
abbrev o64_98 : List AO := [oA 145 (.move (tm 1)) 3,
  oA 20 (.assign (tm 145)) 3]
def c64_98 : AC := .region o64_98 []
abbrev o64_99 : List AO := [oA 146 (.move (tm 2)) 3,
  oA 21 (.assign (tm 146)) 3]
def c64_99 : AC := .region o64_99 []
def c64_97 : AC := .seq c64_98 c64_99
def c64_93 : AC := .cond (tm 140) c64_94 c64_97
def c64_91 : AC := .seq c64_92 c64_93
abbrev o64_101 : List AO := [oA 147 (.move (tm 19)) 3,
  oA 148 (.binOp .sub 3 (tm 147) (ci 1) 3) 3,
  oA 22 (.assign (tm 148)) 3]
def c64_101 : AC := .region o64_101 []
abbrev o64_107 : List AO := [oA 149 (.move (tm 20)) 3,
  oA 150 (.move (tm 21)) 3,
  oA 151 (.binOp .lss 3 (tm 149) (tm 150) 3) 4]
def c64_107 : AC := .region o64_107 []
def c64_109 : AC := .skip
def c64_110 : AC := .exit 8
def c64_108 : AC := .cond (tm 151) c64_109 c64_110
def c64_106 : AC := .seq c64_107 c64_108
abbrev o64_113 : List AO := [oA 152 (.move (tm 20)) 3,
  oA 153 (.move (tm 21)) 3,
  oA 154 (.binOp .add 3 (tm 152) (tm 153) 3) 3,
  oA 155 (.convert 3 106 (tm 154)) 106,
  oA 156 (.binOp .shr 106 (tm 155) (.const (.int .u64 1)) 106) 106,
  oA 157 (.convert 106 3 (tm 156)) 3,
  oA 23 (.assign (tm 157)) 3]
def c64_113 : AC := .region o64_113 []
abbrev o64_115 : List AO := [oA 158 (.move (tm 4)) 60,
  oA 159 (.move (tm 0)) 22,
  oA 160 (.move (tm 22)) 3,
  oA 161 (.move (tm 23)) 3,
  oA 162 (.binOp .sub 3 (tm 160) (tm 161) 3) 3,
  oA 163 (.indexAddr 22 (tm 159) (tm 162)) 0,
  oA 164 (.load 47 (tm 163)) 47,
  oA 165 (.move (tm 0)) 22,
  oA 166 (.move (tm 23)) 3,
  oA 167 (.indexAddr 22 (tm 165) (tm 166)) 0,
  oA 168 (.load 47 (tm 167)) 47,
  oA 169 (cV 158 #[(tm 164), (tm 168)] #[47, 47]) 3,
  oA 170 (.binOp .lss 3 (tm 169) (ci 0) 3) 4,
  oA 171 (.unOp .not 4 (tm 170)) 4]
def c64_115 : AC := .region o64_115 []
abbrev o64_117 : List AO := [oA 172 (.move (tm 23)) 3,
  oA 173 (.binOp .add 3 (tm 172) (ci 1) 3) 3,
  oA 20 (.assign (tm 173)) 3]
def c64_117 : AC := .region o64_117 []
abbrev o64_118 : List AO := [oA 174 (.move (tm 23)) 3,
  oA 21 (.assign (tm 174)) 3]
def c64_118 : AC := .region o64_118 []
def c64_116 : AC := .cond (tm 171) c64_117 c64_118
def c64_114 : AC := .seq c64_115 c64_116
def c64_112 : AC := .seq c64_113 c64_114
def c64_111 : AC := .block 9 c64_112
def c64_105 : AC := .seq c64_106 c64_111
def c64_104 : AC := .loop c64_105
def c64_103 : AC := .block 8 c64_104
abbrev o64_120 : List AO := [oA 175 (.move (tm 19)) 3,
  oA 176 (.move (tm 20)) 3,
  oA 177 (.binOp .sub 3 (tm 175) (tm 176) 3) 3,
  oA 24 (.assign (tm 177)) 3]
def c64_120 : AC := .region o64_120 []
abbrev o64_123 : List AO := [oA 178 (.move (tm 20)) 3,
  oA 179 (.move (tm 2)) 3,
  oA 180 (.binOp .lss 3 (tm 178) (tm 179) 3) 4,
  oA 181 (.move (tm 180)) 4,
  oG 182 (.move (tm 2)) 3 181 true,
  oG 183 (.move (tm 24)) 3 181 true,
  oG 184 (.binOp .lss 3 (tm 182) (tm 183) 3) 4 181 true,
  oA 185 (.pick (tm 181) (tm 184) (.const (.bool false))) 4]
def c64_123 : AC := .region o64_123 []
abbrev o64_125 : List AO := [oA 186 (.move (tm 0)) 22,
  oA 187 (.move (tm 20)) 3,
  oA 188 (.move (tm 2)) 3,
  oA 189 (.move (tm 24)) 3,
  oA 190 (.move (tm 4)) 60,
  oA 191 (cF 73 #[(tm 186), (tm 187), (tm 188), (tm 189), (tm 190)] #[22, 3, 3, 3, 60]) 0]
def c64_125 : AC := .region o64_125 []
def c64_126 : AC := .skip
def c64_124 : AC := .cond (tm 185) c64_125 c64_126
def c64_122 : AC := .seq c64_123 c64_124
abbrev o64_129 : List AO := [oA 192 (.move (tm 1)) 3,
  oA 193 (.move (tm 20)) 3,
  oA 194 (.binOp .lss 3 (tm 192) (tm 193) 3) 4,
  oA 195 (.move (tm 194)) 4,
  oG 196 (.move (tm 20)) 3 195 true,
  oG 197 (.move (tm 18)) 3 195 true,
  oG 198 (.binOp .lss 3 (tm 196) (tm 197) 3) 4 195 true,
  oA 199 (.pick (tm 195) (tm 198) (.const (.bool false))) 4]
def c64_129 : AC := .region o64_129 []
abbrev o64_131 : List AO := [oA 200 (.move (tm 0)) 22,
  oA 201 (.move (tm 1)) 3,
  oA 202 (.move (tm 20)) 3,
  oA 203 (.move (tm 18)) 3,
  oA 204 (.move (tm 4)) 60,
  oA 205 (cF 64 #[(tm 200), (tm 201), (tm 202), (tm 203), (tm 204)] #[22, 3, 3, 3, 60]) 0]
def c64_131 : AC := .region o64_131 []
def c64_132 : AC := .skip
def c64_130 : AC := .cond (tm 199) c64_131 c64_132
def c64_128 : AC := .seq c64_129 c64_130
abbrev o64_134 : List AO := [oA 206 (.move (tm 18)) 3,
  oA 207 (.move (tm 24)) 3,
  oA 208 (.binOp .lss 3 (tm 206) (tm 207) 3) 4,
  oA 209 (.move (tm 208)) 4,
  oG 210 (.move (tm 24)) 3 209 true,
  oG 211 (.move (tm 3)) 3 209 true,
  oG 212 (.binOp .lss 3 (tm 210) (tm 211) 3) 4 209 true,
  oA 213 (.pick (tm 209) (tm 212) (.const (.bool false))) 4]
def c64_134 : AC := .region o64_134 []
abbrev o64_136 : List AO := [oA 214 (.move (tm 0)) 22,
  oA 215 (.move (tm 18)) 3,
  oA 216 (.move (tm 24)) 3,
  oA 217 (.move (tm 3)) 3,
  oA 218 (.move (tm 4)) 60,
  oA 219 (cF 64 #[(tm 214), (tm 215), (tm 216), (tm 217), (tm 218)] #[22, 3, 3, 3, 60]) 0]
def c64_136 : AC := .region o64_136 []
def c64_137 : AC := .skip
def c64_135 : AC := .cond (tm 213) c64_136 c64_137
def c64_133 : AC := .seq c64_134 c64_135
def c64_127 : AC := .seq c64_128 c64_133
def c64_121 : AC := .seq c64_122 c64_127
def c64_119 : AC := .seq c64_120 c64_121
def c64_102 : AC := .seq c64_103 c64_119
def c64_100 : AC := .seq c64_101 c64_102
def c64_90 : AC := .seq c64_91 c64_100
def c64_88 : AC := .seq c64_89 c64_90
def c64_86 : AC := .seq c64_87 c64_88
def c64_84 : AC := .seq c64_85 c64_86
def c64_42 : AC := .seq c64_43 c64_84
def c64_0 : AC := .seq c64_1 c64_42
theorem r64_0 : SeqR Cx 64 c64_0 c64_1 c64_42 ∧ SeqR Cx 64 c64_1 c64_2 c64_3 ∧ RegR Cx 64 c64_2 o64_2 ∧ CondR Cx 64 c64_3 (tm 28) c64_4 c64_41 ∧ SeqR Cx 64 c64_4 c64_5 c64_6 ∧ RegR Cx 64 c64_5 o64_5 ∧ SeqR Cx 64 c64_6 c64_7 c64_8 ∧ RegR Cx 64 c64_7 o64_7 := ⟨run_seq, run_seq, run_region, run_condC, run_seq, run_region, run_seq, run_region⟩
theorem r64_1 : SeqR Cx 64 c64_8 c64_9 c64_25 ∧ BlkR Cx 64 c64_9 0 c64_10 ∧ LoopR Cx 64 c64_10 c64_11 ∧ SeqR Cx 64 c64_11 c64_12 c64_17 ∧ SeqR Cx 64 c64_12 c64_13 c64_14 ∧ RegR Cx 64 c64_13 o64_13 ∧ CondR Cx 64 c64_14 (tm 33) c64_15 c64_16 ∧ SkipR Cx 64 c64_15 := ⟨run_seq, run_block, run_loop', run_seq, run_seq, run_region, run_condC, run_skip⟩
theorem r64_2 : ExitR Cx 64 c64_16 0 ∧ BlkR Cx 64 c64_17 1 c64_18 ∧ SeqR Cx 64 c64_18 c64_19 c64_20 ∧ RegR Cx 64 c64_19 o64_19 ∧ SeqR Cx 64 c64_20 c64_21 c64_22 ∧ RegR Cx 64 c64_21 o64_21 ∧ CondR Cx 64 c64_22 (tm 50) c64_23 c64_24 ∧ RegR Cx 64 c64_23 o64_23 := ⟨run_exit_start, run_block, run_seq, run_region, run_seq, run_region, run_condC, run_region⟩
theorem r64_3 : RegR Cx 64 c64_24 o64_24 ∧ SeqR Cx 64 c64_25 c64_26 c64_40 ∧ SeqR Cx 64 c64_26 c64_27 c64_28 ∧ RegR Cx 64 c64_27 o64_27 ∧ BlkR Cx 64 c64_28 2 c64_29 ∧ LoopR Cx 64 c64_29 c64_30 ∧ SeqR Cx 64 c64_30 c64_31 c64_36 ∧ SeqR Cx 64 c64_31 c64_32 c64_33 := ⟨run_region, run_seq, run_seq, run_region, run_block, run_loop', run_seq, run_seq⟩
theorem r64_4 : RegR Cx 64 c64_32 o64_32 ∧ CondR Cx 64 c64_33 (tm 58) c64_34 c64_35 ∧ SkipR Cx 64 c64_34 ∧ ExitR Cx 64 c64_35 2 ∧ SeqR Cx 64 c64_36 c64_37 c64_39 ∧ BlkR Cx 64 c64_37 3 c64_38 ∧ RegR Cx 64 c64_38 o64_38 ∧ RegR Cx 64 c64_39 o64_39 := ⟨run_region, run_condC, run_skip, run_exit_start, run_seq, run_block, run_region, run_region⟩
theorem r64_5 : RetR Cx 64 c64_40 ∧ SkipR Cx 64 c64_41 ∧ SeqR Cx 64 c64_42 c64_43 c64_84 ∧ SeqR Cx 64 c64_43 c64_44 c64_45 ∧ RegR Cx 64 c64_44 o64_44 ∧ CondR Cx 64 c64_45 (tm 80) c64_46 c64_83 ∧ SeqR Cx 64 c64_46 c64_47 c64_48 ∧ RegR Cx 64 c64_47 o64_47 := ⟨run_ret, run_skip, run_seq, run_seq, run_region, run_condC, run_seq, run_region⟩
theorem r64_6 : SeqR Cx 64 c64_48 c64_49 c64_50 ∧ RegR Cx 64 c64_49 o64_49 ∧ SeqR Cx 64 c64_50 c64_51 c64_67 ∧ BlkR Cx 64 c64_51 4 c64_52 ∧ LoopR Cx 64 c64_52 c64_53 ∧ SeqR Cx 64 c64_53 c64_54 c64_59 ∧ SeqR Cx 64 c64_54 c64_55 c64_56 ∧ RegR Cx 64 c64_55 o64_55 := ⟨run_seq, run_region, run_seq, run_block, run_loop', run_seq, run_seq, run_region⟩
theorem r64_7 : CondR Cx 64 c64_56 (tm 85) c64_57 c64_58 ∧ SkipR Cx 64 c64_57 ∧ ExitR Cx 64 c64_58 4 ∧ BlkR Cx 64 c64_59 5 c64_60 ∧ SeqR Cx 64 c64_60 c64_61 c64_62 ∧ RegR Cx 64 c64_61 o64_61 ∧ SeqR Cx 64 c64_62 c64_63 c64_64 ∧ RegR Cx 64 c64_63 o64_63 := ⟨run_condC, run_skip, run_exit_start, run_block, run_seq, run_region, run_seq, run_region⟩
theorem r64_8 : CondR Cx 64 c64_64 (tm 103) c64_65 c64_66 ∧ RegR Cx 64 c64_65 o64_65 ∧ RegR Cx 64 c64_66 o64_66 ∧ SeqR Cx 64 c64_67 c64_68 c64_82 ∧ SeqR Cx 64 c64_68 c64_69 c64_70 ∧ RegR Cx 64 c64_69 o64_69 ∧ BlkR Cx 64 c64_70 6 c64_71 ∧ LoopR Cx 64 c64_71 c64_72 := ⟨run_condC, run_region, run_region, run_seq, run_seq, run_region, run_block, run_loop'⟩
theorem r64_9 : SeqR Cx 64 c64_72 c64_73 c64_78 ∧ SeqR Cx 64 c64_73 c64_74 c64_75 ∧ RegR Cx 64 c64_74 o64_74 ∧ CondR Cx 64 c64_75 (tm 110) c64_76 c64_77 ∧ SkipR Cx 64 c64_76 ∧ ExitR Cx 64 c64_77 6 ∧ SeqR Cx 64 c64_78 c64_79 c64_81 ∧ BlkR Cx 64 c64_79 7 c64_80 := ⟨run_seq, run_seq, run_region, run_condC, run_skip, run_exit_start, run_seq, run_block⟩
theorem r64_10 : RegR Cx 64 c64_80 o64_80 ∧ RegR Cx 64 c64_81 o64_81 ∧ RetR Cx 64 c64_82 ∧ SkipR Cx 64 c64_83 ∧ SeqR Cx 64 c64_84 c64_85 c64_86 ∧ RegR Cx 64 c64_85 o64_85 ∧ SeqR Cx 64 c64_86 c64_87 c64_88 ∧ RegR Cx 64 c64_87 o64_87 := ⟨run_region, run_region, run_ret, run_skip, run_seq, run_region, run_seq, run_region⟩
theorem r64_11 : SeqR Cx 64 c64_88 c64_89 c64_90 ∧ RegR Cx 64 c64_89 o64_89 ∧ SeqR Cx 64 c64_90 c64_91 c64_100 ∧ SeqR Cx 64 c64_91 c64_92 c64_93 ∧ RegR Cx 64 c64_92 o64_92 ∧ CondR Cx 64 c64_93 (tm 140) c64_94 c64_97 ∧ SeqR Cx 64 c64_94 c64_95 c64_96 ∧ RegR Cx 64 c64_95 o64_95 := ⟨run_seq, run_region, run_seq, run_seq, run_region, run_condC, run_seq, run_region⟩
theorem r64_12 : RegR Cx 64 c64_96 o64_96 ∧ SeqR Cx 64 c64_97 c64_98 c64_99 ∧ RegR Cx 64 c64_98 o64_98 ∧ RegR Cx 64 c64_99 o64_99 ∧ SeqR Cx 64 c64_100 c64_101 c64_102 ∧ RegR Cx 64 c64_101 o64_101 ∧ SeqR Cx 64 c64_102 c64_103 c64_119 ∧ BlkR Cx 64 c64_103 8 c64_104 := ⟨run_region, run_seq, run_region, run_region, run_seq, run_region, run_seq, run_block⟩
theorem r64_13 : LoopR Cx 64 c64_104 c64_105 ∧ SeqR Cx 64 c64_105 c64_106 c64_111 ∧ SeqR Cx 64 c64_106 c64_107 c64_108 ∧ RegR Cx 64 c64_107 o64_107 ∧ CondR Cx 64 c64_108 (tm 151) c64_109 c64_110 ∧ SkipR Cx 64 c64_109 ∧ ExitR Cx 64 c64_110 8 ∧ BlkR Cx 64 c64_111 9 c64_112 := ⟨run_loop', run_seq, run_seq, run_region, run_condC, run_skip, run_exit_start, run_block⟩
theorem r64_14 : SeqR Cx 64 c64_112 c64_113 c64_114 ∧ RegR Cx 64 c64_113 o64_113 ∧ SeqR Cx 64 c64_114 c64_115 c64_116 ∧ RegR Cx 64 c64_115 o64_115 ∧ CondR Cx 64 c64_116 (tm 171) c64_117 c64_118 ∧ RegR Cx 64 c64_117 o64_117 ∧ RegR Cx 64 c64_118 o64_118 ∧ SeqR Cx 64 c64_119 c64_120 c64_121 := ⟨run_seq, run_region, run_seq, run_region, run_condC, run_region, run_region, run_seq⟩
theorem r64_15 : RegR Cx 64 c64_120 o64_120 ∧ SeqR Cx 64 c64_121 c64_122 c64_127 ∧ SeqR Cx 64 c64_122 c64_123 c64_124 ∧ RegR Cx 64 c64_123 o64_123 ∧ CondR Cx 64 c64_124 (tm 185) c64_125 c64_126 ∧ RegR Cx 64 c64_125 o64_125 ∧ SkipR Cx 64 c64_126 ∧ SeqR Cx 64 c64_127 c64_128 c64_133 := ⟨run_region, run_seq, run_seq, run_region, run_condC, run_region, run_skip, run_seq⟩
theorem r64_16 : SeqR Cx 64 c64_128 c64_129 c64_130 ∧ RegR Cx 64 c64_129 o64_129 ∧ CondR Cx 64 c64_130 (tm 199) c64_131 c64_132 ∧ RegR Cx 64 c64_131 o64_131 ∧ SkipR Cx 64 c64_132 ∧ SeqR Cx 64 c64_133 c64_134 c64_135 ∧ RegR Cx 64 c64_134 o64_134 ∧ CondR Cx 64 c64_135 (tm 213) c64_136 c64_137 := ⟨run_seq, run_region, run_condC, run_region, run_skip, run_seq, run_region, run_condC⟩
theorem r64_17 : RegR Cx 64 c64_136 o64_136 ∧ SkipR Cx 64 c64_137 := ⟨run_region, run_skip⟩
theorem body64 : bodyOf Cx 64 = some c64_0 := by kernel_rfl
theorem res64 : resOf Cx 64 = some [] := by kernel_rfl
theorem pure64 : Cx.pure 64 = false := by kernel_rfl
end
end Go.Proofs.Ytjnopnlgcmlkfaa.G

