import Derived.Test.YtckhmpcmlochpaaKRVChoice3
namespace Go.Proofs.Ytckhmpcmlochpaa.G
open Go.BX
section
variable {T : Nat → AV} {ds : List ADef} {ro : Option Nat} {k : List AItem} {H : AHeap} {Q : AV → AHeap → Prop}
abbrev o3_1 : List AO := [oA 7 (.box 28 (tm 3)) 0,
  oA 8 (.assign (.const (.bool false))) 4]
def c3_1 : AC := .region o3_1 []
abbrev o3_4 : List AO := [oA 18 (cF 6 #[] #[]) 4,
  oA 19 (.unOp .not 4 (tm 18)) 4,
  oA 20 (.move (tm 19)) 4,
  oG 21 (.move (tm 0)) 22 20 false,
  oG 22 (.load 28 (tm 7)) 28 20 false,
  oG 23 (cF 7 #[(tm 21), (tm 22)] #[22, 28]) 3 20 false,
  oG 24 (.binOp .eql 3 (tm 23) (ci 0) 3) 4 20 false,
  oA 25 (.pick (tm 20) (.const (.bool true)) (tm 24)) 4,
  oA 26 (.move (tm 25)) 4,
  oG 27 (.move (tm 1)) 22 26 false,
  oG 28 (.load 28 (tm 7)) 28 26 false,
  oG 29 (cF 7 #[(tm 27), (tm 28)] #[22, 28]) 3 26 false,
  oG 30 (.binOp .eql 3 (tm 29) (ci 0) 3) 4 26 false,
  oA 31 (.pick (tm 26) (.const (.bool true)) (tm 30)) 4,
  oA 32 (.move (tm 31)) 4,
  oG 33 (.move (tm 2)) 22 32 false,
  oG 34 (.load 28 (tm 7)) 28 32 false,
  oG 35 (cF 7 #[(tm 33), (tm 34)] #[22, 28]) 3 32 false,
  oG 36 (.binOp .eql 3 (tm 35) (ci 0) 3) 4 32 false,
  oA 37 (.pick (tm 32) (.const (.bool true)) (tm 36)) 4]
def c3_4 : AC := .region o3_4 []
abbrev o3_7 : List AO := [oA 38 (cF 6 #[] #[]) 4,
  oA 8 (.assign (tm 38)) 4]
def c3_7 : AC := .region o3_7 []
def c3_8 : AC := .ret
def c3_6 : AC := .seq c3_7 c3_8
def c3_9 : AC := .skip
def c3_5 : AC := .cond (tm 37) c3_6 c3_9
def c3_3 : AC := .seq c3_4 c3_5
abbrev o3_11 : List AO := [oA 9 (.assign (.const (.slice none 0 0))) 22]
def c3_11 : AC := .region o3_11 []
abbrev o3_13 : List AO := [oA 39 (.move (tm 9)) 22,
  oA 40 (.build 32 #[(0, (ci 11))]) 32,
  oA 41 (.buildSlice 22 1 #[(0, (tm 40))]) 22,
  oA 42 (cB .append #[(tm 39), (tm 41)] #[22, 22]) 22,
  oA 43 (.move (tm 0)) 22,
  oA 44 (cB .append #[(tm 42), (tm 43)] #[22, 22]) 22,
  oA 45 (.move (tm 1)) 22,
  oA 46 (cB .append #[(tm 44), (tm 45)] #[22, 22]) 22,
  oA 47 (.move (tm 2)) 22,
  oA 48 (cB .append #[(tm 46), (tm 47)] #[22, 22]) 22,
  oA 9 (.assign (tm 48)) 22]
def c3_13 : AC := .region o3_13 []
abbrev o3_16 : List AO := [oA 49 (.move (tm 0)) 22,
  oA 50 (cF 9 #[(tm 49)] #[22]) 34,
  oA 51 (cF 8 #[(tm 50)] #[34]) 4,
  oA 52 (.unOp .not 4 (tm 51)) 4,
  oA 53 (.move (tm 52)) 4,
  oG 54 (.move (tm 1)) 22 53 false,
  oG 55 (cF 9 #[(tm 54)] #[22]) 34 53 false,
  oG 56 (cF 8 #[(tm 55)] #[34]) 4 53 false,
  oG 57 (.unOp .not 4 (tm 56)) 4 53 false,
  oA 58 (.pick (tm 53) (.const (.bool true)) (tm 57)) 4,
  oA 59 (.move (tm 58)) 4,
  oG 60 (.move (tm 2)) 22 59 false,
  oG 61 (cF 9 #[(tm 60)] #[22]) 34 59 false,
  oG 62 (cF 8 #[(tm 61)] #[34]) 4 59 false,
  oG 63 (.unOp .not 4 (tm 62)) 4 59 false,
  oA 64 (.pick (tm 59) (.const (.bool true)) (tm 63)) 4,
  oA 65 (.move (tm 64)) 4,
  oG 66 (.move (tm 9)) 22 65 false,
  oG 67 (cF 9 #[(tm 66)] #[22]) 34 65 false,
  oG 68 (cF 8 #[(tm 67)] #[34]) 4 65 false,
  oG 69 (.unOp .not 4 (tm 68)) 4 65 false,
  oA 70 (.pick (tm 65) (.const (.bool true)) (tm 69)) 4]
def c3_16 : AC := .region o3_16 []
abbrev o3_19 : List AO := [oA 8 (.assign (.const (.bool true))) 4]
def c3_19 : AC := .region o3_19 []
def c3_20 : AC := .ret
def c3_18 : AC := .seq c3_19 c3_20
def c3_21 : AC := .skip
def c3_17 : AC := .cond (tm 70) c3_18 c3_21
def c3_15 : AC := .seq c3_16 c3_17
abbrev o3_23 : List AO := [oA 72 (.move (tm 0)) 22,
  oA 73 (cF 9 #[(tm 72)] #[22]) 34,
  oA 74 (.load 28 (tm 7)) 28,
  oA 75 (cF 10 #[(tm 73), (tm 74), (ci 3000)] #[34, 28, 3]) 40,
  oA 71 (.move (tm 75)) 40,
  oA 76 (.extract (tm 71) 0) 38,
  oA 77 (.extract (tm 71) 1) 39,
  oA 10 (.alloc 38) 0,
  oN (.store 38 (tm 10) (tm 76)) 0,
  oA 11 (.assign (tm 77)) 39]
def c3_23 : AC := .region o3_23 []
abbrev o3_26 : List AO := [oA 78 (.move (tm 11)) 39,
  oA 79 (.binOp .neq 39 (tm 78) (ci 0) 39) 4,
  oA 80 (.move (tm 79)) 4,
  oG 81 (.fieldAddr 38 (tm 10) 0) 0 80 false,
  oG 82 (.fieldAddr 26 (tm 81) 0) 0 80 false,
  oG 83 (.load 3 (tm 82)) 3 80 false,
  oG 84 (.binOp .neq 3 (tm 83) (ci 0) 3) 4 80 false,
  oA 85 (.pick (tm 80) (.const (.bool true)) (tm 84)) 4]
def c3_26 : AC := .region o3_26 []
abbrev o3_29 : List AO := [oA 8 (.assign (.const (.bool true))) 4]
def c3_29 : AC := .region o3_29 []
def c3_30 : AC := .ret
def c3_28 : AC := .seq c3_29 c3_30
def c3_31 : AC := .skip
def c3_27 : AC := .cond (tm 85) c3_28 c3_31
def c3_25 : AC := .seq c3_26 c3_27
abbrev o3_33 : List AO := [oA 86 (.move (tm 1)) 22,
  oA 12 (.assign (tm 86)) 22]
def c3_33 : AC := .region o3_33 []
abbrev o3_36 : List AO := [oA 87 (.fieldAddr 38 (tm 10) 0) 0,
  oA 88 (.fieldAddr 26 (tm 87) 1) 0,
  oA 89 (.load 3 (tm 88)) 3,
  oA 90 (.binOp .eql 3 (tm 89) (ci 0) 3) 4]
def c3_36 : AC := .region o3_36 []
abbrev o3_38 : List AO := [oA 91 (.move (tm 2)) 22,
  oA 12 (.assign (tm 91)) 22]
def c3_38 : AC := .region o3_38 []
def c3_39 : AC := .skip
def c3_37 : AC := .cond (tm 90) c3_38 c3_39
def c3_35 : AC := .seq c3_36 c3_37
abbrev o3_41 : List AO := [oA 93 (.move (tm 12)) 22,
  oA 94 (cF 9 #[(tm 93)] #[22]) 34,
  oA 95 (.load 28 (tm 7)) 28,
  oA 96 (.fieldAddr 38 (tm 10) 2) 0,
  oA 97 (.load 3 (tm 96)) 3,
  oA 98 (cF 10 #[(tm 94), (tm 95), (tm 97)] #[34, 28, 3]) 40,
  oA 92 (.move (tm 98)) 40,
  oA 99 (.extract (tm 92) 0) 38,
  oA 100 (.extract (tm 92) 1) 39,
  oA 13 (.alloc 38) 0,
  oN (.store 38 (tm 13) (tm 99)) 0,
  oA 14 (.assign (tm 100)) 39]
def c3_41 : AC := .region o3_41 []
abbrev o3_43 : List AO := [oA 102 (.move (tm 9)) 22,
  oA 103 (cF 9 #[(tm 102)] #[22]) 34,
  oA 104 (.load 28 (tm 7)) 28,
  oA 105 (cF 10 #[(tm 103), (tm 104), (ci 3001)] #[34, 28, 3]) 40,
  oA 101 (.move (tm 105)) 40,
  oA 106 (.extract (tm 101) 0) 38,
  oA 107 (.extract (tm 101) 1) 39,
  oA 15 (.alloc 38) 0,
  oN (.store 38 (tm 15) (tm 106)) 0,
  oA 16 (.assign (tm 107)) 39]
def c3_43 : AC := .region o3_43 []
abbrev o3_46 : List AO := [oA 108 (.move (tm 14)) 39,
  oA 109 (.binOp .neq 39 (tm 108) (ci 0) 39) 4]
def c3_46 : AC := .region o3_46 []
abbrev o3_49 : List AO := [oA 110 (.move (tm 16)) 39,
  oA 111 (.binOp .neq 39 (tm 110) (ci 0) 39) 4,
  oA 112 (.move (tm 111)) 4,
  oG 113 (.move (tm 16)) 39 112 true,
  oG 114 (.move (tm 14)) 39 112 true,
  oG 115 (.binOp .eql 39 (tm 113) (tm 114) 39) 4 112 true,
  oG 116 (.move (tm 115)) 4 112 true,
  oG 117 (.move (tm 14)) 39 116 false,
  oG 118 (.binOp .eql 39 (tm 117) (ci 22) 39) 4 116 false,
  oG 119 (.pick (tm 116) (.const (.bool true)) (tm 118)) 4 112 true,
  oG 120 (.move (tm 119)) 4 112 true,
  oG 121 (.move (tm 16)) 39 120 false,
  oG 122 (.binOp .eql 39 (tm 121) (ci 22) 39) 4 120 false,
  oG 123 (.pick (tm 120) (.const (.bool true)) (tm 122)) 4 112 true,
  oA 124 (.pick (tm 112) (tm 123) (.const (.bool false))) 4,
  oA 8 (.assign (tm 124)) 4]
def c3_49 : AC := .region o3_49 []
def c3_50 : AC := .ret
def c3_48 : AC := .seq c3_49 c3_50
def c3_51 : AC := .skip
def c3_47 : AC := .cond (tm 109) c3_48 c3_51
def c3_45 : AC := .seq c3_46 c3_47
abbrev o3_54 : List AO := [oA 125 (.fieldAddr 38 (tm 10) 1) 0,
  oA 126 (.load 36 (tm 125)) 36,
  oA 127 (cB .len #[(tm 126)] #[36]) 3,
  oA 128 (.fieldAddr 38 (tm 13) 1) 0,
  oA 129 (.load 36 (tm 128)) 36,
  oA 130 (cB .len #[(tm 129)] #[36]) 3,
  oA 131 (.binOp .add 3 (tm 127) (tm 130) 3) 3,
  oA 132 (.binOp .gtr 3 (tm 131) (ci 64) 3) 4]
def c3_54 : AC := .region o3_54 []
abbrev o3_57 : List AO := [oA 133 (.move (tm 16)) 39,
  oA 134 (.binOp .eql 39 (tm 133) (ci 22) 39) 4,
  oA 8 (.assign (tm 134)) 4]
def c3_57 : AC := .region o3_57 []
def c3_58 : AC := .ret
def c3_56 : AC := .seq c3_57 c3_58
def c3_59 : AC := .skip
def c3_55 : AC := .cond (tm 132) c3_56 c3_59
def c3_53 : AC := .seq c3_54 c3_55
abbrev o3_61 : List AO := [oA 17 (.assign (.const (.slice none 0 0))) 36]
def c3_61 : AC := .region o3_61 []
abbrev o3_63 : List AO := [oA 135 (.move (tm 17)) 36,
  oA 136 (.fieldAddr 38 (tm 10) 1) 0,
  oA 137 (.load 36 (tm 136)) 36,
  oA 138 (cB .append #[(tm 135), (tm 137)] #[36, 36]) 36,
  oA 139 (.fieldAddr 38 (tm 13) 1) 0,
  oA 140 (.load 36 (tm 139)) 36,
  oA 141 (cB .append #[(tm 138), (tm 140)] #[36, 36]) 36,
  oA 17 (.assign (tm 141)) 36]
def c3_63 : AC := .region o3_63 [[], [], [], [], [], [135], [], []]
abbrev o3_65 : List AO := [oA 142 (.move (tm 16)) 39,
  oA 143 (.binOp .eql 39 (tm 142) (ci 0) 39) 4,
  oA 144 (.move (tm 143)) 4,
  oG 145 (.fieldAddr 38 (tm 15) 0) 0 144 true,
  oG 146 (.load 26 (tm 145)) 26 144 true,
  oG 147 (.fieldAddr 38 (tm 13) 0) 0 144 true,
  oG 148 (.load 26 (tm 147)) 26 144 true,
  oG 149 (.binOp .eql 26 (tm 146) (tm 148) 26) 4 144 true,
  oA 150 (.pick (tm 144) (tm 149) (.const (.bool false))) 4,
  oA 151 (.move (tm 150)) 4,
  oG 152 (.fieldAddr 38 (tm 15) 2) 0 151 true,
  oG 153 (.load 3 (tm 152)) 3 151 true,
  oG 154 (.fieldAddr 38 (tm 13) 2) 0 151 true,
  oG 155 (.load 3 (tm 154)) 3 151 true,
  oG 156 (.binOp .eql 3 (tm 153) (tm 155) 3) 4 151 true,
  oA 157 (.pick (tm 151) (tm 156) (.const (.bool false))) 4,
  oA 158 (.move (tm 157)) 4,
  oG 159 (.fieldAddr 38 (tm 15) 1) 0 158 true,
  oG 160 (.load 36 (tm 159)) 36 158 true,
  oG 161 (.move (tm 17)) 36 158 true,
  oG 162 (cF 11 #[(tm 160), (tm 161)] #[36, 36]) 4 158 true,
  oA 163 (.pick (tm 158) (tm 162) (.const (.bool false))) 4,
  oA 8 (.assign (tm 163)) 4]
def c3_65 : AC := .region o3_65 []
def c3_66 : AC := .ret
def c3_64 : AC := .seq c3_65 c3_66
def c3_62 : AC := .seq c3_63 c3_64
def c3_60 : AC := .seq c3_61 c3_62
def c3_52 : AC := .seq c3_53 c3_60
def c3_44 : AC := .seq c3_45 c3_52
def c3_42 : AC := .seq c3_43 c3_44
def c3_40 : AC := .seq c3_41 c3_42
def c3_34 : AC := .seq c3_35 c3_40
def c3_32 : AC := .seq c3_33 c3_34
def c3_24 : AC := .seq c3_25 c3_32
def c3_22 : AC := .seq c3_23 c3_24
def c3_14 : AC := .seq c3_15 c3_22
def c3_12 : AC := .seq c3_13 c3_14
def c3_10 : AC := .seq c3_11 c3_12
def c3_2 : AC := .seq c3_3 c3_10
def c3_0 : AC := .seq c3_1 c3_2
theorem r3_0 : SeqR Cx 3 c3_0 c3_1 c3_2 ∧ RegR Cx 3 c3_1 o3_1 ∧ SeqR Cx 3 c3_2 c3_3 c3_10 ∧ SeqR Cx 3 c3_3 c3_4 c3_5 ∧ RegR Cx 3 c3_4 o3_4 ∧ CondR Cx 3 c3_5 (tm 37) c3_6 c3_9 ∧ SeqR Cx 3 c3_6 c3_7 c3_8 ∧ RegR Cx 3 c3_7 o3_7 := ⟨run_seq, run_region, run_seq, run_seq, run_region, run_condC, run_seq, run_region⟩
theorem r3_1 : RetR Cx 3 c3_8 ∧ SkipR Cx 3 c3_9 ∧ SeqR Cx 3 c3_10 c3_11 c3_12 ∧ RegR Cx 3 c3_11 o3_11 ∧ SeqR Cx 3 c3_12 c3_13 c3_14 ∧ RegR Cx 3 c3_13 o3_13 ∧ SeqR Cx 3 c3_14 c3_15 c3_22 ∧ SeqR Cx 3 c3_15 c3_16 c3_17 := ⟨run_ret, run_skip, run_seq, run_region, run_seq, run_region, run_seq, run_seq⟩
theorem r3_2 : RegR Cx 3 c3_16 o3_16 ∧ CondR Cx 3 c3_17 (tm 70) c3_18 c3_21 ∧ SeqR Cx 3 c3_18 c3_19 c3_20 ∧ RegR Cx 3 c3_19 o3_19 ∧ RetR Cx 3 c3_20 ∧ SkipR Cx 3 c3_21 ∧ SeqR Cx 3 c3_22 c3_23 c3_24 ∧ RegR Cx 3 c3_23 o3_23 := ⟨run_region, run_condC, run_seq, run_region, run_ret, run_skip, run_seq, run_region⟩
theorem r3_3 : SeqR Cx 3 c3_24 c3_25 c3_32 ∧ SeqR Cx 3 c3_25 c3_26 c3_27 ∧ RegR Cx 3 c3_26 o3_26 ∧ CondR Cx 3 c3_27 (tm 85) c3_28 c3_31 ∧ SeqR Cx 3 c3_28 c3_29 c3_30 ∧ RegR Cx 3 c3_29 o3_29 ∧ RetR Cx 3 c3_30 ∧ SkipR Cx 3 c3_31 := ⟨run_seq, run_seq, run_region, run_condC, run_seq, run_region, run_ret, run_skip⟩
theorem r3_4 : SeqR Cx 3 c3_32 c3_33 c3_34 ∧ RegR Cx 3 c3_33 o3_33 ∧ SeqR Cx 3 c3_34 c3_35 c3_40 ∧ SeqR Cx 3 c3_35 c3_36 c3_37 ∧ RegR Cx 3 c3_36 o3_36 ∧ CondR Cx 3 c3_37 (tm 90) c3_38 c3_39 ∧ RegR Cx 3 c3_38 o3_38 ∧ SkipR Cx 3 c3_39 := ⟨run_seq, run_region, run_seq, run_seq, run_region, run_condC, run_region, run_skip⟩
theorem r3_5 : SeqR Cx 3 c3_40 c3_41 c3_42 ∧ RegR Cx 3 c3_41 o3_41 ∧ SeqR Cx 3 c3_42 c3_43 c3_44 ∧ RegR Cx 3 c3_43 o3_43 ∧ SeqR Cx 3 c3_44 c3_45 c3_52 ∧ SeqR Cx 3 c3_45 c3_46 c3_47 ∧ RegR Cx 3 c3_46 o3_46 ∧ CondR Cx 3 c3_47 (tm 109) c3_48 c3_51 := ⟨run_seq, run_region, run_seq, run_region, run_seq, run_seq, run_region, run_condC⟩
theorem r3_6 : SeqR Cx 3 c3_48 c3_49 c3_50 ∧ RegR Cx 3 c3_49 o3_49 ∧ RetR Cx 3 c3_50 ∧ SkipR Cx 3 c3_51 ∧ SeqR Cx 3 c3_52 c3_53 c3_60 ∧ SeqR Cx 3 c3_53 c3_54 c3_55 ∧ RegR Cx 3 c3_54 o3_54 ∧ CondR Cx 3 c3_55 (tm 132) c3_56 c3_59 := ⟨run_seq, run_region, run_ret, run_skip, run_seq, run_seq, run_region, run_condC⟩
theorem r3_7 : SeqR Cx 3 c3_56 c3_57 c3_58 ∧ RegR Cx 3 c3_57 o3_57 ∧ RetR Cx 3 c3_58 ∧ SkipR Cx 3 c3_59 ∧ SeqR Cx 3 c3_60 c3_61 c3_62 ∧ RegR Cx 3 c3_61 o3_61 ∧ SeqR Cx 3 c3_62 c3_63 c3_64 ∧ RegD Cx 3 c3_63 o3_63 [[], [], [], [], [], [135], [], []] := ⟨run_seq, run_region, run_ret, run_skip, run_seq, run_region, run_seq, run_regionD⟩
theorem r3_8 : SeqR Cx 3 c3_64 c3_65 c3_66 ∧ RegR Cx 3 c3_65 o3_65 ∧ RetR Cx 3 c3_66 := ⟨run_seq, run_region, run_ret⟩
theorem body3 : bodyOf Cx 3 = some c3_0 := by kernel_rfl
theorem res3 : resOf Cx 3 = some [.tmp 8] := by kernel_rfl
abbrev o4_1 : List AO := [oA 4 (.box 28 (tm 1)) 0,
  oA 6 (.assign (.const (.bool false))) 4]
def c4_1 : AC := .region o4_1 []
abbrev o4_4 : List AO := [oA 20 (cF 6 #[] #[]) 4,
  oA 21 (.unOp .not 4 (tm 20)) 4,
  oA 22 (.move (tm 21)) 4,
  oG 23 (.move (tm 0)) 22 22 false,
  oG 24 (.load 28 (tm 4)) 28 22 false,
  oG 25 (cF 7 #[(tm 23), (tm 24)] #[22, 28]) 3 22 false,
  oG 26 (.binOp .eql 3 (tm 25) (ci 0) 3) 4 22 false,
  oA 27 (.pick (tm 22) (.const (.bool true)) (tm 26)) 4]
def c4_4 : AC := .region o4_4 []
abbrev o4_7 : List AO := [oA 28 (cF 6 #[] #[]) 4,
  oA 6 (.assign (tm 28)) 4]
def c4_7 : AC := .region o4_7 []
def c4_8 : AC := .ret
def c4_6 : AC := .seq c4_7 c4_8
def c4_9 : AC := .skip
def c4_5 : AC := .cond (tm 27) c4_6 c4_9
def c4_3 : AC := .seq c4_4 c4_5
abbrev o4_11 : List AO := [oA 29 (.move (tm 0)) 22,
  oA 30 (cF 9 #[(tm 29)] #[22]) 34,
  oA 7 (.assign (tm 30)) 34]
def c4_11 : AC := .region o4_11 []
abbrev o4_13 : List AO := [oA 32 (.move (tm 7)) 34,
  oA 33 (.load 28 (tm 4)) 28,
  oA 34 (cF 10 #[(tm 32), (tm 33), (ci 3000)] #[34, 28, 3]) 40,
  oA 31 (.move (tm 34)) 40,
  oA 35 (.extract (tm 31) 0) 38,
  oA 36 (.extract (tm 31) 1) 39,
  oA 8 (.alloc 38) 0,
  oN (.store 38 (tm 8) (tm 35)) 0,
  oA 9 (.assign (tm 36)) 39]
def c4_13 : AC := .region o4_13 []
abbrev o4_16 : List AO := [oA 37 (.move (tm 9)) 39,
  oA 38 (.binOp .neq 39 (tm 37) (ci 0) 39) 4]
def c4_16 : AC := .region o4_16 []
abbrev o4_19 : List AO := [oA 40 (.move (tm 7)) 34,
  oA 41 (.load 28 (tm 4)) 28,
  oA 42 (.move (tm 2)) 44,
  oA 43 (.convert 44 3 (tm 42)) 3,
  oA 44 (.binOp .add 3 (ci 3000) (tm 43) 3) 3,
  oA 45 (cF 10 #[(tm 40), (tm 41), (tm 44)] #[34, 28, 3]) 40,
  oA 39 (.move (tm 45)) 40,
  oA 46 (.extract (tm 39) 0) 38,
  oA 47 (.extract (tm 39) 1) 39,
  oA 10 (.alloc 38) 0,
  oN (.store 38 (tm 10) (tm 46)) 0,
  oA 11 (.assign (tm 47)) 39]
def c4_19 : AC := .region o4_19 []
abbrev o4_21 : List AO := [oA 48 (.move (tm 9)) 39,
  oA 49 (.binOp .eql 39 (tm 48) (ci 15) 39) 4,
  oA 50 (.move (tm 49)) 4,
  oG 51 (.move (tm 9)) 39 50 false,
  oG 52 (.move (tm 11)) 39 50 false,
  oG 53 (.binOp .eql 39 (tm 51) (tm 52) 39) 4 50 false,
  oG 54 (.move (tm 53)) 4 50 false,
  oG 55 (.fieldAddr 38 (tm 10) 1) 0 54 true,
  oG 56 (.load 36 (tm 55)) 36 54 true,
  oG 57 (cB .len #[(tm 56)] #[36]) 3 54 true,
  oG 58 (.binOp .eql 3 (tm 57) (ci 0) 3) 4 54 true,
  oG 59 (.pick (tm 54) (tm 58) (.const (.bool false))) 4 50 false,
  oA 60 (.pick (tm 50) (.const (.bool true)) (tm 59)) 4,
  oA 6 (.assign (tm 60)) 4]
def c4_21 : AC := .region o4_21 []
def c4_22 : AC := .ret
def c4_20 : AC := .seq c4_21 c4_22
def c4_18 : AC := .seq c4_19 c4_20
def c4_23 : AC := .skip
def c4_17 : AC := .cond (tm 38) c4_18 c4_23
def c4_15 : AC := .seq c4_16 c4_17
abbrev o4_25 : List AO := [oA 62 (.move (tm 7)) 34,
  oA 63 (.load 28 (tm 4)) 28,
  oA 64 (cF 12 #[(tm 62), (tm 63)] #[34, 28]) 45,
  oA 61 (.move (tm 64)) 45,
  oA 65 (.extract (tm 61) 0) 3,
  oA 66 (.extract (tm 61) 1) 39,
  oA 12 (.assign (tm 65)) 3,
  oA 13 (.assign (tm 66)) 39]
def c4_25 : AC := .region o4_25 []
abbrev o4_27 : List AO := [oA 68 (.move (tm 7)) 34,
  oA 69 (.load 28 (tm 4)) 28,
  oA 70 (.move (tm 12)) 3,
  oA 71 (.move (tm 2)) 44,
  oA 72 (.binOp .rem 44 (tm 71) (.const (.int .u16 10000)) 44) 44,
  oA 73 (.convert 44 3 (tm 72)) 3,
  oA 74 (.binOp .add 3 (tm 70) (tm 73) 3) 3,
  oA 75 (cF 10 #[(tm 68), (tm 69), (tm 74)] #[34, 28, 3]) 40,
  oA 67 (.move (tm 75)) 40,
  oA 76 (.extract (tm 67) 0) 38,
  oA 77 (.extract (tm 67) 1) 39,
  oA 14 (.alloc 38) 0,
  oN (.store 38 (tm 14) (tm 76)) 0,
  oA 15 (.assign (tm 77)) 39]
def c4_27 : AC := .region o4_27 []
abbrev o4_29 : List AO := [oA 79 (.move (tm 7)) 34,
  oA 80 (.load 28 (tm 4)) 28,
  oA 81 (.move (tm 12)) 3,
  oA 82 (cF 10 #[(tm 79), (tm 80), (tm 81)] #[34, 28, 3]) 40,
  oA 78 (.move (tm 82)) 40,
  oA 83 (.extract (tm 78) 0) 38,
  oA 84 (.extract (tm 78) 1) 39,
  oA 16 (.alloc 38) 0,
  oN (.store 38 (tm 16) (tm 83)) 0,
  oA 17 (.assign (tm 84)) 39]
def c4_29 : AC := .region o4_29 []
abbrev o4_31 : List AO := [oA 86 (.move (tm 7)) 34,
  oA 87 (.load 28 (tm 4)) 28,
  oA 88 (.move (tm 12)) 3,
  oA 89 (.binOp .sub 3 (tm 88) (ci 1) 3) 3,
  oA 90 (cF 10 #[(tm 86), (tm 87), (tm 89)] #[34, 28, 3]) 40,
  oA 85 (.move (tm 90)) 40,
  oA 91 (.extract (tm 85) 0) 38,
  oA 92 (.extract (tm 85) 1) 39,
  oA 18 (.alloc 38) 0,
  oN (.store 38 (tm 18) (tm 91)) 0,
  oA 19 (.assign (tm 92)) 39]
def c4_31 : AC := .region o4_31 []
abbrev o4_33 : List AO := [oA 93 (.move (tm 13)) 39,
  oA 94 (.binOp .eql 39 (tm 93) (ci 0) 39) 4,
  oA 95 (.move (tm 94)) 4,
  oG 96 (.move (tm 12)) 3 95 true,
  oG 97 (.fieldAddr 38 (tm 8) 2) 0 95 true,
  oG 98 (.load 3 (tm 97)) 3 95 true,
  oG 99 (.binOp .sub 3 (ci 3000) (tm 98) 3) 3 95 true,
  oG 100 (.binOp .eql 3 (tm 96) (tm 99) 3) 4 95 true,
  oA 101 (.pick (tm 95) (tm 100) (.const (.bool false))) 4,
  oA 102 (.move (tm 101)) 4,
  oG 103 (.move (tm 12)) 3 102 true,
  oG 104 (.binOp .gtr 3 (tm 103) (ci 0) 3) 4 102 true,
  oA 105 (.pick (tm 102) (tm 104) (.const (.bool false))) 4,
  oA 106 (.move (tm 105)) 4,
  oG 107 (.move (tm 15)) 39 106 true,
  oG 108 (.binOp .eql 39 (tm 107) (ci 0) 39) 4 106 true,
  oA 109 (.pick (tm 106) (tm 108) (.const (.bool false))) 4,
  oA 110 (.move (tm 109)) 4,
  oG 111 (.move (tm 17)) 39 110 true,
  oG 112 (.binOp .eql 39 (tm 111) (ci 0) 39) 4 110 true,
  oA 113 (.pick (tm 110) (tm 112) (.const (.bool false))) 4,
  oA 114 (.move (tm 113)) 4,
  oG 115 (.move (tm 19)) 39 114 true,
  oG 116 (.binOp .eql 39 (tm 115) (ci 15) 39) 4 114 true,
  oA 117 (.pick (tm 114) (tm 116) (.const (.bool false))) 4,
  oA 118 (.move (tm 117)) 4,
  oG 119 (.fieldAddr 38 (tm 14) 0) 0 118 true,
  oG 120 (.load 26 (tm 119)) 26 118 true,
  oG 121 (.fieldAddr 38 (tm 8) 0) 0 118 true,
  oG 122 (.load 26 (tm 121)) 26 118 true,
  oG 123 (.binOp .eql 26 (tm 120) (tm 122) 26) 4 118 true,
  oA 124 (.pick (tm 118) (tm 123) (.const (.bool false))) 4,
  oA 125 (.move (tm 124)) 4,
  oG 126 (.fieldAddr 38 (tm 16) 0) 0 125 true,
  oG 127 (.load 26 (tm 126)) 26 125 true,
  oG 128 (.fieldAddr 38 (tm 8) 0) 0 125 true,
  oG 129 (.load 26 (tm 128)) 26 125 true,
  oG 130 (.binOp .eql 26 (tm 127) (tm 129) 26) 4 125 true,
  oA 131 (.pick (tm 125) (tm 130) (.const (.bool false))) 4,
  oA 132 (.move (tm 131)) 4,
  oG 133 (.fieldAddr 38 (tm 8) 1) 0 132 true,
  oG 134 (.load 36 (tm 133)) 36 132 true,
  oG 135 (.fieldAddr 38 (tm 14) 1) 0 132 true,
  oG 136 (.load 36 (tm 135)) 36 132 true,
  oG 137 (cF 11 #[(tm 134), (tm 136)] #[36, 36]) 4 132 true,
  oA 138 (.pick (tm 132) (tm 137) (.const (.bool false))) 4,
  oA 139 (.move (tm 138)) 4,
  oG 140 (.fieldAddr 38 (tm 8) 1) 0 139 true,
  oG 141 (.load 36 (tm 140)) 36 139 true,
  oG 142 (.fieldAddr 38 (tm 16) 1) 0 139 true,
  oG 143 (.load 36 (tm 142)) 36 139 true,
  oG 144 (cF 11 #[(tm 141), (tm 143)] #[36, 36]) 4 139 true,
  oA 145 (.pick (tm 139) (tm 144) (.const (.bool false))) 4,
  oA 146 (.move (tm 145)) 4,
  oG 147 (.fieldAddr 38 (tm 14) 2) 0 146 true,
  oG 148 (.load 3 (tm 147)) 3 146 true,
  oG 149 (.move (tm 2)) 44 146 true,
  oG 150 (.binOp .rem 44 (tm 149) (.const (.int .u16 10000)) 44) 44 146 true,
  oG 151 (.convert 44 3 (tm 150)) 3 146 true,
  oG 152 (.binOp .eql 3 (tm 148) (tm 151) 3) 4 146 true,
  oA 153 (.pick (tm 146) (tm 152) (.const (.bool false))) 4,
  oA 154 (.move (tm 153)) 4,
  oG 155 (.fieldAddr 38 (tm 16) 2) 0 154 true,
  oG 156 (.load 3 (tm 155)) 3 154 true,
  oG 157 (.binOp .eql 3 (tm 156) (ci 0) 3) 4 154 true,
  oA 158 (.pick (tm 154) (tm 157) (.const (.bool false))) 4,
  oA 6 (.assign (tm 158)) 4]
def c4_33 : AC := .region o4_33 []
def c4_34 : AC := .ret
def c4_32 : AC := .seq c4_33 c4_34
def c4_30 : AC := .seq c4_31 c4_32
def c4_28 : AC := .seq c4_29 c4_30
def c4_26 : AC := .seq c4_27 c4_28
def c4_24 : AC := .seq c4_25 c4_26
def c4_14 : AC := .seq c4_15 c4_24
def c4_12 : AC := .seq c4_13 c4_14
def c4_10 : AC := .seq c4_11 c4_12
def c4_2 : AC := .seq c4_3 c4_10
def c4_0 : AC := .seq c4_1 c4_2
theorem r4_0 : SeqR Cx 4 c4_0 c4_1 c4_2 ∧ RegR Cx 4 c4_1 o4_1 ∧ SeqR Cx 4 c4_2 c4_3 c4_10 ∧ SeqR Cx 4 c4_3 c4_4 c4_5 ∧ RegR Cx 4 c4_4 o4_4 ∧ CondR Cx 4 c4_5 (tm 27) c4_6 c4_9 ∧ SeqR Cx 4 c4_6 c4_7 c4_8 ∧ RegR Cx 4 c4_7 o4_7 := ⟨run_seq, run_region, run_seq, run_seq, run_region, run_condC, run_seq, run_region⟩
theorem r4_1 : RetR Cx 4 c4_8 ∧ SkipR Cx 4 c4_9 ∧ SeqR Cx 4 c4_10 c4_11 c4_12 ∧ RegR Cx 4 c4_11 o4_11 ∧ SeqR Cx 4 c4_12 c4_13 c4_14 ∧ RegR Cx 4 c4_13 o4_13 ∧ SeqR Cx 4 c4_14 c4_15 c4_24 ∧ SeqR Cx 4 c4_15 c4_16 c4_17 := ⟨run_ret, run_skip, run_seq, run_region, run_seq, run_region, run_seq, run_seq⟩
theorem r4_2 : RegR Cx 4 c4_16 o4_16 ∧ CondR Cx 4 c4_17 (tm 38) c4_18 c4_23 ∧ SeqR Cx 4 c4_18 c4_19 c4_20 ∧ RegR Cx 4 c4_19 o4_19 ∧ SeqR Cx 4 c4_20 c4_21 c4_22 ∧ RegR Cx 4 c4_21 o4_21 ∧ RetR Cx 4 c4_22 ∧ SkipR Cx 4 c4_23 := ⟨run_region, run_condC, run_seq, run_region, run_seq, run_region, run_ret, run_skip⟩
theorem r4_3 : SeqR Cx 4 c4_24 c4_25 c4_26 ∧ RegR Cx 4 c4_25 o4_25 ∧ SeqR Cx 4 c4_26 c4_27 c4_28 ∧ RegR Cx 4 c4_27 o4_27 ∧ SeqR Cx 4 c4_28 c4_29 c4_30 ∧ RegR Cx 4 c4_29 o4_29 ∧ SeqR Cx 4 c4_30 c4_31 c4_32 ∧ RegR Cx 4 c4_31 o4_31 := ⟨run_seq, run_region, run_seq, run_region, run_seq, run_region, run_seq, run_region⟩
theorem r4_4 : SeqR Cx 4 c4_32 c4_33 c4_34 ∧ RegR Cx 4 c4_33 o4_33 ∧ RetR Cx 4 c4_34 := ⟨run_seq, run_region, run_ret⟩
abbrev o5_1 : List AO := [oA 5 (.box 28 (tm 1)) 0,
  oA 6 (.box 28 (tm 2)) 0,
  oA 8 (.assign (.const (.bool false))) 4]
def c5_1 : AC := .region o5_1 []
abbrev o5_4 : List AO := [oA 15 (cF 6 #[] #[]) 4,
  oA 16 (.unOp .not 4 (tm 15)) 4,
  oA 17 (.move (tm 16)) 4,
  oG 18 (.move (tm 0)) 22 17 false,
  oG 19 (.load 28 (tm 5)) 28 17 false,
  oG 20 (cF 7 #[(tm 18), (tm 19)] #[22, 28]) 3 17 false,
  oG 21 (.binOp .eql 3 (tm 20) (ci 0) 3) 4 17 false,
  oA 22 (.pick (tm 17) (.const (.bool true)) (tm 21)) 4,
  oA 23 (.move (tm 22)) 4,
  oG 24 (.move (tm 0)) 22 23 false,
  oG 25 (.load 28 (tm 6)) 28 23 false,
  oG 26 (cF 7 #[(tm 24), (tm 25)] #[22, 28]) 3 23 false,
  oG 27 (.binOp .eql 3 (tm 26) (ci 0) 3) 4 23 false,
  oA 28 (.pick (tm 23) (.const (.bool true)) (tm 27)) 4]
def c5_4 : AC := .region o5_4 []
abbrev o5_7 : List AO := [oA 29 (cF 6 #[] #[]) 4,
  oA 8 (.assign (tm 29)) 4]
def c5_7 : AC := .region o5_7 []
def c5_8 : AC := .ret
def c5_6 : AC := .seq c5_7 c5_8
def c5_9 : AC := .skip
def c5_5 : AC := .cond (tm 28) c5_6 c5_9
def c5_3 : AC := .seq c5_4 c5_5
abbrev o5_11 : List AO := [oA 30 (.move (tm 0)) 22,
  oA 31 (cF 9 #[(tm 30)] #[22]) 34,
  oA 9 (.assign (tm 31)) 34]
def c5_11 : AC := .region o5_11 []
abbrev o5_13 : List AO := [oA 32 (.move (tm 9)) 34,
  oA 33 (cF 13 #[(tm 32)] #[34]) 48,
  oA 10 (.alloc 48) 0,
  oN (.store 48 (tm 10) (tm 33)) 0]
def c5_13 : AC := .region o5_13 []
abbrev o5_16 : List AO := [oA 34 (.indexAddr 48 (tm 10) (ci 0)) 0,
  oA 35 (.load 4 (tm 34)) 4]
def c5_16 : AC := .region o5_16 []
abbrev o5_18 : List AO := [oA 36 (.fieldAddr 28 (tm 5) 0) 0,
  oA 37 (.load 9 (tm 36)) 9,
  oA 38 (.fieldAddr 28 (tm 6) 0) 0,
  oN (.store 9 (tm 38) (tm 37)) 0]
def c5_18 : AC := .region o5_18 []
def c5_19 : AC := .skip
def c5_17 : AC := .cond (tm 35) c5_18 c5_19
def c5_15 : AC := .seq c5_16 c5_17
abbrev o5_22 : List AO := [oA 39 (.indexAddr 48 (tm 10) (ci 1)) 0,
  oA 40 (.load 4 (tm 39)) 4]
def c5_22 : AC := .region o5_22 []
abbrev o5_24 : List AO := [oA 41 (.fieldAddr 28 (tm 5) 1) 0,
  oA 42 (.load 26 (tm 41)) 26,
  oA 43 (.fieldAddr 28 (tm 6) 1) 0,
  oN (.store 26 (tm 43) (tm 42)) 0]
def c5_24 : AC := .region o5_24 []
def c5_25 : AC := .skip
def c5_23 : AC := .cond (tm 40) c5_24 c5_25
def c5_21 : AC := .seq c5_22 c5_23
abbrev o5_28 : List AO := [oA 44 (.indexAddr 48 (tm 10) (ci 2)) 0,
  oA 45 (.load 4 (tm 44)) 4]
def c5_28 : AC := .region o5_28 []
abbrev o5_30 : List AO := [oA 46 (.fieldAddr 28 (tm 5) 2) 0,
  oA 47 (.load 26 (tm 46)) 26,
  oA 48 (.fieldAddr 28 (tm 6) 2) 0,
  oN (.store 26 (tm 48) (tm 47)) 0]
def c5_30 : AC := .region o5_30 []
def c5_31 : AC := .skip
def c5_29 : AC := .cond (tm 45) c5_30 c5_31
def c5_27 : AC := .seq c5_28 c5_29
abbrev o5_33 : List AO := [oA 50 (.move (tm 9)) 34,
  oA 51 (.load 28 (tm 5)) 28,
  oA 52 (.move (tm 3)) 44,
  oA 53 (.convert 44 3 (tm 52)) 3,
  oA 54 (.binOp .rem 3 (tm 53) (ci 3000) 3) 3,
  oA 55 (cF 10 #[(tm 50), (tm 51), (tm 54)] #[34, 28, 3]) 40,
  oA 49 (.move (tm 55)) 40,
  oA 56 (.extract (tm 49) 0) 38,
  oA 57 (.extract (tm 49) 1) 39,
  oA 11 (.alloc 38) 0,
  oN (.store 38 (tm 11) (tm 56)) 0,
  oA 12 (.assign (tm 57)) 39]
def c5_33 : AC := .region o5_33 []
abbrev o5_35 : List AO := [oA 59 (.move (tm 9)) 34,
  oA 60 (.load 28 (tm 6)) 28,
  oA 61 (.move (tm 3)) 44,
  oA 62 (.convert 44 3 (tm 61)) 3,
  oA 63 (.binOp .rem 3 (tm 62) (ci 3000) 3) 3,
  oA 64 (cF 10 #[(tm 59), (tm 60), (tm 63)] #[34, 28, 3]) 40,
  oA 58 (.move (tm 64)) 40,
  oA 65 (.extract (tm 58) 0) 38,
  oA 66 (.extract (tm 58) 1) 39,
  oA 13 (.alloc 38) 0,
  oN (.store 38 (tm 13) (tm 65)) 0,
  oA 14 (.assign (tm 66)) 39]
def c5_35 : AC := .region o5_35 []
abbrev o5_38 : List AO := [oA 67 (.move (tm 12)) 39,
  oA 68 (.binOp .eql 39 (tm 67) (ci 1) 39) 4,
  oA 69 (.move (tm 68)) 4,
  oG 70 (.move (tm 14)) 39 69 false,
  oG 71 (.binOp .eql 39 (tm 70) (ci 1) 39) 4 69 false,
  oA 72 (.pick (tm 69) (.const (.bool true)) (tm 71)) 4]
def c5_38 : AC := .region o5_38 []
abbrev o5_41 : List AO := [oA 8 (.assign (.const (.bool true))) 4]
def c5_41 : AC := .region o5_41 []
def c5_42 : AC := .ret
def c5_40 : AC := .seq c5_41 c5_42
def c5_43 : AC := .skip
def c5_39 : AC := .cond (tm 72) c5_40 c5_43
def c5_37 : AC := .seq c5_38 c5_39
abbrev o5_45 : List AO := [oA 73 (.move (tm 12)) 39,
  oA 74 (.move (tm 14)) 39,
  oA 75 (.binOp .eql 39 (tm 73) (tm 74) 39) 4,
  oA 76 (.move (tm 75)) 4,
  oG 77 (.fieldAddr 38 (tm 11) 0) 0 76 true,
  oG 78 (.load 26 (tm 77)) 26 76 true,
  oG 79 (.fieldAddr 38 (tm 13) 0) 0 76 true,
  oG 80 (.load 26 (tm 79)) 26 76 true,
  oG 81 (.binOp .eql 26 (tm 78) (tm 80) 26) 4 76 true,
  oA 82 (.pick (tm 76) (tm 81) (.const (.bool false))) 4,
  oA 83 (.move (tm 82)) 4,
  oG 84 (.fieldAddr 38 (tm 11) 2) 0 83 true,
  oG 85 (.load 3 (tm 84)) 3 83 true,
  oG 86 (.fieldAddr 38 (tm 13) 2) 0 83 true,
  oG 87 (.load 3 (tm 86)) 3 83 true,
  oG 88 (.binOp .eql 3 (tm 85) (tm 87) 3) 4 83 true,
  oA 89 (.pick (tm 83) (tm 88) (.const (.bool false))) 4,
  oA 90 (.move (tm 89)) 4,
  oG 91 (.fieldAddr 38 (tm 11) 1) 0 90 true,
  oG 92 (.load 36 (tm 91)) 36 90 true,
  oG 93 (.fieldAddr 38 (tm 13) 1) 0 90 true,
  oG 94 (.load 36 (tm 93)) 36 90 true,
  oG 95 (cF 11 #[(tm 92), (tm 94)] #[36, 36]) 4 90 true,
  oA 96 (.pick (tm 90) (tm 95) (.const (.bool false))) 4,
  oA 8 (.assign (tm 96)) 4]
def c5_45 : AC := .region o5_45 []
def c5_46 : AC := .ret
def c5_44 : AC := .seq c5_45 c5_46
def c5_36 : AC := .seq c5_37 c5_44
def c5_34 : AC := .seq c5_35 c5_36
def c5_32 : AC := .seq c5_33 c5_34
def c5_26 : AC := .seq c5_27 c5_32
def c5_20 : AC := .seq c5_21 c5_26
def c5_14 : AC := .seq c5_15 c5_20
def c5_12 : AC := .seq c5_13 c5_14
def c5_10 : AC := .seq c5_11 c5_12
def c5_2 : AC := .seq c5_3 c5_10
def c5_0 : AC := .seq c5_1 c5_2
theorem r5_0 : SeqR Cx 5 c5_0 c5_1 c5_2 ∧ RegR Cx 5 c5_1 o5_1 ∧ SeqR Cx 5 c5_2 c5_3 c5_10 ∧ SeqR Cx 5 c5_3 c5_4 c5_5 ∧ RegR Cx 5 c5_4 o5_4 ∧ CondR Cx 5 c5_5 (tm 28) c5_6 c5_9 ∧ SeqR Cx 5 c5_6 c5_7 c5_8 ∧ RegR Cx 5 c5_7 o5_7 := ⟨run_seq, run_region, run_seq, run_seq, run_region, run_condC, run_seq, run_region⟩
theorem r5_1 : RetR Cx 5 c5_8 ∧ SkipR Cx 5 c5_9 ∧ SeqR Cx 5 c5_10 c5_11 c5_12 ∧ RegR Cx 5 c5_11 o5_11 ∧ SeqR Cx 5 c5_12 c5_13 c5_14 ∧ RegR Cx 5 c5_13 o5_13 ∧ SeqR Cx 5 c5_14 c5_15 c5_20 ∧ SeqR Cx 5 c5_15 c5_16 c5_17 := ⟨run_ret, run_skip, run_seq, run_region, run_seq, run_region, run_seq, run_seq⟩
theorem r5_2 : RegR Cx 5 c5_16 o5_16 ∧ CondR Cx 5 c5_17 (tm 35) c5_18 c5_19 ∧ RegR Cx 5 c5_18 o5_18 ∧ SkipR Cx 5 c5_19 ∧ SeqR Cx 5 c5_20 c5_21 c5_26 ∧ SeqR Cx 5 c5_21 c5_22 c5_23 ∧ RegR Cx 5 c5_22 o5_22 ∧ CondR Cx 5 c5_23 (tm 40) c5_24 c5_25 := ⟨run_region, run_condC, run_region, run_skip, run_seq, run_seq, run_region, run_condC⟩
theorem r5_3 : RegR Cx 5 c5_24 o5_24 ∧ SkipR Cx 5 c5_25 ∧ SeqR Cx 5 c5_26 c5_27 c5_32 ∧ SeqR Cx 5 c5_27 c5_28 c5_29 ∧ RegR Cx 5 c5_28 o5_28 ∧ CondR Cx 5 c5_29 (tm 45) c5_30 c5_31 ∧ RegR Cx 5 c5_30 o5_30 ∧ SkipR Cx 5 c5_31 := ⟨run_region, run_skip, run_seq, run_seq, run_region, run_condC, run_region, run_skip⟩
theorem r5_4 : SeqR Cx 5 c5_32 c5_33 c5_34 ∧ RegR Cx 5 c5_33 o5_33 ∧ SeqR Cx 5 c5_34 c5_35 c5_36 ∧ RegR Cx 5 c5_35 o5_35 ∧ SeqR Cx 5 c5_36 c5_37 c5_44 ∧ SeqR Cx 5 c5_37 c5_38 c5_39 ∧ RegR Cx 5 c5_38 o5_38 ∧ CondR Cx 5 c5_39 (tm 72) c5_40 c5_43 := ⟨run_seq, run_region, run_seq, run_region, run_seq, run_seq, run_region, run_condC⟩
theorem r5_5 : SeqR Cx 5 c5_40 c5_41 c5_42 ∧ RegR Cx 5 c5_41 o5_41 ∧ RetR Cx 5 c5_42 ∧ SkipR Cx 5 c5_43 ∧ SeqR Cx 5 c5_44 c5_45 c5_46 ∧ RegR Cx 5 c5_45 o5_45 ∧ RetR Cx 5 c5_46 := ⟨run_seq, run_region, run_ret, run_skip, run_seq, run_region, run_ret⟩
abbrev o6_1 : List AO := [oA 0 (.assign (.const (.bool false))) 4]
def c6_1 : AC := .region o6_1 []
abbrev o6_3 : List AO := [oA 7 (cF 14 #[(.const (.string ⟨#[40, 101, 97, 99, 104, 32, 51, 32, 40, 101, 109, 105, 116, 32, 40, 116, 101, 120, 116, 32, 105, 41, 32, 118, 97, 108, 41, 41]⟩))] #[9]) 51,
  oA 6 (.move (tm 7)) 51,
  oA 8 (.extract (tm 6) 0) 34,
  oA 9 (.extract (tm 6) 1) 3,
  oA 10 (.extract (tm 6) 2) 39,
  oA 1 (.assign (tm 8)) 34,
  oA 2 (.assign (tm 9)) 3,
  oA 3 (.assign (tm 10)) 39]
def c6_3 : AC := .region o6_3 []
abbrev o6_5 : List AO := [oA 12 (.move (tm 1)) 34,
  oA 13 (.build 26 #[(1, (ci 7))]) 26,
  oA 14 (.build 28 #[(1, (tm 13))]) 28,
  oA 15 (cF 10 #[(tm 12), (tm 14), (ci 100)] #[34, 28, 3]) 40,
  oA 11 (.move (tm 15)) 40,
  oA 16 (.extract (tm 11) 0) 38,
  oA 17 (.extract (tm 11) 1) 39,
  oA 4 (.alloc 38) 0,
  oN (.store 38 (tm 4) (tm 16)) 0,
  oA 5 (.assign (tm 17)) 39]
def c6_5 : AC := .region o6_5 []
abbrev o6_7 : List AO := [oA 18 (.move (tm 3)) 39,
  oA 19 (.binOp .eql 39 (tm 18) (ci 0) 39) 4,
  oA 20 (.move (tm 19)) 4,
  oG 21 (.move (tm 5)) 39 20 true,
  oG 22 (.binOp .eql 39 (tm 21) (ci 0) 39) 4 20 true,
  oA 23 (.pick (tm 20) (tm 22) (.const (.bool false))) 4,
  oA 24 (.move (tm 23)) 4,
  oG 25 (.fieldAddr 38 (tm 4) 1) 0 24 true,
  oG 26 (.load 36 (tm 25)) 36 24 true,
  oG 27 (cB .len #[(tm 26)] #[36]) 3 24 true,
  oG 28 (.binOp .eql 3 (tm 27) (ci 3) 3) 4 24 true,
  oA 29 (.pick (tm 24) (tm 28) (.const (.bool false))) 4,
  oA 30 (.move (tm 29)) 4,
  oG 31 (.fieldAddr 38 (tm 4) 1) 0 30 true,
  oG 32 (.load 36 (tm 31)) 36 30 true,
  oG 33 (.indexAddr 36 (tm 32) (ci 2)) 0 30 true,
  oG 34 (.load 54 (tm 33)) 54 30 true,
  oG 35 (.build 26 #[(1, (ci 7))]) 26 30 true,
  oG 36 (.build 54 #[(0, (.const (.string ⟨#[50]⟩))), (1, (tm 35))]) 54 30 true,
  oG 37 (.binOp .eql 54 (tm 34) (tm 36) 54) 4 30 true,
  oA 38 (.pick (tm 30) (tm 37) (.const (.bool false))) 4,
  oA 39 (.move (tm 38)) 4,
  oG 40 (.fieldAddr 38 (tm 4) 0) 0 39 true,
  oG 41 (.fieldAddr 26 (tm 40) 1) 0 39 true,
  oG 42 (.load 3 (tm 41)) 3 39 true,
  oG 43 (.binOp .eql 3 (tm 42) (ci 7) 3) 4 39 true,
  oA 44 (.pick (tm 39) (tm 43) (.const (.bool false))) 4,
  oA 0 (.assign (tm 44)) 4]
def c6_7 : AC := .region o6_7 []
def c6_8 : AC := .ret
def c6_6 : AC := .seq c6_7 c6_8
def c6_4 : AC := .seq c6_5 c6_6
def c6_2 : AC := .seq c6_3 c6_4
def c6_0 : AC := .seq c6_1 c6_2
theorem r6_0 : SeqR Cx 6 c6_0 c6_1 c6_2 ∧ RegR Cx 6 c6_1 o6_1 ∧ SeqR Cx 6 c6_2 c6_3 c6_4 ∧ RegR Cx 6 c6_3 o6_3 ∧ SeqR Cx 6 c6_4 c6_5 c6_6 ∧ RegR Cx 6 c6_5 o6_5 ∧ SeqR Cx 6 c6_6 c6_7 c6_8 ∧ RegR Cx 6 c6_7 o6_7 := ⟨run_seq, run_region, run_seq, run_region, run_seq, run_region, run_seq, run_region⟩
theorem r6_1 : RetR Cx 6 c6_8 := run_ret
theorem pure6 : Cx.pure 6 = true := by kernel_rfl
abbrev o7_1 : List AO := [oA 3 (.box 28 (tm 1)) 0,
  oA 4 (.assign (ci 0)) 3]
def c7_1 : AC := .region o7_1 []
abbrev o7_3 : List AO := [oA 5 (.assign (ci 0)) 3]
def c7_3 : AC := .region o7_3 []
abbrev o7_6 : List AO := [oA 6 (.assign (ci 0)) 3]
def c7_6 : AC := .region o7_6 []
abbrev o7_11 : List AO := [oA 7 (.move (tm 6)) 3,
  oA 8 (.move (tm 0)) 22,
  oA 9 (cB .len #[(tm 8)] #[22]) 3,
  oA 10 (.binOp .lss 3 (tm 7) (tm 9) 3) 4,
  oA 11 (.move (tm 10)) 4,
  oG 12 (.move (tm 6)) 3 11 true,
  oG 13 (.binOp .lss 3 (tm 12) (ci 100) 3) 4 11 true,
  oA 14 (.pick (tm 11) (tm 13) (.const (.bool false))) 4]
def c7_11 : AC := .region o7_11 []
def c7_13 : AC := .skip
def c7_14 : AC := .exit 0
def c7_12 : AC := .cond (tm 14) c7_13 c7_14
def c7_10 : AC := .seq c7_11 c7_12
abbrev o7_17 : List AO := [oA 17 (.move (tm 5)) 3,
  oA 18 (.move (tm 0)) 22,
  oA 19 (.move (tm 6)) 3,
  oA 20 (.indexAddr 22 (tm 18) (tm 19)) 0,
  oA 21 (.fieldAddr 32 (tm 20) 1) 0,
  oA 22 (.fieldAddr 26 (tm 21) 2) 0,
  oA 23 (.load 9 (tm 22)) 9,
  oA 24 (cB .len #[(tm 23)] #[9]) 3,
  oA 25 (cB .min #[(tm 24), (ci 10000)] #[3, 3]) 3,
  oA 26 (.binOp .add 3 (tm 17) (tm 25) 3) 3,
  oA 5 (.assign (tm 26)) 3]
def c7_17 : AC := .region o7_17 []
def c7_16 : AC := .block 1 c7_17
abbrev o7_18 : List AO := [oA 15 (.move (tm 6)) 3,
  oA 16 (.binOp .add 3 (tm 15) (ci 1) 3) 3,
  oA 6 (.assign (tm 16)) 3]
def c7_18 : AC := .region o7_18 []
def c7_15 : AC := .seq c7_16 c7_18
def c7_9 : AC := .seq c7_10 c7_15
def c7_8 : AC := .loop c7_9
def c7_7 : AC := .block 0 c7_8
def c7_5 : AC := .seq c7_6 c7_7
abbrev o7_21 : List AO := [oA 27 (.move (tm 0)) 22,
  oA 28 (cB .len #[(tm 27)] #[22]) 3,
  oA 29 (.binOp .geq 3 (tm 28) (ci 100) 3) 4,
  oA 30 (.move (tm 29)) 4,
  oG 31 (.move (tm 5)) 3 30 false,
  oG 32 (.binOp .gtr 3 (tm 31) (ci 5000) 3) 4 30 false,
  oA 33 (.pick (tm 30) (.const (.bool true)) (tm 32)) 4,
  oA 34 (.move (tm 33)) 4,
  oG 35 (.fieldAddr 28 (tm 3) 0) 0 34 false,
  oG 36 (.load 9 (tm 35)) 9 34 false,
  oG 37 (cB .len #[(tm 36)] #[9]) 3 34 false,
  oG 38 (.binOp .gtr 3 (tm 37) (ci 5000) 3) 4 34 false,
  oA 39 (.pick (tm 34) (.const (.bool true)) (tm 38)) 4,
  oA 40 (.move (tm 39)) 4,
  oG 41 (.fieldAddr 28 (tm 3) 1) 0 40 false,
  oG 42 (.fieldAddr 26 (tm 41) 2) 0 40 false,
  oG 43 (.load 9 (tm 42)) 9 40 false,
  oG 44 (cB .len #[(tm 43)] #[9]) 3 40 false,
  oG 45 (.binOp .gtr 3 (tm 44) (ci 5000) 3) 4 40 false,
  oA 46 (.pick (tm 40) (.const (.bool true)) (tm 45)) 4,
  oA 47 (.move (tm 46)) 4,
  oG 48 (.fieldAddr 28 (tm 3) 2) 0 47 false,
  oG 49 (.fieldAddr 26 (tm 48) 2) 0 47 false,
  oG 50 (.load 9 (tm 49)) 9 47 false,
  oG 51 (cB .len #[(tm 50)] #[9]) 3 47 false,
  oG 52 (.binOp .gtr 3 (tm 51) (ci 5000) 3) 4 47 false,
  oA 53 (.pick (tm 47) (.const (.bool true)) (tm 52)) 4]
def c7_21 : AC := .region o7_21 []
abbrev o7_24 : List AO := [oA 4 (.assign (ci 0)) 3]
def c7_24 : AC := .region o7_24 []
def c7_25 : AC := .ret
def c7_23 : AC := .seq c7_24 c7_25
def c7_26 : AC := .skip
def c7_22 : AC := .cond (tm 53) c7_23 c7_26
def c7_20 : AC := .seq c7_21 c7_22
abbrev o7_28 : List AO := [oA 4 (.assign (ci 1)) 3]
def c7_28 : AC := .region o7_28 []
def c7_29 : AC := .ret
def c7_27 : AC := .seq c7_28 c7_29
def c7_19 : AC := .seq c7_20 c7_27
def c7_4 : AC := .seq c7_5 c7_19
def c7_2 : AC := .seq c7_3 c7_4
def c7_0 : AC := .seq c7_1 c7_2
theorem r7_0 : SeqR Cx 7 c7_0 c7_1 c7_2 ∧ RegR Cx 7 c7_1 o7_1 ∧ SeqR Cx 7 c7_2 c7_3 c7_4 ∧ RegR Cx 7 c7_3 o7_3 ∧ SeqR Cx 7 c7_4 c7_5 c7_19 ∧ SeqR Cx 7 c7_5 c7_6 c7_7 ∧ RegR Cx 7 c7_6 o7_6 ∧ BlkR Cx 7 c7_7 0 c7_8 := ⟨run_seq, run_region, run_seq, run_region, run_seq, run_seq, run_region, run_block⟩
theorem r7_1 : LoopR Cx 7 c7_8 c7_9 ∧ SeqR Cx 7 c7_9 c7_10 c7_15 ∧ SeqR Cx 7 c7_10 c7_11 c7_12 ∧ RegR Cx 7 c7_11 o7_11 ∧ CondR Cx 7 c7_12 (tm 14) c7_13 c7_14 ∧ SkipR Cx 7 c7_13 ∧ ExitR Cx 7 c7_14 0 ∧ SeqR Cx 7 c7_15 c7_16 c7_18 := ⟨run_loop', run_seq, run_seq, run_region, run_condC, run_skip, run_exit_start, run_seq⟩
theorem r7_2 : BlkR Cx 7 c7_16 1 c7_17 ∧ RegR Cx 7 c7_17 o7_17 ∧ RegR Cx 7 c7_18 o7_18 ∧ SeqR Cx 7 c7_19 c7_20 c7_27 ∧ SeqR Cx 7 c7_20 c7_21 c7_22 ∧ RegR Cx 7 c7_21 o7_21 ∧ CondR Cx 7 c7_22 (tm 53) c7_23 c7_26 ∧ SeqR Cx 7 c7_23 c7_24 c7_25 := ⟨run_block, run_region, run_region, run_seq, run_seq, run_region, run_condC, run_seq⟩
theorem r7_3 : RegR Cx 7 c7_24 o7_24 ∧ RetR Cx 7 c7_25 ∧ SkipR Cx 7 c7_26 ∧ SeqR Cx 7 c7_27 c7_28 c7_29 ∧ RegR Cx 7 c7_28 o7_28 ∧ RetR Cx 7 c7_29 := ⟨run_region, run_ret, run_skip, run_seq, run_region, run_ret⟩
theorem body7 : bodyOf Cx 7 = some c7_0 := by kernel_rfl
theorem res7 : resOf Cx 7 = some [.tmp 4] := by kernel_rfl
theorem pure7 : Cx.pure 7 = true := by kernel_rfl
abbrev o8_1 : List AO := [oA 2 (.assign (.const (.bool false))) 4]
def c8_1 : AC := .region o8_1 []
abbrev o8_4 : List AO := [oA 8 (.move (tm 0)) 34,
  oA 9 (cB .len #[(tm 8)] #[34]) 3,
  oA 10 (.binOp .eql 3 (tm 9) (ci 0) 3) 4,
  oA 11 (.move (tm 10)) 4,
  oG 12 (.move (tm 0)) 34 11 false,
  oG 13 (cB .len #[(tm 12)] #[34]) 3 11 false,
  oG 14 (.binOp .gtr 3 (tm 13) (ci 400) 3) 4 11 false,
  oA 15 (.pick (tm 11) (.const (.bool true)) (tm 14)) 4]
def c8_4 : AC := .region o8_4 []
abbrev o8_7 : List AO := [oA 2 (.assign (.const (.bool false))) 4]
def c8_7 : AC := .region o8_7 []
def c8_8 : AC := .ret
def c8_6 : AC := .seq c8_7 c8_8
def c8_9 : AC := .skip
def c8_5 : AC := .cond (tm 15) c8_6 c8_9
def c8_3 : AC := .seq c8_4 c8_5
abbrev o8_11 : List AO := [oA 16 (.buildSlice 55 1 #[(0, (ci 1))]) 55,
  oA 3 (.assign (tm 16)) 55]
def c8_11 : AC := .region o8_11 []
abbrev o8_14 : List AO := [oA 17 (.move (tm 0)) 34,
  oA 18 (cB .len #[(tm 17)] #[34]) 3,
  oA 19 (.move (ci 0)) 3]
def c8_14 : AC := .region o8_14 []
abbrev o8_18 : List AO := [oA 20 (.binOp .lss 3 (tm 19) (tm 18) 3) 0]
def c8_18 : AC := .region o8_18 []
def c8_21 : AC := .skip
def c8_22 : AC := .exit 0
def c8_20 : AC := .cond (tm 20) c8_21 c8_22
abbrev o8_26 : List AO := [oA 21 (.indexAddr 34 (tm 17) (tm 19)) 0,
  oA 22 (.load 56 (tm 21)) 56,
  oA 5 (.alloc 56) 0,
  oN (.store 56 (tm 5) (tm 22)) 0]
def c8_26 : AC := .region o8_26 []
abbrev o8_28 : List AO := [oA 24 (.load 56 (tm 5)) 56,
  oA 25 (cF 15 #[(tm 24)] #[56]) 57,
  oA 23 (.move (tm 25)) 57,
  oA 26 (.extract (tm 23) 0) 3,
  oA 27 (.extract (tm 23) 1) 4,
  oA 6 (.assign (tm 26)) 3,
  oA 7 (.assign (tm 27)) 4]
def c8_28 : AC := .region o8_28 []
abbrev o8_31 : List AO := [oA 28 (.move (tm 7)) 4,
  oA 29 (.unOp .not 4 (tm 28)) 4,
  oA 30 (.move (tm 29)) 4,
  oG 31 (.move (tm 3)) 55 30 false,
  oG 32 (cB .len #[(tm 31)] #[55]) 3 30 false,
  oG 33 (.binOp .eql 3 (tm 32) (ci 0) 3) 4 30 false,
  oA 34 (.pick (tm 30) (.const (.bool true)) (tm 33)) 4,
  oA 35 (.move (tm 34)) 4,
  oG 36 (.move (tm 3)) 55 35 false,
  oG 37 (cB .len #[(tm 36)] #[55]) 3 35 false,
  oG 38 (.binOp .sub 3 (tm 37) (ci 1) 3) 3 35 false,
  oG 39 (.binOp .gtr 3 (tm 38) (ci 24) 3) 4 35 false,
  oA 40 (.pick (tm 35) (.const (.bool true)) (tm 39)) 4]
def c8_31 : AC := .region o8_31 []
abbrev o8_34 : List AO := [oA 2 (.assign (.const (.bool false))) 4]
def c8_34 : AC := .region o8_34 []
def c8_35 : AC := .ret
def c8_33 : AC := .seq c8_34 c8_35
def c8_36 : AC := .skip
def c8_32 : AC := .cond (tm 40) c8_33 c8_36
def c8_30 : AC := .seq c8_31 c8_32
abbrev o8_38 : List AO := [oA 41 (.move (tm 3)) 55,
  oA 42 (.move (tm 3)) 55,
  oA 43 (cB .len #[(tm 42)] #[55]) 3,
  oA 44 (.binOp .sub 3 (tm 43) (ci 1) 3) 3,
  oA 45 (.indexAddr 55 (tm 41) (tm 44)) 0,
  oA 46 (.load 3 (tm 45)) 3,
  oA 47 (.binOp .sub 3 (tm 46) (ci 1) 3) 3,
  oA 48 (.indexAddr 55 (tm 41) (tm 44)) 0,
  oN (.store 3 (tm 48) (tm 47)) 0]
def c8_38 : AC := .region o8_38 []
abbrev o8_40 : List AO := [oA 49 (.move (tm 3)) 55,
  oA 50 (.move (tm 6)) 3,
  oA 51 (.buildSlice 55 1 #[(0, (tm 50))]) 55,
  oA 52 (cB .append #[(tm 49), (tm 51)] #[55, 55]) 55,
  oA 3 (.assign (tm 52)) 55]
def c8_40 : AC := .region o8_40 []
abbrev o8_45 : List AO := [oA 53 (.move (tm 3)) 55,
  oA 54 (cB .len #[(tm 53)] #[55]) 3,
  oA 55 (.binOp .gtr 3 (tm 54) (ci 0) 3) 4,
  oA 56 (.move (tm 55)) 4,
  oG 57 (.move (tm 3)) 55 56 true,
  oG 58 (.move (tm 3)) 55 56 true,
  oG 59 (cB .len #[(tm 58)] #[55]) 3 56 true,
  oG 60 (.binOp .sub 3 (tm 59) (ci 1) 3) 3 56 true,
  oG 61 (.indexAddr 55 (tm 57) (tm 60)) 0 56 true,
  oG 62 (.load 3 (tm 61)) 3 56 true,
  oG 63 (.binOp .eql 3 (tm 62) (ci 0) 3) 4 56 true,
  oA 64 (.pick (tm 56) (tm 63) (.const (.bool false))) 4]
def c8_45 : AC := .region o8_45 []
def c8_47 : AC := .skip
def c8_48 : AC := .exit 2
def c8_46 : AC := .cond (tm 64) c8_47 c8_48
def c8_44 : AC := .seq c8_45 c8_46
abbrev o8_50 : List AO := [oA 65 (.move (tm 3)) 55,
  oA 66 (.move (tm 3)) 55,
  oA 67 (cB .len #[(tm 66)] #[55]) 3,
  oA 68 (.binOp .sub 3 (tm 67) (ci 1) 3) 3,
  oA 69 (.slice 55 (tm 65) none (some (tm 68)) none) 55,
  oA 3 (.assign (tm 69)) 55]
def c8_50 : AC := .region o8_50 []
def c8_49 : AC := .block 3 c8_50
def c8_43 : AC := .seq c8_44 c8_49
def c8_42 : AC := .loop c8_43
def c8_41 : AC := .block 2 c8_42
def c8_39 : AC := .seq c8_40 c8_41
def c8_37 : AC := .seq c8_38 c8_39
def c8_29 : AC := .seq c8_30 c8_37
def c8_27 : AC := .seq c8_28 c8_29
def c8_25 : AC := .seq c8_26 c8_27
def c8_24 : AC := .block 1 c8_25
abbrev o8_51 : List AO := [oA 70 (.binOp .add 3 (tm 19) (ci 1) 3) 3,
  oA 19 (.move (tm 70)) 3]
def c8_51 : AC := .region o8_51 []
def c8_23 : AC := .seq c8_24 c8_51
def c8_19 : AC := .seq c8_20 c8_23
def c8_17 : AC := .seq c8_18 c8_19
def c8_16 : AC := .loop c8_17
def c8_15 : AC := .block 0 c8_16
def c8_13 : AC := .seq c8_14 c8_15
abbrev o8_53 : List AO := [oA 71 (.move (tm 3)) 55,
  oA 72 (cB .len #[(tm 71)] #[55]) 3,
  oA 73 (.binOp .eql 3 (tm 72) (ci 0) 3) 4,
  oA 2 (.assign (tm 73)) 4]
def c8_53 : AC := .region o8_53 []
def c8_54 : AC := .ret
def c8_52 : AC := .seq c8_53 c8_54
def c8_12 : AC := .seq c8_13 c8_52
def c8_10 : AC := .seq c8_11 c8_12
def c8_2 : AC := .seq c8_3 c8_10
def c8_0 : AC := .seq c8_1 c8_2
theorem r8_0 : SeqR Cx 8 c8_0 c8_1 c8_2 ∧ RegR Cx 8 c8_1 o8_1 ∧ SeqR Cx 8 c8_2 c8_3 c8_10 ∧ SeqR Cx 8 c8_3 c8_4 c8_5 ∧ RegR Cx 8 c8_4 o8_4 ∧ CondR Cx 8 c8_5 (tm 15) c8_6 c8_9 ∧ SeqR Cx 8 c8_6 c8_7 c8_8 ∧ RegR Cx 8 c8_7 o8_7 := ⟨run_seq, run_region, run_seq, run_seq, run_region, run_condC, run_seq, run_region⟩
theorem r8_1 : RetR Cx 8 c8_8 ∧ SkipR Cx 8 c8_9 ∧ SeqR Cx 8 c8_10 c8_11 c8_12 ∧ RegR Cx 8 c8_11 o8_11 ∧ SeqR Cx 8 c8_12 c8_13 c8_52 ∧ SeqR Cx 8 c8_13 c8_14 c8_15 ∧ RegR Cx 8 c8_14 o8_14 ∧ BlkR Cx 8 c8_15 0 c8_16 := ⟨run_ret, run_skip, run_seq, run_region, run_seq, run_seq, run_region, run_block⟩
theorem r8_2 : LoopR Cx 8 c8_16 c8_17 ∧ SeqR Cx 8 c8_17 c8_18 c8_19 ∧ RegR Cx 8 c8_18 o8_18 ∧ SeqR Cx 8 c8_19 c8_20 c8_23 ∧ CondR Cx 8 c8_20 (tm 20) c8_21 c8_22 ∧ SkipR Cx 8 c8_21 ∧ ExitR Cx 8 c8_22 0 ∧ SeqR Cx 8 c8_23 c8_24 c8_51 := ⟨run_loop', run_seq, run_region, run_seq, run_condC, run_skip, run_exit_start, run_seq⟩
theorem r8_3 : BlkR Cx 8 c8_24 1 c8_25 ∧ SeqR Cx 8 c8_25 c8_26 c8_27 ∧ RegR Cx 8 c8_26 o8_26 ∧ SeqR Cx 8 c8_27 c8_28 c8_29 ∧ RegR Cx 8 c8_28 o8_28 ∧ SeqR Cx 8 c8_29 c8_30 c8_37 ∧ SeqR Cx 8 c8_30 c8_31 c8_32 ∧ RegR Cx 8 c8_31 o8_31 := ⟨run_block, run_seq, run_region, run_seq, run_region, run_seq, run_seq, run_region⟩
theorem r8_4 : CondR Cx 8 c8_32 (tm 40) c8_33 c8_36 ∧ SeqR Cx 8 c8_33 c8_34 c8_35 ∧ RegR Cx 8 c8_34 o8_34 ∧ RetR Cx 8 c8_35 ∧ SkipR Cx 8 c8_36 ∧ SeqR Cx 8 c8_37 c8_38 c8_39 ∧ RegR Cx 8 c8_38 o8_38 ∧ SeqR Cx 8 c8_39 c8_40 c8_41 := ⟨run_condC, run_seq, run_region, run_ret, run_skip, run_seq, run_region, run_seq⟩
theorem r8_5 : RegR Cx 8 c8_40 o8_40 ∧ BlkR Cx 8 c8_41 2 c8_42 ∧ LoopR Cx 8 c8_42 c8_43 ∧ SeqR Cx 8 c8_43 c8_44 c8_49 ∧ SeqR Cx 8 c8_44 c8_45 c8_46 ∧ RegR Cx 8 c8_45 o8_45 ∧ CondR Cx 8 c8_46 (tm 64) c8_47 c8_48 ∧ SkipR Cx 8 c8_47 := ⟨run_region, run_block, run_loop', run_seq, run_seq, run_region, run_condC, run_skip⟩
theorem r8_6 : ExitR Cx 8 c8_48 2 ∧ BlkR Cx 8 c8_49 3 c8_50 ∧ RegR Cx 8 c8_50 o8_50 ∧ RegR Cx 8 c8_51 o8_51 ∧ SeqR Cx 8 c8_52 c8_53 c8_54 ∧ RegR Cx 8 c8_53 o8_53 ∧ RetR Cx 8 c8_54 := ⟨run_exit_start, run_block, run_region, run_region, run_seq, run_region, run_ret⟩
theorem body8 : bodyOf Cx 8 = some c8_0 := by kernel_rfl
theorem res8 : resOf Cx 8 = some [.tmp 2] := by kernel_rfl
theorem pure8 : Cx.pure 8 = true := by kernel_rfl
abbrev o9_1 : List AO := [oA 2 (.assign (.const (.slice none 0 0))) 34]
def c9_1 : AC := .region o9_1 []
abbrev o9_3 : List AO := [oA 3 (.assign (.const (.slice none 0 0))) 34]
def c9_3 : AC := .region o9_3 []
abbrev o9_6 : List AO := [oA 4 (.assign (ci 0)) 3]
def c9_6 : AC := .region o9_6 []
abbrev o9_11 : List AO := [oA 5 (.move (tm 4)) 3,
  oA 6 (.move (tm 0)) 22,
  oA 7 (cB .len #[(tm 6)] #[22]) 3,
  oA 8 (.binOp .lss 3 (tm 5) (tm 7) 3) 4]
def c9_11 : AC := .region o9_11 []
def c9_13 : AC := .skip
def c9_14 : AC := .exit 0
def c9_12 : AC := .cond (tm 8) c9_13 c9_14
def c9_10 : AC := .seq c9_11 c9_12
abbrev o9_17 : List AO := [oA 11 (.move (tm 3)) 34,
  oA 12 (.move (tm 0)) 22,
  oA 13 (.move (tm 4)) 3,
  oA 14 (.indexAddr 22 (tm 12) (tm 13)) 0,
  oA 15 (.fieldAddr 32 (tm 14) 0) 0,
  oA 16 (.load 3 (tm 15)) 3,
  oA 17 (.move (tm 0)) 22,
  oA 18 (.move (tm 4)) 3,
  oA 19 (.indexAddr 22 (tm 17) (tm 18)) 0,
  oA 20 (.fieldAddr 32 (tm 19) 1) 0,
  oA 21 (.load 26 (tm 20)) 26,
  oA 22 (.build 56 #[(0, (tm 16)), (1, (tm 21))]) 56,
  oA 23 (.buildSlice 34 1 #[(0, (tm 22))]) 34,
  oA 24 (cB .append #[(tm 11), (tm 23)] #[34, 34]) 34,
  oA 3 (.assign (tm 24)) 34]
def c9_17 : AC := .region o9_17 []
def c9_16 : AC := .block 1 c9_17
abbrev o9_18 : List AO := [oA 9 (.move (tm 4)) 3,
  oA 10 (.binOp .add 3 (tm 9) (ci 1) 3) 3,
  oA 4 (.assign (tm 10)) 3]
def c9_18 : AC := .region o9_18 []
def c9_15 : AC := .seq c9_16 c9_18
def c9_9 : AC := .seq c9_10 c9_15
def c9_8 : AC := .loop c9_9
def c9_7 : AC := .block 0 c9_8
def c9_5 : AC := .seq c9_6 c9_7
abbrev o9_20 : List AO := [oA 25 (.move (tm 3)) 34,
  oA 2 (.assign (tm 25)) 34]
def c9_20 : AC := .region o9_20 []
def c9_21 : AC := .ret
def c9_19 : AC := .seq c9_20 c9_21
def c9_4 : AC := .seq c9_5 c9_19
def c9_2 : AC := .seq c9_3 c9_4
def c9_0 : AC := .seq c9_1 c9_2
theorem r9_0 : SeqR Cx 9 c9_0 c9_1 c9_2 ∧ RegR Cx 9 c9_1 o9_1 ∧ SeqR Cx 9 c9_2 c9_3 c9_4 ∧ RegR Cx 9 c9_3 o9_3 ∧ SeqR Cx 9 c9_4 c9_5 c9_19 ∧ SeqR Cx 9 c9_5 c9_6 c9_7 ∧ RegR Cx 9 c9_6 o9_6 ∧ BlkR Cx 9 c9_7 0 c9_8 := ⟨run_seq, run_region, run_seq, run_region, run_seq, run_seq, run_region, run_block⟩
theorem r9_1 : LoopR Cx 9 c9_8 c9_9 ∧ SeqR Cx 9 c9_9 c9_10 c9_15 ∧ SeqR Cx 9 c9_10 c9_11 c9_12 ∧ RegR Cx 9 c9_11 o9_11 ∧ CondR Cx 9 c9_12 (tm 8) c9_13 c9_14 ∧ SkipR Cx 9 c9_13 ∧ ExitR Cx 9 c9_14 0 ∧ SeqR Cx 9 c9_15 c9_16 c9_18 := ⟨run_loop', run_seq, run_seq, run_region, run_condC, run_skip, run_exit_start, run_seq⟩
theorem r9_2 : BlkR Cx 9 c9_16 1 c9_17 ∧ RegR Cx 9 c9_17 o9_17 ∧ RegR Cx 9 c9_18 o9_18 ∧ SeqR Cx 9 c9_19 c9_20 c9_21 ∧ RegR Cx 9 c9_20 o9_20 ∧ RetR Cx 9 c9_21 := ⟨run_block, run_region, run_region, run_seq, run_region, run_ret⟩
theorem body9 : bodyOf Cx 9 = some c9_0 := by kernel_rfl
theorem res9 : resOf Cx 9 = some [.tmp 2] := by kernel_rfl
theorem pure9 : Cx.pure 9 = true := by kernel_rfl
abbrev o10_1 : List AO := [oA 4 (.box 28 (tm 1)) 0,
  oA 6 (.alloc 38) 0,
  oA 7 (.assign (ci 0)) 39]
def c10_1 : AC := .region o10_1 []
abbrev o10_4 : List AO := [oA 10 (.move (tm 0)) 34,
  oA 11 (cF 8 #[(tm 10)] #[34]) 4,
  oA 12 (.unOp .not 4 (tm 11)) 4,
  oA 13 (.move (tm 12)) 4,
  oG 14 (.fieldAddr 28 (tm 4) 0) 0 13 false,
  oG 15 (.load 9 (tm 14)) 9 13 false,
  oG 16 (cB .len #[(tm 15)] #[9]) 3 13 false,
  oG 17 (.binOp .gtr 3 (tm 16) (ci 4096) 3) 4 13 false,
  oA 18 (.pick (tm 13) (.const (.bool true)) (tm 17)) 4,
  oA 19 (.move (tm 18)) 4,
  oG 20 (.fieldAddr 28 (tm 4) 1) 0 19 false,
  oG 21 (.load 26 (tm 20)) 26 19 false,
  oG 22 (cF 16 #[(tm 21)] #[26]) 4 19 false,
  oG 23 (.unOp .not 4 (tm 22)) 4 19 false,
  oA 24 (.pick (tm 19) (.const (.bool true)) (tm 23)) 4,
  oA 25 (.move (tm 24)) 4,
  oG 26 (.fieldAddr 28 (tm 4) 2) 0 25 false,
  oG 27 (.load 26 (tm 26)) 26 25 false,
  oG 28 (cF 16 #[(tm 27)] #[26]) 4 25 false,
  oG 29 (.unOp .not 4 (tm 28)) 4 25 false,
  oA 30 (.pick (tm 25) (.const (.bool true)) (tm 29)) 4,
  oA 31 (.move (tm 30)) 4,
  oG 32 (.move (tm 2)) 3 31 false,
  oG 33 (.binOp .lss 3 (tm 32) (ci 0) 3) 4 31 false,
  oA 34 (.pick (tm 31) (.const (.bool true)) (tm 33)) 4,
  oA 35 (.move (tm 34)) 4,
  oG 36 (.move (tm 2)) 3 35 false,
  oG 37 (.binOp .gtr 3 (tm 36) (ci 100000) 3) 4 35 false,
  oA 38 (.pick (tm 35) (.const (.bool true)) (tm 37)) 4]
def c10_4 : AC := .region o10_4 []
abbrev o10_7 : List AO := [oA 39 (.build 38 #[]) 38,
  oN (.store 38 (tm 6) (tm 39)) 0,
  oA 7 (.assign (ci 1)) 39]
def c10_7 : AC := .region o10_7 []
def c10_8 : AC := .ret
def c10_6 : AC := .seq c10_7 c10_8
def c10_9 : AC := .skip
def c10_5 : AC := .cond (tm 38) c10_6 c10_9
def c10_3 : AC := .seq c10_4 c10_5
abbrev o10_11 : List AO := [oA 40 (.move (tm 0)) 34,
  oA 41 (.move (tm 0)) 34,
  oA 42 (cF 17 #[(tm 41)] #[34]) 61,
  oA 43 (.load 28 (tm 4)) 28,
  oA 44 (.move (tm 2)) 3,
  oA 45 (.build 64 #[(0, (tm 40)), (1, (tm 42)), (2, (tm 43)), (6, (tm 44))]) 64,
  oA 46 (.box 64 (tm 45)) 60,
  oA 8 (.assign (tm 46)) 60]
def c10_11 : AC := .region o10_11 []
abbrev o10_13 : List AO := [oA 47 (.move (tm 8)) 60,
  oA 48 (cF 18 #[(tm 47), (ci 0)] #[60, 3]) 26,
  oA 9 (.alloc 26) 0,
  oN (.store 26 (tm 9) (tm 48)) 0]
def c10_13 : AC := .region o10_13 []
abbrev o10_16 : List AO := [oA 49 (.move (tm 8)) 60,
  oA 50 (.nilCheck (tm 49)) 0,
  oA 51 (.fieldAddr 64 (tm 50) 7) 0,
  oA 52 (.load 39 (tm 51)) 39,
  oA 53 (.binOp .neq 39 (tm 52) (ci 0) 39) 4]
def c10_16 : AC := .region o10_16 []
abbrev o10_19 : List AO := [oA 54 (.build 38 #[]) 38,
  oA 55 (.move (tm 8)) 60,
  oA 56 (.nilCheck (tm 55)) 0,
  oA 57 (.fieldAddr 64 (tm 56) 7) 0,
  oA 58 (.load 39 (tm 57)) 39,
  oN (.store 38 (tm 6) (tm 54)) 0,
  oA 7 (.assign (tm 58)) 39]
def c10_19 : AC := .region o10_19 [[], [], [], [], [], [57], []]
def c10_20 : AC := .ret
def c10_18 : AC := .seq c10_19 c10_20
def c10_21 : AC := .skip
def c10_17 : AC := .cond (tm 53) c10_18 c10_21
def c10_15 : AC := .seq c10_16 c10_17
abbrev o10_23 : List AO := [oA 59 (.load 26 (tm 9)) 26,
  oA 60 (.move (tm 8)) 60,
  oA 61 (.nilCheck (tm 60)) 0,
  oA 62 (.fieldAddr 64 (tm 61) 5) 0,
  oA 63 (.load 36 (tm 62)) 36,
  oA 64 (.move (tm 8)) 60,
  oA 65 (.nilCheck (tm 64)) 0,
  oA 66 (.fieldAddr 64 (tm 65) 6) 0,
  oA 67 (.load 3 (tm 66)) 3,
  oA 68 (.build 38 #[(0, (tm 59)), (1, (tm 63)), (2, (tm 67))]) 38,
  oN (.store 38 (tm 6) (tm 68)) 0,
  oA 7 (.assign (ci 0)) 39]
def c10_23 : AC := .region o10_23 []
def c10_24 : AC := .ret
def c10_22 : AC := .seq c10_23 c10_24
def c10_14 : AC := .seq c10_15 c10_22
def c10_12 : AC := .seq c10_13 c10_14
def c10_10 : AC := .seq c10_11 c10_12
def c10_2 : AC := .seq c10_3 c10_10
def c10_0 : AC := .seq c10_1 c10_2
theorem r10_0 : SeqR Cx 10 c10_0 c10_1 c10_2 ∧ RegR Cx 10 c10_1 o10_1 ∧ SeqR Cx 10 c10_2 c10_3 c10_10 ∧ SeqR Cx 10 c10_3 c10_4 c10_5 ∧ RegR Cx 10 c10_4 o10_4 ∧ CondR Cx 10 c10_5 (tm 38) c10_6 c10_9 ∧ SeqR Cx 10 c10_6 c10_7 c10_8 ∧ RegR Cx 10 c10_7 o10_7 := ⟨run_seq, run_region, run_seq, run_seq, run_region, run_condC, run_seq, run_region⟩
theorem r10_1 : RetR Cx 10 c10_8 ∧ SkipR Cx 10 c10_9 ∧ SeqR Cx 10 c10_10 c10_11 c10_12 ∧ RegR Cx 10 c10_11 o10_11 ∧ SeqR Cx 10 c10_12 c10_13 c10_14 ∧ RegR Cx 10 c10_13 o10_13 ∧ SeqR Cx 10 c10_14 c10_15 c10_22 ∧ SeqR Cx 10 c10_15 c10_16 c10_17 := ⟨run_ret, run_skip, run_seq, run_region, run_seq, run_region, run_seq, run_seq⟩
theorem r10_2 : RegR Cx 10 c10_16 o10_16 ∧ CondR Cx 10 c10_17 (tm 53) c10_18 c10_21 ∧ SeqR Cx 10 c10_18 c10_19 c10_20 ∧ RegD Cx 10 c10_19 o10_19 [[], [], [], [], [], [57], []] ∧ RetR Cx 10 c10_20 ∧ SkipR Cx 10 c10_21 ∧ SeqR Cx 10 c10_22 c10_23 c10_24 ∧ RegR Cx 10 c10_23 o10_23 := ⟨run_region, run_condC, run_seq, run_regionD, run_ret, run_skip, run_seq, run_region⟩
theorem r10_3 : RetR Cx 10 c10_24 := run_ret
theorem body10 : bodyOf Cx 10 = some c10_0 := by kernel_rfl
theorem res10 : resOf Cx 10 = some [.cell 6 38, .tmp 7] := by kernel_rfl
theorem pure10 : Cx.pure 10 = true := by kernel_rfl
abbrev o11_1 : List AO := [oA 4 (.assign (.const (.bool false))) 4]
def c11_1 : AC := .region o11_1 []
abbrev o11_4 : List AO := [oA 6 (.move (tm 0)) 36,
  oA 7 (cB .len #[(tm 6)] #[36]) 3,
  oA 8 (.move (tm 1)) 36,
  oA 9 (cB .len #[(tm 8)] #[36]) 3,
  oA 10 (.binOp .neq 3 (tm 7) (tm 9) 3) 4]
def c11_4 : AC := .region o11_4 []
abbrev o11_7 : List AO := [oA 4 (.assign (.const (.bool false))) 4]
def c11_7 : AC := .region o11_7 []
def c11_8 : AC := .ret
def c11_6 : AC := .seq c11_7 c11_8
def c11_9 : AC := .skip
def c11_5 : AC := .cond (tm 10) c11_6 c11_9
def c11_3 : AC := .seq c11_4 c11_5
abbrev o11_12 : List AO := [oA 5 (.assign (ci 0)) 3]
def c11_12 : AC := .region o11_12 []
abbrev o11_17 : List AO := [oA 11 (.move (tm 5)) 3,
  oA 12 (.move (tm 0)) 36,
  oA 13 (cB .len #[(tm 12)] #[36]) 3,
  oA 14 (.binOp .lss 3 (tm 11) (tm 13) 3) 4]
def c11_17 : AC := .region o11_17 []
def c11_19 : AC := .skip
def c11_20 : AC := .exit 0
def c11_18 : AC := .cond (tm 14) c11_19 c11_20
def c11_16 : AC := .seq c11_17 c11_18
abbrev o11_24 : List AO := [oA 17 (.move (tm 0)) 36,
  oA 18 (.move (tm 5)) 3,
  oA 19 (.indexAddr 36 (tm 17) (tm 18)) 0,
  oA 20 (.load 54 (tm 19)) 54,
  oA 21 (.move (tm 1)) 36,
  oA 22 (.move (tm 5)) 3,
  oA 23 (.indexAddr 36 (tm 21) (tm 22)) 0,
  oA 24 (.load 54 (tm 23)) 54,
  oA 25 (.binOp .neq 54 (tm 20) (tm 24) 54) 4]
def c11_24 : AC := .region o11_24 []
abbrev o11_27 : List AO := [oA 4 (.assign (.const (.bool false))) 4]
def c11_27 : AC := .region o11_27 []
def c11_28 : AC := .ret
def c11_26 : AC := .seq c11_27 c11_28
def c11_29 : AC := .skip
def c11_25 : AC := .cond (tm 25) c11_26 c11_29
def c11_23 : AC := .seq c11_24 c11_25
def c11_22 : AC := .block 1 c11_23
abbrev o11_30 : List AO := [oA 15 (.move (tm 5)) 3,
  oA 16 (.binOp .add 3 (tm 15) (ci 1) 3) 3,
  oA 5 (.assign (tm 16)) 3]
def c11_30 : AC := .region o11_30 []
def c11_21 : AC := .seq c11_22 c11_30
def c11_15 : AC := .seq c11_16 c11_21
def c11_14 : AC := .loop c11_15
def c11_13 : AC := .block 0 c11_14
def c11_11 : AC := .seq c11_12 c11_13
abbrev o11_32 : List AO := [oA 4 (.assign (.const (.bool true))) 4]
def c11_32 : AC := .region o11_32 []
def c11_33 : AC := .ret
def c11_31 : AC := .seq c11_32 c11_33
def c11_10 : AC := .seq c11_11 c11_31
def c11_2 : AC := .seq c11_3 c11_10
def c11_0 : AC := .seq c11_1 c11_2
theorem r11_0 : SeqR Cx 11 c11_0 c11_1 c11_2 ∧ RegR Cx 11 c11_1 o11_1 ∧ SeqR Cx 11 c11_2 c11_3 c11_10 ∧ SeqR Cx 11 c11_3 c11_4 c11_5 ∧ RegR Cx 11 c11_4 o11_4 ∧ CondR Cx 11 c11_5 (tm 10) c11_6 c11_9 ∧ SeqR Cx 11 c11_6 c11_7 c11_8 ∧ RegR Cx 11 c11_7 o11_7 := ⟨run_seq, run_region, run_seq, run_seq, run_region, run_condC, run_seq, run_region⟩
theorem r11_1 : RetR Cx 11 c11_8 ∧ SkipR Cx 11 c11_9 ∧ SeqR Cx 11 c11_10 c11_11 c11_31 ∧ SeqR Cx 11 c11_11 c11_12 c11_13 ∧ RegR Cx 11 c11_12 o11_12 ∧ BlkR Cx 11 c11_13 0 c11_14 ∧ LoopR Cx 11 c11_14 c11_15 ∧ SeqR Cx 11 c11_15 c11_16 c11_21 := ⟨run_ret, run_skip, run_seq, run_seq, run_region, run_block, run_loop', run_seq⟩
theorem r11_2 : SeqR Cx 11 c11_16 c11_17 c11_18 ∧ RegR Cx 11 c11_17 o11_17 ∧ CondR Cx 11 c11_18 (tm 14) c11_19 c11_20 ∧ SkipR Cx 11 c11_19 ∧ ExitR Cx 11 c11_20 0 ∧ SeqR Cx 11 c11_21 c11_22 c11_30 ∧ BlkR Cx 11 c11_22 1 c11_23 ∧ SeqR Cx 11 c11_23 c11_24 c11_25 := ⟨run_seq, run_region, run_condC, run_skip, run_exit_start, run_seq, run_block, run_seq⟩
theorem r11_3 : RegR Cx 11 c11_24 o11_24 ∧ CondR Cx 11 c11_25 (tm 25) c11_26 c11_29 ∧ SeqR Cx 11 c11_26 c11_27 c11_28 ∧ RegR Cx 11 c11_27 o11_27 ∧ RetR Cx 11 c11_28 ∧ SkipR Cx 11 c11_29 ∧ RegR Cx 11 c11_30 o11_30 ∧ SeqR Cx 11 c11_31 c11_32 c11_33 := ⟨run_region, run_condC, run_seq, run_region, run_ret, run_skip, run_region, run_seq⟩
theorem r11_4 : RegR Cx 11 c11_32 o11_32 ∧ RetR Cx 11 c11_33 := ⟨run_region, run_ret⟩
theorem body11 : bodyOf Cx 11 = some c11_0 := by kernel_rfl
theorem res11 : resOf Cx 11 = some [.tmp 4] := by kernel_rfl
theorem pure11 : Cx.pure 11 = true := by kernel_rfl
abbrev o12_1 : List AO := [oA 3 (.box 28 (tm 1)) 0,
  oA 4 (.assign (ci 0)) 3,
  oA 5 (.assign (ci 0)) 39]
def c12_1 : AC := .region o12_1 []
abbrev o12_3 : List AO := [oA 9 (.move (tm 0)) 34,
  oA 10 (.load 28 (tm 3)) 28,
  oA 11 (cF 10 #[(tm 9), (tm 10), (ci 100000)] #[34, 28, 3]) 40,
  oA 8 (.move (tm 11)) 40,
  oA 12 (.extract (tm 8) 0) 38,
  oA 13 (.extract (tm 8) 1) 39,
  oA 6 (.alloc 38) 0,
  oN (.store 38 (tm 6) (tm 12)) 0,
  oA 7 (.assign (tm 13)) 39]
def c12_3 : AC := .region o12_3 []
abbrev o12_6 : List AO := [oA 14 (.move (tm 7)) 39,
  oA 15 (.binOp .neq 39 (tm 14) (ci 0) 39) 4]
def c12_6 : AC := .region o12_6 []
abbrev o12_9 : List AO := [oA 16 (.move (tm 7)) 39,
  oA 4 (.assign (ci 0)) 3,
  oA 5 (.assign (tm 16)) 39]
def c12_9 : AC := .region o12_9 []
def c12_10 : AC := .ret
def c12_8 : AC := .seq c12_9 c12_10
def c12_11 : AC := .skip
def c12_7 : AC := .cond (tm 15) c12_8 c12_11
def c12_5 : AC := .seq c12_6 c12_7
abbrev o12_13 : List AO := [oA 17 (.fieldAddr 38 (tm 6) 2) 0,
  oA 18 (.load 3 (tm 17)) 3,
  oA 19 (.binOp .sub 3 (ci 100000) (tm 18) 3) 3,
  oA 4 (.assign (tm 19)) 3,
  oA 5 (.assign (ci 0)) 39]
def c12_13 : AC := .region o12_13 []
def c12_14 : AC := .ret
def c12_12 : AC := .seq c12_13 c12_14
def c12_4 : AC := .seq c12_5 c12_12
def c12_2 : AC := .seq c12_3 c12_4
def c12_0 : AC := .seq c12_1 c12_2
theorem r12_0 : SeqR Cx 12 c12_0 c12_1 c12_2 ∧ RegR Cx 12 c12_1 o12_1 ∧ SeqR Cx 12 c12_2 c12_3 c12_4 ∧ RegR Cx 12 c12_3 o12_3 ∧ SeqR Cx 12 c12_4 c12_5 c12_12 ∧ SeqR Cx 12 c12_5 c12_6 c12_7 ∧ RegR Cx 12 c12_6 o12_6 ∧ CondR Cx 12 c12_7 (tm 15) c12_8 c12_11 := ⟨run_seq, run_region, run_seq, run_region, run_seq, run_seq, run_region, run_condC⟩
theorem r12_1 : SeqR Cx 12 c12_8 c12_9 c12_10 ∧ RegR Cx 12 c12_9 o12_9 ∧ RetR Cx 12 c12_10 ∧ SkipR Cx 12 c12_11 ∧ SeqR Cx 12 c12_12 c12_13 c12_14 ∧ RegR Cx 12 c12_13 o12_13 ∧ RetR Cx 12 c12_14 := ⟨run_seq, run_region, run_ret, run_skip, run_seq, run_region, run_ret⟩
abbrev o13_1 : List AO := [oA 2 (.alloc 48) 0]
def c13_1 : AC := .region o13_1 []
abbrev o13_3 : List AO := [oA 3 (.alloc 48) 0]
def c13_3 : AC := .region o13_3 []
abbrev o13_6 : List AO := [oA 6 (.move (tm 0)) 34,
  oA 7 (cF 8 #[(tm 6)] #[34]) 4,
  oA 8 (.unOp .not 4 (tm 7)) 4]
def c13_6 : AC := .region o13_6 []
abbrev o13_9 : List AO := [oA 9 (.load 48 (tm 3)) 48,
  oN (.store 48 (tm 2) (tm 9)) 0]
def c13_9 : AC := .region o13_9 []
def c13_10 : AC := .ret
def c13_8 : AC := .seq c13_9 c13_10
def c13_11 : AC := .skip
def c13_7 : AC := .cond (tm 8) c13_8 c13_11
def c13_5 : AC := .seq c13_6 c13_7
abbrev o13_14 : List AO := [oA 10 (.move (tm 0)) 34,
  oA 11 (cB .len #[(tm 10)] #[34]) 3,
  oA 12 (.move (ci 0)) 3]
def c13_14 : AC := .region o13_14 []
abbrev o13_18 : List AO := [oA 13 (.binOp .lss 3 (tm 12) (tm 11) 3) 0]
def c13_18 : AC := .region o13_18 []
def c13_21 : AC := .skip
def c13_22 : AC := .exit 0
def c13_20 : AC := .cond (tm 13) c13_21 c13_22
abbrev o13_26 : List AO := [oA 14 (.indexAddr 34 (tm 10) (tm 12)) 0,
  oA 15 (.load 56 (tm 14)) 56,
  oA 5 (.alloc 56) 0,
  oN (.store 56 (tm 5) (tm 15)) 0]
def c13_26 : AC := .region o13_26 []
abbrev o13_28 : List AO := [oA 16 (.fieldAddr 56 (tm 5) 0) 0,
  oA 17 (.load 3 (tm 16)) 3,
  oA 18 (.binOp .eql 3 (tm 17) (ci 1) 3) 4]
def c13_28 : AC := .region o13_28 []
abbrev o13_30 : List AO := [oA 19 (.fieldAddr 56 (tm 5) 1) 0,
  oA 20 (.fieldAddr 26 (tm 19) 1) 0,
  oA 21 (.load 3 (tm 20)) 3,
  oA 22 (.indexAddr 48 (tm 3) (tm 21)) 0,
  oN (.store 4 (tm 22) (.const (.bool true))) 0]
def c13_30 : AC := .region o13_30 []
def c13_31 : AC := .skip
def c13_29 : AC := .cond (tm 18) c13_30 c13_31
def c13_27 : AC := .seq c13_28 c13_29
def c13_25 : AC := .seq c13_26 c13_27
def c13_24 : AC := .block 1 c13_25
abbrev o13_32 : List AO := [oA 23 (.binOp .add 3 (tm 12) (ci 1) 3) 3,
  oA 12 (.move (tm 23)) 3]
def c13_32 : AC := .region o13_32 []
def c13_23 : AC := .seq c13_24 c13_32
def c13_19 : AC := .seq c13_20 c13_23
def c13_17 : AC := .seq c13_18 c13_19
def c13_16 : AC := .loop c13_17
def c13_15 : AC := .block 0 c13_16
def c13_13 : AC := .seq c13_14 c13_15
abbrev o13_34 : List AO := [oA 24 (.load 48 (tm 3)) 48,
  oN (.store 48 (tm 2) (tm 24)) 0]
def c13_34 : AC := .region o13_34 []
def c13_35 : AC := .ret
def c13_33 : AC := .seq c13_34 c13_35
def c13_12 : AC := .seq c13_13 c13_33
def c13_4 : AC := .seq c13_5 c13_12
def c13_2 : AC := .seq c13_3 c13_4
def c13_0 : AC := .seq c13_1 c13_2
theorem r13_0 : SeqR Cx 13 c13_0 c13_1 c13_2 ∧ RegR Cx 13 c13_1 o13_1 ∧ SeqR Cx 13 c13_2 c13_3 c13_4 ∧ RegR Cx 13 c13_3 o13_3 ∧ SeqR Cx 13 c13_4 c13_5 c13_12 ∧ SeqR Cx 13 c13_5 c13_6 c13_7 ∧ RegR Cx 13 c13_6 o13_6 ∧ CondR Cx 13 c13_7 (tm 8) c13_8 c13_11 := ⟨run_seq, run_region, run_seq, run_region, run_seq, run_seq, run_region, run_condC⟩
theorem r13_1 : SeqR Cx 13 c13_8 c13_9 c13_10 ∧ RegR Cx 13 c13_9 o13_9 ∧ RetR Cx 13 c13_10 ∧ SkipR Cx 13 c13_11 ∧ SeqR Cx 13 c13_12 c13_13 c13_33 ∧ SeqR Cx 13 c13_13 c13_14 c13_15 ∧ RegR Cx 13 c13_14 o13_14 ∧ BlkR Cx 13 c13_15 0 c13_16 := ⟨run_seq, run_region, run_ret, run_skip, run_seq, run_seq, run_region, run_block⟩
theorem r13_2 : LoopR Cx 13 c13_16 c13_17 ∧ SeqR Cx 13 c13_17 c13_18 c13_19 ∧ RegR Cx 13 c13_18 o13_18 ∧ SeqR Cx 13 c13_19 c13_20 c13_23 ∧ CondR Cx 13 c13_20 (tm 13) c13_21 c13_22 ∧ SkipR Cx 13 c13_21 ∧ ExitR Cx 13 c13_22 0 ∧ SeqR Cx 13 c13_23 c13_24 c13_32 := ⟨run_loop', run_seq, run_region, run_seq, run_condC, run_skip, run_exit_start, run_seq⟩
theorem r13_3 : BlkR Cx 13 c13_24 1 c13_25 ∧ SeqR Cx 13 c13_25 c13_26 c13_27 ∧ RegR Cx 13 c13_26 o13_26 ∧ SeqR Cx 13 c13_27 c13_28 c13_29 ∧ RegR Cx 13 c13_28 o13_28 ∧ CondR Cx 13 c13_29 (tm 18) c13_30 c13_31 ∧ RegR Cx 13 c13_30 o13_30 ∧ SkipR Cx 13 c13_31 := ⟨run_block, run_seq, run_region, run_seq, run_region, run_condC, run_region, run_skip⟩
theorem r13_4 : RegR Cx 13 c13_32 o13_32 ∧ SeqR Cx 13 c13_33 c13_34 c13_35 ∧ RegR Cx 13 c13_34 o13_34 ∧ RetR Cx 13 c13_35 := ⟨run_region, run_seq, run_region, run_ret⟩
abbrev o14_1 : List AO := [oA 2 (.assign (.const (.slice none 0 0))) 34,
  oA 3 (.assign (ci 0)) 3,
  oA 4 (.assign (ci 0)) 39]
def c14_1 : AC := .region o14_1 []
abbrev o14_5 : List AO := [oA 19 (.move (tm 0)) 9,
  oA 20 (cB .len #[(tm 19)] #[9]) 3,
  oA 21 (.binOp .gtr 3 (tm 20) (ci 4096) 3) 4]
def c14_5 : AC := .region o14_5 []
abbrev o14_8 : List AO := [oA 2 (.assign (.const (.slice none 0 0))) 34,
  oA 3 (.assign (ci 0)) 3,
  oA 4 (.assign (ci 3)) 39]
def c14_8 : AC := .region o14_8 []
def c14_9 : AC := .ret
def c14_7 : AC := .seq c14_8 c14_9
def c14_10 : AC := .skip
def c14_6 : AC := .cond (tm 21) c14_7 c14_10
def c14_4 : AC := .seq c14_5 c14_6
abbrev o14_12 : List AO := [oA 5 (.assign (.const (.slice none 0 0))) 34]
def c14_12 : AC := .region o14_12 []
abbrev o14_14 : List AO := [oA 6 (.assign (.const (.slice none 0 0))) 55]
def c14_14 : AC := .region o14_14 []
abbrev o14_16 : List AO := [oA 7 (.assign (ci 0)) 3]
def c14_16 : AC := .region o14_16 []
def c14_18 : AC := .label 0
abbrev o14_20 : List AO := [oA 22 (.move (tm 0)) 9,
  oA 23 (.move (tm 7)) 3,
  oA 24 (cF 19 #[(tm 22), (tm 23)] #[9, 3]) 3,
  oA 7 (.assign (tm 24)) 3]
def c14_20 : AC := .region o14_20 []
abbrev o14_24 : List AO := [oA 26 (.move (tm 7)) 3,
  oA 27 (.move (tm 0)) 9,
  oA 28 (cB .len #[(tm 27)] #[9]) 3,
  oA 29 (.binOp .eql 3 (tm 26) (tm 28) 3) 4,
  oA 25 (.assign (tm 29)) 4]
def c14_24 : AC := .region o14_24 []
abbrev o14_27 : List AO := [oA 30 (.move (tm 7)) 3,
  oA 2 (.assign (.const (.slice none 0 0))) 34,
  oA 3 (.assign (tm 30)) 3,
  oA 4 (.assign (ci 2)) 39]
def c14_27 : AC := .region o14_27 []
def c14_28 : AC := .ret
def c14_26 : AC := .seq c14_27 c14_28
abbrev o14_30 : List AO := [oA 32 (.move (tm 0)) 9,
  oA 33 (.move (tm 7)) 3,
  oA 34 (.index 9 (tm 32) (tm 33)) 5,
  oA 35 (.binOp .eql 5 (tm 34) (.const (.int .u8 41)) 5) 4,
  oA 36 (.move (tm 35)) 4,
  oG 37 (.move (tm 6)) 55 36 true,
  oG 38 (cB .len #[(tm 37)] #[55]) 3 36 true,
  oG 39 (.binOp .gtr 3 (tm 38) (ci 0) 3) 4 36 true,
  oA 40 (.pick (tm 36) (tm 39) (.const (.bool false))) 4,
  oA 31 (.assign (tm 40)) 4]
def c14_30 : AC := .region o14_30 []
abbrev o14_33 : List AO := [oA 41 (.move (tm 7)) 3,
  oA 2 (.assign (.const (.slice none 0 0))) 34,
  oA 3 (.assign (tm 41)) 3,
  oA 4 (.assign (ci 12)) 39]
def c14_33 : AC := .region o14_33 []
def c14_34 : AC := .ret
def c14_32 : AC := .seq c14_33 c14_34
abbrev o14_36 : List AO := [oA 43 (.move (tm 5)) 34,
  oA 44 (cB .len #[(tm 43)] #[34]) 3,
  oA 45 (.binOp .eql 3 (tm 44) (ci 400) 3) 4,
  oA 42 (.assign (tm 45)) 4]
def c14_36 : AC := .region o14_36 []
abbrev o14_39 : List AO := [oA 46 (.move (tm 7)) 3,
  oA 2 (.assign (.const (.slice none 0 0))) 34,
  oA 3 (.assign (tm 46)) 3,
  oA 4 (.assign (ci 22)) 39]
def c14_39 : AC := .region o14_39 []
def c14_40 : AC := .ret
def c14_38 : AC := .seq c14_39 c14_40
abbrev o14_42 : List AO := [oA 48 (.move (tm 6)) 55,
  oA 49 (cB .len #[(tm 48)] #[55]) 3,
  oA 50 (.binOp .gtr 3 (tm 49) (ci 24) 3) 4,
  oA 47 (.assign (tm 50)) 4]
def c14_42 : AC := .region o14_42 []
abbrev o14_45 : List AO := [oA 51 (.move (tm 7)) 3,
  oA 2 (.assign (.const (.slice none 0 0))) 34,
  oA 3 (.assign (tm 51)) 3,
  oA 4 (.assign (ci 23)) 39]
def c14_45 : AC := .region o14_45 []
def c14_46 : AC := .ret
def c14_44 : AC := .seq c14_45 c14_46
abbrev o14_48 : List AO := [oA 53 (.move (tm 0)) 9,
  oA 54 (.move (tm 7)) 3,
  oA 55 (.index 9 (tm 53) (tm 54)) 5,
  oA 56 (.binOp .eql 5 (tm 55) (.const (.int .u8 40)) 5) 4,
  oA 52 (.assign (tm 56)) 4]
def c14_48 : AC := .region o14_48 []
abbrev o14_51 : List AO := [oA 58 (.move (tm 0)) 9,
  oA 59 (.move (tm 7)) 3,
  oA 60 (.binOp .add 3 (tm 59) (ci 1) 3) 3,
  oA 61 (cF 20 #[(tm 58), (tm 60)] #[9, 3]) 67,
  oA 57 (.move (tm 61)) 67,
  oA 62 (.extract (tm 57) 0) 56,
  oA 63 (.extract (tm 57) 1) 3,
  oA 64 (.extract (tm 57) 2) 3,
  oA 65 (.extract (tm 57) 3) 39,
  oA 8 (.alloc 56) 0,
  oN (.store 56 (tm 8) (tm 62)) 0,
  oA 9 (.assign (tm 63)) 3,
  oA 10 (.assign (tm 64)) 3,
  oA 11 (.assign (tm 65)) 39]
def c14_51 : AC := .region o14_51 []
abbrev o14_54 : List AO := [oA 66 (.move (tm 11)) 39,
  oA 67 (.binOp .neq 39 (tm 66) (ci 0) 39) 4]
def c14_54 : AC := .region o14_54 []
abbrev o14_57 : List AO := [oA 68 (.move (tm 10)) 3,
  oA 69 (.move (tm 11)) 39,
  oA 2 (.assign (.const (.slice none 0 0))) 34,
  oA 3 (.assign (tm 68)) 3,
  oA 4 (.assign (tm 69)) 39]
def c14_57 : AC := .region o14_57 []
def c14_58 : AC := .ret
def c14_56 : AC := .seq c14_57 c14_58
def c14_59 : AC := .skip
def c14_55 : AC := .cond (tm 67) c14_56 c14_59
def c14_53 : AC := .seq c14_54 c14_55
abbrev o14_61 : List AO := [oA 71 (.fieldAddr 56 (tm 8) 0) 0,
  oA 72 (.load 3 (tm 71)) 3,
  oA 73 (cF 21 #[(tm 72)] #[3]) 69,
  oA 70 (.move (tm 73)) 69,
  oA 74 (.extract (tm 70) 0) 9,
  oA 75 (.extract (tm 70) 1) 3,
  oA 76 (.extract (tm 70) 2) 4,
  oA 12 (.assign (tm 74)) 9,
  oA 13 (.assign (tm 75)) 3,
  oA 14 (.assign (tm 76)) 4]
def c14_61 : AC := .region o14_61 []
abbrev o14_63 : List AO := [oA 77 (.move (tm 5)) 34,
  oA 78 (.load 56 (tm 8)) 56,
  oA 79 (.buildSlice 34 1 #[(0, (tm 78))]) 34,
  oA 80 (cB .append #[(tm 77), (tm 79)] #[34, 34]) 34,
  oA 81 (.move (tm 6)) 55,
  oA 82 (.move (tm 13)) 3,
  oA 83 (.buildSlice 55 1 #[(0, (tm 82))]) 55,
  oA 84 (cB .append #[(tm 81), (tm 83)] #[55, 55]) 55,
  oA 85 (.move (tm 9)) 3,
  oA 5 (.assign (tm 80)) 34,
  oA 6 (.assign (tm 84)) 55,
  oA 7 (.assign (tm 85)) 3]
def c14_63 : AC := .region o14_63 []
def c14_64 : AC := .goto 0
def c14_62 : AC := .seq c14_63 c14_64
def c14_60 : AC := .seq c14_61 c14_62
def c14_52 : AC := .seq c14_53 c14_60
def c14_50 : AC := .seq c14_51 c14_52
def c14_65 : AC := .skip
def c14_49 : AC := .cond (tm 52) c14_50 c14_65
def c14_47 : AC := .seq c14_48 c14_49
def c14_43 : AC := .cond (tm 47) c14_44 c14_47
def c14_41 : AC := .seq c14_42 c14_43
def c14_37 : AC := .cond (tm 42) c14_38 c14_41
def c14_35 : AC := .seq c14_36 c14_37
def c14_31 : AC := .cond (tm 31) c14_32 c14_35
def c14_29 : AC := .seq c14_30 c14_31
def c14_25 : AC := .cond (tm 25) c14_26 c14_29
def c14_23 : AC := .seq c14_24 c14_25
def c14_22 : AC := .block 0 c14_23
abbrev o14_68 : List AO := [oA 87 (.move (tm 0)) 9,
  oA 88 (.move (tm 7)) 3,
  oA 89 (cF 22 #[(tm 87), (tm 88)] #[9, 3]) 67,
  oA 86 (.move (tm 89)) 67,
  oA 90 (.extract (tm 86) 0) 56,
  oA 91 (.extract (tm 86) 1) 3,
  oA 92 (.extract (tm 86) 2) 3,
  oA 93 (.extract (tm 86) 3) 39,
  oA 15 (.alloc 56) 0,
  oN (.store 56 (tm 15) (tm 90)) 0,
  oA 16 (.assign (tm 91)) 3,
  oA 17 (.assign (tm 92)) 3,
  oA 18 (.assign (tm 93)) 39]
def c14_68 : AC := .region o14_68 []
abbrev o14_71 : List AO := [oA 94 (.move (tm 18)) 39,
  oA 95 (.binOp .neq 39 (tm 94) (ci 0) 39) 4]
def c14_71 : AC := .region o14_71 []
abbrev o14_74 : List AO := [oA 96 (.move (tm 17)) 3,
  oA 97 (.move (tm 18)) 39,
  oA 2 (.assign (.const (.slice none 0 0))) 34,
  oA 3 (.assign (tm 96)) 3,
  oA 4 (.assign (tm 97)) 39]
def c14_74 : AC := .region o14_74 []
def c14_75 : AC := .ret
def c14_73 : AC := .seq c14_74 c14_75
def c14_76 : AC := .skip
def c14_72 : AC := .cond (tm 95) c14_73 c14_76
def c14_70 : AC := .seq c14_71 c14_72
abbrev o14_77 : List AO := [oA 98 (.move (tm 5)) 34,
  oA 99 (.load 56 (tm 15)) 56,
  oA 100 (.buildSlice 34 1 #[(0, (tm 99))]) 34,
  oA 101 (cB .append #[(tm 98), (tm 100)] #[34, 34]) 34,
  oA 102 (.move (tm 16)) 3,
  oA 5 (.assign (tm 101)) 34,
  oA 7 (.assign (tm 102)) 3]
def c14_77 : AC := .region o14_77 []
def c14_69 : AC := .seq c14_70 c14_77
def c14_67 : AC := .seq c14_68 c14_69
def c14_79 : AC := .label 1
abbrev o14_82 : List AO := [oA 103 (.move (tm 6)) 55,
  oA 104 (cB .len #[(tm 103)] #[55]) 3,
  oA 105 (.binOp .eql 3 (tm 104) (ci 0) 3) 4]
def c14_82 : AC := .region o14_82 []
abbrev o14_86 : List AO := [oA 106 (.move (tm 0)) 9,
  oA 107 (.move (tm 7)) 3,
  oA 108 (cF 19 #[(tm 106), (tm 107)] #[9, 3]) 3,
  oA 7 (.assign (tm 108)) 3]
def c14_86 : AC := .region o14_86 []
abbrev o14_88 : List AO := [oA 109 (.move (tm 7)) 3,
  oA 110 (.move (tm 0)) 9,
  oA 111 (cB .len #[(tm 110)] #[9]) 3,
  oA 112 (.binOp .lss 3 (tm 109) (tm 111) 3) 4]
def c14_88 : AC := .region o14_88 []
abbrev o14_91 : List AO := [oA 113 (.move (tm 7)) 3,
  oA 2 (.assign (.const (.slice none 0 0))) 34,
  oA 3 (.assign (tm 113)) 3,
  oA 4 (.assign (ci 10)) 39]
def c14_91 : AC := .region o14_91 []
def c14_92 : AC := .ret
def c14_90 : AC := .seq c14_91 c14_92
def c14_93 : AC := .skip
def c14_89 : AC := .cond (tm 112) c14_90 c14_93
def c14_87 : AC := .seq c14_88 c14_89
def c14_85 : AC := .seq c14_86 c14_87
abbrev o14_95 : List AO := [oA 114 (.move (tm 5)) 34,
  oA 2 (.assign (tm 114)) 34,
  oA 3 (.assign (ci 0)) 3,
  oA 4 (.assign (ci 0)) 39]
def c14_95 : AC := .region o14_95 []
def c14_96 : AC := .ret
def c14_94 : AC := .seq c14_95 c14_96
def c14_84 : AC := .seq c14_85 c14_94
def c14_97 : AC := .skip
def c14_83 : AC := .cond (tm 105) c14_84 c14_97
def c14_81 : AC := .seq c14_82 c14_83
abbrev o14_99 : List AO := [oA 115 (.move (tm 6)) 55,
  oA 116 (.move (tm 6)) 55,
  oA 117 (cB .len #[(tm 116)] #[55]) 3,
  oA 118 (.binOp .sub 3 (tm 117) (ci 1) 3) 3,
  oA 119 (.indexAddr 55 (tm 115) (tm 118)) 0,
  oA 120 (.load 3 (tm 119)) 3,
  oA 121 (.binOp .sub 3 (tm 120) (ci 1) 3) 3,
  oA 122 (.indexAddr 55 (tm 115) (tm 118)) 0,
  oN (.store 3 (tm 122) (tm 121)) 0]
def c14_99 : AC := .region o14_99 []
abbrev o14_102 : List AO := [oA 123 (.move (tm 6)) 55,
  oA 124 (.move (tm 6)) 55,
  oA 125 (cB .len #[(tm 124)] #[55]) 3,
  oA 126 (.binOp .sub 3 (tm 125) (ci 1) 3) 3,
  oA 127 (.indexAddr 55 (tm 123) (tm 126)) 0,
  oA 128 (.load 3 (tm 127)) 3,
  oA 129 (.binOp .gtr 3 (tm 128) (ci 0) 3) 4]
def c14_102 : AC := .region o14_102 []
def c14_104 : AC := .goto 0
def c14_105 : AC := .skip
def c14_103 : AC := .cond (tm 129) c14_104 c14_105
def c14_101 : AC := .seq c14_102 c14_103
abbrev o14_108 : List AO := [oA 130 (.move (tm 0)) 9,
  oA 131 (.move (tm 7)) 3,
  oA 132 (cF 19 #[(tm 130), (tm 131)] #[9, 3]) 3,
  oA 7 (.assign (tm 132)) 3]
def c14_108 : AC := .region o14_108 []
abbrev o14_111 : List AO := [oA 134 (.move (tm 7)) 3,
  oA 135 (.move (tm 0)) 9,
  oA 136 (cB .len #[(tm 135)] #[9]) 3,
  oA 137 (.binOp .eql 3 (tm 134) (tm 136) 3) 4,
  oA 133 (.assign (tm 137)) 4]
def c14_111 : AC := .region o14_111 []
abbrev o14_114 : List AO := [oA 138 (.move (tm 7)) 3,
  oA 2 (.assign (.const (.slice none 0 0))) 34,
  oA 3 (.assign (tm 138)) 3,
  oA 4 (.assign (ci 2)) 39]
def c14_114 : AC := .region o14_114 []
def c14_115 : AC := .ret
def c14_113 : AC := .seq c14_114 c14_115
abbrev o14_117 : List AO := [oA 140 (.move (tm 0)) 9,
  oA 141 (.move (tm 7)) 3,
  oA 142 (.index 9 (tm 140) (tm 141)) 5,
  oA 143 (.binOp .neq 5 (tm 142) (.const (.int .u8 41)) 5) 4,
  oA 139 (.assign (tm 143)) 4]
def c14_117 : AC := .region o14_117 []
abbrev o14_120 : List AO := [oA 144 (.move (tm 7)) 3,
  oA 2 (.assign (.const (.slice none 0 0))) 34,
  oA 3 (.assign (tm 144)) 3,
  oA 4 (.assign (ci 12)) 39]
def c14_120 : AC := .region o14_120 []
def c14_121 : AC := .ret
def c14_119 : AC := .seq c14_120 c14_121
def c14_122 : AC := .skip
def c14_118 : AC := .cond (tm 139) c14_119 c14_122
def c14_116 : AC := .seq c14_117 c14_118
def c14_112 : AC := .cond (tm 133) c14_113 c14_116
def c14_110 : AC := .seq c14_111 c14_112
def c14_109 : AC := .block 1 c14_110
def c14_107 : AC := .seq c14_108 c14_109
abbrev o14_124 : List AO := [oA 145 (.move (tm 6)) 55,
  oA 146 (.move (tm 6)) 55,
  oA 147 (cB .len #[(tm 146)] #[55]) 3,
  oA 148 (.binOp .sub 3 (tm 147) (ci 1) 3) 3,
  oA 149 (.slice 55 (tm 145) none (some (tm 148)) none) 55,
  oA 150 (.move (tm 7)) 3,
  oA 151 (.binOp .add 3 (tm 150) (ci 1) 3) 3,
  oA 6 (.assign (tm 149)) 55,
  oA 7 (.assign (tm 151)) 3]
def c14_124 : AC := .region o14_124 []
def c14_125 : AC := .goto 1
def c14_123 : AC := .seq c14_124 c14_125
def c14_106 : AC := .seq c14_107 c14_123
def c14_100 : AC := .seq c14_101 c14_106
def c14_98 : AC := .seq c14_99 c14_100
def c14_80 : AC := .seq c14_81 c14_98
def c14_78 : AC := .seq c14_79 c14_80
def c14_66 : AC := .seq c14_67 c14_78
def c14_21 : AC := .seq c14_22 c14_66
def c14_19 : AC := .seq c14_20 c14_21
def c14_17 : AC := .seq c14_18 c14_19
def c14_15 : AC := .seq c14_16 c14_17
def c14_13 : AC := .seq c14_14 c14_15
def c14_11 : AC := .seq c14_12 c14_13
def c14_3 : AC := .seq c14_4 c14_11
def c14_2 : AC := .scope c14_3
def c14_0 : AC := .seq c14_1 c14_2
theorem r14_0 : SeqR Cx 14 c14_0 c14_1 c14_2 ∧ RegR Cx 14 c14_1 o14_1 ∧ ScopeR Cx 14 c14_2 c14_3 ∧ SeqR Cx 14 c14_3 c14_4 c14_11 ∧ SeqR Cx 14 c14_4 c14_5 c14_6 ∧ RegR Cx 14 c14_5 o14_5 ∧ CondR Cx 14 c14_6 (tm 21) c14_7 c14_10 ∧ SeqR Cx 14 c14_7 c14_8 c14_9 := ⟨run_seq, run_region, run_scope, run_seq, run_seq, run_region, run_condC, run_seq⟩
theorem r14_1 : RegR Cx 14 c14_8 o14_8 ∧ RetR Cx 14 c14_9 ∧ SkipR Cx 14 c14_10 ∧ SeqR Cx 14 c14_11 c14_12 c14_13 ∧ RegR Cx 14 c14_12 o14_12 ∧ SeqR Cx 14 c14_13 c14_14 c14_15 ∧ RegR Cx 14 c14_14 o14_14 ∧ SeqR Cx 14 c14_15 c14_16 c14_17 := ⟨run_region, run_ret, run_skip, run_seq, run_region, run_seq, run_region, run_seq⟩
theorem r14_2 : RegR Cx 14 c14_16 o14_16 ∧ SeqR Cx 14 c14_17 c14_18 c14_19 ∧ SkipR Cx 14 c14_18 ∧ SeqR Cx 14 c14_19 c14_20 c14_21 ∧ RegR Cx 14 c14_20 o14_20 ∧ SeqR Cx 14 c14_21 c14_22 c14_66 ∧ BlkR Cx 14 c14_22 0 c14_23 ∧ SeqR Cx 14 c14_23 c14_24 c14_25 := ⟨run_region, run_seq, run_label, run_seq, run_region, run_seq, run_block, run_seq⟩
theorem r14_3 : RegR Cx 14 c14_24 o14_24 ∧ CondR Cx 14 c14_25 (tm 25) c14_26 c14_29 ∧ SeqR Cx 14 c14_26 c14_27 c14_28 ∧ RegR Cx 14 c14_27 o14_27 ∧ RetR Cx 14 c14_28 ∧ SeqR Cx 14 c14_29 c14_30 c14_31 ∧ RegR Cx 14 c14_30 o14_30 ∧ CondR Cx 14 c14_31 (tm 31) c14_32 c14_35 := ⟨run_region, run_condC, run_seq, run_region, run_ret, run_seq, run_region, run_condC⟩
theorem r14_4 : SeqR Cx 14 c14_32 c14_33 c14_34 ∧ RegR Cx 14 c14_33 o14_33 ∧ RetR Cx 14 c14_34 ∧ SeqR Cx 14 c14_35 c14_36 c14_37 ∧ RegR Cx 14 c14_36 o14_36 ∧ CondR Cx 14 c14_37 (tm 42) c14_38 c14_41 ∧ SeqR Cx 14 c14_38 c14_39 c14_40 ∧ RegR Cx 14 c14_39 o14_39 := ⟨run_seq, run_region, run_ret, run_seq, run_region, run_condC, run_seq, run_region⟩
theorem r14_5 : RetR Cx 14 c14_40 ∧ SeqR Cx 14 c14_41 c14_42 c14_43 ∧ RegR Cx 14 c14_42 o14_42 ∧ CondR Cx 14 c14_43 (tm 47) c14_44 c14_47 ∧ SeqR Cx 14 c14_44 c14_45 c14_46 ∧ RegR Cx 14 c14_45 o14_45 ∧ RetR Cx 14 c14_46 ∧ SeqR Cx 14 c14_47 c14_48 c14_49 := ⟨run_ret, run_seq, run_region, run_condC, run_seq, run_region, run_ret, run_seq⟩
theorem r14_6 : RegR Cx 14 c14_48 o14_48 ∧ CondR Cx 14 c14_49 (tm 52) c14_50 c14_65 ∧ SeqR Cx 14 c14_50 c14_51 c14_52 ∧ RegR Cx 14 c14_51 o14_51 ∧ SeqR Cx 14 c14_52 c14_53 c14_60 ∧ SeqR Cx 14 c14_53 c14_54 c14_55 ∧ RegR Cx 14 c14_54 o14_54 ∧ CondR Cx 14 c14_55 (tm 67) c14_56 c14_59 := ⟨run_region, run_condC, run_seq, run_region, run_seq, run_seq, run_region, run_condC⟩
theorem r14_7 : SeqR Cx 14 c14_56 c14_57 c14_58 ∧ RegR Cx 14 c14_57 o14_57 ∧ RetR Cx 14 c14_58 ∧ SkipR Cx 14 c14_59 ∧ SeqR Cx 14 c14_60 c14_61 c14_62 ∧ RegR Cx 14 c14_61 o14_61 ∧ SeqR Cx 14 c14_62 c14_63 c14_64 ∧ RegR Cx 14 c14_63 o14_63 := ⟨run_seq, run_region, run_ret, run_skip, run_seq, run_region, run_seq, run_region⟩
theorem r14_8 : SkipR Cx 14 c14_65 ∧ SeqR Cx 14 c14_66 c14_67 c14_78 ∧ SeqR Cx 14 c14_67 c14_68 c14_69 ∧ RegR Cx 14 c14_68 o14_68 ∧ SeqR Cx 14 c14_69 c14_70 c14_77 ∧ SeqR Cx 14 c14_70 c14_71 c14_72 ∧ RegR Cx 14 c14_71 o14_71 ∧ CondR Cx 14 c14_72 (tm 95) c14_73 c14_76 := ⟨run_skip, run_seq, run_seq, run_region, run_seq, run_seq, run_region, run_condC⟩
theorem r14_9 : SeqR Cx 14 c14_73 c14_74 c14_75 ∧ RegR Cx 14 c14_74 o14_74 ∧ RetR Cx 14 c14_75 ∧ SkipR Cx 14 c14_76 ∧ RegR Cx 14 c14_77 o14_77 ∧ SeqR Cx 14 c14_78 c14_79 c14_80 ∧ SkipR Cx 14 c14_79 ∧ SeqR Cx 14 c14_80 c14_81 c14_98 := ⟨run_seq, run_region, run_ret, run_skip, run_region, run_seq, run_label, run_seq⟩
theorem r14_10 : SeqR Cx 14 c14_81 c14_82 c14_83 ∧ RegR Cx 14 c14_82 o14_82 ∧ CondR Cx 14 c14_83 (tm 105) c14_84 c14_97 ∧ SeqR Cx 14 c14_84 c14_85 c14_94 ∧ SeqR Cx 14 c14_85 c14_86 c14_87 ∧ RegR Cx 14 c14_86 o14_86 ∧ SeqR Cx 14 c14_87 c14_88 c14_89 ∧ RegR Cx 14 c14_88 o14_88 := ⟨run_seq, run_region, run_condC, run_seq, run_seq, run_region, run_seq, run_region⟩
theorem r14_11 : CondR Cx 14 c14_89 (tm 112) c14_90 c14_93 ∧ SeqR Cx 14 c14_90 c14_91 c14_92 ∧ RegR Cx 14 c14_91 o14_91 ∧ RetR Cx 14 c14_92 ∧ SkipR Cx 14 c14_93 ∧ SeqR Cx 14 c14_94 c14_95 c14_96 ∧ RegR Cx 14 c14_95 o14_95 ∧ RetR Cx 14 c14_96 := ⟨run_condC, run_seq, run_region, run_ret, run_skip, run_seq, run_region, run_ret⟩
theorem r14_12 : SkipR Cx 14 c14_97 ∧ SeqR Cx 14 c14_98 c14_99 c14_100 ∧ RegR Cx 14 c14_99 o14_99 ∧ SeqR Cx 14 c14_100 c14_101 c14_106 ∧ SeqR Cx 14 c14_101 c14_102 c14_103 ∧ RegR Cx 14 c14_102 o14_102 ∧ CondR Cx 14 c14_103 (tm 129) c14_104 c14_105 ∧ SkipR Cx 14 c14_105 := ⟨run_skip, run_seq, run_region, run_seq, run_seq, run_region, run_condC, run_skip⟩
theorem r14_13 : SeqR Cx 14 c14_106 c14_107 c14_123 ∧ SeqR Cx 14 c14_107 c14_108 c14_109 ∧ RegR Cx 14 c14_108 o14_108 ∧ BlkR Cx 14 c14_109 1 c14_110 ∧ SeqR Cx 14 c14_110 c14_111 c14_112 ∧ RegR Cx 14 c14_111 o14_111 ∧ CondR Cx 14 c14_112 (tm 133) c14_113 c14_116 ∧ SeqR Cx 14 c14_113 c14_114 c14_115 := ⟨run_seq, run_seq, run_region, run_block, run_seq, run_region, run_condC, run_seq⟩
theorem r14_14 : RegR Cx 14 c14_114 o14_114 ∧ RetR Cx 14 c14_115 ∧ SeqR Cx 14 c14_116 c14_117 c14_118 ∧ RegR Cx 14 c14_117 o14_117 ∧ CondR Cx 14 c14_118 (tm 139) c14_119 c14_122 ∧ SeqR Cx 14 c14_119 c14_120 c14_121 ∧ RegR Cx 14 c14_120 o14_120 ∧ RetR Cx 14 c14_121 := ⟨run_region, run_ret, run_seq, run_region, run_condC, run_seq, run_region, run_ret⟩
theorem r14_15 : SkipR Cx 14 c14_122 ∧ SeqR Cx 14 c14_123 c14_124 c14_125 ∧ RegR Cx 14 c14_124 o14_124 := ⟨run_skip, run_seq, run_region⟩
abbrev o15_1 : List AO := [oA 1 (.box 56 (tm 0)) 0,
  oA 2 (.assign (ci 0)) 3,
  oA 3 (.assign (.const (.bool false))) 4]
def c15_1 : AC := .region o15_1 []
abbrev o15_4 : List AO := [oA 8 (.fieldAddr 56 (tm 1) 0) 0,
  oA 9 (.load 3 (tm 8)) 3,
  oA 10 (cF 21 #[(tm 9)] #[3]) 69,
  oA 7 (.move (tm 10)) 69,
  oA 11 (.extract (tm 7) 0) 9,
  oA 12 (.extract (tm 7) 1) 3,
  oA 13 (.extract (tm 7) 2) 4,
  oA 4 (.assign (tm 11)) 9,
  oA 5 (.assign (tm 12)) 3,
  oA 6 (.assign (tm 13)) 4]
def c15_4 : AC := .region o15_4 []
abbrev o15_6 : List AO := [oA 14 (.move (tm 6)) 4]
def c15_6 : AC := .region o15_6 []
abbrev o15_9 : List AO := [oA 15 (.move (tm 5)) 3,
  oA 16 (.fieldAddr 56 (tm 1) 1) 0,
  oA 17 (.load 26 (tm 16)) 26,
  oA 18 (.build 26 #[]) 26,
  oA 19 (.binOp .eql 26 (tm 17) (tm 18) 26) 4,
  oA 2 (.assign (tm 15)) 3,
  oA 3 (.assign (tm 19)) 4]
def c15_9 : AC := .region o15_9 []
def c15_10 : AC := .ret
def c15_8 : AC := .seq c15_9 c15_10
def c15_11 : AC := .skip
def c15_7 : AC := .cond (tm 14) c15_8 c15_11
def c15_5 : AC := .seq c15_6 c15_7
def c15_3 : AC := .seq c15_4 c15_5
abbrev o15_13 : List AO := [oA 20 (.load 56 (tm 1)) 56,
  oA 21 (cF 23 #[(tm 20)] #[56]) 4,
  oA 2 (.assign (ci 0)) 3,
  oA 3 (.assign (tm 21)) 4]
def c15_13 : AC := .region o15_13 []
def c15_14 : AC := .ret
def c15_12 : AC := .seq c15_13 c15_14
def c15_2 : AC := .seq c15_3 c15_12
def c15_0 : AC := .seq c15_1 c15_2
theorem r15_0 : SeqR Cx 15 c15_0 c15_1 c15_2 ∧ RegR Cx 15 c15_1 o15_1 ∧ SeqR Cx 15 c15_2 c15_3 c15_12 ∧ SeqR Cx 15 c15_3 c15_4 c15_5 ∧ RegR Cx 15 c15_4 o15_4 ∧ SeqR Cx 15 c15_5 c15_6 c15_7 ∧ RegR Cx 15 c15_6 o15_6 ∧ CondR Cx 15 c15_7 (tm 14) c15_8 c15_11 := ⟨run_seq, run_region, run_seq, run_seq, run_region, run_seq, run_region, run_condC⟩
theorem r15_1 : SeqR Cx 15 c15_8 c15_9 c15_10 ∧ RegR Cx 15 c15_9 o15_9 ∧ RetR Cx 15 c15_10 ∧ SkipR Cx 15 c15_11 ∧ SeqR Cx 15 c15_12 c15_13 c15_14 ∧ RegR Cx 15 c15_13 o15_13 ∧ RetR Cx 15 c15_14 := ⟨run_seq, run_region, run_ret, run_skip, run_seq, run_region, run_ret⟩
theorem body15 : bodyOf Cx 15 = some c15_0 := by kernel_rfl
theorem res15 : resOf Cx 15 = some [.tmp 2, .tmp 3] := by kernel_rfl
theorem pure15 : Cx.pure 15 = true := by kernel_rfl
abbrev o16_1 : List AO := [oA 1 (.box 26 (tm 0)) 0,
  oA 2 (.assign (.const (.bool false))) 4]
def c16_1 : AC := .region o16_1 []
abbrev o16_3 : List AO := [oA 6 (.fieldAddr 26 (tm 1) 1) 0,
  oA 7 (.load 3 (tm 6)) 3,
  oA 8 (.binOp .neq 3 (tm 7) (ci 0) 3) 4,
  oA 9 (.fieldAddr 26 (tm 1) 2) 0,
  oA 10 (.load 9 (tm 9)) 9,
  oA 11 (.binOp .neq 9 (tm 10) (.const (.string ⟨#[]⟩)) 9) 4,
  oA 12 (.fieldAddr 26 (tm 1) 3) 0,
  oA 13 (.load 24 (tm 12)) 24,
  oA 14 (.build 24 #[]) 24,
  oA 15 (.binOp .neq 24 (tm 13) (tm 14) 24) 4,
  oA 3 (.assign (tm 8)) 4,
  oA 4 (.assign (tm 11)) 4,
  oA 5 (.assign (tm 15)) 4]
def c16_3 : AC := .region o16_3 []
abbrev o16_6 : List AO := [oA 16 (.fieldAddr 26 (tm 1) 0) 0,
  oA 17 (.load 3 (tm 16)) 3]
def c16_6 : AC := .region o16_6 []
abbrev o16_9 : List AO := [oA 19 (.binOp .eql 3 (tm 17) (ci 0) 3) 4,
  oA 18 (.assign (tm 19)) 4]
def c16_9 : AC := .region o16_9 []
abbrev o16_12 : List AO := [oA 20 (.fieldAddr 26 (tm 1) 1) 0,
  oA 21 (.load 3 (tm 20)) 3,
  oA 22 (.binOp .geq 3 (tm 21) (ci (-9007199254740992)) 3) 4,
  oA 23 (.move (tm 22)) 4,
  oG 24 (.fieldAddr 26 (tm 1) 1) 0 23 true,
  oG 25 (.load 3 (tm 24)) 3 23 true,
  oG 26 (.binOp .leq 3 (tm 25) (ci 9007199254740992) 3) 4 23 true,
  oA 27 (.pick (tm 23) (tm 26) (.const (.bool false))) 4,
  oA 28 (.move (tm 27)) 4,
  oG 29 (.move (tm 4)) 4 28 true,
  oG 30 (.unOp .not 4 (tm 29)) 4 28 true,
  oA 31 (.pick (tm 28) (tm 30) (.const (.bool false))) 4,
  oA 32 (.move (tm 31)) 4,
  oG 33 (.move (tm 5)) 4 32 true,
  oG 34 (.unOp .not 4 (tm 33)) 4 32 true,
  oA 35 (.pick (tm 32) (tm 34) (.const (.bool false))) 4,
  oA 2 (.assign (tm 35)) 4]
def c16_12 : AC := .region o16_12 []
def c16_13 : AC := .ret
def c16_11 : AC := .seq c16_12 c16_13
abbrev o16_15 : List AO := [oA 37 (.binOp .eql 3 (tm 17) (ci 1) 3) 4,
  oA 36 (.assign (tm 37)) 4]
def c16_15 : AC := .region o16_15 []
abbrev o16_18 : List AO := [oA 38 (.fieldAddr 26 (tm 1) 2) 0,
  oA 39 (.load 9 (tm 38)) 9,
  oA 40 (cB .len #[(tm 39)] #[9]) 3,
  oA 41 (.binOp .leq 3 (tm 40) (ci 4096) 3) 4,
  oA 42 (.move (tm 41)) 4,
  oG 43 (.move (tm 3)) 4 42 true,
  oG 44 (.unOp .not 4 (tm 43)) 4 42 true,
  oA 45 (.pick (tm 42) (tm 44) (.const (.bool false))) 4,
  oA 46 (.move (tm 45)) 4,
  oG 47 (.move (tm 5)) 4 46 true,
  oG 48 (.unOp .not 4 (tm 47)) 4 46 true,
  oA 49 (.pick (tm 46) (tm 48) (.const (.bool false))) 4,
  oA 2 (.assign (tm 49)) 4]
def c16_18 : AC := .region o16_18 []
def c16_19 : AC := .ret
def c16_17 : AC := .seq c16_18 c16_19
abbrev o16_21 : List AO := [oA 51 (.binOp .eql 3 (tm 17) (ci 2) 3) 4,
  oA 50 (.assign (tm 51)) 4]
def c16_21 : AC := .region o16_21 []
abbrev o16_24 : List AO := [oA 52 (.fieldAddr 26 (tm 1) 3) 0,
  oA 53 (.load 24 (tm 52)) 24,
  oA 54 (cF 24 #[(tm 53)] #[24]) 4,
  oA 55 (.move (tm 54)) 4,
  oG 56 (.move (tm 3)) 4 55 true,
  oG 57 (.unOp .not 4 (tm 56)) 4 55 true,
  oA 58 (.pick (tm 55) (tm 57) (.const (.bool false))) 4,
  oA 59 (.move (tm 58)) 4,
  oG 60 (.move (tm 4)) 4 59 true,
  oG 61 (.unOp .not 4 (tm 60)) 4 59 true,
  oA 62 (.pick (tm 59) (tm 61) (.const (.bool false))) 4,
  oA 2 (.assign (tm 62)) 4]
def c16_24 : AC := .region o16_24 []
def c16_25 : AC := .ret
def c16_23 : AC := .seq c16_24 c16_25
def c16_26 : AC := .skip
def c16_22 : AC := .cond (tm 50) c16_23 c16_26
def c16_20 : AC := .seq c16_21 c16_22
def c16_16 : AC := .cond (tm 36) c16_17 c16_20
def c16_14 : AC := .seq c16_15 c16_16
def c16_10 : AC := .cond (tm 18) c16_11 c16_14
def c16_8 : AC := .seq c16_9 c16_10
def c16_7 : AC := .block 0 c16_8
def c16_5 : AC := .seq c16_6 c16_7
abbrev o16_28 : List AO := [oA 2 (.assign (.const (.bool false))) 4]
def c16_28 : AC := .region o16_28 []
def c16_29 : AC := .ret
def c16_27 : AC := .seq c16_28 c16_29
def c16_4 : AC := .seq c16_5 c16_27
def c16_2 : AC := .seq c16_3 c16_4
def c16_0 : AC := .seq c16_1 c16_2
theorem r16_0 : SeqR Cx 16 c16_0 c16_1 c16_2 ∧ RegR Cx 16 c16_1 o16_1 ∧ SeqR Cx 16 c16_2 c16_3 c16_4 ∧ RegR Cx 16 c16_3 o16_3 ∧ SeqR Cx 16 c16_4 c16_5 c16_27 ∧ SeqR Cx 16 c16_5 c16_6 c16_7 ∧ RegR Cx 16 c16_6 o16_6 ∧ BlkR Cx 16 c16_7 0 c16_8 := ⟨run_seq, run_region, run_seq, run_region, run_seq, run_seq, run_region, run_block⟩
theorem r16_1 : SeqR Cx 16 c16_8 c16_9 c16_10 ∧ RegR Cx 16 c16_9 o16_9 ∧ CondR Cx 16 c16_10 (tm 18) c16_11 c16_14 ∧ SeqR Cx 16 c16_11 c16_12 c16_13 ∧ RegR Cx 16 c16_12 o16_12 ∧ RetR Cx 16 c16_13 ∧ SeqR Cx 16 c16_14 c16_15 c16_16 ∧ RegR Cx 16 c16_15 o16_15 := ⟨run_seq, run_region, run_condC, run_seq, run_region, run_ret, run_seq, run_region⟩
theorem r16_2 : CondR Cx 16 c16_16 (tm 36) c16_17 c16_20 ∧ SeqR Cx 16 c16_17 c16_18 c16_19 ∧ RegR Cx 16 c16_18 o16_18 ∧ RetR Cx 16 c16_19 ∧ SeqR Cx 16 c16_20 c16_21 c16_22 ∧ RegR Cx 16 c16_21 o16_21 ∧ CondR Cx 16 c16_22 (tm 50) c16_23 c16_26 ∧ SeqR Cx 16 c16_23 c16_24 c16_25 := ⟨run_condC, run_seq, run_region, run_ret, run_seq, run_region, run_condC, run_seq⟩
theorem r16_3 : RegR Cx 16 c16_24 o16_24 ∧ RetR Cx 16 c16_25 ∧ SkipR Cx 16 c16_26 ∧ SeqR Cx 16 c16_27 c16_28 c16_29 ∧ RegR Cx 16 c16_28 o16_28 ∧ RetR Cx 16 c16_29 := ⟨run_region, run_ret, run_skip, run_seq, run_region, run_ret⟩
theorem body16 : bodyOf Cx 16 = some c16_0 := by kernel_rfl
theorem res16 : resOf Cx 16 = some [.tmp 2] := by kernel_rfl
theorem pure16 : Cx.pure 16 = true := by kernel_rfl
abbrev o17_1 : List AO := [oA 2 (.assign (.const (.slice none 0 0))) 61]
def c17_1 : AC := .region o17_1 []
abbrev o17_3 : List AO := [oA 9 (.move (tm 0)) 34,
  oA 10 (cB .len #[(tm 9)] #[34]) 3,
  oA 11 (.makeSlice 61 (tm 10) (tm 10)) 61,
  oA 3 (.assign (tm 11)) 61]
def c17_3 : AC := .region o17_3 []
abbrev o17_6 : List AO := [oA 12 (.move (tm 0)) 34,
  oA 13 (cB .len #[(tm 12)] #[34]) 3,
  oA 14 (.binOp .sub 3 (tm 13) (ci 1) 3) 3,
  oA 4 (.assign (tm 14)) 3]
def c17_6 : AC := .region o17_6 []
abbrev o17_11 : List AO := [oA 15 (.move (tm 4)) 3,
  oA 16 (.binOp .geq 3 (tm 15) (ci 0) 3) 4]
def c17_11 : AC := .region o17_11 []
def c17_13 : AC := .skip
def c17_14 : AC := .exit 0
def c17_12 : AC := .cond (tm 16) c17_13 c17_14
def c17_10 : AC := .seq c17_11 c17_12
abbrev o17_18 : List AO := [oA 20 (.move (tm 0)) 34,
  oA 21 (.move (tm 4)) 3,
  oA 22 (.indexAddr 34 (tm 20) (tm 21)) 0,
  oA 23 (.fieldAddr 56 (tm 22) 0) 0,
  oA 24 (.load 3 (tm 23)) 3,
  oA 25 (cF 21 #[(tm 24)] #[3]) 69,
  oA 19 (.move (tm 25)) 69,
  oA 26 (.extract (tm 19) 0) 9,
  oA 27 (.extract (tm 19) 1) 3,
  oA 28 (.extract (tm 19) 2) 4,
  oA 5 (.assign (tm 26)) 9,
  oA 6 (.assign (tm 27)) 3,
  oA 7 (.assign (tm 28)) 4]
def c17_18 : AC := .region o17_18 []
abbrev o17_20 : List AO := [oA 29 (.move (tm 4)) 3,
  oA 30 (.binOp .add 3 (tm 29) (ci 1) 3) 3,
  oA 8 (.assign (tm 30)) 3]
def c17_20 : AC := .region o17_20 []
abbrev o17_23 : List AO := [oA 31 (.move (tm 6)) 3,
  oA 32 (.move (ci 0)) 3]
def c17_23 : AC := .region o17_23 []
abbrev o17_27 : List AO := [oA 33 (.binOp .lss 3 (tm 32) (tm 31) 3) 4]
def c17_27 : AC := .region o17_27 []
def c17_30 : AC := .skip
def c17_31 : AC := .exit 2
def c17_29 : AC := .cond (tm 33) c17_30 c17_31
abbrev o17_34 : List AO := [oA 34 (.move (tm 3)) 61,
  oA 35 (.move (tm 8)) 3,
  oA 36 (.indexAddr 61 (tm 34) (tm 35)) 0,
  oA 37 (.fieldAddr 74 (tm 36) 2) 0,
  oA 38 (.load 3 (tm 37)) 3,
  oA 8 (.assign (tm 38)) 3]
def c17_34 : AC := .region o17_34 []
def c17_33 : AC := .block 3 c17_34
abbrev o17_35 : List AO := [oA 39 (.binOp .add 3 (tm 32) (ci 1) 3) 3,
  oA 32 (.move (tm 39)) 3]
def c17_35 : AC := .region o17_35 []
def c17_32 : AC := .seq c17_33 c17_35
def c17_28 : AC := .seq c17_29 c17_32
def c17_26 : AC := .seq c17_27 c17_28
def c17_25 : AC := .loop c17_26
def c17_24 : AC := .block 2 c17_25
def c17_22 : AC := .seq c17_23 c17_24
abbrev o17_36 : List AO := [oA 40 (.move (tm 3)) 61,
  oA 41 (.move (tm 4)) 3,
  oA 42 (.move (tm 5)) 9,
  oA 43 (.move (tm 6)) 3,
  oA 44 (.move (tm 8)) 3,
  oA 45 (.build 74 #[(0, (tm 42)), (1, (tm 43)), (2, (tm 44))]) 74,
  oA 46 (.indexAddr 61 (tm 40) (tm 41)) 0,
  oN (.store 74 (tm 46) (tm 45)) 0]
def c17_36 : AC := .region o17_36 []
def c17_21 : AC := .seq c17_22 c17_36
def c17_19 : AC := .seq c17_20 c17_21
def c17_17 : AC := .seq c17_18 c17_19
def c17_16 : AC := .block 1 c17_17
abbrev o17_37 : List AO := [oA 17 (.move (tm 4)) 3,
  oA 18 (.binOp .sub 3 (tm 17) (ci 1) 3) 3,
  oA 4 (.assign (tm 18)) 3]
def c17_37 : AC := .region o17_37 []
def c17_15 : AC := .seq c17_16 c17_37
def c17_9 : AC := .seq c17_10 c17_15
def c17_8 : AC := .loop c17_9
def c17_7 : AC := .block 0 c17_8
def c17_5 : AC := .seq c17_6 c17_7
abbrev o17_39 : List AO := [oA 47 (.move (tm 3)) 61,
  oA 2 (.assign (tm 47)) 61]
def c17_39 : AC := .region o17_39 []
def c17_40 : AC := .ret
def c17_38 : AC := .seq c17_39 c17_40
def c17_4 : AC := .seq c17_5 c17_38
def c17_2 : AC := .seq c17_3 c17_4
def c17_0 : AC := .seq c17_1 c17_2
theorem r17_0 : SeqR Cx 17 c17_0 c17_1 c17_2 ∧ RegR Cx 17 c17_1 o17_1 ∧ SeqR Cx 17 c17_2 c17_3 c17_4 ∧ RegR Cx 17 c17_3 o17_3 ∧ SeqR Cx 17 c17_4 c17_5 c17_38 ∧ SeqR Cx 17 c17_5 c17_6 c17_7 ∧ RegR Cx 17 c17_6 o17_6 ∧ BlkR Cx 17 c17_7 0 c17_8 := ⟨run_seq, run_region, run_seq, run_region, run_seq, run_seq, run_region, run_block⟩
theorem r17_1 : LoopR Cx 17 c17_8 c17_9 ∧ SeqR Cx 17 c17_9 c17_10 c17_15 ∧ SeqR Cx 17 c17_10 c17_11 c17_12 ∧ RegR Cx 17 c17_11 o17_11 ∧ CondR Cx 17 c17_12 (tm 16) c17_13 c17_14 ∧ SkipR Cx 17 c17_13 ∧ ExitR Cx 17 c17_14 0 ∧ SeqR Cx 17 c17_15 c17_16 c17_37 := ⟨run_loop', run_seq, run_seq, run_region, run_condC, run_skip, run_exit_start, run_seq⟩
theorem r17_2 : BlkR Cx 17 c17_16 1 c17_17 ∧ SeqR Cx 17 c17_17 c17_18 c17_19 ∧ RegR Cx 17 c17_18 o17_18 ∧ SeqR Cx 17 c17_19 c17_20 c17_21 ∧ RegR Cx 17 c17_20 o17_20 ∧ SeqR Cx 17 c17_21 c17_22 c17_36 ∧ SeqR Cx 17 c17_22 c17_23 c17_24 ∧ RegR Cx 17 c17_23 o17_23 := ⟨run_block, run_seq, run_region, run_seq, run_region, run_seq, run_seq, run_region⟩
theorem r17_3 : BlkR Cx 17 c17_24 2 c17_25 ∧ LoopR Cx 17 c17_25 c17_26 ∧ SeqR Cx 17 c17_26 c17_27 c17_28 ∧ RegR Cx 17 c17_27 o17_27 ∧ SeqR Cx 17 c17_28 c17_29 c17_32 ∧ CondR Cx 17 c17_29 (tm 33) c17_30 c17_31 ∧ SkipR Cx 17 c17_30 ∧ ExitR Cx 17 c17_31 2 := ⟨run_block, run_loop', run_seq, run_region, run_seq, run_condC, run_skip, run_exit_start⟩
theorem r17_4 : SeqR Cx 17 c17_32 c17_33 c17_35 ∧ BlkR Cx 17 c17_33 3 c17_34 ∧ RegR Cx 17 c17_34 o17_34 ∧ RegR Cx 17 c17_35 o17_35 ∧ RegR Cx 17 c17_36 o17_36 ∧ RegR Cx 17 c17_37 o17_37 ∧ SeqR Cx 17 c17_38 c17_39 c17_40 ∧ RegR Cx 17 c17_39 o17_39 := ⟨run_seq, run_block, run_region, run_region, run_region, run_region, run_seq, run_region⟩
theorem r17_5 : RetR Cx 17 c17_40 := run_ret
theorem body17 : bodyOf Cx 17 = some c17_0 := by kernel_rfl
theorem res17 : resOf Cx 17 = some [.tmp 2] := by kernel_rfl
theorem pure17 : Cx.pure 17 = true := by kernel_rfl
abbrev o18_1 : List AO := [oA 4 (.alloc 26) 0]
def c18_1 : AC := .region o18_1 []
abbrev o18_4 : List AO := [oA 9 (.move (tm 0)) 60,
  oA 10 (.nilCheck (tm 9)) 0,
  oA 11 (.fieldAddr 64 (tm 10) 7) 0,
  oA 12 (.load 39 (tm 11)) 39,
  oA 13 (.binOp .neq 39 (tm 12) (ci 0) 39) 4,
  oA 14 (.move (tm 13)) 4,
  oG 15 (.move (tm 0)) 60 14 false,
  oG 16 (.nilCheck (tm 15)) 0 14 false,
  oG 17 (.fieldAddr 64 (tm 16) 6) 0 14 false,
  oG 18 (.load 3 (tm 17)) 3 14 false,
  oG 19 (.binOp .eql 3 (tm 18) (ci 0) 3) 4 14 false,
  oA 20 (.pick (tm 14) (.const (.bool true)) (tm 19)) 4]
def c18_4 : AC := .region o18_4 []
abbrev o18_7 : List AO := [oA 21 (.move (tm 0)) 60,
  oA 22 (cF 25 #[(tm 21), (ci 15)] #[60, 39]) 26,
  oN (.store 26 (tm 4) (tm 22)) 0]
def c18_7 : AC := .region o18_7 []
def c18_8 : AC := .ret
def c18_6 : AC := .seq c18_7 c18_8
def c18_9 : AC := .skip
def c18_5 : AC := .cond (tm 20) c18_6 c18_9
def c18_3 : AC := .seq c18_4 c18_5
abbrev o18_11 : List AO := [oA 23 (.move (tm 0)) 60,
  oA 24 (.nilCheck (tm 23)) 0,
  oA 25 (.fieldAddr 64 (tm 24) 6) 0,
  oA 26 (.load 3 (tm 25)) 3,
  oA 27 (.binOp .sub 3 (tm 26) (ci 1) 3) 3,
  oA 28 (.nilCheck (tm 23)) 0,
  oA 29 (.fieldAddr 64 (tm 28) 6) 0,
  oN (.store 3 (tm 29) (tm 27)) 0]
def c18_11 : AC := .region o18_11 []
abbrev o18_13 : List AO := [oA 30 (.move (tm 0)) 60,
  oA 31 (.nilCheck (tm 30)) 0,
  oA 32 (.fieldAddr 64 (tm 31) 0) 0,
  oA 33 (.load 34 (tm 32)) 34,
  oA 34 (.move (tm 1)) 3,
  oA 35 (.indexAddr 34 (tm 33) (tm 34)) 0,
  oA 36 (.load 56 (tm 35)) 56,
  oA 37 (.move (tm 0)) 60,
  oA 38 (.nilCheck (tm 37)) 0,
  oA 39 (.fieldAddr 64 (tm 38) 1) 0,
  oA 40 (.load 61 (tm 39)) 61,
  oA 41 (.move (tm 1)) 3,
  oA 42 (.indexAddr 61 (tm 40) (tm 41)) 0,
  oA 43 (.fieldAddr 74 (tm 42) 0) 0,
  oA 44 (.load 9 (tm 43)) 9,
  oA 5 (.alloc 56) 0,
  oN (.store 56 (tm 5) (tm 36)) 0,
  oA 6 (.assign (tm 44)) 9]
def c18_13 : AC := .region o18_13 [[], [], [], [], [], [], [], [], [], [], [], [], [], [], [], [], [39, 43], []]
abbrev o18_17 : List AO := [oA 46 (.fieldAddr 56 (tm 5) 0) 0,
  oA 47 (.load 3 (tm 46)) 3,
  oA 48 (.binOp .eql 3 (tm 47) (ci 0) 3) 4,
  oA 45 (.assign (tm 48)) 4]
def c18_17 : AC := .region o18_17 []
abbrev o18_20 : List AO := [oA 49 (.fieldAddr 56 (tm 5) 1) 0,
  oA 50 (.load 26 (tm 49)) 26,
  oN (.store 26 (tm 4) (tm 50)) 0]
def c18_20 : AC := .region o18_20 []
def c18_21 : AC := .ret
def c18_19 : AC := .seq c18_20 c18_21
abbrev o18_23 : List AO := [oA 52 (.move (tm 6)) 9,
  oA 53 (.binOp .eql 9 (tm 52) (.const (.string ⟨#[]⟩)) 9) 4,
  oA 51 (.assign (tm 53)) 4]
def c18_23 : AC := .region o18_23 []
abbrev o18_26 : List AO := [oA 54 (.move (tm 0)) 60,
  oA 55 (.fieldAddr 56 (tm 5) 1) 0,
  oA 56 (.fieldAddr 26 (tm 55) 1) 0,
  oA 57 (.load 3 (tm 56)) 3,
  oA 58 (cF 26 #[(tm 54), (tm 57)] #[60, 3]) 26,
  oN (.store 26 (tm 4) (tm 58)) 0]
def c18_26 : AC := .region o18_26 []
def c18_27 : AC := .ret
def c18_25 : AC := .seq c18_26 c18_27
abbrev o18_29 : List AO := [oA 60 (.move (tm 6)) 9,
  oA 61 (.binOp .eql 9 (tm 60) (.const (.string ⟨#[105, 102]⟩)) 9) 4,
  oA 62 (.move (tm 61)) 4,
  oG 63 (.move (tm 6)) 9 62 false,
  oG 64 (.binOp .eql 9 (tm 63) (.const (.string ⟨#[101, 97, 99, 104]⟩)) 9) 4 62 false,
  oA 65 (.pick (tm 62) (.const (.bool true)) (tm 64)) 4,
  oA 66 (.move (tm 65)) 4,
  oG 67 (.move (tm 6)) 9 66 false,
  oG 68 (.binOp .eql 9 (tm 67) (.const (.string ⟨#[108, 101, 116]⟩)) 9) 4 66 false,
  oA 69 (.pick (tm 66) (.const (.bool true)) (tm 68)) 4,
  oA 59 (.assign (tm 69)) 4]
def c18_29 : AC := .region o18_29 []
abbrev o18_32 : List AO := [oA 70 (.move (tm 0)) 60,
  oA 71 (.move (tm 6)) 9,
  oA 72 (.move (tm 1)) 3,
  oA 73 (cF 27 #[(tm 70), (tm 71), (tm 72)] #[60, 9, 3]) 26,
  oN (.store 26 (tm 4) (tm 73)) 0]
def c18_32 : AC := .region o18_32 []
def c18_33 : AC := .ret
def c18_31 : AC := .seq c18_32 c18_33
def c18_34 : AC := .skip
def c18_30 : AC := .cond (tm 59) c18_31 c18_34
def c18_28 : AC := .seq c18_29 c18_30
def c18_24 : AC := .cond (tm 51) c18_25 c18_28
def c18_22 : AC := .seq c18_23 c18_24
def c18_18 : AC := .cond (tm 45) c18_19 c18_22
def c18_16 : AC := .seq c18_17 c18_18
def c18_15 : AC := .block 0 c18_16
abbrev o18_36 : List AO := [oA 7 (.assign (.const (.slice none 0 0))) 77]
def c18_36 : AC := .region o18_36 []
abbrev o18_38 : List AO := [oA 74 (.move (tm 1)) 3,
  oA 75 (.binOp .add 3 (tm 74) (ci 1) 3) 3,
  oA 8 (.assign (tm 75)) 3]
def c18_38 : AC := .region o18_38 []
abbrev o18_41 : List AO := [oA 76 (.move (tm 0)) 60,
  oA 77 (.nilCheck (tm 76)) 0,
  oA 78 (.fieldAddr 64 (tm 77) 1) 0,
  oA 79 (.load 61 (tm 78)) 61,
  oA 80 (.move (tm 1)) 3,
  oA 81 (.indexAddr 61 (tm 79) (tm 80)) 0,
  oA 82 (.fieldAddr 74 (tm 81) 1) 0,
  oA 83 (.load 3 (tm 82)) 3,
  oA 84 (.move (ci 0)) 3]
def c18_41 : AC := .region o18_41 []
abbrev o18_45 : List AO := [oA 85 (.binOp .lss 3 (tm 84) (tm 83) 3) 4]
def c18_45 : AC := .region o18_45 []
def c18_48 : AC := .skip
def c18_49 : AC := .exit 1
def c18_47 : AC := .cond (tm 85) c18_48 c18_49
abbrev o18_53 : List AO := [oA 86 (.move (tm 7)) 77,
  oA 87 (.move (tm 0)) 60,
  oA 88 (.move (tm 8)) 3,
  oA 89 (cF 18 #[(tm 87), (tm 88)] #[60, 3]) 26,
  oA 90 (.buildSlice 77 1 #[(0, (tm 89))]) 77,
  oA 91 (cB .append #[(tm 86), (tm 90)] #[77, 77]) 77,
  oA 7 (.assign (tm 91)) 77]
def c18_53 : AC := .region o18_53 []
abbrev o18_56 : List AO := [oA 92 (.move (tm 0)) 60,
  oA 93 (.nilCheck (tm 92)) 0,
  oA 94 (.fieldAddr 64 (tm 93) 7) 0,
  oA 95 (.load 39 (tm 94)) 39,
  oA 96 (.binOp .neq 39 (tm 95) (ci 0) 39) 4]
def c18_56 : AC := .region o18_56 []
abbrev o18_59 : List AO := [oA 97 (.build 26 #[]) 26,
  oN (.store 26 (tm 4) (tm 97)) 0]
def c18_59 : AC := .region o18_59 []
def c18_60 : AC := .ret
def c18_58 : AC := .seq c18_59 c18_60
def c18_61 : AC := .skip
def c18_57 : AC := .cond (tm 96) c18_58 c18_61
def c18_55 : AC := .seq c18_56 c18_57
abbrev o18_62 : List AO := [oA 98 (.move (tm 0)) 60,
  oA 99 (.move (tm 8)) 3,
  oA 100 (cF 28 #[(tm 98), (tm 99)] #[60, 3]) 3,
  oA 8 (.assign (tm 100)) 3]
def c18_62 : AC := .region o18_62 []
def c18_54 : AC := .seq c18_55 c18_62
def c18_52 : AC := .seq c18_53 c18_54
def c18_51 : AC := .block 2 c18_52
abbrev o18_63 : List AO := [oA 101 (.binOp .add 3 (tm 84) (ci 1) 3) 3,
  oA 84 (.move (tm 101)) 3]
def c18_63 : AC := .region o18_63 []
def c18_50 : AC := .seq c18_51 c18_63
def c18_46 : AC := .seq c18_47 c18_50
def c18_44 : AC := .seq c18_45 c18_46
def c18_43 : AC := .loop c18_44
def c18_42 : AC := .block 1 c18_43
def c18_40 : AC := .seq c18_41 c18_42
abbrev o18_65 : List AO := [oA 102 (.move (tm 0)) 60,
  oA 103 (.move (tm 6)) 9,
  oA 104 (cF 29 #[(tm 102), (tm 103)] #[60, 9]) 79,
  oA 105 (.move (tm 6)) 9,
  oA 106 (.move (tm 7)) 77,
  oA 107 (cV 104 #[(tm 105), (tm 106)] #[9, 77]) 26,
  oN (.store 26 (tm 4) (tm 107)) 0]
def c18_65 : AC := .region o18_65 []
def c18_66 : AC := .ret
def c18_64 : AC := .seq c18_65 c18_66
def c18_39 : AC := .seq c18_40 c18_64
def c18_37 : AC := .seq c18_38 c18_39
def c18_35 : AC := .seq c18_36 c18_37
def c18_14 : AC := .seq c18_15 c18_35
def c18_12 : AC := .seq c18_13 c18_14
def c18_10 : AC := .seq c18_11 c18_12
def c18_2 : AC := .seq c18_3 c18_10
def c18_0 : AC := .seq c18_1 c18_2
theorem r18_0 : SeqR Cx 18 c18_0 c18_1 c18_2 ∧ RegR Cx 18 c18_1 o18_1 ∧ SeqR Cx 18 c18_2 c18_3 c18_10 ∧ SeqR Cx 18 c18_3 c18_4 c18_5 ∧ RegR Cx 18 c18_4 o18_4 ∧ CondR Cx 18 c18_5 (tm 20) c18_6 c18_9 ∧ SeqR Cx 18 c18_6 c18_7 c18_8 ∧ RegR Cx 18 c18_7 o18_7 := ⟨run_seq, run_region, run_seq, run_seq, run_region, run_condC, run_seq, run_region⟩
theorem r18_1 : RetR Cx 18 c18_8 ∧ SkipR Cx 18 c18_9 ∧ SeqR Cx 18 c18_10 c18_11 c18_12 ∧ RegR Cx 18 c18_11 o18_11 ∧ SeqR Cx 18 c18_12 c18_13 c18_14 ∧ RegD Cx 18 c18_13 o18_13 [[], [], [], [], [], [], [], [], [], [], [], [], [], [], [], [], [39, 43], []] ∧ SeqR Cx 18 c18_14 c18_15 c18_35 ∧ BlkR Cx 18 c18_15 0 c18_16 := ⟨run_ret, run_skip, run_seq, run_region, run_seq, run_regionD, run_seq, run_block⟩
theorem r18_2 : SeqR Cx 18 c18_16 c18_17 c18_18 ∧ RegR Cx 18 c18_17 o18_17 ∧ CondR Cx 18 c18_18 (tm 45) c18_19 c18_22 ∧ SeqR Cx 18 c18_19 c18_20 c18_21 ∧ RegR Cx 18 c18_20 o18_20 ∧ RetR Cx 18 c18_21 ∧ SeqR Cx 18 c18_22 c18_23 c18_24 ∧ RegR Cx 18 c18_23 o18_23 := ⟨run_seq, run_region, run_condC, run_seq, run_region, run_ret, run_seq, run_region⟩
theorem r18_3 : CondR Cx 18 c18_24 (tm 51) c18_25 c18_28 ∧ SeqR Cx 18 c18_25 c18_26 c18_27 ∧ RegR Cx 18 c18_26 o18_26 ∧ RetR Cx 18 c18_27 ∧ SeqR Cx 18 c18_28 c18_29 c18_30 ∧ RegR Cx 18 c18_29 o18_29 ∧ CondR Cx 18 c18_30 (tm 59) c18_31 c18_34 ∧ SeqR Cx 18 c18_31 c18_32 c18_33 := ⟨run_condC, run_seq, run_region, run_ret, run_seq, run_region, run_condC, run_seq⟩
theorem r18_4 : RegR Cx 18 c18_32 o18_32 ∧ RetR Cx 18 c18_33 ∧ SkipR Cx 18 c18_34 ∧ SeqR Cx 18 c18_35 c18_36 c18_37 ∧ RegR Cx 18 c18_36 o18_36 ∧ SeqR Cx 18 c18_37 c18_38 c18_39 ∧ RegR Cx 18 c18_38 o18_38 ∧ SeqR Cx 18 c18_39 c18_40 c18_64 := ⟨run_region, run_ret, run_skip, run_seq, run_region, run_seq, run_region, run_seq⟩
theorem r18_5 : SeqR Cx 18 c18_40 c18_41 c18_42 ∧ RegR Cx 18 c18_41 o18_41 ∧ BlkR Cx 18 c18_42 1 c18_43 ∧ LoopR Cx 18 c18_43 c18_44 ∧ SeqR Cx 18 c18_44 c18_45 c18_46 ∧ RegR Cx 18 c18_45 o18_45 ∧ SeqR Cx 18 c18_46 c18_47 c18_50 ∧ CondR Cx 18 c18_47 (tm 85) c18_48 c18_49 := ⟨run_seq, run_region, run_block, run_loop', run_seq, run_region, run_seq, run_condC⟩
theorem r18_6 : SkipR Cx 18 c18_48 ∧ ExitR Cx 18 c18_49 1 ∧ SeqR Cx 18 c18_50 c18_51 c18_63 ∧ BlkR Cx 18 c18_51 2 c18_52 ∧ SeqR Cx 18 c18_52 c18_53 c18_54 ∧ RegR Cx 18 c18_53 o18_53 ∧ SeqR Cx 18 c18_54 c18_55 c18_62 ∧ SeqR Cx 18 c18_55 c18_56 c18_57 := ⟨run_skip, run_exit_start, run_seq, run_block, run_seq, run_region, run_seq, run_seq⟩
theorem r18_7 : RegR Cx 18 c18_56 o18_56 ∧ CondR Cx 18 c18_57 (tm 96) c18_58 c18_61 ∧ SeqR Cx 18 c18_58 c18_59 c18_60 ∧ RegR Cx 18 c18_59 o18_59 ∧ RetR Cx 18 c18_60 ∧ SkipR Cx 18 c18_61 ∧ RegR Cx 18 c18_62 o18_62 ∧ RegR Cx 18 c18_63 o18_63 := ⟨run_region, run_condC, run_seq, run_region, run_ret, run_skip, run_region, run_region⟩
theorem r18_8 : SeqR Cx 18 c18_64 c18_65 c18_66 ∧ RegR Cx 18 c18_65 o18_65 ∧ RetR Cx 18 c18_66 := ⟨run_seq, run_region, run_ret⟩
theorem body18 : bodyOf Cx 18 = some c18_0 := by kernel_rfl
theorem res18 : resOf Cx 18 = some [.cell 4 26] := by kernel_rfl
theorem pure18 : Cx.pure 18 = false := by kernel_rfl
abbrev o19_1 : List AO := [oA 4 (.assign (ci 0)) 3]
def c19_1 : AC := .region o19_1 []
abbrev o19_7 : List AO := [oA 5 (.move (tm 1)) 3,
  oA 6 (.move (tm 0)) 9,
  oA 7 (cB .len #[(tm 6)] #[9]) 3,
  oA 8 (.binOp .lss 3 (tm 5) (tm 7) 3) 4,
  oA 9 (.move (tm 8)) 4,
  oG 10 (.move (tm 0)) 9 9 true,
  oG 11 (.move (tm 1)) 3 9 true,
  oG 12 (.index 9 (tm 10) (tm 11)) 5 9 true,
  oG 13 (.binOp .eql 5 (tm 12) (.const (.int .u8 32)) 5) 4 9 true,
  oA 14 (.pick (tm 9) (tm 13) (.const (.bool false))) 4]
def c19_7 : AC := .region o19_7 []
def c19_9 : AC := .skip
def c19_10 : AC := .exit 0
def c19_8 : AC := .cond (tm 14) c19_9 c19_10
def c19_6 : AC := .seq c19_7 c19_8
abbrev o19_12 : List AO := [oA 15 (.move (tm 1)) 3,
  oA 16 (.binOp .add 3 (tm 15) (ci 1) 3) 3,
  oA 1 (.assign (tm 16)) 3]
def c19_12 : AC := .region o19_12 []
def c19_11 : AC := .block 1 c19_12
def c19_5 : AC := .seq c19_6 c19_11
def c19_4 : AC := .loop c19_5
def c19_3 : AC := .block 0 c19_4
abbrev o19_14 : List AO := [oA 17 (.move (tm 1)) 3,
  oA 4 (.assign (tm 17)) 3]
def c19_14 : AC := .region o19_14 []
def c19_15 : AC := .ret
def c19_13 : AC := .seq c19_14 c19_15
def c19_2 : AC := .seq c19_3 c19_13
def c19_0 : AC := .seq c19_1 c19_2
theorem r19_0 : SeqR Cx 19 c19_0 c19_1 c19_2 ∧ RegR Cx 19 c19_1 o19_1 ∧ SeqR Cx 19 c19_2 c19_3 c19_13 ∧ BlkR Cx 19 c19_3 0 c19_4 ∧ LoopR Cx 19 c19_4 c19_5 ∧ SeqR Cx 19 c19_5 c19_6 c19_11 ∧ SeqR Cx 19 c19_6 c19_7 c19_8 ∧ RegR Cx 19 c19_7 o19_7 := ⟨run_seq, run_region, run_seq, run_block, run_loop', run_seq, run_seq, run_region⟩
theorem r19_1 : CondR Cx 19 c19_8 (tm 14) c19_9 c19_10 ∧ SkipR Cx 19 c19_9 ∧ ExitR Cx 19 c19_10 0 ∧ BlkR Cx 19 c19_11 1 c19_12 ∧ RegR Cx 19 c19_12 o19_12 ∧ SeqR Cx 19 c19_13 c19_14 c19_15 ∧ RegR Cx 19 c19_14 o19_14 ∧ RetR Cx 19 c19_15 := ⟨run_condC, run_skip, run_exit_start, run_block, run_region, run_seq, run_region, run_ret⟩
abbrev o20_1 : List AO := [oA 2 (.box 9 (tm 0)) 0,
  oA 3 (.box 3 (tm 1)) 0,
  oA 4 (.alloc 56) 0,
  oA 5 (.assign (ci 0)) 3,
  oA 6 (.assign (ci 0)) 3,
  oA 7 (.assign (ci 0)) 39]
def c20_1 : AC := .region o20_1 []
abbrev o20_3 : List AO := [oA 10 (.load 9 (tm 2)) 9,
  oA 11 (.load 3 (tm 3)) 3,
  oA 12 (cF 30 #[(tm 10), (tm 11)] #[9, 3]) 3,
  oA 8 (.alloc 3) 0,
  oN (.store 3 (tm 8) (tm 12)) 0]
def c20_3 : AC := .region o20_3 []
abbrev o20_5 : List AO := [oA 13 (cF 32 #[] #[]) 82,
  oA 14 (.makeFunc (.func 33) #[] #[(tm 2), (tm 3), (tm 8)]) 86,
  oA 15 (cF 31 #[(tm 13), (tm 14)] #[82, 86]) 3,
  oA 9 (.assign (tm 15)) 3]
def c20_5 : AC := .region o20_5 []
abbrev o20_8 : List AO := [oA 16 (.move (tm 9)) 3,
  oA 17 (.binOp .lss 3 (tm 16) (ci 0) 3) 4]
def c20_8 : AC := .region o20_8 []
abbrev o20_11 : List AO := [oA 18 (.build 56 #[]) 56,
  oA 19 (.load 3 (tm 3)) 3,
  oN (.store 56 (tm 4) (tm 18)) 0,
  oA 5 (.assign (ci 0)) 3,
  oA 6 (.assign (tm 19)) 3,
  oA 7 (.assign (ci 10)) 39]
def c20_11 : AC := .region o20_11 [[], [], [3], [], [], []]
def c20_12 : AC := .ret
def c20_10 : AC := .seq c20_11 c20_12
def c20_13 : AC := .skip
def c20_9 : AC := .cond (tm 17) c20_10 c20_13
def c20_7 : AC := .seq c20_8 c20_9
abbrev o20_15 : List AO := [oA 20 (.move (tm 9)) 3,
  oA 21 (.binOp .add 3 (tm 20) (ci 1) 3) 3,
  oA 22 (.binOp .add 3 (tm 21) (ci 1) 3) 3,
  oA 23 (.build 56 #[(0, (tm 22))]) 56,
  oA 24 (.load 3 (tm 8)) 3,
  oN (.store 56 (tm 4) (tm 23)) 0,
  oA 5 (.assign (tm 24)) 3,
  oA 6 (.assign (ci 0)) 3,
  oA 7 (.assign (ci 0)) 39]
def c20_15 : AC := .region o20_15 [[], [], [], [], [], [8], [], [], []]
def c20_16 : AC := .ret
def c20_14 : AC := .seq c20_15 c20_16
def c20_6 : AC := .seq c20_7 c20_14
def c20_4 : AC := .seq c20_5 c20_6
def c20_2 : AC := .seq c20_3 c20_4
def c20_0 : AC := .seq c20_1 c20_2
theorem r20_0 : SeqR Cx 20 c20_0 c20_1 c20_2 ∧ RegR Cx 20 c20_1 o20_1 ∧ SeqR Cx 20 c20_2 c20_3 c20_4 ∧ RegR Cx 20 c20_3 o20_3 ∧ SeqR Cx 20 c20_4 c20_5 c20_6 ∧ RegR Cx 20 c20_5 o20_5 ∧ SeqR Cx 20 c20_6 c20_7 c20_14 ∧ SeqR Cx 20 c20_7 c20_8 c20_9 := ⟨run_seq, run_region, run_seq, run_region, run_seq, run_region, run_seq, run_seq⟩
theorem r20_1 : RegR Cx 20 c20_8 o20_8 ∧ CondR Cx 20 c20_9 (tm 17) c20_10 c20_13 ∧ SeqR Cx 20 c20_10 c20_11 c20_12 ∧ RegD Cx 20 c20_11 o20_11 [[], [], [3], [], [], []] ∧ RetR Cx 20 c20_12 ∧ SkipR Cx 20 c20_13 ∧ SeqR Cx 20 c20_14 c20_15 c20_16 ∧ RegD Cx 20 c20_15 o20_15 [[], [], [], [], [], [8], [], [], []] := ⟨run_region, run_condC, run_seq, run_regionD, run_ret, run_skip, run_seq, run_regionD⟩
theorem r20_2 : RetR Cx 20 c20_16 := run_ret
abbrev o21_1 : List AO := [oA 2 (.assign (.const (.string ⟨#[]⟩))) 9,
  oA 3 (.assign (ci 0)) 3,
  oA 4 (.assign (.const (.bool false))) 4]
def c21_1 : AC := .region o21_1 []
abbrev o21_4 : List AO := [oA 6 (.move (tm 0)) 3,
  oA 7 (.binOp .leq 3 (tm 6) (ci 1) 3) 4,
  oA 8 (.move (tm 7)) 4,
  oG 9 (.move (tm 0)) 3 8 false,
  oG 10 (.binOp .gtr 3 (tm 9) (ci 29) 3) 4 8 false,
  oA 11 (.pick (tm 8) (.const (.bool true)) (tm 10)) 4]
def c21_4 : AC := .region o21_4 []
abbrev o21_7 : List AO := [oA 2 (.assign (.const (.string ⟨#[]⟩))) 9,
  oA 3 (.assign (ci 0)) 3,
  oA 4 (.assign (.const (.bool false))) 4]
def c21_7 : AC := .region o21_7 []
def c21_8 : AC := .ret
def c21_6 : AC := .seq c21_7 c21_8
def c21_9 : AC := .skip
def c21_5 : AC := .cond (tm 11) c21_6 c21_9
def c21_3 : AC := .seq c21_4 c21_5
abbrev o21_11 : List AO := [oA 12 (cF 32 #[] #[]) 82,
  oA 13 (.move (tm 0)) 3,
  oA 14 (.binOp .sub 3 (tm 13) (ci 1) 3) 3,
  oA 15 (.binOp .sub 3 (tm 14) (ci 1) 3) 3,
  oA 16 (.indexAddr 82 (tm 12) (tm 15)) 0,
  oA 17 (.load 84 (tm 16)) 84,
  oA 5 (.alloc 84) 0,
  oN (.store 84 (tm 5) (tm 17)) 0]
def c21_11 : AC := .region o21_11 []
abbrev o21_13 : List AO := [oA 18 (.fieldAddr 84 (tm 5) 0) 0,
  oA 19 (.load 9 (tm 18)) 9,
  oA 20 (.fieldAddr 84 (tm 5) 1) 0,
  oA 21 (.load 3 (tm 20)) 3,
  oA 2 (.assign (tm 19)) 9,
  oA 3 (.assign (tm 21)) 3,
  oA 4 (.assign (.const (.bool true))) 4]
def c21_13 : AC := .region o21_13 []
def c21_14 : AC := .ret
def c21_12 : AC := .seq c21_13 c21_14
def c21_10 : AC := .seq c21_11 c21_12
def c21_2 : AC := .seq c21_3 c21_10
def c21_0 : AC := .seq c21_1 c21_2
theorem r21_0 : SeqR Cx 21 c21_0 c21_1 c21_2 ∧ RegR Cx 21 c21_1 o21_1 ∧ SeqR Cx 21 c21_2 c21_3 c21_10 ∧ SeqR Cx 21 c21_3 c21_4 c21_5 ∧ RegR Cx 21 c21_4 o21_4 ∧ CondR Cx 21 c21_5 (tm 11) c21_6 c21_9 ∧ SeqR Cx 21 c21_6 c21_7 c21_8 ∧ RegR Cx 21 c21_7 o21_7 := ⟨run_seq, run_region, run_seq, run_seq, run_region, run_condC, run_seq, run_region⟩
theorem r21_1 : RetR Cx 21 c21_8 ∧ SkipR Cx 21 c21_9 ∧ SeqR Cx 21 c21_10 c21_11 c21_12 ∧ RegR Cx 21 c21_11 o21_11 ∧ SeqR Cx 21 c21_12 c21_13 c21_14 ∧ RegR Cx 21 c21_13 o21_13 ∧ RetR Cx 21 c21_14 := ⟨run_ret, run_skip, run_seq, run_region, run_seq, run_region, run_ret⟩
theorem body21 : bodyOf Cx 21 = some c21_0 := by kernel_rfl
theorem res21 : resOf Cx 21 = some [.tmp 2, .tmp 3, .tmp 4] := by kernel_rfl
theorem pure21 : Cx.pure 21 = true := by kernel_rfl
abbrev o22_1 : List AO := [oA 4 (.alloc 56) 0,
  oA 5 (.assign (ci 0)) 3,
  oA 6 (.assign (ci 0)) 3,
  oA 7 (.assign (ci 0)) 39]
def c22_1 : AC := .region o22_1 []
abbrev o22_4 : List AO := [oA 14 (.move (tm 0)) 9,
  oA 15 (.move (tm 1)) 3,
  oA 16 (.index 9 (tm 14) (tm 15)) 5,
  oA 8 (.assign (tm 16)) 5]
def c22_4 : AC := .region o22_4 []
abbrev o22_6 : List AO := [oA 17 (.move (tm 8)) 5,
  oA 18 (.binOp .geq 5 (tm 17) (.const (.int .u8 97)) 5) 4,
  oA 19 (.move (tm 18)) 4,
  oG 20 (.move (tm 8)) 5 19 true,
  oG 21 (.binOp .leq 5 (tm 20) (.const (.int .u8 122)) 5) 4 19 true,
  oA 22 (.pick (tm 19) (tm 21) (.const (.bool false))) 4]
def c22_6 : AC := .region o22_6 []
abbrev o22_9 : List AO := [oA 23 (.move (tm 0)) 9,
  oA 24 (.move (tm 1)) 3,
  oA 25 (cF 30 #[(tm 23), (tm 24)] #[9, 3]) 3,
  oA 9 (.assign (tm 25)) 3]
def c22_9 : AC := .region o22_9 []
abbrev o22_11 : List AO := [oA 26 (cF 35 #[] #[]) 88,
  oA 27 (.move (tm 0)) 9,
  oA 28 (.move (tm 1)) 3,
  oA 29 (.move (tm 9)) 3,
  oA 30 (.slice 9 (tm 27) (some (tm 28)) (some (tm 29)) none) 9,
  oA 31 (cF 34 #[(tm 26), (tm 30)] #[88, 9]) 3,
  oA 10 (.assign (tm 31)) 3]
def c22_11 : AC := .region o22_11 []
abbrev o22_14 : List AO := [oA 32 (.move (tm 10)) 3,
  oA 33 (.binOp .lss 3 (tm 32) (ci 0) 3) 4]
def c22_14 : AC := .region o22_14 []
abbrev o22_17 : List AO := [oA 34 (.build 56 #[]) 56,
  oA 35 (.move (tm 1)) 3,
  oN (.store 56 (tm 4) (tm 34)) 0,
  oA 5 (.assign (ci 0)) 3,
  oA 6 (.assign (tm 35)) 3,
  oA 7 (.assign (ci 10)) 39]
def c22_17 : AC := .region o22_17 []
def c22_18 : AC := .ret
def c22_16 : AC := .seq c22_17 c22_18
def c22_19 : AC := .skip
def c22_15 : AC := .cond (tm 33) c22_16 c22_19
def c22_13 : AC := .seq c22_14 c22_15
abbrev o22_21 : List AO := [oA 36 (.move (tm 10)) 3,
  oA 37 (.build 26 #[(1, (tm 36))]) 26,
  oA 38 (.build 56 #[(0, (ci 1)), (1, (tm 37))]) 56,
  oA 39 (.move (tm 9)) 3,
  oN (.store 56 (tm 4) (tm 38)) 0,
  oA 5 (.assign (tm 39)) 3,
  oA 6 (.assign (ci 0)) 3,
  oA 7 (.assign (ci 0)) 39]
def c22_21 : AC := .region o22_21 []
def c22_22 : AC := .ret
def c22_20 : AC := .seq c22_21 c22_22
def c22_12 : AC := .seq c22_13 c22_20
def c22_10 : AC := .seq c22_11 c22_12
def c22_8 : AC := .seq c22_9 c22_10
def c22_23 : AC := .skip
def c22_7 : AC := .cond (tm 22) c22_8 c22_23
def c22_5 : AC := .seq c22_6 c22_7
def c22_3 : AC := .seq c22_4 c22_5
abbrev o22_25 : List AO := [oA 41 (.move (tm 0)) 9,
  oA 42 (.move (tm 1)) 3,
  oA 43 (.slice 9 (tm 41) (some (tm 42)) none none) 9,
  oA 44 (cF 36 #[(tm 43)] #[9]) 90,
  oA 40 (.move (tm 44)) 90,
  oA 45 (.extract (tm 40) 0) 26,
  oA 46 (.extract (tm 40) 1) 3,
  oA 47 (.extract (tm 40) 2) 39,
  oA 11 (.alloc 26) 0,
  oN (.store 26 (tm 11) (tm 45)) 0,
  oA 12 (.assign (tm 46)) 3,
  oA 13 (.assign (tm 47)) 39]
def c22_25 : AC := .region o22_25 []
abbrev o22_28 : List AO := [oA 48 (.move (tm 13)) 39,
  oA 49 (.binOp .neq 39 (tm 48) (ci 0) 39) 4]
def c22_28 : AC := .region o22_28 []
abbrev o22_31 : List AO := [oA 50 (.build 56 #[]) 56,
  oA 51 (.move (tm 1)) 3,
  oA 52 (.move (tm 13)) 39,
  oN (.store 56 (tm 4) (tm 50)) 0,
  oA 5 (.assign (ci 0)) 3,
  oA 6 (.assign (tm 51)) 3,
  oA 7 (.assign (tm 52)) 39]
def c22_31 : AC := .region o22_31 []
def c22_32 : AC := .ret
def c22_30 : AC := .seq c22_31 c22_32
def c22_33 : AC := .skip
def c22_29 : AC := .cond (tm 49) c22_30 c22_33
def c22_27 : AC := .seq c22_28 c22_29
abbrev o22_35 : List AO := [oA 53 (.load 26 (tm 11)) 26,
  oA 54 (.build 56 #[(0, (ci 0)), (1, (tm 53))]) 56,
  oA 55 (.move (tm 1)) 3,
  oA 56 (.move (tm 12)) 3,
  oA 57 (.binOp .add 3 (tm 55) (tm 56) 3) 3,
  oN (.store 56 (tm 4) (tm 54)) 0,
  oA 5 (.assign (tm 57)) 3,
  oA 6 (.assign (ci 0)) 3,
  oA 7 (.assign (ci 0)) 39]
def c22_35 : AC := .region o22_35 []
def c22_36 : AC := .ret
def c22_34 : AC := .seq c22_35 c22_36
def c22_26 : AC := .seq c22_27 c22_34
def c22_24 : AC := .seq c22_25 c22_26
def c22_2 : AC := .seq c22_3 c22_24
def c22_0 : AC := .seq c22_1 c22_2
theorem r22_0 : SeqR Cx 22 c22_0 c22_1 c22_2 ∧ RegR Cx 22 c22_1 o22_1 ∧ SeqR Cx 22 c22_2 c22_3 c22_24 ∧ SeqR Cx 22 c22_3 c22_4 c22_5 ∧ RegR Cx 22 c22_4 o22_4 ∧ SeqR Cx 22 c22_5 c22_6 c22_7 ∧ RegR Cx 22 c22_6 o22_6 ∧ CondR Cx 22 c22_7 (tm 22) c22_8 c22_23 := ⟨run_seq, run_region, run_seq, run_seq, run_region, run_seq, run_region, run_condC⟩
theorem r22_1 : SeqR Cx 22 c22_8 c22_9 c22_10 ∧ RegR Cx 22 c22_9 o22_9 ∧ SeqR Cx 22 c22_10 c22_11 c22_12 ∧ RegR Cx 22 c22_11 o22_11 ∧ SeqR Cx 22 c22_12 c22_13 c22_20 ∧ SeqR Cx 22 c22_13 c22_14 c22_15 ∧ RegR Cx 22 c22_14 o22_14 ∧ CondR Cx 22 c22_15 (tm 33) c22_16 c22_19 := ⟨run_seq, run_region, run_seq, run_region, run_seq, run_seq, run_region, run_condC⟩
theorem r22_2 : SeqR Cx 22 c22_16 c22_17 c22_18 ∧ RegR Cx 22 c22_17 o22_17 ∧ RetR Cx 22 c22_18 ∧ SkipR Cx 22 c22_19 ∧ SeqR Cx 22 c22_20 c22_21 c22_22 ∧ RegR Cx 22 c22_21 o22_21 ∧ RetR Cx 22 c22_22 ∧ SkipR Cx 22 c22_23 := ⟨run_seq, run_region, run_ret, run_skip, run_seq, run_region, run_ret, run_skip⟩
theorem r22_3 : SeqR Cx 22 c22_24 c22_25 c22_26 ∧ RegR Cx 22 c22_25 o22_25 ∧ SeqR Cx 22 c22_26 c22_27 c22_34 ∧ SeqR Cx 22 c22_27 c22_28 c22_29 ∧ RegR Cx 22 c22_28 o22_28 ∧ CondR Cx 22 c22_29 (tm 49) c22_30 c22_33 ∧ SeqR Cx 22 c22_30 c22_31 c22_32 ∧ RegR Cx 22 c22_31 o22_31 := ⟨run_seq, run_region, run_seq, run_seq, run_region, run_condC, run_seq, run_region⟩
theorem r22_4 : RetR Cx 22 c22_32 ∧ SkipR Cx 22 c22_33 ∧ SeqR Cx 22 c22_34 c22_35 c22_36 ∧ RegR Cx 22 c22_35 o22_35 ∧ RetR Cx 22 c22_36 := ⟨run_ret, run_skip, run_seq, run_region, run_ret⟩
abbrev o23_1 : List AO := [oA 1 (.box 56 (tm 0)) 0,
  oA 2 (.assign (.const (.bool false))) 4]
def c23_1 : AC := .region o23_1 []
abbrev o23_4 : List AO := [oA 3 (.fieldAddr 56 (tm 1) 0) 0,
  oA 4 (.load 3 (tm 3)) 3,
  oA 5 (.binOp .eql 3 (tm 4) (ci 1) 3) 4]
def c23_4 : AC := .region o23_4 []
abbrev o23_7 : List AO := [oA 6 (.fieldAddr 56 (tm 1) 1) 0,
  oA 7 (.fieldAddr 26 (tm 6) 0) 0,
  oA 8 (.load 3 (tm 7)) 3,
  oA 9 (.binOp .eql 3 (tm 8) (ci 0) 3) 4,
  oA 10 (.move (tm 9)) 4,
  oG 11 (.fieldAddr 56 (tm 1) 1) 0 10 true,
  oG 12 (.load 26 (tm 11)) 26 10 true,
  oG 13 (cF 16 #[(tm 12)] #[26]) 4 10 true,
  oA 14 (.pick (tm 10) (tm 13) (.const (.bool false))) 4,
  oA 15 (.move (tm 14)) 4,
  oG 16 (.fieldAddr 56 (tm 1) 1) 0 15 true,
  oG 17 (.fieldAddr 26 (tm 16) 1) 0 15 true,
  oG 18 (.load 3 (tm 17)) 3 15 true,
  oG 19 (.binOp .geq 3 (tm 18) (ci 0) 3) 4 15 true,
  oA 20 (.pick (tm 15) (tm 19) (.const (.bool false))) 4,
  oA 21 (.move (tm 20)) 4,
  oG 22 (.fieldAddr 56 (tm 1) 1) 0 21 true,
  oG 23 (.fieldAddr 26 (tm 22) 1) 0 21 true,
  oG 24 (.load 3 (tm 23)) 3 21 true,
  oG 25 (cF 35 #[] #[]) 88 21 true,
  oG 26 (cB .len #[(tm 25)] #[88]) 3 21 true,
  oG 27 (.binOp .lss 3 (tm 24) (tm 26) 3) 4 21 true,
  oA 28 (.pick (tm 21) (tm 27) (.const (.bool false))) 4,
  oA 2 (.assign (tm 28)) 4]
def c23_7 : AC := .region o23_7 []
def c23_8 : AC := .ret
def c23_6 : AC := .seq c23_7 c23_8
def c23_9 : AC := .skip
def c23_5 : AC := .cond (tm 5) c23_6 c23_9
def c23_3 : AC := .seq c23_4 c23_5
abbrev o23_11 : List AO := [oA 29 (.fieldAddr 56 (tm 1) 0) 0,
  oA 30 (.load 3 (tm 29)) 3,
  oA 31 (.binOp .eql 3 (tm 30) (ci 0) 3) 4,
  oA 32 (.move (tm 31)) 4,
  oG 33 (.fieldAddr 56 (tm 1) 1) 0 32 true,
  oG 34 (.load 26 (tm 33)) 26 32 true,
  oG 35 (cF 16 #[(tm 34)] #[26]) 4 32 true,
  oA 36 (.pick (tm 32) (tm 35) (.const (.bool false))) 4,
  oA 2 (.assign (tm 36)) 4]
def c23_11 : AC := .region o23_11 []
def c23_12 : AC := .ret
def c23_10 : AC := .seq c23_11 c23_12
def c23_2 : AC := .seq c23_3 c23_10
def c23_0 : AC := .seq c23_1 c23_2
theorem r23_0 : SeqR Cx 23 c23_0 c23_1 c23_2 ∧ RegR Cx 23 c23_1 o23_1 ∧ SeqR Cx 23 c23_2 c23_3 c23_10 ∧ SeqR Cx 23 c23_3 c23_4 c23_5 ∧ RegR Cx 23 c23_4 o23_4 ∧ CondR Cx 23 c23_5 (tm 5) c23_6 c23_9 ∧ SeqR Cx 23 c23_6 c23_7 c23_8 ∧ RegR Cx 23 c23_7 o23_7 := ⟨run_seq, run_region, run_seq, run_seq, run_region, run_condC, run_seq, run_region⟩
theorem r23_1 : RetR Cx 23 c23_8 ∧ SkipR Cx 23 c23_9 ∧ SeqR Cx 23 c23_10 c23_11 c23_12 ∧ RegR Cx 23 c23_11 o23_11 ∧ RetR Cx 23 c23_12 := ⟨run_ret, run_skip, run_seq, run_region, run_ret⟩
theorem body23 : bodyOf Cx 23 = some c23_0 := by kernel_rfl
theorem res23 : resOf Cx 23 = some [.tmp 2] := by kernel_rfl
theorem pure23 : Cx.pure 23 = true := by kernel_rfl
abbrev o24_1 : List AO := [oA 1 (.box 24 (tm 0)) 0,
  oA 2 (.assign (.const (.bool false))) 4]
def c24_1 : AC := .region o24_1 []
abbrev o24_3 : List AO := [oA 3 (.fieldAddr 24 (tm 1) 0) 0,
  oA 4 (.load 3 (tm 3)) 3,
  oA 5 (cF 37 #[(tm 4)] #[3]) 4,
  oA 6 (.move (tm 5)) 4,
  oG 7 (.fieldAddr 24 (tm 1) 1) 0 6 true,
  oG 8 (.load 3 (tm 7)) 3 6 true,
  oG 9 (cF 37 #[(tm 8)] #[3]) 4 6 true,
  oA 10 (.pick (tm 6) (tm 9) (.const (.bool false))) 4,
  oA 2 (.assign (tm 10)) 4]
def c24_3 : AC := .region o24_3 []
def c24_4 : AC := .ret
def c24_2 : AC := .seq c24_3 c24_4
def c24_0 : AC := .seq c24_1 c24_2
theorem r24_0 : SeqR Cx 24 c24_0 c24_1 c24_2 ∧ RegR Cx 24 c24_1 o24_1 ∧ SeqR Cx 24 c24_2 c24_3 c24_4 ∧ RegR Cx 24 c24_3 o24_3 ∧ RetR Cx 24 c24_4 := ⟨run_seq, run_region, run_seq, run_region, run_ret⟩
theorem body24 : bodyOf Cx 24 = some c24_0 := by kernel_rfl
theorem res24 : resOf Cx 24 = some [.tmp 2] := by kernel_rfl
theorem pure24 : Cx.pure 24 = true := by kernel_rfl
abbrev o25_1 : List AO := [oA 4 (.alloc 26) 0]
def c25_1 : AC := .region o25_1 []
abbrev o25_4 : List AO := [oA 5 (.move (tm 0)) 60,
  oA 6 (.nilCheck (tm 5)) 0,
  oA 7 (.fieldAddr 64 (tm 6) 7) 0,
  oA 8 (.load 39 (tm 7)) 39,
  oA 9 (.binOp .eql 39 (tm 8) (ci 0) 39) 4]
def c25_4 : AC := .region o25_4 []
abbrev o25_6 : List AO := [oA 10 (.move (tm 0)) 60,
  oA 11 (.move (tm 1)) 39,
  oA 12 (.nilCheck (tm 10)) 0,
  oA 13 (.fieldAddr 64 (tm 12) 7) 0,
  oN (.store 39 (tm 13) (tm 11)) 0]
def c25_6 : AC := .region o25_6 []
def c25_7 : AC := .skip
def c25_5 : AC := .cond (tm 9) c25_6 c25_7
def c25_3 : AC := .seq c25_4 c25_5
abbrev o25_9 : List AO := [oA 14 (.build 26 #[]) 26,
  oN (.store 26 (tm 4) (tm 14)) 0]
def c25_9 : AC := .region o25_9 []
def c25_10 : AC := .ret
def c25_8 : AC := .seq c25_9 c25_10
def c25_2 : AC := .seq c25_3 c25_8
def c25_0 : AC := .seq c25_1 c25_2
theorem r25_0 : SeqR Cx 25 c25_0 c25_1 c25_2 ∧ RegR Cx 25 c25_1 o25_1 ∧ SeqR Cx 25 c25_2 c25_3 c25_8 ∧ SeqR Cx 25 c25_3 c25_4 c25_5 ∧ RegR Cx 25 c25_4 o25_4 ∧ CondR Cx 25 c25_5 (tm 9) c25_6 c25_7 ∧ RegR Cx 25 c25_6 o25_6 ∧ SkipR Cx 25 c25_7 := ⟨run_seq, run_region, run_seq, run_seq, run_region, run_condC, run_region, run_skip⟩
theorem r25_1 : SeqR Cx 25 c25_8 c25_9 c25_10 ∧ RegR Cx 25 c25_9 o25_9 ∧ RetR Cx 25 c25_10 := ⟨run_seq, run_region, run_ret⟩
theorem body25 : bodyOf Cx 25 = some c25_0 := by kernel_rfl
theorem res25 : resOf Cx 25 = some [.cell 4 26] := by kernel_rfl
theorem pure25 : Cx.pure 25 = false := by kernel_rfl
abbrev o26_1 : List AO := [oA 4 (.alloc 26) 0]
def c26_1 : AC := .region o26_1 []
abbrev o26_3 : List AO := [oA 5 (.move (tm 0)) 60,
  oA 6 (.nilCheck (tm 5)) 0,
  oA 7 (.fieldAddr 64 (tm 6) 2) 0,
  oA 8 (.fieldAddr 28 (tm 7) 0) 0,
  oA 9 (.load 9 (tm 8)) 9,
  oA 10 (cF 38 #[(tm 9)] #[9]) 26,
  oA 11 (.move (tm 0)) 60,
  oA 12 (.nilCheck (tm 11)) 0,
  oA 13 (.fieldAddr 64 (tm 12) 2) 0,
  oA 14 (.fieldAddr 28 (tm 13) 1) 0,
  oA 15 (.load 26 (tm 14)) 26,
  oA 16 (.move (tm 0)) 60,
  oA 17 (.nilCheck (tm 16)) 0,
  oA 18 (.fieldAddr 64 (tm 17) 2) 0,
  oA 19 (.fieldAddr 28 (tm 18) 2) 0,
  oA 20 (.load 26 (tm 19)) 26,
  oA 21 (.move (tm 0)) 60,
  oA 22 (.nilCheck (tm 21)) 0,
  oA 23 (.fieldAddr 64 (tm 22) 3) 0,
  oA 24 (.load 3 (tm 23)) 3,
  oA 25 (cF 39 #[(tm 24)] #[3]) 26,
  oA 26 (.move (tm 0)) 60,
  oA 27 (.nilCheck (tm 26)) 0,
  oA 28 (.fieldAddr 64 (tm 27) 4) 0,
  oA 29 (.load 26 (tm 28)) 26,
  oA 30 (.build 94 #[(0, (tm 10)), (1, (tm 15)), (2, (tm 20)), (3, (tm 25)), (4, (tm 29))]) 94,
  oA 31 (.move (tm 1)) 3,
  oA 32 (.index 94 (tm 30) (tm 31)) 26,
  oN (.store 26 (tm 4) (tm 32)) 0]
def c26_3 : AC := .region o26_3 []
def c26_4 : AC := .ret
def c26_2 : AC := .seq c26_3 c26_4
def c26_0 : AC := .seq c26_1 c26_2
theorem r26_0 : SeqR Cx 26 c26_0 c26_1 c26_2 ∧ RegR Cx 26 c26_1 o26_1 ∧ SeqR Cx 26 c26_2 c26_3 c26_4 ∧ RegR Cx 26 c26_3 o26_3 ∧ RetR Cx 26 c26_4 := ⟨run_seq, run_region, run_seq, run_region, run_ret⟩
theorem body26 : bodyOf Cx 26 = some c26_0 := by kernel_rfl
theorem res26 : resOf Cx 26 = some [.cell 4 26] := by kernel_rfl
theorem pure26 : Cx.pure 26 = false := by kernel_rfl
abbrev o27_1 : List AO := [oA 6 (.alloc 26) 0]
def c27_1 : AC := .region o27_1 []
abbrev o27_3 : List AO := [oA 11 (.move (tm 0)) 60,
  oA 12 (.move (tm 2)) 3,
  oA 13 (.binOp .add 3 (tm 12) (ci 1) 3) 3,
  oA 14 (cF 18 #[(tm 11), (tm 13)] #[60, 3]) 26,
  oA 7 (.alloc 26) 0,
  oN (.store 26 (tm 7) (tm 14)) 0]
def c27_3 : AC := .region o27_3 []
abbrev o27_6 : List AO := [oA 15 (.move (tm 0)) 60,
  oA 16 (.nilCheck (tm 15)) 0,
  oA 17 (.fieldAddr 64 (tm 16) 7) 0,
  oA 18 (.load 39 (tm 17)) 39,
  oA 19 (.binOp .neq 39 (tm 18) (ci 0) 39) 4]
def c27_6 : AC := .region o27_6 []
abbrev o27_9 : List AO := [oA 20 (.build 26 #[]) 26,
  oN (.store 26 (tm 6) (tm 20)) 0]
def c27_9 : AC := .region o27_9 []
def c27_10 : AC := .ret
def c27_8 : AC := .seq c27_9 c27_10
def c27_11 : AC := .skip
def c27_7 : AC := .cond (tm 19) c27_8 c27_11
def c27_5 : AC := .seq c27_6 c27_7
abbrev o27_13 : List AO := [oA 21 (.move (tm 0)) 60,
  oA 22 (.move (tm 2)) 3,
  oA 23 (.binOp .add 3 (tm 22) (ci 1) 3) 3,
  oA 24 (cF 28 #[(tm 21), (tm 23)] #[60, 3]) 3,
  oA 8 (.assign (tm 24)) 3]
def c27_13 : AC := .region o27_13 []
abbrev o27_16 : List AO := [oA 25 (.move (tm 1)) 9]
def c27_16 : AC := .region o27_16 []
abbrev o27_19 : List AO := [oA 27 (.binOp .eql 9 (tm 25) (.const (.string ⟨#[105, 102]⟩)) 9) 4,
  oA 26 (.assign (tm 27)) 4]
def c27_19 : AC := .region o27_19 []
abbrev o27_23 : List AO := [oA 28 (.fieldAddr 26 (tm 7) 0) 0,
  oA 29 (.load 3 (tm 28)) 3,
  oA 30 (.binOp .neq 3 (tm 29) (ci 0) 3) 4]
def c27_23 : AC := .region o27_23 []
abbrev o27_26 : List AO := [oA 31 (.move (tm 0)) 60,
  oA 32 (cF 25 #[(tm 31), (ci 13)] #[60, 39]) 26,
  oN (.store 26 (tm 6) (tm 32)) 0]
def c27_26 : AC := .region o27_26 []
def c27_27 : AC := .ret
def c27_25 : AC := .seq c27_26 c27_27
def c27_28 : AC := .skip
def c27_24 : AC := .cond (tm 30) c27_25 c27_28
def c27_22 : AC := .seq c27_23 c27_24
abbrev o27_31 : List AO := [oA 33 (.fieldAddr 26 (tm 7) 1) 0,
  oA 34 (.load 3 (tm 33)) 3,
  oA 35 (.binOp .neq 3 (tm 34) (ci 0) 3) 4]
def c27_31 : AC := .region o27_31 []
abbrev o27_34 : List AO := [oA 36 (.move (tm 0)) 60,
  oA 37 (.move (tm 8)) 3,
  oA 38 (cF 18 #[(tm 36), (tm 37)] #[60, 3]) 26,
  oN (.store 26 (tm 6) (tm 38)) 0]
def c27_34 : AC := .region o27_34 []
def c27_35 : AC := .ret
def c27_33 : AC := .seq c27_34 c27_35
def c27_36 : AC := .skip
def c27_32 : AC := .cond (tm 35) c27_33 c27_36
def c27_30 : AC := .seq c27_31 c27_32
abbrev o27_38 : List AO := [oA 39 (.move (tm 0)) 60,
  oA 40 (.move (tm 0)) 60,
  oA 41 (.move (tm 8)) 3,
  oA 42 (cF 28 #[(tm 40), (tm 41)] #[60, 3]) 3,
  oA 43 (cF 18 #[(tm 39), (tm 42)] #[60, 3]) 26,
  oN (.store 26 (tm 6) (tm 43)) 0]
def c27_38 : AC := .region o27_38 []
def c27_39 : AC := .ret
def c27_37 : AC := .seq c27_38 c27_39
def c27_29 : AC := .seq c27_30 c27_37
def c27_21 : AC := .seq c27_22 c27_29
abbrev o27_41 : List AO := [oA 45 (.binOp .eql 9 (tm 25) (.const (.string ⟨#[101, 97, 99, 104]⟩)) 9) 4,
  oA 44 (.assign (tm 45)) 4]
def c27_41 : AC := .region o27_41 []
abbrev o27_44 : List AO := [oA 46 (.move (tm 0)) 60,
  oA 47 (.load 26 (tm 7)) 26,
  oA 48 (.move (tm 8)) 3,
  oA 49 (cF 40 #[(tm 46), (tm 47), (tm 48)] #[60, 26, 3]) 26,
  oN (.store 26 (tm 6) (tm 49)) 0]
def c27_44 : AC := .region o27_44 []
def c27_45 : AC := .ret
def c27_43 : AC := .seq c27_44 c27_45
def c27_46 : AC := .skip
def c27_42 : AC := .cond (tm 44) c27_43 c27_46
def c27_40 : AC := .seq c27_41 c27_42
def c27_20 : AC := .cond (tm 26) c27_21 c27_40
def c27_18 : AC := .seq c27_19 c27_20
def c27_17 : AC := .block 0 c27_18
def c27_15 : AC := .seq c27_16 c27_17
abbrev o27_48 : List AO := [oA 50 (.move (tm 0)) 60,
  oA 51 (.nilCheck (tm 50)) 0,
  oA 52 (.fieldAddr 64 (tm 51) 4) 0,
  oA 53 (.load 26 (tm 52)) 26,
  oA 9 (.alloc 26) 0,
  oN (.store 26 (tm 9) (tm 53)) 0]
def c27_48 : AC := .region o27_48 []
abbrev o27_50 : List AO := [oA 54 (.move (tm 0)) 60,
  oA 55 (.load 26 (tm 7)) 26,
  oA 56 (.nilCheck (tm 54)) 0,
  oA 57 (.fieldAddr 64 (tm 56) 4) 0,
  oN (.store 26 (tm 57) (tm 55)) 0]
def c27_50 : AC := .region o27_50 []
abbrev o27_52 : List AO := [oA 58 (.move (tm 0)) 60,
  oA 59 (.move (tm 8)) 3,
  oA 60 (cF 18 #[(tm 58), (tm 59)] #[60, 3]) 26,
  oA 10 (.alloc 26) 0,
  oN (.store 26 (tm 10) (tm 60)) 0]
def c27_52 : AC := .region o27_52 []
abbrev o27_54 : List AO := [oA 61 (.move (tm 0)) 60,
  oA 62 (.load 26 (tm 9)) 26,
  oA 63 (.nilCheck (tm 61)) 0,
  oA 64 (.fieldAddr 64 (tm 63) 4) 0,
  oN (.store 26 (tm 64) (tm 62)) 0]
def c27_54 : AC := .region o27_54 []
abbrev o27_56 : List AO := [oA 65 (.load 26 (tm 10)) 26,
  oN (.store 26 (tm 6) (tm 65)) 0]
def c27_56 : AC := .region o27_56 []
def c27_57 : AC := .ret
def c27_55 : AC := .seq c27_56 c27_57
def c27_53 : AC := .seq c27_54 c27_55
def c27_51 : AC := .seq c27_52 c27_53
def c27_49 : AC := .seq c27_50 c27_51
def c27_47 : AC := .seq c27_48 c27_49
def c27_14 : AC := .seq c27_15 c27_47
def c27_12 : AC := .seq c27_13 c27_14
def c27_4 : AC := .seq c27_5 c27_12
def c27_2 : AC := .seq c27_3 c27_4
def c27_0 : AC := .seq c27_1 c27_2
theorem r27_0 : SeqR Cx 27 c27_0 c27_1 c27_2 ∧ RegR Cx 27 c27_1 o27_1 ∧ SeqR Cx 27 c27_2 c27_3 c27_4 ∧ RegR Cx 27 c27_3 o27_3 ∧ SeqR Cx 27 c27_4 c27_5 c27_12 ∧ SeqR Cx 27 c27_5 c27_6 c27_7 ∧ RegR Cx 27 c27_6 o27_6 ∧ CondR Cx 27 c27_7 (tm 19) c27_8 c27_11 := ⟨run_seq, run_region, run_seq, run_region, run_seq, run_seq, run_region, run_condC⟩
theorem r27_1 : SeqR Cx 27 c27_8 c27_9 c27_10 ∧ RegR Cx 27 c27_9 o27_9 ∧ RetR Cx 27 c27_10 ∧ SkipR Cx 27 c27_11 ∧ SeqR Cx 27 c27_12 c27_13 c27_14 ∧ RegR Cx 27 c27_13 o27_13 ∧ SeqR Cx 27 c27_14 c27_15 c27_47 ∧ SeqR Cx 27 c27_15 c27_16 c27_17 := ⟨run_seq, run_region, run_ret, run_skip, run_seq, run_region, run_seq, run_seq⟩
theorem r27_2 : RegR Cx 27 c27_16 o27_16 ∧ BlkR Cx 27 c27_17 0 c27_18 ∧ SeqR Cx 27 c27_18 c27_19 c27_20 ∧ RegR Cx 27 c27_19 o27_19 ∧ CondR Cx 27 c27_20 (tm 26) c27_21 c27_40 ∧ SeqR Cx 27 c27_21 c27_22 c27_29 ∧ SeqR Cx 27 c27_22 c27_23 c27_24 ∧ RegR Cx 27 c27_23 o27_23 := ⟨run_region, run_block, run_seq, run_region, run_condC, run_seq, run_seq, run_region⟩
theorem r27_3 : CondR Cx 27 c27_24 (tm 30) c27_25 c27_28 ∧ SeqR Cx 27 c27_25 c27_26 c27_27 ∧ RegR Cx 27 c27_26 o27_26 ∧ RetR Cx 27 c27_27 ∧ SkipR Cx 27 c27_28 ∧ SeqR Cx 27 c27_29 c27_30 c27_37 ∧ SeqR Cx 27 c27_30 c27_31 c27_32 ∧ RegR Cx 27 c27_31 o27_31 := ⟨run_condC, run_seq, run_region, run_ret, run_skip, run_seq, run_seq, run_region⟩
theorem r27_4 : CondR Cx 27 c27_32 (tm 35) c27_33 c27_36 ∧ SeqR Cx 27 c27_33 c27_34 c27_35 ∧ RegR Cx 27 c27_34 o27_34 ∧ RetR Cx 27 c27_35 ∧ SkipR Cx 27 c27_36 ∧ SeqR Cx 27 c27_37 c27_38 c27_39 ∧ RegR Cx 27 c27_38 o27_38 ∧ RetR Cx 27 c27_39 := ⟨run_condC, run_seq, run_region, run_ret, run_skip, run_seq, run_region, run_ret⟩
theorem r27_5 : SeqR Cx 27 c27_40 c27_41 c27_42 ∧ RegR Cx 27 c27_41 o27_41 ∧ CondR Cx 27 c27_42 (tm 44) c27_43 c27_46 ∧ SeqR Cx 27 c27_43 c27_44 c27_45 ∧ RegR Cx 27 c27_44 o27_44 ∧ RetR Cx 27 c27_45 ∧ SkipR Cx 27 c27_46 ∧ SeqR Cx 27 c27_47 c27_48 c27_49 := ⟨run_seq, run_region, run_condC, run_seq, run_region, run_ret, run_skip, run_seq⟩
theorem r27_6 : RegR Cx 27 c27_48 o27_48 ∧ SeqR Cx 27 c27_49 c27_50 c27_51 ∧ RegR Cx 27 c27_50 o27_50 ∧ SeqR Cx 27 c27_51 c27_52 c27_53 ∧ RegR Cx 27 c27_52 o27_52 ∧ SeqR Cx 27 c27_53 c27_54 c27_55 ∧ RegR Cx 27 c27_54 o27_54 ∧ SeqR Cx 27 c27_55 c27_56 c27_57 := ⟨run_region, run_seq, run_region, run_seq, run_region, run_seq, run_region, run_seq⟩
theorem r27_7 : RegR Cx 27 c27_56 o27_56 ∧ RetR Cx 27 c27_57 := ⟨run_region, run_ret⟩
theorem body27 : bodyOf Cx 27 = some c27_0 := by kernel_rfl
theorem res27 : resOf Cx 27 = some [.cell 6 26] := by kernel_rfl
theorem pure27 : Cx.pure 27 = false := by kernel_rfl
abbrev o28_1 : List AO := [oA 4 (.assign (ci 0)) 3]
def c28_1 : AC := .region o28_1 []
abbrev o28_3 : List AO := [oA 5 (.move (tm 0)) 60,
  oA 6 (.nilCheck (tm 5)) 0,
  oA 7 (.fieldAddr 64 (tm 6) 1) 0,
  oA 8 (.load 61 (tm 7)) 61,
  oA 9 (.move (tm 1)) 3,
  oA 10 (.indexAddr 61 (tm 8) (tm 9)) 0,
  oA 11 (.fieldAddr 74 (tm 10) 2) 0,
  oA 12 (.load 3 (tm 11)) 3,
  oA 4 (.assign (tm 12)) 3]
def c28_3 : AC := .region o28_3 []
def c28_4 : AC := .ret
def c28_2 : AC := .seq c28_3 c28_4
def c28_0 : AC := .seq c28_1 c28_2
theorem r28_0 : SeqR Cx 28 c28_0 c28_1 c28_2 ∧ RegR Cx 28 c28_1 o28_1 ∧ SeqR Cx 28 c28_2 c28_3 c28_4 ∧ RegR Cx 28 c28_3 o28_3 ∧ RetR Cx 28 c28_4 := ⟨run_seq, run_region, run_seq, run_region, run_ret⟩
theorem body28 : bodyOf Cx 28 = some c28_0 := by kernel_rfl
theorem res28 : resOf Cx 28 = some [.tmp 4] := by kernel_rfl
theorem pure28 : Cx.pure 28 = false := by kernel_rfl
abbrev o29_1 : List AO := [oA 4 (.assign (.const .nilFunc)) 79]
def c29_1 : AC := .region o29_1 []
abbrev o29_4 : List AO := [oA 5 (.move (tm 1)) 9]
def c29_4 : AC := .region o29_4 []
abbrev o29_8 : List AO := [oA 7 (.binOp .eql 9 (tm 5) (.const (.string ⟨#[97, 100, 100]⟩)) 9) 4,
  oA 6 (.assign (tm 7)) 4]
def c29_8 : AC := .region o29_8 []
def c29_10 : AC := .skip
abbrev o29_12 : List AO := [oA 8 (.binOp .eql 9 (tm 5) (.const (.string ⟨#[115, 117, 98]⟩)) 9) 4,
  oA 6 (.assign (tm 8)) 4]
def c29_12 : AC := .region o29_12 []
def c29_14 : AC := .skip
abbrev o29_16 : List AO := [oA 9 (.binOp .eql 9 (tm 5) (.const (.string ⟨#[109, 117, 108]⟩)) 9) 4,
  oA 6 (.assign (tm 9)) 4]
def c29_16 : AC := .region o29_16 []
def c29_18 : AC := .skip
abbrev o29_20 : List AO := [oA 10 (.binOp .eql 9 (tm 5) (.const (.string ⟨#[100, 105, 118]⟩)) 9) 4,
  oA 6 (.assign (tm 10)) 4]
def c29_20 : AC := .region o29_20 []
def c29_22 : AC := .skip
abbrev o29_23 : List AO := [oA 11 (.binOp .eql 9 (tm 5) (.const (.string ⟨#[109, 111, 100]⟩)) 9) 4,
  oA 6 (.assign (tm 11)) 4]
def c29_23 : AC := .region o29_23 []
def c29_21 : AC := .cond (tm 6) c29_22 c29_23
def c29_19 : AC := .seq c29_20 c29_21
def c29_17 : AC := .cond (tm 6) c29_18 c29_19
def c29_15 : AC := .seq c29_16 c29_17
def c29_13 : AC := .cond (tm 6) c29_14 c29_15
def c29_11 : AC := .seq c29_12 c29_13
def c29_9 : AC := .cond (tm 6) c29_10 c29_11
def c29_7 : AC := .seq c29_8 c29_9
abbrev o29_26 : List AO := [oA 12 (.move (tm 0)) 60,
  oA 13 (.makeFunc (.func 41) #[(tm 12)] #[]) 79,
  oA 4 (.assign (tm 13)) 79]
def c29_26 : AC := .region o29_26 []
def c29_27 : AC := .ret
def c29_25 : AC := .seq c29_26 c29_27
abbrev o29_30 : List AO := [oA 15 (.binOp .eql 9 (tm 5) (.const (.string ⟨#[108, 101, 115, 115]⟩)) 9) 4,
  oA 14 (.assign (tm 15)) 4]
def c29_30 : AC := .region o29_30 []
def c29_32 : AC := .skip
abbrev o29_34 : List AO := [oA 16 (.binOp .eql 9 (tm 5) (.const (.string ⟨#[109, 97, 120]⟩)) 9) 4,
  oA 14 (.assign (tm 16)) 4]
def c29_34 : AC := .region o29_34 []
def c29_36 : AC := .skip
abbrev o29_37 : List AO := [oA 17 (.binOp .eql 9 (tm 5) (.const (.string ⟨#[109, 105, 110]⟩)) 9) 4,
  oA 14 (.assign (tm 17)) 4]
def c29_37 : AC := .region o29_37 []
def c29_35 : AC := .cond (tm 14) c29_36 c29_37
def c29_33 : AC := .seq c29_34 c29_35
def c29_31 : AC := .cond (tm 14) c29_32 c29_33
def c29_29 : AC := .seq c29_30 c29_31
abbrev o29_40 : List AO := [oA 18 (.move (tm 0)) 60,
  oA 19 (.makeFunc (.func 42) #[(tm 18)] #[]) 79,
  oA 4 (.assign (tm 19)) 79]
def c29_40 : AC := .region o29_40 []
def c29_41 : AC := .ret
def c29_39 : AC := .seq c29_40 c29_41
abbrev o29_44 : List AO := [oA 21 (.binOp .eql 9 (tm 5) (.const (.string ⟨#[99, 97, 116]⟩)) 9) 4,
  oA 20 (.assign (tm 21)) 4]
def c29_44 : AC := .region o29_44 []
def c29_46 : AC := .skip
abbrev o29_48 : List AO := [oA 22 (.binOp .eql 9 (tm 5) (.const (.string ⟨#[108, 101, 110]⟩)) 9) 4,
  oA 20 (.assign (tm 22)) 4]
def c29_48 : AC := .region o29_48 []
def c29_50 : AC := .skip
abbrev o29_52 : List AO := [oA 23 (.binOp .eql 9 (tm 5) (.const (.string ⟨#[99, 117, 116]⟩)) 9) 4,
  oA 20 (.assign (tm 23)) 4]
def c29_52 : AC := .region o29_52 []
def c29_54 : AC := .skip
abbrev o29_56 : List AO := [oA 24 (.binOp .eql 9 (tm 5) (.const (.string ⟨#[119, 111, 114, 100, 115]⟩)) 9) 4,
  oA 20 (.assign (tm 24)) 4]
def c29_56 : AC := .region o29_56 []
def c29_58 : AC := .skip
abbrev o29_60 : List AO := [oA 25 (.binOp .eql 9 (tm 5) (.const (.string ⟨#[119, 111, 114, 100]⟩)) 9) 4,
  oA 20 (.assign (tm 25)) 4]
def c29_60 : AC := .region o29_60 []
def c29_62 : AC := .skip
abbrev o29_63 : List AO := [oA 26 (.binOp .eql 9 (tm 5) (.const (.string ⟨#[110, 117, 109]⟩)) 9) 4,
  oA 20 (.assign (tm 26)) 4]
def c29_63 : AC := .region o29_63 []
def c29_61 : AC := .cond (tm 20) c29_62 c29_63
def c29_59 : AC := .seq c29_60 c29_61
def c29_57 : AC := .cond (tm 20) c29_58 c29_59
def c29_55 : AC := .seq c29_56 c29_57
def c29_53 : AC := .cond (tm 20) c29_54 c29_55
def c29_51 : AC := .seq c29_52 c29_53
def c29_49 : AC := .cond (tm 20) c29_50 c29_51
def c29_47 : AC := .seq c29_48 c29_49
def c29_45 : AC := .cond (tm 20) c29_46 c29_47
def c29_43 : AC := .seq c29_44 c29_45
abbrev o29_66 : List AO := [oA 27 (.move (tm 0)) 60,
  oA 28 (.makeFunc (.func 43) #[(tm 27)] #[]) 79,
  oA 4 (.assign (tm 28)) 79]
def c29_66 : AC := .region o29_66 []
def c29_67 : AC := .ret
def c29_65 : AC := .seq c29_66 c29_67
abbrev o29_70 : List AO := [oA 30 (.binOp .eql 9 (tm 5) (.const (.string ⟨#[114, 101]⟩)) 9) 4,
  oA 29 (.assign (tm 30)) 4]
def c29_70 : AC := .region o29_70 []
def c29_72 : AC := .skip
abbrev o29_74 : List AO := [oA 31 (.binOp .eql 9 (tm 5) (.const (.string ⟨#[105, 109]⟩)) 9) 4,
  oA 29 (.assign (tm 31)) 4]
def c29_74 : AC := .region o29_74 []
def c29_76 : AC := .skip
abbrev o29_78 : List AO := [oA 32 (.binOp .eql 9 (tm 5) (.const (.string ⟨#[110, 111, 114, 109]⟩)) 9) 4,
  oA 29 (.assign (tm 32)) 4]
def c29_78 : AC := .region o29_78 []
def c29_80 : AC := .skip
abbrev o29_81 : List AO := [oA 33 (.binOp .eql 9 (tm 5) (.const (.string ⟨#[99, 111, 110, 106]⟩)) 9) 4,
  oA 29 (.assign (tm 33)) 4]
def c29_81 : AC := .region o29_81 []
def c29_79 : AC := .cond (tm 29) c29_80 c29_81
def c29_77 : AC := .seq c29_78 c29_79
def c29_75 : AC := .cond (tm 29) c29_76 c29_77
def c29_73 : AC := .seq c29_74 c29_75
def c29_71 : AC := .cond (tm 29) c29_72 c29_73
def c29_69 : AC := .seq c29_70 c29_71
abbrev o29_84 : List AO := [oA 34 (.move (tm 0)) 60,
  oA 35 (.makeFunc (.func 44) #[(tm 34)] #[]) 79,
  oA 4 (.assign (tm 35)) 79]
def c29_84 : AC := .region o29_84 []
def c29_85 : AC := .ret
def c29_83 : AC := .seq c29_84 c29_85
def c29_86 : AC := .skip
def c29_82 : AC := .cond (tm 29) c29_83 c29_86
def c29_68 : AC := .seq c29_69 c29_82
def c29_64 : AC := .cond (tm 20) c29_65 c29_68
def c29_42 : AC := .seq c29_43 c29_64
def c29_38 : AC := .cond (tm 14) c29_39 c29_42
def c29_28 : AC := .seq c29_29 c29_38
def c29_24 : AC := .cond (tm 6) c29_25 c29_28
def c29_6 : AC := .seq c29_7 c29_24
def c29_5 : AC := .block 0 c29_6
def c29_3 : AC := .seq c29_4 c29_5
abbrev o29_88 : List AO := [oA 36 (.move (tm 0)) 60,
  oA 37 (.makeFunc (.func 45) #[(tm 36)] #[]) 79,
  oA 4 (.assign (tm 37)) 79]
def c29_88 : AC := .region o29_88 []
def c29_89 : AC := .ret
def c29_87 : AC := .seq c29_88 c29_89
def c29_2 : AC := .seq c29_3 c29_87
def c29_0 : AC := .seq c29_1 c29_2
theorem r29_0 : SeqR Cx 29 c29_0 c29_1 c29_2 ∧ RegR Cx 29 c29_1 o29_1 ∧ SeqR Cx 29 c29_2 c29_3 c29_87 ∧ SeqR Cx 29 c29_3 c29_4 c29_5 ∧ RegR Cx 29 c29_4 o29_4 ∧ BlkR Cx 29 c29_5 0 c29_6 ∧ SeqR Cx 29 c29_6 c29_7 c29_24 ∧ SeqR Cx 29 c29_7 c29_8 c29_9 := ⟨run_seq, run_region, run_seq, run_seq, run_region, run_block, run_seq, run_seq⟩
theorem r29_1 : RegR Cx 29 c29_8 o29_8 ∧ CondR Cx 29 c29_9 (tm 6) c29_10 c29_11 ∧ SkipR Cx 29 c29_10 ∧ SeqR Cx 29 c29_11 c29_12 c29_13 ∧ RegR Cx 29 c29_12 o29_12 ∧ CondR Cx 29 c29_13 (tm 6) c29_14 c29_15 ∧ SkipR Cx 29 c29_14 ∧ SeqR Cx 29 c29_15 c29_16 c29_17 := ⟨run_region, run_condC, run_skip, run_seq, run_region, run_condC, run_skip, run_seq⟩
theorem r29_2 : RegR Cx 29 c29_16 o29_16 ∧ CondR Cx 29 c29_17 (tm 6) c29_18 c29_19 ∧ SkipR Cx 29 c29_18 ∧ SeqR Cx 29 c29_19 c29_20 c29_21 ∧ RegR Cx 29 c29_20 o29_20 ∧ CondR Cx 29 c29_21 (tm 6) c29_22 c29_23 ∧ SkipR Cx 29 c29_22 ∧ RegR Cx 29 c29_23 o29_23 := ⟨run_region, run_condC, run_skip, run_seq, run_region, run_condC, run_skip, run_region⟩
theorem r29_3 : CondR Cx 29 c29_24 (tm 6) c29_25 c29_28 ∧ SeqR Cx 29 c29_25 c29_26 c29_27 ∧ RegR Cx 29 c29_26 o29_26 ∧ RetR Cx 29 c29_27 ∧ SeqR Cx 29 c29_28 c29_29 c29_38 ∧ SeqR Cx 29 c29_29 c29_30 c29_31 ∧ RegR Cx 29 c29_30 o29_30 ∧ CondR Cx 29 c29_31 (tm 14) c29_32 c29_33 := ⟨run_condC, run_seq, run_region, run_ret, run_seq, run_seq, run_region, run_condC⟩
theorem r29_4 : SkipR Cx 29 c29_32 ∧ SeqR Cx 29 c29_33 c29_34 c29_35 ∧ RegR Cx 29 c29_34 o29_34 ∧ CondR Cx 29 c29_35 (tm 14) c29_36 c29_37 ∧ SkipR Cx 29 c29_36 ∧ RegR Cx 29 c29_37 o29_37 ∧ CondR Cx 29 c29_38 (tm 14) c29_39 c29_42 ∧ SeqR Cx 29 c29_39 c29_40 c29_41 := ⟨run_skip, run_seq, run_region, run_condC, run_skip, run_region, run_condC, run_seq⟩
theorem r29_5 : RegR Cx 29 c29_40 o29_40 ∧ RetR Cx 29 c29_41 ∧ SeqR Cx 29 c29_42 c29_43 c29_64 ∧ SeqR Cx 29 c29_43 c29_44 c29_45 ∧ RegR Cx 29 c29_44 o29_44 ∧ CondR Cx 29 c29_45 (tm 20) c29_46 c29_47 ∧ SkipR Cx 29 c29_46 ∧ SeqR Cx 29 c29_47 c29_48 c29_49 := ⟨run_region, run_ret, run_seq, run_seq, run_region, run_condC, run_skip, run_seq⟩
theorem r29_6 : RegR Cx 29 c29_48 o29_48 ∧ CondR Cx 29 c29_49 (tm 20) c29_50 c29_51 ∧ SkipR Cx 29 c29_50 ∧ SeqR Cx 29 c29_51 c29_52 c29_53 ∧ RegR Cx 29 c29_52 o29_52 ∧ CondR Cx 29 c29_53 (tm 20) c29_54 c29_55 ∧ SkipR Cx 29 c29_54 ∧ SeqR Cx 29 c29_55 c29_56 c29_57 := ⟨run_region, run_condC, run_skip, run_seq, run_region, run_condC, run_skip, run_seq⟩
theorem r29_7 : RegR Cx 29 c29_56 o29_56 ∧ CondR Cx 29 c29_57 (tm 20) c29_58 c29_59 ∧ SkipR Cx 29 c29_58 ∧ SeqR Cx 29 c29_59 c29_60 c29_61 ∧ RegR Cx 29 c29_60 o29_60 ∧ CondR Cx 29 c29_61 (tm 20) c29_62 c29_63 ∧ SkipR Cx 29 c29_62 ∧ RegR Cx 29 c29_63 o29_63 := ⟨run_region, run_condC, run_skip, run_seq, run_region, run_condC, run_skip, run_region⟩
theorem r29_8 : CondR Cx 29 c29_64 (tm 20) c29_65 c29_68 ∧ SeqR Cx 29 c29_65 c29_66 c29_67 ∧ RegR Cx 29 c29_66 o29_66 ∧ RetR Cx 29 c29_67 ∧ SeqR Cx 29 c29_68 c29_69 c29_82 ∧ SeqR Cx 29 c29_69 c29_70 c29_71 ∧ RegR Cx 29 c29_70 o29_70 ∧ CondR Cx 29 c29_71 (tm 29) c29_72 c29_73 := ⟨run_condC, run_seq, run_region, run_ret, run_seq, run_seq, run_region, run_condC⟩
theorem r29_9 : SkipR Cx 29 c29_72 ∧ SeqR Cx 29 c29_73 c29_74 c29_75 ∧ RegR Cx 29 c29_74 o29_74 ∧ CondR Cx 29 c29_75 (tm 29) c29_76 c29_77 ∧ SkipR Cx 29 c29_76 ∧ SeqR Cx 29 c29_77 c29_78 c29_79 ∧ RegR Cx 29 c29_78 o29_78 ∧ CondR Cx 29 c29_79 (tm 29) c29_80 c29_81 := ⟨run_skip, run_seq, run_region, run_condC, run_skip, run_seq, run_region, run_condC⟩
theorem r29_10 : SkipR Cx 29 c29_80 ∧ RegR Cx 29 c29_81 o29_81 ∧ CondR Cx 29 c29_82 (tm 29) c29_83 c29_86 ∧ SeqR Cx 29 c29_83 c29_84 c29_85 ∧ RegR Cx 29 c29_84 o29_84 ∧ RetR Cx 29 c29_85 ∧ SkipR Cx 29 c29_86 ∧ SeqR Cx 29 c29_87 c29_88 c29_89 := ⟨run_skip, run_region, run_condC, run_seq, run_region, run_ret, run_skip, run_seq⟩
theorem r29_11 : RegR Cx 29 c29_88 o29_88 ∧ RetR Cx 29 c29_89 := ⟨run_region, run_ret⟩
theorem body29 : bodyOf Cx 29 = some c29_0 := by kernel_rfl
theorem pure29 : Cx.pure 29 = false := by kernel_rfl
abbrev o30_1 : List AO := [oA 4 (.assign (ci 0)) 3]
def c30_1 : AC := .region o30_1 []
abbrev o30_4 : List AO := [oA 7 (.move (tm 0)) 9,
  oA 8 (.move (tm 1)) 3,
  oA 9 (.slice 9 (tm 7) (some (tm 8)) none none) 9,
  oA 10 (.range 9 (tm 9)) 0]
def c30_4 : AC := .region o30_4 []
abbrev o30_8 : List AO := [oA 11 (.next (tm 10) true) 0,
  oA 12 (.extract (tm 11) 0) 4]
def c30_8 : AC := .region o30_8 []
def c30_11 : AC := .skip
def c30_12 : AC := .exit 0
def c30_10 : AC := .cond (tm 12) c30_11 c30_12
abbrev o30_15 : List AO := [oA 13 (.extract (tm 11) 1) 3,
  oA 14 (.extract (tm 11) 2) 21,
  oA 5 (.assign (tm 13)) 3,
  oA 6 (.assign (tm 14)) 21]
def c30_15 : AC := .region o30_15 []
abbrev o30_17 : List AO := [oA 15 (.move (tm 6)) 21,
  oA 16 (.binOp .lss 21 (tm 15) (.const (.int .i32 97)) 21) 4,
  oA 17 (.move (tm 16)) 4,
  oG 18 (.move (tm 6)) 21 17 false,
  oG 19 (.binOp .gtr 21 (tm 18) (.const (.int .i32 122)) 21) 4 17 false,
  oA 20 (.pick (tm 17) (.const (.bool true)) (tm 19)) 4]
def c30_17 : AC := .region o30_17 []
abbrev o30_20 : List AO := [oA 21 (.move (tm 1)) 3,
  oA 22 (.move (tm 5)) 3,
  oA 23 (.binOp .add 3 (tm 21) (tm 22) 3) 3,
  oA 4 (.assign (tm 23)) 3]
def c30_20 : AC := .region o30_20 []
def c30_21 : AC := .ret
def c30_19 : AC := .seq c30_20 c30_21
def c30_22 : AC := .skip
def c30_18 : AC := .cond (tm 20) c30_19 c30_22
def c30_16 : AC := .seq c30_17 c30_18
def c30_14 : AC := .seq c30_15 c30_16
def c30_13 : AC := .block 1 c30_14
def c30_9 : AC := .seq c30_10 c30_13
def c30_7 : AC := .seq c30_8 c30_9
def c30_6 : AC := .loop c30_7
def c30_5 : AC := .block 0 c30_6
def c30_3 : AC := .seq c30_4 c30_5
abbrev o30_24 : List AO := [oA 24 (.move (tm 0)) 9,
  oA 25 (cB .len #[(tm 24)] #[9]) 3,
  oA 4 (.assign (tm 25)) 3]
def c30_24 : AC := .region o30_24 []
def c30_25 : AC := .ret
def c30_23 : AC := .seq c30_24 c30_25
def c30_2 : AC := .seq c30_3 c30_23
def c30_0 : AC := .seq c30_1 c30_2
theorem r30_0 : SeqR Cx 30 c30_0 c30_1 c30_2 ∧ RegR Cx 30 c30_1 o30_1 ∧ SeqR Cx 30 c30_2 c30_3 c30_23 ∧ SeqR Cx 30 c30_3 c30_4 c30_5 ∧ RegR Cx 30 c30_4 o30_4 ∧ BlkR Cx 30 c30_5 0 c30_6 ∧ LoopR Cx 30 c30_6 c30_7 ∧ SeqR Cx 30 c30_7 c30_8 c30_9 := ⟨run_seq, run_region, run_seq, run_seq, run_region, run_block, run_loop', run_seq⟩
theorem r30_1 : RegR Cx 30 c30_8 o30_8 ∧ SeqR Cx 30 c30_9 c30_10 c30_13 ∧ CondR Cx 30 c30_10 (tm 12) c30_11 c30_12 ∧ SkipR Cx 30 c30_11 ∧ ExitR Cx 30 c30_12 0 ∧ BlkR Cx 30 c30_13 1 c30_14 ∧ SeqR Cx 30 c30_14 c30_15 c30_16 ∧ RegR Cx 30 c30_15 o30_15 := ⟨run_region, run_seq, run_condC, run_skip, run_exit_start, run_block, run_seq, run_region⟩
theorem r30_2 : SeqR Cx 30 c30_16 c30_17 c30_18 ∧ RegR Cx 30 c30_17 o30_17 ∧ CondR Cx 30 c30_18 (tm 20) c30_19 c30_22 ∧ SeqR Cx 30 c30_19 c30_20 c30_21 ∧ RegR Cx 30 c30_20 o30_20 ∧ RetR Cx 30 c30_21 ∧ SkipR Cx 30 c30_22 ∧ SeqR Cx 30 c30_23 c30_24 c30_25 := ⟨run_seq, run_region, run_condC, run_seq, run_region, run_ret, run_skip, run_seq⟩
theorem r30_3 : RegR Cx 30 c30_24 o30_24 ∧ RetR Cx 30 c30_25 := ⟨run_region, run_ret⟩
abbrev o31_1 : List AO := [oA 4 (.assign (ci 0)) 3]
def c31_1 : AC := .region o31_1 []
abbrev o31_4 : List AO := [oA 6 (.move (tm 0)) 82,
  oA 7 (cB .len #[(tm 6)] #[82]) 3,
  oA 8 (.move (ci 0)) 3]
def c31_4 : AC := .region o31_4 []
abbrev o31_8 : List AO := [oA 9 (.binOp .lss 3 (tm 8) (tm 7) 3) 0]
def c31_8 : AC := .region o31_8 []
def c31_11 : AC := .skip
def c31_12 : AC := .exit 0
def c31_10 : AC := .cond (tm 9) c31_11 c31_12
abbrev o31_16 : List AO := [oA 10 (.move (tm 8)) 3,
  oA 5 (.assign (tm 10)) 3]
def c31_16 : AC := .region o31_16 []
abbrev o31_18 : List AO := [oA 11 (.move (tm 1)) 86,
  oA 12 (.move (tm 0)) 82,
  oA 13 (.move (tm 5)) 3,
  oA 14 (.indexAddr 82 (tm 12) (tm 13)) 0,
  oA 15 (.load 84 (tm 14)) 84,
  oA 16 (cV 11 #[(tm 15)] #[84]) 4]
def c31_18 : AC := .region o31_18 []
abbrev o31_21 : List AO := [oA 17 (.move (tm 5)) 3,
  oA 4 (.assign (tm 17)) 3]
def c31_21 : AC := .region o31_21 []
def c31_22 : AC := .ret
def c31_20 : AC := .seq c31_21 c31_22
def c31_23 : AC := .skip
def c31_19 : AC := .cond (tm 16) c31_20 c31_23
def c31_17 : AC := .seq c31_18 c31_19
def c31_15 : AC := .seq c31_16 c31_17
def c31_14 : AC := .block 1 c31_15
abbrev o31_24 : List AO := [oA 18 (.binOp .add 3 (tm 8) (ci 1) 3) 3,
  oA 8 (.move (tm 18)) 3]
def c31_24 : AC := .region o31_24 []
def c31_13 : AC := .seq c31_14 c31_24
def c31_9 : AC := .seq c31_10 c31_13
def c31_7 : AC := .seq c31_8 c31_9
def c31_6 : AC := .loop c31_7
def c31_5 : AC := .block 0 c31_6
def c31_3 : AC := .seq c31_4 c31_5
abbrev o31_26 : List AO := [oA 4 (.assign (ci (-1))) 3]
def c31_26 : AC := .region o31_26 []
def c31_27 : AC := .ret
def c31_25 : AC := .seq c31_26 c31_27
def c31_2 : AC := .seq c31_3 c31_25
def c31_0 : AC := .seq c31_1 c31_2
theorem r31_0 : SeqR Cx 31 c31_0 c31_1 c31_2 ∧ RegR Cx 31 c31_1 o31_1 ∧ SeqR Cx 31 c31_2 c31_3 c31_25 ∧ SeqR Cx 31 c31_3 c31_4 c31_5 ∧ RegR Cx 31 c31_4 o31_4 ∧ BlkR Cx 31 c31_5 0 c31_6 ∧ LoopR Cx 31 c31_6 c31_7 ∧ SeqR Cx 31 c31_7 c31_8 c31_9 := ⟨run_seq, run_region, run_seq, run_seq, run_region, run_block, run_loop', run_seq⟩
theorem r31_1 : RegR Cx 31 c31_8 o31_8 ∧ SeqR Cx 31 c31_9 c31_10 c31_13 ∧ CondR Cx 31 c31_10 (tm 9) c31_11 c31_12 ∧ SkipR Cx 31 c31_11 ∧ ExitR Cx 31 c31_12 0 ∧ SeqR Cx 31 c31_13 c31_14 c31_24 ∧ BlkR Cx 31 c31_14 1 c31_15 ∧ SeqR Cx 31 c31_15 c31_16 c31_17 := ⟨run_region, run_seq, run_condC, run_skip, run_exit_start, run_seq, run_block, run_seq⟩
theorem r31_2 : RegR Cx 31 c31_16 o31_16 ∧ SeqR Cx 31 c31_17 c31_18 c31_19 ∧ RegR Cx 31 c31_18 o31_18 ∧ CondR Cx 31 c31_19 (tm 16) c31_20 c31_23 ∧ SeqR Cx 31 c31_20 c31_21 c31_22 ∧ RegR Cx 31 c31_21 o31_21 ∧ RetR Cx 31 c31_22 ∧ SkipR Cx 31 c31_23 := ⟨run_region, run_seq, run_region, run_condC, run_seq, run_region, run_ret, run_skip⟩
theorem r31_3 : RegR Cx 31 c31_24 o31_24 ∧ SeqR Cx 31 c31_25 c31_26 c31_27 ∧ RegR Cx 31 c31_26 o31_26 ∧ RetR Cx 31 c31_27 := ⟨run_region, run_seq, run_region, run_ret⟩
abbrev o32_1 : List AO := [oA 0 (.assign (.const (.slice none 0 0))) 82]
def c32_1 : AC := .region o32_1 []
abbrev o32_3 : List AO := [oA 1 (.build 84 #[(0, (.const (.string ⟨#[97, 100, 100]⟩))), (1, (ci 2))]) 84,
  oA 2 (.build 84 #[(0, (.const (.string ⟨#[115, 117, 98]⟩))), (1, (ci 2))]) 84,
  oA 3 (.build 84 #[(0, (.const (.string ⟨#[109, 117, 108]⟩))), (1, (ci 2))]) 84,
  oA 4 (.build 84 #[(0, (.const (.string ⟨#[100, 105, 118]⟩))), (1, (ci 2))]) 84,
  oA 5 (.build 84 #[(0, (.const (.string ⟨#[109, 111, 100]⟩))), (1, (ci 2))]) 84,
  oA 6 (.build 84 #[(0, (.const (.string ⟨#[110, 101, 103]⟩))), (1, (ci 1))]) 84,
  oA 7 (.build 84 #[(0, (.const (.string ⟨#[108, 101, 115, 115]⟩))), (1, (ci 2))]) 84,
  oA 8 (.build 84 #[(0, (.const (.string ⟨#[115, 97, 109, 101]⟩))), (1, (ci 2))]) 84,
  oA 9 (.build 84 #[(0, (.const (.string ⟨#[110, 111, 116]⟩))), (1, (ci 1))]) 84,
  oA 10 (.build 84 #[(0, (.const (.string ⟨#[105, 102]⟩))), (1, (ci 3))]) 84,
  oA 11 (.build 84 #[(0, (.const (.string ⟨#[109, 97, 120]⟩))), (1, (ci 2))]) 84,
  oA 12 (.build 84 #[(0, (.const (.string ⟨#[109, 105, 110]⟩))), (1, (ci 2))]) 84,
  oA 13 (.build 84 #[(0, (.const (.string ⟨#[99, 97, 116]⟩))), (1, (ci 2))]) 84,
  oA 14 (.build 84 #[(0, (.const (.string ⟨#[108, 101, 110]⟩))), (1, (ci 1))]) 84,
  oA 15 (.build 84 #[(0, (.const (.string ⟨#[99, 117, 116]⟩))), (1, (ci 3))]) 84,
  oA 16 (.build 84 #[(0, (.const (.string ⟨#[119, 111, 114, 100]⟩))), (1, (ci 2))]) 84,
  oA 17 (.build 84 #[(0, (.const (.string ⟨#[119, 111, 114, 100, 115]⟩))), (1, (ci 1))]) 84,
  oA 18 (.build 84 #[(0, (.const (.string ⟨#[110, 117, 109]⟩))), (1, (ci 1))]) 84,
  oA 19 (.build 84 #[(0, (.const (.string ⟨#[116, 101, 120, 116]⟩))), (1, (ci 1))]) 84,
  oA 20 (.build 84 #[(0, (.const (.string ⟨#[97, 116]⟩))), (1, (ci 2))]) 84,
  oA 21 (.build 84 #[(0, (.const (.string ⟨#[114, 101]⟩))), (1, (ci 1))]) 84,
  oA 22 (.build 84 #[(0, (.const (.string ⟨#[105, 109]⟩))), (1, (ci 1))]) 84,
  oA 23 (.build 84 #[(0, (.const (.string ⟨#[110, 111, 114, 109]⟩))), (1, (ci 1))]) 84,
  oA 24 (.build 84 #[(0, (.const (.string ⟨#[99, 111, 110, 106]⟩))), (1, (ci 1))]) 84,
  oA 25 (.build 84 #[(0, (.const (.string ⟨#[101, 109, 105, 116]⟩))), (1, (ci 2))]) 84,
  oA 26 (.build 84 #[(0, (.const (.string ⟨#[116, 104, 101, 110]⟩))), (1, (ci 2))]) 84,
  oA 27 (.build 84 #[(0, (.const (.string ⟨#[101, 97, 99, 104]⟩))), (1, (ci 2))]) 84,
  oA 28 (.build 84 #[(0, (.const (.string ⟨#[108, 101, 116]⟩))), (1, (ci 2))]) 84,
  oA 29 (.buildSlice 82 28 #[(0, (tm 1)), (1, (tm 2)), (2, (tm 3)), (3, (tm 4)), (4, (tm 5)), (5, (tm 6)), (6, (tm 7)), (7, (tm 8)), (8, (tm 9)), (9, (tm 10)), (10, (tm 11)), (11, (tm 12)), (12, (tm 13)), (13, (tm 14)), (14, (tm 15)), (15, (tm 16)), (16, (tm 17)), (17, (tm 18)), (18, (tm 19)), (19, (tm 20)), (20, (tm 21)), (21, (tm 22)), (22, (tm 23)), (23, (tm 24)), (24, (tm 25)), (25, (tm 26)), (26, (tm 27)), (27, (tm 28))]) 82,
  oA 0 (.assign (tm 29)) 82]
def c32_3 : AC := .region o32_3 []
def c32_4 : AC := .ret
def c32_2 : AC := .seq c32_3 c32_4
def c32_0 : AC := .seq c32_1 c32_2
theorem r32_0 : SeqR Cx 32 c32_0 c32_1 c32_2 ∧ RegR Cx 32 c32_1 o32_1 ∧ SeqR Cx 32 c32_2 c32_3 c32_4 ∧ RegR Cx 32 c32_3 o32_3 ∧ RetR Cx 32 c32_4 := ⟨run_seq, run_region, run_seq, run_region, run_ret⟩
theorem pure32 : Cx.pure 32 = true := by kernel_rfl
abbrev o33_1 : List AO := [oA 4 (.box 84 (tm 0)) 0,
  oA 5 (.assign (.const (.bool false))) 4]
def c33_1 : AC := .region o33_1 []
abbrev o33_3 : List AO := [oA 6 (.fieldAddr 84 (tm 4) 0) 0,
  oA 7 (.load 9 (tm 6)) 9,
  oA 8 (.load 9 (tm 1)) 9,
  oA 9 (.load 3 (tm 2)) 3,
  oA 10 (.load 3 (tm 3)) 3,
  oA 11 (.slice 9 (tm 8) (some (tm 9)) (some (tm 10)) none) 9,
  oA 12 (.binOp .eql 9 (tm 7) (tm 11) 9) 4,
  oA 5 (.assign (tm 12)) 4]
def c33_3 : AC := .region o33_3 []
def c33_4 : AC := .ret
def c33_2 : AC := .seq c33_3 c33_4
def c33_0 : AC := .seq c33_1 c33_2
theorem r33_0 : SeqR Cx 33 c33_0 c33_1 c33_2 ∧ RegR Cx 33 c33_1 o33_1 ∧ SeqR Cx 33 c33_2 c33_3 c33_4 ∧ RegR Cx 33 c33_3 o33_3 ∧ RetR Cx 33 c33_4 := ⟨run_seq, run_region, run_seq, run_region, run_ret⟩
abbrev o34_1 : List AO := [oA 4 (.assign (ci 0)) 3]
def c34_1 : AC := .region o34_1 []
abbrev o34_4 : List AO := [oA 6 (.move (tm 0)) 88,
  oA 7 (cB .len #[(tm 6)] #[88]) 3,
  oA 8 (.move (ci 0)) 3]
def c34_4 : AC := .region o34_4 []
abbrev o34_8 : List AO := [oA 9 (.binOp .lss 3 (tm 8) (tm 7) 3) 0]
def c34_8 : AC := .region o34_8 []
def c34_11 : AC := .skip
def c34_12 : AC := .exit 0
def c34_10 : AC := .cond (tm 9) c34_11 c34_12
abbrev o34_16 : List AO := [oA 10 (.move (tm 8)) 3,
  oA 5 (.assign (tm 10)) 3]
def c34_16 : AC := .region o34_16 []
abbrev o34_18 : List AO := [oA 11 (.move (tm 1)) 9,
  oA 12 (.move (tm 0)) 88,
  oA 13 (.move (tm 5)) 3,
  oA 14 (.indexAddr 88 (tm 12) (tm 13)) 0,
  oA 15 (.load 9 (tm 14)) 9,
  oA 16 (.binOp .eql 9 (tm 11) (tm 15) 9) 4]
def c34_18 : AC := .region o34_18 []
abbrev o34_21 : List AO := [oA 17 (.move (tm 5)) 3,
  oA 4 (.assign (tm 17)) 3]
def c34_21 : AC := .region o34_21 []
def c34_22 : AC := .ret
def c34_20 : AC := .seq c34_21 c34_22
def c34_23 : AC := .skip
def c34_19 : AC := .cond (tm 16) c34_20 c34_23
def c34_17 : AC := .seq c34_18 c34_19
def c34_15 : AC := .seq c34_16 c34_17
def c34_14 : AC := .block 1 c34_15
abbrev o34_24 : List AO := [oA 18 (.binOp .add 3 (tm 8) (ci 1) 3) 3,
  oA 8 (.move (tm 18)) 3]
def c34_24 : AC := .region o34_24 []
def c34_13 : AC := .seq c34_14 c34_24
def c34_9 : AC := .seq c34_10 c34_13
def c34_7 : AC := .seq c34_8 c34_9
def c34_6 : AC := .loop c34_7
def c34_5 : AC := .block 0 c34_6
def c34_3 : AC := .seq c34_4 c34_5
abbrev o34_26 : List AO := [oA 4 (.assign (ci (-1))) 3]
def c34_26 : AC := .region o34_26 []
def c34_27 : AC := .ret
def c34_25 : AC := .seq c34_26 c34_27
def c34_2 : AC := .seq c34_3 c34_25
def c34_0 : AC := .seq c34_1 c34_2
theorem r34_0 : SeqR Cx 34 c34_0 c34_1 c34_2 ∧ RegR Cx 34 c34_1 o34_1 ∧ SeqR Cx 34 c34_2 c34_3 c34_25 ∧ SeqR Cx 34 c34_3 c34_4 c34_5 ∧ RegR Cx 34 c34_4 o34_4 ∧ BlkR Cx 34 c34_5 0 c34_6 ∧ LoopR Cx 34 c34_6 c34_7 ∧ SeqR Cx 34 c34_7 c34_8 c34_9 := ⟨run_seq, run_region, run_seq, run_seq, run_region, run_block, run_loop', run_seq⟩
theorem r34_1 : RegR Cx 34 c34_8 o34_8 ∧ SeqR Cx 34 c34_9 c34_10 c34_13 ∧ CondR Cx 34 c34_10 (tm 9) c34_11 c34_12 ∧ SkipR Cx 34 c34_11 ∧ ExitR Cx 34 c34_12 0 ∧ SeqR Cx 34 c34_13 c34_14 c34_24 ∧ BlkR Cx 34 c34_14 1 c34_15 ∧ SeqR Cx 34 c34_15 c34_16 c34_17 := ⟨run_region, run_seq, run_condC, run_skip, run_exit_start, run_seq, run_block, run_seq⟩
theorem r34_2 : RegR Cx 34 c34_16 o34_16 ∧ SeqR Cx 34 c34_17 c34_18 c34_19 ∧ RegR Cx 34 c34_18 o34_18 ∧ CondR Cx 34 c34_19 (tm 16) c34_20 c34_23 ∧ SeqR Cx 34 c34_20 c34_21 c34_22 ∧ RegR Cx 34 c34_21 o34_21 ∧ RetR Cx 34 c34_22 ∧ SkipR Cx 34 c34_23 := ⟨run_region, run_seq, run_region, run_condC, run_seq, run_region, run_ret, run_skip⟩
theorem r34_3 : RegR Cx 34 c34_24 o34_24 ∧ SeqR Cx 34 c34_25 c34_26 c34_27 ∧ RegR Cx 34 c34_26 o34_26 ∧ RetR Cx 34 c34_27 := ⟨run_region, run_seq, run_region, run_ret⟩
abbrev o35_1 : List AO := [oA 0 (.assign (.const (.slice none 0 0))) 88]
def c35_1 : AC := .region o35_1 []
abbrev o35_3 : List AO := [oA 1 (.buildSlice 88 5 #[(0, (.const (.string ⟨#[107, 101, 121]⟩))), (1, (.const (.string ⟨#[118, 97, 108]⟩))), (2, (.const (.string ⟨#[97, 99, 99]⟩))), (3, (.const (.string ⟨#[105]⟩))), (4, (.const (.string ⟨#[105, 116]⟩)))]) 88,
  oA 0 (.assign (tm 1)) 88]
def c35_3 : AC := .region o35_3 []
def c35_4 : AC := .ret
def c35_2 : AC := .seq c35_3 c35_4
def c35_0 : AC := .seq c35_1 c35_2
theorem r35_0 : SeqR Cx 35 c35_0 c35_1 c35_2 ∧ RegR Cx 35 c35_1 o35_1 ∧ SeqR Cx 35 c35_2 c35_3 c35_4 ∧ RegR Cx 35 c35_3 o35_3 ∧ RetR Cx 35 c35_4 := ⟨run_seq, run_region, run_seq, run_region, run_ret⟩
theorem pure35 : Cx.pure 35 = true := by kernel_rfl
abbrev o36_1 : List AO := [oA 2 (.alloc 26) 0,
  oA 3 (.assign (ci 0)) 3,
  oA 4 (.assign (ci 0)) 39]
def c36_1 : AC := .region o36_1 []
abbrev o36_5 : List AO := [oA 6 (.move (tm 0)) 9,
  oA 7 (.binOp .neq 9 (tm 6) (.const (.string ⟨#[]⟩)) 9) 4,
  oA 8 (.move (tm 7)) 4,
  oG 9 (.move (tm 0)) 9 8 true,
  oG 10 (.index 9 (tm 9) (ci 0)) 5 8 true,
  oG 11 (.binOp .eql 5 (tm 10) (.const (.int .u8 34)) 5) 4 8 true,
  oA 12 (.pick (tm 8) (tm 11) (.const (.bool false))) 4,
  oA 5 (.assign (tm 12)) 4]
def c36_5 : AC := .region o36_5 []
abbrev o36_8 : List AO := [oA 13 (.move (tm 0)) 9,
  oA 14 (cF 46 #[(tm 13)] #[9]) 90,
  oA 15 (.extract (tm 14) 0) 26,
  oA 16 (.extract (tm 14) 1) 3,
  oA 17 (.extract (tm 14) 2) 39,
  oN (.store 26 (tm 2) (tm 15)) 0,
  oA 3 (.assign (tm 16)) 3,
  oA 4 (.assign (tm 17)) 39]
def c36_8 : AC := .region o36_8 []
def c36_9 : AC := .ret
def c36_7 : AC := .seq c36_8 c36_9
abbrev o36_11 : List AO := [oA 19 (.move (tm 0)) 9,
  oA 20 (.binOp .neq 9 (tm 19) (.const (.string ⟨#[]⟩)) 9) 4,
  oA 21 (.move (tm 20)) 4,
  oG 22 (.move (tm 0)) 9 21 true,
  oG 23 (.index 9 (tm 22) (ci 0)) 5 21 true,
  oG 24 (.binOp .eql 5 (tm 23) (.const (.int .u8 45)) 5) 4 21 true,
  oG 25 (.move (tm 24)) 4 21 true,
  oG 26 (.move (tm 0)) 9 25 false,
  oG 27 (.index 9 (tm 26) (ci 0)) 5 25 false,
  oG 28 (cF 47 #[(tm 27)] #[5]) 4 25 false,
  oG 29 (.pick (tm 25) (.const (.bool true)) (tm 28)) 4 21 true,
  oA 30 (.pick (tm 21) (tm 29) (.const (.bool false))) 4,
  oA 18 (.assign (tm 30)) 4]
def c36_11 : AC := .region o36_11 []
abbrev o36_14 : List AO := [oA 31 (.move (tm 0)) 9,
  oA 32 (cF 48 #[(tm 31)] #[9]) 90,
  oA 33 (.extract (tm 32) 0) 26,
  oA 34 (.extract (tm 32) 1) 3,
  oA 35 (.extract (tm 32) 2) 39,
  oN (.store 26 (tm 2) (tm 33)) 0,
  oA 3 (.assign (tm 34)) 3,
  oA 4 (.assign (tm 35)) 39]
def c36_14 : AC := .region o36_14 []
def c36_15 : AC := .ret
def c36_13 : AC := .seq c36_14 c36_15
def c36_16 : AC := .skip
def c36_12 : AC := .cond (tm 18) c36_13 c36_16
def c36_10 : AC := .seq c36_11 c36_12
def c36_6 : AC := .cond (tm 5) c36_7 c36_10
def c36_4 : AC := .seq c36_5 c36_6
def c36_3 : AC := .block 0 c36_4
abbrev o36_18 : List AO := [oA 36 (.build 26 #[]) 26,
  oN (.store 26 (tm 2) (tm 36)) 0,
  oA 3 (.assign (ci 0)) 3,
  oA 4 (.assign (ci 10)) 39]
def c36_18 : AC := .region o36_18 []
def c36_19 : AC := .ret
def c36_17 : AC := .seq c36_18 c36_19
def c36_2 : AC := .seq c36_3 c36_17
def c36_0 : AC := .seq c36_1 c36_2
theorem r36_0 : SeqR Cx 36 c36_0 c36_1 c36_2 ∧ RegR Cx 36 c36_1 o36_1 ∧ SeqR Cx 36 c36_2 c36_3 c36_17 ∧ BlkR Cx 36 c36_3 0 c36_4 ∧ SeqR Cx 36 c36_4 c36_5 c36_6 ∧ RegR Cx 36 c36_5 o36_5 ∧ CondR Cx 36 c36_6 (tm 5) c36_7 c36_10 ∧ SeqR Cx 36 c36_7 c36_8 c36_9 := ⟨run_seq, run_region, run_seq, run_block, run_seq, run_region, run_condC, run_seq⟩
theorem r36_1 : RegR Cx 36 c36_8 o36_8 ∧ RetR Cx 36 c36_9 ∧ SeqR Cx 36 c36_10 c36_11 c36_12 ∧ RegR Cx 36 c36_11 o36_11 ∧ CondR Cx 36 c36_12 (tm 18) c36_13 c36_16 ∧ SeqR Cx 36 c36_13 c36_14 c36_15 ∧ RegR Cx 36 c36_14 o36_14 ∧ RetR Cx 36 c36_15 := ⟨run_region, run_ret, run_seq, run_region, run_condC, run_seq, run_region, run_ret⟩
theorem r36_2 : SkipR Cx 36 c36_16 ∧ SeqR Cx 36 c36_17 c36_18 c36_19 ∧ RegR Cx 36 c36_18 o36_18 ∧ RetR Cx 36 c36_19 := ⟨run_skip, run_seq, run_region, run_ret⟩
theorem body36 : bodyOf Cx 36 = some c36_0 := by kernel_rfl
theorem res36 : resOf Cx 36 = some [.cell 2 26, .tmp 3, .tmp 4] := by kernel_rfl
theorem pure36 : Cx.pure 36 = true := by kernel_rfl
abbrev o37_1 : List AO := [oA 2 (.assign (.const (.bool false))) 4]
def c37_1 : AC := .region o37_1 []
abbrev o37_3 : List AO := [oA 3 (.move (tm 0)) 3,
  oA 4 (.binOp .geq 3 (tm 3) (ci (-16777216)) 3) 4,
  oA 5 (.move (tm 4)) 4,
  oG 6 (.move (tm 0)) 3 5 true,
  oG 7 (.binOp .leq 3 (tm 6) (ci 16777216) 3) 4 5 true,
  oA 8 (.pick (tm 5) (tm 7) (.const (.bool false))) 4,
  oA 2 (.assign (tm 8)) 4]
def c37_3 : AC := .region o37_3 []
def c37_4 : AC := .ret
def c37_2 : AC := .seq c37_3 c37_4
def c37_0 : AC := .seq c37_1 c37_2
theorem r37_0 : SeqR Cx 37 c37_0 c37_1 c37_2 ∧ RegR Cx 37 c37_1 o37_1 ∧ SeqR Cx 37 c37_2 c37_3 c37_4 ∧ RegR Cx 37 c37_3 o37_3 ∧ RetR Cx 37 c37_4 := ⟨run_seq, run_region, run_seq, run_region, run_ret⟩
theorem body37 : bodyOf Cx 37 = some c37_0 := by kernel_rfl
theorem res37 : resOf Cx 37 = some [.tmp 2] := by kernel_rfl
theorem pure37 : Cx.pure 37 = true := by kernel_rfl
abbrev o38_1 : List AO := [oA 2 (.alloc 26) 0]
def c38_1 : AC := .region o38_1 []
abbrev o38_3 : List AO := [oA 3 (.move (tm 0)) 9,
  oA 4 (.build 26 #[(0, (ci 1)), (2, (tm 3))]) 26,
  oN (.store 26 (tm 2) (tm 4)) 0]
def c38_3 : AC := .region o38_3 []
def c38_4 : AC := .ret
def c38_2 : AC := .seq c38_3 c38_4
def c38_0 : AC := .seq c38_1 c38_2
theorem r38_0 : SeqR Cx 38 c38_0 c38_1 c38_2 ∧ RegR Cx 38 c38_1 o38_1 ∧ SeqR Cx 38 c38_2 c38_3 c38_4 ∧ RegR Cx 38 c38_3 o38_3 ∧ RetR Cx 38 c38_4 := ⟨run_seq, run_region, run_seq, run_region, run_ret⟩
theorem body38 : bodyOf Cx 38 = some c38_0 := by kernel_rfl
theorem res38 : resOf Cx 38 = some [.cell 2 26] := by kernel_rfl
theorem pure38 : Cx.pure 38 = true := by kernel_rfl
abbrev o39_1 : List AO := [oA 2 (.alloc 26) 0]
def c39_1 : AC := .region o39_1 []
abbrev o39_3 : List AO := [oA 3 (.move (tm 0)) 3,
  oA 4 (.build 26 #[(1, (tm 3))]) 26,
  oN (.store 26 (tm 2) (tm 4)) 0]
def c39_3 : AC := .region o39_3 []
def c39_4 : AC := .ret
def c39_2 : AC := .seq c39_3 c39_4
def c39_0 : AC := .seq c39_1 c39_2
theorem r39_0 : SeqR Cx 39 c39_0 c39_1 c39_2 ∧ RegR Cx 39 c39_1 o39_1 ∧ SeqR Cx 39 c39_2 c39_3 c39_4 ∧ RegR Cx 39 c39_3 o39_3 ∧ RetR Cx 39 c39_4 := ⟨run_seq, run_region, run_seq, run_region, run_ret⟩
theorem body39 : bodyOf Cx 39 = some c39_0 := by kernel_rfl
theorem res39 : resOf Cx 39 = some [.cell 2 26] := by kernel_rfl
theorem pure39 : Cx.pure 39 = true := by kernel_rfl
abbrev o40_1 : List AO := [oA 3 (.box 60 (tm 0)) 0,
  oA 4 (.box 26 (tm 1)) 0,
  oA 6 (.alloc 26) 0]
def c40_1 : AC := .region o40_1 []
abbrev o40_6 : List AO := [oA 11 (.fieldAddr 26 (tm 4) 0) 0,
  oA 12 (.load 3 (tm 11)) 3,
  oA 13 (.binOp .neq 3 (tm 12) (ci 0) 3) 4,
  oA 10 (.assign (tm 13)) 4]
def c40_6 : AC := .region o40_6 []
abbrev o40_9 : List AO := [oA 14 (.load 60 (tm 3)) 60,
  oA 15 (cF 25 #[(tm 14), (ci 13)] #[60, 39]) 26,
  oN (.store 26 (tm 6) (tm 15)) 0]
def c40_9 : AC := .region o40_9 []
def c40_10 : AC := .ret
def c40_8 : AC := .seq c40_9 c40_10
abbrev o40_12 : List AO := [oA 17 (.fieldAddr 26 (tm 4) 1) 0,
  oA 18 (.load 3 (tm 17)) 3,
  oA 19 (.binOp .lss 3 (tm 18) (ci 0) 3) 4,
  oA 16 (.assign (tm 19)) 4]
def c40_12 : AC := .region o40_12 []
abbrev o40_15 : List AO := [oA 20 (.load 60 (tm 3)) 60,
  oA 21 (cF 25 #[(tm 20), (ci 14)] #[60, 39]) 26,
  oN (.store 26 (tm 6) (tm 21)) 0]
def c40_15 : AC := .region o40_15 []
def c40_16 : AC := .ret
def c40_14 : AC := .seq c40_15 c40_16
def c40_17 : AC := .skip
def c40_13 : AC := .cond (tm 16) c40_14 c40_17
def c40_11 : AC := .seq c40_12 c40_13
def c40_7 : AC := .cond (tm 10) c40_8 c40_11
def c40_5 : AC := .seq c40_6 c40_7
def c40_4 : AC := .block 0 c40_5
abbrev o40_19 : List AO := [oA 22 (.load 60 (tm 3)) 60,
  oA 23 (.nilCheck (tm 22)) 0,
  oA 24 (.fieldAddr 64 (tm 23) 3) 0,
  oA 25 (.load 3 (tm 24)) 3,
  oA 7 (.alloc 3) 0,
  oN (.store 3 (tm 7) (tm 25)) 0]
def c40_19 : AC := .region o40_19 []
abbrev o40_21 : List AO := [oA 26 (.makeFunc (.func 49) #[] #[(tm 7), (tm 3)]) 1,
  oN (.defer { callee := (.value (tm 26)), args := #[], argTypes := #[] }) 0]
def c40_21 : AC := .region o40_21 []
abbrev o40_23 : List AO := [oA 27 (cF 39 #[(ci 0)] #[3]) 26,
  oA 8 (.alloc 26) 0,
  oN (.store 26 (tm 8) (tm 27)) 0]
def c40_23 : AC := .region o40_23 []
abbrev o40_25 : List AO := [oA 28 (.load 60 (tm 3)) 60,
  oA 29 (.nilCheck (tm 28)) 0,
  oA 30 (.fieldAddr 64 (tm 29) 3) 0,
  oN (.store 3 (tm 30) (ci 0)) 0]
def c40_25 : AC := .region o40_25 []
def c40_27 : AC := .label 0
abbrev o40_30 : List AO := [oA 31 (.load 60 (tm 3)) 60,
  oA 32 (.nilCheck (tm 31)) 0,
  oA 33 (.fieldAddr 64 (tm 32) 3) 0,
  oA 34 (.load 3 (tm 33)) 3,
  oA 35 (.fieldAddr 26 (tm 4) 1) 0,
  oA 36 (.load 3 (tm 35)) 3,
  oA 37 (.binOp .lss 3 (tm 34) (tm 36) 3) 4,
  oA 38 (.move (tm 37)) 4,
  oG 39 (.load 60 (tm 3)) 60 38 true,
  oG 40 (.nilCheck (tm 39)) 0 38 true,
  oG 41 (.fieldAddr 64 (tm 40) 7) 0 38 true,
  oG 42 (.load 39 (tm 41)) 39 38 true,
  oG 43 (.binOp .eql 39 (tm 42) (ci 0) 39) 4 38 true,
  oA 44 (.pick (tm 38) (tm 43) (.const (.bool false))) 4]
def c40_30 : AC := .region o40_30 []
abbrev o40_33 : List AO := [oA 45 (.load 60 (tm 3)) 60,
  oA 46 (.nilCheck (tm 45)) 0,
  oA 47 (.fieldAddr 64 (tm 46) 3) 0,
  oA 48 (.load 3 (tm 47)) 3,
  oA 9 (.assign (tm 48)) 3]
def c40_33 : AC := .region o40_33 []
abbrev o40_35 : List AO := [oA 49 (.load 60 (tm 3)) 60,
  oA 50 (.move (tm 2)) 3,
  oA 51 (cF 18 #[(tm 49), (tm 50)] #[60, 3]) 26,
  oN (.store 26 (tm 8) (tm 51)) 0]
def c40_35 : AC := .region o40_35 []
abbrev o40_37 : List AO := [oA 52 (.load 60 (tm 3)) 60,
  oA 53 (.move (tm 9)) 3,
  oA 54 (.binOp .add 3 (tm 53) (ci 1) 3) 3,
  oA 55 (.nilCheck (tm 52)) 0,
  oA 56 (.fieldAddr 64 (tm 55) 3) 0,
  oN (.store 3 (tm 56) (tm 54)) 0]
def c40_37 : AC := .region o40_37 []
def c40_38 : AC := .goto 0
def c40_36 : AC := .seq c40_37 c40_38
def c40_34 : AC := .seq c40_35 c40_36
def c40_32 : AC := .seq c40_33 c40_34
def c40_39 : AC := .skip
def c40_31 : AC := .cond (tm 44) c40_32 c40_39
def c40_29 : AC := .seq c40_30 c40_31
abbrev o40_41 : List AO := [oA 57 (.load 26 (tm 8)) 26,
  oN (.store 26 (tm 6) (tm 57)) 0]
def c40_41 : AC := .region o40_41 []
def c40_42 : AC := .ret
def c40_40 : AC := .seq c40_41 c40_42
def c40_28 : AC := .seq c40_29 c40_40
def c40_26 : AC := .seq c40_27 c40_28
def c40_24 : AC := .seq c40_25 c40_26
def c40_22 : AC := .seq c40_23 c40_24
def c40_20 : AC := .seq c40_21 c40_22
def c40_18 : AC := .seq c40_19 c40_20
def c40_3 : AC := .seq c40_4 c40_18
def c40_2 : AC := .scope c40_3
def c40_0 : AC := .seq c40_1 c40_2
theorem r40_0 : SeqR Cx 40 c40_0 c40_1 c40_2 ∧ RegR Cx 40 c40_1 o40_1 ∧ ScopeR Cx 40 c40_2 c40_3 ∧ SeqR Cx 40 c40_3 c40_4 c40_18 ∧ BlkR Cx 40 c40_4 0 c40_5 ∧ SeqR Cx 40 c40_5 c40_6 c40_7 ∧ RegR Cx 40 c40_6 o40_6 ∧ CondR Cx 40 c40_7 (tm 10) c40_8 c40_11 := ⟨run_seq, run_region, run_scope, run_seq, run_block, run_seq, run_region, run_condC⟩
theorem r40_1 : SeqR Cx 40 c40_8 c40_9 c40_10 ∧ RegR Cx 40 c40_9 o40_9 ∧ RetR Cx 40 c40_10 ∧ SeqR Cx 40 c40_11 c40_12 c40_13 ∧ RegR Cx 40 c40_12 o40_12 ∧ CondR Cx 40 c40_13 (tm 16) c40_14 c40_17 ∧ SeqR Cx 40 c40_14 c40_15 c40_16 ∧ RegR Cx 40 c40_15 o40_15 := ⟨run_seq, run_region, run_ret, run_seq, run_region, run_condC, run_seq, run_region⟩
theorem r40_2 : RetR Cx 40 c40_16 ∧ SkipR Cx 40 c40_17 ∧ SeqR Cx 40 c40_18 c40_19 c40_20 ∧ RegR Cx 40 c40_19 o40_19 ∧ SeqR Cx 40 c40_20 c40_21 c40_22 ∧ RegR Cx 40 c40_21 o40_21 ∧ SeqR Cx 40 c40_22 c40_23 c40_24 ∧ RegR Cx 40 c40_23 o40_23 := ⟨run_ret, run_skip, run_seq, run_region, run_seq, run_region, run_seq, run_region⟩
theorem r40_3 : SeqR Cx 40 c40_24 c40_25 c40_26 ∧ RegR Cx 40 c40_25 o40_25 ∧ SeqR Cx 40 c40_26 c40_27 c40_28 ∧ SkipR Cx 40 c40_27 ∧ SeqR Cx 40 c40_28 c40_29 c40_40 ∧ SeqR Cx 40 c40_29 c40_30 c40_31 ∧ RegR Cx 40 c40_30 o40_30 ∧ CondR Cx 40 c40_31 (tm 44) c40_32 c40_39 := ⟨run_seq, run_region, run_seq, run_label, run_seq, run_seq, run_region, run_condC⟩
theorem r40_4 : SeqR Cx 40 c40_32 c40_33 c40_34 ∧ RegR Cx 40 c40_33 o40_33 ∧ SeqR Cx 40 c40_34 c40_35 c40_36 ∧ RegR Cx 40 c40_35 o40_35 ∧ SeqR Cx 40 c40_36 c40_37 c40_38 ∧ RegR Cx 40 c40_37 o40_37 ∧ SkipR Cx 40 c40_39 ∧ SeqR Cx 40 c40_40 c40_41 c40_42 := ⟨run_seq, run_region, run_seq, run_region, run_seq, run_region, run_skip, run_seq⟩
theorem r40_5 : RegR Cx 40 c40_41 o40_41 ∧ RetR Cx 40 c40_42 := ⟨run_region, run_ret⟩
theorem body40 : bodyOf Cx 40 = some c40_0 := by kernel_rfl
theorem res40 : resOf Cx 40 = some [.cell 6 26] := by kernel_rfl
theorem pure40 : Cx.pure 40 = false := by kernel_rfl
abbrev o41_1 : List AO := [oA 6 (.alloc 26) 0]
def c41_1 : AC := .region o41_1 []
abbrev o41_4 : List AO := [oA 11 (.move (tm 2)) 77,
  oA 12 (.indexAddr 77 (tm 11) (ci 0)) 0,
  oA 13 (.fieldAddr 26 (tm 12) 0) 0,
  oA 14 (.load 3 (tm 13)) 3,
  oA 15 (.binOp .eql 3 (tm 14) (ci 2) 3) 4,
  oA 16 (.move (tm 15)) 4,
  oG 17 (.move (tm 2)) 77 16 true,
  oG 18 (.indexAddr 77 (tm 17) (ci 1)) 0 16 true,
  oG 19 (.fieldAddr 26 (tm 18) 0) 0 16 true,
  oG 20 (.load 3 (tm 19)) 3 16 true,
  oG 21 (.binOp .eql 3 (tm 20) (ci 2) 3) 4 16 true,
  oA 22 (.pick (tm 16) (tm 21) (.const (.bool false))) 4]
def c41_4 : AC := .region o41_4 []
abbrev o41_7 : List AO := [oA 23 (.move (tm 0)) 60,
  oA 24 (.move (tm 1)) 9,
  oA 25 (.move (tm 2)) 77,
  oA 26 (.indexAddr 77 (tm 25) (ci 0)) 0,
  oA 27 (.fieldAddr 26 (tm 26) 3) 0,
  oA 28 (.load 24 (tm 27)) 24,
  oA 29 (.move (tm 2)) 77,
  oA 30 (.indexAddr 77 (tm 29) (ci 1)) 0,
  oA 31 (.fieldAddr 26 (tm 30) 3) 0,
  oA 32 (.load 24 (tm 31)) 24,
  oA 33 (cF 50 #[(tm 23), (tm 24), (tm 28), (tm 32)] #[60, 9, 24, 24]) 26,
  oN (.store 26 (tm 6) (tm 33)) 0]
def c41_7 : AC := .region o41_7 []
def c41_8 : AC := .ret
def c41_6 : AC := .seq c41_7 c41_8
def c41_9 : AC := .skip
def c41_5 : AC := .cond (tm 22) c41_6 c41_9
def c41_3 : AC := .seq c41_4 c41_5
abbrev o41_12 : List AO := [oA 34 (.move (tm 0)) 60,
  oA 35 (.move (tm 2)) 77,
  oA 36 (cF 51 #[(tm 34), (.const (.string ⟨#[110, 110]⟩)), (tm 35)] #[60, 9, 77]) 4,
  oA 37 (.unOp .not 4 (tm 36)) 4]
def c41_12 : AC := .region o41_12 []
abbrev o41_15 : List AO := [oA 38 (.build 26 #[]) 26,
  oN (.store 26 (tm 6) (tm 38)) 0]
def c41_15 : AC := .region o41_15 []
def c41_16 : AC := .ret
def c41_14 : AC := .seq c41_15 c41_16
def c41_17 : AC := .skip
def c41_13 : AC := .cond (tm 37) c41_14 c41_17
def c41_11 : AC := .seq c41_12 c41_13
abbrev o41_19 : List AO := [oA 39 (.move (tm 2)) 77,
  oA 40 (.indexAddr 77 (tm 39) (ci 0)) 0,
  oA 41 (.fieldAddr 26 (tm 40) 1) 0,
  oA 42 (.load 3 (tm 41)) 3,
  oA 43 (.move (tm 2)) 77,
  oA 44 (.indexAddr 77 (tm 43) (ci 1)) 0,
  oA 45 (.fieldAddr 26 (tm 44) 1) 0,
  oA 46 (.load 3 (tm 45)) 3,
  oA 7 (.assign (tm 42)) 3,
  oA 8 (.assign (tm 46)) 3]
def c41_19 : AC := .region o41_19 []
abbrev o41_22 : List AO := [oA 47 (.move (tm 1)) 9]
def c41_22 : AC := .region o41_22 []
abbrev o41_25 : List AO := [oA 49 (.binOp .eql 9 (tm 47) (.const (.string ⟨#[97, 100, 100]⟩)) 9) 4,
  oA 48 (.assign (tm 49)) 4]
def c41_25 : AC := .region o41_25 []
abbrev o41_28 : List AO := [oA 50 (.move (tm 0)) 60,
  oA 51 (.move (tm 7)) 3,
  oA 52 (.move (tm 8)) 3,
  oA 53 (.binOp .add 3 (tm 51) (tm 52) 3) 3,
  oA 54 (cF 39 #[(tm 53)] #[3]) 26,
  oA 55 (cF 52 #[(tm 50), (tm 54)] #[60, 26]) 26,
  oN (.store 26 (tm 6) (tm 55)) 0]
def c41_28 : AC := .region o41_28 []
def c41_29 : AC := .ret
def c41_27 : AC := .seq c41_28 c41_29
abbrev o41_31 : List AO := [oA 57 (.binOp .eql 9 (tm 47) (.const (.string ⟨#[115, 117, 98]⟩)) 9) 4,
  oA 56 (.assign (tm 57)) 4]
def c41_31 : AC := .region o41_31 []
abbrev o41_34 : List AO := [oA 58 (.move (tm 0)) 60,
  oA 59 (.move (tm 7)) 3,
  oA 60 (.move (tm 8)) 3,
  oA 61 (.binOp .sub 3 (tm 59) (tm 60) 3) 3,
  oA 62 (cF 39 #[(tm 61)] #[3]) 26,
  oA 63 (cF 52 #[(tm 58), (tm 62)] #[60, 26]) 26,
  oN (.store 26 (tm 6) (tm 63)) 0]
def c41_34 : AC := .region o41_34 []
def c41_35 : AC := .ret
def c41_33 : AC := .seq c41_34 c41_35
abbrev o41_37 : List AO := [oA 65 (.binOp .eql 9 (tm 47) (.const (.string ⟨#[109, 117, 108]⟩)) 9) 4,
  oA 64 (.assign (tm 65)) 4]
def c41_37 : AC := .region o41_37 []
abbrev o41_41 : List AO := [oA 66 (.move (tm 7)) 3,
  oA 67 (.move (tm 8)) 3,
  oA 68 (cF 53 #[(tm 66), (tm 67)] #[3, 3]) 4]
def c41_41 : AC := .region o41_41 []
abbrev o41_44 : List AO := [oA 69 (.move (tm 0)) 60,
  oA 70 (cF 25 #[(tm 69), (ci 14)] #[60, 39]) 26,
  oN (.store 26 (tm 6) (tm 70)) 0]
def c41_44 : AC := .region o41_44 []
def c41_45 : AC := .ret
def c41_43 : AC := .seq c41_44 c41_45
def c41_46 : AC := .skip
def c41_42 : AC := .cond (tm 68) c41_43 c41_46
def c41_40 : AC := .seq c41_41 c41_42
abbrev o41_48 : List AO := [oA 71 (.move (tm 0)) 60,
  oA 72 (.move (tm 7)) 3,
  oA 73 (.move (tm 8)) 3,
  oA 74 (.binOp .mul 3 (tm 72) (tm 73) 3) 3,
  oA 75 (cF 39 #[(tm 74)] #[3]) 26,
  oA 76 (cF 52 #[(tm 71), (tm 75)] #[60, 26]) 26,
  oN (.store 26 (tm 6) (tm 76)) 0]
def c41_48 : AC := .region o41_48 []
def c41_49 : AC := .ret
def c41_47 : AC := .seq c41_48 c41_49
def c41_39 : AC := .seq c41_40 c41_47
def c41_50 : AC := .skip
def c41_38 : AC := .cond (tm 64) c41_39 c41_50
def c41_36 : AC := .seq c41_37 c41_38
def c41_32 : AC := .cond (tm 56) c41_33 c41_36
def c41_30 : AC := .seq c41_31 c41_32
def c41_26 : AC := .cond (tm 48) c41_27 c41_30
def c41_24 : AC := .seq c41_25 c41_26
def c41_23 : AC := .block 0 c41_24
def c41_21 : AC := .seq c41_22 c41_23
abbrev o41_53 : List AO := [oA 77 (.move (tm 8)) 3,
  oA 78 (.binOp .eql 3 (tm 77) (ci 0) 3) 4]
def c41_53 : AC := .region o41_53 []
abbrev o41_56 : List AO := [oA 79 (.move (tm 0)) 60,
  oA 80 (cF 25 #[(tm 79), (ci 16)] #[60, 39]) 26,
  oN (.store 26 (tm 6) (tm 80)) 0]
def c41_56 : AC := .region o41_56 []
def c41_57 : AC := .ret
def c41_55 : AC := .seq c41_56 c41_57
def c41_58 : AC := .skip
def c41_54 : AC := .cond (tm 78) c41_55 c41_58
def c41_52 : AC := .seq c41_53 c41_54
abbrev o41_60 : List AO := [oA 82 (.move (tm 7)) 3,
  oA 83 (.move (tm 8)) 3,
  oA 84 (cF 54 #[(tm 82), (tm 83)] #[3, 3]) 101,
  oA 81 (.move (tm 84)) 101,
  oA 85 (.extract (tm 81) 0) 3,
  oA 86 (.extract (tm 81) 1) 3,
  oA 9 (.assign (tm 85)) 3,
  oA 10 (.assign (tm 86)) 3]
def c41_60 : AC := .region o41_60 []
abbrev o41_63 : List AO := [oA 87 (.move (tm 1)) 9,
  oA 88 (.binOp .eql 9 (tm 87) (.const (.string ⟨#[109, 111, 100]⟩)) 9) 4]
def c41_63 : AC := .region o41_63 []
abbrev o41_66 : List AO := [oA 89 (.move (tm 10)) 3,
  oA 90 (cF 39 #[(tm 89)] #[3]) 26,
  oN (.store 26 (tm 6) (tm 90)) 0]
def c41_66 : AC := .region o41_66 []
def c41_67 : AC := .ret
def c41_65 : AC := .seq c41_66 c41_67
def c41_68 : AC := .skip
def c41_64 : AC := .cond (tm 88) c41_65 c41_68
def c41_62 : AC := .seq c41_63 c41_64
abbrev o41_70 : List AO := [oA 91 (.move (tm 0)) 60,
  oA 92 (.move (tm 9)) 3,
  oA 93 (cF 39 #[(tm 92)] #[3]) 26,
  oA 94 (cF 52 #[(tm 91), (tm 93)] #[60, 26]) 26,
  oN (.store 26 (tm 6) (tm 94)) 0]
def c41_70 : AC := .region o41_70 []
def c41_71 : AC := .ret
def c41_69 : AC := .seq c41_70 c41_71
def c41_61 : AC := .seq c41_62 c41_69
def c41_59 : AC := .seq c41_60 c41_61
def c41_51 : AC := .seq c41_52 c41_59
def c41_20 : AC := .seq c41_21 c41_51
def c41_18 : AC := .seq c41_19 c41_20
def c41_10 : AC := .seq c41_11 c41_18
def c41_2 : AC := .seq c41_3 c41_10
def c41_0 : AC := .seq c41_1 c41_2
theorem r41_0 : SeqR Cx 41 c41_0 c41_1 c41_2 ∧ RegR Cx 41 c41_1 o41_1 ∧ SeqR Cx 41 c41_2 c41_3 c41_10 ∧ SeqR Cx 41 c41_3 c41_4 c41_5 ∧ RegR Cx 41 c41_4 o41_4 ∧ CondR Cx 41 c41_5 (tm 22) c41_6 c41_9 ∧ SeqR Cx 41 c41_6 c41_7 c41_8 ∧ RegR Cx 41 c41_7 o41_7 := ⟨run_seq, run_region, run_seq, run_seq, run_region, run_condC, run_seq, run_region⟩
theorem r41_1 : RetR Cx 41 c41_8 ∧ SkipR Cx 41 c41_9 ∧ SeqR Cx 41 c41_10 c41_11 c41_18 ∧ SeqR Cx 41 c41_11 c41_12 c41_13 ∧ RegR Cx 41 c41_12 o41_12 ∧ CondR Cx 41 c41_13 (tm 37) c41_14 c41_17 ∧ SeqR Cx 41 c41_14 c41_15 c41_16 ∧ RegR Cx 41 c41_15 o41_15 := ⟨run_ret, run_skip, run_seq, run_seq, run_region, run_condC, run_seq, run_region⟩
theorem r41_2 : RetR Cx 41 c41_16 ∧ SkipR Cx 41 c41_17 ∧ SeqR Cx 41 c41_18 c41_19 c41_20 ∧ RegR Cx 41 c41_19 o41_19 ∧ SeqR Cx 41 c41_20 c41_21 c41_51 ∧ SeqR Cx 41 c41_21 c41_22 c41_23 ∧ RegR Cx 41 c41_22 o41_22 ∧ BlkR Cx 41 c41_23 0 c41_24 := ⟨run_ret, run_skip, run_seq, run_region, run_seq, run_seq, run_region, run_block⟩
theorem r41_3 : SeqR Cx 41 c41_24 c41_25 c41_26 ∧ RegR Cx 41 c41_25 o41_25 ∧ CondR Cx 41 c41_26 (tm 48) c41_27 c41_30 ∧ SeqR Cx 41 c41_27 c41_28 c41_29 ∧ RegR Cx 41 c41_28 o41_28 ∧ RetR Cx 41 c41_29 ∧ SeqR Cx 41 c41_30 c41_31 c41_32 ∧ RegR Cx 41 c41_31 o41_31 := ⟨run_seq, run_region, run_condC, run_seq, run_region, run_ret, run_seq, run_region⟩
theorem r41_4 : CondR Cx 41 c41_32 (tm 56) c41_33 c41_36 ∧ SeqR Cx 41 c41_33 c41_34 c41_35 ∧ RegR Cx 41 c41_34 o41_34 ∧ RetR Cx 41 c41_35 ∧ SeqR Cx 41 c41_36 c41_37 c41_38 ∧ RegR Cx 41 c41_37 o41_37 ∧ CondR Cx 41 c41_38 (tm 64) c41_39 c41_50 ∧ SeqR Cx 41 c41_39 c41_40 c41_47 := ⟨run_condC, run_seq, run_region, run_ret, run_seq, run_region, run_condC, run_seq⟩
theorem r41_5 : SeqR Cx 41 c41_40 c41_41 c41_42 ∧ RegR Cx 41 c41_41 o41_41 ∧ CondR Cx 41 c41_42 (tm 68) c41_43 c41_46 ∧ SeqR Cx 41 c41_43 c41_44 c41_45 ∧ RegR Cx 41 c41_44 o41_44 ∧ RetR Cx 41 c41_45 ∧ SkipR Cx 41 c41_46 ∧ SeqR Cx 41 c41_47 c41_48 c41_49 := ⟨run_seq, run_region, run_condC, run_seq, run_region, run_ret, run_skip, run_seq⟩
theorem r41_6 : RegR Cx 41 c41_48 o41_48 ∧ RetR Cx 41 c41_49 ∧ SkipR Cx 41 c41_50 ∧ SeqR Cx 41 c41_51 c41_52 c41_59 ∧ SeqR Cx 41 c41_52 c41_53 c41_54 ∧ RegR Cx 41 c41_53 o41_53 ∧ CondR Cx 41 c41_54 (tm 78) c41_55 c41_58 ∧ SeqR Cx 41 c41_55 c41_56 c41_57 := ⟨run_region, run_ret, run_skip, run_seq, run_seq, run_region, run_condC, run_seq⟩
theorem r41_7 : RegR Cx 41 c41_56 o41_56 ∧ RetR Cx 41 c41_57 ∧ SkipR Cx 41 c41_58 ∧ SeqR Cx 41 c41_59 c41_60 c41_61 ∧ RegR Cx 41 c41_60 o41_60 ∧ SeqR Cx 41 c41_61 c41_62 c41_69 ∧ SeqR Cx 41 c41_62 c41_63 c41_64 ∧ RegR Cx 41 c41_63 o41_63 := ⟨run_region, run_ret, run_skip, run_seq, run_region, run_seq, run_seq, run_region⟩
theorem r41_8 : CondR Cx 41 c41_64 (tm 88) c41_65 c41_68 ∧ SeqR Cx 41 c41_65 c41_66 c41_67 ∧ RegR Cx 41 c41_66 o41_66 ∧ RetR Cx 41 c41_67 ∧ SkipR Cx 41 c41_68 ∧ SeqR Cx 41 c41_69 c41_70 c41_71 ∧ RegR Cx 41 c41_70 o41_70 ∧ RetR Cx 41 c41_71 := ⟨run_condC, run_seq, run_region, run_ret, run_skip, run_seq, run_region, run_ret⟩
theorem body41 : bodyOf Cx 41 = some c41_0 := by kernel_rfl
theorem res41 : resOf Cx 41 = some [.cell 6 26] := by kernel_rfl
theorem pure41 : Cx.pure 41 = false := by kernel_rfl
abbrev o42_1 : List AO := [oA 6 (.alloc 26) 0]
def c42_1 : AC := .region o42_1 []
abbrev o42_4 : List AO := [oA 8 (.move (tm 2)) 77,
  oA 9 (.indexAddr 77 (tm 8) (ci 0)) 0,
  oA 10 (.fieldAddr 26 (tm 9) 0) 0,
  oA 11 (.load 3 (tm 10)) 3,
  oA 12 (.move (tm 2)) 77,
  oA 13 (.indexAddr 77 (tm 12) (ci 1)) 0,
  oA 14 (.fieldAddr 26 (tm 13) 0) 0,
  oA 15 (.load 3 (tm 14)) 3,
  oA 16 (.binOp .neq 3 (tm 11) (tm 15) 3) 4]
def c42_4 : AC := .region o42_4 []
abbrev o42_7 : List AO := [oA 17 (.move (tm 0)) 60,
  oA 18 (cF 25 #[(tm 17), (ci 13)] #[60, 39]) 26,
  oN (.store 26 (tm 6) (tm 18)) 0]
def c42_7 : AC := .region o42_7 []
def c42_8 : AC := .ret
def c42_6 : AC := .seq c42_7 c42_8
def c42_9 : AC := .skip
def c42_5 : AC := .cond (tm 16) c42_6 c42_9
def c42_3 : AC := .seq c42_4 c42_5
abbrev o42_11 : List AO := [oA 19 (.move (tm 2)) 77,
  oA 20 (.indexAddr 77 (tm 19) (ci 0)) 0,
  oA 21 (.load 26 (tm 20)) 26,
  oA 22 (.move (tm 2)) 77,
  oA 23 (.indexAddr 77 (tm 22) (ci 1)) 0,
  oA 24 (.load 26 (tm 23)) 26,
  oA 25 (cF 55 #[(tm 21), (tm 24)] #[26, 26]) 3,
  oA 7 (.assign (tm 25)) 3]
def c42_11 : AC := .region o42_11 []
abbrev o42_15 : List AO := [oA 27 (.move (tm 1)) 9,
  oA 28 (.binOp .eql 9 (tm 27) (.const (.string ⟨#[108, 101, 115, 115]⟩)) 9) 4,
  oA 26 (.assign (tm 28)) 4]
def c42_15 : AC := .region o42_15 []
abbrev o42_18 : List AO := [oA 29 (.move (tm 7)) 3,
  oA 30 (.binOp .lss 3 (tm 29) (ci 0) 3) 4,
  oA 31 (cF 56 #[(tm 30)] #[4]) 26,
  oN (.store 26 (tm 6) (tm 31)) 0]
def c42_18 : AC := .region o42_18 []
def c42_19 : AC := .ret
def c42_17 : AC := .seq c42_18 c42_19
abbrev o42_22 : List AO := [oA 33 (.move (tm 1)) 9,
  oA 34 (.binOp .eql 9 (tm 33) (.const (.string ⟨#[109, 97, 120]⟩)) 9) 4,
  oA 35 (.move (tm 34)) 4,
  oG 36 (.move (tm 7)) 3 35 true,
  oG 37 (.binOp .gtr 3 (tm 36) (ci 0) 3) 4 35 true,
  oA 38 (.pick (tm 35) (tm 37) (.const (.bool false))) 4,
  oA 32 (.assign (tm 38)) 4]
def c42_22 : AC := .region o42_22 []
def c42_24 : AC := .skip
abbrev o42_25 : List AO := [oA 39 (.move (tm 1)) 9,
  oA 40 (.binOp .eql 9 (tm 39) (.const (.string ⟨#[109, 105, 110]⟩)) 9) 4,
  oA 41 (.move (tm 40)) 4,
  oG 42 (.move (tm 7)) 3 41 true,
  oG 43 (.binOp .leq 3 (tm 42) (ci 0) 3) 4 41 true,
  oA 44 (.pick (tm 41) (tm 43) (.const (.bool false))) 4,
  oA 32 (.assign (tm 44)) 4]
def c42_25 : AC := .region o42_25 []
def c42_23 : AC := .cond (tm 32) c42_24 c42_25
def c42_21 : AC := .seq c42_22 c42_23
abbrev o42_28 : List AO := [oA 45 (.move (tm 2)) 77,
  oA 46 (.indexAddr 77 (tm 45) (ci 0)) 0,
  oA 47 (.load 26 (tm 46)) 26,
  oN (.store 26 (tm 6) (tm 47)) 0]
def c42_28 : AC := .region o42_28 []
def c42_29 : AC := .ret
def c42_27 : AC := .seq c42_28 c42_29
def c42_30 : AC := .skip
def c42_26 : AC := .cond (tm 32) c42_27 c42_30
def c42_20 : AC := .seq c42_21 c42_26
def c42_16 : AC := .cond (tm 26) c42_17 c42_20
def c42_14 : AC := .seq c42_15 c42_16
def c42_13 : AC := .block 0 c42_14
abbrev o42_32 : List AO := [oA 48 (.move (tm 2)) 77,
  oA 49 (.indexAddr 77 (tm 48) (ci 1)) 0,
  oA 50 (.load 26 (tm 49)) 26,
  oN (.store 26 (tm 6) (tm 50)) 0]
def c42_32 : AC := .region o42_32 []
def c42_33 : AC := .ret
def c42_31 : AC := .seq c42_32 c42_33
def c42_12 : AC := .seq c42_13 c42_31
def c42_10 : AC := .seq c42_11 c42_12
def c42_2 : AC := .seq c42_3 c42_10
def c42_0 : AC := .seq c42_1 c42_2
theorem r42_0 : SeqR Cx 42 c42_0 c42_1 c42_2 ∧ RegR Cx 42 c42_1 o42_1 ∧ SeqR Cx 42 c42_2 c42_3 c42_10 ∧ SeqR Cx 42 c42_3 c42_4 c42_5 ∧ RegR Cx 42 c42_4 o42_4 ∧ CondR Cx 42 c42_5 (tm 16) c42_6 c42_9 ∧ SeqR Cx 42 c42_6 c42_7 c42_8 ∧ RegR Cx 42 c42_7 o42_7 := ⟨run_seq, run_region, run_seq, run_seq, run_region, run_condC, run_seq, run_region⟩
theorem r42_1 : RetR Cx 42 c42_8 ∧ SkipR Cx 42 c42_9 ∧ SeqR Cx 42 c42_10 c42_11 c42_12 ∧ RegR Cx 42 c42_11 o42_11 ∧ SeqR Cx 42 c42_12 c42_13 c42_31 ∧ BlkR Cx 42 c42_13 0 c42_14 ∧ SeqR Cx 42 c42_14 c42_15 c42_16 ∧ RegR Cx 42 c42_15 o42_15 := ⟨run_ret, run_skip, run_seq, run_region, run_seq, run_block, run_seq, run_region⟩
theorem r42_2 : CondR Cx 42 c42_16 (tm 26) c42_17 c42_20 ∧ SeqR Cx 42 c42_17 c42_18 c42_19 ∧ RegR Cx 42 c42_18 o42_18 ∧ RetR Cx 42 c42_19 ∧ SeqR Cx 42 c42_20 c42_21 c42_26 ∧ SeqR Cx 42 c42_21 c42_22 c42_23 ∧ RegR Cx 42 c42_22 o42_22 ∧ CondR Cx 42 c42_23 (tm 32) c42_24 c42_25 := ⟨run_condC, run_seq, run_region, run_ret, run_seq, run_seq, run_region, run_condC⟩
theorem r42_3 : SkipR Cx 42 c42_24 ∧ RegR Cx 42 c42_25 o42_25 ∧ CondR Cx 42 c42_26 (tm 32) c42_27 c42_30 ∧ SeqR Cx 42 c42_27 c42_28 c42_29 ∧ RegR Cx 42 c42_28 o42_28 ∧ RetR Cx 42 c42_29 ∧ SkipR Cx 42 c42_30 ∧ SeqR Cx 42 c42_31 c42_32 c42_33 := ⟨run_skip, run_region, run_condC, run_seq, run_region, run_ret, run_skip, run_seq⟩
theorem r42_4 : RegR Cx 42 c42_32 o42_32 ∧ RetR Cx 42 c42_33 := ⟨run_region, run_ret⟩
theorem body42 : bodyOf Cx 42 = some c42_0 := by kernel_rfl
theorem res42 : resOf Cx 42 = some [.cell 6 26] := by kernel_rfl
theorem pure42 : Cx.pure 42 = false := by kernel_rfl
abbrev o43_1 : List AO := [oA 6 (.alloc 26) 0]
def c43_1 : AC := .region o43_1 []
abbrev o43_3 : List AO := [oA 13 (.makeMap 105 none) 105,
  oN (.insert 105 (tm 13) (.const (.string ⟨#[99, 97, 116]⟩)) (.const (.string ⟨#[115, 115]⟩))) 0,
  oN (.insert 105 (tm 13) (.const (.string ⟨#[108, 101, 110]⟩)) (.const (.string ⟨#[115]⟩))) 0,
  oN (.insert 105 (tm 13) (.const (.string ⟨#[99, 117, 116]⟩)) (.const (.string ⟨#[115, 110, 110]⟩))) 0,
  oN (.insert 105 (tm 13) (.const (.string ⟨#[119, 111, 114, 100, 115]⟩)) (.const (.string ⟨#[115]⟩))) 0,
  oN (.insert 105 (tm 13) (.const (.string ⟨#[119, 111, 114, 100]⟩)) (.const (.string ⟨#[115, 110]⟩))) 0,
  oN (.insert 105 (tm 13) (.const (.string ⟨#[110, 117, 109]⟩)) (.const (.string ⟨#[115]⟩))) 0,
  oA 14 (.move (tm 13)) 105,
  oA 15 (.move (tm 1)) 9,
  oA 16 (.lookup 105 (tm 14) (tm 15) false) 9,
  oA 7 (.assign (tm 16)) 9]
def c43_3 : AC := .region o43_3 []
abbrev o43_6 : List AO := [oA 17 (.move (tm 0)) 60,
  oA 18 (.move (tm 7)) 9,
  oA 19 (.move (tm 2)) 77,
  oA 20 (cF 51 #[(tm 17), (tm 18), (tm 19)] #[60, 9, 77]) 4,
  oA 21 (.unOp .not 4 (tm 20)) 4]
def c43_6 : AC := .region o43_6 []
abbrev o43_9 : List AO := [oA 22 (.build 26 #[]) 26,
  oN (.store 26 (tm 6) (tm 22)) 0]
def c43_9 : AC := .region o43_9 []
def c43_10 : AC := .ret
def c43_8 : AC := .seq c43_9 c43_10
def c43_11 : AC := .skip
def c43_7 : AC := .cond (tm 21) c43_8 c43_11
def c43_5 : AC := .seq c43_6 c43_7
abbrev o43_13 : List AO := [oA 23 (.move (tm 2)) 77,
  oA 24 (.indexAddr 77 (tm 23) (ci 0)) 0,
  oA 25 (.fieldAddr 26 (tm 24) 2) 0,
  oA 26 (.load 9 (tm 25)) 9,
  oA 8 (.assign (tm 26)) 9]
def c43_13 : AC := .region o43_13 []
abbrev o43_16 : List AO := [oA 27 (.move (tm 1)) 9]
def c43_16 : AC := .region o43_16 []
abbrev o43_19 : List AO := [oA 29 (.binOp .eql 9 (tm 27) (.const (.string ⟨#[99, 97, 116]⟩)) 9) 4,
  oA 28 (.assign (tm 29)) 4]
def c43_19 : AC := .region o43_19 []
abbrev o43_23 : List AO := [oA 30 (.move (tm 8)) 9,
  oA 31 (cB .len #[(tm 30)] #[9]) 3,
  oA 32 (.move (tm 2)) 77,
  oA 33 (.indexAddr 77 (tm 32) (ci 1)) 0,
  oA 34 (.fieldAddr 26 (tm 33) 2) 0,
  oA 35 (.load 9 (tm 34)) 9,
  oA 36 (cB .len #[(tm 35)] #[9]) 3,
  oA 37 (.binOp .add 3 (tm 31) (tm 36) 3) 3,
  oA 38 (.binOp .gtr 3 (tm 37) (ci 4096) 3) 4]
def c43_23 : AC := .region o43_23 []
abbrev o43_26 : List AO := [oA 39 (.move (tm 0)) 60,
  oA 40 (cF 25 #[(tm 39), (ci 3)] #[60, 39]) 26,
  oN (.store 26 (tm 6) (tm 40)) 0]
def c43_26 : AC := .region o43_26 []
def c43_27 : AC := .ret
def c43_25 : AC := .seq c43_26 c43_27
def c43_28 : AC := .skip
def c43_24 : AC := .cond (tm 38) c43_25 c43_28
def c43_22 : AC := .seq c43_23 c43_24
abbrev o43_30 : List AO := [oA 41 (.move (tm 8)) 9,
  oA 42 (.move (tm 2)) 77,
  oA 43 (.indexAddr 77 (tm 42) (ci 1)) 0,
  oA 44 (.fieldAddr 26 (tm 43) 2) 0,
  oA 45 (.load 9 (tm 44)) 9,
  oA 46 (.binOp .add 9 (tm 41) (tm 45) 9) 9,
  oA 47 (cF 38 #[(tm 46)] #[9]) 26,
  oN (.store 26 (tm 6) (tm 47)) 0]
def c43_30 : AC := .region o43_30 []
def c43_31 : AC := .ret
def c43_29 : AC := .seq c43_30 c43_31
def c43_21 : AC := .seq c43_22 c43_29
abbrev o43_33 : List AO := [oA 49 (.binOp .eql 9 (tm 27) (.const (.string ⟨#[108, 101, 110]⟩)) 9) 4,
  oA 48 (.assign (tm 49)) 4]
def c43_33 : AC := .region o43_33 []
abbrev o43_36 : List AO := [oA 50 (.move (tm 8)) 9,
  oA 51 (cB .len #[(tm 50)] #[9]) 3,
  oA 52 (cF 39 #[(tm 51)] #[3]) 26,
  oN (.store 26 (tm 6) (tm 52)) 0]
def c43_36 : AC := .region o43_36 []
def c43_37 : AC := .ret
def c43_35 : AC := .seq c43_36 c43_37
abbrev o43_39 : List AO := [oA 54 (.binOp .eql 9 (tm 27) (.const (.string ⟨#[99, 117, 116]⟩)) 9) 4,
  oA 53 (.assign (tm 54)) 4]
def c43_39 : AC := .region o43_39 []
abbrev o43_43 : List AO := [oA 55 (.move (tm 2)) 77,
  oA 56 (.indexAddr 77 (tm 55) (ci 1)) 0,
  oA 57 (.fieldAddr 26 (tm 56) 1) 0,
  oA 58 (.load 3 (tm 57)) 3,
  oA 59 (.binOp .lss 3 (tm 58) (ci 0) 3) 4,
  oA 60 (.move (tm 59)) 4,
  oG 61 (.move (tm 2)) 77 60 false,
  oG 62 (.indexAddr 77 (tm 61) (ci 1)) 0 60 false,
  oG 63 (.fieldAddr 26 (tm 62) 1) 0 60 false,
  oG 64 (.load 3 (tm 63)) 3 60 false,
  oG 65 (.move (tm 2)) 77 60 false,
  oG 66 (.indexAddr 77 (tm 65) (ci 2)) 0 60 false,
  oG 67 (.fieldAddr 26 (tm 66) 1) 0 60 false,
  oG 68 (.load 3 (tm 67)) 3 60 false,
  oG 69 (.binOp .gtr 3 (tm 64) (tm 68) 3) 4 60 false,
  oA 70 (.pick (tm 60) (.const (.bool true)) (tm 69)) 4,
  oA 71 (.move (tm 70)) 4,
  oG 72 (.move (tm 2)) 77 71 false,
  oG 73 (.indexAddr 77 (tm 72) (ci 2)) 0 71 false,
  oG 74 (.fieldAddr 26 (tm 73) 1) 0 71 false,
  oG 75 (.load 3 (tm 74)) 3 71 false,
  oG 76 (.move (tm 8)) 9 71 false,
  oG 77 (cB .len #[(tm 76)] #[9]) 3 71 false,
  oG 78 (.binOp .gtr 3 (tm 75) (tm 77) 3) 4 71 false,
  oA 79 (.pick (tm 71) (.const (.bool true)) (tm 78)) 4]
def c43_43 : AC := .region o43_43 []
abbrev o43_46 : List AO := [oA 80 (.move (tm 0)) 60,
  oA 81 (cF 25 #[(tm 80), (ci 14)] #[60, 39]) 26,
  oN (.store 26 (tm 6) (tm 81)) 0]
def c43_46 : AC := .region o43_46 []
def c43_47 : AC := .ret
def c43_45 : AC := .seq c43_46 c43_47
def c43_48 : AC := .skip
def c43_44 : AC := .cond (tm 79) c43_45 c43_48
def c43_42 : AC := .seq c43_43 c43_44
abbrev o43_50 : List AO := [oA 82 (.move (tm 8)) 9,
  oA 83 (.move (tm 2)) 77,
  oA 84 (.indexAddr 77 (tm 83) (ci 1)) 0,
  oA 85 (.fieldAddr 26 (tm 84) 1) 0,
  oA 86 (.load 3 (tm 85)) 3,
  oA 87 (.move (tm 2)) 77,
  oA 88 (.indexAddr 77 (tm 87) (ci 2)) 0,
  oA 89 (.fieldAddr 26 (tm 88) 1) 0,
  oA 90 (.load 3 (tm 89)) 3,
  oA 91 (.slice 9 (tm 82) (some (tm 86)) (some (tm 90)) none) 9,
  oA 92 (cF 38 #[(tm 91)] #[9]) 26,
  oN (.store 26 (tm 6) (tm 92)) 0]
def c43_50 : AC := .region o43_50 []
def c43_51 : AC := .ret
def c43_49 : AC := .seq c43_50 c43_51
def c43_41 : AC := .seq c43_42 c43_49
abbrev o43_53 : List AO := [oA 94 (.binOp .eql 9 (tm 27) (.const (.string ⟨#[119, 111, 114, 100, 115]⟩)) 9) 4,
  oA 93 (.assign (tm 94)) 4]
def c43_53 : AC := .region o43_53 []
abbrev o43_56 : List AO := [oA 95 (.move (tm 8)) 9,
  oA 96 (cF 57 #[(tm 95)] #[9]) 88,
  oA 97 (cB .len #[(tm 96)] #[88]) 3,
  oA 98 (cF 39 #[(tm 97)] #[3]) 26,
  oN (.store 26 (tm 6) (tm 98)) 0]
def c43_56 : AC := .region o43_56 []
def c43_57 : AC := .ret
def c43_55 : AC := .seq c43_56 c43_57
abbrev o43_59 : List AO := [oA 100 (.binOp .eql 9 (tm 27) (.const (.string ⟨#[119, 111, 114, 100]⟩)) 9) 4,
  oA 99 (.assign (tm 100)) 4]
def c43_59 : AC := .region o43_59 []
abbrev o43_62 : List AO := [oA 101 (.move (tm 8)) 9,
  oA 102 (cF 57 #[(tm 101)] #[9]) 88,
  oA 9 (.assign (tm 102)) 88]
def c43_62 : AC := .region o43_62 []
abbrev o43_65 : List AO := [oA 103 (.move (tm 2)) 77,
  oA 104 (.indexAddr 77 (tm 103) (ci 1)) 0,
  oA 105 (.fieldAddr 26 (tm 104) 1) 0,
  oA 106 (.load 3 (tm 105)) 3,
  oA 107 (.binOp .lss 3 (tm 106) (ci 0) 3) 4,
  oA 108 (.move (tm 107)) 4,
  oG 109 (.move (tm 2)) 77 108 false,
  oG 110 (.indexAddr 77 (tm 109) (ci 1)) 0 108 false,
  oG 111 (.fieldAddr 26 (tm 110) 1) 0 108 false,
  oG 112 (.load 3 (tm 111)) 3 108 false,
  oG 113 (.move (tm 9)) 88 108 false,
  oG 114 (cB .len #[(tm 113)] #[88]) 3 108 false,
  oG 115 (.binOp .geq 3 (tm 112) (tm 114) 3) 4 108 false,
  oA 116 (.pick (tm 108) (.const (.bool true)) (tm 115)) 4]
def c43_65 : AC := .region o43_65 []
abbrev o43_68 : List AO := [oA 117 (.move (tm 0)) 60,
  oA 118 (cF 25 #[(tm 117), (ci 14)] #[60, 39]) 26,
  oN (.store 26 (tm 6) (tm 118)) 0]
def c43_68 : AC := .region o43_68 []
def c43_69 : AC := .ret
def c43_67 : AC := .seq c43_68 c43_69
def c43_70 : AC := .skip
def c43_66 : AC := .cond (tm 116) c43_67 c43_70
def c43_64 : AC := .seq c43_65 c43_66
abbrev o43_72 : List AO := [oA 119 (.move (tm 9)) 88,
  oA 120 (.move (tm 2)) 77,
  oA 121 (.indexAddr 77 (tm 120) (ci 1)) 0,
  oA 122 (.fieldAddr 26 (tm 121) 1) 0,
  oA 123 (.load 3 (tm 122)) 3,
  oA 124 (.indexAddr 88 (tm 119) (tm 123)) 0,
  oA 125 (.load 9 (tm 124)) 9,
  oA 126 (cF 38 #[(tm 125)] #[9]) 26,
  oN (.store 26 (tm 6) (tm 126)) 0]
def c43_72 : AC := .region o43_72 []
def c43_73 : AC := .ret
def c43_71 : AC := .seq c43_72 c43_73
def c43_63 : AC := .seq c43_64 c43_71
def c43_61 : AC := .seq c43_62 c43_63
def c43_74 : AC := .skip
def c43_60 : AC := .cond (tm 99) c43_61 c43_74
def c43_58 : AC := .seq c43_59 c43_60
def c43_54 : AC := .cond (tm 93) c43_55 c43_58
def c43_52 : AC := .seq c43_53 c43_54
def c43_40 : AC := .cond (tm 53) c43_41 c43_52
def c43_38 : AC := .seq c43_39 c43_40
def c43_34 : AC := .cond (tm 48) c43_35 c43_38
def c43_32 : AC := .seq c43_33 c43_34
def c43_20 : AC := .cond (tm 28) c43_21 c43_32
def c43_18 : AC := .seq c43_19 c43_20
def c43_17 : AC := .block 0 c43_18
def c43_15 : AC := .seq c43_16 c43_17
abbrev o43_76 : List AO := [oA 128 (.move (tm 8)) 9,
  oA 129 (cF 36 #[(tm 128)] #[9]) 90,
  oA 127 (.move (tm 129)) 90,
  oA 130 (.extract (tm 127) 0) 26,
  oA 131 (.extract (tm 127) 1) 3,
  oA 132 (.extract (tm 127) 2) 39,
  oA 10 (.alloc 26) 0,
  oN (.store 26 (tm 10) (tm 130)) 0,
  oA 11 (.assign (tm 131)) 3,
  oA 12 (.assign (tm 132)) 39]
def c43_76 : AC := .region o43_76 []
abbrev o43_79 : List AO := [oA 133 (.move (tm 12)) 39,
  oA 134 (.binOp .neq 39 (tm 133) (ci 0) 39) 4,
  oA 135 (.move (tm 134)) 4,
  oG 136 (.move (tm 11)) 3 135 false,
  oG 137 (.move (tm 8)) 9 135 false,
  oG 138 (cB .len #[(tm 137)] #[9]) 3 135 false,
  oG 139 (.binOp .neq 3 (tm 136) (tm 138) 3) 4 135 false,
  oA 140 (.pick (tm 135) (.const (.bool true)) (tm 139)) 4,
  oA 141 (.move (tm 140)) 4,
  oG 142 (.fieldAddr 26 (tm 10) 0) 0 141 false,
  oG 143 (.load 3 (tm 142)) 3 141 false,
  oG 144 (.binOp .neq 3 (tm 143) (ci 0) 3) 4 141 false,
  oA 145 (.pick (tm 141) (.const (.bool true)) (tm 144)) 4]
def c43_79 : AC := .region o43_79 []
abbrev o43_82 : List AO := [oA 146 (.move (tm 0)) 60,
  oA 147 (cF 25 #[(tm 146), (ci 6)] #[60, 39]) 26,
  oN (.store 26 (tm 6) (tm 147)) 0]
def c43_82 : AC := .region o43_82 []
def c43_83 : AC := .ret
def c43_81 : AC := .seq c43_82 c43_83
def c43_84 : AC := .skip
def c43_80 : AC := .cond (tm 145) c43_81 c43_84
def c43_78 : AC := .seq c43_79 c43_80
abbrev o43_86 : List AO := [oA 148 (.load 26 (tm 10)) 26,
  oN (.store 26 (tm 6) (tm 148)) 0]
def c43_86 : AC := .region o43_86 []
def c43_87 : AC := .ret
def c43_85 : AC := .seq c43_86 c43_87
def c43_77 : AC := .seq c43_78 c43_85
def c43_75 : AC := .seq c43_76 c43_77
def c43_14 : AC := .seq c43_15 c43_75
def c43_12 : AC := .seq c43_13 c43_14
def c43_4 : AC := .seq c43_5 c43_12
def c43_2 : AC := .seq c43_3 c43_4
def c43_0 : AC := .seq c43_1 c43_2
theorem r43_0 : SeqR Cx 43 c43_0 c43_1 c43_2 ∧ RegR Cx 43 c43_1 o43_1 ∧ SeqR Cx 43 c43_2 c43_3 c43_4 ∧ RegR Cx 43 c43_3 o43_3 ∧ SeqR Cx 43 c43_4 c43_5 c43_12 ∧ SeqR Cx 43 c43_5 c43_6 c43_7 ∧ RegR Cx 43 c43_6 o43_6 ∧ CondR Cx 43 c43_7 (tm 21) c43_8 c43_11 := ⟨run_seq, run_region, run_seq, run_region, run_seq, run_seq, run_region, run_condC⟩
theorem r43_1 : SeqR Cx 43 c43_8 c43_9 c43_10 ∧ RegR Cx 43 c43_9 o43_9 ∧ RetR Cx 43 c43_10 ∧ SkipR Cx 43 c43_11 ∧ SeqR Cx 43 c43_12 c43_13 c43_14 ∧ RegR Cx 43 c43_13 o43_13 ∧ SeqR Cx 43 c43_14 c43_15 c43_75 ∧ SeqR Cx 43 c43_15 c43_16 c43_17 := ⟨run_seq, run_region, run_ret, run_skip, run_seq, run_region, run_seq, run_seq⟩
theorem r43_2 : RegR Cx 43 c43_16 o43_16 ∧ BlkR Cx 43 c43_17 0 c43_18 ∧ SeqR Cx 43 c43_18 c43_19 c43_20 ∧ RegR Cx 43 c43_19 o43_19 ∧ CondR Cx 43 c43_20 (tm 28) c43_21 c43_32 ∧ SeqR Cx 43 c43_21 c43_22 c43_29 ∧ SeqR Cx 43 c43_22 c43_23 c43_24 ∧ RegR Cx 43 c43_23 o43_23 := ⟨run_region, run_block, run_seq, run_region, run_condC, run_seq, run_seq, run_region⟩
theorem r43_3 : CondR Cx 43 c43_24 (tm 38) c43_25 c43_28 ∧ SeqR Cx 43 c43_25 c43_26 c43_27 ∧ RegR Cx 43 c43_26 o43_26 ∧ RetR Cx 43 c43_27 ∧ SkipR Cx 43 c43_28 ∧ SeqR Cx 43 c43_29 c43_30 c43_31 ∧ RegR Cx 43 c43_30 o43_30 ∧ RetR Cx 43 c43_31 := ⟨run_condC, run_seq, run_region, run_ret, run_skip, run_seq, run_region, run_ret⟩
theorem r43_4 : SeqR Cx 43 c43_32 c43_33 c43_34 ∧ RegR Cx 43 c43_33 o43_33 ∧ CondR Cx 43 c43_34 (tm 48) c43_35 c43_38 ∧ SeqR Cx 43 c43_35 c43_36 c43_37 ∧ RegR Cx 43 c43_36 o43_36 ∧ RetR Cx 43 c43_37 ∧ SeqR Cx 43 c43_38 c43_39 c43_40 ∧ RegR Cx 43 c43_39 o43_39 := ⟨run_seq, run_region, run_condC, run_seq, run_region, run_ret, run_seq, run_region⟩
theorem r43_5 : CondR Cx 43 c43_40 (tm 53) c43_41 c43_52 ∧ SeqR Cx 43 c43_41 c43_42 c43_49 ∧ SeqR Cx 43 c43_42 c43_43 c43_44 ∧ RegR Cx 43 c43_43 o43_43 ∧ CondR Cx 43 c43_44 (tm 79) c43_45 c43_48 ∧ SeqR Cx 43 c43_45 c43_46 c43_47 ∧ RegR Cx 43 c43_46 o43_46 ∧ RetR Cx 43 c43_47 := ⟨run_condC, run_seq, run_seq, run_region, run_condC, run_seq, run_region, run_ret⟩
theorem r43_6 : SkipR Cx 43 c43_48 ∧ SeqR Cx 43 c43_49 c43_50 c43_51 ∧ RegR Cx 43 c43_50 o43_50 ∧ RetR Cx 43 c43_51 ∧ SeqR Cx 43 c43_52 c43_53 c43_54 ∧ RegR Cx 43 c43_53 o43_53 ∧ CondR Cx 43 c43_54 (tm 93) c43_55 c43_58 ∧ SeqR Cx 43 c43_55 c43_56 c43_57 := ⟨run_skip, run_seq, run_region, run_ret, run_seq, run_region, run_condC, run_seq⟩
theorem r43_7 : RegR Cx 43 c43_56 o43_56 ∧ RetR Cx 43 c43_57 ∧ SeqR Cx 43 c43_58 c43_59 c43_60 ∧ RegR Cx 43 c43_59 o43_59 ∧ CondR Cx 43 c43_60 (tm 99) c43_61 c43_74 ∧ SeqR Cx 43 c43_61 c43_62 c43_63 ∧ RegR Cx 43 c43_62 o43_62 ∧ SeqR Cx 43 c43_63 c43_64 c43_71 := ⟨run_region, run_ret, run_seq, run_region, run_condC, run_seq, run_region, run_seq⟩
theorem r43_8 : SeqR Cx 43 c43_64 c43_65 c43_66 ∧ RegR Cx 43 c43_65 o43_65 ∧ CondR Cx 43 c43_66 (tm 116) c43_67 c43_70 ∧ SeqR Cx 43 c43_67 c43_68 c43_69 ∧ RegR Cx 43 c43_68 o43_68 ∧ RetR Cx 43 c43_69 ∧ SkipR Cx 43 c43_70 ∧ SeqR Cx 43 c43_71 c43_72 c43_73 := ⟨run_seq, run_region, run_condC, run_seq, run_region, run_ret, run_skip, run_seq⟩
theorem r43_9 : RegR Cx 43 c43_72 o43_72 ∧ RetR Cx 43 c43_73 ∧ SkipR Cx 43 c43_74 ∧ SeqR Cx 43 c43_75 c43_76 c43_77 ∧ RegR Cx 43 c43_76 o43_76 ∧ SeqR Cx 43 c43_77 c43_78 c43_85 ∧ SeqR Cx 43 c43_78 c43_79 c43_80 ∧ RegR Cx 43 c43_79 o43_79 := ⟨run_region, run_ret, run_skip, run_seq, run_region, run_seq, run_seq, run_region⟩
theorem r43_10 : CondR Cx 43 c43_80 (tm 145) c43_81 c43_84 ∧ SeqR Cx 43 c43_81 c43_82 c43_83 ∧ RegR Cx 43 c43_82 o43_82 ∧ RetR Cx 43 c43_83 ∧ SkipR Cx 43 c43_84 ∧ SeqR Cx 43 c43_85 c43_86 c43_87 ∧ RegR Cx 43 c43_86 o43_86 ∧ RetR Cx 43 c43_87 := ⟨run_condC, run_seq, run_region, run_ret, run_skip, run_seq, run_region, run_ret⟩
theorem body43 : bodyOf Cx 43 = some c43_0 := by kernel_rfl
theorem res43 : resOf Cx 43 = some [.cell 6 26] := by kernel_rfl
theorem pure43 : Cx.pure 43 = false := by kernel_rfl
abbrev o44_1 : List AO := [oA 6 (.alloc 26) 0]
def c44_1 : AC := .region o44_1 []
abbrev o44_4 : List AO := [oA 10 (.move (tm 0)) 60,
  oA 11 (.move (tm 2)) 77,
  oA 12 (cF 51 #[(tm 10), (.const (.string ⟨#[112]⟩)), (tm 11)] #[60, 9, 77]) 4,
  oA 13 (.unOp .not 4 (tm 12)) 4]
def c44_4 : AC := .region o44_4 []
abbrev o44_7 : List AO := [oA 14 (.build 26 #[]) 26,
  oN (.store 26 (tm 6) (tm 14)) 0]
def c44_7 : AC := .region o44_7 []
def c44_8 : AC := .ret
def c44_6 : AC := .seq c44_7 c44_8
def c44_9 : AC := .skip
def c44_5 : AC := .cond (tm 13) c44_6 c44_9
def c44_3 : AC := .seq c44_4 c44_5
abbrev o44_11 : List AO := [oA 15 (.move (tm 2)) 77,
  oA 16 (.indexAddr 77 (tm 15) (ci 0)) 0,
  oA 17 (.fieldAddr 26 (tm 16) 3) 0,
  oA 18 (.load 24 (tm 17)) 24,
  oA 7 (.alloc 24) 0,
  oN (.store 24 (tm 7) (tm 18)) 0]
def c44_11 : AC := .region o44_11 []
abbrev o44_14 : List AO := [oA 19 (.move (tm 1)) 9]
def c44_14 : AC := .region o44_14 []
abbrev o44_17 : List AO := [oA 21 (.binOp .eql 9 (tm 19) (.const (.string ⟨#[114, 101]⟩)) 9) 4,
  oA 20 (.assign (tm 21)) 4]
def c44_17 : AC := .region o44_17 []
abbrev o44_20 : List AO := [oA 22 (.fieldAddr 24 (tm 7) 0) 0,
  oA 23 (.load 3 (tm 22)) 3,
  oA 24 (cF 39 #[(tm 23)] #[3]) 26,
  oN (.store 26 (tm 6) (tm 24)) 0]
def c44_20 : AC := .region o44_20 []
def c44_21 : AC := .ret
def c44_19 : AC := .seq c44_20 c44_21
abbrev o44_23 : List AO := [oA 26 (.binOp .eql 9 (tm 19) (.const (.string ⟨#[105, 109]⟩)) 9) 4,
  oA 25 (.assign (tm 26)) 4]
def c44_23 : AC := .region o44_23 []
abbrev o44_26 : List AO := [oA 27 (.fieldAddr 24 (tm 7) 1) 0,
  oA 28 (.load 3 (tm 27)) 3,
  oA 29 (cF 39 #[(tm 28)] #[3]) 26,
  oN (.store 26 (tm 6) (tm 29)) 0]
def c44_26 : AC := .region o44_26 []
def c44_27 : AC := .ret
def c44_25 : AC := .seq c44_26 c44_27
abbrev o44_29 : List AO := [oA 31 (.binOp .eql 9 (tm 19) (.const (.string ⟨#[110, 111, 114, 109]⟩)) 9) 4,
  oA 30 (.assign (tm 31)) 4]
def c44_29 : AC := .region o44_29 []
abbrev o44_32 : List AO := [oA 33 (.load 24 (tm 7)) 24,
  oA 34 (cF 58 #[(tm 33)] #[24]) 45,
  oA 32 (.move (tm 34)) 45,
  oA 35 (.extract (tm 32) 0) 3,
  oA 36 (.extract (tm 32) 1) 39,
  oA 8 (.assign (tm 35)) 3,
  oA 9 (.assign (tm 36)) 39]
def c44_32 : AC := .region o44_32 []
abbrev o44_34 : List AO := [oA 37 (.move (tm 8)) 3,
  oA 38 (cF 39 #[(tm 37)] #[3]) 26,
  oN (.store 26 (tm 6) (tm 38)) 0]
def c44_34 : AC := .region o44_34 []
def c44_35 : AC := .ret
def c44_33 : AC := .seq c44_34 c44_35
def c44_31 : AC := .seq c44_32 c44_33
def c44_36 : AC := .skip
def c44_30 : AC := .cond (tm 30) c44_31 c44_36
def c44_28 : AC := .seq c44_29 c44_30
def c44_24 : AC := .cond (tm 25) c44_25 c44_28
def c44_22 : AC := .seq c44_23 c44_24
def c44_18 : AC := .cond (tm 20) c44_19 c44_22
def c44_16 : AC := .seq c44_17 c44_18
def c44_15 : AC := .block 0 c44_16
def c44_13 : AC := .seq c44_14 c44_15
abbrev o44_38 : List AO := [oA 39 (.move (tm 0)) 60,
  oA 40 (.load 24 (tm 7)) 24,
  oA 41 (cF 60 #[(tm 40)] #[24]) 109,
  oA 42 (.extract (tm 41) 0) 24,
  oA 43 (.extract (tm 41) 1) 39,
  oA 44 (cF 59 #[(tm 39), (tm 42), (tm 43)] #[60, 24, 39]) 26,
  oN (.store 26 (tm 6) (tm 44)) 0]
def c44_38 : AC := .region o44_38 []
def c44_39 : AC := .ret
def c44_37 : AC := .seq c44_38 c44_39
def c44_12 : AC := .seq c44_13 c44_37
def c44_10 : AC := .seq c44_11 c44_12
def c44_2 : AC := .seq c44_3 c44_10
def c44_0 : AC := .seq c44_1 c44_2
theorem r44_0 : SeqR Cx 44 c44_0 c44_1 c44_2 ∧ RegR Cx 44 c44_1 o44_1 ∧ SeqR Cx 44 c44_2 c44_3 c44_10 ∧ SeqR Cx 44 c44_3 c44_4 c44_5 ∧ RegR Cx 44 c44_4 o44_4 ∧ CondR Cx 44 c44_5 (tm 13) c44_6 c44_9 ∧ SeqR Cx 44 c44_6 c44_7 c44_8 ∧ RegR Cx 44 c44_7 o44_7 := ⟨run_seq, run_region, run_seq, run_seq, run_region, run_condC, run_seq, run_region⟩
theorem r44_1 : RetR Cx 44 c44_8 ∧ SkipR Cx 44 c44_9 ∧ SeqR Cx 44 c44_10 c44_11 c44_12 ∧ RegR Cx 44 c44_11 o44_11 ∧ SeqR Cx 44 c44_12 c44_13 c44_37 ∧ SeqR Cx 44 c44_13 c44_14 c44_15 ∧ RegR Cx 44 c44_14 o44_14 ∧ BlkR Cx 44 c44_15 0 c44_16 := ⟨run_ret, run_skip, run_seq, run_region, run_seq, run_seq, run_region, run_block⟩
theorem r44_2 : SeqR Cx 44 c44_16 c44_17 c44_18 ∧ RegR Cx 44 c44_17 o44_17 ∧ CondR Cx 44 c44_18 (tm 20) c44_19 c44_22 ∧ SeqR Cx 44 c44_19 c44_20 c44_21 ∧ RegR Cx 44 c44_20 o44_20 ∧ RetR Cx 44 c44_21 ∧ SeqR Cx 44 c44_22 c44_23 c44_24 ∧ RegR Cx 44 c44_23 o44_23 := ⟨run_seq, run_region, run_condC, run_seq, run_region, run_ret, run_seq, run_region⟩
theorem r44_3 : CondR Cx 44 c44_24 (tm 25) c44_25 c44_28 ∧ SeqR Cx 44 c44_25 c44_26 c44_27 ∧ RegR Cx 44 c44_26 o44_26 ∧ RetR Cx 44 c44_27 ∧ SeqR Cx 44 c44_28 c44_29 c44_30 ∧ RegR Cx 44 c44_29 o44_29 ∧ CondR Cx 44 c44_30 (tm 30) c44_31 c44_36 ∧ SeqR Cx 44 c44_31 c44_32 c44_33 := ⟨run_condC, run_seq, run_region, run_ret, run_seq, run_region, run_condC, run_seq⟩
theorem r44_4 : RegR Cx 44 c44_32 o44_32 ∧ SeqR Cx 44 c44_33 c44_34 c44_35 ∧ RegR Cx 44 c44_34 o44_34 ∧ RetR Cx 44 c44_35 ∧ SkipR Cx 44 c44_36 ∧ SeqR Cx 44 c44_37 c44_38 c44_39 ∧ RegR Cx 44 c44_38 o44_38 ∧ RetR Cx 44 c44_39 := ⟨run_region, run_seq, run_region, run_ret, run_skip, run_seq, run_region, run_ret⟩
theorem body44 : bodyOf Cx 44 = some c44_0 := by kernel_rfl
theorem res44 : resOf Cx 44 = some [.cell 6 26] := by kernel_rfl
theorem pure44 : Cx.pure 44 = false := by kernel_rfl
abbrev o45_1 : List AO := [oA 6 (.alloc 26) 0]
def c45_1 : AC := .region o45_1 []
abbrev o45_4 : List AO := [oA 7 (.move (tm 1)) 9]
def c45_4 : AC := .region o45_4 []
abbrev o45_7 : List AO := [oA 9 (.binOp .eql 9 (tm 7) (.const (.string ⟨#[115, 97, 109, 101]⟩)) 9) 4,
  oA 8 (.assign (tm 9)) 4]
def c45_7 : AC := .region o45_7 []
abbrev o45_10 : List AO := [oA 10 (.move (tm 2)) 77,
  oA 11 (.indexAddr 77 (tm 10) (ci 0)) 0,
  oA 12 (.load 26 (tm 11)) 26,
  oA 13 (.move (tm 2)) 77,
  oA 14 (.indexAddr 77 (tm 13) (ci 1)) 0,
  oA 15 (.load 26 (tm 14)) 26,
  oA 16 (.binOp .eql 26 (tm 12) (tm 15) 26) 4,
  oA 17 (cF 56 #[(tm 16)] #[4]) 26,
  oN (.store 26 (tm 6) (tm 17)) 0]
def c45_10 : AC := .region o45_10 []
def c45_11 : AC := .ret
def c45_9 : AC := .seq c45_10 c45_11
abbrev o45_13 : List AO := [oA 19 (.binOp .eql 9 (tm 7) (.const (.string ⟨#[116, 104, 101, 110]⟩)) 9) 4,
  oA 18 (.assign (tm 19)) 4]
def c45_13 : AC := .region o45_13 []
abbrev o45_16 : List AO := [oA 20 (.move (tm 2)) 77,
  oA 21 (.indexAddr 77 (tm 20) (ci 1)) 0,
  oA 22 (.load 26 (tm 21)) 26,
  oN (.store 26 (tm 6) (tm 22)) 0]
def c45_16 : AC := .region o45_16 []
def c45_17 : AC := .ret
def c45_15 : AC := .seq c45_16 c45_17
abbrev o45_19 : List AO := [oA 24 (.binOp .eql 9 (tm 7) (.const (.string ⟨#[116, 101, 120, 116]⟩)) 9) 4,
  oA 23 (.assign (tm 24)) 4]
def c45_19 : AC := .region o45_19 []
abbrev o45_23 : List AO := [oA 25 (.move (tm 2)) 77,
  oA 26 (.indexAddr 77 (tm 25) (ci 0)) 0,
  oA 27 (.fieldAddr 26 (tm 26) 0) 0,
  oA 28 (.load 3 (tm 27)) 3,
  oA 29 (.binOp .eql 3 (tm 28) (ci 1) 3) 4]
def c45_23 : AC := .region o45_23 []
abbrev o45_26 : List AO := [oA 30 (.move (tm 2)) 77,
  oA 31 (.indexAddr 77 (tm 30) (ci 0)) 0,
  oA 32 (.load 26 (tm 31)) 26,
  oN (.store 26 (tm 6) (tm 32)) 0]
def c45_26 : AC := .region o45_26 []
def c45_27 : AC := .ret
def c45_25 : AC := .seq c45_26 c45_27
def c45_28 : AC := .skip
def c45_24 : AC := .cond (tm 29) c45_25 c45_28
def c45_22 : AC := .seq c45_23 c45_24
abbrev o45_30 : List AO := [oA 33 (.move (tm 2)) 77,
  oA 34 (.indexAddr 77 (tm 33) (ci 0)) 0,
  oA 35 (.load 26 (tm 34)) 26,
  oA 36 (cF 61 #[(tm 35)] #[26]) 9,
  oA 37 (cF 38 #[(tm 36)] #[9]) 26,
  oN (.store 26 (tm 6) (tm 37)) 0]
def c45_30 : AC := .region o45_30 []
def c45_31 : AC := .ret
def c45_29 : AC := .seq c45_30 c45_31
def c45_21 : AC := .seq c45_22 c45_29
abbrev o45_33 : List AO := [oA 39 (.binOp .eql 9 (tm 7) (.const (.string ⟨#[101, 109, 105, 116]⟩)) 9) 4,
  oA 38 (.assign (tm 39)) 4]
def c45_33 : AC := .region o45_33 []
abbrev o45_36 : List AO := [oA 40 (.move (tm 0)) 60,
  oA 41 (.move (tm 2)) 77,
  oA 42 (cF 62 #[(tm 40), (tm 41)] #[60, 77]) 26,
  oN (.store 26 (tm 6) (tm 42)) 0]
def c45_36 : AC := .region o45_36 []
def c45_37 : AC := .ret
def c45_35 : AC := .seq c45_36 c45_37
abbrev o45_39 : List AO := [oA 44 (.binOp .eql 9 (tm 7) (.const (.string ⟨#[110, 111, 116]⟩)) 9) 4,
  oA 43 (.assign (tm 44)) 4]
def c45_39 : AC := .region o45_39 []
abbrev o45_43 : List AO := [oA 45 (.move (tm 0)) 60,
  oA 46 (.move (tm 2)) 77,
  oA 47 (cF 51 #[(tm 45), (.const (.string ⟨#[110]⟩)), (tm 46)] #[60, 9, 77]) 4,
  oA 48 (.unOp .not 4 (tm 47)) 4]
def c45_43 : AC := .region o45_43 []
abbrev o45_46 : List AO := [oA 49 (.build 26 #[]) 26,
  oN (.store 26 (tm 6) (tm 49)) 0]
def c45_46 : AC := .region o45_46 []
def c45_47 : AC := .ret
def c45_45 : AC := .seq c45_46 c45_47
def c45_48 : AC := .skip
def c45_44 : AC := .cond (tm 48) c45_45 c45_48
def c45_42 : AC := .seq c45_43 c45_44
abbrev o45_50 : List AO := [oA 50 (.move (tm 2)) 77,
  oA 51 (.indexAddr 77 (tm 50) (ci 0)) 0,
  oA 52 (.fieldAddr 26 (tm 51) 1) 0,
  oA 53 (.load 3 (tm 52)) 3,
  oA 54 (.binOp .eql 3 (tm 53) (ci 0) 3) 4,
  oA 55 (cF 56 #[(tm 54)] #[4]) 26,
  oN (.store 26 (tm 6) (tm 55)) 0]
def c45_50 : AC := .region o45_50 []
def c45_51 : AC := .ret
def c45_49 : AC := .seq c45_50 c45_51
def c45_41 : AC := .seq c45_42 c45_49
abbrev o45_53 : List AO := [oA 57 (.binOp .eql 9 (tm 7) (.const (.string ⟨#[97, 116]⟩)) 9) 4,
  oA 56 (.assign (tm 57)) 4]
def c45_53 : AC := .region o45_53 []
abbrev o45_57 : List AO := [oA 58 (.move (tm 0)) 60,
  oA 59 (.move (tm 2)) 77,
  oA 60 (cF 51 #[(tm 58), (.const (.string ⟨#[110, 110]⟩)), (tm 59)] #[60, 9, 77]) 4,
  oA 61 (.unOp .not 4 (tm 60)) 4]
def c45_57 : AC := .region o45_57 []
abbrev o45_60 : List AO := [oA 62 (.build 26 #[]) 26,
  oN (.store 26 (tm 6) (tm 62)) 0]
def c45_60 : AC := .region o45_60 []
def c45_61 : AC := .ret
def c45_59 : AC := .seq c45_60 c45_61
def c45_62 : AC := .skip
def c45_58 : AC := .cond (tm 61) c45_59 c45_62
def c45_56 : AC := .seq c45_57 c45_58
abbrev o45_64 : List AO := [oA 63 (.move (tm 0)) 60,
  oA 64 (.move (tm 2)) 77,
  oA 65 (.indexAddr 77 (tm 64) (ci 0)) 0,
  oA 66 (.fieldAddr 26 (tm 65) 1) 0,
  oA 67 (.load 3 (tm 66)) 3,
  oA 68 (.move (tm 2)) 77,
  oA 69 (.indexAddr 77 (tm 68) (ci 1)) 0,
  oA 70 (.fieldAddr 26 (tm 69) 1) 0,
  oA 71 (.load 3 (tm 70)) 3,
  oA 72 (.build 24 #[(0, (tm 67)), (1, (tm 71))]) 24,
  oA 73 (cF 63 #[(tm 72)] #[24]) 26,
  oA 74 (cF 52 #[(tm 63), (tm 73)] #[60, 26]) 26,
  oN (.store 26 (tm 6) (tm 74)) 0]
def c45_64 : AC := .region o45_64 []
def c45_65 : AC := .ret
def c45_63 : AC := .seq c45_64 c45_65
def c45_55 : AC := .seq c45_56 c45_63
def c45_66 : AC := .skip
def c45_54 : AC := .cond (tm 56) c45_55 c45_66
def c45_52 : AC := .seq c45_53 c45_54
def c45_40 : AC := .cond (tm 43) c45_41 c45_52
def c45_38 : AC := .seq c45_39 c45_40
def c45_34 : AC := .cond (tm 38) c45_35 c45_38
def c45_32 : AC := .seq c45_33 c45_34
def c45_20 : AC := .cond (tm 23) c45_21 c45_32
def c45_18 : AC := .seq c45_19 c45_20
def c45_14 : AC := .cond (tm 18) c45_15 c45_18
def c45_12 : AC := .seq c45_13 c45_14
def c45_8 : AC := .cond (tm 8) c45_9 c45_12
def c45_6 : AC := .seq c45_7 c45_8
def c45_5 : AC := .block 0 c45_6
def c45_3 : AC := .seq c45_4 c45_5
abbrev o45_69 : List AO := [oA 75 (.move (tm 2)) 77,
  oA 76 (.indexAddr 77 (tm 75) (ci 0)) 0,
  oA 77 (.fieldAddr 26 (tm 76) 0) 0,
  oA 78 (.load 3 (tm 77)) 3,
  oA 79 (.binOp .eql 3 (tm 78) (ci 2) 3) 4]
def c45_69 : AC := .region o45_69 []
abbrev o45_72 : List AO := [oA 80 (.move (tm 2)) 77,
  oA 81 (.indexAddr 77 (tm 80) (ci 0)) 0,
  oA 82 (.fieldAddr 26 (tm 81) 3) 0,
  oA 83 (.fieldAddr 24 (tm 82) 0) 0,
  oA 84 (.load 3 (tm 83)) 3,
  oA 85 (.unOp .neg 3 (tm 84)) 3,
  oA 86 (.move (tm 2)) 77,
  oA 87 (.indexAddr 77 (tm 86) (ci 0)) 0,
  oA 88 (.fieldAddr 26 (tm 87) 3) 0,
  oA 89 (.fieldAddr 24 (tm 88) 1) 0,
  oA 90 (.load 3 (tm 89)) 3,
  oA 91 (.unOp .neg 3 (tm 90)) 3,
  oA 92 (.build 24 #[(0, (tm 85)), (1, (tm 91))]) 24,
  oA 93 (cF 63 #[(tm 92)] #[24]) 26,
  oN (.store 26 (tm 6) (tm 93)) 0]
def c45_72 : AC := .region o45_72 []
def c45_73 : AC := .ret
def c45_71 : AC := .seq c45_72 c45_73
def c45_74 : AC := .skip
def c45_70 : AC := .cond (tm 79) c45_71 c45_74
def c45_68 : AC := .seq c45_69 c45_70
abbrev o45_77 : List AO := [oA 94 (.move (tm 0)) 60,
  oA 95 (.move (tm 2)) 77,
  oA 96 (cF 51 #[(tm 94), (.const (.string ⟨#[110]⟩)), (tm 95)] #[60, 9, 77]) 4,
  oA 97 (.unOp .not 4 (tm 96)) 4]
def c45_77 : AC := .region o45_77 []
abbrev o45_80 : List AO := [oA 98 (.build 26 #[]) 26,
  oN (.store 26 (tm 6) (tm 98)) 0]
def c45_80 : AC := .region o45_80 []
def c45_81 : AC := .ret
def c45_79 : AC := .seq c45_80 c45_81
def c45_82 : AC := .skip
def c45_78 : AC := .cond (tm 97) c45_79 c45_82
def c45_76 : AC := .seq c45_77 c45_78
abbrev o45_84 : List AO := [oA 99 (.move (tm 2)) 77,
  oA 100 (.indexAddr 77 (tm 99) (ci 0)) 0,
  oA 101 (.fieldAddr 26 (tm 100) 1) 0,
  oA 102 (.load 3 (tm 101)) 3,
  oA 103 (.unOp .neg 3 (tm 102)) 3,
  oA 104 (cF 39 #[(tm 103)] #[3]) 26,
  oN (.store 26 (tm 6) (tm 104)) 0]
def c45_84 : AC := .region o45_84 []
def c45_85 : AC := .ret
def c45_83 : AC := .seq c45_84 c45_85
def c45_75 : AC := .seq c45_76 c45_83
def c45_67 : AC := .seq c45_68 c45_75
def c45_2 : AC := .seq c45_3 c45_67
def c45_0 : AC := .seq c45_1 c45_2
theorem r45_0 : SeqR Cx 45 c45_0 c45_1 c45_2 ∧ RegR Cx 45 c45_1 o45_1 ∧ SeqR Cx 45 c45_2 c45_3 c45_67 ∧ SeqR Cx 45 c45_3 c45_4 c45_5 ∧ RegR Cx 45 c45_4 o45_4 ∧ BlkR Cx 45 c45_5 0 c45_6 ∧ SeqR Cx 45 c45_6 c45_7 c45_8 ∧ RegR Cx 45 c45_7 o45_7 := ⟨run_seq, run_region, run_seq, run_seq, run_region, run_block, run_seq, run_region⟩
theorem r45_1 : CondR Cx 45 c45_8 (tm 8) c45_9 c45_12 ∧ SeqR Cx 45 c45_9 c45_10 c45_11 ∧ RegR Cx 45 c45_10 o45_10 ∧ RetR Cx 45 c45_11 ∧ SeqR Cx 45 c45_12 c45_13 c45_14 ∧ RegR Cx 45 c45_13 o45_13 ∧ CondR Cx 45 c45_14 (tm 18) c45_15 c45_18 ∧ SeqR Cx 45 c45_15 c45_16 c45_17 := ⟨run_condC, run_seq, run_region, run_ret, run_seq, run_region, run_condC, run_seq⟩
theorem r45_2 : RegR Cx 45 c45_16 o45_16 ∧ RetR Cx 45 c45_17 ∧ SeqR Cx 45 c45_18 c45_19 c45_20 ∧ RegR Cx 45 c45_19 o45_19 ∧ CondR Cx 45 c45_20 (tm 23) c45_21 c45_32 ∧ SeqR Cx 45 c45_21 c45_22 c45_29 ∧ SeqR Cx 45 c45_22 c45_23 c45_24 ∧ RegR Cx 45 c45_23 o45_23 := ⟨run_region, run_ret, run_seq, run_region, run_condC, run_seq, run_seq, run_region⟩
theorem r45_3 : CondR Cx 45 c45_24 (tm 29) c45_25 c45_28 ∧ SeqR Cx 45 c45_25 c45_26 c45_27 ∧ RegR Cx 45 c45_26 o45_26 ∧ RetR Cx 45 c45_27 ∧ SkipR Cx 45 c45_28 ∧ SeqR Cx 45 c45_29 c45_30 c45_31 ∧ RegR Cx 45 c45_30 o45_30 ∧ RetR Cx 45 c45_31 := ⟨run_condC, run_seq, run_region, run_ret, run_skip, run_seq, run_region, run_ret⟩
theorem r45_4 : SeqR Cx 45 c45_32 c45_33 c45_34 ∧ RegR Cx 45 c45_33 o45_33 ∧ CondR Cx 45 c45_34 (tm 38) c45_35 c45_38 ∧ SeqR Cx 45 c45_35 c45_36 c45_37 ∧ RegR Cx 45 c45_36 o45_36 ∧ RetR Cx 45 c45_37 ∧ SeqR Cx 45 c45_38 c45_39 c45_40 ∧ RegR Cx 45 c45_39 o45_39 := ⟨run_seq, run_region, run_condC, run_seq, run_region, run_ret, run_seq, run_region⟩
theorem r45_5 : CondR Cx 45 c45_40 (tm 43) c45_41 c45_52 ∧ SeqR Cx 45 c45_41 c45_42 c45_49 ∧ SeqR Cx 45 c45_42 c45_43 c45_44 ∧ RegR Cx 45 c45_43 o45_43 ∧ CondR Cx 45 c45_44 (tm 48) c45_45 c45_48 ∧ SeqR Cx 45 c45_45 c45_46 c45_47 ∧ RegR Cx 45 c45_46 o45_46 ∧ RetR Cx 45 c45_47 := ⟨run_condC, run_seq, run_seq, run_region, run_condC, run_seq, run_region, run_ret⟩
theorem r45_6 : SkipR Cx 45 c45_48 ∧ SeqR Cx 45 c45_49 c45_50 c45_51 ∧ RegR Cx 45 c45_50 o45_50 ∧ RetR Cx 45 c45_51 ∧ SeqR Cx 45 c45_52 c45_53 c45_54 ∧ RegR Cx 45 c45_53 o45_53 ∧ CondR Cx 45 c45_54 (tm 56) c45_55 c45_66 ∧ SeqR Cx 45 c45_55 c45_56 c45_63 := ⟨run_skip, run_seq, run_region, run_ret, run_seq, run_region, run_condC, run_seq⟩
theorem r45_7 : SeqR Cx 45 c45_56 c45_57 c45_58 ∧ RegR Cx 45 c45_57 o45_57 ∧ CondR Cx 45 c45_58 (tm 61) c45_59 c45_62 ∧ SeqR Cx 45 c45_59 c45_60 c45_61 ∧ RegR Cx 45 c45_60 o45_60 ∧ RetR Cx 45 c45_61 ∧ SkipR Cx 45 c45_62 ∧ SeqR Cx 45 c45_63 c45_64 c45_65 := ⟨run_seq, run_region, run_condC, run_seq, run_region, run_ret, run_skip, run_seq⟩
theorem r45_8 : RegR Cx 45 c45_64 o45_64 ∧ RetR Cx 45 c45_65 ∧ SkipR Cx 45 c45_66 ∧ SeqR Cx 45 c45_67 c45_68 c45_75 ∧ SeqR Cx 45 c45_68 c45_69 c45_70 ∧ RegR Cx 45 c45_69 o45_69 ∧ CondR Cx 45 c45_70 (tm 79) c45_71 c45_74 ∧ SeqR Cx 45 c45_71 c45_72 c45_73 := ⟨run_region, run_ret, run_skip, run_seq, run_seq, run_region, run_condC, run_seq⟩
theorem r45_9 : RegR Cx 45 c45_72 o45_72 ∧ RetR Cx 45 c45_73 ∧ SkipR Cx 45 c45_74 ∧ SeqR Cx 45 c45_75 c45_76 c45_83 ∧ SeqR Cx 45 c45_76 c45_77 c45_78 ∧ RegR Cx 45 c45_77 o45_77 ∧ CondR Cx 45 c45_78 (tm 97) c45_79 c45_82 ∧ SeqR Cx 45 c45_79 c45_80 c45_81 := ⟨run_region, run_ret, run_skip, run_seq, run_seq, run_region, run_condC, run_seq⟩
theorem r45_10 : RegR Cx 45 c45_80 o45_80 ∧ RetR Cx 45 c45_81 ∧ SkipR Cx 45 c45_82 ∧ SeqR Cx 45 c45_83 c45_84 c45_85 ∧ RegR Cx 45 c45_84 o45_84 ∧ RetR Cx 45 c45_85 := ⟨run_region, run_ret, run_skip, run_seq, run_region, run_ret⟩
theorem body45 : bodyOf Cx 45 = some c45_0 := by kernel_rfl
theorem res45 : resOf Cx 45 = some [.cell 6 26] := by kernel_rfl
theorem pure45 : Cx.pure 45 = false := by kernel_rfl
end
end Go.Proofs.Ytckhmpcmlochpaa.G

