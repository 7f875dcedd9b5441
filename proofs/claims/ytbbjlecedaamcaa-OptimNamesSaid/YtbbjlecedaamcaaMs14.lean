import Derived.Test.YtbbjlecedaamcaaMs13
import Derived.Test.YtbbjlecedaamcaaProg
import Derived.KernelRfl
set_option linter.unusedVariables false
set_option linter.unusedSimpArgs false
namespace Go.AM
open Go Go.Proofs
set_option maxRecDepth 100000
abbrev fi_fullerlaw19_OptimWrites : Nat := 3
abbrev fi_fullerlaw19_OptimNames : Nat := 4
abbrev fi_fullerlaw19_awake : Nat := 5
abbrev fi_fullerref09_Few : Nat := 6
abbrev fi_fullerref03_Few : Nat := 7
abbrev fi_optim_Reads : Nat := 8
abbrev fi_optim_Writes : Nat := 9
abbrev fi_fullerref02_Same : Nat := 10
abbrev fi_fullerref10_In : Nat := 11
abbrev fi_fullerref19_Same : Nat := 12
abbrev fi_optim_of : Nat := 13
abbrev fi_optim_may : Nat := 14
abbrev fi_optim_most : Nat := 15
abbrev fi_slices_Clone_int_int : Nat := 16
abbrev fi_optim_at : Nat := 17
abbrev fi_optim_by : Nat := 18
abbrev fi_elem_Two : Nat := 19
abbrev fi_fullerref03_Same : Nat := 20
abbrev fi_tensor_Check : Nat := 21
abbrev fi_slices_Equal_int_int : Nat := 22
abbrev fi_elem_kinds : Nat := 23
abbrev fi_shape_Join : Nat := 24
abbrev fi_tensor_Spread : Nat := 25
abbrev fi_elem_each : Nat := 26
abbrev fi_elem_Two_1 : Nat := 27
abbrev fi_shape_Check : Nat := 28
abbrev fi_shape_Size : Nat := 29
abbrev fi_elem_kinds_1 : Nat := 30
abbrev fi_fix_Add : Nat := 31
abbrev fi_fix_Sub : Nat := 32
abbrev fi_fix_Mul : Nat := 33
abbrev fi_fix_Div : Nat := 34
abbrev fi_fix_Neg : Nat := 35
abbrev fi_fix_Pow : Nat := 36
abbrev fi_fix_Sqrt : Nat := 37
abbrev fi_shape_side : Nat := 38
abbrev fi_shape_Fits : Nat := 39
abbrev fi_tensor_Full : Nat := 40
abbrev fi_tensor_from : Nat := 41
abbrev fi_fix_told : Nat := 42
abbrev fi_math_bits_Mul64 : Nat := 43
abbrev fi_fix_size : Nat := 44
abbrev fi_fix_wide_signed : Nat := 45
abbrev fi_fix_apart : Nat := 46
abbrev fi_slices_Repeat_int_int : Nat := 50
abbrev fi_tensor_from_1 : Nat := 51
abbrev fi_shape_Index : Nat := 52
abbrev fi_fix_wide_signed_1 : Nat := 53
abbrev fi_math_bits_Mul : Nat := 57
abbrev fi_optim_keeps_slope : Nat := 74
abbrev fi_optim_plain_slope : Nat := 75
abbrev fi_optim_clips_slope : Nat := 76
def a_fullerlaw19_OptimWrites : ACode := (sr [1,2,3,5,9] [5,9] (nn 5 (.box 4 (.t 0))<|nn 9 (.box 2 (.t 4))<|qq 10 (.mov (.c (.one (.p (.bool false)))))<|.nil)<|
(sr [1,2,3,5,9,11] [5,9] (cl 22 5 []<|mv 11 22<|.nil)<|
(ib [1,2,3,5,9,11,40] [5,9] (mv 23 1<|le 24 23<|bc 25 .gtr 24 30<|mv 26 25<|.sc 30 26 false 29 none (.op (some 27) (some (26, false)) (.q (.mov (.t 2)))<|.op (some 28) (some (26, false)) (.call (.c (.one (.p (.fn fi_fullerref09_Few [] [])))) [(.t 27),(ic 10)])<|.op (some 29) (some (26, false)) (.q (.un .not (.t 28)))<|.nil)<|mv 31 30<|.sc 35 31 false 34 none (.op (some 32) (some (31, false)) (.q (.mov (.t 3)))<|.op (some 33) (some (31, false)) (.call (.c (.one (.p (.fn fi_fullerref09_Few [] [])))) [(.t 32),(ic 10)])<|.op (some 34) (some (31, false)) (.q (.un .not (.t 33)))<|.nil)<|mv 36 35<|.sc 40 36 false 39 none (.op (some 37) (some (36, false)) (.q (.load 2 true (.t 9)))<|.op (some 38) (some (36, false)) (.call (.c (.one (.p (.fn fi_fullerref03_Few [] [])))) [(.t 37)])<|.op (some 39) (some (36, false)) (.q (.un .not (.t 38)))<|.nil)<|.nil) 40 (sr [10] [5,9] (mv 41 11<|mv 10 41<|.nil)<|
.ret)<|
(sr [1,2,3,5,9,11,12,13] [5,9] (ld 43 4 true 5<|mv 44 1<|cl 45 8 [43,44]<|mv 42 45<|xt 46 42 0<|xt 47 42 1<|mv 12 46<|mv 13 47<|.nil)<|
(sr [1,2,3,5,9,11,12,13,14,15] [5,9] (ld 49 4 true 5<|mv 50 1<|mv 51 2<|mv 52 3<|cl 53 9 [49,50,51,52]<|mv 48 53<|xt 54 48 0<|xt 55 48 1<|mv 14 54<|mv 15 55<|.nil)<|
(ib [1,2,3,5,9,11,12,13,14,15,57] [5,9] (mv 56 15<|bc 57 .neq 56 0<|.nil) 57 (sr [10] [5,9] (mv 58 11<|mv 59 58<|.sc 63 59 true 62 none (.op (some 60) (some (59, true)) (.q (.mov (.t 14)))<|.op (some 61) (some (59, true)) (.q (.len (.t 60)))<|.op (some 62) (some (59, true)) (.q (.bin .eql (.t 61) (ic 0)))<|.nil)<|mv 64 63<|.sc 72 64 true 71 none (.op (some 65) (some (64, true)) (.q (.mov (.t 13)))<|.op (some 66) (some (64, true)) (.q (.bin .eql (.t 65) (ic 0)))<|.op (some 67) (some (64, true)) (.q (.mov (.t 66)))<|.sc 71 67 false 70 (some (64, true)) (.op (some 68) (some (67, false)) (.q (.mov (.t 15)))<|.op (some 69) (some (67, false)) (.q (.mov (.t 13)))<|.op (some 70) (some (67, false)) (.q (.bin .eql (.t 68) (.t 69)))<|.nil)<|.nil)<|mv 10 72<|.nil)<|
.ret)<|
(ib [1,2,3,5,9,11,12,14,81] [5,9] (mv 73 13<|bc 74 .neq 73 0<|mv 75 74<|.sc 81 75 false 80 none (.op (some 76) (some (75, false)) (.q (.mov (.t 14)))<|.op (some 77) (some (75, false)) (.q (.len (.t 76)))<|.op (some 78) (some (75, false)) (.q (.mov (.t 12)))<|.op (some 79) (some (75, false)) (.q (.len (.t 78)))<|.op (some 80) (some (75, false)) (.q (.bin .neq (.t 77) (.t 79)))<|.nil)<|.nil) 81 (sr [10] [5,9] (qq 10 (.mov (.c (.one (.p (.bool false)))))<|.nil)<|
.ret)<|
(.seq (sr [1,2,3,5,9,11,12,14,16] [5,9] (mc 16 0<|.nil)<|
(.block 0 (.loop (.seq (sr [1,2,3,5,9,11,12,14,16,85] [5,9] (mv 82 16<|mv 83 14<|le 84 83<|bt 85 .lss 82 84<|.nil)<|
(cd 85 .skip (.exit 0)))<|
(.seq (.block 1 (sr [1,2,3,5,9,11,12,14,16,17] [5,9] (mv 88 14<|mv 89 16<|ia 90 3 88 89<|fa 91 0 90<|ld 92 1 false 91<|mv 17 92<|.nil)<|
(.seq (.region (some ([] :: [0] :: [0, 1] :: [0] :: [0] :: [] :: [] :: [] :: [] :: [] :: [] :: [] :: [11] :: [11] :: [] :: [] :: [] :: [] :: [17] :: [] :: [] :: [] :: [] :: [17, 18, 19, 20, 21, 22] :: [17, 18, 19, 20, 21, 22, 23] :: [17, 18, 19, 20, 21, 22] :: [17, 18, 19, 20, 21, 22] :: [17, 18, 19, 20, 21, 22] :: [] :: [] :: [] :: [] :: [] :: [32] :: [] :: [] :: [] :: [] :: [] :: [32, 33, 34, 35, 36, 37, 38] :: [32, 33, 34, 35, 36, 37, 38, 39] :: [32, 33, 34, 35, 36, 37, 38] :: [32, 33, 34, 35, 36, 37, 38] :: [32, 33, 34, 35, 36, 37, 38] :: [32, 33, 34, 35, 36, 37, 38] :: [] :: [] :: [])) (mv 93 17<|mv 94 12<|mv 95 16<|ia 96 1 94 95<|ld 97 1 false 96<|bt 98 .neq 93 97<|mv 99 98<|.sc 102 99 false 101 none (.op (some 100) (some (99, false)) (.q (.mov (.t 17)))<|.op (some 101) (some (99, false)) (.q (.bin .lss (.t 100) (ic 0)))<|.nil)<|mv 103 102<|.sc 108 103 false 107 none (.op (some 104) (some (103, false)) (.q (.mov (.t 17)))<|.op (some 105) (some (103, false)) (.q (.mov (.t 2)))<|.op (some 106) (some (103, false)) (.q (.len (.t 105)))<|.op (some 107) (some (103, false)) (.q (.bin .geq (.t 104) (.t 106)))<|.nil)<|mv 109 108<|.sc 123 109 false 122 none (.op (some 110) (some (109, false)) (.q (.mov (.t 14)))<|.op (some 111) (some (109, false)) (.q (.mov (.t 16)))<|.op (some 112) (some (109, false)) (.q (.iaddr 3 (.t 110) (.t 111)))<|.op (some 113) (some (109, false)) (.q (.faddr 1 (.t 112)))<|.op (some 114) (some (109, false)) (.q (.faddr 0 (.t 113)))<|.op (some 115) (some (109, false)) (.q (.load 1 false (.t 114)))<|.op (some 116) (some (109, false)) (.q (.mov (.t 2)))<|.op (some 117) (some (109, false)) (.q (.mov (.t 17)))<|.op (some 118) (some (109, false)) (.q (.iaddr 2 (.t 116) (.t 117)))<|.op (some 119) (some (109, false)) (.q (.faddr 0 (.t 118)))<|.op (some 120) (some (109, false)) (.q (.load 1 false (.t 119)))<|.op (some 121) (some (109, false)) (.call (.c (.one (.p (.fn fi_fullerref02_Same [] [])))) [(.t 115),(.t 120)])<|.op (some 122) (some (109, false)) (.q (.un .not (.t 121)))<|.nil)<|mv 124 123<|.sc 139 124 false 138 none (.op (some 125) (some (124, false)) (.q (.mov (.t 14)))<|.op (some 126) (some (124, false)) (.q (.mov (.t 16)))<|.op (some 127) (some (124, false)) (.q (.iaddr 3 (.t 125) (.t 126)))<|.op (some 128) (some (124, false)) (.q (.faddr 1 (.t 127)))<|.op (some 129) (some (124, false)) (.q (.faddr 1 (.t 128)))<|.op (some 130) (some (124, false)) (.q (.load 1 false (.t 129)))<|.op (some 131) (some (124, false)) (.q (.len (.t 130)))<|.op (some 132) (some (124, false)) (.q (.mov (.t 2)))<|.op (some 133) (some (124, false)) (.q (.mov (.t 17)))<|.op (some 134) (some (124, false)) (.q (.iaddr 2 (.t 132) (.t 133)))<|.op (some 135) (some (124, false)) (.q (.faddr 1 (.t 134)))<|.op (some 136) (some (124, false)) (.q (.load 1 false (.t 135)))<|.op (some 137) (some (124, false)) (.q (.len (.t 136)))<|.op (some 138) (some (124, false)) (.q (.bin .neq (.t 131) (.t 137)))<|.nil)<|.nil) [1,2,3,5,9,11,12,14,16,139] [5,9])<|
(cd 139 (sr [10] [5,9] (qq 10 (.mov (.c (.one (.p (.bool false)))))<|.nil)<|
.ret) .skip))))<|
(rg [1,2,3,5,9,11,12,14,16] [5,9]<|mv 86 16<|bc 87 .add 86 1<|mv 16 87<|.nil))))))<|
(sr [1,2,3,5,9,11,12,14,18] [5,9] (qq 18 (.mov (.c (.one .nils)))<|.nil)<|
(.seq (sr [1,2,3,5,9,11,12,14,18,19] [5,9] (mc 19 0<|.nil)<|
(.block 2 (.loop (.seq (sr [1,2,3,5,9,11,12,14,18,19,143] [5,9] (mv 140 19<|mv 141 2<|le 142 141<|bt 143 .lss 140 142<|.nil)<|
(cd 143 .skip (.exit 2)))<|
(.seq (.block 3 (sr [1,2,3,5,9,11,12,14,18,19,148] [5,9] (mv 146 12<|mv 147 19<|cl 148 11 [146,147]<|.nil)<|
(cd 148 (rg [1,2,3,5,9,11,12,14,18,19] [5,9,154,155]<|mv 149 18<|mv 150 2<|mv 151 19<|ia 152 2 150 151<|ld 153 2 true 152<|nn 154 (.lit 2 1 [(.sl []),(.sl [])] [(0, (.t 153))])<|sd 155 (.app 2 48 (.t 149) (.t 154))<|mv 18 155<|.nil) (rg [1,2,3,5,9,11,12,14,18,19] [5,9,158,159]<|mv 156 18<|ld 157 2 true 9<|nn 158 (.lit 2 1 [(.sl []),(.sl [])] [(0, (.t 157))])<|sd 159 (.app 2 48 (.t 156) (.t 158))<|mv 18 159<|.nil))))<|
(rg [1,2,3,5,9,11,12,14,18,19] [5,9,154,155,158,159]<|mv 144 19<|bc 145 .add 144 1<|mv 19 145<|.nil))))))<|
(sr [11,14,20,21] [5,9,154,155,158,159] (ld 161 4 true 5<|mv 162 1<|mv 163 18<|mv 164 3<|cl 165 9 [161,162,163,164]<|mv 160 165<|xt 166 160 0<|xt 167 160 1<|mv 20 166<|mv 21 167<|.nil)<|
(sr [10] [5,9,154,155,158,159] (mv 168 11<|mv 169 168<|.sc 172 169 true 171 none (.op (some 170) (some (169, true)) (.q (.mov (.t 21)))<|.op (some 171) (some (169, true)) (.q (.bin .eql (.t 170) (ic 0)))<|.nil)<|mv 173 172<|.sc 177 173 true 176 none (.op (some 174) (some (173, true)) (.q (.mov (.t 14)))<|.op (some 175) (some (173, true)) (.q (.mov (.t 20)))<|.op (some 176) (some (173, true)) (.call (.c (.one (.p (.fn fi_fullerref19_Same [] [])))) [(.t 174),(.t 175)])<|.nil)<|mv 10 177<|.nil)<|
.ret))))))))))))
theorem pure_fullerlaw19_OptimWrites : PureT Try.prog fi_fullerlaw19_OptimWrites 178 a_fullerlaw19_OptimWrites [.tmp 10] := pureT_of Try.call3 Try.func3
def a_fullerlaw19_OptimNames : ACode := (sr [1,2,3,4] [4] (nn 4 (.box 4 (.t 0))<|qq 8 (.mov (.c (.one (.p (.bool false)))))<|.nil)<|
(sr [1,2,3,4,9] [4] (cl 17 5 []<|mv 9 17<|.nil)<|
(ib [1,2,3,4,9,30] [4] (mv 18 1<|le 19 18<|bc 20 .gtr 19 30<|mv 21 20<|.sc 25 21 false 24 none (.op (some 22) (some (21, false)) (.q (.mov (.t 2)))<|.op (some 23) (some (21, false)) (.call (.c (.one (.p (.fn fi_fullerref09_Few [] [])))) [(.t 22),(ic 10)])<|.op (some 24) (some (21, false)) (.q (.un .not (.t 23)))<|.nil)<|mv 26 25<|.sc 30 26 false 29 none (.op (some 27) (some (26, false)) (.q (.mov (.t 3)))<|.op (some 28) (some (26, false)) (.call (.c (.one (.p (.fn fi_fullerref09_Few [] [])))) [(.t 27),(ic 10)])<|.op (some 29) (some (26, false)) (.q (.un .not (.t 28)))<|.nil)<|.nil) 30 (sr [8] [4] (mv 31 9<|mv 8 31<|.nil)<|
.ret)<|
(sr [1,2,3,4,9,10,11] [4] (ld 33 4 true 4<|mv 34 1<|mv 35 2<|mv 36 3<|cl 37 9 [33,34,35,36]<|mv 32 37<|xt 38 32 0<|xt 39 32 1<|mv 10 38<|mv 11 39<|.nil)<|
(sr [1,2,3,4,9,10,11,12] [4] (qq 12 (.mov (.c (.one .nils)))<|.nil)<|
(sr [1,2,3,4,9,10,11,12,13] [4] (qq 13 (.mov (.c (.one .nils)))<|.nil)<|
(.seq (sr [1,2,3,4,9,10,11,12,13,14] [4] (mc 14 0<|.nil)<|
(.block 0 (.loop (.seq (sr [1,2,3,4,9,10,11,12,13,14,43] [4] (mv 40 14<|mv 41 1<|le 42 41<|bt 43 .lss 40 42<|.nil)<|
(cd 43 .skip (.exit 0)))<|
(.seq (.block 1 (.seq (.region (some [[], [0], [0, 1], [0, 1, 2], [0, 1, 2], [0], [0, 1, 2, 3, 4, 5], [0, 1, 2, 3, 4, 5, 6], [], [], [], [10], [11], []]) (ld 47 4 true 4<|mv 48 1<|mv 49 14<|mv 50 14<|bc 51 .add 50 1<|qq 52 (.slc 1 (.t 48) (some (.t 49)) (some (.t 51)) none)<|mv 53 2<|mv 54 3<|cl 55 9 [47,52,53,54]<|mv 46 55<|xt 56 46 0<|xt 57 46 1<|mv 15 56<|mv 16 57<|.nil) [1,2,3,4,9,10,11,12,13,14,15,16] [4])<|
(ib [1,2,3,4,9,10,11,12,13,14,15,59] [4] (mv 58 16<|bc 59 .neq 58 0<|.nil) 59 (sr [8] [4] (mv 60 9<|mv 61 60<|.sc 64 61 true 63 none (.op (some 62) (some (61, true)) (.q (.mov (.t 11)))<|.op (some 63) (some (61, true)) (.q (.bin .neq (.t 62) (ic 0)))<|.nil)<|mv 8 64<|.nil)<|
.ret)<|
(ib [1,2,3,4,9,10,11,12,13,14,15,72] [4] (mv 65 15<|le 66 65<|bc 67 .eql 66 0<|mv 68 67<|.sc 72 68 false 71 none (.op (some 69) (some (68, false)) (.q (.mov (.t 15)))<|.op (some 70) (some (68, false)) (.q (.len (.t 69)))<|.op (some 71) (some (68, false)) (.q (.bin .gtr (.t 70) (ic 2)))<|.nil)<|.nil) 72 (sr [8] [4] (qq 8 (.mov (.c (.one (.p (.bool false)))))<|.nil)<|
.ret)<|
(sr [1,2,3,4,9,10,11,12,13,14,15] [4,77,78] (mv 73 12<|mv 74 15<|qq 75 (.iaddr 3 (.t 74) (ic 0))<|ld 76 3 true 75<|nn 77 (.lit 3 1 [(.int .i64 0),(.sl []),(.sl [])] [(0, (.t 76))])<|sd 78 (.app 3 56 (.t 73) (.t 77))<|mv 12 78<|.nil)<|
(rg [1,2,3,4,9,10,11,12,13,14] [4,77,78,82]<|mv 79 13<|mv 80 15<|qq 81 (.slc 3 (.t 80) (some (ic 1)) none none)<|sd 82 (.app 3 56 (.t 79) (.t 81))<|mv 13 82<|.nil))))))<|
(rg [1,2,3,4,9,10,11,12,13,14] [4,77,78,82]<|mv 44 14<|bc 45 .add 44 1<|mv 14 45<|.nil))))))<|
(sr [8] [4,77,78,82,91] (mv 83 9<|mv 84 83<|.sc 94 84 true 93 none (.op (some 85) (some (84, true)) (.q (.mov (.t 11)))<|.op (some 86) (some (84, true)) (.q (.bin .neq (.t 85) (ic 0)))<|.op (some 87) (some (84, true)) (.q (.mov (.t 86)))<|.sc 93 87 false 92 (some (84, true)) (.op (some 88) (some (87, false)) (.q (.mov (.t 10)))<|.op (some 89) (some (87, false)) (.q (.mov (.t 12)))<|.op (some 90) (some (87, false)) (.q (.mov (.t 13)))<|.op (some 91) (some (87, false)) (.s (.app 3 56 (.t 89) (.t 90)))<|.op (some 92) (some (87, false)) (.call (.c (.one (.p (.fn fi_fullerref19_Same [] [])))) [(.t 88),(.t 91)])<|.nil)<|.nil)<|mv 8 94<|.nil)<|
.ret))))))))
theorem pure_fullerlaw19_OptimNames : PureT Try.prog fi_fullerlaw19_OptimNames 95 a_fullerlaw19_OptimNames [.tmp 8] := pureT_of Try.call4 Try.func4
def a_fullerlaw19_awake : ACode := (sr [] [] (qq 0 (.mov (.c (.one (.p (.bool false)))))<|.nil)<|
(sr [1] [13,15] (nn 13 (.lit 1 1 [(.int .i64 0)] [(0, (ic 4294967296))])<|qq 14 (.build [.nils,.nils] [(1, 1, (.t 13))])<|nn 15 (.lit 2 1 [(.sl []),(.sl [])] [(0, (.t 14))])<|mv 1 15<|.nil)<|
(sr [1,2] [13,15,16,18] (nn 16 (.lit 1 1 [(.int .i64 0)] [(0, (ic 8589934592))])<|qq 17 (.build [.nils,.nils] [(1, 1, (.t 16))])<|nn 18 (.lit 2 1 [(.sl []),(.sl [])] [(0, (.t 17))])<|mv 2 18<|.nil)<|
(sr [1,2,3,4] [13,15,16,18,21] (qq 20 (.build [(.p (.int .i64 0)),(.p (.int .i64 0)),(.p (.int .i64 0)),(.p (.int .i64 0))] [(0, 1, (ic 1)),(1, 1, (ic 4294967296))])<|nn 21 (.lit 1 1 [(.int .i64 0)] [(0, (ic 0))])<|mv 22 1<|mv 23 2<|cl 24 9 [20,21,22,23]<|mv 19 24<|xt 25 19 0<|xt 26 19 1<|mv 3 25<|mv 4 26<|.nil)<|
(sr [1,2,3,4,5,6] [13,15,16,18,21,29] (qq 28 (.build [(.p (.int .i64 0)),(.p (.int .i64 0)),(.p (.int .i64 0)),(.p (.int .i64 0))] [(0, 1, (ic 3)),(1, 1, (ic 4294967296)),(3, 1, (ic 1))])<|nn 29 (.lit 1 1 [(.int .i64 0)] [(0, (ic 0))])<|mv 30 1<|mv 31 2<|cl 32 9 [28,29,30,31]<|mv 27 32<|xt 33 27 0<|xt 34 27 1<|mv 5 33<|mv 6 34<|.nil)<|
(sr [3,4,5,6,8] [13,15,16,18,21,29,37] (qq 36 (.build [(.p (.int .i64 0)),(.p (.int .i64 0)),(.p (.int .i64 0)),(.p (.int .i64 0))] [(0, 1, (ic 2))])<|nn 37 (.lit 1 1 [(.int .i64 0)] [(0, (ic 0))])<|mv 38 1<|mv 39 2<|cl 40 9 [36,37,38,39]<|mv 35 40<|xt 41 35 0<|xt 42 35 1<|mv 7 41<|mv 8 42<|.nil)<|
(sr [3,4,5,6,8,10] [13,15,16,18,21,29,37] (qq 44 (.build [(.p (.int .i64 0)),(.p (.int .i64 0)),(.p (.int .i64 0)),(.p (.int .i64 0))] [])<|.op (some 45) none (.call (.c (.one (.p (.fn fi_optim_Writes [] [])))) [(.t 44),(.c (.one .nils)),(.c (.one .nils)),(.c (.one .nils))])<|mv 43 45<|xt 46 43 0<|xt 47 43 1<|mv 9 46<|mv 10 47<|.nil)<|
(sr [3,4,5,6,8,10,11,12] [13,15,16,18,21,29,37,50] (qq 49 (.build [(.p (.int .i64 0)),(.p (.int .i64 0)),(.p (.int .i64 0)),(.p (.int .i64 0))] [(0, 1, (ic 2))])<|nn 50 (.lit 1 2 [(.int .i64 0)] [(0, (ic 1)),(1, (ic 3))])<|cl 51 8 [49,50]<|mv 48 51<|xt 52 48 0<|xt 53 48 1<|mv 11 52<|mv 12 53<|.nil)<|
(sr [0] [13,15,16,18,21,29,37,50,63,81,98] (mv 54 3<|le 55 54<|bc 56 .eql 55 1<|mv 57 56<|.sc 65 57 true 64 none (.op (some 58) (some (57, true)) (.q (.mov (.t 3)))<|.op (some 59) (some (57, true)) (.q (.iaddr 3 (.t 58) (ic 0)))<|.op (some 60) (some (57, true)) (.q (.faddr 1 (.t 59)))<|.op (some 61) (some (57, true)) (.q (.faddr 1 (.t 60)))<|.op (some 62) (some (57, true)) (.q (.load 1 false (.t 61)))<|.op (some 63) (some (57, true)) (.n (.lit 1 1 [(.int .i64 0)] [(0, (ic (-4294967296)))]))<|.op (some 64) (some (57, true)) (.call (.c (.one (.p (.fn fi_fullerref02_Same [] [])))) [(.t 62),(.t 63)])<|.nil)<|mv 66 65<|.sc 69 66 true 68 none (.op (some 67) (some (66, true)) (.q (.mov (.t 4)))<|.op (some 68) (some (66, true)) (.q (.bin .eql (.t 67) (ic 0)))<|.nil)<|mv 70 69<|.sc 74 70 true 73 none (.op (some 71) (some (70, true)) (.q (.mov (.t 5)))<|.op (some 72) (some (70, true)) (.q (.len (.t 71)))<|.op (some 73) (some (70, true)) (.q (.bin .eql (.t 72) (ic 1)))<|.nil)<|mv 75 74<|.sc 83 75 true 82 none (.op (some 76) (some (75, true)) (.q (.mov (.t 5)))<|.op (some 77) (some (75, true)) (.q (.iaddr 3 (.t 76) (ic 0)))<|.op (some 78) (some (75, true)) (.q (.faddr 1 (.t 77)))<|.op (some 79) (some (75, true)) (.q (.faddr 1 (.t 78)))<|.op (some 80) (some (75, true)) (.q (.load 1 false (.t 79)))<|.op (some 81) (some (75, true)) (.n (.lit 1 1 [(.int .i64 0)] [(0, (ic 4294967295))]))<|.op (some 82) (some (75, true)) (.call (.c (.one (.p (.fn fi_fullerref02_Same [] [])))) [(.t 80),(.t 81)])<|.nil)<|mv 84 83<|.sc 87 84 true 86 none (.op (some 85) (some (84, true)) (.q (.mov (.t 6)))<|.op (some 86) (some (84, true)) (.q (.bin .eql (.t 85) (ic 0)))<|.nil)<|mv 88 87<|.sc 91 88 true 90 none (.op (some 89) (some (88, true)) (.q (.mov (.t 8)))<|.op (some 90) (some (88, true)) (.q (.bin .eql (.t 89) (ic 130)))<|.nil)<|mv 92 91<|.sc 95 92 true 94 none (.op (some 93) (some (92, true)) (.q (.mov (.t 10)))<|.op (some 94) (some (92, true)) (.q (.bin .eql (.t 93) (ic 1)))<|.nil)<|mv 96 95<|.sc 100 96 true 99 none (.op (some 97) (some (96, true)) (.q (.mov (.t 11)))<|.op (some 98) (some (96, true)) (.n (.lit 1 4 [(.int .i64 0)] [(0, (ic 1)),(1, (ic 3)),(2, (ic 5)),(3, (ic 7))]))<|.op (some 99) (some (96, true)) (.call (.c (.one (.p (.fn fi_fullerref02_Same [] [])))) [(.t 97),(.t 98)])<|.nil)<|mv 101 100<|.sc 104 101 true 103 none (.op (some 102) (some (101, true)) (.q (.mov (.t 12)))<|.op (some 103) (some (101, true)) (.q (.bin .eql (.t 102) (ic 0)))<|.nil)<|mv 105 104<|qq 106 (.pick (.t 105) (.c (.one (.p (.bool true)))) (.c (.one (.p (.bool false)))))<|mv 0 106<|.nil)<|
.ret)))))))))
theorem pure_fullerlaw19_awake : PureT Try.prog fi_fullerlaw19_awake 107 a_fullerlaw19_awake [.tmp 0] := pureT_of Try.call5 Try.func5
def a_fullerref09_Few : ACode := (sr [0,1] [] (qq 4 (.mov (.c (.one (.p (.bool false)))))<|.nil)<|
(.seq (sr [0,1,5] [] (mc 5 0<|.nil)<|
(.block 0 (.loop (.seq (sr [0,1,5,10] [] (mv 7 5<|mv 8 0<|le 9 8<|bt 10 .lss 7 9<|.nil)<|
(cd 10 .skip (.exit 0)))<|
(.seq (.block 1 (sr [0,1,5,6] [] (mv 13 0<|mv 14 5<|ia 15 2 13 14<|ld 16 2 true 15<|cl 17 7 [16]<|mv 6 17<|.nil)<|
(sr [0,1,5,19] [] (mv 18 6<|qq 19 (.un .not (.t 18))<|.nil)<|
(cd 19 (sr [4] [] (qq 4 (.mov (.c (.one (.p (.bool false)))))<|.nil)<|
.ret) .skip))))<|
(rg [0,1,5] []<|mv 11 5<|bc 12 .add 11 1<|mv 5 12<|.nil))))))<|
(sr [4] [] (mv 20 0<|le 21 20<|mv 22 1<|bt 23 .leq 21 22<|mv 4 23<|.nil)<|
.ret)))
theorem pure_fullerref09_Few : PureT Try.prog fi_fullerref09_Few 24 a_fullerref09_Few [.tmp 4] := pureT_of Try.call6 Try.func6
def a_fullerref03_Few : ACode := (sr [1] [1] (nn 1 (.box 2 (.t 0))<|qq 2 (.mov (.c (.one (.p (.bool false)))))<|.nil)<|
(sr [2] [1] (fa 3 0 1<|ld 4 1 false 3<|le 5 4<|bc 6 .leq 5 100<|mv 7 6<|.sc 12 7 true 11 none (.op (some 8) (some (7, true)) (.q (.faddr 1 (.t 1)))<|.op (some 9) (some (7, true)) (.q (.load 1 false (.t 8)))<|.op (some 10) (some (7, true)) (.q (.len (.t 9)))<|.op (some 11) (some (7, true)) (.q (.bin .leq (.t 10) (ic 100)))<|.nil)<|mv 2 12<|.nil)<|
.ret))
theorem pure_fullerref03_Few : PureT Try.prog fi_fullerref03_Few 13 a_fullerref03_Few [.tmp 2] := pureT_of Try.call7 Try.func7
def a_optim_Reads : ACode := (sr [1,2] [2] (nn 2 (.box 4 (.t 0))<|qq 4 (.mov (.c (.one .nils)))<|mc 5 0<|.nil)<|
(sr [1,6] [2] (ld 12 4 true 2<|cl 13 13 [12]<|mv 6 13<|.nil)<|
(ib [1,6,18] [2] (mv 14 1<|mv 15 6<|cl 16 15 [15]<|cl 17 14 [14,16]<|qq 18 (.un .not (.t 17))<|.nil) 18 (sr [4,5] [2] (qq 4 (.mov (.c (.one .nils)))<|mc 5 1<|.nil)<|
.ret)<|
(sr [1,6,7] [2] (mv 19 1<|cl 20 16 [19]<|mv 7 20<|.nil)<|
(.seq (sr [1,7,9] [2,8] (mv 22 6<|qq 23 (.tas 50 true (.agg [(.p (.int .i64 0))]) (.t 22))<|mv 21 23<|xt 24 21 0<|xt 25 21 1<|al 8 [(.p (.int .i64 0))]<|st 1 8 24<|mv 9 25<|.nil)<|
(sr [1,7,26] [2,8] (mv 26 9<|.nil)<|
(cd 26 (sr [7,27,28,29] [2,8] (mv 27 1<|le 28 27<|mc 29 0<|.nil)<|
(.block 0 (.loop (sr [7,27,28,29,30] [2,8] (bt 30 .lss 29 28<|.nil)<|
(.seq (cd 30 .skip (.exit 0))<|
(.seq (.block 1 (sr [7,11,27,28,29] [2,8] (ia 31 1 27 29<|ld 32 1 false 31<|mv 11 32<|.nil)<|
(rg [7,27,28,29] [2,8,36,37]<|mv 33 7<|mv 34 11<|bc 35 .add 34 4<|nn 36 (.lit 1 1 [(.int .i64 0)] [(0, (.t 35))])<|sd 37 (.app 1 8 (.t 33) (.t 36))<|mv 7 37<|.nil)))<|
(rg [7,27,28,29] [2,8,36,37]<|bc 38 .add 29 1<|mv 29 38<|.nil))))))) .skip)))<|
(sr [4,5] [2,8,36,37] (mv 39 7<|mv 4 39<|mc 5 0<|.nil)<|
.ret))))))
theorem pure_optim_Reads : PureT Try.prog fi_optim_Reads 40 a_optim_Reads [.tmp 4,.tmp 5] := pureT_of Try.call8 Try.func8
def a_optim_Writes : ACode := (sr [1,2,3,4,8] [4] (nn 4 (.box 4 (.t 0))<|qq 8 (.mov (.c (.one .nils)))<|mc 9 0<|.nil)<|
(sr [1,2,3,4,8,10] [4] (ld 20 4 true 4<|cl 21 13 [20]<|mv 10 21<|.nil)<|
(ib [1,2,3,4,8,10,26] [4] (mv 22 1<|mv 23 10<|cl 24 15 [23]<|cl 25 14 [22,24]<|qq 26 (.un .not (.t 25))<|.nil) 26 (sr [8,9] [4] (qq 8 (.mov (.c (.one .nils)))<|mc 9 1<|.nil)<|
.ret)<|
(sr [1,2,3,4,8,10,12] [4,11] (mv 28 10<|qq 29 (.tas 50 true (.agg [(.p (.int .i64 0))]) (.t 28))<|mv 27 29<|xt 30 27 0<|xt 31 27 1<|al 11 [(.p (.int .i64 0))]<|st 1 11 30<|mv 12 31<|.nil)<|
(sr [1,2,3,4,8,10,12,13] [4,11] (qq 13 (.mov (.c (.one .nils)))<|.nil)<|
(.seq (sr [2,3,4,8,10,12,13,32,33,34] [4,11] (mv 32 1<|le 33 32<|mc 34 0<|.nil)<|
(.block 0 (.loop (sr [2,3,4,8,10,12,13,32,33,34,35] [4,11] (bt 35 .lss 34 33<|.nil)<|
(.seq (cd 35 .skip (.exit 0))<|
(.seq (.block 1 (sr [2,3,4,8,10,12,13,15,32,33,34] [4,11] (ia 36 1 32 34<|ld 37 1 false 36<|mv 15 37<|.nil)<|
(sr [2,3,4,8,10,12,13,15,16,17,18,32,33,34] [4,11,16,17,18] (al 16 [.nils,.nils]<|al 17 [.nils,.nils]<|al 18 [.nils,.nils]<|.nil)<|
(sr [2,3,4,8,10,12,13,15,16,17,18,19,32,33,34] [4,11,16,17,18] (mv 38 15<|mv 39 2<|le 40 39<|bt 41 .lss 38 40<|mv 19 41<|.nil)<|
(ib [2,3,4,8,10,12,13,15,16,17,18,19,32,33,34,42] [4,11,16,17,18] (mv 42 19<|.nil) 42 (rg [2,3,4,8,10,12,13,15,16,17,18,19,32,33,34] [4,11,16,17,18]<|mv 44 2<|mv 45 15<|mv 46 2<|mv 47 15<|ia 48 2 46 47<|ld 49 2 true 48<|cl 50 17 [44,45,49]<|mv 43 50<|xt 51 43 0<|xt 52 43 1<|st 2 16 51<|mv 19 52<|.nil)<|
(ib [2,3,4,8,10,12,13,15,16,17,18,19,32,33,34,53] [4,11,16,17,18] (mv 53 19<|.nil) 53 (rg [2,3,4,8,10,12,13,15,16,17,18,19,32,33,34] [4,11,16,17,18]<|mv 55 3<|mv 56 15<|ld 57 2 true 16<|cl 58 17 [55,56,57]<|mv 54 58<|xt 59 54 0<|xt 60 54 1<|st 2 18 59<|mv 19 60<|.nil)<|
(ib [2,3,4,8,10,12,13,15,16,17,18,19,32,33,34,64] [4,11,16,17,18] (mv 61 19<|mv 62 61<|.sc 64 62 true 63 none (.op (some 63) (some (62, true)) (.q (.mov (.t 12)))<|.nil)<|.nil) 64 (rg [2,3,4,8,10,12,13,15,16,17,18,19,32,33,34] [4,11,16,17,18]<|mv 66 2<|mv 67 15<|bc 68 .add 67 4<|ld 69 2 true 16<|cl 70 17 [66,68,69]<|mv 65 70<|xt 71 65 0<|xt 72 65 1<|st 2 17 71<|mv 19 72<|.nil)<|
(ib [2,3,4,8,10,12,13,15,16,17,18,32,33,34,74] [4,11,16,17,18] (mv 73 19<|qq 74 (.un .not (.t 73))<|.nil) 74 (sr [8,9] [4,11,16,17,18] (qq 8 (.mov (.c (.one .nils)))<|mc 9 130<|.nil)<|
.ret)<|
(.seq (sr [2,3,4,8,9,10,12,13,15,16,17,18,32,33,34] [4,11,16,17,18] (mv 76 10<|ld 77 2 true 17<|ld 78 2 true 18<|.op (some 79) none (.call (.c (.one (.p (.str (String.toByteArray "fuller/optim.slope"))))) [(.t 76),(.t 77),(.t 78)])<|mv 75 79<|xt 80 75 0<|xt 81 75 1<|st 2 18 80<|mv 9 81<|.nil)<|
(sr [2,3,4,8,9,10,12,13,15,16,17,18,32,33,34,83] [4,11,16,17,18] (mv 82 9<|bc 83 .neq 82 0<|.nil)<|
(cd 83 (sr [8,9] [4,11,16,17,18] (mv 84 9<|qq 8 (.mov (.c (.one .nils)))<|mv 9 84<|.nil)<|
.ret) .skip)))<|
(ib [2,3,4,8,10,12,13,15,16,17,18,32,33,34,85] [4,11,16,17,18] (mv 85 12<|.nil) 85 (rg [2,3,4,8,10,12,13,15,16,17,18,32,33,34] [4,11,16,17,18,91,92]<|mv 86 13<|mv 87 15<|bc 88 .add 87 4<|ld 89 2 true 18<|qq 90 (.build [(.p (.int .i64 0)),.nils,.nils] [(0, 1, (.t 88)),(1, 2, (.t 89))])<|nn 91 (.lit 3 1 [(.int .i64 0),(.sl []),(.sl [])] [(0, (.t 90))])<|sd 92 (.app 3 56 (.t 86) (.t 91))<|mv 13 92<|.nil)<|
(.seq (sr [2,3,4,8,9,10,12,13,15,16,17,32,33,34] [4,11,16,17,18,91,92] (ld 94 2 true 18<|fa 95 1 4<|ld 96 1 false 95<|cl 97 18 [94,96]<|mv 93 97<|xt 98 93 0<|xt 99 93 1<|st 2 17 98<|mv 9 99<|.nil)<|
(sr [2,3,4,8,9,10,12,13,15,16,17,32,33,34,101] [4,11,16,17,18,91,92] (mv 100 9<|bc 101 .neq 100 0<|.nil)<|
(cd 101 (sr [8,9] [4,11,16,17,18,91,92] (mv 102 9<|qq 8 (.mov (.c (.one .nils)))<|mv 9 102<|.nil)<|
.ret) .skip)))<|
(.seq (sr [2,3,4,8,9,10,12,13,15,17,32,33,34] [4,11,16,17,18,91,92] (ld 104 2 true 16<|ld 105 2 true 17<|.op (some 106) none (.call (.c (.one (.p (.fn fi_elem_Two [] [])))) [(ic 11),(.t 104),(.t 105)])<|mv 103 106<|xt 107 103 0<|xt 108 103 1<|st 2 17 107<|mv 9 108<|.nil)<|
(sr [2,3,4,8,9,10,12,13,15,17,32,33,34,110] [4,11,16,17,18,91,92] (mv 109 9<|bc 110 .neq 109 0<|.nil)<|
(cd 110 (sr [8,9] [4,11,16,17,18,91,92] (mv 111 9<|qq 8 (.mov (.c (.one .nils)))<|mv 9 111<|.nil)<|
.ret) .skip)))<|
(rg [2,3,4,8,10,12,13,32,33,34] [4,11,16,17,18,91,92,116,117]<|mv 112 8<|mv 113 15<|ld 114 2 true 17<|qq 115 (.build [(.p (.int .i64 0)),.nils,.nils] [(0, 1, (.t 113)),(1, 2, (.t 114))])<|nn 116 (.lit 3 1 [(.int .i64 0),(.sl []),(.sl [])] [(0, (.t 115))])<|sd 117 (.app 3 56 (.t 112) (.t 116))<|mv 8 117<|.nil)))))))))))))<|
(rg [2,3,4,8,10,12,13,32,33,34] [4,11,16,17,18,91,92,116,117]<|bc 118 .add 34 1<|mv 34 118<|.nil)))))))<|
(sr [8,9] [4,11,16,17,18,91,92,116,117,121] (mv 119 8<|mv 120 13<|sd 121 (.app 3 56 (.t 119) (.t 120))<|mv 8 121<|mc 9 0<|.nil)<|
.ret)))))))
theorem pure_optim_Writes : PureT Try.prog fi_optim_Writes 122 a_optim_Writes [.tmp 8,.tmp 9] := pureT_of Try.call9 Try.func9
def a_fullerref02_Same : ACode := (sr [0,1] [] (qq 4 (.mov (.c (.one (.p (.bool false)))))<|.nil)<|
(ib [0,1,10] [] (mv 6 0<|le 7 6<|mv 8 1<|le 9 8<|bt 10 .neq 7 9<|.nil) 10 (sr [4] [] (qq 4 (.mov (.c (.one (.p (.bool false)))))<|.nil)<|
.ret)<|
(.seq (sr [0,1,5] [] (mc 5 0<|.nil)<|
(.block 0 (.loop (.seq (sr [0,1,5,14] [] (mv 11 5<|mv 12 0<|le 13 12<|bt 14 .lss 11 13<|.nil)<|
(cd 14 .skip (.exit 0)))<|
(.seq (.block 1 (.seq (.region (some [[], [0], [], [], [0, 1, 2, 3], [0, 1, 2, 3, 4], [0, 1, 2, 3], [0, 1, 2, 3], []]) (mv 17 0<|mv 18 5<|ia 19 1 17 18<|ld 20 1 false 19<|mv 21 1<|mv 22 5<|ia 23 1 21 22<|ld 24 1 false 23<|bt 25 .neq 20 24<|.nil) [0,1,5,25] [])<|
(cd 25 (sr [4] [] (qq 4 (.mov (.c (.one (.p (.bool false)))))<|.nil)<|
.ret) .skip)))<|
(rg [0,1,5] []<|mv 15 5<|bc 16 .add 15 1<|mv 5 16<|.nil))))))<|
(sr [4] [] (qq 4 (.mov (.c (.one (.p (.bool true)))))<|.nil)<|
.ret))))
theorem pure_fullerref02_Same : PureT Try.prog fi_fullerref02_Same 26 a_fullerref02_Same [.tmp 4] := pureT_of Try.call10 Try.func10
def a_fullerref10_In : ACode := (sr [0,1] [] (qq 4 (.mov (.c (.one (.p (.bool false)))))<|.nil)<|
(.seq (sr [0,1,5] [] (mc 5 0<|.nil)<|
(.block 0 (.loop (.seq (sr [0,1,5,9] [] (mv 6 5<|mv 7 0<|le 8 7<|bt 9 .lss 6 8<|.nil)<|
(cd 9 .skip (.exit 0)))<|
(.seq (.block 1 (sr [0,1,5,17] [] (mv 12 0<|mv 13 5<|ia 14 1 12 13<|ld 15 1 false 14<|mv 16 1<|bt 17 .eql 15 16<|.nil)<|
(cd 17 (sr [4] [] (qq 4 (.mov (.c (.one (.p (.bool true)))))<|.nil)<|
.ret) .skip)))<|
(rg [0,1,5] []<|mv 10 5<|bc 11 .add 10 1<|mv 5 11<|.nil))))))<|
(sr [4] [] (qq 4 (.mov (.c (.one (.p (.bool false)))))<|.nil)<|
.ret)))
theorem pure_fullerref10_In : PureT Try.prog fi_fullerref10_In 18 a_fullerref10_In [.tmp 4] := pureT_of Try.call11 Try.func11
def a_fullerref19_Same : ACode := (sr [0,1] [] (qq 4 (.mov (.c (.one (.p (.bool false)))))<|.nil)<|
(ib [0,1,11] [] (mv 7 0<|le 8 7<|mv 9 1<|le 10 9<|bt 11 .neq 8 10<|.nil) 11 (sr [4] [] (qq 4 (.mov (.c (.one (.p (.bool false)))))<|.nil)<|
.ret)<|
(.seq (sr [0,1,5] [] (mc 5 0<|.nil)<|
(.block 0 (.loop (.seq (sr [0,1,5,15] [] (mv 12 5<|mv 13 0<|le 14 13<|bt 15 .lss 12 14<|.nil)<|
(cd 15 .skip (.exit 0)))<|
(.seq (.block 1 (.seq (.region (some [[], [0], [], [], [], [0, 1, 2, 3, 4], [0, 1, 2, 3, 4, 5], [0, 1, 2, 3, 4], [0, 1, 2, 3, 4], [0, 1, 2, 3, 4], [], []]) (mv 18 0<|mv 19 5<|ia 20 3 18 19<|fa 21 1 20<|ld 22 2 true 21<|mv 23 1<|mv 24 5<|ia 25 3 23 24<|fa 26 1 25<|ld 27 2 true 26<|cl 28 20 [22,27]<|mv 6 28<|.nil) [0,1,5,6] [])<|
(.seq (.region (some [[], [], [], [], [3], [], [], [], [3, 4, 5, 6, 7], [3, 4, 5, 6, 7, 8], [3, 4, 5, 6, 7], [3, 4, 5, 6, 7], [3, 4, 5, 6, 7], [], []]) (mv 29 6<|qq 30 (.un .not (.t 29))<|mv 31 30<|.sc 43 31 false 42 none (.op (some 32) (some (31, false)) (.q (.mov (.t 0)))<|.op (some 33) (some (31, false)) (.q (.mov (.t 5)))<|.op (some 34) (some (31, false)) (.q (.iaddr 3 (.t 32) (.t 33)))<|.op (some 35) (some (31, false)) (.q (.faddr 0 (.t 34)))<|.op (some 36) (some (31, false)) (.q (.load 1 false (.t 35)))<|.op (some 37) (some (31, false)) (.q (.mov (.t 1)))<|.op (some 38) (some (31, false)) (.q (.mov (.t 5)))<|.op (some 39) (some (31, false)) (.q (.iaddr 3 (.t 37) (.t 38)))<|.op (some 40) (some (31, false)) (.q (.faddr 0 (.t 39)))<|.op (some 41) (some (31, false)) (.q (.load 1 false (.t 40)))<|.op (some 42) (some (31, false)) (.q (.bin .neq (.t 36) (.t 41)))<|.nil)<|.nil) [0,1,5,43] [])<|
(cd 43 (sr [4] [] (qq 4 (.mov (.c (.one (.p (.bool false)))))<|.nil)<|
.ret) .skip))))<|
(rg [0,1,5] []<|mv 16 5<|bc 17 .add 16 1<|mv 5 17<|.nil))))))<|
(sr [4] [] (qq 4 (.mov (.c (.one (.p (.bool true)))))<|.nil)<|
.ret))))
theorem pure_fullerref19_Same : PureT Try.prog fi_fullerref19_Same 44 a_fullerref19_Same [.tmp 4] := pureT_of Try.call12 Try.func12
def a_optim_of : ACode := (sr [1] [1] (nn 1 (.box 4 (.t 0))<|qq 2 (.mov (.c (.one (.p .nilI))))<|.nil)<|
(.seq (.block 0 (sr [1,3] [1] (fa 4 3 1<|ld 5 1 false 4<|bc 6 .lss 5 0<|mv 3 6<|.nil)<|
(cd 3 .skip (sr [1,7] [1] (fa 8 0 1<|ld 9 1 false 8<|bc 10 .eql 9 1<|mv 7 10<|.nil)<|
(cd 7 (sr [2] [1] (qq 11 (.build [] [])<|qq 12 (.mkI 60 (.t 11))<|mv 2 12<|.nil)<|
.ret) (sr [1,13] [1] (fa 14 0 1<|ld 15 1 false 14<|bc 16 .eql 15 2<|mv 13 16<|.nil)<|
(cd 13 (sr [2] [1] (fa 17 2 1<|ld 18 1 false 17<|qq 19 (.build [(.p (.int .i64 0))] [(0, 1, (.t 18))])<|qq 20 (.mkI 50 (.t 19))<|mv 2 20<|.nil)<|
.ret) (sr [1,21] [1] (fa 22 0 1<|ld 23 1 false 22<|bc 24 .eql 23 3<|mv 21 24<|.nil)<|
(cd 21 (sr [2] [1] (fa 25 3 1<|ld 26 1 false 25<|qq 27 (.build [(.p (.int .i64 0))] [(0, 1, (.t 26))])<|qq 28 (.mkI 62 (.t 27))<|mv 2 28<|.nil)<|
.ret) .skip)))))))))<|
(sr [2] [1] (qq 2 (.mov (.c (.one (.p .nilI))))<|.nil)<|
.ret)))
theorem pure_optim_of : PureT Try.prog fi_optim_of 29 a_optim_of [.tmp 2] := pureT_of Try.call13 Try.func13
def a_optim_may : ACode := (sr [0,1] [] (qq 4 (.mov (.c (.one (.p (.bool false)))))<|.nil)<|
(sr [0,1,5] [] (mc 5 (-1)<|.nil)<|
(.seq (sr [1,5,8,9,10] [] (mv 8 0<|le 9 8<|mc 10 0<|.nil)<|
(.block 0 (.loop (sr [1,5,8,9,10,11] [] (bt 11 .lss 10 9<|.nil)<|
(.seq (cd 11 .skip (.exit 0))<|
(.seq (.block 1 (sr [1,5,7,8,9,10] [] (ia 12 1 8 10<|ld 13 1 false 12<|mv 7 13<|.nil)<|
(ib [1,7,8,9,10,21] [] (mv 14 7<|mv 15 5<|bt 16 .leq 14 15<|mv 17 16<|.sc 21 17 false 20 none (.op (some 18) (some (17, false)) (.q (.mov (.t 7)))<|.op (some 19) (some (17, false)) (.q (.mov (.t 1)))<|.op (some 20) (some (17, false)) (.q (.bin .geq (.t 18) (.t 19)))<|.nil)<|.nil) 21 (sr [4] [] (qq 4 (.mov (.c (.one (.p (.bool false)))))<|.nil)<|
.ret)<|
(rg [1,5,8,9,10] []<|mv 22 7<|mv 5 22<|.nil))))<|
(rg [1,5,8,9,10] []<|bc 23 .add 10 1<|mv 10 23<|.nil)))))))<|
(sr [4] [] (mv 24 1<|bc 25 .geq 24 0<|mv 4 25<|.nil)<|
.ret))))
theorem pure_optim_may : PureT Try.prog fi_optim_may 26 a_optim_may [.tmp 4] := pureT_of Try.call14 Try.func14
def a_optim_most : ACode := (sr [0] [] (mc 2 0<|.nil)<|
(.seq (sr [3] [] (mv 3 0<|.nil)<|
(.block 0 (sr [3,4] [] (qq 4 (.eqN 2 false (.t 3) (.c (.one (.p .nilI))))<|.nil)<|
(cd 4 (sr [2] [] (mc 2 (-1)<|.nil)<|
.ret) (sr [6] [] (qq 5 (.tas 50 true (.agg [(.p (.int .i64 0))]) (.t 3))<|xt 6 5 1<|xt 7 5 0<|.nil)<|
(cd 6 (sr [2] [] (mc 2 4<|.nil)<|
.ret) .skip))))))<|
(sr [2] [] (mc 2 8<|.nil)<|
.ret)))
theorem pure_optim_most : PureT Try.prog fi_optim_most 8 a_optim_most [.tmp 2] := pureT_of Try.call15 Try.func15
def a_slices_Clone_int_int : ACode := (sr [0] [] (qq 2 (.mov (.c (.one .nils)))<|.nil)<|
(ib [0,4] [] (mv 3 0<|qq 4 (.eqN 0 false (.t 3) (.c (.one .nils)))<|.nil) 4 (sr [2] [] (qq 2 (.mov (.c (.one .nils)))<|.nil)<|
.ret)<|
(sr [2] [5,7] (nn 5 (.lit 1 0 [(.int .i64 0)] [])<|mv 6 0<|sd 7 (.app 1 8 (.t 5) (.t 6))<|mv 2 7<|.nil)<|
.ret)))
theorem mut_slices_Clone_int_int : MutT Try.prog fi_slices_Clone_int_int 8 a_slices_Clone_int_int [.tmp 2] := mutT_of Try.call16 Try.func16
def a_optim_at : ACode := (sr [0,1,5,6] [5,6] (nn 5 (.box 2 (.t 2))<|al 6 [.nils,.nils]<|qq 7 (.mov (.c (.one (.p (.bool false)))))<|.nil)<|
(.seq (.seq (.region (some ([] :: [0] :: [0] :: [] :: [] :: [] :: [5] :: [] :: [] :: [] :: [] :: [] :: [] :: [] :: [13] :: [] :: [] :: [] :: [13, 14, 15, 16, 17] :: [13, 14, 15, 16, 17] :: [] :: [] :: [] :: [])) (mv 8 1<|mv 9 0<|le 10 9<|bt 11 .geq 8 10<|mv 12 11<|.sc 19 12 false 18 none (.op (some 13) (some (12, false)) (.q (.mov (.t 0)))<|.op (some 14) (some (12, false)) (.q (.mov (.t 1)))<|.op (some 15) (some (12, false)) (.q (.iaddr 2 (.t 13) (.t 14)))<|.op (some 16) (some (12, false)) (.q (.load 2 true (.t 15)))<|.op (some 17) (some (12, false)) (.call (.c (.one (.p (.fn fi_tensor_Check [] [])))) [(.t 16)])<|.op (some 18) (some (12, false)) (.q (.un .not (.t 17)))<|.nil)<|mv 20 19<|.sc 30 20 false 29 none (.op (some 21) (some (20, false)) (.q (.mov (.t 0)))<|.op (some 22) (some (20, false)) (.q (.mov (.t 1)))<|.op (some 23) (some (20, false)) (.q (.iaddr 2 (.t 21) (.t 22)))<|.op (some 24) (some (20, false)) (.q (.faddr 0 (.t 23)))<|.op (some 25) (some (20, false)) (.q (.load 1 false (.t 24)))<|.op (some 26) (some (20, false)) (.q (.faddr 0 (.t 5)))<|.op (some 27) (some (20, false)) (.q (.load 1 false (.t 26)))<|.op (some 28) (some (20, false)) (.call (.c (.one (.p (.fn fi_slices_Equal_int_int [] [])))) [(.t 25),(.t 27)])<|.op (some 29) (some (20, false)) (.q (.un .not (.t 28)))<|.nil)<|.nil) [0,1,6,30] [5,6])<|
(cd 30 (sr [6,7] [5,6] (qq 31 (.build [.nils,.nils] [])<|st 2 6 31<|qq 7 (.mov (.c (.one (.p (.bool false)))))<|.nil)<|
.ret) .skip))<|
(sr [6,7] [5,6] (mv 32 0<|mv 33 1<|ia 34 2 32 33<|ld 35 2 true 34<|st 2 6 35<|qq 7 (.mov (.c (.one (.p (.bool true)))))<|.nil)<|
.ret)))
theorem pure_optim_at : PureT Try.prog fi_optim_at 36 a_optim_at [.cell 2 true 6,.tmp 7] := pureT_of Try.call17 Try.func17
def a_optim_by : ACode := (sr [1,2,4] [2,4] (nn 2 (.box 2 (.t 0))<|al 4 [.nils,.nils]<|mc 5 0<|.nil)<|
(sr [4,5] [2,4,8] (ld 6 2 true 2<|mv 7 1<|nn 8 (.lit 1 1 [(.int .i64 0)] [(0, (.t 7))])<|qq 9 (.build [.nils,.nils] [(1, 1, (.t 8))])<|.op (some 10) none (.call (.c (.one (.p (.fn fi_elem_Two [] [])))) [(ic 12),(.t 6),(.t 9)])<|xt 11 10 0<|xt 12 10 1<|st 2 4 11<|mv 5 12<|.nil)<|
.ret))
theorem pure_optim_by : PureT Try.prog fi_optim_by 13 a_optim_by [.cell 2 true 4,.tmp 5] := pureT_of Try.call18 Try.func18
def a_elem_Two : ACode := (sr [0,4,5,6] [4,5,6] (nn 4 (.box 2 (.t 1))<|nn 5 (.box 2 (.t 2))<|al 6 [.nils,.nils]<|mc 7 0<|.nil)<|
(sr [4,5,6,8] [4,5,6,8] (cl 15 23 []<|mv 16 0<|qq 17 (.mget (.agg [(.p .nilF),(.p .nilF)]) false (.t 15) (.t 16))<|al 8 [(.p .nilF),(.p .nilF)]<|st 2 8 17<|.nil)<|
(.seq (.block 0 (sr [4,5,6,8,18] [4,5,6,8] (fa 19 1 8<|ld 20 1 false 19<|qq 21 (.eqN 1 false (.t 20) (.c (.one (.p .nilF))))<|mv 18 21<|.nil)<|
(cd 18 (sr [6,7] [4,5,6,8] (qq 22 (.build [.nils,.nils] [])<|st 2 6 22<|mc 7 1<|.nil)<|
.ret) (sr [4,5,6,8,23] [4,5,6,8] (ld 24 2 true 4<|cl 25 21 [24]<|qq 26 (.un .not (.t 25))<|mv 27 26<|.sc 31 27 false 30 none (.op (some 28) (some (27, false)) (.q (.load 2 true (.t 5)))<|.op (some 29) (some (27, false)) (.call (.c (.one (.p (.fn fi_tensor_Check [] [])))) [(.t 28)])<|.op (some 30) (some (27, false)) (.q (.un .not (.t 29)))<|.nil)<|mv 23 31<|.nil)<|
(cd 23 (sr [6,7] [4,5,6,8] (qq 32 (.build [.nils,.nils] [])<|st 2 6 32<|mc 7 30<|.nil)<|
.ret) .skip)))))<|
(sr [4,5,6,8,9,10] [4,5,6,8] (fa 34 0 4<|ld 35 1 false 34<|fa 36 0 5<|ld 37 1 false 36<|cl 38 24 [35,37]<|mv 33 38<|xt 39 33 0<|xt 40 33 1<|mv 9 39<|mv 10 40<|.nil)<|
(ib [4,5,6,8,9,10,42] [4,5,6,8] (mv 41 10<|bc 42 .neq 41 0<|.nil) 42 (sr [6,7] [4,5,6,8] (qq 43 (.build [.nils,.nils] [])<|mv 44 10<|st 2 6 43<|mv 7 44<|.nil)<|
.ret)<|
(sr [5,6,8,9,11] [4,5,6,8,11] (ld 46 2 true 4<|mv 47 9<|cl 48 25 [46,47]<|mv 45 48<|xt 49 45 0<|xt 50 45 1<|al 11 [.nils,.nils]<|st 2 11 49<|mv 12 50<|.nil)<|
(sr [6,8,9,11,13] [4,5,6,8,11,13] (ld 52 2 true 5<|mv 53 9<|cl 54 25 [52,53]<|mv 51 54<|xt 55 51 0<|xt 56 51 1<|al 13 [.nils,.nils]<|st 2 13 55<|mv 14 56<|.nil)<|
(sr [6,7] [4,5,6,8,11,13] (mv 57 9<|qq 58 (.mkF fi_elem_Two_1 [] [(.t 8),(.t 11),(.t 13)])<|cl 59 26 [57,58]<|xt 60 59 0<|xt 61 59 1<|st 2 6 60<|mv 7 61<|.nil)<|
.ret))))))))
theorem pure_elem_Two : PureT Try.prog fi_elem_Two 62 a_elem_Two [.cell 2 true 6,.tmp 7] := pureT_of Try.call19 Try.func19
def a_fullerref03_Same : ACode := (sr [2,3] [2,3] (nn 2 (.box 2 (.t 0))<|nn 3 (.box 2 (.t 1))<|qq 4 (.mov (.c (.one (.p (.bool false)))))<|.nil)<|
(sr [2,3,5] [2,3] (fa 6 0 2<|ld 7 1 false 6<|fa 8 0 3<|ld 9 1 false 8<|cl 10 10 [7,9]<|mv 5 10<|.nil)<|
(sr [4] [2,3] (mv 11 5<|mv 12 11<|.sc 18 12 true 17 none (.op (some 13) (some (12, true)) (.q (.faddr 1 (.t 2)))<|.op (some 14) (some (12, true)) (.q (.load 1 false (.t 13)))<|.op (some 15) (some (12, true)) (.q (.faddr 1 (.t 3)))<|.op (some 16) (some (12, true)) (.q (.load 1 false (.t 15)))<|.op (some 17) (some (12, true)) (.call (.c (.one (.p (.fn fi_fullerref02_Same [] [])))) [(.t 14),(.t 16)])<|.nil)<|mv 4 18<|.nil)<|
.ret)))
theorem pure_fullerref03_Same : PureT Try.prog fi_fullerref03_Same 19 a_fullerref03_Same [.tmp 4] := pureT_of Try.call20 Try.func20
def a_tensor_Check : ACode := (sr [1] [1] (nn 1 (.box 2 (.t 0))<|qq 2 (.mov (.c (.one (.p (.bool false)))))<|.nil)<|
(.seq (.region (some [[], [], [], [], [], [], [], [4, 5, 6], [4, 5, 6], [4, 5, 6], [], [], []]) (fa 3 0 1<|ld 4 1 false 3<|cl 5 28 [4]<|mv 6 5<|.sc 14 6 true 13 none (.op (some 7) (some (6, true)) (.q (.faddr 1 (.t 1)))<|.op (some 8) (some (6, true)) (.q (.load 1 false (.t 7)))<|.op (some 9) (some (6, true)) (.q (.len (.t 8)))<|.op (some 10) (some (6, true)) (.q (.faddr 0 (.t 1)))<|.op (some 11) (some (6, true)) (.q (.load 1 false (.t 10)))<|.op (some 12) (some (6, true)) (.call (.c (.one (.p (.fn fi_shape_Size [] [])))) [(.t 11)])<|.op (some 13) (some (6, true)) (.q (.bin .eql (.t 9) (.t 12)))<|.nil)<|mv 2 14<|.nil) [2] [1])<|
.ret))
theorem pure_tensor_Check : PureT Try.prog fi_tensor_Check 15 a_tensor_Check [.tmp 2] := pureT_of Try.call21 Try.func21
def a_slices_Equal_int_int : ACode := (sr [0,1] [] (qq 4 (.mov (.c (.one (.p (.bool false)))))<|.nil)<|
(ib [0,1,10] [] (mv 6 0<|le 7 6<|mv 8 1<|le 9 8<|bt 10 .neq 7 9<|.nil) 10 (sr [4] [] (qq 4 (.mov (.c (.one (.p (.bool false)))))<|.nil)<|
.ret)<|
(.seq (sr [0,1,12,13] [] (mv 11 0<|le 12 11<|mc 13 0<|.nil)<|
(.block 0 (.loop (sr [0,1,12,13,14] [] (bt 14 .lss 13 12<|.nil)<|
(.seq (cd 14 .skip (.exit 0))<|
(.seq (.block 1 (sr [0,1,5,12,13] [] (mv 15 13<|mv 5 15<|.nil)<|
(.seq (.region (some [[], [0], [], [], [0, 1, 2, 3], [0, 1, 2, 3, 4], [0, 1, 2, 3], [0, 1, 2, 3], []]) (mv 16 0<|mv 17 5<|ia 18 1 16 17<|ld 19 1 false 18<|mv 20 1<|mv 21 5<|ia 22 1 20 21<|ld 23 1 false 22<|bt 24 .neq 19 23<|.nil) [0,1,12,13,24] [])<|
(cd 24 (sr [4] [] (qq 4 (.mov (.c (.one (.p (.bool false)))))<|.nil)<|
.ret) .skip))))<|
(rg [0,1,12,13] []<|bc 25 .add 13 1<|mv 13 25<|.nil)))))))<|
(sr [4] [] (qq 4 (.mov (.c (.one (.p (.bool true)))))<|.nil)<|
.ret))))
theorem pure_slices_Equal_int_int : PureT Try.prog fi_slices_Equal_int_int 26 a_slices_Equal_int_int [.tmp 4] := pureT_of Try.call22 Try.func22
end Go.AM
