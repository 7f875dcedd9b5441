import Derived.Test.YtcmbjbmghoopcaaMv2
import Derived.Test.YtcmbjbmghoopcaaProg
import Derived.KernelRfl
set_option linter.unusedVariables false
set_option linter.unusedSimpArgs false
namespace Go.AM
open Go Go.Proofs
set_option maxRecDepth 100000
abbrev fi_fullerlaw06_ReduceTwice : Nat := 17
abbrev fi_fullerlaw06_ReduceParts : Nat := 18
abbrev fi_fullerref03_Few : Nat := 20
abbrev fi_fullerref03_Same : Nat := 23
abbrev fi_tensor_Check : Nat := 28
abbrev fi_tensor_Full : Nat := 31
abbrev fi_fix_Mul : Nat := 32
abbrev fi_move_Slice : Nat := 34
abbrev fi_reduce_Sum : Nat := 35
abbrev fi_fullerref02_Same : Nat := 36
abbrev fi_elem_Two : Nat := 40
abbrev fi_tensor_Spread : Nat := 42
abbrev fi_shape_Join : Nat := 43
abbrev fi_fullerlaw06_awake : Nat := 44
abbrev fi_reduce_Mean : Nat := 46
abbrev fi_reduce_Max : Nat := 48
abbrev fi_reduce_First : Nat := 50
abbrev fi_reduce_Grow : Nat := 52
abbrev fi_shape_Check : Nat := 55
abbrev fi_fix_Add : Nat := 58
abbrev fi_shape_Size : Nat := 64
abbrev fi_move_made : Nat := 65
abbrev fi_tensor_At : Nat := 68
abbrev fi_slices_Clone_int_int : Nat := 69
abbrev fi_slices_Repeat_int_int : Nat := 70
abbrev fi_math_bits_Mul64 : Nat := 71
abbrev fi_fix_size : Nat := 72
abbrev fi_fix_wide_signed : Nat := 73
abbrev fi_fix_apart : Nat := 74
abbrev fi_slices_Equal_int_int : Nat := 75
abbrev fi_move_sided : Nat := 76
abbrev fi_move_shifted : Nat := 78
abbrev fi_move_Slice_1 : Nat := 79
abbrev fi_reduce_together : Nat := 80
abbrev fi_reduce_done : Nat := 81
abbrev fi_reduce_none : Nat := 82
abbrev fi_elem_kinds : Nat := 83
abbrev fi_elem_each : Nat := 84
abbrev fi_elem_Two_1 : Nat := 87
abbrev fi_shape_Fits : Nat := 91
abbrev fi_tensor_from : Nat := 92
abbrev fi_shape_side : Nat := 93
abbrev fi_reduce_share : Nat := 99
abbrev fi_reduce_most : Nat := 101
abbrev fi_reduce_same : Nat := 102
abbrev fi_reduce_lanes : Nat := 104
abbrev fi_reduce_lane_at : Nat := 105
abbrev fi_slices_Insert_int_int : Nat := 108
abbrev fi_fix_told : Nat := 111
abbrev fi_move_indices : Nat := 116
abbrev fi_shape_Place : Nat := 118
abbrev fi_math_bits_Mul : Nat := 119
abbrev fi_fix_wide_signed_1 : Nat := 120
abbrev fi_slices_Delete_int_int : Nat := 122
abbrev fi_elem_kinds_1 : Nat := 123
abbrev fi_fix_Sub : Nat := 124
abbrev fi_fix_Div : Nat := 125
abbrev fi_fix_Neg : Nat := 126
abbrev fi_fix_Pow : Nat := 127
abbrev fi_fix_Sqrt : Nat := 128
abbrev fi_tensor_from_1 : Nat := 136
abbrev fi_shape_Index : Nat := 137
abbrev fi_move_indices_1 : Nat := 144
abbrev fi_math_bits_Div64 : Nat := 146
abbrev fi_math_bits_LeadingZeros64 : Nat := 152
abbrev fi_math_bits_Len64 : Nat := 153
def a_fullerlaw06_ReduceTwice : ACode := (sr [1] [1] (nn 1 (.box 2 (.t 0))<|qq 2 (.mov (.c (.one (.p (.bool false)))))<|.nil)<|
(sr [1,3] [1] (cl 22 44 []<|mv 3 22<|.nil)<|
(ib [1,3,36] [1] (ld 23 2 true 1<|cl 24 20 [23]<|qq 25 (.un .not (.t 24))<|mv 26 25<|.sc 30 26 false 29 none (.op (some 27) (some (26, false)) (.q (.load 2 true (.t 1)))<|.op (some 28) (some (26, false)) (.call (.c (.one (.p (.fn fi_tensor_Check [] [])))) [(.t 27)])<|.op (some 29) (some (26, false)) (.q (.un .not (.t 28)))<|.nil)<|mv 31 30<|.sc 36 31 false 35 none (.op (some 32) (some (31, false)) (.q (.faddr 0 (.t 1)))<|.op (some 33) (some (31, false)) (.q (.load 1 false (.t 32)))<|.op (some 34) (some (31, false)) (.q (.len (.t 33)))<|.op (some 35) (some (31, false)) (.q (.bin .neq (.t 34) (ic 2)))<|.nil)<|.nil) 36 (sr [2] [1] (mv 37 3<|mv 2 37<|.nil)<|
.ret)<|
(.seq (sr [1,3,4] [1] (mc 4 0<|.nil)<|
(.block 0 (.loop (.seq (sr [1,3,4,42] [1] (mv 38 4<|fa 39 1 1<|ld 40 1 false 39<|le 41 40<|bt 42 .lss 38 41<|.nil)<|
(cd 42 .skip (.exit 0)))<|
(.seq (.block 1 (sr [1,3,4,58] [1] (fa 45 1 1<|ld 46 1 false 45<|mv 47 4<|ia 48 1 46 47<|ld 49 1 false 48<|bc 50 .lss 49 (-1099511627776)<|mv 51 50<|.sc 58 51 false 57 none (.op (some 52) (some (51, false)) (.q (.faddr 1 (.t 1)))<|.op (some 53) (some (51, false)) (.q (.load 1 false (.t 52)))<|.op (some 54) (some (51, false)) (.q (.mov (.t 4)))<|.op (some 55) (some (51, false)) (.q (.iaddr 1 (.t 53) (.t 54)))<|.op (some 56) (some (51, false)) (.q (.load 1 false (.t 55)))<|.op (some 57) (some (51, false)) (.q (.bin .gtr (.t 56) (ic 1099511627776)))<|.nil)<|.nil)<|
(cd 58 (sr [2] [1] (mv 59 3<|mv 2 59<|.nil)<|
.ret) .skip)))<|
(rg [1,3,4] [1]<|mv 43 4<|bc 44 .add 43 1<|mv 4 44<|.nil))))))<|
(sr [1,3,5,6] [1,5] (ld 61 2 true 1<|.op (some 62) none (.call (.c (.one (.p (.fn fi_reduce_Sum [] [])))) [(.t 61),(ic 0)])<|mv 60 62<|xt 63 60 0<|xt 64 60 1<|al 5 [.nils,.nils]<|st 2 5 63<|mv 6 64<|.nil)<|
(sr [1,3,6,7,8] [1,5,7] (ld 66 2 true 5<|.op (some 67) none (.call (.c (.one (.p (.fn fi_reduce_Sum [] [])))) [(.t 66),(ic 0)])<|mv 65 67<|xt 68 65 0<|xt 69 65 1<|al 7 [.nils,.nils]<|st 2 7 68<|mv 8 69<|.nil)<|
(sr [1,3,6,7,8,9,10] [1,5,7,9] (ld 71 2 true 1<|.op (some 72) none (.call (.c (.one (.p (.fn fi_reduce_Sum [] [])))) [(.t 71),(ic 1)])<|mv 70 72<|xt 73 70 0<|xt 74 70 1<|al 9 [.nils,.nils]<|st 2 9 73<|mv 10 74<|.nil)<|
(sr [1,3,6,7,8,10,11,12] [1,5,7,9,11] (ld 76 2 true 9<|.op (some 77) none (.call (.c (.one (.p (.fn fi_reduce_Sum [] [])))) [(.t 76),(ic 0)])<|mv 75 77<|xt 78 75 0<|xt 79 75 1<|al 11 [.nils,.nils]<|st 2 11 78<|mv 12 79<|.nil)<|
(sr [1,3,6,7,8,10,11,12,13,14] [1,5,7,9,11,13] (ld 81 2 true 1<|.op (some 82) none (.call (.c (.one (.p (.fn fi_reduce_Max [] [])))) [(.t 81),(ic 0)])<|mv 80 82<|xt 83 80 0<|xt 84 80 1<|al 13 [.nils,.nils]<|st 2 13 83<|mv 14 84<|.nil)<|
(sr [1,3,6,7,8,10,11,12,14,15,16] [1,5,7,9,11,13,15] (ld 86 2 true 13<|.op (some 87) none (.call (.c (.one (.p (.fn fi_reduce_Max [] [])))) [(.t 86),(ic 0)])<|mv 85 87<|xt 88 85 0<|xt 89 85 1<|al 15 [.nils,.nils]<|st 2 15 88<|mv 16 89<|.nil)<|
(sr [3,6,7,8,10,11,12,14,15,16,17,18] [1,5,7,9,11,13,15,17] (ld 91 2 true 1<|.op (some 92) none (.call (.c (.one (.p (.fn fi_reduce_Max [] [])))) [(.t 91),(ic 1)])<|mv 90 92<|xt 93 90 0<|xt 94 90 1<|al 17 [.nils,.nils]<|st 2 17 93<|mv 18 94<|.nil)<|
(sr [3,6,7,8,10,11,12,14,15,16,18,19,20] [1,5,7,9,11,13,15,17,19] (ld 96 2 true 17<|.op (some 97) none (.call (.c (.one (.p (.fn fi_reduce_Max [] [])))) [(.t 96),(ic 0)])<|mv 95 97<|xt 98 95 0<|xt 99 95 1<|al 19 [.nils,.nils]<|st 2 19 98<|mv 20 99<|.nil)<|
(sr [3,7,11,15,19,21] [1,5,7,9,11,13,15,17,19] (mv 100 6<|bc 101 .eql 100 0<|mv 102 101<|.sc 105 102 true 104 none (.op (some 103) (some (102, true)) (.q (.mov (.t 8)))<|.op (some 104) (some (102, true)) (.q (.bin .eql (.t 103) (ic 0)))<|.nil)<|mv 106 105<|.sc 109 106 true 108 none (.op (some 107) (some (106, true)) (.q (.mov (.t 10)))<|.op (some 108) (some (106, true)) (.q (.bin .eql (.t 107) (ic 0)))<|.nil)<|mv 110 109<|.sc 113 110 true 112 none (.op (some 111) (some (110, true)) (.q (.mov (.t 12)))<|.op (some 112) (some (110, true)) (.q (.bin .eql (.t 111) (ic 0)))<|.nil)<|mv 114 113<|.sc 117 114 true 116 none (.op (some 115) (some (114, true)) (.q (.mov (.t 14)))<|.op (some 116) (some (114, true)) (.q (.bin .eql (.t 115) (ic 0)))<|.nil)<|mv 118 117<|.sc 121 118 true 120 none (.op (some 119) (some (118, true)) (.q (.mov (.t 16)))<|.op (some 120) (some (118, true)) (.q (.bin .eql (.t 119) (ic 0)))<|.nil)<|mv 122 121<|.sc 125 122 true 124 none (.op (some 123) (some (122, true)) (.q (.mov (.t 18)))<|.op (some 124) (some (122, true)) (.q (.bin .eql (.t 123) (ic 0)))<|.nil)<|mv 126 125<|.sc 129 126 true 128 none (.op (some 127) (some (126, true)) (.q (.mov (.t 20)))<|.op (some 128) (some (126, true)) (.q (.bin .eql (.t 127) (ic 0)))<|.nil)<|mv 21 129<|.nil)<|
(sr [2] [1,5,7,9,11,13,15,17,19] (mv 130 3<|mv 131 130<|.sc 133 131 true 132 none (.op (some 132) (some (131, true)) (.q (.mov (.t 21)))<|.nil)<|mv 134 133<|.sc 138 134 true 137 none (.op (some 135) (some (134, true)) (.q (.load 2 true (.t 7)))<|.op (some 136) (some (134, true)) (.q (.load 2 true (.t 11)))<|.op (some 137) (some (134, true)) (.call (.c (.one (.p (.fn fi_fullerref03_Same [] [])))) [(.t 135),(.t 136)])<|.nil)<|mv 139 138<|.sc 143 139 true 142 none (.op (some 140) (some (139, true)) (.q (.load 2 true (.t 15)))<|.op (some 141) (some (139, true)) (.q (.load 2 true (.t 19)))<|.op (some 142) (some (139, true)) (.call (.c (.one (.p (.fn fi_fullerref03_Same [] [])))) [(.t 140),(.t 141)])<|.nil)<|mv 144 143<|.sc 149 144 true 148 none (.op (some 145) (some (144, true)) (.q (.faddr 0 (.t 7)))<|.op (some 146) (some (144, true)) (.q (.load 1 false (.t 145)))<|.op (some 147) (some (144, true)) (.q (.len (.t 146)))<|.op (some 148) (some (144, true)) (.q (.bin .eql (.t 147) (ic 0)))<|.nil)<|mv 2 149<|.nil)<|
.ret))))))))))))))
theorem pure_fullerlaw06_ReduceTwice : PureT Try.prog fi_fullerlaw06_ReduceTwice 150 a_fullerlaw06_ReduceTwice [.tmp 2] := pureT_of Try.call17 Try.func17
def a_fullerlaw06_ReduceParts : ACode := (sr [1,2,3] [3] (nn 3 (.box 2 (.t 0))<|qq 6 (.mov (.c (.one (.p (.bool false)))))<|.nil)<|
(sr [1,2,3,7] [3] (cl 30 44 []<|mv 7 30<|.nil)<|
(ib [1,2,3,7,57] [3] (ld 31 2 true 3<|cl 32 20 [31]<|qq 33 (.un .not (.t 32))<|mv 34 33<|.sc 38 34 false 37 none (.op (some 35) (some (34, false)) (.q (.load 2 true (.t 3)))<|.op (some 36) (some (34, false)) (.call (.c (.one (.p (.fn fi_tensor_Check [] [])))) [(.t 35)])<|.op (some 37) (some (34, false)) (.q (.un .not (.t 36)))<|.nil)<|mv 39 38<|.sc 42 39 false 41 none (.op (some 40) (some (39, false)) (.q (.mov (.t 1)))<|.op (some 41) (some (39, false)) (.q (.bin .lss (.t 40) (ic 0)))<|.nil)<|mv 43 42<|.sc 49 43 false 48 none (.op (some 44) (some (43, false)) (.q (.mov (.t 1)))<|.op (some 45) (some (43, false)) (.q (.faddr 0 (.t 3)))<|.op (some 46) (some (43, false)) (.q (.load 1 false (.t 45)))<|.op (some 47) (some (43, false)) (.q (.len (.t 46)))<|.op (some 48) (some (43, false)) (.q (.bin .geq (.t 44) (.t 47)))<|.nil)<|mv 50 49<|.sc 57 50 false 56 none (.op (some 51) (some (50, false)) (.q (.faddr 0 (.t 3)))<|.op (some 52) (some (50, false)) (.q (.load 1 false (.t 51)))<|.op (some 53) (some (50, false)) (.q (.mov (.t 1)))<|.op (some 54) (some (50, false)) (.q (.iaddr 1 (.t 52) (.t 53)))<|.op (some 55) (some (50, false)) (.q (.load 1 false (.t 54)))<|.op (some 56) (some (50, false)) (.q (.bin .lss (.t 55) (ic 2)))<|.nil)<|.nil) 57 (sr [6] [3] (mv 58 7<|mv 6 58<|.nil)<|
.ret)<|
(.seq (sr [1,2,3,7,8] [3] (mc 8 0<|.nil)<|
(.block 0 (.loop (.seq (sr [1,2,3,7,8,63] [3] (mv 59 8<|fa 60 1 3<|ld 61 1 false 60<|le 62 61<|bt 63 .lss 59 62<|.nil)<|
(cd 63 .skip (.exit 0)))<|
(.seq (.block 1 (sr [1,2,3,7,8,79] [3] (fa 66 1 3<|ld 67 1 false 66<|mv 68 8<|ia 69 1 67 68<|ld 70 1 false 69<|bc 71 .lss 70 (-1099511627776)<|mv 72 71<|.sc 79 72 false 78 none (.op (some 73) (some (72, false)) (.q (.faddr 1 (.t 3)))<|.op (some 74) (some (72, false)) (.q (.load 1 false (.t 73)))<|.op (some 75) (some (72, false)) (.q (.mov (.t 8)))<|.op (some 76) (some (72, false)) (.q (.iaddr 1 (.t 74) (.t 75)))<|.op (some 77) (some (72, false)) (.q (.load 1 false (.t 76)))<|.op (some 78) (some (72, false)) (.q (.bin .gtr (.t 77) (ic 1099511627776)))<|.nil)<|.nil)<|
(cd 79 (sr [6] [3] (mv 80 7<|mv 6 80<|.nil)<|
.ret) .skip)))<|
(rg [1,2,3,7,8] [3]<|mv 64 8<|bc 65 .add 64 1<|mv 8 65<|.nil))))))<|
(sr [1,3,7,9] [3] (mv 81 2<|qq 82 (.conv .i64 (.t 81))<|fa 83 0 3<|ld 84 1 false 83<|mv 85 1<|ia 86 1 84 85<|ld 87 1 false 86<|bc 88 .sub 87 1<|bt 89 .rem 82 88<|qq 90 (.bin .add (ic 1) (.t 89))<|mv 9 90<|.nil)<|
(sr [1,3,7,9,10,11] [3,10] (ld 92 2 true 3<|mv 93 1<|mv 94 9<|.op (some 95) none (.call (.c (.one (.p (.fn fi_move_Slice [] [])))) [(.t 92),(.t 93),(ic 0),(.t 94)])<|mv 91 95<|xt 96 91 0<|xt 97 91 1<|al 10 [.nils,.nils]<|st 2 10 96<|mv 11 97<|.nil)<|
(.seq (.region (some [[], [0], [0, 1], [0, 1, 2], [0, 1, 2], [0, 1, 2, 3, 4], [0, 1, 2], [0, 1, 2], [], [], [], [10], [0, 1, 2, 3, 4, 5, 6, 7, 8, 9, 10, 11], [11], []]) (ld 99 2 true 3<|mv 100 1<|mv 101 9<|fa 102 0 3<|ld 103 1 false 102<|mv 104 1<|ia 105 1 103 104<|ld 106 1 false 105<|cl 107 34 [99,100,101,106]<|mv 98 107<|xt 108 98 0<|xt 109 98 1<|al 12 [.nils,.nils]<|st 2 12 108<|mv 13 109<|.nil) [1,3,7,10,11,12,13] [3,10,12])<|
(sr [1,3,7,10,11,12,13,14,15] [3,10,12,14] (ld 111 2 true 10<|mv 112 1<|cl 113 35 [111,112]<|mv 110 113<|xt 114 110 0<|xt 115 110 1<|al 14 [.nils,.nils]<|st 2 14 114<|mv 15 115<|.nil)<|
(sr [1,3,7,10,11,12,13,14,15,16,17] [3,10,12,14,16] (ld 117 2 true 12<|mv 118 1<|cl 119 35 [117,118]<|mv 116 119<|xt 120 116 0<|xt 121 116 1<|al 16 [.nils,.nils]<|st 2 16 120<|mv 17 121<|.nil)<|
(sr [1,3,7,10,11,12,13,14,15,16,17,18,19] [3,10,12,14,16,18] (ld 123 2 true 3<|mv 124 1<|cl 125 35 [123,124]<|mv 122 125<|xt 126 122 0<|xt 127 122 1<|al 18 [.nils,.nils]<|st 2 18 126<|mv 19 127<|.nil)<|
(sr [1,3,7,10,11,12,13,15,17,18,19,20,21] [3,10,12,14,16,18,20] (ld 129 2 true 14<|ld 130 2 true 16<|.op (some 131) none (.call (.c (.one (.p (.fn fi_elem_Two [] [])))) [(ic 10),(.t 129),(.t 130)])<|mv 128 131<|xt 132 128 0<|xt 133 128 1<|al 20 [.nils,.nils]<|st 2 20 132<|mv 21 133<|.nil)<|
(sr [1,3,7,11,12,13,15,17,18,19,20,21,22,23] [3,10,12,14,16,18,20,22] (ld 135 2 true 10<|mv 136 1<|cl 137 48 [135,136]<|mv 134 137<|xt 138 134 0<|xt 139 134 1<|al 22 [.nils,.nils]<|st 2 22 138<|mv 23 139<|.nil)<|
(sr [1,3,7,11,13,15,17,18,19,20,21,22,23,24,25] [3,10,12,14,16,18,20,22,24] (ld 141 2 true 12<|mv 142 1<|cl 143 48 [141,142]<|mv 140 143<|xt 144 140 0<|xt 145 140 1<|al 24 [.nils,.nils]<|st 2 24 144<|mv 25 145<|.nil)<|
(sr [7,11,13,15,17,18,19,20,21,22,23,24,25,26,27] [3,10,12,14,16,18,20,22,24,26] (ld 147 2 true 3<|mv 148 1<|cl 149 48 [147,148]<|mv 146 149<|xt 150 146 0<|xt 151 146 1<|al 26 [.nils,.nils]<|st 2 26 150<|mv 27 151<|.nil)<|
(sr [7,18,20,22,24,26,28] [3,10,12,14,16,18,20,22,24,26] (mv 152 11<|bc 153 .eql 152 0<|mv 154 153<|.sc 157 154 true 156 none (.op (some 155) (some (154, true)) (.q (.mov (.t 13)))<|.op (some 156) (some (154, true)) (.q (.bin .eql (.t 155) (ic 0)))<|.nil)<|mv 158 157<|.sc 161 158 true 160 none (.op (some 159) (some (158, true)) (.q (.mov (.t 15)))<|.op (some 160) (some (158, true)) (.q (.bin .eql (.t 159) (ic 0)))<|.nil)<|mv 162 161<|.sc 165 162 true 164 none (.op (some 163) (some (162, true)) (.q (.mov (.t 17)))<|.op (some 164) (some (162, true)) (.q (.bin .eql (.t 163) (ic 0)))<|.nil)<|mv 166 165<|.sc 169 166 true 168 none (.op (some 167) (some (166, true)) (.q (.mov (.t 19)))<|.op (some 168) (some (166, true)) (.q (.bin .eql (.t 167) (ic 0)))<|.nil)<|mv 170 169<|.sc 173 170 true 172 none (.op (some 171) (some (170, true)) (.q (.mov (.t 21)))<|.op (some 172) (some (170, true)) (.q (.bin .eql (.t 171) (ic 0)))<|.nil)<|mv 174 173<|.sc 177 174 true 176 none (.op (some 175) (some (174, true)) (.q (.mov (.t 23)))<|.op (some 176) (some (174, true)) (.q (.bin .eql (.t 175) (ic 0)))<|.nil)<|mv 178 177<|.sc 181 178 true 180 none (.op (some 179) (some (178, true)) (.q (.mov (.t 25)))<|.op (some 180) (some (178, true)) (.q (.bin .eql (.t 179) (ic 0)))<|.nil)<|mv 182 181<|.sc 185 182 true 184 none (.op (some 183) (some (182, true)) (.q (.mov (.t 27)))<|.op (some 184) (some (182, true)) (.q (.bin .eql (.t 183) (ic 0)))<|.nil)<|mv 28 185<|.nil)<|
(ib [7,18,20,22,24,26,205] [3,10,12,14,16,18,20,22,24,26] (mv 186 28<|qq 187 (.un .not (.t 186))<|mv 188 187<|.sc 196 188 false 195 none (.op (some 189) (some (188, false)) (.q (.faddr 1 (.t 22)))<|.op (some 190) (some (188, false)) (.q (.load 1 false (.t 189)))<|.op (some 191) (some (188, false)) (.q (.len (.t 190)))<|.op (some 192) (some (188, false)) (.q (.faddr 1 (.t 26)))<|.op (some 193) (some (188, false)) (.q (.load 1 false (.t 192)))<|.op (some 194) (some (188, false)) (.q (.len (.t 193)))<|.op (some 195) (some (188, false)) (.q (.bin .neq (.t 191) (.t 194)))<|.nil)<|mv 197 196<|.sc 205 197 false 204 none (.op (some 198) (some (197, false)) (.q (.faddr 1 (.t 24)))<|.op (some 199) (some (197, false)) (.q (.load 1 false (.t 198)))<|.op (some 200) (some (197, false)) (.q (.len (.t 199)))<|.op (some 201) (some (197, false)) (.q (.faddr 1 (.t 26)))<|.op (some 202) (some (197, false)) (.q (.load 1 false (.t 201)))<|.op (some 203) (some (197, false)) (.q (.len (.t 202)))<|.op (some 204) (some (197, false)) (.q (.bin .neq (.t 200) (.t 203)))<|.nil)<|.nil) 205 (sr [6] [3,10,12,14,16,18,20,22,24,26] (qq 6 (.mov (.c (.one (.p (.bool false)))))<|.nil)<|
.ret)<|
(.seq (sr [7,18,20,22,24,26,29] [3,10,12,14,16,18,20,22,24,26] (mc 29 0<|.nil)<|
(.block 2 (.loop (.seq (sr [7,18,20,22,24,26,29,210] [3,10,12,14,16,18,20,22,24,26] (mv 206 29<|fa 207 1 26<|ld 208 1 false 207<|le 209 208<|bt 210 .lss 206 209<|.nil)<|
(cd 210 .skip (.exit 2)))<|
(.seq (.block 3 (.seq (.region (some [[], [], [0, 1], [], [], [0, 1, 2, 3, 4], [0, 1, 2, 3, 4], [0, 1, 2, 3, 4, 5, 6], [0, 1, 2, 3, 4], [0, 1, 2, 3, 4], [0, 1, 2, 3, 4, 5, 6, 7, 8, 9], [0, 1, 2, 3, 4, 5, 6, 7, 8, 9], [0, 1, 2, 3, 4, 5, 6, 7, 8, 9, 10, 11], [0, 1, 2, 3, 4, 5, 6, 7, 8, 9], [0, 1, 2, 3, 4, 5, 6, 7, 8, 9], [0, 1, 2, 3, 4], []]) (fa 213 1 26<|ld 214 1 false 213<|mv 215 29<|ia 216 1 214 215<|ld 217 1 false 216<|fa 218 1 22<|ld 219 1 false 218<|mv 220 29<|ia 221 1 219 220<|ld 222 1 false 221<|fa 223 1 24<|ld 224 1 false 223<|mv 225 29<|ia 226 1 224 225<|ld 227 1 false 226<|qq 228 (.mm true (.t 222) (.t 227))<|bt 229 .neq 217 228<|.nil) [7,18,20,22,24,26,29,229] [3,10,12,14,16,18,20,22,24,26])<|
(cd 229 (sr [6] [3,10,12,14,16,18,20,22,24,26] (qq 6 (.mov (.c (.one (.p (.bool false)))))<|.nil)<|
.ret) .skip)))<|
(rg [7,18,20,22,24,26,29] [3,10,12,14,16,18,20,22,24,26]<|mv 211 29<|bc 212 .add 211 1<|mv 29 212<|.nil))))))<|
(sr [6] [3,10,12,14,16,18,20,22,24,26] (mv 230 7<|mv 231 230<|.sc 235 231 true 234 none (.op (some 232) (some (231, true)) (.q (.load 2 true (.t 18)))<|.op (some 233) (some (231, true)) (.q (.load 2 true (.t 20)))<|.op (some 234) (some (231, true)) (.call (.c (.one (.p (.fn fi_fullerref03_Same [] [])))) [(.t 232),(.t 233)])<|.nil)<|mv 6 235<|.nil)<|
.ret))))))))))))))))))
theorem pure_fullerlaw06_ReduceParts : PureT Try.prog fi_fullerlaw06_ReduceParts 236 a_fullerlaw06_ReduceParts [.tmp 6] := pureT_of Try.call18 Try.func18
def a_fullerref03_Few : ACode := (sr [1] [1] (nn 1 (.box 2 (.t 0))<|qq 2 (.mov (.c (.one (.p (.bool false)))))<|.nil)<|
(sr [2] [1] (fa 3 0 1<|ld 4 1 false 3<|le 5 4<|bc 6 .leq 5 100<|mv 7 6<|.sc 12 7 true 11 none (.op (some 8) (some (7, true)) (.q (.faddr 1 (.t 1)))<|.op (some 9) (some (7, true)) (.q (.load 1 false (.t 8)))<|.op (some 10) (some (7, true)) (.q (.len (.t 9)))<|.op (some 11) (some (7, true)) (.q (.bin .leq (.t 10) (ic 100)))<|.nil)<|mv 2 12<|.nil)<|
.ret))
theorem pure_fullerref03_Few : PureT Try.prog fi_fullerref03_Few 13 a_fullerref03_Few [.tmp 2] := pureT_of Try.call20 Try.func20
def a_fullerref03_Same : ACode := (sr [2,3] [2,3] (nn 2 (.box 2 (.t 0))<|nn 3 (.box 2 (.t 1))<|qq 4 (.mov (.c (.one (.p (.bool false)))))<|.nil)<|
(sr [2,3,5] [2,3] (fa 6 0 2<|ld 7 1 false 6<|fa 8 0 3<|ld 9 1 false 8<|cl 10 36 [7,9]<|mv 5 10<|.nil)<|
(sr [4] [2,3] (mv 11 5<|mv 12 11<|.sc 18 12 true 17 none (.op (some 13) (some (12, true)) (.q (.faddr 1 (.t 2)))<|.op (some 14) (some (12, true)) (.q (.load 1 false (.t 13)))<|.op (some 15) (some (12, true)) (.q (.faddr 1 (.t 3)))<|.op (some 16) (some (12, true)) (.q (.load 1 false (.t 15)))<|.op (some 17) (some (12, true)) (.call (.c (.one (.p (.fn fi_fullerref02_Same [] [])))) [(.t 14),(.t 16)])<|.nil)<|mv 4 18<|.nil)<|
.ret)))
theorem pure_fullerref03_Same : PureT Try.prog fi_fullerref03_Same 19 a_fullerref03_Same [.tmp 4] := pureT_of Try.call23 Try.func23
def a_tensor_Check : ACode := (sr [1] [1] (nn 1 (.box 2 (.t 0))<|qq 2 (.mov (.c (.one (.p (.bool false)))))<|.nil)<|
(.seq (.region (some [[], [], [], [], [], [], [], [4, 5, 6], [4, 5, 6], [4, 5, 6], [], [], []]) (fa 3 0 1<|ld 4 1 false 3<|cl 5 55 [4]<|mv 6 5<|.sc 14 6 true 13 none (.op (some 7) (some (6, true)) (.q (.faddr 1 (.t 1)))<|.op (some 8) (some (6, true)) (.q (.load 1 false (.t 7)))<|.op (some 9) (some (6, true)) (.q (.len (.t 8)))<|.op (some 10) (some (6, true)) (.q (.faddr 0 (.t 1)))<|.op (some 11) (some (6, true)) (.q (.load 1 false (.t 10)))<|.op (some 12) (some (6, true)) (.call (.c (.one (.p (.fn fi_shape_Size [] [])))) [(.t 11)])<|.op (some 13) (some (6, true)) (.q (.bin .eql (.t 9) (.t 12)))<|.nil)<|mv 2 14<|.nil) [2] [1])<|
.ret))
theorem pure_tensor_Check : PureT Try.prog fi_tensor_Check 15 a_tensor_Check [.tmp 2] := pureT_of Try.call28 Try.func28
def a_tensor_Full : ACode := (sr [0,1,4] [4] (al 4 [.nils,.nils]<|mc 5 0<|.nil)<|
(ib [0,1,4,8] [4] (mv 6 0<|cl 7 55 [6]<|qq 8 (.un .not (.t 7))<|.nil) 8 (sr [4,5] [4] (qq 9 (.build [.nils,.nils] [])<|st 2 4 9<|mc 5 20<|.nil)<|
.ret)<|
(sr [4,5] [4,13] (mv 10 0<|cl 11 69 [10]<|mv 12 1<|nn 13 (.lit 1 1 [(.int .i64 0)] [(0, (.t 12))])<|mv 14 0<|cl 15 64 [14]<|cl 16 70 [13,15]<|qq 17 (.build [.nils,.nils] [(0, 1, (.t 11)),(1, 1, (.t 16))])<|st 2 4 17<|mc 5 0<|.nil)<|
.ret)))
theorem pure_tensor_Full : PureT Try.prog fi_tensor_Full 18 a_tensor_Full [.cell 2 true 4,.tmp 5] := pureT_of Try.call31 Try.func31
theorem mut_tensor_Full : MutT Try.prog fi_tensor_Full 18 a_tensor_Full [.cell 2 true 4,.tmp 5] := mutT_of Try.call31 Try.func31
def a_move_Slice : ACode := (sr [3,4,5,6,8] [4,5,6,8] (nn 4 (.box 2 (.t 0))<|nn 5 (.box 1 (.t 1))<|nn 6 (.box 1 (.t 2))<|al 8 [.nils,.nils]<|mc 9 0<|.nil)<|
(.seq (.block 0 (sr [3,4,5,6,8,10] [4,5,6,8] (ld 11 2 true 4<|cl 12 28 [11]<|qq 13 (.un .not (.t 12))<|mv 10 13<|.nil)<|
(cd 10 (sr [8,9] [4,5,6,8] (qq 14 (.build [.nils,.nils] [])<|st 2 8 14<|mc 9 30<|.nil)<|
.ret) (sr [3,4,5,6,8,15] [4,5,6,8] (ld 16 1 false 5<|bc 17 .lss 16 0<|mv 18 17<|.sc 24 18 false 23 none (.op (some 19) (some (18, false)) (.q (.load 1 false (.t 5)))<|.op (some 20) (some (18, false)) (.q (.faddr 0 (.t 4)))<|.op (some 21) (some (18, false)) (.q (.load 1 false (.t 20)))<|.op (some 22) (some (18, false)) (.q (.len (.t 21)))<|.op (some 23) (some (18, false)) (.q (.bin .geq (.t 19) (.t 22)))<|.nil)<|mv 25 24<|.sc 28 25 false 27 none (.op (some 26) (some (25, false)) (.q (.load 1 false (.t 6)))<|.op (some 27) (some (25, false)) (.q (.bin .lss (.t 26) (ic 0)))<|.nil)<|mv 29 28<|.sc 33 29 false 32 none (.op (some 30) (some (29, false)) (.q (.load 1 false (.t 6)))<|.op (some 31) (some (29, false)) (.q (.mov (.t 3)))<|.op (some 32) (some (29, false)) (.q (.bin .geq (.t 30) (.t 31)))<|.nil)<|mv 34 33<|.sc 42 34 false 41 none (.op (some 35) (some (34, false)) (.q (.mov (.t 3)))<|.op (some 36) (some (34, false)) (.q (.faddr 0 (.t 4)))<|.op (some 37) (some (34, false)) (.q (.load 1 false (.t 36)))<|.op (some 38) (some (34, false)) (.q (.load 1 false (.t 5)))<|.op (some 39) (some (34, false)) (.q (.iaddr 1 (.t 37) (.t 38)))<|.op (some 40) (some (34, false)) (.q (.load 1 false (.t 39)))<|.op (some 41) (some (34, false)) (.q (.bin .gtr (.t 35) (.t 40)))<|.nil)<|mv 15 42<|.nil)<|
(cd 15 (sr [8,9] [4,5,6,8] (qq 43 (.build [.nils,.nils] [])<|st 2 8 43<|mc 9 20<|.nil)<|
.ret) .skip)))))<|
(sr [8,9] [4,5,6,8] (fa 44 0 4<|ld 45 1 false 44<|ld 46 1 false 5<|mv 47 3<|ld 48 1 false 6<|bt 49 .sub 47 48<|cl 50 76 [45,46,49]<|qq 51 (.mkF fi_move_Slice_1 [] [(.t 4),(.t 5),(.t 6)])<|cl 52 65 [50,51]<|xt 53 52 0<|xt 54 52 1<|st 2 8 53<|mv 9 54<|.nil)<|
.ret)))
theorem pure_move_Slice : PureT Try.prog fi_move_Slice 55 a_move_Slice [.cell 2 true 8,.tmp 9] := pureT_of Try.call34 Try.func34
def a_reduce_Sum : ACode := (sr [1,2,4] [2,4] (nn 2 (.box 2 (.t 0))<|al 4 [.nils,.nils]<|mc 5 0<|.nil)<|
(sr [4,5] [2,4] (ld 6 2 true 2<|mv 7 1<|qq 8 (.build [(.p .nilF),(.p .nilF)] [(0, 1, (.c (.one (.p (.fn fi_fix_Add [] []))))),(1, 1, (.c (.one (.p (.fn fi_reduce_done [] [])))))])<|.op (some 9) none (.call (.c (.one (.p (.fn fi_reduce_together [] [])))) [(.t 6),(.t 7),(.t 8),(.c (.one (.p (.fn fi_reduce_none [] []))))])<|xt 10 9 0<|xt 11 9 1<|st 2 4 10<|mv 5 11<|.nil)<|
.ret))
theorem pure_reduce_Sum : PureT Try.prog fi_reduce_Sum 12 a_reduce_Sum [.cell 2 true 4,.tmp 5] := pureT_of Try.call35 Try.func35
def a_fullerref02_Same : ACode := (sr [0,1] [] (qq 4 (.mov (.c (.one (.p (.bool false)))))<|.nil)<|
(ib [0,1,10] [] (mv 6 0<|le 7 6<|mv 8 1<|le 9 8<|bt 10 .neq 7 9<|.nil) 10 (sr [4] [] (qq 4 (.mov (.c (.one (.p (.bool false)))))<|.nil)<|
.ret)<|
(.seq (sr [0,1,5] [] (mc 5 0<|.nil)<|
(.block 0 (.loop (.seq (sr [0,1,5,14] [] (mv 11 5<|mv 12 0<|le 13 12<|bt 14 .lss 11 13<|.nil)<|
(cd 14 .skip (.exit 0)))<|
(.seq (.block 1 (.seq (.region (some [[], [0], [], [], [0, 1, 2, 3], [0, 1, 2, 3, 4], [0, 1, 2, 3], [0, 1, 2, 3], []]) (mv 17 0<|mv 18 5<|ia 19 1 17 18<|ld 20 1 false 19<|mv 21 1<|mv 22 5<|ia 23 1 21 22<|ld 24 1 false 23<|bt 25 .neq 20 24<|.nil) [0,1,5,25] [])<|
(cd 25 (sr [4] [] (qq 4 (.mov (.c (.one (.p (.bool false)))))<|.nil)<|
.ret) .skip)))<|
(rg [0,1,5] []<|mv 15 5<|bc 16 .add 15 1<|mv 5 16<|.nil))))))<|
(sr [4] [] (qq 4 (.mov (.c (.one (.p (.bool true)))))<|.nil)<|
.ret))))
theorem pure_fullerref02_Same : PureT Try.prog fi_fullerref02_Same 26 a_fullerref02_Same [.tmp 4] := pureT_of Try.call36 Try.func36
def a_elem_Two : ACode := (sr [0,4,5,6] [4,5,6] (nn 4 (.box 2 (.t 1))<|nn 5 (.box 2 (.t 2))<|al 6 [.nils,.nils]<|mc 7 0<|.nil)<|
(sr [4,5,6,8] [4,5,6,8] (cl 15 83 []<|mv 16 0<|qq 17 (.mget (.agg [(.p .nilF),(.p .nilF)]) false (.t 15) (.t 16))<|al 8 [(.p .nilF),(.p .nilF)]<|st 2 8 17<|.nil)<|
(.seq (.block 0 (sr [4,5,6,8,18] [4,5,6,8] (fa 19 1 8<|ld 20 1 false 19<|qq 21 (.eqN 1 false (.t 20) (.c (.one (.p .nilF))))<|mv 18 21<|.nil)<|
(cd 18 (sr [6,7] [4,5,6,8] (qq 22 (.build [.nils,.nils] [])<|st 2 6 22<|mc 7 1<|.nil)<|
.ret) (sr [4,5,6,8,23] [4,5,6,8] (ld 24 2 true 4<|cl 25 28 [24]<|qq 26 (.un .not (.t 25))<|mv 27 26<|.sc 31 27 false 30 none (.op (some 28) (some (27, false)) (.q (.load 2 true (.t 5)))<|.op (some 29) (some (27, false)) (.call (.c (.one (.p (.fn fi_tensor_Check [] [])))) [(.t 28)])<|.op (some 30) (some (27, false)) (.q (.un .not (.t 29)))<|.nil)<|mv 23 31<|.nil)<|
(cd 23 (sr [6,7] [4,5,6,8] (qq 32 (.build [.nils,.nils] [])<|st 2 6 32<|mc 7 30<|.nil)<|
.ret) .skip)))))<|
(sr [4,5,6,8,9,10] [4,5,6,8] (fa 34 0 4<|ld 35 1 false 34<|fa 36 0 5<|ld 37 1 false 36<|cl 38 43 [35,37]<|mv 33 38<|xt 39 33 0<|xt 40 33 1<|mv 9 39<|mv 10 40<|.nil)<|
(ib [4,5,6,8,9,10,42] [4,5,6,8] (mv 41 10<|bc 42 .neq 41 0<|.nil) 42 (sr [6,7] [4,5,6,8] (qq 43 (.build [.nils,.nils] [])<|mv 44 10<|st 2 6 43<|mv 7 44<|.nil)<|
.ret)<|
(sr [5,6,8,9,11] [4,5,6,8,11] (ld 46 2 true 4<|mv 47 9<|cl 48 42 [46,47]<|mv 45 48<|xt 49 45 0<|xt 50 45 1<|al 11 [.nils,.nils]<|st 2 11 49<|mv 12 50<|.nil)<|
(sr [6,8,9,11,13] [4,5,6,8,11,13] (ld 52 2 true 5<|mv 53 9<|cl 54 42 [52,53]<|mv 51 54<|xt 55 51 0<|xt 56 51 1<|al 13 [.nils,.nils]<|st 2 13 55<|mv 14 56<|.nil)<|
(sr [6,7] [4,5,6,8,11,13] (mv 57 9<|qq 58 (.mkF fi_elem_Two_1 [] [(.t 8),(.t 11),(.t 13)])<|cl 59 84 [57,58]<|xt 60 59 0<|xt 61 59 1<|st 2 6 60<|mv 7 61<|.nil)<|
.ret))))))))
theorem pure_elem_Two : PureT Try.prog fi_elem_Two 62 a_elem_Two [.cell 2 true 6,.tmp 7] := pureT_of Try.call40 Try.func40
def a_tensor_Spread : ACode := (sr [1,2,4] [2,4] (nn 2 (.box 2 (.t 0))<|al 4 [.nils,.nils]<|mc 5 0<|.nil)<|
(.seq (.block 0 (sr [1,2,4,10] [2,4] (ld 11 2 true 2<|cl 12 28 [11]<|qq 13 (.un .not (.t 12))<|mv 10 13<|.nil)<|
(cd 10 (sr [4,5] [2,4] (qq 14 (.build [.nils,.nils] [])<|st 2 4 14<|mc 5 30<|.nil)<|
.ret) (sr [1,2,4,15] [2,4] (fa 16 0 2<|ld 17 1 false 16<|mv 18 1<|cl 19 91 [17,18]<|qq 20 (.un .not (.t 19))<|mv 15 20<|.nil)<|
(cd 15 (sr [4,5] [2,4] (qq 21 (.build [.nils,.nils] [])<|st 2 4 21<|mc 5 20<|.nil)<|
.ret) .skip)))))<|
(sr [1,2,4,6] [2,4,6] (mv 23 1<|.op (some 24) none (.call (.c (.one (.p (.fn fi_tensor_Full [] [])))) [(.t 23),(ic 0)])<|mv 22 24<|xt 25 22 0<|xt 26 22 1<|al 6 [.nils,.nils]<|st 2 6 25<|mv 7 26<|.nil)<|
(.seq (sr [2,4,6,30] [2,4,6] (fa 27 0 2<|ld 28 1 false 27<|mv 29 1<|cl 30 92 [28,29]<|.nil)<|
(.block 1 (.range (.t 30) [31, 32] (sr [2,4,6,8,30,32] [2,4,6] (mv 8 31<|.nil)<|
(rg [2,4,6,8,9,30] [2,4,6]<|mv 9 32<|.nil))
 (.block 2 (.region (some [[], [], [0, 1], [0, 1, 2], [0, 1, 2], [0, 1, 2, 3, 4], [0, 1, 2], [0, 1, 2], [], []]) (fa 33 1 6<|ld 34 1 false 33<|mv 35 8<|fa 36 1 2<|ld 37 1 false 36<|mv 38 9<|ia 39 1 37 38<|ld 40 1 false 39<|ia 41 1 34 35<|st 1 41 40<|.nil) [2,4,6,30] [2,4,6])))))<|
(sr [4,5] [2,4,6] (ld 42 2 true 6<|st 2 4 42<|mc 5 0<|.nil)<|
.ret)))))
theorem pure_tensor_Spread : PureT Try.prog fi_tensor_Spread 43 a_tensor_Spread [.cell 2 true 4,.tmp 5] := pureT_of Try.call42 Try.func42
def a_shape_Join : ACode := (sr [0,1] [] (qq 4 (.mov (.c (.one .nils)))<|mc 5 0<|.nil)<|
(ib [0,1,17] [] (mv 10 0<|cl 11 55 [10]<|qq 12 (.un .not (.t 11))<|mv 13 12<|.sc 17 13 false 16 none (.op (some 14) (some (13, false)) (.q (.mov (.t 1)))<|.op (some 15) (some (13, false)) (.call (.c (.one (.p (.fn fi_shape_Check [] [])))) [(.t 14)])<|.op (some 16) (some (13, false)) (.q (.un .not (.t 15)))<|.nil)<|.nil) 17 (sr [4,5] [] (qq 4 (.mov (.c (.one .nils)))<|mc 5 20<|.nil)<|
.ret)<|
(sr [0,1,6] [23] (mv 18 0<|le 19 18<|mv 20 1<|le 21 20<|qq 22 (.mm true (.t 19) (.t 21))<|nn 23 (.mkS 1 8 [(.int .i64 0)] (.t 22) (.t 22))<|mv 6 23<|.nil)<|
(.seq (sr [0,1,6,25,26] [23] (mv 24 6<|le 25 24<|mc 26 0<|.nil)<|
(.block 0 (.loop (sr [0,1,6,25,26,27] [23] (bt 27 .lss 26 25<|.nil)<|
(.seq (cd 27 .skip (.exit 0))<|
(.seq (.block 1 (sr [0,1,6,7,25,26] [23] (mv 28 26<|mv 7 28<|.nil)<|
(sr [0,1,6,7,8,9,25,26] [23] (mv 29 0<|mv 30 7<|cl 31 93 [29,30]<|mv 32 1<|mv 33 7<|cl 34 93 [32,33]<|mv 8 31<|mv 9 34<|.nil)<|
(ib [0,1,6,7,8,9,25,26,45] [23] (mv 35 8<|mv 36 9<|bt 37 .neq 35 36<|mv 38 37<|.sc 41 38 true 40 none (.op (some 39) (some (38, true)) (.q (.mov (.t 8)))<|.op (some 40) (some (38, true)) (.q (.bin .neq (.t 39) (ic 1)))<|.nil)<|mv 42 41<|.sc 45 42 true 44 none (.op (some 43) (some (42, true)) (.q (.mov (.t 9)))<|.op (some 44) (some (42, true)) (.q (.bin .neq (.t 43) (ic 1)))<|.nil)<|.nil) 45 (sr [4,5] [23] (qq 4 (.mov (.c (.one .nils)))<|mc 5 20<|.nil)<|
.ret)<|
(rg [0,1,6,25,26] [23]<|mv 46 6<|mv 47 6<|le 48 47<|bc 49 .sub 48 1<|mv 50 7<|bt 51 .sub 49 50<|mv 52 8<|mv 53 9<|qq 54 (.mm true (.t 52) (.t 53))<|ia 55 1 46 51<|st 1 55 54<|.nil)))))<|
(rg [0,1,6,25,26] [23]<|bc 56 .add 26 1<|mv 26 56<|.nil)))))))<|
(ib [6,59] [23] (mv 57 6<|cl 58 55 [57]<|qq 59 (.un .not (.t 58))<|.nil) 59 (sr [4,5] [23] (qq 4 (.mov (.c (.one .nils)))<|mc 5 20<|.nil)<|
.ret)<|
(sr [4,5] [23] (mv 60 6<|mv 4 60<|mc 5 0<|.nil)<|
.ret))))))
theorem pure_shape_Join : PureT Try.prog fi_shape_Join 61 a_shape_Join [.tmp 4,.tmp 5] := pureT_of Try.call43 Try.func43
def a_fullerlaw06_awake : ACode := (sr [] [] (qq 0 (.mov (.c (.one (.p (.bool false)))))<|.nil)<|
(sr [1] [1,17,18] (nn 17 (.lit 1 2 [(.int .i64 0)] [(0, (ic 2)),(1, (ic 2))])<|nn 18 (.lit 1 4 [(.int .i64 0)] [(0, (ic 1)),(1, (ic 5)),(2, (ic 3)),(3, (ic 4))])<|qq 19 (.build [.nils,.nils] [(0, 1, (.t 17)),(1, 1, (.t 18))])<|al 1 [.nils,.nils]<|st 2 1 19<|.nil)<|
(sr [1,2,3] [1,2,17,18] (ld 21 2 true 1<|.op (some 22) none (.call (.c (.one (.p (.fn fi_reduce_Sum [] [])))) [(.t 21),(ic 0)])<|mv 20 22<|xt 23 20 0<|xt 24 20 1<|al 2 [.nils,.nils]<|st 2 2 23<|mv 3 24<|.nil)<|
(sr [1,2,3,4,5] [1,2,4,17,18] (ld 26 2 true 1<|.op (some 27) none (.call (.c (.one (.p (.fn fi_reduce_Max [] [])))) [(.t 26),(ic 1)])<|mv 25 27<|xt 28 25 0<|xt 29 25 1<|al 4 [.nils,.nils]<|st 2 4 28<|mv 5 29<|.nil)<|
(sr [1,2,3,4,5,6,7] [1,2,4,6,17,18] (ld 31 2 true 1<|.op (some 32) none (.call (.c (.one (.p (.fn fi_reduce_First [] [])))) [(.t 31),(ic 1)])<|mv 30 32<|xt 33 30 0<|xt 34 30 1<|al 6 [.nils,.nils]<|st 2 6 33<|mv 7 34<|.nil)<|
(sr [1,2,3,4,5,6,7,8,9] [1,2,4,6,8,17,18] (ld 36 2 true 1<|.op (some 37) none (.call (.c (.one (.p (.fn fi_reduce_Mean [] [])))) [(.t 36),(ic 0)])<|mv 35 37<|xt 38 35 0<|xt 39 35 1<|al 8 [.nils,.nils]<|st 2 8 38<|mv 9 39<|.nil)<|
(sr [1,2,3,4,5,6,7,8,9,10,11] [1,2,4,6,8,10,17,18] (ld 41 2 true 4<|.op (some 42) none (.call (.c (.one (.p (.fn fi_reduce_Grow [] [])))) [(.t 41),(ic 0),(ic 2)])<|mv 40 42<|xt 43 40 0<|xt 44 40 1<|al 10 [.nils,.nils]<|st 2 10 43<|mv 11 44<|.nil)<|
(sr [2,3,4,5,6,7,8,9,10,11,13] [1,2,4,6,8,10,12,17,18] (ld 46 2 true 1<|.op (some 47) none (.call (.c (.one (.p (.fn fi_reduce_Sum [] [])))) [(.t 46),(ic 2)])<|mv 45 47<|xt 48 45 0<|xt 49 45 1<|al 12 [.nils,.nils]<|st 2 12 48<|mv 13 49<|.nil)<|
(sr [2,3,4,5,6,7,8,9,10,11,13,15] [1,2,4,6,8,10,12,14,17,18] (qq 51 (.build [.nils,.nils] [])<|.op (some 52) none (.call (.c (.one (.p (.fn fi_reduce_Sum [] [])))) [(.t 51),(ic 0)])<|mv 50 52<|xt 53 50 0<|xt 54 50 1<|al 14 [.nils,.nils]<|st 2 14 53<|mv 15 54<|.nil)<|
(sr [8,9,10,11,13,15,16] [1,2,4,6,8,10,12,14,17,18,57,66,76] (fa 55 1 2<|ld 56 1 false 55<|nn 57 (.lit 1 2 [(.int .i64 0)] [(0, (ic 4)),(1, (ic 9))])<|cl 58 36 [56,57]<|mv 59 58<|.sc 62 59 true 61 none (.op (some 60) (some (59, true)) (.q (.mov (.t 3)))<|.op (some 61) (some (59, true)) (.q (.bin .eql (.t 60) (ic 0)))<|.nil)<|mv 63 62<|.sc 68 63 true 67 none (.op (some 64) (some (63, true)) (.q (.faddr 1 (.t 4)))<|.op (some 65) (some (63, true)) (.q (.load 1 false (.t 64)))<|.op (some 66) (some (63, true)) (.n (.lit 1 2 [(.int .i64 0)] [(0, (ic 5)),(1, (ic 4))]))<|.op (some 67) (some (63, true)) (.call (.c (.one (.p (.fn fi_fullerref02_Same [] [])))) [(.t 65),(.t 66)])<|.nil)<|mv 69 68<|.sc 72 69 true 71 none (.op (some 70) (some (69, true)) (.q (.mov (.t 5)))<|.op (some 71) (some (69, true)) (.q (.bin .eql (.t 70) (ic 0)))<|.nil)<|mv 73 72<|.sc 78 73 true 77 none (.op (some 74) (some (73, true)) (.q (.faddr 1 (.t 6)))<|.op (some 75) (some (73, true)) (.q (.load 1 false (.t 74)))<|.op (some 76) (some (73, true)) (.n (.lit 1 4 [(.int .i64 0)] [(0, (ic 0)),(1, (ic 4294967296)),(2, (ic 0)),(3, (ic 4294967296))]))<|.op (some 77) (some (73, true)) (.call (.c (.one (.p (.fn fi_fullerref02_Same [] [])))) [(.t 75),(.t 76)])<|.nil)<|mv 79 78<|.sc 82 79 true 81 none (.op (some 80) (some (79, true)) (.q (.mov (.t 7)))<|.op (some 81) (some (79, true)) (.q (.bin .eql (.t 80) (ic 0)))<|.nil)<|mv 16 82<|.nil)<|
(sr [0] [1,2,4,6,8,10,12,14,17,18,57,66,76,87,97] (mv 83 16<|mv 84 83<|.sc 89 84 true 88 none (.op (some 85) (some (84, true)) (.q (.faddr 1 (.t 8)))<|.op (some 86) (some (84, true)) (.q (.load 1 false (.t 85)))<|.op (some 87) (some (84, true)) (.n (.lit 1 2 [(.int .i64 0)] [(0, (ic 2)),(1, (ic 4))]))<|.op (some 88) (some (84, true)) (.call (.c (.one (.p (.fn fi_fullerref02_Same [] [])))) [(.t 86),(.t 87)])<|.nil)<|mv 90 89<|.sc 93 90 true 92 none (.op (some 91) (some (90, true)) (.q (.mov (.t 9)))<|.op (some 92) (some (90, true)) (.q (.bin .eql (.t 91) (ic 0)))<|.nil)<|mv 94 93<|.sc 99 94 true 98 none (.op (some 95) (some (94, true)) (.q (.faddr 1 (.t 10)))<|.op (some 96) (some (94, true)) (.q (.load 1 false (.t 95)))<|.op (some 97) (some (94, true)) (.n (.lit 1 4 [(.int .i64 0)] [(0, (ic 5)),(1, (ic 4)),(2, (ic 5)),(3, (ic 4))]))<|.op (some 98) (some (94, true)) (.call (.c (.one (.p (.fn fi_fullerref02_Same [] [])))) [(.t 96),(.t 97)])<|.nil)<|mv 100 99<|.sc 103 100 true 102 none (.op (some 101) (some (100, true)) (.q (.mov (.t 11)))<|.op (some 102) (some (100, true)) (.q (.bin .eql (.t 101) (ic 0)))<|.nil)<|mv 104 103<|.sc 107 104 true 106 none (.op (some 105) (some (104, true)) (.q (.mov (.t 13)))<|.op (some 106) (some (104, true)) (.q (.bin .eql (.t 105) (ic 20)))<|.nil)<|mv 108 107<|.sc 111 108 true 110 none (.op (some 109) (some (108, true)) (.q (.mov (.t 15)))<|.op (some 110) (some (108, true)) (.q (.bin .eql (.t 109) (ic 30)))<|.nil)<|mv 0 111<|.nil)<|
.ret)))))))))))
theorem pure_fullerlaw06_awake : PureT Try.prog fi_fullerlaw06_awake 112 a_fullerlaw06_awake [.tmp 0] := pureT_of Try.call44 Try.func44
def a_reduce_Mean : ACode := (sr [1,2,4] [2,4] (nn 2 (.box 2 (.t 0))<|al 4 [.nils,.nils]<|mc 5 0<|.nil)<|
(.seq (sr [1,2,4,7] [2,4,6] (ld 9 2 true 2<|mv 10 1<|cl 11 35 [9,10]<|mv 8 11<|xt 12 8 0<|xt 13 8 1<|al 6 [.nils,.nils]<|st 2 6 12<|mv 7 13<|.nil)<|
(sr [1,2,4,7,15] [2,4,6] (mv 14 7<|bc 15 .neq 14 0<|.nil)<|
(cd 15 (sr [4,5] [2,4,6] (qq 16 (.build [.nils,.nils] [])<|mv 17 7<|st 2 4 16<|mv 5 17<|.nil)<|
.ret) .skip)))<|
(sr [4,5] [2,4,6] (ld 18 2 true 2<|mv 19 1<|qq 20 (.build [(.p .nilF),(.p .nilF)] [(0, 1, (.c (.one (.p (.fn fi_fix_Add [] []))))),(1, 1, (.c (.one (.p (.fn fi_reduce_share [] [])))))])<|.op (some 21) none (.call (.c (.one (.p (.fn fi_reduce_together [] [])))) [(.t 18),(.t 19),(.t 20),(.c (.one (.p (.fn fi_reduce_none [] []))))])<|xt 22 21 0<|xt 23 21 1<|st 2 4 22<|mv 5 23<|.nil)<|
.ret)))
theorem pure_reduce_Mean : PureT Try.prog fi_reduce_Mean 24 a_reduce_Mean [.cell 2 true 4,.tmp 5] := pureT_of Try.call46 Try.func46
def a_reduce_Max : ACode := (sr [1,2,4] [2,4] (nn 2 (.box 2 (.t 0))<|al 4 [.nils,.nils]<|mc 5 0<|.nil)<|
(sr [4,5] [2,4] (ld 6 2 true 2<|mv 7 1<|qq 8 (.build [(.p .nilF),(.p .nilF)] [(0, 1, (.c (.one (.p (.fn fi_reduce_most [] []))))),(1, 1, (.c (.one (.p (.fn fi_reduce_done [] [])))))])<|.op (some 9) none (.call (.c (.one (.p (.fn fi_reduce_together [] [])))) [(.t 6),(.t 7),(.t 8),(.c (.one (.p (.fn fi_reduce_same [] []))))])<|xt 10 9 0<|xt 11 9 1<|st 2 4 10<|mv 5 11<|.nil)<|
.ret))
theorem pure_reduce_Max : PureT Try.prog fi_reduce_Max 12 a_reduce_Max [.cell 2 true 4,.tmp 5] := pureT_of Try.call48 Try.func48
def a_reduce_First : ACode := (sr [1,2,4] [2,4] (nn 2 (.box 2 (.t 0))<|al 4 [.nils,.nils]<|mc 5 0<|.nil)<|
(sr [2,4,6,7] [2,4,6] (ld 14 2 true 2<|mv 15 1<|cl 16 104 [14,15]<|mv 13 16<|xt 17 13 0<|xt 18 13 1<|al 6 [(.p (.int .i64 0)),(.p (.int .i64 0)),(.p (.int .i64 0))]<|st 3 6 17<|mv 7 18<|.nil)<|
(ib [2,4,6,7,20] [2,4,6] (mv 19 7<|bc 20 .neq 19 0<|.nil) 20 (sr [4,5] [2,4,6] (qq 21 (.build [.nils,.nils] [])<|mv 22 7<|st 2 4 21<|mv 5 22<|.nil)<|
.ret)<|
(sr [2,4,6,8] [2,4,6,8] (fa 24 0 2<|ld 25 1 false 24<|.op (some 26) none (.call (.c (.one (.p (.fn fi_tensor_Full [] [])))) [(.t 25),(ic 0)])<|mv 23 26<|xt 27 23 0<|xt 28 23 1<|al 8 [.nils,.nils]<|st 2 8 27<|mv 9 28<|.nil)<|
(.seq (sr [2,4,6,8,33,34] [2,4,6,8] (fa 29 0 6<|ld 30 1 false 29<|fa 31 2 6<|ld 32 1 false 31<|bt 33 .mul 30 32<|mc 34 0<|.nil)<|
(.block 0 (.loop (sr [2,4,6,8,33,34,35] [2,4,6,8] (bt 35 .lss 34 33<|.nil)<|
(.seq (cd 35 .skip (.exit 0))<|
(.seq (.block 1 (sr [2,4,6,8,10,33,34] [2,4,6,8] (mv 36 34<|mv 10 36<|.nil)<|
(sr [2,4,6,8,10,11,33,34] [2,4,6,8] (mc 11 0<|.nil)<|
(.seq (sr [2,4,6,8,10,11,33,34,38,39] [2,4,6,8] (fa 37 1 6<|ld 38 1 false 37<|mc 39 0<|.nil)<|
(.block 2 (.loop (sr [2,4,6,8,10,11,33,34,38,39,40] [2,4,6,8] (bt 40 .lss 39 38<|.nil)<|
(.seq (cd 40 .skip (.exit 2))<|
(.seq (.block 3 (sr [2,4,6,8,10,11,12,33,34,38,39] [2,4,6,8] (mv 41 39<|mv 12 41<|.nil)<|
(.seq (.region (some [[], [], [0, 1], [0, 1, 2], [0, 1, 2, 3], [0, 1], [], [], [0, 1, 2, 3, 4, 5, 6, 7], [0, 1, 2, 3, 4, 5, 6, 7], [0, 1, 2, 3, 4, 5, 6, 7, 8, 9], [0, 1, 2, 3, 4, 5, 6, 7, 8, 9, 10], [0, 1, 2, 3, 4, 5, 6, 7, 8, 9, 10, 11], [0, 1, 6, 7, 8, 9], [0, 1, 6, 7], [0, 1, 6, 7], []]) (fa 42 1 2<|ld 43 1 false 42<|ld 44 3 true 6<|mv 45 10<|mv 46 12<|cl 47 105 [44,45,46]<|ia 48 1 43 47<|ld 49 1 false 48<|fa 50 1 2<|ld 51 1 false 50<|ld 52 3 true 6<|mv 53 10<|mv 54 11<|cl 55 105 [52,53,54]<|ia 56 1 51 55<|ld 57 1 false 56<|bt 58 .gtr 49 57<|.nil) [2,4,6,8,10,11,12,33,34,38,39,58] [2,4,6,8])<|
(cd 58 (rg [2,4,6,8,10,11,33,34,38,39] [2,4,6,8]<|mv 59 12<|mv 11 59<|.nil) .skip))))<|
(rg [2,4,6,8,10,11,33,34,38,39] [2,4,6,8]<|bc 60 .add 39 1<|mv 39 60<|.nil)))))))<|
(.region (some [[], [], [0, 1], [0, 1, 2], [0, 1, 2, 3], [0, 1], [], []]) (fa 61 1 8<|ld 62 1 false 61<|ld 63 3 true 6<|mv 64 10<|mv 65 11<|cl 66 105 [63,64,65]<|ia 67 1 62 66<|ss (.store 1 (.t 67) (ic 4294967296))<|.nil) [2,4,6,8,33,34] [2,4,6,8])))))<|
(rg [2,4,6,8,33,34] [2,4,6,8]<|bc 68 .add 34 1<|mv 34 68<|.nil)))))))<|
(sr [4,5] [2,4,6,8] (ld 69 2 true 8<|st 2 4 69<|mc 5 0<|.nil)<|
.ret))))))
theorem pure_reduce_First : PureT Try.prog fi_reduce_First 70 a_reduce_First [.cell 2 true 4,.tmp 5] := pureT_of Try.call50 Try.func50
def a_reduce_Grow : ACode := (sr [1,2,3,6] [3,6] (nn 3 (.box 2 (.t 0))<|al 6 [.nils,.nils]<|mc 7 0<|.nil)<|
(ib [1,2,3,6,16] [3,6] (ld 14 2 true 3<|cl 15 28 [14]<|qq 16 (.un .not (.t 15))<|.nil) 16 (sr [6,7] [3,6] (qq 17 (.build [.nils,.nils] [])<|st 2 6 17<|mc 7 30<|.nil)<|
.ret)<|
(ib [1,2,3,6,26] [3,6] (mv 18 1<|bc 19 .lss 18 0<|mv 20 19<|.sc 26 20 false 25 none (.op (some 21) (some (20, false)) (.q (.mov (.t 1)))<|.op (some 22) (some (20, false)) (.q (.faddr 0 (.t 3)))<|.op (some 23) (some (20, false)) (.q (.load 1 false (.t 22)))<|.op (some 24) (some (20, false)) (.q (.len (.t 23)))<|.op (some 25) (some (20, false)) (.q (.bin .gtr (.t 21) (.t 24)))<|.nil)<|.nil) 26 (sr [6,7] [3,6] (qq 27 (.build [.nils,.nils] [])<|st 2 6 27<|mc 7 20<|.nil)<|
.ret)<|
(sr [1,2,3,6,8,9] [3,6,8,34] (fa 29 0 3<|ld 30 1 false 29<|cl 31 69 [30]<|mv 32 1<|mv 33 2<|nn 34 (.lit 1 1 [(.int .i64 0)] [(0, (.t 33))])<|cl 35 108 [31,32,34]<|.op (some 36) none (.call (.c (.one (.p (.fn fi_tensor_Full [] [])))) [(.t 35),(ic 0)])<|mv 28 36<|xt 37 28 0<|xt 38 28 1<|al 8 [.nils,.nils]<|st 2 8 37<|mv 9 38<|.nil)<|
(ib [1,2,3,6,8,9,40] [3,6,8,34] (mv 39 9<|bc 40 .neq 39 0<|.nil) 40 (sr [6,7] [3,6,8,34] (qq 41 (.build [.nils,.nils] [])<|mv 42 9<|st 2 6 41<|mv 7 42<|.nil)<|
.ret)<|
(.seq (.region (some [[], [], [0, 1], [], [], [0, 1, 2, 3, 4], [0, 1, 2, 3, 4, 5], [0, 1, 2, 3, 4, 5], [0, 1, 2, 3, 4, 5, 6, 7], [0, 1, 2, 3, 4, 5], [5], [], [0, 1, 2, 3, 4, 5, 6, 7, 8, 9, 10, 11], []]) (fa 43 0 3<|ld 44 1 false 43<|mv 45 1<|qq 46 (.slc 1 (.t 44) none (some (.t 45)) none)<|cl 47 64 [46]<|mv 48 2<|fa 49 0 3<|ld 50 1 false 49<|mv 51 1<|qq 52 (.slc 1 (.t 50) (some (.t 51)) none none)<|cl 53 64 [52]<|qq 54 (.build [(.p (.int .i64 0)),(.p (.int .i64 0)),(.p (.int .i64 0))] [(0, 1, (.t 47)),(1, 1, (.t 48)),(2, 1, (.t 53))])<|al 10 [(.p (.int .i64 0)),(.p (.int .i64 0)),(.p (.int .i64 0))]<|st 3 10 54<|.nil) [2,3,6,8,10] [3,6,8,10,34])<|
(.seq (sr [2,6,8,10,56,57,58] [3,6,8,10,34] (fa 55 1 3<|ld 56 1 false 55<|le 57 56<|mc 58 0<|.nil)<|
(.block 0 (.loop (sr [2,6,8,10,56,57,58,59] [3,6,8,10,34] (bt 59 .lss 58 57<|.nil)<|
(.seq (cd 59 .skip (.exit 0))<|
(.seq (.block 1 (sr [2,6,8,10,11,12,56,57,58] [3,6,8,10,34] (mv 60 58<|ia 61 1 56 58<|ld 62 1 false 61<|mv 11 60<|mv 12 62<|.nil)<|
(sr [2,6,8,10,11,12,56,57,58,63,64] [3,6,8,10,34] (mv 63 2<|mc 64 0<|.nil)<|
(.block 2 (.loop (sr [2,6,8,10,11,12,56,57,58,63,64,65] [3,6,8,10,34] (bt 65 .lss 64 63<|.nil)<|
(.seq (cd 65 .skip (.exit 2))<|
(.seq (.block 3 (sr [2,6,8,10,11,12,13,56,57,58,63,64] [3,6,8,10,34] (mv 66 64<|mv 13 66<|.nil)<|
(.region (some [[], [], [0, 1], [0, 1, 2], [0, 1, 2, 3], [0, 1], [0, 1, 2, 3, 4, 5], [], []]) (fa 67 1 8<|ld 68 1 false 67<|ld 69 3 true 10<|mv 70 11<|mv 71 13<|cl 72 105 [69,70,71]<|mv 73 12<|ia 74 1 68 72<|st 1 74 73<|.nil) [2,6,8,10,11,12,56,57,58,63,64] [3,6,8,10,34])))<|
(rg [2,6,8,10,11,12,56,57,58,63,64] [3,6,8,10,34]<|bc 75 .add 64 1<|mv 64 75<|.nil)))))))))<|
(rg [2,6,8,10,56,57,58] [3,6,8,10,34]<|bc 76 .add 58 1<|mv 58 76<|.nil)))))))<|
(sr [6,7] [3,6,8,10,34] (ld 77 2 true 8<|st 2 6 77<|mc 7 0<|.nil)<|
.ret))))))))
theorem pure_reduce_Grow : PureT Try.prog fi_reduce_Grow 78 a_reduce_Grow [.cell 2 true 6,.tmp 7] := pureT_of Try.call52 Try.func52
def a_shape_Check : ACode := (sr [0] [] (qq 2 (.mov (.c (.one (.p (.bool false)))))<|.nil)<|
(.scope (sr [0,3] [] (mc 3 1<|.nil)<|
(ib [0,3,8] [] (mv 6 0<|le 7 6<|bc 8 .gtr 7 3<|.nil) 8 (sr [2] [] (qq 2 (.mov (.c (.one (.p (.bool false)))))<|.nil)<|
.ret)<|
(.seq (.label 0)<|
(.seq (sr [3,9,10,11] [] (mv 9 0<|le 10 9<|mc 11 0<|.nil)<|
(.block 0 (.loop (sr [3,9,10,11,12] [] (bt 12 .lss 11 10<|.nil)<|
(.seq (cd 12 .skip (.exit 0))<|
(.seq (.block 1 (sr [3,5,9,10,11] [] (ia 13 1 9 11<|ld 14 1 false 13<|mv 5 14<|.nil)<|
(ib [3,5,9,10,11,20] [] (mv 15 5<|bc 16 .lss 15 1<|mv 17 16<|.sc 20 17 false 19 none (.op (some 18) (some (17, false)) (.q (.mov (.t 5)))<|.op (some 19) (some (17, false)) (.q (.bin .gtr (.t 18) (ic 16)))<|.nil)<|.nil) 20 (sr [3] [] (mc 3 0<|.nil)<|
(.exit 0))<|
(rg [3,9,10,11] []<|mv 21 3<|mv 22 5<|bt 23 .mul 21 22<|mv 3 23<|.nil))))<|
(rg [3,9,10,11] []<|bc 24 .add 11 1<|mv 11 24<|.nil)))))))<|
(sr [2] [] (mv 25 3<|bc 26 .gtr 25 0<|mv 27 26<|.sc 30 27 true 29 none (.op (some 28) (some (27, true)) (.q (.mov (.t 3)))<|.op (some 29) (some (27, true)) (.q (.bin .leq (.t 28) (ic 64)))<|.nil)<|mv 2 30<|.nil)<|
.ret)))))))
theorem pure_shape_Check : PureT Try.prog fi_shape_Check 31 a_shape_Check [.tmp 2] := pureT_of Try.call55 Try.func55
def a_fix_Add : ACode := (sr [0,1] [] (mc 4 0<|mc 5 0<|.nil)<|
(sr [0,1,6] [] (mv 7 0<|mv 8 1<|bt 9 .add 7 8<|mv 6 9<|.nil)<|
(sr [4,5] [] (mv 10 6<|mv 11 0<|bc 12 .lss 11 0<|mv 13 1<|bc 14 .lss 13 0<|qq 15 (.eqB true (.t 12) (.t 14))<|mv 16 15<|.sc 22 16 false 21 none (.op (some 17) (some (16, false)) (.q (.mov (.t 6)))<|.op (some 18) (some (16, false)) (.q (.bin .lss (.t 17) (ic 0)))<|.op (some 19) (some (16, false)) (.q (.mov (.t 0)))<|.op (some 20) (some (16, false)) (.q (.bin .lss (.t 19) (ic 0)))<|.op (some 21) (some (16, false)) (.q (.eqB false (.t 18) (.t 20)))<|.nil)<|cl 23 111 [10,22]<|xt 24 23 0<|xt 25 23 1<|mv 4 24<|mv 5 25<|.nil)<|
.ret)))
theorem pure_fix_Add : PureT Try.prog fi_fix_Add 26 a_fix_Add [.tmp 4,.tmp 5] := pureT_of Try.call58 Try.func58
def a_shape_Size : ACode := (sr [0] [] (mc 2 0<|.nil)<|
(ib [0,8] [] (mv 6 0<|cl 7 55 [6]<|qq 8 (.un .not (.t 7))<|.nil) 8 (sr [2] [] (mc 2 0<|.nil)<|
.ret)<|
(sr [0,3] [] (mc 3 1<|.nil)<|
(.seq (sr [3,9,10,11] [] (mv 9 0<|le 10 9<|mc 11 0<|.nil)<|
(.block 0 (.loop (sr [3,9,10,11,12] [] (bt 12 .lss 11 10<|.nil)<|
(.seq (cd 12 .skip (.exit 0))<|
(.seq (.block 1 (sr [3,5,9,10,11] [] (ia 13 1 9 11<|ld 14 1 false 13<|mv 5 14<|.nil)<|
(rg [3,9,10,11] []<|mv 15 3<|mv 16 5<|bt 17 .mul 15 16<|mv 3 17<|.nil)))<|
(rg [3,9,10,11] []<|bc 18 .add 11 1<|mv 11 18<|.nil)))))))<|
(sr [2] [] (mv 19 3<|mv 2 19<|.nil)<|
.ret)))))
theorem pure_shape_Size : PureT Try.prog fi_shape_Size 20 a_shape_Size [.tmp 2] := pureT_of Try.call64 Try.func64
def a_move_made : ACode := (sr [0,3,4] [3,4] (nn 3 (.box 1 (.t 1))<|al 4 [.nils,.nils]<|mc 5 0<|.nil)<|
(sr [0,3,4,6] [3,4,6] (mv 8 0<|qq 9 (.build [.nils,.nils] [(0, 1, (.t 8))])<|al 6 [.nils,.nils]<|st 2 6 9<|.nil)<|
(.seq (sr [3,4,6,11] [3,4,6] (mv 10 0<|cl 11 116 [10]<|.nil)<|
(.block 0 (.range (.t 11) [12] (rg [3,4,6,7,11] [3,4,6]<|mv 7 12<|.nil)
 (.block 1 (.region (some [[], [], [0, 1], [0, 1, 2], [0, 1], [0, 1], [], [], []]) (fa 13 1 6<|ld 14 1 false 13<|ld 15 1 false 3<|mv 16 7<|.op (some 17) none (.call (.t 15) [(.t 16)])<|nn 18 (.lit 1 1 [(.int .i64 0)] [(0, (.t 17))])<|sd 19 (.app 1 8 (.t 14) (.t 18))<|fa 20 1 6<|st 1 20 19<|.nil) [3,4,6,11] [3,4,6,18,19])))))<|
(sr [4,5] [3,4,6] (ld 21 2 true 6<|st 2 4 21<|mc 5 0<|.nil)<|
.ret))))
theorem pure_move_made : PureT Try.prog fi_move_made 22 a_move_made [.cell 2 true 4,.tmp 5] := pureT_of Try.call65 Try.func65
def a_tensor_At : ACode := (sr [1,2] [2] (nn 2 (.box 2 (.t 0))<|mc 4 0<|mc 5 0<|.nil)<|
(ib [1,2,10] [2] (ld 8 2 true 2<|cl 9 28 [8]<|qq 10 (.un .not (.t 9))<|.nil) 10 (sr [4,5] [2] (mc 4 0<|mc 5 30<|.nil)<|
.ret)<|
(sr [2,6,7] [2] (fa 12 0 2<|ld 13 1 false 12<|mv 14 1<|cl 15 118 [13,14]<|mv 11 15<|xt 16 11 0<|xt 17 11 1<|mv 6 16<|mv 7 17<|.nil)<|
(ib [2,6,7,19] [2] (mv 18 7<|bc 19 .neq 18 0<|.nil) 19 (sr [4,5] [2] (mv 20 7<|mc 4 0<|mv 5 20<|.nil)<|
.ret)<|
(sr [4,5] [2] (fa 21 1 2<|ld 22 1 false 21<|mv 23 6<|ia 24 1 22 23<|ld 25 1 false 24<|mv 4 25<|mc 5 0<|.nil)<|
.ret)))))
theorem pure_tensor_At : PureT Try.prog fi_tensor_At 26 a_tensor_At [.tmp 4,.tmp 5] := pureT_of Try.call68 Try.func68
def a_slices_Clone_int_int : ACode := (sr [0] [] (qq 2 (.mov (.c (.one .nils)))<|.nil)<|
(ib [0,4] [] (mv 3 0<|qq 4 (.eqN 0 false (.t 3) (.c (.one .nils)))<|.nil) 4 (sr [2] [] (qq 2 (.mov (.c (.one .nils)))<|.nil)<|
.ret)<|
(sr [2] [5,7] (nn 5 (.lit 1 0 [(.int .i64 0)] [])<|mv 6 0<|sd 7 (.app 1 8 (.t 5) (.t 6))<|mv 2 7<|.nil)<|
.ret)))
theorem mut_slices_Clone_int_int : MutT Try.prog fi_slices_Clone_int_int 8 a_slices_Clone_int_int [.tmp 2] := mutT_of Try.call69 Try.func69
def a_slices_Repeat_int_int : ACode := (sr [0,1] [] (qq 4 (.mov (.c (.one .nils)))<|.nil)<|
(ib [0,1,10] [] (mv 9 1<|bc 10 .lss 9 0<|.nil) 10 (rg [0,1] []<|.op (some 11) none .bad<|.op none none .bad<|.nil)<|
(sr [0,5,6] [] (mv 13 0<|le 14 13<|qq 15 (.conv .u64 (.t 14))<|mv 16 1<|qq 17 (.conv .u64 (.t 16))<|cl 18 119 [15,17]<|mv 12 18<|xt 19 12 0<|xt 20 12 1<|mv 5 19<|mv 6 20<|.nil)<|
(ib [0,6,26] [] (mv 21 5<|qq 22 (.bin .gtr (.t 21) (.c (.one (.p (.int .u64 0)))))<|mv 23 22<|.sc 26 23 false 25 none (.op (some 24) (some (23, false)) (.q (.mov (.t 6)))<|.op (some 25) (some (23, false)) (.q (.bin .gtr (.t 24) (.c (.one (.p (.int .u64 9223372036854775807))))))<|.nil)<|.nil) 26 (rg [0,6] []<|.op (some 27) none .bad<|.op none none .bad<|.nil)<|
(sr [0,7] [30] (mv 28 6<|qq 29 (.conv .i64 (.t 28))<|nn 30 (.mkS 1 8 [(.int .i64 0)] (.t 29) (.t 29))<|mv 7 30<|.nil)<|
(sr [7,8] [30] (mv 31 7<|mv 32 0<|sd 33 (.copy 1 (.t 31) (.t 32))<|mv 8 33<|.nil)<|
(.seq (.block 0 (.loop (.seq (sr [7,8,37] [30] (mv 34 8<|mv 35 7<|le 36 35<|bt 37 .lss 34 36<|.nil)<|
(cd 37 .skip (.exit 0)))<|
(.block 1 (.region (some [[], [0], [0, 1], [0], [0, 1, 2, 3], [0, 1, 2, 3, 4], [0, 1, 2, 3], [0], [], []]) (mv 38 8<|mv 39 7<|mv 40 8<|qq 41 (.slc 1 (.t 39) (some (.t 40)) none none)<|mv 42 7<|mv 43 8<|qq 44 (.slc 1 (.t 42) none (some (.t 43)) none)<|sd 45 (.copy 1 (.t 41) (.t 44))<|bt 46 .add 38 45<|mv 8 46<|.nil) [7,8] [30])))))<|
(sr [4] [30] (mv 47 7<|mv 4 47<|.nil)<|
.ret))))))))
theorem mut_slices_Repeat_int_int : MutT Try.prog fi_slices_Repeat_int_int 48 a_slices_Repeat_int_int [.tmp 4] := mutT_of Try.call70 Try.func70
def a_math_bits_Mul64 : ACode := (sr [0,1] [] (qq 4 (.mov (.c (.one (.p (.int .u64 0)))))<|qq 5 (.mov (.c (.one (.p (.int .u64 0)))))<|.nil)<|
(sr [0,1,6] [] (mv 14 0<|qq 15 (.bin .and (.t 14) (.c (.one (.p (.int .u64 4294967295)))))<|mv 6 15<|.nil)<|
(sr [0,1,6,7] [] (mv 16 0<|qq 17 (.bin .shr (.t 16) (.c (.one (.p (.int .u64 32)))))<|mv 7 17<|.nil)<|
(sr [0,1,6,7,8] [] (mv 18 1<|qq 19 (.bin .and (.t 18) (.c (.one (.p (.int .u64 4294967295)))))<|mv 8 19<|.nil)<|
(sr [0,1,6,7,8,9] [] (mv 20 1<|qq 21 (.bin .shr (.t 20) (.c (.one (.p (.int .u64 32)))))<|mv 9 21<|.nil)<|
(sr [0,1,6,7,8,9,10] [] (mv 22 6<|mv 23 8<|bt 24 .mul 22 23<|mv 10 24<|.nil)<|
(sr [0,1,6,7,9,11] [] (mv 25 7<|mv 26 8<|bt 27 .mul 25 26<|mv 28 10<|qq 29 (.bin .shr (.t 28) (.c (.one (.p (.int .u64 32)))))<|bt 30 .add 27 29<|mv 11 30<|.nil)<|
(sr [0,1,6,7,9,11,12] [] (mv 31 11<|qq 32 (.bin .and (.t 31) (.c (.one (.p (.int .u64 4294967295)))))<|mv 12 32<|.nil)<|
(sr [0,1,6,7,9,12,13] [] (mv 33 11<|qq 34 (.bin .shr (.t 33) (.c (.one (.p (.int .u64 32)))))<|mv 13 34<|.nil)<|
(sr [0,1,7,9,12,13] [] (mv 35 12<|mv 36 6<|mv 37 9<|bt 38 .mul 36 37<|bt 39 .add 35 38<|mv 12 39<|.nil)<|
(sr [0,1,4] [] (mv 40 7<|mv 41 9<|bt 42 .mul 40 41<|mv 43 13<|bt 44 .add 42 43<|mv 45 12<|qq 46 (.bin .shr (.t 45) (.c (.one (.p (.int .u64 32)))))<|bt 47 .add 44 46<|mv 4 47<|.nil)<|
(sr [4,5] [] (mv 48 0<|mv 49 1<|bt 50 .mul 48 49<|mv 5 50<|.nil)<|
.ret))))))))))))
theorem pure_math_bits_Mul64 : PureT Try.prog fi_math_bits_Mul64 51 a_math_bits_Mul64 [.tmp 4,.tmp 5] := pureT_of Try.call71 Try.func71
def a_fix_size : ACode := (sr [0] [] (qq 2 (.mov (.c (.one (.p (.int .u64 0)))))<|.nil)<|
(ib [0,4] [] (mv 3 0<|bc 4 .lss 3 0<|.nil) 4 (sr [2] [] (mv 5 0<|qq 6 (.conv .u64 (.t 5))<|qq 7 (.un .neg (.t 6))<|mv 2 7<|.nil)<|
.ret)<|
(sr [2] [] (mv 8 0<|qq 9 (.conv .u64 (.t 8))<|mv 2 9<|.nil)<|
.ret)))
theorem pure_fix_size : PureT Try.prog fi_fix_size 10 a_fix_size [.tmp 2] := pureT_of Try.call72 Try.func72
def a_fix_wide_signed : ACode := (sr [1,2,3] [3] (nn 3 (.boxA 1 2 (.t 0))<|mc 6 0<|mc 7 0<|.nil)<|
(sr [1,2,3,8] [3] (qq 8 (.mov (.c (.one (.p (.int .u64 9223372036854775807)))))<|.nil)<|
(sr [1,2,3,8,9] [3] (qq 10 (.mkF fi_fix_wide_signed_1 [] [(.t 3)])<|mv 9 10<|.nil)<|
(ib [1,2,3,8,9,11] [3] (mv 11 2<|.nil) 11 (sr [1,2,3,8,9] [3] (mv 12 8<|qq 13 (.bin .add (.t 12) (.c (.one (.p (.int .u64 1)))))<|mv 8 13<|.nil)<|
(sr [2,3,8,9,14] [3] (mv 14 1<|.nil)<|
(cd 14 (rg [2,3,8] [3]<|mv 15 9<|.op (some 16) none (.call (.t 15) [])<|.nil) .skip)))<|
(ib [2,3,25] [3] (qq 17 (.iaddrA 2 1 (.t 3) (ic 0))<|ld 18 1 false 17<|qq 19 (.bin .gtr (.t 18) (.c (.one (.p (.int .u64 0)))))<|mv 20 19<|.sc 25 20 false 24 none (.op (some 21) (some (20, false)) (.q (.iaddrA 2 1 (.t 3) (ic 1)))<|.op (some 22) (some (20, false)) (.q (.load 1 false (.t 21)))<|.op (some 23) (some (20, false)) (.q (.mov (.t 8)))<|.op (some 24) (some (20, false)) (.q (.bin .gtr (.t 22) (.t 23)))<|.nil)<|.nil) 25 (sr [6,7] [3] (mc 6 0<|mc 7 10<|.nil)<|
.ret)<|
(ib [3,26] [3] (mv 26 2<|.nil) 26 (sr [6,7] [3] (qq 27 (.iaddrA 2 1 (.t 3) (ic 1))<|ld 28 1 false 27<|qq 29 (.un .neg (.t 28))<|qq 30 (.conv .i64 (.t 29))<|mv 6 30<|mc 7 0<|.nil)<|
.ret)<|
(sr [6,7] [3] (qq 31 (.iaddrA 2 1 (.t 3) (ic 1))<|ld 32 1 false 31<|qq 33 (.conv .i64 (.t 32))<|mv 6 33<|mc 7 0<|.nil)<|
.ret)))))))
theorem pure_fix_wide_signed : PureT Try.prog fi_fix_wide_signed 34 a_fix_wide_signed [.tmp 6,.tmp 7] := pureT_of Try.call73 Try.func73
def a_fix_apart : ACode := (sr [0,1] [] (qq 4 (.mov (.c (.one (.p (.bool false)))))<|.nil)<|
(sr [4] [] (mv 5 0<|bc 6 .neq 5 0<|mv 7 6<|.sc 10 7 true 9 none (.op (some 8) (some (7, true)) (.q (.mov (.t 1)))<|.op (some 9) (some (7, true)) (.q (.bin .neq (.t 8) (ic 0)))<|.nil)<|mv 11 10<|.sc 17 11 true 16 none (.op (some 12) (some (11, true)) (.q (.mov (.t 0)))<|.op (some 13) (some (11, true)) (.q (.bin .lss (.t 12) (ic 0)))<|.op (some 14) (some (11, true)) (.q (.mov (.t 1)))<|.op (some 15) (some (11, true)) (.q (.bin .lss (.t 14) (ic 0)))<|.op (some 16) (some (11, true)) (.q (.eqB true (.t 13) (.t 15)))<|.nil)<|mv 4 17<|.nil)<|
.ret))
theorem pure_fix_apart : PureT Try.prog fi_fix_apart 18 a_fix_apart [.tmp 4] := pureT_of Try.call74 Try.func74
def a_slices_Equal_int_int : ACode := (sr [0,1] [] (qq 4 (.mov (.c (.one (.p (.bool false)))))<|.nil)<|
(ib [0,1,10] [] (mv 6 0<|le 7 6<|mv 8 1<|le 9 8<|bt 10 .neq 7 9<|.nil) 10 (sr [4] [] (qq 4 (.mov (.c (.one (.p (.bool false)))))<|.nil)<|
.ret)<|
(.seq (sr [0,1,12,13] [] (mv 11 0<|le 12 11<|mc 13 0<|.nil)<|
(.block 0 (.loop (sr [0,1,12,13,14] [] (bt 14 .lss 13 12<|.nil)<|
(.seq (cd 14 .skip (.exit 0))<|
(.seq (.block 1 (sr [0,1,5,12,13] [] (mv 15 13<|mv 5 15<|.nil)<|
(.seq (.region (some [[], [0], [], [], [0, 1, 2, 3], [0, 1, 2, 3, 4], [0, 1, 2, 3], [0, 1, 2, 3], []]) (mv 16 0<|mv 17 5<|ia 18 1 16 17<|ld 19 1 false 18<|mv 20 1<|mv 21 5<|ia 22 1 20 21<|ld 23 1 false 22<|bt 24 .neq 19 23<|.nil) [0,1,12,13,24] [])<|
(cd 24 (sr [4] [] (qq 4 (.mov (.c (.one (.p (.bool false)))))<|.nil)<|
.ret) .skip))))<|
(rg [0,1,12,13] []<|bc 25 .add 13 1<|mv 13 25<|.nil)))))))<|
(sr [4] [] (qq 4 (.mov (.c (.one (.p (.bool true)))))<|.nil)<|
.ret))))
theorem pure_slices_Equal_int_int : PureT Try.prog fi_slices_Equal_int_int 26 a_slices_Equal_int_int [.tmp 4] := pureT_of Try.call75 Try.func75
def a_move_sided : ACode := (sr [0,1,2] [] (qq 6 (.mov (.c (.one .nils)))<|.nil)<|
(sr [1,2,7] [] (mv 8 0<|cl 9 69 [8]<|mv 7 9<|.nil)<|
(sr [7] [] (mv 10 7<|mv 11 1<|mv 12 2<|ia 13 1 10 11<|st 1 13 12<|.nil)<|
(sr [6] [] (mv 14 7<|mv 6 14<|.nil)<|
.ret))))
theorem pure_move_sided : PureT Try.prog fi_move_sided 15 a_move_sided [.tmp 6] := pureT_of Try.call76 Try.func76
def a_move_shifted : ACode := (sr [1,2,3,4] [4] (nn 4 (.box 2 (.t 0))<|mc 8 0<|.nil)<|
(sr [1,2,3,4] [4] (mv 11 1<|cl 12 69 [11]<|mv 1 12<|.nil)<|
(sr [1,4] [4] (mv 13 1<|mv 14 2<|ia 15 1 13 14<|ld 16 1 false 15<|mv 17 3<|bt 18 .add 16 17<|ia 19 1 13 14<|st 1 19 18<|.nil)<|
(sr [9] [4] (ld 21 2 true 4<|mv 22 1<|cl 23 68 [21,22]<|mv 20 23<|xt 24 20 0<|xt 25 20 1<|mv 9 24<|mv 10 25<|.nil)<|
(sr [8] [4] (mv 26 9<|mv 8 26<|.nil)<|
.ret)))))
theorem pure_move_shifted : PureT Try.prog fi_move_shifted 27 a_move_shifted [.tmp 8] := pureT_of Try.call78 Try.func78
def a_move_Slice_1 : ACode := (sr [0,1,2,3] [] (mc 5 0<|.nil)<|
(sr [5] [] (ld 6 2 true 1<|mv 7 0<|ld 8 1 false 2<|ld 9 1 false 3<|cl 10 78 [6,7,8,9]<|mv 5 10<|.nil)<|
.ret))
theorem pure_move_Slice_1 : PureT Try.prog fi_move_Slice_1 11 a_move_Slice_1 [.tmp 5] := pureT_of Try.call79 Try.func79
def a_reduce_together : ACode := (sr [1,3,4,6,8] [4,6,8] (nn 4 (.box 2 (.t 0))<|nn 6 (.box 2 (.t 2))<|al 8 [.nils,.nils]<|mc 9 0<|.nil)<|
(sr [1,3,4,6,8,10,11] [4,6,8,10] (ld 17 2 true 4<|mv 18 1<|cl 19 104 [17,18]<|mv 16 19<|xt 20 16 0<|xt 21 16 1<|al 10 [(.p (.int .i64 0)),(.p (.int .i64 0)),(.p (.int .i64 0))]<|st 3 10 20<|mv 11 21<|.nil)<|
(ib [1,3,4,6,8,10,11,23] [4,6,8,10] (mv 22 11<|bc 23 .neq 22 0<|.nil) 23 (sr [8,9] [4,6,8,10] (qq 24 (.build [.nils,.nils] [])<|mv 25 11<|st 2 8 24<|mv 9 25<|.nil)<|
.ret)<|
(sr [3,4,6,8,10,12] [4,6,8,10,12] (fa 26 0 4<|ld 27 1 false 26<|cl 28 69 [27]<|mv 29 1<|mv 30 1<|bc 31 .add 30 1<|cl 32 122 [28,29,31]<|qq 33 (.build [.nils,.nils] [(0, 1, (.t 32))])<|al 12 [.nils,.nils]<|st 2 12 33<|.nil)<|
(.seq (sr [3,4,6,8,10,12,38,39] [4,6,8,10,12] (fa 34 0 10<|ld 35 1 false 34<|fa 36 2 10<|ld 37 1 false 36<|bt 38 .mul 35 37<|mc 39 0<|.nil)<|
(.block 0 (.loop (sr [3,4,6,8,10,12,38,39,40] [4,6,8,10,12] (bt 40 .lss 39 38<|.nil)<|
(.seq (cd 40 .skip (.exit 0))<|
(.seq (.block 1 (sr [3,4,6,8,10,12,13,38,39] [4,6,8,10,12] (mv 41 39<|mv 13 41<|.nil)<|
(.seq (.region (some [[], [0], [0], [0, 1, 2], [0, 1, 2, 3], [0, 1, 2], [0], [0], [], []]) (mv 42 3<|fa 43 1 4<|ld 44 1 false 43<|ld 45 3 true 10<|mv 46 13<|.op (some 47) none (.call (.c (.one (.p (.fn fi_reduce_lane_at [] [])))) [(.t 45),(.t 46),(ic 0)])<|ia 48 1 44 47<|ld 49 1 false 48<|.op (some 50) none (.call (.t 42) [(.t 49)])<|mv 14 50<|.nil) [3,4,6,8,10,12,13,14,38,39] [4,6,8,10,12])<|
(.seq (sr [3,4,6,8,10,12,13,14,38,39,52,53] [4,6,8,10,12] (fa 51 1 10<|ld 52 1 false 51<|mc 53 0<|.nil)<|
(.block 2 (.loop (sr [3,4,6,8,10,12,13,14,38,39,52,53,54] [4,6,8,10,12] (bt 54 .lss 53 52<|.nil)<|
(.seq (cd 54 .skip (.exit 2))<|
(.seq (.block 3 (sr [3,4,6,8,10,12,13,14,15,38,39,52,53] [4,6,8,10,12] (mv 55 53<|mv 15 55<|.nil)<|
(.seq (.region (some [[], [], [0, 1], [0, 1, 2], [0, 1, 2], [0, 1, 2, 3, 4], [0, 1, 2, 3, 4, 5], [0, 1, 2, 3, 4, 5, 6], [0, 1, 2, 3, 4], [0, 1, 2], [0, 1, 2], [], [], [], [13], [14], []]) (fa 57 0 6<|ld 58 1 false 57<|mv 59 14<|fa 60 1 4<|ld 61 1 false 60<|ld 62 3 true 10<|mv 63 13<|mv 64 15<|cl 65 105 [62,63,64]<|ia 66 1 61 65<|ld 67 1 false 66<|.op (some 68) none (.call (.t 58) [(.t 59),(.t 67)])<|mv 56 68<|xt 69 56 0<|xt 70 56 1<|mv 14 69<|mv 11 70<|.nil) [3,4,6,8,10,11,12,13,14,38,39,52,53] [4,6,8,10,12])<|
(sr [3,4,6,8,10,11,12,13,14,38,39,52,53,72] [4,6,8,10,12] (mv 71 11<|bc 72 .neq 71 0<|.nil)<|
(cd 72 (sr [8,9] [4,6,8,10,12] (qq 73 (.build [.nils,.nils] [])<|mv 74 11<|st 2 8 73<|mv 9 74<|.nil)<|
.ret) .skip)))))<|
(rg [3,4,6,8,10,12,13,14,38,39,52,53] [4,6,8,10,12]<|bc 75 .add 53 1<|mv 53 75<|.nil)))))))<|
(.seq (sr [3,4,6,8,10,11,12,14,38,39] [4,6,8,10,12] (fa 77 1 6<|ld 78 1 false 77<|mv 79 14<|fa 80 1 10<|ld 81 1 false 80<|.op (some 82) none (.call (.t 78) [(.t 79),(.t 81)])<|mv 76 82<|xt 83 76 0<|xt 84 76 1<|mv 14 83<|mv 11 84<|.nil)<|
(sr [3,4,6,8,10,11,12,14,38,39,86] [4,6,8,10,12] (mv 85 11<|bc 86 .neq 85 0<|.nil)<|
(cd 86 (sr [8,9] [4,6,8,10,12] (qq 87 (.build [.nils,.nils] [])<|mv 88 11<|st 2 8 87<|mv 9 88<|.nil)<|
.ret) .skip)))<|
(rg [3,4,6,8,10,12,38,39] [4,6,8,10,12,92,93]<|fa 89 1 12<|ld 90 1 false 89<|mv 91 14<|nn 92 (.lit 1 1 [(.int .i64 0)] [(0, (.t 91))])<|sd 93 (.app 1 8 (.t 90) (.t 92))<|fa 94 1 12<|st 1 94 93<|.nil))))))<|
(rg [3,4,6,8,10,12,38,39] [4,6,8,10,12,92,93]<|bc 95 .add 39 1<|mv 39 95<|.nil)))))))<|
(sr [8,9] [4,6,8,10,12,92,93] (ld 96 2 true 12<|st 2 8 96<|mc 9 0<|.nil)<|
.ret))))))
theorem pure_reduce_together : PureT Try.prog fi_reduce_together 97 a_reduce_together [.cell 2 true 8,.tmp 9] := pureT_of Try.call80 Try.func80
def a_reduce_done : ACode := (sr [0] [] (mc 4 0<|mc 5 0<|.nil)<|
(sr [4,5] [] (mv 6 0<|mv 4 6<|mc 5 0<|.nil)<|
.ret))
theorem pure_reduce_done : PureT Try.prog fi_reduce_done 7 a_reduce_done [.tmp 4,.tmp 5] := pureT_of Try.call81 Try.func81
def a_reduce_none : ACode := (sr [] [] (mc 2 0<|.nil)<|
(sr [2] [] (mc 2 0<|.nil)<|
.ret))
theorem pure_reduce_none : PureT Try.prog fi_reduce_none 3 a_reduce_none [.tmp 2] := pureT_of Try.call82 Try.func82
def a_elem_kinds : ACode := (sr [] [] (qq 0 (.mov (.c (.one (.raw (.map none)))))<|.nil)<|
(sr [1] [] (qq 1 (.mov (.c (.one (.p (.fn fi_elem_kinds_1 [] [])))))<|.nil)<|
(sr [0] [2] (nn 2 .mkM<|qq 3 (.build [(.p .nilF),(.p .nilF)] [(1, 1, (.c (.one (.p (.fn fi_fix_Add [] [])))))])<|ss (.mput (.t 2) (ic 10) (.t 3))<|qq 4 (.build [(.p .nilF),(.p .nilF)] [(1, 1, (.c (.one (.p (.fn fi_fix_Sub [] [])))))])<|ss (.mput (.t 2) (ic 11) (.t 4))<|qq 5 (.build [(.p .nilF),(.p .nilF)] [(1, 1, (.c (.one (.p (.fn fi_fix_Mul [] [])))))])<|ss (.mput (.t 2) (ic 12) (.t 5))<|qq 6 (.build [(.p .nilF),(.p .nilF)] [(1, 1, (.c (.one (.p (.fn fi_fix_Div [] [])))))])<|ss (.mput (.t 2) (ic 13) (.t 6))<|qq 7 (.build [(.p .nilF),(.p .nilF)] [(0, 1, (.c (.one (.p (.fn fi_fix_Neg [] [])))))])<|ss (.mput (.t 2) (ic 20) (.t 7))<|mv 8 1<|qq 9 (.build [(.p .nilF),(.p .nilF)] [(0, 1, (.t 8))])<|ss (.mput (.t 2) (ic 21) (.t 9))<|qq 10 (.build [(.p .nilF),(.p .nilF)] [(0, 1, (.c (.one (.p (.fn fi_fix_Pow [] [])))))])<|ss (.mput (.t 2) (ic 22) (.t 10))<|qq 11 (.build [(.p .nilF),(.p .nilF)] [(0, 1, (.c (.one (.p (.fn fi_fix_Sqrt [] [])))))])<|ss (.mput (.t 2) (ic 23) (.t 11))<|mv 12 2<|mv 0 12<|.nil)<|
.ret)))
theorem pure_elem_kinds : PureT Try.prog fi_elem_kinds 13 a_elem_kinds [.tmp 0] := pureT_of Try.call83 Try.func83
def a_elem_each : ACode := (sr [0,1,4] [4] (al 4 [.nils,.nils]<|mc 5 0<|.nil)<|
(sr [0,1,4,6] [4,6] (mv 10 0<|cl 11 69 [10]<|qq 12 (.build [.nils,.nils] [(0, 1, (.t 11))])<|al 6 [.nils,.nils]<|st 2 6 12<|.nil)<|
(.seq (sr [1,4,6,14,15] [4,6] (mv 13 0<|cl 14 64 [13]<|mc 15 0<|.nil)<|
(.block 0 (.loop (sr [1,4,6,14,15,16] [4,6] (bt 16 .lss 15 14<|.nil)<|
(.seq (cd 16 .skip (.exit 0))<|
(.seq (.block 1 (sr [1,4,6,7,14,15] [4,6] (mv 17 15<|mv 7 17<|.nil)<|
(sr [1,4,6,8,9,14,15] [4,6] (mv 19 1<|mv 20 7<|.op (some 21) none (.call (.t 19) [(.t 20)])<|mv 18 21<|xt 22 18 0<|xt 23 18 1<|mv 8 22<|mv 9 23<|.nil)<|
(ib [1,4,6,8,9,14,15,25] [4,6] (mv 24 9<|bc 25 .neq 24 0<|.nil) 25 (sr [4,5] [4,6] (qq 26 (.build [.nils,.nils] [])<|mv 27 9<|st 2 4 26<|mv 5 27<|.nil)<|
.ret)<|
(rg [1,4,6,14,15] [4,6,31,32]<|fa 28 1 6<|ld 29 1 false 28<|mv 30 8<|nn 31 (.lit 1 1 [(.int .i64 0)] [(0, (.t 30))])<|sd 32 (.app 1 8 (.t 29) (.t 31))<|fa 33 1 6<|st 1 33 32<|.nil)))))<|
(rg [1,4,6,14,15] [4,6,31,32]<|bc 34 .add 15 1<|mv 15 34<|.nil)))))))<|
(sr [4,5] [4,6,31,32] (ld 35 2 true 6<|st 2 4 35<|mc 5 0<|.nil)<|
.ret))))
theorem pure_elem_each : PureT Try.prog fi_elem_each 36 a_elem_each [.cell 2 true 4,.tmp 5] := pureT_of Try.call84 Try.func84
def a_elem_Two_1 : ACode := (sr [0,1,2,3] [] (mc 5 0<|mc 6 0<|.nil)<|
(.seq (.region (some [[], [], [0, 1], [0, 1], [0, 1, 2, 3], [0, 1], [0, 1], [0, 1, 2, 3, 4, 5, 6], [0, 1, 2, 3, 4, 5, 6], [0, 1, 2, 3, 4, 5, 6, 7, 8], [0, 1, 2, 3, 4, 5, 6], [0, 1, 2, 3, 4, 5, 6], [], [], [13], [], []]) (fa 7 1 1<|ld 8 1 false 7<|fa 9 1 2<|ld 10 1 false 9<|mv 11 0<|ia 12 1 10 11<|ld 13 1 false 12<|fa 14 1 3<|ld 15 1 false 14<|mv 16 0<|ia 17 1 15 16<|ld 18 1 false 17<|.op (some 19) none (.call (.t 8) [(.t 13),(.t 18)])<|xt 20 19 0<|xt 21 19 1<|mv 5 20<|mv 6 21<|.nil) [5,6] [])<|
.ret))
theorem pure_elem_Two_1 : PureT Try.prog fi_elem_Two_1 22 a_elem_Two_1 [.tmp 5,.tmp 6] := pureT_of Try.call87 Try.func87
def a_shape_Fits : ACode := (sr [0,1] [] (qq 4 (.mov (.c (.one (.p (.bool false)))))<|.nil)<|
(sr [1,5,6] [] (mv 8 0<|mv 9 1<|cl 10 43 [8,9]<|mv 7 10<|xt 11 7 0<|xt 12 7 1<|mv 5 11<|mv 6 12<|.nil)<|
(sr [4] [] (mv 13 6<|bc 14 .eql 13 0<|mv 15 14<|.sc 19 15 true 18 none (.op (some 16) (some (15, true)) (.q (.mov (.t 5)))<|.op (some 17) (some (15, true)) (.q (.mov (.t 1)))<|.op (some 18) (some (15, true)) (.call (.c (.one (.p (.fn fi_slices_Equal_int_int [] [])))) [(.t 16),(.t 17)])<|.nil)<|mv 4 19<|.nil)<|
.ret)))
theorem pure_shape_Fits : PureT Try.prog fi_shape_Fits 20 a_shape_Fits [.tmp 4] := pureT_of Try.call91 Try.func91
def a_tensor_from : ACode := (sr [2,3] [2,3] (nn 2 (.box 1 (.t 0))<|nn 3 (.box 1 (.t 1))<|qq 4 (.mov (.c (.one (.p .nilF))))<|.nil)<|
(sr [4] [2,3] (qq 5 (.mkF fi_tensor_from_1 [] [(.t 3),(.t 2)])<|mv 4 5<|.nil)<|
.ret))
theorem pure_tensor_from : PureT Try.prog fi_tensor_from 6 a_tensor_from [.tmp 4] := pureT_of Try.call92 Try.func92
def a_shape_side : ACode := (sr [0,1] [] (mc 4 0<|.nil)<|
(ib [0,1,8] [] (mv 5 1<|mv 6 0<|le 7 6<|bt 8 .geq 5 7<|.nil) 8 (sr [4] [] (mc 4 1<|.nil)<|
.ret)<|
(sr [4] [] (mv 9 0<|mv 10 0<|le 11 10<|bc 12 .sub 11 1<|mv 13 1<|bt 14 .sub 12 13<|ia 15 1 9 14<|ld 16 1 false 15<|mv 4 16<|.nil)<|
.ret)))
theorem pure_shape_side : PureT Try.prog fi_shape_side 17 a_shape_side [.tmp 4] := pureT_of Try.call93 Try.func93
def a_reduce_share : ACode := (sr [0,1] [] (mc 4 0<|mc 5 0<|.nil)<|
(sr [4,5] [] (mv 6 0<|mv 7 1<|bc 8 .mul 7 4294967296<|cl 9 125 [6,8]<|xt 10 9 0<|xt 11 9 1<|mv 4 10<|mv 5 11<|.nil)<|
.ret))
theorem pure_reduce_share : PureT Try.prog fi_reduce_share 12 a_reduce_share [.tmp 4,.tmp 5] := pureT_of Try.call99 Try.func99
def a_reduce_most : ACode := (sr [0,1] [] (mc 4 0<|mc 5 0<|.nil)<|
(sr [4,5] [] (mv 6 0<|mv 7 1<|qq 8 (.mm true (.t 6) (.t 7))<|mv 4 8<|mc 5 0<|.nil)<|
.ret))
theorem pure_reduce_most : PureT Try.prog fi_reduce_most 9 a_reduce_most [.tmp 4,.tmp 5] := pureT_of Try.call101 Try.func101
def a_reduce_same : ACode := (sr [0] [] (mc 2 0<|.nil)<|
(sr [2] [] (mv 3 0<|mv 2 3<|.nil)<|
.ret))
theorem pure_reduce_same : PureT Try.prog fi_reduce_same 4 a_reduce_same [.tmp 2] := pureT_of Try.call102 Try.func102
def a_reduce_lanes : ACode := (sr [1,2,4] [2,4] (nn 2 (.box 2 (.t 0))<|al 4 [(.p (.int .i64 0)),(.p (.int .i64 0)),(.p (.int .i64 0))]<|mc 5 0<|.nil)<|
(.seq (.block 0 (sr [1,2,4,6] [2,4] (ld 7 2 true 2<|cl 8 28 [7]<|qq 9 (.un .not (.t 8))<|mv 6 9<|.nil)<|
(cd 6 (sr [4,5] [2,4] (qq 10 (.build [(.p (.int .i64 0)),(.p (.int .i64 0)),(.p (.int .i64 0))] [])<|st 3 4 10<|mc 5 30<|.nil)<|
.ret) (sr [1,2,4,11] [2,4] (mv 12 1<|bc 13 .lss 12 0<|mv 14 13<|.sc 20 14 false 19 none (.op (some 15) (some (14, false)) (.q (.mov (.t 1)))<|.op (some 16) (some (14, false)) (.q (.faddr 0 (.t 2)))<|.op (some 17) (some (14, false)) (.q (.load 1 false (.t 16)))<|.op (some 18) (some (14, false)) (.q (.len (.t 17)))<|.op (some 19) (some (14, false)) (.q (.bin .geq (.t 15) (.t 18)))<|.nil)<|mv 11 20<|.nil)<|
(cd 11 (sr [4,5] [2,4] (qq 21 (.build [(.p (.int .i64 0)),(.p (.int .i64 0)),(.p (.int .i64 0))] [])<|st 3 4 21<|mc 5 20<|.nil)<|
.ret) .skip)))))<|
(.seq (.region (some [[], [], [0, 1], [], [], [0, 1, 2, 3, 4], [0, 1, 2, 3, 4], [0, 1, 2, 3, 4, 5, 6], [0, 1, 2, 3, 4], [0, 1, 2, 3, 4], [0, 1, 2, 3, 4, 5, 6, 7, 8, 9], [0, 1, 2, 3, 4, 5, 6, 7, 8, 9], [0, 1, 2, 3, 4, 5, 6, 7, 8, 9, 10, 11], [0, 1, 2, 3, 4, 5, 6, 7, 8, 9, 10, 11], [0, 1, 2, 3, 4, 5, 6, 7, 8, 9], [5, 6, 7, 8, 9], [], [], []]) (fa 22 0 2<|ld 23 1 false 22<|mv 24 1<|qq 25 (.slc 1 (.t 23) none (some (.t 24)) none)<|cl 26 64 [25]<|fa 27 0 2<|ld 28 1 false 27<|mv 29 1<|ia 30 1 28 29<|ld 31 1 false 30<|fa 32 0 2<|ld 33 1 false 32<|mv 34 1<|bc 35 .add 34 1<|qq 36 (.slc 1 (.t 33) (some (.t 35)) none none)<|cl 37 64 [36]<|qq 38 (.build [(.p (.int .i64 0)),(.p (.int .i64 0)),(.p (.int .i64 0))] [(0, 1, (.t 26)),(1, 1, (.t 31)),(2, 1, (.t 37))])<|st 3 4 38<|mc 5 0<|.nil) [4,5] [2,4])<|
.ret)))
theorem pure_reduce_lanes : PureT Try.prog fi_reduce_lanes 39 a_reduce_lanes [.cell 3 true 4,.tmp 5] := pureT_of Try.call104 Try.func104
def a_reduce_lane_at : ACode := (sr [1,2,3] [3] (nn 3 (.box 3 (.t 0))<|mc 6 0<|.nil)<|
(.seq (.region (some [[], [0], [0], [], [0, 1, 2, 3], [0, 1, 2, 3], [], [0, 1, 2, 3, 4, 5, 6], [], [0, 1, 2, 3, 4, 5, 6, 7, 8], [0, 1, 2, 3, 4, 5, 6, 7, 8], [], [0, 1, 2, 3, 4, 5, 6, 7, 8, 9, 10, 11], [0, 1, 2, 3, 4, 5, 6, 7, 8, 9, 10, 11, 12], [0, 1, 2, 3, 4, 5, 6, 7, 8, 9, 10, 11, 12], [0, 1, 2, 3, 4, 5, 6, 7, 8, 9, 10, 11], [], []]) (mv 7 1<|fa 8 2 3<|ld 9 1 false 8<|bt 10 .quo 7 9<|fa 11 1 3<|ld 12 1 false 11<|bt 13 .mul 10 12<|mv 14 2<|bt 15 .add 13 14<|fa 16 2 3<|ld 17 1 false 16<|bt 18 .mul 15 17<|mv 19 1<|fa 20 2 3<|ld 21 1 false 20<|bt 22 .rem 19 21<|bt 23 .add 18 22<|mv 6 23<|.nil) [6] [3])<|
.ret))
theorem pure_reduce_lane_at : PureT Try.prog fi_reduce_lane_at 24 a_reduce_lane_at [.tmp 6] := pureT_of Try.call105 Try.func105
def a_slices_Insert_int_int : ACode := (sr [0,1,2] [] (qq 6 (.mov (.c (.one .nils)))<|.nil)<|
(sr [0,1,2] [] (mv 10 0<|mv 11 1<|qq 12 (.slc 1 (.t 10) (some (.t 11)) none none)<|.nil)<|
(sr [0,1,2,7] [] (mv 13 2<|le 14 13<|mv 7 14<|.nil)<|
(ib [0,1,2,7,16] [] (mv 15 7<|bc 16 .eql 15 0<|.nil) 16 (sr [6] [] (mv 17 0<|mv 6 17<|.nil)<|
.ret)<|
(sr [0,1,2,7,8] [] (mv 18 0<|le 19 18<|mv 8 19<|.nil)<|
(ib [0,1,2,7,8,22] [] (mv 20 1<|mv 21 8<|bt 22 .eql 20 21<|.nil) 22 (sr [6] [25] (mv 23 0<|mv 24 2<|sd 25 (.app 1 8 (.t 23) (.t 24))<|mv 6 25<|.nil)<|
.ret)<|
(ib [0,1,2,7,8,31] [25] (mv 26 8<|mv 27 7<|bt 28 .add 26 27<|mv 29 0<|qq 30 (.cap (.t 29))<|bt 31 .gtr 28 30<|.nil) 31 (sr [0,1,2,7,9] [25,40] (mv 32 0<|mv 33 1<|qq 34 (.slc 1 (.t 32) none (some (.t 33)) none)<|mv 35 8<|mv 36 7<|bt 37 .add 35 36<|mv 38 1<|bt 39 .sub 37 38<|sd 40 (.app 1 1073741832 (.t 34) (.t 39))<|mv 9 40<|.nil)<|
(sr [0,1,7,9] [25,40] (mv 41 9<|mv 42 1<|qq 43 (.slc 1 (.t 41) (some (.t 42)) none none)<|mv 44 2<|sd 45 (.copy 1 (.t 43) (.t 44))<|.nil)<|
(.seq (.region (some [[], [0], [0, 1], [0], [], [0, 1, 2, 3, 4], [0, 1, 2, 3, 4, 5], [0, 1, 2, 3, 4], []]) (mv 46 9<|mv 47 1<|mv 48 7<|bt 49 .add 47 48<|qq 50 (.slc 1 (.t 46) (some (.t 49)) none none)<|mv 51 0<|mv 52 1<|qq 53 (.slc 1 (.t 51) (some (.t 52)) none none)<|sd 54 (.copy 1 (.t 50) (.t 53))<|.nil) [9] [25,40])<|
(sr [6] [25,40] (mv 55 9<|mv 6 55<|.nil)<|
.ret))))<|
(sr [0,1,2,7,8] [25,40] (mv 56 0<|mv 57 8<|mv 58 7<|bt 59 .add 57 58<|qq 60 (.slc 1 (.t 56) none (some (.t 59)) none)<|mv 0 60<|.nil)<|
(ib [0,1,2,7,8,68] [25,40] (mv 61 2<|mv 62 0<|mv 63 1<|mv 64 7<|bt 65 .add 63 64<|qq 66 (.slc 1 (.t 62) (some (.t 65)) none none)<|qq 67 (.ovl 1 (.t 61) (.t 66))<|qq 68 (.un .not (.t 67))<|.nil) 68 (.seq (.region (some [[], [0], [0, 1], [0], [], [0, 1, 2, 3, 4], [0, 1, 2, 3, 4, 5], [0, 1, 2, 3, 4], []]) (mv 69 0<|mv 70 1<|mv 71 7<|bt 72 .add 70 71<|qq 73 (.slc 1 (.t 69) (some (.t 72)) none none)<|mv 74 0<|mv 75 1<|qq 76 (.slc 1 (.t 74) (some (.t 75)) none none)<|sd 77 (.copy 1 (.t 73) (.t 76))<|.nil) [0,1,2] [25,40])<|
(sr [0] [25,40] (mv 78 0<|mv 79 1<|qq 80 (.slc 1 (.t 78) (some (.t 79)) none none)<|mv 81 2<|sd 82 (.copy 1 (.t 80) (.t 81))<|.nil)<|
(sr [6] [25,40] (mv 83 0<|mv 6 83<|.nil)<|
.ret)))<|
(sr [0,1,7] [25,40] (mv 84 0<|mv 85 8<|qq 86 (.slc 1 (.t 84) (some (.t 85)) none none)<|mv 87 2<|sd 88 (.copy 1 (.t 86) (.t 87))<|.nil)<|
(sr [0] [25,40] (mv 89 0<|mv 90 1<|qq 91 (.slc 1 (.t 89) (some (.t 90)) none none)<|mv 92 7<|cl 93 142 [91,92]<|.nil)<|
(sr [6] [25,40] (mv 94 0<|mv 6 94<|.nil)<|
.ret))))))))))))
theorem mut_slices_Insert_int_int : MutT Try.prog fi_slices_Insert_int_int 95 a_slices_Insert_int_int [.tmp 6] := mutT_of Try.call108 Try.func108
def a_fix_told : ACode := (sr [0,1] [] (mc 4 0<|mc 5 0<|.nil)<|
(ib [0,7] [] (mv 6 1<|qq 7 (.un .not (.t 6))<|.nil) 7 (sr [4,5] [] (mc 4 0<|mc 5 10<|.nil)<|
.ret)<|
(sr [4,5] [] (mv 8 0<|mv 4 8<|mc 5 0<|.nil)<|
.ret)))
theorem pure_fix_told : PureT Try.prog fi_fix_told 9 a_fix_told [.tmp 4,.tmp 5] := pureT_of Try.call111 Try.func111
def a_move_indices : ACode := (sr [1] [1] (nn 1 (.box 1 (.t 0))<|qq 2 (.mov (.c (.one (.p .nilF))))<|.nil)<|
(sr [2] [1] (qq 3 (.mkF fi_move_indices_1 [] [(.t 1)])<|mv 2 3<|.nil)<|
.ret))
theorem pure_move_indices : PureT Try.prog fi_move_indices 4 a_move_indices [.tmp 2] := pureT_of Try.call116 Try.func116
def a_shape_Place : ACode := (sr [0,1] [] (mc 4 0<|mc 5 0<|.nil)<|
(ib [0,1,18] [] (mv 9 0<|cl 10 55 [9]<|qq 11 (.un .not (.t 10))<|mv 12 11<|.sc 18 12 false 17 none (.op (some 13) (some (12, false)) (.q (.mov (.t 1)))<|.op (some 14) (some (12, false)) (.q (.len (.t 13)))<|.op (some 15) (some (12, false)) (.q (.mov (.t 0)))<|.op (some 16) (some (12, false)) (.q (.len (.t 15)))<|.op (some 17) (some (12, false)) (.q (.bin .neq (.t 14) (.t 16)))<|.nil)<|.nil) 18 (sr [4,5] [] (mc 4 0<|mc 5 20<|.nil)<|
.ret)<|
(sr [0,1,6] [] (mc 6 0<|.nil)<|
(.seq (sr [1,6,19,20,21] [] (mv 19 0<|le 20 19<|mc 21 0<|.nil)<|
(.block 0 (.loop (sr [1,6,19,20,21,22] [] (bt 22 .lss 21 20<|.nil)<|
(.seq (cd 22 .skip (.exit 0))<|
(.seq (.block 1 (sr [1,6,7,8,19,20,21] [] (mv 23 21<|ia 24 1 19 21<|ld 25 1 false 24<|mv 7 23<|mv 8 25<|.nil)<|
(ib [1,6,7,8,19,20,21,38] [] (mv 26 1<|mv 27 7<|ia 28 1 26 27<|ld 29 1 false 28<|bc 30 .lss 29 0<|mv 31 30<|.sc 38 31 false 37 none (.op (some 32) (some (31, false)) (.q (.mov (.t 1)))<|.op (some 33) (some (31, false)) (.q (.mov (.t 7)))<|.op (some 34) (some (31, false)) (.q (.iaddr 1 (.t 32) (.t 33)))<|.op (some 35) (some (31, false)) (.q (.load 1 false (.t 34)))<|.op (some 36) (some (31, false)) (.q (.mov (.t 8)))<|.op (some 37) (some (31, false)) (.q (.bin .geq (.t 35) (.t 36)))<|.nil)<|.nil) 38 (sr [4,5] [] (mc 4 0<|mc 5 20<|.nil)<|
.ret)<|
(rg [1,6,19,20,21] []<|mv 39 6<|mv 40 8<|bt 41 .mul 39 40<|mv 42 1<|mv 43 7<|ia 44 1 42 43<|ld 45 1 false 44<|bt 46 .add 41 45<|mv 6 46<|.nil))))<|
(rg [1,6,19,20,21] []<|bc 47 .add 21 1<|mv 21 47<|.nil)))))))<|
(sr [4,5] [] (mv 48 6<|mv 4 48<|mc 5 0<|.nil)<|
.ret)))))
theorem pure_shape_Place : PureT Try.prog fi_shape_Place 49 a_shape_Place [.tmp 4,.tmp 5] := pureT_of Try.call118 Try.func118
def a_math_bits_Mul : ACode := (sr [0,1] [] (qq 4 (.mov (.c (.one (.p (.int .u64 0)))))<|qq 5 (.mov (.c (.one (.p (.int .u64 0)))))<|.nil)<|
(.seq (.cond (.c (.one (.p (.bool false)))) (sr [6,7] [] (mv 11 0<|qq 12 (.conv .u32 (.t 11))<|mv 13 1<|qq 14 (.conv .u32 (.t 13))<|cl 15 145 [12,14]<|mv 10 15<|xt 16 10 0<|xt 17 10 1<|mv 6 16<|mv 7 17<|.nil)<|
(sr [4,5] [] (mv 18 6<|qq 19 (.conv .u64 (.t 18))<|mv 20 7<|qq 21 (.conv .u64 (.t 20))<|mv 4 19<|mv 5 21<|.nil)<|
.ret))
 .skip)<|
(sr [8,9] [] (mv 23 0<|mv 24 1<|cl 25 71 [23,24]<|mv 22 25<|xt 26 22 0<|xt 27 22 1<|mv 8 26<|mv 9 27<|.nil)<|
(sr [4,5] [] (mv 28 8<|mv 29 9<|mv 4 28<|mv 5 29<|.nil)<|
.ret))))
theorem pure_math_bits_Mul : PureT Try.prog fi_math_bits_Mul 30 a_math_bits_Mul [.tmp 4,.tmp 5] := pureT_of Try.call119 Try.func119
def a_fix_wide_signed_1 : ACode := (sr [0] [] (qq 1 (.mov (.c (.one (.p (.int .u64 0)))))<|.nil)<|
(sr [0,1] [] (qq 3 (.iaddrA 2 1 (.t 0) (ic 1))<|ld 4 1 false 3<|qq 5 (.carry false (.t 4) (.c (.one (.p (.int .u64 1)))) (.c (.one (.p (.int .u64 0)))))<|mv 2 5<|xt 6 2 0<|xt 7 2 1<|qq 8 (.iaddrA 2 1 (.t 0) (ic 1))<|st 1 8 6<|mv 1 7<|.nil)<|
(rg [] []<|qq 9 (.iaddrA 2 1 (.t 0) (ic 0))<|ld 10 1 false 9<|mv 11 1<|bt 12 .add 10 11<|qq 13 (.iaddrA 2 1 (.t 0) (ic 0))<|st 1 13 12<|.nil)))
theorem mut_fix_wide_signed_1 : MutT Try.prog fi_fix_wide_signed_1 14 a_fix_wide_signed_1 [] := mutT_of Try.call120 Try.func120
def a_slices_Delete_int_int : ACode := (sr [0,1,2] [] (qq 6 (.mov (.c (.one .nils)))<|.nil)<|
(sr [0,1,2] [] (mv 8 0<|mv 9 1<|mv 10 2<|mv 11 0<|le 12 11<|qq 13 (.slc 1 (.t 8) (some (.t 9)) (some (.t 10)) (some (.t 12)))<|.nil)<|
(ib [0,1,2,16] [] (mv 14 1<|mv 15 2<|bt 16 .eql 14 15<|.nil) 16 (sr [6] [] (mv 17 0<|mv 6 17<|.nil)<|
.ret)<|
(sr [0,1,2,7] [] (mv 18 0<|le 19 18<|mv 7 19<|.nil)<|
(.seq (.region (some [[], [0], [], [0, 1, 2], [0, 1, 2, 3], [0, 1, 2], [], []]) (mv 20 0<|mv 21 1<|qq 22 (.slc 1 (.t 20) none (some (.t 21)) none)<|mv 23 0<|mv 24 2<|qq 25 (.slc 1 (.t 23) (some (.t 24)) none none)<|sd 26 (.app 1 8 (.t 22) (.t 25))<|mv 0 26<|.nil) [0,7] [26])<|
(sr [0] [26] (mv 27 0<|mv 28 0<|le 29 28<|mv 30 7<|qq 31 (.slc 1 (.t 27) (some (.t 29)) (some (.t 30)) none)<|ss (.clr 1 [(.int .i64 0)] (.t 31))<|.nil)<|
(sr [6] [26] (mv 32 0<|mv 6 32<|.nil)<|
.ret)))))))
theorem mut_slices_Delete_int_int : MutT Try.prog fi_slices_Delete_int_int 33 a_slices_Delete_int_int [.tmp 6] := mutT_of Try.call122 Try.func122
def a_fix_Div : ACode := (sr [0,1] [] (mc 4 0<|mc 5 0<|.nil)<|
(ib [0,1,13] [] (mv 12 1<|bc 13 .eql 12 0<|.nil) 13 (sr [4,5] [] (mc 4 0<|mc 5 11<|.nil)<|
.ret)<|
(sr [0,1,6,7] [] (mv 14 0<|cl 15 72 [14]<|mv 16 1<|cl 17 72 [16]<|mv 6 15<|mv 7 17<|.nil)<|
(sr [0,1,6,7,8] [8] (nn 8 (.allocA 1 [[(.int .u64 0)],[(.int .u64 0)]])<|.nil)<|
(sr [0,1,7,8,9,10] [8] (mv 18 6<|qq 19 (.bin .shr (.t 18) (.c (.one (.p (.int .u64 32)))))<|mv 20 6<|qq 21 (.bin .shl (.t 20) (.c (.one (.p (.int .u64 32)))))<|mv 9 19<|mv 10 21<|.nil)<|
(.seq (.region (some [[], [0], [], [0, 1, 2], [0, 1, 2, 3], [0, 1, 2], [3, 4, 5], [3, 4, 5], []]) (mv 22 9<|mv 23 7<|bt 24 .quo 22 23<|mv 25 9<|mv 26 7<|bt 27 .rem 25 26<|qq 28 (.iaddrA 2 1 (.t 8) (ic 0))<|st 1 28 24<|mv 9 27<|.nil) [0,1,7,8,9,10] [8])<|
(sr [0,1,7,8,9,10] [8] (qq 11 (.mov (.c (.one (.p (.int .u64 0)))))<|.nil)<|
(sr [0,1,8,11] [8] (mv 30 9<|mv 31 10<|mv 32 7<|cl 33 146 [30,31,32]<|mv 29 33<|xt 34 29 0<|xt 35 29 1<|qq 36 (.iaddrA 2 1 (.t 8) (ic 1))<|st 1 36 34<|mv 11 35<|.nil)<|
(.seq (.region (some [[], [0], [0], [0, 1, 2], [0, 1, 2, 3], [0, 1, 2], [], [], [7], [], []]) (ld 37 2 true 8<|mv 38 11<|qq 39 (.bin .neq (.t 38) (.c (.one (.p (.int .u64 0)))))<|mv 40 0<|mv 41 1<|cl 42 74 [40,41]<|cl 43 73 [37,39,42]<|xt 44 43 0<|xt 45 43 1<|mv 4 44<|mv 5 45<|.nil) [4,5] [8])<|
.ret)))))))))
theorem pure_fix_Div : PureT Try.prog fi_fix_Div 46 a_fix_Div [.tmp 4,.tmp 5] := pureT_of Try.call125 Try.func125
def a_tensor_from_1 : ACode := (sr [0,1,2,4] [15] (ld 13 1 false 1<|le 14 13<|nn 15 (.mkS 1 8 [(.int .i64 0)] (.t 14) (.t 14))<|mv 4 15<|.nil)<|
(.seq (sr [0,1,2,4,5,6] [15] (ld 16 1 false 2<|le 17 16<|bc 18 .sub 17 1<|mv 5 18<|mc 6 1<|.nil)<|
(.block 0 (.loop (.seq (sr [0,1,2,4,5,6,20] [15] (mv 19 5<|bc 20 .geq 19 0<|.nil)<|
(cd 20 .skip (.exit 0)))<|
(.seq (.block 1 (ib [0,1,2,4,5,6,27] [15] (ld 23 1 false 2<|mv 24 5<|ia 25 1 23 24<|ld 26 1 false 25<|bc 27 .gtr 26 1<|.nil) 27 (rg [0,1,2,4,5,6] [15]<|mv 28 4<|ld 29 1 false 1<|le 30 29<|ld 31 1 false 2<|le 32 31<|bt 33 .sub 30 32<|mv 34 5<|bt 35 .add 33 34<|mv 36 6<|ia 37 1 28 35<|st 1 37 36<|.nil)<|
(rg [0,1,2,4,5,6] [15]<|mv 38 6<|ld 39 1 false 2<|mv 40 5<|ia 41 1 39 40<|ld 42 1 false 41<|bt 43 .mul 38 42<|mv 6 43<|.nil)))<|
(rg [0,1,2,4,5,6] [15]<|mv 21 5<|bc 22 .sub 21 1<|mv 5 22<|.nil))))))<|
(sr [0,1,4,45,46] [15] (ld 44 1 false 1<|cl 45 64 [44]<|mc 46 0<|.nil)<|
(.block 2 (.loop (sr [0,1,4,45,46,47] [15] (bt 47 .lss 46 45<|.nil)<|
(.seq (cd 47 .skip (.exit 2))<|
(.seq (.block 3 (sr [0,1,4,7,45,46] [15] (mv 48 46<|mv 7 48<|.nil)<|
(sr [0,1,4,7,8,45,46] [15] (ld 50 1 false 1<|mv 51 7<|cl 52 137 [50,51]<|mv 49 52<|xt 53 49 0<|xt 54 49 1<|mv 8 53<|mv 9 54<|.nil)<|
(sr [0,1,4,7,8,10,45,46] [15] (mc 10 0<|.nil)<|
(.seq (sr [0,1,4,7,10,45,46,55,56,57] [15] (mv 55 8<|le 56 55<|mc 57 0<|.nil)<|
(.block 4 (.loop (sr [0,1,4,7,10,45,46,55,56,57,58] [15] (bt 58 .lss 57 56<|.nil)<|
(.seq (cd 58 .skip (.exit 4))<|
(.seq (.block 5 (sr [0,1,4,7,10,11,12,45,46,55,56,57] [15] (mv 59 57<|ia 60 1 55 57<|ld 61 1 false 60<|mv 11 59<|mv 12 61<|.nil)<|
(rg [0,1,4,7,10,45,46,55,56,57] [15]<|mv 62 10<|mv 63 12<|mv 64 4<|mv 65 11<|ia 66 1 64 65<|ld 67 1 false 66<|bt 68 .mul 63 67<|bt 69 .add 62 68<|mv 10 69<|.nil)))<|
(rg [0,1,4,7,10,45,46,55,56,57] [15]<|bc 70 .add 57 1<|mv 57 70<|.nil)))))))<|
(sr [0,1,4,45,46,75] [15] (mv 71 0<|mv 72 7<|mv 73 10<|.op (some 74) none (.call (.t 71) [(.t 72),(.t 73)])<|qq 75 (.un .not (.t 74))<|.nil)<|
(cd 75 .ret .skip)))))))<|
(rg [0,1,4,45,46] [15]<|bc 76 .add 46 1<|mv 46 76<|.nil)))))))))
theorem is_tensor_from_1 : compC Try.prog (Try.f136.body.getD .skip) = some a_tensor_from_1.erase := by kernel_rfl
theorem ok_tensor_from_1 : a_tensor_from_1.ok 77 = true := by kernel_rfl
theorem rv_tensor_from_1 : compRV Try.prog Try.f136.results.toList = some [] := by kernel_rfl
theorem call_tensor_from_1 (args : Array Value) (w : World) : (callFunc fi_tensor_from_1 args).run Try.prog w = .ok (.enter fi_tensor_from_1 args) w := Try.call136 args w
theorem func_tensor_from_1 : Try.prog.funcs[fi_tensor_from_1]? = some Try.f136 := Try.func136
def a_shape_Index : ACode := (sr [0,1] [] (qq 4 (.mov (.c (.one .nils)))<|mc 5 0<|.nil)<|
(ib [0,1,16] [] (mv 9 1<|bc 10 .lss 9 0<|mv 11 10<|.sc 16 11 false 15 none (.op (some 12) (some (11, false)) (.q (.mov (.t 1)))<|.op (some 13) (some (11, false)) (.q (.mov (.t 0)))<|.op (some 14) (some (11, false)) (.call (.c (.one (.p (.fn fi_shape_Size [] [])))) [(.t 13)])<|.op (some 15) (some (11, false)) (.q (.bin .geq (.t 12) (.t 14)))<|.nil)<|.nil) 16 (sr [4,5] [] (qq 4 (.mov (.c (.one .nils)))<|mc 5 20<|.nil)<|
.ret)<|
(sr [0,1,6] [19] (mv 17 0<|le 18 17<|nn 19 (.mkS 1 8 [(.int .i64 0)] (.t 18) (.t 18))<|mv 6 19<|.nil)<|
(.seq (sr [0,1,6,21,22] [19] (mv 20 0<|le 21 20<|mc 22 0<|.nil)<|
(.block 0 (.loop (sr [0,1,6,21,22,23] [19] (bt 23 .lss 22 21<|.nil)<|
(.seq (cd 23 .skip (.exit 0))<|
(.seq (.block 1 (sr [0,1,6,7,21,22] [19] (mv 24 22<|mv 7 24<|.nil)<|
(sr [0,1,6,8,21,22] [19] (mv 25 0<|le 26 25<|bc 27 .sub 26 1<|mv 28 7<|bt 29 .sub 27 28<|mv 8 29<|.nil)<|
(.region (some [[], [0], [0, 1], [0, 1, 2], [0, 1, 2, 3], [0, 1, 2], [0, 1, 2], [0, 1], [0, 1, 2, 3, 4, 5, 6, 7], [0, 1, 2, 3, 4, 5, 6, 7, 8], [0, 1, 2, 3, 4, 5, 6, 7, 8, 9], [0, 1, 2, 3, 4, 5, 6, 7, 8], [0, 1, 2, 3, 4, 5, 6, 7, 8], [0, 1, 2, 3, 4, 5, 6, 7], [8, 13], [8, 13], []]) (mv 30 6<|mv 31 8<|mv 32 1<|mv 33 0<|mv 34 8<|ia 35 1 33 34<|ld 36 1 false 35<|bt 37 .rem 32 36<|mv 38 1<|mv 39 0<|mv 40 8<|ia 41 1 39 40<|ld 42 1 false 41<|bt 43 .quo 38 42<|ia 44 1 30 31<|st 1 44 37<|mv 1 43<|.nil) [0,1,6,21,22] [19]))))<|
(rg [0,1,6,21,22] [19]<|bc 45 .add 22 1<|mv 22 45<|.nil)))))))<|
(sr [4,5] [19] (mv 46 6<|mv 4 46<|mc 5 0<|.nil)<|
.ret)))))
theorem pure_shape_Index : PureT Try.prog fi_shape_Index 47 a_shape_Index [.tmp 4,.tmp 5] := pureT_of Try.call137 Try.func137
def a_move_indices_1 : ACode := (sr [0,1,7,8] [] (ld 6 1 false 1<|cl 7 64 [6]<|mc 8 0<|.nil)<|
(.block 0 (.loop (sr [0,1,7,8,9] [] (bt 9 .lss 8 7<|.nil)<|
(.seq (cd 9 .skip (.exit 0))<|
(.seq (.block 1 (sr [0,1,3,7,8] [] (mv 10 8<|mv 3 10<|.nil)<|
(sr [0,1,4,7,8] [] (ld 12 1 false 1<|mv 13 3<|cl 14 137 [12,13]<|mv 11 14<|xt 15 11 0<|xt 16 11 1<|mv 4 15<|mv 5 16<|.nil)<|
(sr [0,1,7,8,20] [] (mv 17 0<|mv 18 4<|.op (some 19) none (.call (.t 17) [(.t 18)])<|qq 20 (.un .not (.t 19))<|.nil)<|
(cd 20 .ret .skip)))))<|
(rg [0,1,7,8] []<|bc 21 .add 8 1<|mv 8 21<|.nil)))))))
theorem is_move_indices_1 : compC Try.prog (Try.f144.body.getD .skip) = some a_move_indices_1.erase := by kernel_rfl
theorem ok_move_indices_1 : a_move_indices_1.ok 22 = true := by kernel_rfl
theorem rv_move_indices_1 : compRV Try.prog Try.f144.results.toList = some [] := by kernel_rfl
theorem call_move_indices_1 (args : Array Value) (w : World) : (callFunc fi_move_indices_1 args).run Try.prog w = .ok (.enter fi_move_indices_1 args) w := Try.call144 args w
theorem func_move_indices_1 : Try.prog.funcs[fi_move_indices_1]? = some Try.f144 := Try.func144
def a_math_bits_Div64 : ACode := (sr [0,1,2] [] (qq 6 (.mov (.c (.one (.p (.int .u64 0)))))<|qq 7 (.mov (.c (.one (.p (.int .u64 0)))))<|.nil)<|
(ib [0,1,2,20] [] (mv 19 2<|qq 20 (.bin .eql (.t 19) (.c (.one (.p (.int .u64 0)))))<|.nil) 20 (rg [0,1,2] []<|.op (some 21) none .bad<|.op none none .bad<|.nil)<|
(ib [0,1,2,24] [] (mv 22 2<|mv 23 0<|bt 24 .leq 22 23<|.nil) 24 (rg [0,1,2] []<|.op (some 25) none .bad<|.op none none .bad<|.nil)<|
(ib [0,1,2,27] [] (mv 26 0<|qq 27 (.bin .eql (.t 26) (.c (.one (.p (.int .u64 0)))))<|.nil) 27 (.seq (.region (some [[], [0], [], [0, 1, 2], [0, 1, 2, 3], [0, 1, 2], [3, 4, 5], []]) (mv 28 1<|mv 29 2<|bt 30 .quo 28 29<|mv 31 1<|mv 32 2<|bt 33 .rem 31 32<|mv 6 30<|mv 7 33<|.nil) [6,7] [])<|
.ret)<|
(sr [0,1,2,8] [] (mv 34 2<|cl 35 152 [34]<|qq 36 (.conv .u64 (.t 35))<|mv 8 36<|.nil)<|
(sr [0,1,2,8] [] (mv 37 2<|mv 38 8<|bt 39 .shl 37 38<|mv 2 39<|.nil)<|
(sr [0,1,2,8,9] [] (mv 40 2<|qq 41 (.bin .shr (.t 40) (.c (.one (.p (.int .u64 32)))))<|mv 9 41<|.nil)<|
(sr [0,1,2,8,9,10] [] (mv 42 2<|qq 43 (.bin .and (.t 42) (.c (.one (.p (.int .u64 4294967295)))))<|mv 10 43<|.nil)<|
(sr [1,2,8,9,10,11] [] (mv 44 0<|mv 45 8<|bt 46 .shl 44 45<|mv 47 1<|mv 48 8<|qq 49 (.bin .sub (.c (.one (.p (.int .u64 64)))) (.t 48))<|bt 50 .shr 47 49<|bt 51 .or 46 50<|mv 11 51<|.nil)<|
(sr [2,8,9,10,11,12] [] (mv 52 1<|mv 53 8<|bt 54 .shl 52 53<|mv 12 54<|.nil)<|
(sr [2,8,9,10,11,12,13] [] (mv 55 12<|qq 56 (.bin .shr (.t 55) (.c (.one (.p (.int .u64 32)))))<|mv 13 56<|.nil)<|
(sr [2,8,9,10,11,13,14] [] (mv 57 12<|qq 58 (.bin .and (.t 57) (.c (.one (.p (.int .u64 4294967295)))))<|mv 14 58<|.nil)<|
(sr [2,8,9,10,11,13,14,15] [] (mv 59 11<|mv 60 9<|bt 61 .quo 59 60<|mv 15 61<|.nil)<|
(sr [2,8,9,10,11,13,14,15,16] [] (mv 62 11<|mv 63 15<|mv 64 9<|bt 65 .mul 63 64<|bt 66 .sub 62 65<|mv 16 66<|.nil)<|
(.seq (.block 0 (.loop (.seq (sr [2,8,9,10,11,13,14,15,16,78] [] (mv 67 15<|qq 68 (.bin .geq (.t 67) (.c (.one (.p (.int .u64 4294967296)))))<|mv 69 68<|.sc 78 69 false 77 none (.op (some 70) (some (69, false)) (.q (.mov (.t 15)))<|.op (some 71) (some (69, false)) (.q (.mov (.t 10)))<|.op (some 72) (some (69, false)) (.q (.bin .mul (.t 70) (.t 71)))<|.op (some 73) (some (69, false)) (.q (.mov (.t 16)))<|.op (some 74) (some (69, false)) (.q (.bin .mul (.c (.one (.p (.int .u64 4294967296)))) (.t 73)))<|.op (some 75) (some (69, false)) (.q (.mov (.t 13)))<|.op (some 76) (some (69, false)) (.q (.bin .add (.t 74) (.t 75)))<|.op (some 77) (some (69, false)) (.q (.bin .gtr (.t 72) (.t 76)))<|.nil)<|.nil)<|
(cd 78 .skip (.exit 0)))<|
(.block 1 (sr [2,8,9,10,11,13,14,15,16] [] (mv 79 15<|qq 80 (.bin .sub (.t 79) (.c (.one (.p (.int .u64 1)))))<|mv 15 80<|.nil)<|
(sr [2,8,9,10,11,13,14,15,16] [] (mv 81 16<|mv 82 9<|bt 83 .add 81 82<|mv 16 83<|.nil)<|
(sr [2,8,9,10,11,13,14,15,16,85] [] (mv 84 16<|qq 85 (.bin .geq (.t 84) (.c (.one (.p (.int .u64 4294967296)))))<|.nil)<|
(cd 85 (.exit 0) .skip))))))))<|
(sr [2,8,9,10,14,15,17] [] (mv 86 11<|qq 87 (.bin .mul (.t 86) (.c (.one (.p (.int .u64 4294967296)))))<|mv 88 13<|bt 89 .add 87 88<|mv 90 15<|mv 91 2<|bt 92 .mul 90 91<|bt 93 .sub 89 92<|mv 17 93<|.nil)<|
(sr [2,8,9,10,14,15,17,18] [] (mv 94 17<|mv 95 9<|bt 96 .quo 94 95<|mv 18 96<|.nil)<|
(sr [2,8,9,10,14,15,16,17,18] [] (mv 97 17<|mv 98 18<|mv 99 9<|bt 100 .mul 98 99<|bt 101 .sub 97 100<|mv 16 101<|.nil)<|
(.seq (.block 2 (.loop (.seq (sr [2,8,9,10,14,15,16,17,18,113] [] (mv 102 18<|qq 103 (.bin .geq (.t 102) (.c (.one (.p (.int .u64 4294967296)))))<|mv 104 103<|.sc 113 104 false 112 none (.op (some 105) (some (104, false)) (.q (.mov (.t 18)))<|.op (some 106) (some (104, false)) (.q (.mov (.t 10)))<|.op (some 107) (some (104, false)) (.q (.bin .mul (.t 105) (.t 106)))<|.op (some 108) (some (104, false)) (.q (.mov (.t 16)))<|.op (some 109) (some (104, false)) (.q (.bin .mul (.c (.one (.p (.int .u64 4294967296)))) (.t 108)))<|.op (some 110) (some (104, false)) (.q (.mov (.t 14)))<|.op (some 111) (some (104, false)) (.q (.bin .add (.t 109) (.t 110)))<|.op (some 112) (some (104, false)) (.q (.bin .gtr (.t 107) (.t 111)))<|.nil)<|.nil)<|
(cd 113 .skip (.exit 2)))<|
(.block 3 (sr [2,8,9,10,14,15,16,17,18] [] (mv 114 18<|qq 115 (.bin .sub (.t 114) (.c (.one (.p (.int .u64 1)))))<|mv 18 115<|.nil)<|
(sr [2,8,9,10,14,15,16,17,18] [] (mv 116 16<|mv 117 9<|bt 118 .add 116 117<|mv 16 118<|.nil)<|
(sr [2,8,9,10,14,15,16,17,18,120] [] (mv 119 16<|qq 120 (.bin .geq (.t 119) (.c (.one (.p (.int .u64 4294967296)))))<|.nil)<|
(cd 120 (.exit 2) .skip))))))))<|
(sr [6,7] [] (mv 121 15<|qq 122 (.bin .mul (.t 121) (.c (.one (.p (.int .u64 4294967296)))))<|mv 123 18<|bt 124 .add 122 123<|mv 125 17<|qq 126 (.bin .mul (.t 125) (.c (.one (.p (.int .u64 4294967296)))))<|mv 127 14<|bt 128 .add 126 127<|mv 129 18<|mv 130 2<|bt 131 .mul 129 130<|bt 132 .sub 128 131<|mv 133 8<|bt 134 .shr 132 133<|mv 6 124<|mv 7 134<|.nil)<|
.ret))))))))))))))))))))
theorem pure_math_bits_Div64 : PureT Try.prog fi_math_bits_Div64 135 a_math_bits_Div64 [.tmp 6,.tmp 7] := pureT_of Try.call146 Try.func146
def a_math_bits_LeadingZeros64 : ACode := (sr [0] [] (mc 2 0<|.nil)<|
(sr [2] [] (mv 3 0<|cl 4 153 [3]<|qq 5 (.bin .sub (ic 64) (.t 4))<|mv 2 5<|.nil)<|
.ret))
theorem pure_math_bits_LeadingZeros64 : PureT Try.prog fi_math_bits_LeadingZeros64 6 a_math_bits_LeadingZeros64 [.tmp 2] := pureT_of Try.call152 Try.func152
def a_math_bits_Len64 : ACode := (sr [0,2] [] (mc 2 0<|.nil)<|
(ib [0,2,4] [] (mv 3 0<|qq 4 (.bin .geq (.t 3) (.c (.one (.p (.int .u64 4294967296)))))<|.nil) 4 (sr [0] [] (mv 5 0<|qq 6 (.bin .shr (.t 5) (.c (.one (.p (.int .u64 32)))))<|mv 0 6<|.nil)<|
(rg [0,2] []<|mc 2 32<|.nil))<|
(ib [0,2,8] [] (mv 7 0<|qq 8 (.bin .geq (.t 7) (.c (.one (.p (.int .u64 65536)))))<|.nil) 8 (sr [0,2] [] (mv 9 0<|qq 10 (.bin .shr (.t 9) (.c (.one (.p (.int .u64 16)))))<|mv 0 10<|.nil)<|
(rg [0,2] []<|mv 11 2<|bc 12 .add 11 16<|mv 2 12<|.nil))<|
(ib [0,2,14] [] (mv 13 0<|qq 14 (.bin .geq (.t 13) (.c (.one (.p (.int .u64 256)))))<|.nil) 14 (sr [0,2] [] (mv 15 0<|qq 16 (.bin .shr (.t 15) (.c (.one (.p (.int .u64 8)))))<|mv 0 16<|.nil)<|
(rg [0,2] []<|mv 17 2<|bc 18 .add 17 8<|mv 2 18<|.nil))<|
(sr [2] [] (mv 19 2<|mv 20 0<|qq 21 (.conv .u8 (.t 20))<|qq 22 (.sidx (.c (.one (.p (.str ⟨#[0, 1, 2, 2, 3, 3, 3, 3, 4, 4, 4, 4, 4, 4, 4, 4, 5, 5, 5, 5, 5, 5, 5, 5, 5, 5, 5, 5, 5, 5, 5, 5, 6, 6, 6, 6, 6, 6, 6, 6, 6, 6, 6, 6, 6, 6, 6, 6, 6, 6, 6, 6, 6, 6, 6, 6, 6, 6, 6, 6, 6, 6, 6, 6, 7, 7, 7, 7, 7, 7, 7, 7, 7, 7, 7, 7, 7, 7, 7, 7, 7, 7, 7, 7, 7, 7, 7, 7, 7, 7, 7, 7, 7, 7, 7, 7, 7, 7, 7, 7, 7, 7, 7, 7, 7, 7, 7, 7, 7, 7, 7, 7, 7, 7, 7, 7, 7, 7, 7, 7, 7, 7, 7, 7, 7, 7, 7, 7, 8, 8, 8, 8, 8, 8, 8, 8, 8, 8, 8, 8, 8, 8, 8, 8, 8, 8, 8, 8, 8, 8, 8, 8, 8, 8, 8, 8, 8, 8, 8, 8, 8, 8, 8, 8, 8, 8, 8, 8, 8, 8, 8, 8, 8, 8, 8, 8, 8, 8, 8, 8, 8, 8, 8, 8, 8, 8, 8, 8, 8, 8, 8, 8, 8, 8, 8, 8, 8, 8, 8, 8, 8, 8, 8, 8, 8, 8, 8, 8, 8, 8, 8, 8, 8, 8, 8, 8, 8, 8, 8, 8, 8, 8, 8, 8, 8, 8, 8, 8, 8, 8, 8, 8, 8, 8, 8, 8, 8, 8, 8, 8, 8, 8, 8, 8, 8, 8, 8, 8, 8, 8, 8, 8, 8, 8, 8, 8]⟩)))) (.t 21))<|qq 23 (.conv .i64 (.t 22))<|bt 24 .add 19 23<|mv 2 24<|.nil)<|
.ret)))))
theorem pure_math_bits_Len64 : PureT Try.prog fi_math_bits_Len64 25 a_math_bits_Len64 [.tmp 2] := pureT_of Try.call153 Try.func153
end Go.AM

namespace Go.AM
open Go.RowKit (Below)

theorem obj_not {M A : Nat → Prop} {τ : Tau} {w : World} {t b : Nat} {o : AO} {x : Obj} (h : ORel M A τ w t o) (hn : o ≠ .none) (hb : τ t = some b) (hx : w.heap[b]? = some x) : (∃ cs e, x = .cells cs e (0, 0)) ∨ ∃ ces c, x = .map ces c := by
  cases o with
  | none => exact absurd rfl hn
  | cells m cs =>
    obtain ⟨b', xs, e, h1, h2, _⟩ := h
    rw [hb] at h1; cases h1; rw [hx] at h2; cases h2
    exact .inl ⟨_, _, rfl⟩
  | arr m s rows =>
    obtain ⟨_, _, ⟨h1, _⟩ | ⟨b', xs, e, h1, h2, _⟩⟩ := h
    · rw [hb] at h1; cases h1
    · rw [hb] at h1; cases h1; rw [hx] at h2; cases h2
      exact .inl ⟨_, _, rfl⟩
  | map m es =>
    obtain ⟨b', ces, c, h1, h2, _⟩ := h
    rw [hb] at h1; cases h1; rw [hx] at h2; cases h2
    exact .inr ⟨_, _, rfl⟩
theorem ow_not {M A : Nat → Prop} {τ : Tau} {w : World} {σ : Sto} {l : Nat} {x : Obj} (h : ∀ t, ORel M A τ w t (lo σ t)) (hx : w.heap[l]? = some x) (h1 : ∀ cs e, x ≠ .cells cs e (0, 0)) (h2 : ∀ ces c, x ≠ .map ces c) : ¬ owOf σ τ l := by
  rintro ⟨t, hm, hb⟩
  rcases obj_not (h t) (fun e => by rw [e] at hm; cases hm) hb hx with ⟨cs, e, rfl⟩ | ⟨ces, c, rfl⟩
  · exact h1 _ _ rfl
  · exact h2 _ _ rfl
theorem WStep.loop {w : World} {l : Nat} {R R' : Loop} (h : w.heap[l]? = some (.loop R)) : WStep (· = l) w (w.putObj l (.loop R')) := by
  refine ⟨rfl, rfl, rfl, by simp [World.putObj], fun b _ hb => World.putObj_heap_other hb, fun b cs e hb => ⟨cs, ?_, rfl⟩⟩
  rw [World.putObj_heap_other (fun e' => by subst e'; rw [h] at hb; cases hb)]
  exact hb
theorem KeepD.loop {w : World} {l : Nat} {R R' : Loop} (h : w.heap[l]? = some (.loop R)) : KeepD w (w.putObj l (.loop R')) := fun b ds hb => by
  rw [World.putObj_heap_other (fun e' => by subst e'; rw [h] at hb; cases hb)]; exact hb
section
variable {G : Ground} {F : Fence} {n : Nat} {Q : Exit → AS → Prop} {s : AS}
theorem T_steps (hF : FOk F) {t : TOps} {k ids : List Nat} {S : AS} (h : Steps G.P G t.flat s S) (hq : Q .normal S) : T G F n (.region none t k ids) Q s := by
  refine ⟨fun code hc => ?_⟩
  intro hok a w hs
  obtain ⟨id, ops, l, rfl, hz, hfl⟩ := inv_region hc
  have hl := flatT_inj hfl
  subst hl
  refine wpIn_region ?_
  have := steps_ops (F := F) (n := n) (Q := fun e a w => ∃ s', Q e s' ∧ SimS G s' a w) hF h 0 ops.toList hz (fun i o hi => by simpa using hi) (fun a w hs' => ⟨_, hq, hs'⟩) a w hs
  rw [compR_len hz] at this
  simpa [List.range_eq_range'] using this
theorem Steps.q {d : Option Nat} {q : QOp} {v : AV} {l : List FOp} {S : AS} (hd : ∀ t, d = some t → t < G.nt) (h : evQ q s.env s.σ = some v) (t : Steps G.P G l (putd d v s) S) : Steps G.P G (⟨d, none, .q q⟩ :: l) s S :=
  .cons (.run rfl hd (.q h)) t
theorem SimAt.reput {a : Act} {w : World} {A : Nat → Prop} {τ : Tau} {l : Nat} {R R' : Loop} (h : SimAt G s a w A τ) (hl : l < G.N) (hno : ¬ G.ow l) (hA : ¬ A l) (ho : w.heap[l]? = some (.loop R)) :
    SimAt { G with w0 := G.w0.putObj l (.loop R') } s a (w.putObj l (.loop R')) A τ := by
  have hw := WStep.loop (R' := R') ho
  have hst : Still A w (w.putObj l (.loop R')) := hw.still h.alt (fun b hb e => hA (e ▸ hb))
  have hN : ({ G with w0 := G.w0.putObj l (.loop R') } : Ground).N = G.N := by simp [Ground.N, World.putObj]
  have hM : ∀ b, G.M b → ({ G with w0 := G.w0.putObj l (.loop R') } : Ground).M b := fun b hb => hb.imp (fun h => by rw [hN]; exact h) id
  have hMe : ({ G with w0 := G.w0.putObj l (.loop R') } : Ground).M = G.M := by
    funext b; simp only [Ground.M, hN]
  refine ⟨⟨h.below.os, h.below.tape, h.below.output, ?_, fun k hk hn => ?_⟩, h.a0, fun b hb => (h.a1 b hb).imp id (hM b), fun b hb => Nat.lt_of_lt_of_le (h.alt b hb) hw.size, h.size, fun i => (h.env i).step hw (fun _ hb => hb) hst (fun _ _ => rfl),
    fun t => ?_, h.sep, h.ex.mono fun _ _ hv => hv.step hw (fun _ hb => hb) hst (fun _ _ => rfl), ?_⟩
  · rw [hN]; exact Nat.le_trans h.below.size hw.size
  · rw [hN] at hk
    show (w.putObj l (.loop R')).heap[k]? = (G.w0.putObj l (.loop R')).heap[k]?
    by_cases hkl : k = l
    · subst hkl
      rw [World.putObj_heap_same (heap_lt ho), World.putObj_heap_same hk]
    · rw [World.putObj_heap_other hkl, World.putObj_heap_other hkl]
      exact h.below.block k hk hn
  · rw [hMe]
    refine (h.obj t).step hw (fun _ hb => hb) hst (fun _ hb => .inl hb) (fun b hne hb hlt => hw.same b hlt fun e => ?_) rfl (fun _ _ => rfl)
    subst e
    rcases obj_not (h.obj t) hne hb ho with ⟨_, _, h⟩ | ⟨_, _, h⟩ <;> cases h
  · rw [hN]
    exact h.marks.step (KeepD.loop ho) (fun _ hb => .inl hb)
def putE : List Nat → List AV → Env → Env
  | p :: ps, v :: vs, e => putE ps vs ((p, v) :: e)
  | _, _, e => e
theorem put_rel {A : Nat → Prop} {τ : Tau} {w : World} : ∀ {ps : List Nat} {vs : List AV} {xs : List Value} {e : Env} {tmps : Array Value}, All2 (VRel A τ w) vs xs → (∀ i, VRel A τ w (lk e i) (tmps.getD i undef)) → ps.all (· < tmps.size) = true →
    (∀ i, VRel A τ w (lk (putE ps vs e) i) (((ps.zip xs).foldl (fun t (p, v) => t.setIfInBounds p v) tmps).getD i undef)) ∧ ((ps.zip xs).foldl (fun t (p, v) => t.setIfInBounds p v) tmps).size = tmps.size
  | [], _, _, e, tmps, _, h, _ => ⟨by simpa [putE] using h, by simp⟩
  | p :: ps, _, _, e, tmps, .nil, h, _ => ⟨by simpa [putE] using h, by simp⟩
  | p :: ps, _, _, e, tmps, .cons (a := v) (b := x) hv ht, h, hp => by
    simp only [List.all_cons, Bool.and_eq_true, decide_eq_true_eq] at hp
    have := put_rel (ps := ps) (e := (p, v) :: e) (tmps := tmps.setIfInBounds p x) ht (fun i => by
      rw [lk_put]
      by_cases hi : i = p
      · subst hi
        rw [if_pos rfl]
        have : (tmps.setIfInBounds i x).getD i undef = x := by simp [Array.getD_eq_getD_getElem?, hp.1]
        rw [this]; exact hv
      · rw [if_neg hi]
        have : (tmps.setIfInBounds p x).getD i undef = tmps.getD i undef := by
          simp [Array.getD_eq_getD_getElem?, Array.getElem?_setIfInBounds_ne (Ne.symm hi)]
        rw [this]; exact h i) (by simpa using hp.2)
    simpa [putE] using this
structure AsgEnd (K : AS → Prop) (e : Exit) (s : AS) : Prop where
  norm : e = .normal
  k : K s
structure RoundEnd (σ' : Sto) (ex : List AV) (e : Exit) (s : AS) : Prop where
  norm : e = .normal
  sto : ∀ p ∈ σ', lo s.σ p.1 = p.2
  ex : s.ex = ex
structure Fam (σ : Nat → Sto) (fr : List Nat) : Prop where
  once : ∀ k, ∀ p ∈ σ k, lo (σ k) p.1 = p.2
  keys : ∀ k t, lo (σ k) t ≠ .none → t ∈ (σ (k + 1)).map (·.1)
  out : ∀ k d, d ∈ fr → lo (σ k) d = .none ∨ d ∈ (σ (k + 1)).map (·.1)
  obj : ∀ k t d, d ∈ fr → t ∉ (σ (k + 1)).map (·.1) → (lo (σ k) t).nr d = true
structure SeqC (P : Program) (f : FuncId) (caps : List PV) (xs : List (List DV)) : Prop where
  enters : ∀ args w, (callFunc f args).run P w = .ok (.enter f args) w
  calls : ∀ (R : Loop) (l : Nat) (σ : Nat → Sto) (fr : List Nat) (cA : List AV) (cV : List Value),
    (∀ k x, xs[k]? = some x → YieldC P R l (x.map DV.av) (σ k) (σ (k + 1)) fr cA cV) → Fam σ fr →
    ∀ (A : Nat → Prop) (τ : Tau) (w : World) (vb : List Value) (ex : List AV) (exs : List Value), (∀ b, A b → b < w.heap.size) → PRels A w caps vb → All2 (VRel A τ w) (cA ++ ex) (cV ++ exs) →
    (∀ d ∈ fr, ∀ v ∈ cA ++ ex, v.has d = false) → (∀ t, ORel (fun _ => True) A τ w t (lo (σ 0) t)) → SepS (σ 0) τ → w.heap[l]? = some (.loop R) → ¬ A l →
    Calls P f ⟨Value.func (.yield l) #[] #[] :: vb⟩ w fun e w' => ∃ x A' τ', e = .returned x ∧ Frame A (owOf (σ 0) τ) w w' A' ∧ (∀ t, ORel (fun b => w.heap.size ≤ b ∨ owOf (σ 0) τ b) A' τ' w' t (lo (σ xs.length) t)) ∧
      SepS (σ xs.length) τ' ∧ All2 (VRel A' τ' w') (cA ++ ex) (cV ++ exs)
theorem inv_range {P : Program} {code : Code} {f : Opd} {ps : List Nat} {x y : ACode} (h : compC P code = some (.range f ps x y)) :
    ∃ fo pa cx cy, code = .rangeFunc fo pa cx cy ∧ opd fo = some f ∧ pa.toList = ps ∧ compC P cx = some x ∧ compC P cy = some y := by
  cases code <;> simp [compC, Option.bind_eq_some_iff, Option.map_eq_some_iff] at h
  obtain ⟨f', h1, x', h2, y', h3, rfl, rfl, rfl, rfl⟩ := h
  exact ⟨_, _, _, _, rfl, h1, rfl, h2, h3⟩
theorem yield_of {a : Act} {fn : FuncId} {pa : Array Tmp} {ps : List Nat} {cx cy : Code} {x y : ACode} {D : Nat} {l : Nat} {vs : List AV} {σ σ' : Sto} {fr : List Nat} {env : Env} {P : Program} {nt : Nat}
    (hpa : pa.toList = ps) (hps : ps.all (· < nt) = true) (hlen : vs.length = ps.length) (hcx : compC P cx = some x.erase) (hcy : compC P cy = some y.erase) (hokx : x.ok nt = true) (hoky : y.ok nt = true) (hnt : a.tmps.size = nt)
    (round : ∀ (F : Fence) (n : Nat) (G' G'' : Ground) (ex : List AV), FOk F → G'.P = P → G'.nt = nt → G''.P = P → G''.nt = nt → (∀ d ∈ fr, ex.all (fun v => !v.has d) = true) →
      T G' F n x (AsgEnd fun s1 => T G'' F n y (RoundEnd σ' ex) s1) { env := putE ps vs env, σ := σ, ex := ex }) :
    YieldC P { state := .ready, pending := none, fn := fn, tmps := a.tmps, params := pa, assign := cx, body := cy, defers := D } l vs σ σ' fr (env.map fun p => lk env p.1) (env.map fun p => a.tmps.getD p.1 undef) := by
  intro F n A τ w xs ex exs hF hA hx he hfr ho hs hl hAl
  have hF' : FOk (F.inRound l) := by
    rcases hF with rfl | ⟨l', rfl⟩
    · exact .inr ⟨l, rfl⟩
    · exact .inr ⟨l, rfl⟩
  have hxl := hx.length
  have hpl : pa.size = ps.length := by rw [← hpa]; simp
  refine ⟨fn, _, cx, cy, run_yield hl (by simp; omega), roundIn_of_wpIn (hF.fn fn) ?_⟩
  generalize hRd : ({ state := .ready, pending := none, fn := fn, tmps := a.tmps, params := pa, assign := cx, body := cy, defers := D } : Loop) = R at hl
  have hRs : R.state = .ready := by rw [← hRd]
  have hRp : R.pending = none := by rw [← hRd]
  have htm : (pa.zip ⟨xs⟩).foldl (fun tmps (t, a) => tmps.setIfInBounds t a) a.tmps = (ps.zip xs).foldl (fun t (p, v) => t.setIfInBounds p v) a.tmps := by
    rw [← hpa, ← Array.foldl_toList]
    simp
  have henv : ∀ i, VRel A τ w (lk env i) (a.tmps.getD i undef) := by
    intro i
    by_cases hi : i ∈ env.map (·.1)
    · obtain ⟨p, hp, rfl⟩ := List.mem_map.1 hi
      have : All2 (VRel A τ w) (env.map fun p => lk env p.1) (env.map fun p => a.tmps.getD p.1 undef) := by
        have h2 : ∀ {α β : Type} {R : α → β → Prop} {az az' : List α} {b1 b2 : List β}, All2 R (az ++ az') (b1 ++ b2) → az.length = b1.length → All2 R az b1 := by
          intro α β R az
          induction az with
          | nil => intro az' b1 b2 _ hl; cases b1 with | nil => exact .nil | cons => simp at hl
          | cons a az ih =>
            intro az' b1 b2 h hl
            cases b1 with
            | nil => simp at hl
            | cons b b1 => cases h with | cons h t => exact .cons h (ih t (by simpa using hl))
        exact h2 he (by simp)
      exact All2.map_inv this p hp
    · rw [lk_none hi]; exact .v1 (.top _)
  have hput := put_rel (ps := ps) hx henv (by rw [hnt]; exact hps)
  let G : Ground := { P := P, w0 := w, A0 := A, nt := nt, exv := (env.map fun p => a.tmps.getD p.1 undef) ++ exs, ow := owOf σ τ }
  have hno : ¬ G.ow l := ow_not ho hl (fun _ _ h => by cases h) (fun _ _ h => by cases h)
  have hlN : l < G.N := heap_lt hl
  have hs0 : SimAt G { env := putE ps vs env, σ := σ, ex := (env.map fun p => lk env p.1) ++ ex } { tmps := (ps.zip xs).foldl (fun t (p, v) => t.setIfInBounds p v) a.tmps, defers := [] } w A τ := by
    refine ⟨⟨rfl, rfl, rfl, Nat.le_refl _, fun _ _ _ => rfl⟩, fun _ hb => hb, fun _ hb => .inl hb, hA, by rw [hput.2]; exact hnt, hput.1, fun t => ?_, hs, he, trivial⟩
    exact (ho t).monoM fun b hm hb _ => .inr ⟨t, hm, hb⟩
  let G2 : Ground := { G with w0 := G.w0.putObj l (.loop { R with state := .busy }) }
  have hr := round (F.inRound l) n G G2 ((env.map fun p => lk env p.1) ++ ex) hF' rfl rfl rfl rfl (fun d hd => by
    rw [List.all_eq_true]; intro v hv; simp [hfr d hd v hv])
  have ht : ({ tmps := (R.params.zip ⟨xs⟩).foldl (fun tmps (t, a) => tmps.setIfInBounds t a) R.tmps, defers := [] } : Act) = { tmps := (ps.zip xs).foldl (fun t (p, v) => t.setIfInBounds p v) a.tmps, defers := [] } := by
    rw [show R.params = pa from by rw [← hRd], show R.tmps = a.tmps from by rw [← hRd], htm]
  rw [ht]
  have notA : ∀ {G : Ground} {s : AS} {a : Act} {w : World} {A1 : Nat → Prop} {τ1 : Tau}, SimAt G s a w A1 τ1 → l < G.N → ¬ G.ow l → ¬ G.A0 l → ¬ A1 l := by
    intro G s a w A1 τ1 hs h1 h2 h3 h
    rcases hs.a1 l h with h4 | h4 | h4
    · exact h3 h4
    · omega
    · exact h2 h4
  refine wpIn_mono (hr.of cx hcx hokx _ _ ⟨A, τ, hs0⟩) ?_
  rintro e a1 w1 ⟨s1, ⟨rfl, hbody⟩, A1, τ1, hs1⟩
  have hl1 : w1.heap[l]? = some (.loop R) := (hs1.below.block l hlN hno).trans hl
  have hA1 := notA hs1 hlN hno hAl
  refine ⟨_, run_beginRound hl1 hRs, ?_⟩
  have hs2 := hs1.reput (R' := { R with state := .busy }) hlN hno hA1 hl1
  refine wpIn_mono (hbody.of cy hcy hoky _ _ ⟨A1, τ1, hs2⟩) ?_
  rintro e a3 w3 ⟨s3, ⟨rfl, hsto, hex3⟩, A3, τ3, hs3⟩
  have hN2 : G2.N = G.N := by simp [G2, Ground.N, World.putObj]
  have hl2 : G2.w0.heap[l]? = some (.loop { R with state := .busy }) := World.putObj_heap_same hlN
  have hl3 : w3.heap[l]? = some (.loop { R with state := .busy }) := (hs3.below.block l (by rw [hN2]; exact hlN) hno).trans hl2
  have hA3 := notA hs3 (by rw [hN2]; exact hlN) hno hAl
  have hs4 := hs3.reput (R' := R) (by rw [hN2]; exact hlN) hno hA3 hl3
  have hend := run_endRound (P := P) none hl3
  have hRR : ({ ({ R with state := .busy } : Loop) with state := if (none : Option Code).isNone then .ready else .done, pending := none } : Loop) = R := by
    cases R; simp only at hRs hRp; subst hRs hRp; rfl
  rw [hRR] at hend
  refine ⟨_, _, hend, .bool true, A3, τ3, rfl, ?_, fun t => ?_, ?_, .v1 (.one (.c0 (.p _ _ (.bool true)))), ?_⟩
  · have hsz : w.heap.size ≤ (w3.putObj l (.loop R)).heap.size := by
      have := hs4.below.size
      simpa [Ground.N, G2, G, World.putObj] using this
    refine ⟨hs4.below.os, hs4.below.tape, hs4.below.output, hsz, fun k hk hn => ?_, hs3.a0, fun b hb => ?_, hs4.alt⟩
    · have := hs4.below.block k (by simpa [Ground.N, G2, G, World.putObj] using hk) hn
      rw [this]
      show ((w.putObj l (.loop { R with state := .busy })).putObj l (.loop R)).heap[k]? = w.heap[k]?
      by_cases hkl : k = l
      · rw [hkl, World.putObj_heap_same (by simpa [World.putObj, Ground.N, G] using hlN), hl]
      · rw [World.putObj_heap_other hkl, World.putObj_heap_other hkl]
    · rcases hs3.a1 b hb with h | h | h
      · exact .inl h
      · rw [hN2] at h; exact .inr (.inr h)
      · exact .inr (.inl h)
  · have hobj := hs4.obj t
    rcases lo_of_mem hsto t with e1 | e1
    · rw [e1]
      refine hobj.monoM fun b _ _ hb => hb.imp (fun h => ?_) id
      simpa [Ground.N, G2, G, World.putObj] using h
    · rw [e1]; trivial
  · intro t t' b n1 n2 hne hmu hb
    rcases lo_of_mem hsto t with e1 | e1
    · rcases lo_of_mem hsto t' with e2 | e2
      · rw [e1] at n1 hmu; rw [e2] at n2
        exact hs4.sep t t' b n1 n2 hne hmu hb
      · exact absurd e2 n2
    · exact absurd e1 n1
  · have := hs4.ex
    rw [hex3] at this
    exact this
theorem T_range {f : Opd} {ps : List Nat} {x y : ACode} {id : FuncId} {caps : List PV} {xs : List (List DV)} (hf : get s.env f = .one (.p (.fn id [] caps))) (hseq : SeqC G.P id caps xs) (σ : Nat → Sto) (fr : List Nat)
    (hps : ps.all (· < G.nt) = true) (hlen : ∀ x ∈ xs, x.length = ps.length) (h0 : ∀ t, lo (σ 0) t = lo s.σ t ∨ lo (σ 0) t = .none) (fam : Fam σ fr) (hk : ∀ t, lo (σ 0) t ≠ .none → t ∈ (σ xs.length).map (·.1)) (hfr : ∀ d ∈ fr, FrOk s (σ xs.length) d)
    (round : ∀ k v, xs[k]? = some v → ∀ (F : Fence) (n : Nat) (G' G'' : Ground) (ex : List AV), FOk F → G'.P = G.P → G'.nt = G.nt → G''.P = G.P → G''.nt = G.nt → (∀ d ∈ fr, ex.all (fun v => !v.has d) = true) →
      T G' F n x (AsgEnd fun s1 => T G'' F n y (RoundEnd (σ (k + 1)) ex) s1) { env := putE ps (v.map DV.av) s.env, σ := σ k, ex := ex })
    (done : Q .normal { s with σ := σ xs.length ++ s.σ }) : T G Fence.wide n (.range f ps x y) Q s := by
  refine ⟨fun code hc => ?_⟩
  intro hok a w hs
  obtain ⟨fo, pa, cx, cy, rfl, hfo, hpa, hcx, hcy⟩ := inv_range hc
  simp only [ACode.ok, Bool.and_eq_true] at hok
  obtain ⟨A, τ, hs⟩ := hs
  have hfv := opd_sound hs hfo
  rw [hf] at hfv
  have hfv := p_inv hfv
  generalize hz : a.eval fo = z at hfv
  cases hfv with
  | fn _ _ _ vf vc hp1 hp2 =>
  cases hp1
  refine wpIn_rangeFunc fun fn _ => ?_
  obtain ⟨R, hR⟩ : ∃ R : Loop, R = { state := .ready, pending := none, fn := fn, tmps := a.tmps, params := pa, assign := cx, body := cy, defers := w.heap.size } := ⟨_, rfl⟩
  obtain ⟨w1, hw1⟩ : ∃ w1, w1 = (w.alloc (.deferred (some []))).alloc (.loop R) := ⟨_, rfl⟩
  have ws : WStep (fun _ => False) w w1 := by
    rw [hw1]
    exact ((WStep.push w _).trans (WStep.push _ _)).weak fun _ h => h.elim (fun h => h) (fun h => h)
  have hs1 : SimAt G s a w1 A τ := hs.world ws (fun _ hb => hb) (fun _ hb => .inl hb) (fun _ hf => hf.elim) (fun _ _ _ _ hf => hf) ws.dfr0
  have hl : w1.heap[w.heap.size + 1]? = some (.loop R) := by
    rw [hw1]; have := World.alloc_heap_new (w.alloc (.deferred (some []))) (.loop R); rwa [World.size_alloc] at this
  have hD : w1.heap[w.heap.size]? = some (.deferred (some [])) := by
    rw [hw1]; exact (Below.heap_alloc _ _ _ (by simp)).trans (World.alloc_heap_new w _)
  have hAl : ¬ A (w.heap.size + 1) := fun h => by have := hs.alt _ h; omega
  have hAD : ¬ A w.heap.size := fun h => by have := hs.alt _ h; omega
  have hrun := callC_run (C := fun R' => Calls G.P id ⟨Value.func (.yield (w.heap.size + 1)) #[] #[] :: vc⟩ w1 R') (r := .top) (fr := fr) (σ0 := σ 0) (σ1 := σ xs.length) (fun h k => h.mono k)
    (fun ex exs h1 h2 h3 h4 => by
      have r1 : All2 (VRel A τ w1) (s.env.map fun p => lk s.env p.1) (s.env.map fun p => a.tmps.getD p.1 undef) := All2.map fun p _ => hs1.env p.1
      have := hseq.calls R (w.heap.size + 1) σ fr _ _ (fun k v hv => by
          rw [hR]
          exact yield_of (a := a) (fn := fn) (cx := cx) (cy := cy) (D := w.heap.size) hpa hps (by simpa using hlen v (List.mem_of_getElem? hv)) hcx hcy hok.1 hok.2 hs.size (round k v hv)) fam
        A τ w1 vc (s.ex ++ ex) (G.exv ++ exs) hs1.alt (hp2.mono (fun _ hb => hb) (ws.still hs.alt fun _ _ h => h)) (r1.append h1) (fun d hd v hv => by
          rcases List.mem_append.1 hv with hv | hv
          · obtain ⟨p, _, rfl⟩ := List.mem_map.1 hv
            exact (hfr d hd).env p.1
          · exact h2 d hd v hv) h3 h4 hl hAl
      refine this.mono ?_
      rintro e w' ⟨x, A', τ', rfl, q1, q2, q3, q4⟩
      exact ⟨x, A', τ', rfl, q1, q2, q3, .v1 (.top _), (q4.split2 r1).2⟩)
    hs1 h0 hk hfr
  refine ⟨w.heap.size + 1, [{ target := .collected w.heap.size, args := #[] }], w1, { target := .fn (.func id) ⟨vc⟩, args := #[.func (.yield (w.heap.size + 1)) #[] #[]] }, w1, id,
    ⟨Value.func (.yield (w.heap.size + 1)) #[] #[] :: vc⟩, w1, ?_, ?_, ?_, ?_, (fun h => by cases h), ?_⟩
  · rw [hw1, hR]; exact run_enterLoop_outer _ _ _ _ _
  · simp only [resolve, hz]
    simp [go_sem]
  · intro f' hf'; trivial
  · simp only [invoke, hseq.enters]
    congr 2
    apply Array.ext'; simp
  · refine callsIn_wide.2 (hrun.mono ?_)
    rintro e w2 ⟨v, A2, τ2, rfl, fr2, hs2, _⟩
    have hob : ∀ t, ORel (fun _ => True) A τ w1 t (lo (σ 0) t) := fun t => by
      rcases h0 t with h | h
      · rw [h]; exact (hs1.obj t).monoM fun _ _ _ _ => trivial
      · rw [h]; trivial
    have hol : ¬ owOf (σ 0) τ (w.heap.size + 1) := ow_not hob hl (fun _ _ h => by cases h) (fun _ _ h => by cases h)
    have hoD : ¬ owOf (σ 0) τ w.heap.size := ow_not hob hD (fun _ _ h => by cases h) (fun _ _ h => by cases h)
    have hl2 : w2.heap[w.heap.size + 1]? = some (.loop R) := (fr2.block _ (heap_lt hl) hol).trans hl
    have hD2 : w2.heap[w.heap.size]? = some (.deferred (some [])) := (fr2.block _ (heap_lt hD) hoD).trans hD
    have hA2l : ¬ A2 (w.heap.size + 1) := fun h => by
      rcases fr2.new _ h with h | h | h
      · exact hAl h
      · exact hol h
      · have := heap_lt hl; omega
    have hA2D : ¬ A2 w.heap.size := fun h => by
      rcases fr2.new _ h with h | h | h
      · exact hAD h
      · exact hoD h
      · have := heap_lt hD; omega
    have hN : G.N ≤ w.heap.size := hs.below.size
    have hend := run_endLoop (P := G.P) hl2 (by rw [hR]; simp)
    have hpend : R.pending = none := by rw [hR]
    refine ⟨none, _, hend.trans (congrArg (fun j => Result.ok j _) hpend), _, done, A2, τ2, ?_⟩
    have hs3 := hs2.world (WStep.loop (R' := { R with state := .exhausted }) hl2) (fun _ hb => hb) (fun _ hb => .inl hb) (fun b hb => by subst hb; exact ⟨hA2l, .inl (by omega)⟩) (fun t b hne hb e => by
      subst e
      rcases obj_not (hs2.obj t) hne hb hl2 with ⟨_, _, h⟩ | ⟨_, _, h⟩ <;> cases h) (KeepD.loop hl2)
    refine ⟨hs3.below, hs3.a0, hs3.a1, hs3.alt, hs3.size, hs3.env, hs3.obj, hs3.sep, hs3.ex, ?_⟩
    show Marks G.N A2 _ ({ target := .collected w.heap.size, args := #[] } :: a.defers)
    refine ⟨⟨w.heap.size, rfl, hN, hA2D, ?_, fun hm => ?_⟩, hs3.marks⟩
    · rw [World.putObj_heap_other (by omega)]; exact hD2
    · have key : ∀ {ds : List Deferred}, Marks G.N A w ds → ({ target := .collected w.heap.size, args := #[] } : Deferred) ∉ ds := by
        intro ds
        induction ds with
        | nil => intro _ h; cases h
        | cons d ds ih =>
          rintro ⟨⟨r, rfl, _, _, h4, _⟩, ht⟩ h
          rcases List.mem_cons.1 h with h | h
          · simp at h
            have := heap_lt h4; omega
          · exact ih ht h
      exact key hs.marks hm
theorem yStep {f : Opd} {az : List Opd} {R : Loop} {l : Nat} {σ : Nat → Sto} {fr : List Nat} {k : Nat} {vs : List AV} {env : Env} {ex : List AV} (fam : Fam σ fr) (hr : G.w0.heap[l]? = some (.loop R)) (hno : ¬ G.ow l) (hA : ¬ G.A0 l)
    (hy : YieldC G.P R l vs (σ k) (σ (k + 1)) fr ex G.exv) (hex : ∀ d ∈ fr, ∀ v ∈ ex, v.has d = false) (hg : get env f = .one (.raw (.func (.yield l) #[] #[]))) (hv : gets env az = vs) (henv : ∀ d i, (lk env i).has d = false) :
    YStep G f az { env := env, σ := σ k, ex := ex } (σ (k + 1)) R l (σ k) fr :=
  ⟨hg, hr, hno, hA, fun _ => .inl rfl, fam.keys k, fun d hd => ⟨henv d, hex d hd, fun t ht => fam.obj k t d hd ht, fam.out k d hd⟩, by rw [hv]; exact hy⟩
theorem Weak.drop {σ1 : Sto} {e : Env} {σ : Sto} {ex : List AV} : Weak G { env := e, σ := σ1 ++ σ, ex := ex } { env := e, σ := σ1, ex := ex } :=
  Weak.sto (s := { env := e, σ := σ1 ++ σ, ex := ex }) fun t => by
    rw [lo_app]
    split
    · exact .inl rfl
    · rename_i h; exact .inr (lo_none h)
theorem seqC_of {P : Program} {f : FuncId} {fn : Func} {c : Code} {ac : ACode} {caps : List PV} {xs : List (List DV)}
    (henter : ∀ args w, (callFunc f args).run P w = .ok (.enter f args) w) (hf : P.funcs[f]? = some fn) (hb : fn.body = some c) (hc : compC P c = some ac.erase) (hok : ac.ok fn.ntmps = true)
    (hr : compRV P fn.results.toList = some []) (hn : caps.length + 1 ≤ fn.ntmps)
    (h : ∀ (R : Loop) (l : Nat) (σ : Nat → Sto) (fr : List Nat) (G : Ground) (ex : List AV), G.P = P → G.nt = fn.ntmps → G.w0.heap[l]? = some (.loop R) → ¬ G.ow l → ¬ G.A0 l → Fam σ fr → (∀ d ∈ fr, ∀ v ∈ ex, v.has d = false) →
      (∀ k x, xs[k]? = some x → YieldC G.P R l (x.map DV.av) (σ k) (σ (k + 1)) fr ex G.exv) →
      T G Fence.wide 0 ac (fun e s => (e = .normal ∨ e = .ret) ∧ s.σ = σ xs.length ∧ s.ex = ex) { env := initV 0 (.one (.raw (.func (.yield l) #[] #[])) :: caps.map fun v => .one (.p v)), σ := σ 0, ex := ex }) : SeqC P f caps xs := by
  refine ⟨henter, fun R l σ fr cA cV hy fam A τ w vb ex exs hA hcaps hex hfr hob hsp hl hAl => ?_⟩
  have hvs : All2 (VRel A τ w) (.one (.raw (.func (.yield l) #[] #[])) :: caps.map fun v => .one (.p v)) (.func (.yield l) #[] #[] :: vb) :=
    .cons (.v1 (.one (.c0 (.raw _ rfl)))) ((PRels.all2.1 hcaps).mapL fun v x hr => .v1 (.one (.c0 (.p _ _ hr))))
  have hrun := mutW_of (r := .tup []) (σ' := σ xs.length) hf hb hc hok hr (by simpa using hn) hA hvs hex hob hsp (T_mono
    (h R l σ fr _ (cA ++ ex) rfl rfl hl (ow_not hob hl (fun _ _ h => by cases h) (fun _ _ h => by cases h)) hAl fam hfr (fun k x hx => (hy k x hx).more ex exs)) fun e s' ⟨h1, h2, h3⟩ =>
      ⟨h1, [], rfl, rfl, rfl, fun p hp => by rw [h2]; exact fam.once _ p hp, h3⟩)
  refine hrun.mono ?_
  rintro e w' ⟨x, A', τ', rfl, q1, q2, q3, _, q5⟩
  exact ⟨x, A', τ', rfl, q1, q2, q3, q5⟩
end
def AS.keepE (k : List Nat) (s : AS) : AS := { s with env := k.map fun i => (i, lk s.env i) }
section
variable {G : Ground} {F : Fence} {n : Nat} {Q : Exit → AS → Prop} {s : AS}
theorem keepE_weak (G : Ground) (k : List Nat) (s : AS) : Weak G s (s.keepE k) := by
  refine Weak.env fun i => ?_
  induction k with
  | nil => exact .inr rfl
  | cons j k ih =>
    simp only [List.map_cons, lk_put]
    by_cases h : i = j
    · left; rw [if_pos h, h]
    · rw [if_neg h]; exact ih
theorem T_regE (hF : FOk F) {t : TOps} {kp ids : List Nat} {S : AS} (h : Run G.P t (fun s' => s'.keepE kp = S) s) (k : Q .normal S) : T G F n (.region none t kp ids) Q s := by
  refine ⟨fun code hc => ?_⟩
  intro hok a w hs
  obtain ⟨id, ops, l, rfl, hz, hfl⟩ := inv_region hc
  have hl := flatT_inj hfl
  subst hl
  simp only [ACode.ok, Bool.and_eq_true] at hok
  obtain ⟨s', hst, hq⟩ := run_sound (G := G) hok.1 hok.2 h
  refine wpIn_region ?_
  have := steps_ops (F := F) (n := n) (Q := fun e a w => ∃ s', Q e s' ∧ SimS G s' a w) hF hst 0 ops.toList hz (fun i o hi => by simpa using hi) (fun a w hs' => ⟨S, k, by rw [← hq]; exact keepE_weak G kp s' a w hs'⟩) a w hs
  rw [compR_len hz] at this
  simpa [List.range_eq_range'] using this
theorem T_srE (hF : FOk F) {t : TOps} {kp ids : List Nat} {S : AS} {b : ACode} (h : Run G.P t (fun s' => s'.keepE kp = S) s) (k : T G F n b Q S) : T G F n (.seq (.region none t kp ids) b) Q s :=
  T_seq (T_regE hF h ⟨k⟩)
end
theorem lk_has {d : Nat} {e : Env} (h : e.all (fun p => !p.2.has d) = true) (i : Nat) : (lk e i).has d = false := by
  induction e with
  | nil => rfl
  | cons p e ih =>
    obtain ⟨j, v⟩ := p
    simp only [List.all_cons, Bool.and_eq_true, Bool.not_eq_true'] at h
    simp only [lk]
    split
    · exact h.1
    · exact ih (by simpa using h.2)
theorem Weak.pick {G : Ground} {s : AS} (k : List Nat) : Weak G s { s with env := k.map fun i => (i, lk s.env i) } := keepE_weak G k s
theorem Weak.nilC {G : Ground} {s : AS} (o d i k : Nat) {cs : List AC} (ho : lo s.σ o = .cells true cs) (hi : cs[i]? = some .nils) (hd : s.nr d = true) (hn : lo s.σ d = .none) :
    Weak G s { s with σ := (o, .cells true (cs.set i (.msl d 0 k 0 none))) :: (d, .arr true k []) :: s.σ } := by
  rintro a w ⟨A, τ, hs⟩
  have h1 := hs.newNone (AS.nr_Nr hd) hn true k
  have hod : o ≠ d := fun e => by rw [e, hn] at ho; cases ho
  have hlo : lo ((d, .arr true k []) :: s.σ) o = .cells true cs := by rw [lo_put, if_neg hod]; exact ho
  refine ⟨A, _, h1.below, h1.a0, h1.a1, h1.alt, h1.size, h1.env, fun t => ?_, fun t t' b n1 n2 hne hmu hb => ?_, h1.ex, h1.marks⟩
  · rw [lo_put]
    by_cases ht : t = o
    · subst ht
      rw [if_pos rfl]
      have := h1.obj t
      simp only [hlo] at this
      obtain ⟨b, xs, e, q1, q2, q3, q4⟩ := this
      refine ⟨b, xs, e, q1, q2, All2.of_get (by rw [List.length_set]; exact q3.length) fun j c x hc hx => ?_, q4⟩
      by_cases hj : j = i
      · subst hj
        rw [List.getElem?_set_self (by have := (List.getElem?_eq_some_iff.1 hi).1; exact this)] at hc
        cases hc
        obtain ⟨y, hy, hr⟩ := q3.get j _ hi
        rw [hy] at hx; cases hx
        cases hr with | c0 hr => cases hr with
          | nils => exact .c0 (.mslN d 0 k none none (if_pos rfl) (fun n hn => by cases hn))
      · rw [List.getElem?_set_ne (Ne.symm hj)] at hc
        obtain ⟨y, hy, hr⟩ := q3.get j _ hc
        rw [hy] at hx; cases hx
        exact hr
    · rw [if_neg ht]; exact h1.obj t
  · have key : ∀ t, lo ((o, .cells true (cs.set i (.msl d 0 k 0 none))) :: (d, .arr true k []) :: s.σ) t ≠ .none → lo ((d, .arr true k []) :: s.σ) t ≠ .none := by
      intro t h
      rw [lo_put] at h
      split at h
      · rename_i e; subst e; rw [hlo]; simp
      · exact h
    refine h1.sep t t' b (key t n1) (key t' n2) hne ?_ hb
    rw [lo_put] at hmu
    split at hmu
    · rename_i e; subst e; rw [hlo]; rfl
    · exact hmu
theorem FrOk.of {s : AS} {σ1 : Sto} {d : Nat} (ks : List Nat) (hks : σ1.map (·.1) = ks) (he : s.env.all (fun p => !p.2.has d) = true) (hx : s.ex.all (fun v => !v.has d) = true) (hk : s.σ.all (fun p => ks.contains p.1) = true)
    (ho : lo s.σ d = .none ∨ ks.contains d = true) : FrOk s σ1 d := by
  refine ⟨lk_has he, fun v hv => by simpa using (List.all_eq_true.1 hx) v hv, fun t ht => ?_, ?_⟩
  · have : lo s.σ t = .none := lo_none fun hc => by
      obtain ⟨p, hp, rfl⟩ := List.mem_map.1 hc
      have := (List.all_eq_true.1 hk) p hp
      rw [hks] at ht
      exact ht (by simpa using this)
    rw [this]; rfl
  · rw [hks]
    exact ho.imp id fun h => by simpa using h
theorem ends_agg2 {rv : List RV} {s : AS} {t k len : Nat} {cap : Option Nat} {m : Bool} {rows : List (List PV)} {a v : PV} (h1 : evRV rv s.env s.σ = some [.agg [.p a, .msl t 0 k len cap], .one (.p v)]) (h2 : lo s.σ t = .arr m k rows) (hl : len = rows.length) :
    Ends rv (.tup [.agg [a, .sl rows], .one v]) .ret s :=
  ends_ret (ds := [.agg [a, .sl rows], .one v]) (σ' := if m then (t, .arr false k rows) :: s.σ else s.σ) h1 (by
    have h3 : foldP (toP 6) [.p a, .msl t 0 k len cap] s.σ = some ([a, .sl rows], if m then (t, .arr false k rows) :: s.σ else s.σ) := by
      have := toD_list (n := 5) (cap := cap) h2 hl
      simp only [foldP]
      rw [show toP 6 (AC.p a) s.σ = some (a, s.σ) from rfl]
      simp only [this]
    simp only [toDs, toD, h3]; rfl) rfl rfl
end Go.AM

namespace Go.AM
open Go.RowKit (Below)

def quietOp : AOp → Bool
  | .q _ | .call _ _ => true
  | _ => false
def okT (oj oi : FOp) : Bool := (match oj.d with | some d => !oi.us.contains d && oi.d != some d | none => true) && (match oi.d with | some d => !oj.us.contains d | none => true)
def quietG : Nat → List (List Nat) → List FOp → List (Nat × FOp) → Bool
  | _, [], [], _ => true
  | i, un :: uns, o :: os, acc => quietOp o.op && acc.all (fun a => !un.contains a.1 || okT a.2 o) && quietG (i + 1) uns os ((i, o) :: acc)
  | _, _, _, _ => false
def RunF (P : Program) : List FOp → (AS → Prop) → AS → Prop
  | [], K, s => K s
  | o :: os, K, s => match gmet s.env o.g with
    | some false => RunF P os K (putd o.d .und s)
    | some true => match o.op with
      | .q q => match evQ q s.env s.σ with
        | some v => RunF P os K (putd o.d v s)
        | none => False
      | .call f xs => (gets s.env (f :: xs)).all AVp = true ∧ ∃ r, CallR P f xs s.env s.σ s.σ r ∧ RunF P os K (putd o.d r.av s)
      | _ => False
    | none => False
theorem runF_D {P : Program} {s0 : AS} {K : AS → Prop} : ∀ (os : List FOp) (uns : List (List Nat)) (i : Nat) (acc : List It) (s : AS), (∀ t ∈ acc, t.f.wr = none ∧ t.f.nw = false) →
    quietG i uns os (acc.map fun t => (t.1, t.o)) = true → RunF P os K s → RunD P s0 i uns os acc K s
  | [], [], i, acc, s, ha, hq, h => by simp only [RunF] at h; simp only [RunD]; exact h
  | [], _ :: _, i, acc, s, ha, hq, h => by simp [quietG] at hq
  | _ :: _, [], i, acc, s, ha, hq, h => by simp [quietG] at hq
  | o :: os, un :: uns, i, acc, s, ha, hq, h => by
    simp only [quietG, Bool.and_eq_true, List.all_map] at hq
    obtain ⟨⟨h1, h2⟩, h3⟩ := hq
    have pair : ∀ (v : AV) (rd : List Nat), acc.all (fun t => okPair un t (i, o, { v := v, rd := rd })) = true := by
      intro v rd
      rw [List.all_eq_true] at h2 ⊢
      intro t ht
      obtain ⟨q1, q2⟩ := ha t ht
      have := h2 t ht
      simp only [Function.comp, Bool.or_eq_true] at this
      unfold okPair
      have e1 : okN t.f ({ v := v, rd := rd } : FP) = true := rfl
      have e2 : okN ({ v := v, rd := rd } : FP) t.f = true := by unfold okN; rw [q2]; rfl
      show (okN t.f ({ v := v, rd := rd } : FP) && (!un.contains t.1 || (okN ({ v := v, rd := rd } : FP) t.f && okInd t.o t.f o { v := v, rd := rd }))) = true
      rw [e1, e2, Bool.true_and, Bool.true_and]
      rcases this with h | h
      · rw [h]; rfl
      · have : okInd t.o t.f o { v := v, rd := rd } = true := by
          unfold okT at h
          simp only [Bool.and_eq_true] at h
          have hsc : t.f.scO = none := by unfold FP.scO; rw [q1]; split <;> rfl
          unfold okInd okCl
          rw [q1, hsc]
          simp only [Bool.and_true]
          rw [show (({ v := v, rd := rd } : FP).scO) = none from rfl]
          simp only [Bool.and_true, Bool.and_eq_true]
          exact ⟨h, rfl⟩
        rw [this]; simp
    have next : ∀ (v : AV) (rd : List Nat) (s' : AS), RunF P os K s' → RunD P s0 (i + 1) uns os ((i, o, { v := v, rd := rd }) :: acc) K s' := by
      intro v rd s' hr
      refine runF_D os uns (i + 1) _ s' (fun t ht => ?_) (by simpa [It.o] using h3) hr
      rcases List.mem_cons.1 ht with rfl | ht
      · exact ⟨rfl, rfl⟩
      · exact ha t ht
    simp only [RunF] at h
    simp only [RunD]
    split at h
    · rename_i hg
      try simp only [hg]
      exact ⟨pair _ _, next _ _ _ h⟩
    · rename_i hg
      try simp only [hg]
      split at h
      · rename_i q ho
        split at h
        · rename_i v hv
          try simp only [ho, hv]
          exact ⟨pair _ _, next _ _ _ h⟩
        · exact h.elim
      · rename_i f xs ho
        try simp only [ho]
        obtain ⟨q1, r, q2, q3⟩ := h
        exact ⟨q1, r, q2, pair _ _, next _ _ _ q3⟩
      · exact h.elim
    · exact h.elim
section
variable {G : Ground} {F : Fence} {n : Nat} {Q : Exit → AS → Prop} {s : AS}
theorem T_drF (hF : FOk F) {un : List (List Nat)} {t : TOps} {kp ids : List Nat} {S : AS} (hm : G.P.follows .mixedOrders = true) (hq : quietG 0 un t.flat [] = true) (h : RunF G.P t.flat (fun s' => s'.keep kp ids = S) s) (k : Q .normal S) :
    T G F n (.region (some un) t kp ids) Q s := T_dr hF hm (runF_D _ _ _ [] _ (fun t ht => by simp at ht) hq h) k
theorem T_sdF (hF : FOk F) {un : List (List Nat)} {t : TOps} {kp ids : List Nat} {S : AS} {b : ACode} (hm : G.P.follows .mixedOrders = true) (hq : quietG 0 un t.flat [] = true) (h : RunF G.P t.flat (fun s' => s'.keep kp ids = S) s) (k : T G F n b Q S) :
    T G F n (.seq (.region (some un) t kp ids) b) Q s := T_seq (T_drF hF hm hq h ⟨k⟩)
end
section
variable {P : Program} {os : List FOp} {K : AS → Prop} {d : Nat} {g : Option (Nat × Bool)} {e : Env} {σ : Sto} {ex : List AV}
theorem RunF_q {q : QOp} {v : AV} (hg : gmet e g = some true) (h : evQ q e σ = some v) (k : RunF P os K { env := (d, v) :: e, σ := σ, ex := ex }) : RunF P (⟨some d, g, .q q⟩ :: os) K { env := e, σ := σ, ex := ex } := by
  simp only [RunF, hg, h]; exact k
theorem RunF_skip {op : AOp} (hg : gmet e g = some false) (k : RunF P os K { env := (d, .und) :: e, σ := σ, ex := ex }) : RunF P (⟨some d, g, op⟩ :: os) K { env := e, σ := σ, ex := ex } := by
  simp only [RunF, hg]; exact k
theorem RunF_call {f : Opd} {xs : List Opd} {r : DV} (hg : gmet e g = some true) (hp : (gets e (f :: xs)).all AVp = true) (hc : CallR P f xs e σ σ r) (k : RunF P os K { env := (d, r.av) :: e, σ := σ, ex := ex }) :
    RunF P (⟨some d, g, .call f xs⟩ :: os) K { env := e, σ := σ, ex := ex } := by
  simp only [RunF, hg]; exact ⟨hp, r, hc, k⟩
theorem RunF_nil {S : AS} {kp ids : List Nat} (h : AS.keep kp ids { env := e, σ := σ, ex := ex } = S) : RunF P [] (fun s' => s'.keep kp ids = S) { env := e, σ := σ, ex := ex } := by
  simp only [RunF]; exact h
end
end Go.AM

namespace Go.AM
open Go.RowKit (Below)

def SK (G : Ground) (os : List FOp) (K : AS → Prop) (s : AS) : Prop := ∃ S, Steps G.P G os s S ∧ K S
section
variable {G : Ground} {os : List FOp} {K : AS → Prop} {d : Nat} {g : Option (Nat × Bool)} {e : Env} {σ : Sto} {ex : List AV}
theorem S_q {q : QOp} {v : AV} (hd : d < G.nt) (hg : gmet e g = some true) (h : evQ q e σ = some v) (k : SK G os K { env := (d, v) :: e, σ := σ, ex := ex }) : SK G (⟨some d, g, .q q⟩ :: os) K { env := e, σ := σ, ex := ex } :=
  let ⟨S, h', k'⟩ := k; ⟨S, .cons (.run hg (fun t ht => by cases ht; exact hd) (.q h)) h', k'⟩
theorem S_skip {op : AOp} (hd : d < G.nt) (hg : gmet e g = some false) (k : SK G os K { env := (d, .und) :: e, σ := σ, ex := ex }) : SK G (⟨some d, g, op⟩ :: os) K { env := e, σ := σ, ex := ex } :=
  let ⟨S, h', k'⟩ := k; ⟨S, .cons (.skip hg (fun t ht => by cases ht; exact hd)) h', k'⟩
theorem S_skipN {op : AOp} (hg : gmet e g = some false) (k : SK G os K { env := e, σ := σ, ex := ex }) : SK G (⟨none, g, op⟩ :: os) K { env := e, σ := σ, ex := ex } :=
  let ⟨S, h', k'⟩ := k; ⟨S, .cons (.skip hg (fun t ht => by cases ht)) h', k'⟩
theorem S_n {q : NOp} {ob : AO} {v : AV} (hd : d < G.nt) (hg : gmet e g = some true) (hn : lo σ d = .none) (hr : AS.nr d { env := e, σ := σ, ex := ex } = true) (h : evN q e d = some (ob, v))
    (k : SK G os K { env := (d, v) :: e, σ := (d, ob) :: σ, ex := ex }) : SK G (⟨some d, g, .n q⟩ :: os) K { env := e, σ := σ, ex := ex } :=
  let ⟨S, h', k'⟩ := k; ⟨S, .cons (.run hg (fun t ht => by cases ht; exact hd) (.n rfl hn (AS.nr_Nr hr) h)) h', k'⟩
theorem S_st {q : SOp} {u : Nat} {ob : AO} {v : AV} (hg : gmet e g = some true) (h : evS q e σ 0 = some (u, ob, v, 0)) (k : SK G os K { env := e, σ := (u, ob) :: σ, ex := ex }) : SK G (⟨none, g, .s q⟩ :: os) K { env := e, σ := σ, ex := ex } :=
  let ⟨S, h', k'⟩ := k; ⟨S, .cons (.run (o := ⟨none, g, .s q⟩) hg (fun t ht => by cases ht) (.s (t := 0) (.inr rfl) h (fun hk => by cases hk))) h', k'⟩
theorem S_ap1 {q : SOp} {ob : AO} {v : AV} (hd : d < G.nt) (hg : gmet e g = some true) (h : evS q e σ d = some (d, ob, v, 1)) (hn : lo σ d = .none) (hr : AS.nr d { env := e, σ := σ, ex := ex } = true)
    (k : SK G os K { env := (d, v) :: e, σ := (d, ob) :: σ, ex := ex }) : SK G (⟨some d, g, .s q⟩ :: os) K { env := e, σ := σ, ex := ex } :=
  let ⟨S, h', k'⟩ := k; ⟨S, .cons (.run (o := ⟨some d, g, .s q⟩) hg (fun t ht => by cases ht; exact hd) (.s (.inl rfl) h (fun _ => ⟨rfl, AS.nr_Nr hr, hn⟩))) h', k'⟩
theorem S_ap2 {q : SOp} {u : Nat} {ob : AO} {v : AV} {e1 : Env} {σ1 : Sto} {ex1 : List AV} (hd : d < G.nt) (hg : gmet e g = some true) (h : evS q e σ d = some (u, ob, v, 2)) (hs : AS.scr u { env := e, σ := σ, ex := ex } = { env := e1, σ := σ1, ex := ex1 })
    (k : SK G os K { env := (d, v) :: e1, σ := (u, ob) :: σ1, ex := ex1 }) : SK G (⟨some d, g, .s q⟩ :: os) K { env := e, σ := σ, ex := ex } := by
  obtain ⟨S, h', k'⟩ := k
  refine ⟨S, .cons (.run (o := ⟨some d, g, .s q⟩) hg (fun t ht => by cases ht; exact hd) (.s (.inl rfl) h (fun hk => by cases hk))) ?_, k'⟩
  simp only [newSt, if_true, hs, putd]
  exact h'
theorem S_call {f : Opd} {xs : List Opd} {r : DV} {σ' : Sto} (hd : d < G.nt) (hg : gmet e g = some true) (hc : CallR G.P f xs e σ σ' r) (k : SK G os K { env := (d, r.av) :: e, σ := σ', ex := ex }) :
    SK G (⟨some d, g, .call f xs⟩ :: os) K { env := e, σ := σ, ex := ex } :=
  let ⟨S, h', k'⟩ := k; ⟨S, .cons (.run hg (fun t ht => by cases ht; exact hd) (.call (s := { env := e, σ := σ, ex := ex }) hc)) h', k'⟩
theorem S_callM {f : Opd} {xs : List Opd} {r : AV} {σ1 : Sto} (hd : d < G.nt) (hg : gmet e g = some true) (hc : CallM G.P f xs { env := e, σ := σ, ex := ex } r σ1) (k : SK G os K { env := (d, r) :: e, σ := σ1 ++ σ, ex := ex }) :
    SK G (⟨some d, g, .call f xs⟩ :: os) K { env := e, σ := σ, ex := ex } :=
  let ⟨S, h', k'⟩ := k; ⟨S, .cons (.run hg (fun t ht => by cases ht; exact hd) (.callM (s := { env := e, σ := σ, ex := ex }) hc)) h', k'⟩
theorem S_keep {kp ids : List Nat} {s S : AS} (h : s.keep kp ids = S) : SK G [] (fun s' => s'.keep kp ids = S) s := ⟨s, .nil, h⟩
variable {F : Fence} {n : Nat} {Q : Exit → AS → Prop} {s S : AS}
theorem T_regK (hF : FOk F) {t : TOps} {kp ids : List Nat} (h : SK G t.flat (fun s' => s'.keep kp ids = S) s) (k : Q .normal S) : T G F n (.region none t kp ids) Q s := by
  obtain ⟨S', h1, h2⟩ := h
  refine T_mono (T_steps (Q := fun e s' => e = .normal ∧ s' = S) hF (h1.append (l := t.flat) (m := []) (.weak (h2 ▸ keep_weak G kp ids S') .nil) |> (by simpa using ·)) ⟨rfl, rfl⟩) ?_
  rintro e s' ⟨rfl, rfl⟩
  exact k
theorem T_srK (hF : FOk F) {t : TOps} {kp ids : List Nat} {b : ACode} (h : SK G t.flat (fun s' => s'.keep kp ids = S) s) (k : T G F n b Q S) : T G F n (.seq (.region none t kp ids) b) Q s := T_seq (T_regK hF h ⟨k⟩)
end
theorem Weak.sub {G : Ground} {e : Env} {σ σ' : Sto} {ex : List AV} (h : ∀ p ∈ σ', lo σ p.1 = p.2) : Weak G { env := e, σ := σ, ex := ex } { env := e, σ := σ', ex := ex } :=
  Weak.sto (s := { env := e, σ := σ, ex := ex }) (lo_of_mem h)
structure SKt (G : Ground) (o : FOp) (os : List FOp) (K : AS → Prop) (s : AS) : Prop where
  of : gmet s.env o.g = some true → SK G (o :: os) K s
structure SKf (G : Ground) (o : FOp) (os : List FOp) (K : AS → Prop) (s : AS) : Prop where
  of : gmet s.env o.g = some false → SK G (o :: os) K s
def SKb (G : Ground) (b : Bool) (o : FOp) (os : List FOp) (K : AS → Prop) (s : AS) : Prop := match b with
  | true => SKt G o os K s
  | false => SKf G o os K s
section
variable {G : Ground} {os : List FOp} {K : AS → Prop} {d : Nat} {g : Option (Nat × Bool)} {e : Env} {σ : Sto} {ex : List AV}
theorem X_g {o : FOp} {b : Bool} {s : AS} (hg : gmet s.env o.g = some b) (k : SKb G b o os K s) : SK G (o :: os) K s := by
  cases b
  · exact SKf.of k hg
  · exact SKt.of k hg
theorem X_g0 {d : Option Nat} {op : AOp} {s : AS} (k : SKb G true ⟨d, none, op⟩ os K s) : SK G (⟨d, none, op⟩ :: os) K s := X_g (o := ⟨d, none, op⟩) rfl k
theorem X_q {q : QOp} {v : AV} (hd : d < G.nt) (h : evQ q e σ = some v) (k : SK G os K { env := (d, v) :: e, σ := σ, ex := ex }) : SKb G true ⟨some d, g, .q q⟩ os K { env := e, σ := σ, ex := ex } :=
  SKt.mk fun hg => S_q hd hg h k
theorem X_skip {op : AOp} (hd : d < G.nt) (k : SK G os K { env := (d, .und) :: e, σ := σ, ex := ex }) : SKb G false ⟨some d, g, op⟩ os K { env := e, σ := σ, ex := ex } :=
  SKf.mk fun hg => S_skip hd hg k
theorem X_skipN {op : AOp} (k : SK G os K { env := e, σ := σ, ex := ex }) : SKb G false ⟨none, g, op⟩ os K { env := e, σ := σ, ex := ex } :=
  SKf.mk fun hg => S_skipN hg k
theorem X_n {q : NOp} {ob : AO} {v : AV} (hd : d < G.nt) (h : evN q e d = some (ob, v))
    (k : (lo σ d = .none ∧ AS.nr d { env := e, σ := σ, ex := ex } = true) ∧ SK G os K { env := (d, v) :: e, σ := (d, ob) :: σ, ex := ex }) : SKb G true ⟨some d, g, .n q⟩ os K { env := e, σ := σ, ex := ex } := SKt.mk fun hg => S_n hd hg k.1.1 k.1.2 h k.2
theorem X_st {q : SOp} {u : Nat} {ob : AO} {v : AV} (h : evS q e σ 0 = some (u, ob, v, 0)) (k : SK G os K { env := e, σ := (u, ob) :: σ, ex := ex }) : SKb G true ⟨none, g, .s q⟩ os K { env := e, σ := σ, ex := ex } :=
  SKt.mk fun hg => S_st hg h k
theorem X_ap1 {q : SOp} {ob : AO} {v : AV} (hd : d < G.nt) (h : evS q e σ d = some (d, ob, v, 1))
    (k : (lo σ d = .none ∧ AS.nr d { env := e, σ := σ, ex := ex } = true) ∧ SK G os K { env := (d, v) :: e, σ := (d, ob) :: σ, ex := ex }) : SKb G true ⟨some d, g, .s q⟩ os K { env := e, σ := σ, ex := ex } := SKt.mk fun hg => S_ap1 hd hg h k.1.1 k.1.2 k.2
theorem X_ap2 {q : SOp} {u : Nat} {ob : AO} {v : AV} {e1 : Env} {σ1 : Sto} {ex1 : List AV} (hd : d < G.nt) (h : evS q e σ d = some (u, ob, v, 2))
    (k : AS.scr u { env := e, σ := σ, ex := ex } = { env := e1, σ := σ1, ex := ex1 } ∧ SK G os K { env := (d, v) :: e1, σ := (u, ob) :: σ1, ex := ex1 }) : SKb G true ⟨some d, g, .s q⟩ os K { env := e, σ := σ, ex := ex } := SKt.mk fun hg => S_ap2 hd hg h k.1 k.2
theorem X_call {f : Opd} {xs : List Opd} {r : DV} {σ' : Sto} (hd : d < G.nt) (hc : CallR G.P f xs e σ σ' r) (k : SK G os K { env := (d, r.av) :: e, σ := σ', ex := ex }) :
    SKb G true ⟨some d, g, .call f xs⟩ os K { env := e, σ := σ, ex := ex } := SKt.mk fun hg => S_call hd hg hc k
theorem X_callM {f : Opd} {xs : List Opd} {r : AV} {σ1 : Sto} (hd : d < G.nt) (hc : CallM G.P f xs { env := e, σ := σ, ex := ex } r σ1) (k : SK G os K { env := (d, r) :: e, σ := σ1 ++ σ, ex := ex }) :
    SKb G true ⟨some d, g, .call f xs⟩ os K { env := e, σ := σ, ex := ex } := SKt.mk fun hg => S_callM hd hg hc k
end
structure RFt (P : Program) (o : FOp) (os : List FOp) (K : AS → Prop) (s : AS) : Prop where
  of : gmet s.env o.g = some true → RunF P (o :: os) K s
structure RFf (P : Program) (o : FOp) (os : List FOp) (K : AS → Prop) (s : AS) : Prop where
  of : gmet s.env o.g = some false → RunF P (o :: os) K s
def RFb (P : Program) (b : Bool) (o : FOp) (os : List FOp) (K : AS → Prop) (s : AS) : Prop := match b with
  | true => RFt P o os K s
  | false => RFf P o os K s
section
variable {P : Program} {os : List FOp} {K : AS → Prop} {d : Nat} {g : Option (Nat × Bool)} {e : Env} {σ : Sto} {ex : List AV}
theorem Y_g {o : FOp} {b : Bool} {s : AS} (hg : gmet s.env o.g = some b) (k : RFb P b o os K s) : RunF P (o :: os) K s := by
  cases b
  · exact RFf.of k hg
  · exact RFt.of k hg
theorem Y_g0 {d : Option Nat} {op : AOp} {s : AS} (k : RFb P true ⟨d, none, op⟩ os K s) : RunF P (⟨d, none, op⟩ :: os) K s := Y_g (o := ⟨d, none, op⟩) rfl k
theorem Y_q {q : QOp} {v : AV} (h : evQ q e σ = some v) (k : RunF P os K { env := (d, v) :: e, σ := σ, ex := ex }) : RFb P true ⟨some d, g, .q q⟩ os K { env := e, σ := σ, ex := ex } := RFt.mk fun hg => RunF_q hg h k
theorem Y_skip {op : AOp} (k : RunF P os K { env := (d, .und) :: e, σ := σ, ex := ex }) : RFb P false ⟨some d, g, op⟩ os K { env := e, σ := σ, ex := ex } := RFf.mk fun hg => RunF_skip hg k
theorem Y_call {f : Opd} {xs : List Opd} {r : DV} (hc : CallR P f xs e σ σ r) (hp : (gets e (f :: xs)).all AVp = true) (k : RunF P os K { env := (d, r.av) :: e, σ := σ, ex := ex }) :
    RFb P true ⟨some d, g, .call f xs⟩ os K { env := e, σ := σ, ex := ex } := RFt.mk fun hg => RunF_call hg hp hc k
end
end Go.AM

namespace Go.AM
attribute [go_sem] Run RunI evQ evN evS evBinV evBin evNil isNilK isNilC isNeq ldP ldC ldO get gets acs pvs C0ok parts asCells fillC srcOf srcZ partsP setRows putd newSt AS.keep AS.keepE pint pbool List.map List.length lk lo initE DV.av DV.av1 TOps.dsts if_true if_false ite_true ite_false Option.getD Option.toList List.cons_append List.nil_append List.append_nil decide_true decide_false Bool.not_true Bool.not_false cond_true cond_false List.length_map List.getElem?_map Option.map Int.toNat_natCast Int.natCast_nonneg Int.ofNat_lt true_and and_true List.take List.drop Bool.false_eq_true List.getElem?_cons_zero List.getElem?_cons_succ Nat.add_zero Nat.zero_add Bool.and_true Bool.true_and Bool.or_false Bool.false_or Bool.and_false Bool.or_true Bool.true_or Bool.false_and AS.scr AV.scr AC.scr AO.scr AS.nr List.all_cons List.all_nil AV.has AV.has.hasV AC.has AC.has.hasL AO.nr decide_eq_true_eq false_and and_false List.set List.replicate ne_eq not_true not_false_eq_true Nat.zero_mul Int.mul_one List.length_set Option.bind Nat.zero_le max1 max2 max3 max4 max5 max6 max7 max8 Nat.le_refl List.length_append List.length_cons List.length_nil List.length_replicate ddS restS List.filter_cons List.filter_nil List.contains_cons List.contains_nil beq_self_eq_true initV bne_self_eq_false false_implies true_implies imp_self implies_true
attribute [go_sem] RunD TOps.flat okPair okN okInd okCl okFr rdOf AV.id1 FOp.us usG AOp.opds QOp.opds NOp.opds SOp.opds Opd.us FP.scO gmet AVp ACp dtOf dobOf It.o It.f List.flatMap_cons List.flatMap_nil Option.isNone List.filter List.filterMap Option.some_beq_some Option.some_beq_none Option.none_beq_some Option.map_none Option.map_some Bool.or_self Bool.and_self List.filterMap_cons List.filterMap_nil Option.isNone_none Option.isNone_some RunF
attribute [go_sem] bndI roomOf slcC findE entV entriesOf putM carryN chunk isTop oleB Int.cast_ofNat_Int Int.natCast_zero Int.natCast_one TOps.flat Nat.sub_zero List.flatten_cons List.flatten_nil true_or or_true Option.some.injEq
end Go.AM

namespace Go.AM
section
variable {G : Ground} {F : Fence} {n : Nat} {Q : Exit → AS → Prop} {s : AS}
theorem T_cap (i : Nat) {t o k len : Nat} {c : ACode} (hv : lk s.env i = .one (.msl t o k len none)) (h : ∀ m, len ≤ m → T G F n c Q { s with env := (i, .one (.msl t o k len (some m))) :: s.env }) : T G F n c Q s := by
  refine ⟨fun code hc hok a w hs => ?_⟩
  obtain ⟨A, τ, hs⟩ := hs
  have h1 := hs.env i
  rw [hv] at h1
  have key : ∃ m, len ≤ m ∧ VRel A τ w (.one (.msl t o k len (some m))) (a.tmps.getD i undef) := by
    generalize a.tmps.getD i undef = x at h1
    cases one_inv h1 with | c0 h2 => cases h2 with
      | mslN _ _ _ _ b hτ hc => exact ⟨0, Nat.le_refl _, .v1 (.one (.c0 (.mslN t o k (some 0) b hτ (fun q hq => by cases hq; rfl))))⟩
      | msl _ _ _ _ b m _ hτ hc hl hr =>
        obtain ⟨cs, e, r1, r2, _⟩ := hr
        exact ⟨m, hl, .v1 (.one (.c0 (.msl t o k len b m (some m) hτ (fun q hq => by cases hq; rfl) hl ⟨cs, e, r1, r2, fun hq => by cases hq⟩)))⟩
  obtain ⟨m, hm, hr⟩ := key
  exact (h m hm).of code hc hok a w ⟨A, τ, ⟨hs.below, hs.a0, hs.a1, hs.alt, hs.size, fun j => by
    simp only [lk_put]
    by_cases hj : j = i
    · subst hj; rw [if_pos rfl]; exact hr
    · rw [if_neg hj]; exact hs.env j, hs.obj, hs.sep, hs.ex, hs.marks⟩⟩
theorem callM_mk {P : Program} {f : Opd} {az : List Opd} {s : AS} {r : AV} {σ1 σ0 : Sto} {c : AC} {id : FuncId} {first caps : List AV} {fr : List Nat} (h1 : get s.env f = .one c) (h2 : fnOf c = some (id, first, caps))
    (h6 : MutC P id (first ++ gets s.env az ++ caps) σ0 r σ1 fr) (h3 : ∀ p ∈ σ0, lo s.σ p.1 = p.2) (h4 : ∀ p ∈ σ0, p.1 ∈ σ1.map (·.1)) (h5 : ∀ d ∈ fr, s.nr d = true ∧ lo s.σ d = .none) : CallM P f az s r σ1 :=
  ⟨c, id, first, caps, σ0, fr, h1, h2, h3, h4, h5, h6⟩
theorem S_st1 {os : List FOp} {K : AS → Prop} {d : Nat} {g : Option (Nat × Bool)} {e : Env} {σ : Sto} {ex : List AV} {q : SOp} {u : Nat} {ob : AO} {v : AV} (hd : d < G.nt) (hg : gmet e g = some true) (h : evS q e σ d = some (u, ob, v, 0)) (k : SK G os K { env := (d, v) :: e, σ := (u, ob) :: σ, ex := ex }) :
    SK G (⟨some d, g, .s q⟩ :: os) K { env := e, σ := σ, ex := ex } :=
  let ⟨S, h', k'⟩ := k; ⟨S, .cons (.run (o := ⟨some d, g, .s q⟩) hg (fun t ht => by cases ht; exact hd) (.s (t := d) (.inl rfl) h (fun hk => by cases hk))) h', k'⟩
theorem X_st1 {os : List FOp} {K : AS → Prop} {d : Nat} {g : Option (Nat × Bool)} {e : Env} {σ : Sto} {ex : List AV} {q : SOp} {u : Nat} {ob : AO} {v : AV} (hd : d < G.nt) (h : evS q e σ d = some (u, ob, v, 0)) (k : SK G os K { env := (d, v) :: e, σ := (u, ob) :: σ, ex := ex }) :
    SKb G true ⟨some d, g, .s q⟩ os K { env := e, σ := σ, ex := ex } := SKt.mk fun hg => S_st1 hd hg h k
structure SKs (G : Ground) (os : List FOp) (K : AS → Prop) (d : Nat) (e : Env) (σ : Sto) (ex : List AV) (k u : Nat) (ob : AO) (v : AV) : Prop where
  of : match k with
    | 0 => SK G os K { env := (d, v) :: e, σ := (u, ob) :: σ, ex := ex }
    | 1 => u = d ∧ (lo σ d = .none ∧ AS.nr d { env := e, σ := σ, ex := ex } = true) ∧ SK G os K { env := (d, v) :: e, σ := (d, ob) :: σ, ex := ex }
    | 2 => ∃ e1 σ1 ex1, AS.scr u { env := e, σ := σ, ex := ex } = { env := e1, σ := σ1, ex := ex1 } ∧ SK G os K { env := (d, v) :: e1, σ := (u, ob) :: σ1, ex := ex1 }
    | _ => False
section
variable {G : Ground} {os : List FOp} {K : AS → Prop} {d u : Nat} {g : Option (Nat × Bool)} {e : Env} {σ : Sto} {ex : List AV} {ob : AO} {v : AV}
theorem SKs0 (h : SK G os K { env := (d, v) :: e, σ := (u, ob) :: σ, ex := ex }) : SKs G os K d e σ ex 0 u ob v := ⟨h⟩
theorem SKs1 (h : (lo σ d = .none ∧ AS.nr d { env := e, σ := σ, ex := ex } = true) ∧ SK G os K { env := (d, v) :: e, σ := (d, ob) :: σ, ex := ex }) : SKs G os K d e σ ex 1 d ob v := ⟨⟨rfl, h⟩⟩
theorem SKs2 {e1 : Env} {σ1 : Sto} {ex1 : List AV} (h : AS.scr u { env := e, σ := σ, ex := ex } = { env := e1, σ := σ1, ex := ex1 } ∧ SK G os K { env := (d, v) :: e1, σ := (u, ob) :: σ1, ex := ex1 }) : SKs G os K d e σ ex 2 u ob v := ⟨⟨_, _, _, h⟩⟩
theorem X_s {q : SOp} {k : Nat} (hd : d < G.nt) (h : evS q e σ d = some (u, ob, v, k)) (hk : SKs G os K d e σ ex k u ob v) : SKb G true ⟨some d, g, .s q⟩ os K { env := e, σ := σ, ex := ex } := by
  obtain ⟨hk⟩ := hk
  match k, hk with
  | 0, hk => exact X_st1 hd h hk
  | 1, hk => obtain ⟨rfl, hk⟩ := hk; exact X_ap1 hd h hk
  | 2, hk => obtain ⟨e1, σ1, ex1, hk⟩ := hk; exact X_ap2 hd h hk
  | k + 3, hk => exact hk.elim
end
def RunE (P : Program) (s0 : AS) : Nat → List (List Nat) → List FOp → List It → (AS → Prop) → AS → Prop
  | _, [], [], _, K, s => K s
  | i, un :: uns, o :: os, acc, K, s =>
    match gmet s.env o.g with
    | some false => acc.all (fun t => okPair un t (i, o, { v := .und })) = true ∧ RunE P s0 (i + 1) uns os ((i, o, { v := .und }) :: acc) K (putd o.d .und s)
    | some true => match o.op with
      | .q q => match evQ q s.env s.σ with
        | some v => acc.all (fun t => okPair un t (i, o, { v := v, rd := rdOf (.q q) s.env })) = true ∧ RunE P s0 (i + 1) uns os ((i, o, { v := v, rd := rdOf (.q q) s.env }) :: acc) K (putd o.d v s)
        | none => False
      | .s q => match evS q s.env s.σ (o.d.getD 0) with
        | some (u, ob, v, k) => (k = 0 ∧ oleB ob (lo s.σ u) = true) ∧ acc.all (fun t => okPair un t (i, o, { v := v, rd := u :: rdOf (.s q) s.env })) = true ∧
            RunE P s0 (i + 1) uns os ((i, o, { v := v, rd := u :: rdOf (.s q) s.env }) :: acc) K (putd o.d v s)
        | none => False
      | _ => False
    | none => False
  | _, _, _, _, _, _ => False
def findL : ACode → Nat → Option ACode
  | .seq a b, l => match findL a l with
    | some r => some (.seq r b)
    | none => findL b l
  | .label l', l => if l' == l then some .skip else none
  | _, _ => none
theorem findL_sound {P : Program} {nt l : Nat} : ∀ {c : ACode} {cc : Code}, compC P cc = some c.erase → c.ok nt = true →
    match findL c l with
    | some r => ∃ rc, findLabel cc l = some rc ∧ compC P rc = some r.erase ∧ r.ok nt = true
    | none => findLabel cc l = none := by
  intro c
  induction c with
  | seq a b iha ihb =>
    intro cc hc hok
    obtain ⟨ca, cb, rfl, h1, h2⟩ := inv_seq hc
    simp only [ACode.ok, Bool.and_eq_true] at hok
    have ka := iha h1 hok.1
    have kb := ihb h2 hok.2
    simp only [findL, findLabel]
    cases hf : findL a l with
    | some r =>
      rw [hf] at ka
      obtain ⟨rc, q1, q2, q3⟩ := ka
      refine ⟨.seq rc cb, by rw [q1], ?_, by simp [ACode.ok, q3, hok.2]⟩
      simp only [compC, q2, h2, ACode.erase]; rfl
    | none =>
      rw [hf] at ka
      simp only at ka
      simp only [ka]
      exact kb
  | label l' =>
    intro cc hc hok
    have := inv_label hc
    subst this
    simp only [findL, findLabel]
    split
    · rename_i r hr
      split at hr
      · cases hr; rename_i hl; exact ⟨.skip, by rw [if_pos hl], rfl, rfl⟩
      · cases hr
    · rename_i hr
      split at hr
      · cases hr
      · rename_i hl; rw [if_neg hl]
  | skip => intro cc hc _; have := inv_skip hc; subst this; rfl
  | region un t k i =>
    intro cc hc _
    simp only [ACode.erase] at hc
    obtain ⟨id, ops, d, l0, rfl, _⟩ := inv_region0 hc
    rfl
  | cond c x y _ _ => intro cc hc _; obtain ⟨_, _, _, rfl, _⟩ := inv_cond hc; rfl
  | block i c _ => intro cc hc _; obtain ⟨_, rfl, _⟩ := inv_block hc; rfl
  | loop c _ => intro cc hc _; obtain ⟨_, rfl, _⟩ := inv_loop hc; rfl
  | scope c _ => intro cc hc _; obtain ⟨_, rfl, _⟩ := inv_scope hc; rfl
  | exit i => intro cc hc _; have := inv_exit hc; subst this; rfl
  | goto i => intro cc hc _; have := inv_goto hc; subst this; rfl
  | ret => intro cc hc _; have := inv_ret hc; subst this; rfl
  | range f ps x y _ _ => intro cc hc _; obtain ⟨_, _, _, _, rfl, _⟩ := inv_range hc; rfl
structure jmp (G : Ground) (n l : Nat) (rest : ACode) (Q : Exit → AS → Prop) (e : Exit) (s : AS) : Prop where
  of : match e with
    | .goto l' => l' = l ∧ T G Fence.wide n rest (noGo Q) s
    | e => Q e s
theorem T_scopeJ (l : Nat) {c rest : ACode} (hf : findL c l = some rest) (h : T G Fence.wide n c (jmp G n l rest Q) s) : T G Fence.wide n (.scope c) Q s := by
  refine ⟨fun code hc hok a w hs => ?_⟩
  obtain ⟨cc, rfl, hc'⟩ := inv_scope hc
  have hok' : c.ok G.nt = true := hok
  have hfs := findL_sound (l := l) hc' hok'
  rw [hf] at hfs
  obtain ⟨rc, q1, q2, q3⟩ := hfs
  refine wpIn_wide.2 (wp_scope_jumps l (fun a w => ∃ s', SimS G s' a w ∧ T G Fence.wide n rest (noGo Q) s') (fun _ _ => 0) q1 (wpIn_wide.1 (wpIn_mono (h.of cc hc' hok' a w hs) ?_)) ?_)
  · rintro e a w ⟨s', hq, hs'⟩
    obtain ⟨hq⟩ := hq
    cases e with
    | goto l' => exact ⟨hq.1, s', hs', hq.2⟩
    | _ => exact ⟨s', hq, hs'⟩
  · rintro a w ⟨s', hs', hT⟩
    refine wpIn_wide.1 (wpIn_mono (hT.of rc q2 q3 a w hs') ?_)
    rintro e a w ⟨s', hq, hs'⟩
    obtain ⟨hq⟩ := hq
    cases e <;> first | exact hq.elim | exact ⟨s', hq, hs'⟩
variable {l id : Nat} {rest : ACode}
theorem jmp_normal (h : Q .normal s) : jmp G n l rest Q .normal s := ⟨h⟩
theorem jmp_ret (h : Q .ret s) : jmp G n l rest Q .ret s := ⟨h⟩
theorem jmp_exit (h : Q (.exit id) s) : jmp G n l rest Q (.exit id) s := ⟨h⟩
theorem jmp_goto (h : T G Fence.wide n rest (noGo Q) s) : jmp G n l rest Q (.goto l) s := ⟨rfl, h⟩
end
end Go.AM
namespace Go.AM
attribute [go_sem] RunE
end Go.AM

namespace Go.AM
open Go.RowKit (Below)

mutual
def AC.ren (ρ : Nat → Nat) : AC → AC
  | .ptr t i s o => .ptr (ρ t) i s o
  | .msl t o s l c => .msl (ρ t) o s l c
  | .mmap t => .mmap (ρ t)
  | .mfn f a b => .mfn f (AC.renL ρ a) (AC.renL ρ b)
  | .p v => .p v
  | .nils => .nils
  | .raw x => .raw x
def AC.renL (ρ : Nat → Nat) : List AC → List AC
  | [] => []
  | c :: cs => AC.ren ρ c :: AC.renL ρ cs
end
mutual
def AV.ren (ρ : Nat → Nat) : AV → AV
  | .one c => .one (c.ren ρ)
  | .agg cs => .agg (AC.renL ρ cs)
  | .tup xs => .tup (AV.renL ρ xs)
  | .top => .top
  | .und => .und
def AV.renL (ρ : Nat → Nat) : List AV → List AV
  | [] => []
  | c :: cs => AV.ren ρ c :: AV.renL ρ cs
end
theorem AC.renL_map (ρ : Nat → Nat) : ∀ cs : List AC, AC.renL ρ cs = cs.map (AC.ren ρ)
  | [] => rfl
  | c :: cs => by rw [AC.renL, AC.renL_map ρ cs]; rfl
theorem AV.renL_map (ρ : Nat → Nat) : ∀ cs : List AV, AV.renL ρ cs = cs.map (AV.ren ρ)
  | [] => rfl
  | c :: cs => by rw [AV.renL, AV.renL_map ρ cs]; rfl
mutual
theorem AC.ren_ren {ρ : Nat → Nat} (h : ∀ t, ρ (ρ t) = t) : ∀ c : AC, (c.ren ρ).ren ρ = c
  | .ptr t i s o => by simp only [AC.ren, h]
  | .msl t o s l c => by simp only [AC.ren, h]
  | .mmap t => by simp only [AC.ren, h]
  | .mfn f a b => by simp only [AC.ren, AC.renL_renL h a, AC.renL_renL h b]
  | .p v => rfl
  | .nils => rfl
  | .raw x => rfl
theorem AC.renL_renL {ρ : Nat → Nat} (h : ∀ t, ρ (ρ t) = t) : ∀ cs : List AC, AC.renL ρ (AC.renL ρ cs) = cs
  | [] => rfl
  | c :: cs => by simp only [AC.renL, AC.ren_ren h c, AC.renL_renL h cs]
end
mutual
theorem AV.ren_ren {ρ : Nat → Nat} (h : ∀ t, ρ (ρ t) = t) : ∀ c : AV, (c.ren ρ).ren ρ = c
  | .one c => by simp only [AV.ren, AC.ren_ren h]
  | .agg cs => by simp only [AV.ren, AC.renL_renL h]
  | .tup xs => by simp only [AV.ren, AV.renL_renL h xs]
  | .top => rfl
  | .und => rfl
theorem AV.renL_renL {ρ : Nat → Nat} (h : ∀ t, ρ (ρ t) = t) : ∀ cs : List AV, AV.renL ρ (AV.renL ρ cs) = cs
  | [] => rfl
  | c :: cs => by simp only [AV.renL, AV.ren_ren h c, AV.renL_renL h cs]
end
theorem beq_ren {ρ : Nat → Nat} (h : ∀ t, ρ (ρ t) = t) (t d : Nat) : (ρ t == d) = (t == ρ d) := by
  rw [Bool.eq_iff_iff, beq_iff_eq, beq_iff_eq]
  exact ⟨fun e => by rw [← e, h], fun e => by rw [e, h]⟩
mutual
theorem AC.ren_has {ρ : Nat → Nat} (h : ∀ t, ρ (ρ t) = t) (d : Nat) : ∀ c : AC, (c.ren ρ).has d = c.has (ρ d)
  | .ptr t _ _ _ => by simp only [AC.ren, AC.has]; exact beq_ren h t d
  | .msl t _ _ _ _ => by simp only [AC.ren, AC.has]; exact beq_ren h t d
  | .mmap t => by simp only [AC.ren, AC.has]; exact beq_ren h t d
  | .mfn f a b => by simp only [AC.ren, AC.has, AC.renL_has h d a, AC.renL_has h d b]
  | .p v => rfl
  | .nils => rfl
  | .raw x => rfl
theorem AC.renL_has {ρ : Nat → Nat} (h : ∀ t, ρ (ρ t) = t) (d : Nat) : ∀ cs : List AC, AC.has.hasL d (AC.renL ρ cs) = AC.has.hasL (ρ d) cs
  | [] => rfl
  | c :: cs => by simp only [AC.renL, AC.has.hasL, AC.ren_has h d c, AC.renL_has h d cs]
end
mutual
theorem AV.ren_has {ρ : Nat → Nat} (h : ∀ t, ρ (ρ t) = t) (d : Nat) : ∀ c : AV, (c.ren ρ).has d = c.has (ρ d)
  | .one c => AC.ren_has h d c
  | .agg cs => AC.renL_has h d cs
  | .tup xs => AV.renL_has h d xs
  | .top => rfl
  | .und => rfl
theorem AV.renL_has {ρ : Nat → Nat} (h : ∀ t, ρ (ρ t) = t) (d : Nat) : ∀ cs : List AV, AV.has.hasV d (AV.renL ρ cs) = AV.has.hasV (ρ d) cs
  | [] => rfl
  | c :: cs => by simp only [AV.renL, AV.has.hasV, AV.ren_has h d c, AV.renL_has h d cs]
end
section
variable {A : Nat → Prop} {τ τ2 : Tau} {w : World} {ρ : Nat → Nat}
theorem all2_map {α β : Type} {R S : α → β → Prop} {f : α → α} {az : List α} {bs : List β} (h : All2 R az bs) (k : ∀ a b, R a b → S (f a) b) : All2 S (az.map f) bs := by
  induction h with
  | nil => exact .nil
  | cons x _ ih => exact .cons (k _ _ x) ih
theorem all2_unmap {α β : Type} {R S : α → β → Prop} {f : α → α} : ∀ {az : List α} {bs : List β}, All2 R (az.map f) bs → (∀ a b, R (f a) b → S a b) → All2 S az bs
  | [], bs, h, k => by cases h; exact .nil
  | a :: az, bs, h, k => by
    cases h with
    | cons x t => exact .cons (k _ _ x) (all2_unmap t k)
theorem C0.ren (hτ : ∀ t, τ2 (ρ t) = τ t) {c : AC} {x : Value} (h : C0 A τ w c x) : C0 A τ2 w (c.ren ρ) x := by
  cases h with
  | p v x h => exact .p v x h
  | nils => exact .nils
  | ptr t i s off b h => exact .ptr _ i s off b ((hτ t).trans h)
  | mslN t o s cap a h hc => exact .mslN _ o s cap a ((hτ t).trans h) hc
  | msl t o s len b c cap h hc hl hr => exact .msl _ o s len b c cap ((hτ t).trans h) hc hl hr
  | mmap t b h => exact .mmap _ b ((hτ t).trans h)
  | raw x h => exact .raw x h
theorem CRel.ren (hτ : ∀ t, τ2 (ρ t) = τ t) {c : AC} {x : Value} (h : CRel A τ w c x) : CRel A τ2 w (c.ren ρ) x := by
  cases h with
  | c0 h => exact .c0 (h.ren hτ)
  | mfn f first caps vf vc h1 h2 =>
    rw [AC.ren, AC.renL_map, AC.renL_map]
    exact .mfn f _ _ vf vc (all2_map h1 fun _ _ h => h.ren hτ) (all2_map h2 fun _ _ h => h.ren hτ)
theorem V1.ren (hτ : ∀ t, τ2 (ρ t) = τ t) {c : AV} {x : Value} (h : V1 A τ w c x) : V1 A τ2 w (c.ren ρ) x := by
  cases h with
  | one h => exact .one (h.ren hτ)
  | agg h => rw [AV.ren, AC.renL_map]; exact .agg (all2_map h fun _ _ h => h.ren hτ)
  | top => exact .top _
  | und => exact .und
theorem VRel.ren (hτ : ∀ t, τ2 (ρ t) = τ t) {c : AV} {x : Value} (h : VRel A τ w c x) : VRel A τ2 w (c.ren ρ) x := by
  cases h with
  | v1 h => exact .v1 (h.ren hτ)
  | tup h => rw [AV.ren, AV.renL_map]; exact .tup (all2_map h fun _ _ h => h.ren hτ)
theorem VRel.unren (hρ : ∀ t, ρ (ρ t) = t) {c : AV} {x : Value} (h : VRel A τ w (c.ren ρ) x) : VRel A (fun t => τ (ρ t)) w c x := by
  have := h.ren (ρ := ρ) (τ2 := fun t => τ (ρ t)) (fun t => by show τ (ρ (ρ t)) = τ t; rw [hρ])
  rwa [AV.ren_ren hρ] at this
theorem hasV_false {t : Nat} {cs : List AV} : AV.has.hasV t cs = false ↔ ∀ c ∈ cs, c.has t = false := by
  induction cs with
  | nil => simp [AV.has.hasV]
  | cons c cs ih => simp [AV.has.hasV, ih]
end
def Bnd (f : Nat → Bool) : Prop := ∃ b, ∀ t, b ≤ t → f t = false
theorem Bnd.or {f g : Nat → Bool} (h : Bnd f) (k : Bnd g) : Bnd (fun t => f t || g t) :=
  let ⟨b, hb⟩ := h; let ⟨c, hc⟩ := k; ⟨max b c, fun t ht => by show (f t || g t) = false; rw [hb t (by omega), hc t (by omega)]; rfl⟩
theorem Bnd.eq (u : Nat) : Bnd (fun t => u == t) := ⟨u + 1, fun t ht => by simp; omega⟩
mutual
theorem AC.bnd : ∀ c : AC, Bnd (fun t => AC.has t c)
  | .p _ => ⟨0, fun _ _ => rfl⟩
  | .nils => ⟨0, fun _ _ => rfl⟩
  | .ptr u _ _ _ => Bnd.eq u
  | .msl u _ _ _ _ => Bnd.eq u
  | .mmap u => Bnd.eq u
  | .mfn _ a b => Bnd.or (AC.bndL a) (AC.bndL b)
  | .raw _ => ⟨0, fun _ _ => rfl⟩
theorem AC.bndL : ∀ cs : List AC, Bnd (fun t => AC.has.hasL t cs)
  | [] => ⟨0, fun _ _ => rfl⟩
  | c :: cs => Bnd.or (AC.bnd c) (AC.bndL cs)
end
mutual
theorem AV.bnd : ∀ c : AV, Bnd (fun t => AV.has t c)
  | .one c => AC.bnd c
  | .agg cs => AC.bndL cs
  | .tup xs => AV.bndL xs
  | .top => ⟨0, fun _ _ => rfl⟩
  | .und => ⟨0, fun _ _ => rfl⟩
theorem AV.bndL : ∀ cs : List AV, Bnd (fun t => AV.has.hasV t cs)
  | [] => ⟨0, fun _ _ => rfl⟩
  | c :: cs => Bnd.or (AV.bnd c) (AV.bndL cs)
end
def AO.has (d : Nat) : AO → Bool
  | .cells _ cs => AC.has.hasL d cs
  | _ => false
def stoHas (d : Nat) (σ : Sto) : Bool := σ.any fun p => p.1 == d || p.2.has d
theorem sto_bnd : ∀ σ : Sto, Bnd (fun t => stoHas t σ)
  | [] => ⟨0, fun _ _ => rfl⟩
  | (u, o) :: σ => by
    have h1 : Bnd (fun t => AO.has t o) := by
      cases o with
      | cells m cs => exact AC.bndL cs
      | none => exact ⟨0, fun _ _ => rfl⟩
      | arr => exact ⟨0, fun _ _ => rfl⟩
      | map => exact ⟨0, fun _ _ => rfl⟩
    obtain ⟨b, hb⟩ := Bnd.or (Bnd.or (Bnd.eq u) h1) (sto_bnd σ)
    exact ⟨b, fun t ht => by have := hb t ht; simpa [stoHas] using this⟩
theorem stoHas_lo {d : Nat} : ∀ {σ : Sto}, stoHas d σ = false → lo σ d = .none ∧ ∀ t, (lo σ t).has d = false
  | [], _ => ⟨rfl, fun _ => rfl⟩
  | (u, o) :: σ, h => by
    simp only [stoHas, List.any_cons, Bool.or_eq_false_iff, beq_eq_false_iff_ne] at h
    obtain ⟨h1, h2⟩ := stoHas_lo (σ := σ) h.2
    refine ⟨by simp only [lo]; rw [if_neg (fun e => h.1.1 e.symm)]; exact h1, fun t => ?_⟩
    simp only [lo]
    split
    · exact h.1.2
    · exact h2 t
theorem ORel.retau {M A : Nat → Prop} {τ τ' : Tau} {w : World} {t : Nat} {o : AO} (h : ORel M A τ w t o) (ht : o ≠ .none → τ' t = τ t) (hτ : ∀ u, o.has u = true → τ' u = τ u) : ORel M A τ' w t o := by
  cases o with
  | none => trivial
  | cells m cs =>
    obtain ⟨b, xs, e, h1, h2, h3, h4⟩ := h
    exact ⟨b, xs, e, (ht (by simp)).trans h1, h2, h3.stepL (p := fun c => ∀ t, c.has t = true → τ' t = τ t) (fun c hc t ht => hτ t (hasL_mem hc ht)) (fun _ _ hp h => h.step (WStep.refl w) (fun _ h => h) (fun _ _ => rfl) hp), h4⟩
  | arr m s rows =>
    obtain ⟨h0, hl, h⟩ := h
    refine ⟨h0, hl, ?_⟩
    rcases h with ⟨h1, h2⟩ | ⟨b, xs, e, h1, h2⟩
    · exact .inl ⟨(ht (by simp)).trans h1, h2⟩
    · exact .inr ⟨b, xs, e, (ht (by simp)).trans h1, h2⟩
  | map m es =>
    obtain ⟨b, ces, clock, h1, h2⟩ := h
    exact ⟨b, ces, clock, (ht (by simp)).trans h1, h2⟩
theorem MutC.hide {P : Program} {f : FuncId} {vs : List AV} {σ σ' : Sto} {r : AV} {fr : List Nat} (d : Nat) (h : MutC P f vs σ r σ' (d :: fr))
    (h1 : AV.has.hasV d vs = false) (h2 : r.has d = false) (h3 : stoHas d σ = false) (h4 : stoHas d σ' = false) (h5 : d ∉ fr) : MutC P f vs σ r σ' fr := by
  refine ⟨h.enters, fun A τ w xs ex exs hA hxs hex hfr hob hsp => ?_⟩
  obtain ⟨b, hb⟩ := Bnd.or (Bnd.or (AV.bndL ex) (AV.bndL vs)) (Bnd.or (AV.bnd r) (Bnd.or (sto_bnd σ) (sto_bnd σ')))
  obtain ⟨N, hNb, hNd, hNf⟩ : ∃ N, b ≤ N ∧ N ≠ d ∧ N ∉ fr := by
    refine ⟨b + d + 1 + fr.sum, by omega, by omega, fun hm => ?_⟩
    have : ∀ (l : List Nat) x, x ∈ l → x ≤ l.sum := by
      intro l
      induction l with
      | nil => intro x hx; simp at hx
      | cons y l ih =>
        intro x hx
        rcases List.mem_cons.1 hx with rfl | hx
        · simp
        · have := ih x hx; simp; omega
    have := this fr _ hm
    omega
  have hN := hb N hNb
  simp only [Bool.or_eq_false_iff] at hN
  obtain ⟨⟨n1, n2⟩, n3, n4, n5⟩ := hN
  let ρ : Nat → Nat := fun t => if t = d then N else if t = N then d else t
  have hρd : ρ d = N := by simp [ρ]
  have hρN : ρ N = d := by simp [ρ, hNd]
  have hρo : ∀ t, t ≠ d → t ≠ N → ρ t = t := fun t a b => by simp [ρ, a, b]
  have hρρ : ∀ t, ρ (ρ t) = t := fun t => by
    by_cases a : t = d
    · rw [a, hρd, hρN]
    · by_cases b : t = N
      · rw [b, hρN, hρd]
      · rw [hρo t a b, hρo t a b]
  have s3 := stoHas_lo h3; have s4 := stoHas_lo h4; have m3 := stoHas_lo n4; have m4 := stoHas_lo n5
  -- a number that is spoken of stays
  have st : ∀ (τ : Tau) t, t ≠ d → t ≠ N → (fun u => τ (ρ u)) t = τ t := fun τ t a b => by show τ (ρ t) = τ t; rw [hρo t a b]
  have ne1 : ∀ (g : Nat → Bool) (t : Nat), g d = false → g N = false → g t = true → t ≠ d ∧ t ≠ N := fun g t a b c => ⟨fun e => (by rw [e, a] at c; cases c), fun e => (by rw [e, b] at c; cases c)⟩
  have howner : ∀ {σ : Sto} (τ : Tau), lo σ d = .none → lo σ N = .none → owOf σ (fun u => τ (ρ u)) = owOf σ τ := fun {σ} τ a b => by
    funext k
    apply propext
    constructor
    · rintro ⟨t, hm, ht⟩
      refine ⟨t, hm, ?_⟩
      rw [← st τ t (fun e => by rw [e, a] at hm; cases hm) (fun e => by rw [e, b] at hm; cases hm)]; exact ht
    · rintro ⟨t, hm, ht⟩
      refine ⟨t, hm, ?_⟩
      rw [st τ t (fun e => by rw [e, a] at hm; cases hm) (fun e => by rw [e, b] at hm; cases hm)]; exact ht
  have hsep : ∀ {σ : Sto} (τ : Tau), lo σ d = .none → lo σ N = .none → SepS σ τ → SepS σ (fun u => τ (ρ u)) := fun {σ} τ a b hs t t' k g1 g2 hne hm hk => by
    have e1 := st τ t (fun e => g1 (by rw [e]; exact a)) (fun e => g1 (by rw [e]; exact b))
    have e2 := st τ t' (fun e => g2 (by rw [e]; exact a)) (fun e => g2 (by rw [e]; exact b))
    rw [e1] at hk; rw [e2]
    exact hs t t' k g1 g2 hne hm hk
  have hobj : ∀ {σ : Sto} (τ : Tau) {M A : Nat → Prop} {w : World}, stoHas d σ = false → stoHas N σ = false → (∀ t, ORel M A τ w t (lo σ t)) → ∀ t, ORel M A (fun u => τ (ρ u)) w t (lo σ t) := fun {σ} τ {M A w} a b ho t => by
    have a' := stoHas_lo a; have b' := stoHas_lo b
    exact (ho t).retau (fun hn => st τ t (fun e => hn (by rw [e]; exact a'.1)) (fun e => hn (by rw [e]; exact b'.1)))
      (fun u hu => by have := ne1 (fun u => (lo σ t).has u) u (a'.2 t) (b'.2 t) hu; exact st τ u this.1 this.2)
  have key := h.calls A (fun u => τ (ρ u)) w xs (ex.map (AV.ren ρ)) exs hA
    (hxs.stepL (p := fun c => ∀ t, c.has t = true → (fun u => τ (ρ u)) t = τ t) (fun c hc t ht => by
        have := ne1 (fun u => AV.has.hasV u vs) t h1 n2 (hasV_mem hc ht); exact st τ t this.1 this.2)
      (fun _ _ hp h => h.step (WStep.refl w) (fun _ h => h) (fun _ _ => rfl) hp))
    (all2_map hex fun _ _ h => h.ren (fun t => by show τ (ρ (ρ t)) = τ t; rw [hρρ]))
    (fun u hu v hv => by
      obtain ⟨v0, hv0, rfl⟩ := List.mem_map.1 hv
      rw [AV.ren_has hρρ]
      rcases List.mem_cons.1 hu with rfl | hu
      · rw [hρd]; exact hasV_false.1 n1 v0 hv0
      · rw [hρo u (fun e => h5 (e ▸ hu)) (fun e => hNf (e ▸ hu))]
        exact hfr u hu v0 hv0)
    (hobj τ h3 n4 hob) (hsep τ s3.1 m3.1 hsp)
  rw [howner τ s3.1 m3.1] at key
  refine key.mono ?_
  rintro e w' ⟨x, A', τ', he, hfm, ho, hs, hr, hx⟩
  refine ⟨x, A', fun u => τ' (ρ u), he, hfm, hobj τ' h4 n5 ho, hsep τ' s4.1 m4.1 hs, ?_, ?_⟩
  · exact hr.step (WStep.refl w') (fun _ h => h) (fun _ _ => rfl) (fun t ht => by
      have := ne1 (fun u => r.has u) t h2 n3 ht; exact st τ' t this.1 this.2)
  · exact all2_unmap hx fun _ _ h => h.unren hρρ
def AO.ren (ρ : Nat → Nat) : AO → AO
  | .cells m cs => .cells m (AC.renL ρ cs)
  | .none => .none
  | .arr m s rows => .arr m s rows
  | .map m es => .map m es
def renS (ρ : Nat → Nat) (σ : Sto) : Sto := σ.map fun p => (ρ p.1, p.2.ren ρ)
theorem AO.ren_ren {ρ : Nat → Nat} (h : ∀ t, ρ (ρ t) = t) (o : AO) : (o.ren ρ).ren ρ = o := by
  cases o <;> simp only [AO.ren, AC.renL_renL h]
theorem renS_renS {ρ : Nat → Nat} (h : ∀ t, ρ (ρ t) = t) (σ : Sto) : renS ρ (renS ρ σ) = σ := by
  unfold renS
  rw [List.map_map]
  conv => rhs; rw [← List.map_id σ]
  apply List.map_congr_left
  rintro ⟨t, o⟩ _
  simp only [Function.comp, h, AO.ren_ren h, id]
theorem lo_renS {ρ : Nat → Nat} (h : ∀ t, ρ (ρ t) = t) (σ : Sto) (t : Nat) : lo (renS ρ σ) t = (lo σ (ρ t)).ren ρ := by
  induction σ with
  | nil => rfl
  | cons p σ ih =>
    obtain ⟨u, o⟩ := p
    show (if t = ρ u then o.ren ρ else lo (renS ρ σ) t) = (if ρ t = u then o else lo σ (ρ t)).ren ρ
    by_cases e : t = ρ u
    · rw [if_pos e, if_pos (by rw [e, h])]
    · rw [if_neg e, if_neg (fun k => e (by rw [← k, h])), ih]
def AS.ren (ρ : Nat → Nat) (s : AS) : AS := { env := s.env.map fun p => (p.1, p.2.ren ρ), σ := renS ρ s.σ, ex := s.ex.map (AV.ren ρ) }
theorem lk_ren (ρ : Nat → Nat) (e : Env) (i : Nat) : lk (e.map fun p => (p.1, p.2.ren ρ)) i = (lk e i).ren ρ := by
  induction e with
  | nil => rfl
  | cons p e ih =>
    obtain ⟨j, v⟩ := p
    show (if i = j then v.ren ρ else lk (e.map fun p => (p.1, p.2.ren ρ)) i) = (if i = j then v else lk e i).ren ρ
    split
    · rfl
    · exact ih
theorem AO.ren_none {ρ : Nat → Nat} {o : AO} : o.ren ρ = .none ↔ o = .none := by cases o <;> simp [AO.ren]
theorem AO.ren_mu {ρ : Nat → Nat} (o : AO) : (o.ren ρ).mu = o.mu := by cases o <;> rfl
theorem ORel.ren {M A : Nat → Prop} {τ : Tau} {w : World} {ρ : Nat → Nat} (hρ : ∀ t, ρ (ρ t) = t) {t : Nat} {o : AO} (h : ORel M A τ w (ρ t) o) : ORel M A (fun u => τ (ρ u)) w t (o.ren ρ) := by
  cases o with
  | none => trivial
  | cells m cs =>
    obtain ⟨b, xs, e, h1, h2, h3, h4⟩ := h
    show ORel M A _ w t (.cells m (AC.renL ρ cs))
    rw [AC.renL_map]
    refine ⟨b, xs, e, h1, h2, all2_map h3 fun _ _ h => h.ren (fun u => by show τ (ρ (ρ u)) = τ u; rw [hρ]), ?_⟩
    cases m
    · refine ⟨h4.1, fun c hc => ?_⟩
      obtain ⟨c0, hc0, rfl⟩ := List.mem_map.1 hc
      obtain ⟨v, rfl⟩ := h4.2 c0 hc0
      exact ⟨v, rfl⟩
    · exact h4
  | arr m s rows => exact h
  | map m es => exact h
theorem SimAt.ren {G : Ground} {s : AS} {a : Act} {w : World} {A : Nat → Prop} {τ : Tau} {ρ : Nat → Nat} (hρ : ∀ t, ρ (ρ t) = t) (h : SimAt G s a w A τ) : SimAt G (s.ren ρ) a w A (fun t => τ (ρ t)) := by
  have hτ : ∀ t, (fun u => τ (ρ u)) (ρ t) = τ t := fun t => by show τ (ρ (ρ t)) = τ t; rw [hρ]
  refine ⟨h.below, h.a0, h.a1, h.alt, h.size, fun i => ?_, fun t => ?_, fun t t' b h1 h2 hne hm hb => ?_, ?_, h.marks⟩
  · show VRel A _ w (lk (s.env.map fun p => (p.1, p.2.ren ρ)) i) _
    rw [lk_ren]; exact (h.env i).ren (ρ := ρ) hτ
  · show ORel _ A _ w t (lo (renS ρ s.σ) t)
    rw [lo_renS hρ]; exact (h.obj (ρ t)).ren hρ
  · change lo (renS ρ s.σ) t ≠ .none at h1
    change lo (renS ρ s.σ) t' ≠ .none at h2
    change (lo (renS ρ s.σ) t).mu = true at hm
    rw [lo_renS hρ] at h1 h2 hm
    rw [AO.ren_mu] at hm
    exact h.sep (ρ t) (ρ t') b (fun e => h1 (AO.ren_none.2 e)) (fun e => h2 (AO.ren_none.2 e)) (fun e => hne (by rw [← hρ t, e, hρ])) hm hb
  · exact all2_map h.ex fun _ _ h => h.ren (ρ := ρ) hτ
theorem Weak.ren {G : Ground} {s : AS} {ρ : Nat → Nat} (hρ : ∀ t, ρ (ρ t) = t) : Weak G s (s.ren ρ) := fun a w ⟨A, τ, h⟩ => ⟨A, _, h.ren hρ⟩
def swp (d N t : Nat) : Nat := if t = d then N else if t = N then d else t
theorem swp_swp (d N t : Nat) : swp d N (swp d N t) = t := by
  unfold swp
  by_cases a : t = d
  · rw [if_pos a]
    by_cases b : N = d
    · rw [if_pos b, b, a]
    · rw [if_neg b, if_pos rfl, a]
  · rw [if_neg a]
    by_cases b : t = N
    · rw [if_pos b, if_pos rfl, b]
    · rw [if_neg b, if_neg a, if_neg b]
theorem swp_d (d N : Nat) : swp d N d = N := if_pos rfl
theorem T_room {G : Ground} {F : Fence} {n : Nat} {Q : Exit → AS → Prop} {c : ACode} {s : AS} (d : Nat)
    (h : ∀ ρ : Nat → Nat, (∀ t, ρ (ρ t) = t) → lo (renS ρ s.σ) d = .none → ((renS ρ s.σ).all fun p => p.2.nr d) = true → ((s.ex.map (AV.ren ρ)).all fun v => !v.has d) = true → T G F n c Q (s.ren ρ)) : T G F n c Q s := by
  obtain ⟨b, hb⟩ := Bnd.or (sto_bnd s.σ) (AV.bndL s.ex)
  have hN := hb b (Nat.le_refl _)
  simp only [Bool.or_eq_false_iff] at hN
  have h1 := stoHas_lo hN.1
  refine T_weak (Weak.ren (ρ := swp d b) (swp_swp d b)) (h _ (swp_swp d b) ?_ ?_ ?_)
  · rw [lo_renS (swp_swp d b), swp_d, h1.1]; rfl
  · rw [List.all_eq_true]
    rintro ⟨t, o⟩ hp
    obtain ⟨⟨t0, o0⟩, hp0, e⟩ := List.mem_map.1 hp
    simp only [Prod.mk.injEq] at e
    obtain ⟨rfl, rfl⟩ := e
    have h2 : o0.has b = false := by
      have := hN.1
      simp only [stoHas, List.any_eq_false] at this
      have := this _ hp0
      simp only [Bool.or_eq_true, not_or, Bool.not_eq_true] at this
      exact this.2
    cases o0 with
    | cells m cs =>
      simp only [AO.has] at h2
      show (!AC.has.hasL d (AC.renL (swp d b) cs)) = true
      rw [AC.renL_has (swp_swp d b), swp_d, h2]; rfl
    | none => rfl
    | arr => rfl
    | map => rfl
  · rw [List.all_eq_true]
    intro v hv
    obtain ⟨v0, hv0, rfl⟩ := List.mem_map.1 hv
    rw [AV.ren_has (swp_swp d b), swp_d, hasV_false.1 hN.2 v0 hv0]; rfl
end Go.AM

namespace Go.AM
open Go

structure Bx (Q : Prop) : Prop where
  of : Q
theorem aa {p q : Prop} (h : p) (k : q) : p ∧ q := ⟨h, k⟩
theorem go {A B P Q : Prop} (F : A) (C : B) (k : Q) (h : A → B → Bx Q → P := by
  intro F C k
  repeat' (first | apply T_then | apply then_ret | apply then_exit | apply then_goto | apply rnd_exit | apply rnd_ret | apply rnd_goto | apply noGo_normal | apply noGo_ret | apply noGo_exit | apply jmp_normal | apply jmp_ret | apply jmp_exit | apply jmp_goto | apply inB_normal | apply inB_ret | apply inB_goto | apply inB_exit | refine inB_exit_ne rfl ?_ | ((first | apply T_srK fw | apply T_regK fw); · ((try simp only [TOps.flat, List.cons_append, List.nil_append]); repeat (first | apply X_g0 | apply X_g | apply S_keep | apply X_skip | apply X_skipN | refine X_call ?_ ⟨_, _, _, _, _, _, rfl, rfl, rfl, by rw [hP]; first | assumption | apply C | apply C.1 | apply C.2 | apply C.2.1 | apply C.2.2.1 | apply C.2.2.2.1 | apply C.2.2.2.2.1 | apply C.2.2.2.2.2.1 | apply C.2.2.2.2.2.2.1 | apply C.2.2.2.2.2.2.2.1 | apply C.2.2.2.2.2.2.2.2.1 | apply C.2.2.2.2.2.2.2.2.2.1 | apply C.2.2.2.2.2.2.2.2.2.2.1 | apply C.2.2.2.2.2.2.2.2.2.2.2.1 | apply C.2.2 | apply C.2.2.2 | apply C.2.2.2.2 | apply C.2.2.2.2.2 | apply C.2.2.2.2.2.2 | apply C.2.2.2.2.2.2.2 | apply C.2.2.2.2.2.2.2.2 | apply C.2.2.2.2.2.2.2.2.2 | apply C.2.2.2.2.2.2.2.2.2.2 | apply C.2.2.2.2.2.2.2.2.2.2.2⟩ ?_ | refine X_callM ?_ (callM_mk rfl rfl (by rw [hP]; first | assumption | apply C | apply C.1 | apply C.2 | apply C.2.1 | apply C.2.2.1 | apply C.2.2.2.1 | apply C.2.2.2.2.1 | apply C.2.2.2.2.2.1 | apply C.2.2.2.2.2.2.1 | apply C.2.2.2.2.2.2.2.1 | apply C.2.2.2.2.2.2.2.2.1 | apply C.2.2.2.2.2.2.2.2.2.1 | apply C.2.2.2.2.2.2.2.2.2.2.1 | apply C.2.2.2.2.2.2.2.2.2.2.2.1 | apply C.2.2 | apply C.2.2.2 | apply C.2.2.2.2 | apply C.2.2.2.2.2 | apply C.2.2.2.2.2.2 | apply C.2.2.2.2.2.2.2 | apply C.2.2.2.2.2.2.2.2 | apply C.2.2.2.2.2.2.2.2.2 | apply C.2.2.2.2.2.2.2.2.2.2 | apply C.2.2.2.2.2.2.2.2.2.2.2) (by simp [lo]) (by simp) (by simp [AS.nr, AV.has, AC.has, AC.has.hasL, AO.nr, lo, DV.av] <;> assumption)) ?_ | apply X_q | apply X_st | apply X_n | apply X_s | apply SKs0 | apply SKs2 | apply SKs1 | refine ⟨⟨rfl, rfl⟩, ?_⟩ | refine ⟨⟨rfl, ?_⟩, ?_⟩ | refine ⟨?_, ?_⟩ | (· (try simp only [go_sem, seval, reduceIte, ↓reduceIte, Bool.not_eq_true, reduceCtorEq, beq_false, beq_true, hn, hP, Int.lt_irrefl, Int.le_refl, Nat.lt_irrefl, Nat.le_refl, List.length_set, Int.toNat_one, Int.toNat_zero, F]); first | done | rfl)))) | ((first | apply T_sdF fw (by rw [hP]; rfl) (by decide +kernel) | apply T_drF fw (by rw [hP]; rfl) (by decide +kernel)); · ((try simp only [TOps.flat, List.cons_append, List.nil_append]); repeat (first | apply Y_g0 | apply Y_g | apply Y_skip | apply Y_q | refine Y_call ⟨_, _, _, _, _, _, rfl, rfl, rfl, by rw [hP]; first | assumption | apply C | apply C.1 | apply C.2 | apply C.2.1 | apply C.2.2.1 | apply C.2.2.2.1 | apply C.2.2.2.2.1 | apply C.2.2.2.2.2.1 | apply C.2.2.2.2.2.2.1 | apply C.2.2.2.2.2.2.2.1 | apply C.2.2.2.2.2.2.2.2.1 | apply C.2.2.2.2.2.2.2.2.2.1 | apply C.2.2.2.2.2.2.2.2.2.2.1 | apply C.2.2.2.2.2.2.2.2.2.2.2.1 | apply C.2.2 | apply C.2.2.2 | apply C.2.2.2.2 | apply C.2.2.2.2.2 | apply C.2.2.2.2.2.2 | apply C.2.2.2.2.2.2.2 | apply C.2.2.2.2.2.2.2.2 | apply C.2.2.2.2.2.2.2.2.2 | apply C.2.2.2.2.2.2.2.2.2.2 | apply C.2.2.2.2.2.2.2.2.2.2.2⟩ ?_ ?_ | refine RunF_nil (P := G.P) ?_ | (· (try simp only [go_sem, seval, reduceIte, ↓reduceIte, Bool.not_eq_true, reduceCtorEq, beq_false, beq_true, hn, hP, Int.lt_irrefl, Int.le_refl, Nat.lt_irrefl, Nat.le_refl, List.length_set, Int.toNat_one, Int.toNat_zero, F]); first | done | rfl)))) | ((first | apply T_sd fw (by rw [hP]; rfl) | apply T_dr fw (by rw [hP]; rfl)); · ((try simp only [go_sem, seval, reduceIte, ↓reduceIte, bne, beq_false, beq_true, Bool.not_eq_true, Bool.if_true_right, decide_not, reduceCtorEq, hP, Int.lt_irrefl, Int.le_refl, Nat.lt_irrefl, Nat.le_refl, List.length_set, Int.toNat_one, Int.toNat_zero, F]); (repeat ((first | (refine ⟨_, ⟨_, _, _, _, _, _, rfl, rfl, rfl, (by first | assumption | apply C | apply C.1 | apply C.2 | apply C.2.1 | apply C.2.2.1 | apply C.2.2.2.1 | apply C.2.2.2.2.1 | apply C.2.2.2.2.2.1 | apply C.2.2.2.2.2.2.1 | apply C.2.2.2.2.2.2.2.1 | apply C.2.2.2.2.2.2.2.2.1 | apply C.2.2.2.2.2.2.2.2.2.1 | apply C.2.2.2.2.2.2.2.2.2.2.1 | apply C.2.2.2.2.2.2.2.2.2.2.2.1 | apply C.2.2 | apply C.2.2.2 | apply C.2.2.2.2 | apply C.2.2.2.2.2 | apply C.2.2.2.2.2.2 | apply C.2.2.2.2.2.2.2 | apply C.2.2.2.2.2.2.2.2 | apply C.2.2.2.2.2.2.2.2.2 | apply C.2.2.2.2.2.2.2.2.2.2 | apply C.2.2.2.2.2.2.2.2.2.2.2)⟩, ?_⟩)); (try simp only [go_sem, seval, reduceIte, ↓reduceIte, bne, beq_false, beq_true, Bool.not_eq_true, Bool.if_true_right, decide_not, reduceCtorEq, hP, Int.lt_irrefl, Int.le_refl, Nat.lt_irrefl, Nat.le_refl, List.length_set, Int.toNat_one, Int.toNat_zero, F]))); (first | done | exact rfl))) | apply T_seq | apply T_block | refine T_scopeJ 0 rfl ?_ | apply T_scope | apply T_goto | apply T_ret | apply T_skip | apply T_exit | apply T_label | refine T_condT rfl ?_ | refine T_condF rfl ?_)
  exact k.of) : P := h F C ⟨k⟩
end Go.AM

namespace Go.AM
open Go Go.Proofs
set_option maxRecDepth 100000
abbrev eI (s : List Int) : PV := .sl (s.map fun n => [.int .i64 n])
abbrev dI (s : List Int) : DV := .one (eI s)
abbrev dB (b : Bool) : DV := .one (.bool b)
abbrev dN (n : Int) : DV := .one (.int .i64 n)
abbrev w64 (n : Int) : Int := IntKind.i64.wrap n
theorem all1 (s : List Int) : (s.map fun n => [PV.int .i64 n]).all (fun r => r.length == 1) = true := by
  simp
def chk : List Int → Int → Int
  | [], n => n
  | x :: r, n => if x < 1 ∨ x > 16 then 0 else chk r (IntKind.i64.wrap (n * x))
def checkS (s : List Int) : Bool := !decide ((s.length : Int) > 3) && (decide (chk s 1 > 0) && decide (chk s 1 ≤ 64))
theorem p_shape_Check (s : List Int) : PureC Try.prog fi_shape_Check [dI s] (dB (checkS s)) := by
  refine pure_shape_Check (by simp) fun G hP hn => ?_
  unfold a_shape_Check
  refine T_wf 0 fun hl => ?_
  simp only [initE, lk, dI, eI, DV.av, wf_one, wf_sl, if_true, List.length_map] at hl
  repeat' (first     | refine T_then ?_ | refine then_ret ?_ | refine then_exit ?_ | refine then_goto ?_     | refine rnd_exit ?_ | refine rnd_ret ?_ | refine rnd_goto ?_     | refine noGo_normal ?_ | refine noGo_ret ?_ | refine noGo_exit ?_ | refine jmp_normal ?_ | refine jmp_ret ?_ | refine jmp_exit ?_ | refine jmp_goto ?_     | refine inB_normal ?_ | refine inB_ret ?_ | refine inB_goto ?_ | refine inB_exit ?_ | refine inB_exit_ne rfl ?_     | ((first | apply T_sr fw | apply T_reg fw); · ((try simp only [go_sem, seval, reduceIte, ↓reduceIte]); (repeat ((first       | (refine ⟨true, false, rfl, fun h => absurd h (by decide), ?_⟩) | (refine ⟨false, false, rfl, fun h => absurd h (by decide), ?_⟩) | refine ⟨_, _, rfl, fun _ => rfl, ?_⟩); (try simp only [go_sem, seval, reduceIte, ↓reduceIte]))); (first | done | exact rfl)))     | ((first | apply T_sdF fw (by rw [hP]; rfl) (by decide +kernel) | apply T_drF fw (by rw [hP]; rfl) (by decide +kernel)); · ((try simp only [TOps.flat, List.cons_append, List.nil_append]); (repeat ((first | refine Y_g0 ?_ | refine Y_g (by (try simp only [go_sem, seval, reduceIte, ↓reduceIte, Bool.not_eq_true, reduceCtorEq, beq_false, beq_true]); (first | done | exact rfl)) ?_); (first | refine Y_skip ?_ | ((first | apply Y_q); (· ((try simp only [go_sem, seval, reduceIte, ↓reduceIte, Bool.not_eq_true, reduceCtorEq, beq_false, beq_true]); (first | done | exact rfl))))))); apply RunF_nil; (try simp only [go_sem, seval, reduceIte, ↓reduceIte, Bool.not_eq_true, reduceCtorEq, beq_false, beq_true]); (first | done | exact rfl)))     | ((first | apply T_sd fw (by rw [hP]; rfl) | apply T_dr fw (by rw [hP]; rfl)); · ((try simp only [go_sem, seval, reduceIte, ↓reduceIte, bne, beq_false, beq_true, Bool.not_eq_true, Bool.if_true_right, decide_not, reduceCtorEq]); (first | done | exact rfl)))     | refine T_seq ?_ | refine T_block ?_ | refine T_scopeJ 0 rfl ?_ | refine T_scope ?_ | refine T_goto ?_ | refine T_ret ?_ | refine T_skip ?_ | refine T_exit ?_ | refine T_label ?_     | refine T_condT rfl ?_ | refine T_condF rfl ?_     | refine T_condD rfl (fun _ => ?_) (fun _ => ?_)     | refine T_cond rfl (fun _ => ?_) (fun _ => ?_))
  · rename_i h
    exact ends_ret rfl rfl rfl (by simp [resD, checkS, h])
  · rename_i h
    refine T_for s.length (fun i acc => { env := [(3, .one (.p (.int .i64 acc))), (9, .one (.p (eI s))), (10, .one (.p (.int .i64 s.length))), (11, .one (.p (.int .i64 i)))], σ := [] })
      (fun i acc => chk (s.drop i) acc = chk s 1) 1 rfl (.refl _ _) fun i acc hi hc => ?_
    rcases nth hi with ⟨x, hlt, hx, hd⟩ | ⟨rfl, hd⟩
    · have hw := wrap_succ hlt hl.1
      rw [hd] at hc
      repeat' (first     | refine T_then ?_ | refine then_ret ?_ | refine then_exit ?_ | refine then_goto ?_     | refine rnd_exit ?_ | refine rnd_ret ?_ | refine rnd_goto ?_     | refine noGo_normal ?_ | refine noGo_ret ?_ | refine noGo_exit ?_ | refine jmp_normal ?_ | refine jmp_ret ?_ | refine jmp_exit ?_ | refine jmp_goto ?_     | refine inB_normal ?_ | refine inB_ret ?_ | refine inB_goto ?_ | refine inB_exit ?_ | refine inB_exit_ne rfl ?_     | ((first | apply T_sr fw | apply T_reg fw); · ((try simp only [go_sem, seval, reduceIte, ↓reduceIte, hx, hlt, hw]); (repeat ((first       | (refine ⟨true, false, rfl, fun h => absurd h (by decide), ?_⟩) | (refine ⟨false, false, rfl, fun h => absurd h (by decide), ?_⟩) | refine ⟨_, _, rfl, fun _ => rfl, ?_⟩); (try simp only [go_sem, seval, reduceIte, ↓reduceIte, hx, hlt, hw]))); (first | done | exact rfl)))     | ((first | apply T_sdF fw (by rw [hP]; rfl) (by decide +kernel) | apply T_drF fw (by rw [hP]; rfl) (by decide +kernel)); · ((try simp only [TOps.flat, List.cons_append, List.nil_append]); (repeat ((first | refine Y_g0 ?_ | refine Y_g (by (try simp only [go_sem, seval, reduceIte, ↓reduceIte, Bool.not_eq_true, reduceCtorEq, beq_false, beq_true, hx, hlt, hw]); (first | done | exact rfl)) ?_); (first | refine Y_skip ?_ | ((first | apply Y_q); (· ((try simp only [go_sem, seval, reduceIte, ↓reduceIte, Bool.not_eq_true, reduceCtorEq, beq_false, beq_true, hx, hlt, hw]); (first | done | exact rfl))))))); apply RunF_nil; (try simp only [go_sem, seval, reduceIte, ↓reduceIte, Bool.not_eq_true, reduceCtorEq, beq_false, beq_true, hx, hlt, hw]); (first | done | exact rfl)))     | ((first | apply T_sd fw (by rw [hP]; rfl) | apply T_dr fw (by rw [hP]; rfl)); · ((try simp only [go_sem, seval, reduceIte, ↓reduceIte, bne, beq_false, beq_true, Bool.not_eq_true, Bool.if_true_right, decide_not, reduceCtorEq, hx, hlt, hw]); (first | done | exact rfl)))     | refine T_seq ?_ | refine T_block ?_ | refine T_scopeJ 0 rfl ?_ | refine T_scope ?_ | refine T_goto ?_ | refine T_ret ?_ | refine T_skip ?_ | refine T_exit ?_ | refine T_label ?_     | refine T_condT rfl ?_ | refine T_condF rfl ?_     | refine T_condD rfl (fun _ => ?_) (fun _ => ?_)     | refine T_cond rfl (fun _ => ?_) (fun _ => ?_))
      · rename_i h2
        refine ends_ret rfl rfl rfl ?_
        have h3 : chk s 1 = 0 := by rw [← hc]; simp only [chk]; rw [if_pos (by simpa using h2)]
        simp [resD, checkS, h3]
      · rename_i h2
        refine rnd_next hlt _ ?_ (.refl _ _)
        rw [← hc]; simp only [chk]; rw [if_neg (by simpa using h2)]
    · rw [hd] at hc
      repeat' (first     | refine T_then ?_ | refine then_ret ?_ | refine then_exit ?_ | refine then_goto ?_     | refine rnd_exit ?_ | refine rnd_ret ?_ | refine rnd_goto ?_     | refine noGo_normal ?_ | refine noGo_ret ?_ | refine noGo_exit ?_ | refine jmp_normal ?_ | refine jmp_ret ?_ | refine jmp_exit ?_ | refine jmp_goto ?_     | refine inB_normal ?_ | refine inB_ret ?_ | refine inB_goto ?_ | refine inB_exit ?_ | refine inB_exit_ne rfl ?_     | ((first | apply T_sr fw | apply T_reg fw); · ((try simp only [go_sem, seval, reduceIte, ↓reduceIte, Int.lt_irrefl, Nat.lt_irrefl]); (repeat ((first       | (refine ⟨true, false, rfl, fun h => absurd h (by decide), ?_⟩) | (refine ⟨false, false, rfl, fun h => absurd h (by decide), ?_⟩) | refine ⟨_, _, rfl, fun _ => rfl, ?_⟩); (try simp only [go_sem, seval, reduceIte, ↓reduceIte, Int.lt_irrefl, Nat.lt_irrefl]))); (first | done | exact rfl)))     | ((first | apply T_sdF fw (by rw [hP]; rfl) (by decide +kernel) | apply T_drF fw (by rw [hP]; rfl) (by decide +kernel)); · ((try simp only [TOps.flat, List.cons_append, List.nil_append]); (repeat ((first | refine Y_g0 ?_ | refine Y_g (by (try simp only [go_sem, seval, reduceIte, ↓reduceIte, Bool.not_eq_true, reduceCtorEq, beq_false, beq_true, Int.lt_irrefl, Nat.lt_irrefl]); (first | done | exact rfl)) ?_); (first | refine Y_skip ?_ | ((first | apply Y_q); (· ((try simp only [go_sem, seval, reduceIte, ↓reduceIte, Bool.not_eq_true, reduceCtorEq, beq_false, beq_true, Int.lt_irrefl, Nat.lt_irrefl]); (first | done | exact rfl))))))); apply RunF_nil; (try simp only [go_sem, seval, reduceIte, ↓reduceIte, Bool.not_eq_true, reduceCtorEq, beq_false, beq_true, Int.lt_irrefl, Nat.lt_irrefl]); (first | done | exact rfl)))     | ((first | apply T_sd fw (by rw [hP]; rfl) | apply T_dr fw (by rw [hP]; rfl)); · ((try simp only [go_sem, seval, reduceIte, ↓reduceIte, bne, beq_false, beq_true, Bool.not_eq_true, Bool.if_true_right, decide_not, reduceCtorEq, Int.lt_irrefl, Nat.lt_irrefl]); (first | done | exact rfl)))     | refine T_seq ?_ | refine T_block ?_ | refine T_scopeJ 0 rfl ?_ | refine T_scope ?_ | refine T_goto ?_ | refine T_ret ?_ | refine T_skip ?_ | refine T_exit ?_ | refine T_label ?_     | refine T_condT rfl ?_ | refine T_condF rfl ?_     | refine T_condD rfl (fun _ => ?_) (fun _ => ?_)     | refine T_cond rfl (fun _ => ?_) (fun _ => ?_))
      refine ends_ret rfl rfl rfl ?_
      simp only [chk] at hc
      simp [resD, checkS, hc]; omega
def prodW : List Int → Int → Int
  | [], n => n
  | x :: r, n => prodW r (IntKind.i64.wrap (n * x))
def sizeS (s : List Int) : Int := if checkS s then prodW s 1 else 0
theorem p_shape_Size (s : List Int) : PureC Try.prog fi_shape_Size [dI s] (dN (sizeS s)) := by
  refine pure_shape_Size (by simp) fun G hP hn => ?_
  unfold a_shape_Size
  refine T_wf 0 fun hl => ?_
  simp only [initE, lk, dI, eI, DV.av, wf_one, wf_sl, if_true, List.length_map] at hl
  repeat' (first     | refine T_then ?_ | refine then_ret ?_ | refine then_exit ?_ | refine then_goto ?_     | refine rnd_exit ?_ | refine rnd_ret ?_ | refine rnd_goto ?_     | refine noGo_normal ?_ | refine noGo_ret ?_ | refine noGo_exit ?_ | refine jmp_normal ?_ | refine jmp_ret ?_ | refine jmp_exit ?_ | refine jmp_goto ?_     | refine inB_normal ?_ | refine inB_ret ?_ | refine inB_goto ?_ | refine inB_exit ?_ | refine inB_exit_ne rfl ?_     | ((first | apply T_sr fw | apply T_reg fw); · ((try simp only [go_sem, seval, reduceIte, ↓reduceIte, hP]); (repeat ((first       | (refine ⟨true, false, rfl, fun h => absurd h (by decide), ?_⟩) | (refine ⟨false, false, rfl, fun h => absurd h (by decide), ?_⟩) | refine ⟨_, _, rfl, fun _ => rfl, ?_⟩       | (refine .inl ⟨_, _, ⟨_, _, _, _, _, _, rfl, rfl, rfl, p_shape_Check _⟩, ?_⟩)       | (refine ⟨_, ?_, rfl, fun _ => ⟨_, ⟨_, _, _, _, _, _, rfl, rfl, rfl, p_shape_Check _⟩, ?_⟩, ?_⟩; rotate_left; (· (simp only [go_sem, seval, reduceIte, ↓reduceIte, hP]; first | done | exact rfl)))); (try simp only [go_sem, seval, reduceIte, ↓reduceIte, hP]))); (first | done | exact rfl)))     | ((first | apply T_sdF fw (by rw [hP]; rfl) (by decide +kernel) | apply T_drF fw (by rw [hP]; rfl) (by decide +kernel)); · ((try simp only [TOps.flat, List.cons_append, List.nil_append]); (repeat ((first | refine Y_g0 ?_ | refine Y_g (by (try simp only [go_sem, seval, reduceIte, ↓reduceIte, Bool.not_eq_true, reduceCtorEq, beq_false, beq_true, hP]); (first | done | exact rfl)) ?_); (first | refine Y_skip ?_ | ((first | apply Y_q | (refine Y_call ⟨_, _, _, _, _, _, rfl, rfl, rfl, (by rw [hP]; exact p_shape_Check _)⟩ ?_ ?_)); (· ((try simp only [go_sem, seval, reduceIte, ↓reduceIte, Bool.not_eq_true, reduceCtorEq, beq_false, beq_true, hP]); (first | done | exact rfl))))))); apply RunF_nil; (try simp only [go_sem, seval, reduceIte, ↓reduceIte, Bool.not_eq_true, reduceCtorEq, beq_false, beq_true, hP]); (first | done | exact rfl)))     | ((first | apply T_sd fw (by rw [hP]; rfl) | apply T_dr fw (by rw [hP]; rfl)); · ((try simp only [go_sem, seval, reduceIte, ↓reduceIte, bne, beq_false, beq_true, Bool.not_eq_true, Bool.if_true_right, decide_not, reduceCtorEq, hP]); (repeat ((first       | (refine ⟨_, ⟨_, _, _, _, _, _, rfl, rfl, rfl, p_shape_Check _⟩, ?_⟩)); (try simp only [go_sem, seval, reduceIte, ↓reduceIte, bne, beq_false, beq_true, Bool.not_eq_true, Bool.if_true_right, decide_not, reduceCtorEq, hP]))); (first | done | exact rfl)))     | refine T_seq ?_ | refine T_block ?_ | refine T_scopeJ 0 rfl ?_ | refine T_scope ?_ | refine T_goto ?_ | refine T_ret ?_ | refine T_skip ?_ | refine T_exit ?_ | refine T_label ?_     | refine T_condT rfl ?_ | refine T_condF rfl ?_     | refine T_condD rfl (fun _ => ?_) (fun _ => ?_)     | refine T_cond rfl (fun _ => ?_) (fun _ => ?_))
  · rename_i h
    exact ends_ret rfl rfl rfl (by simp at h; simp [resD, sizeS, h])
  · rename_i h
    refine T_for s.length (fun i acc => { env := [(3, .one (.p (.int .i64 acc))), (9, .one (.p (eI s))), (10, .one (.p (.int .i64 s.length))), (11, .one (.p (.int .i64 i)))], σ := [] })
      (fun i acc => prodW (s.drop i) acc = prodW s 1) 1 rfl (.refl _ _) fun i acc hi hc => ?_
    rcases nth hi with ⟨x, hlt, hx, hd⟩ | ⟨rfl, hd⟩
    · have hw := wrap_succ hlt hl.1
      rw [hd] at hc
      refine go (aa hx <| aa hlt hw) trivial ?_
      exact rnd_next hlt _ hc (.refl _ _)
    · rw [hd] at hc
      refine go trivial trivial ?_
      refine ends_ret rfl rfl rfl ?_
      simp only [prodW] at hc
      simp at h
      simp [resD, sizeS, h, hc]
abbrev rI (s : List Int) : List (List PV) := s.map fun n => [.int .i64 n]
theorem m_slices_Clone (s : List Int) (hs : s.length ≤ 2 ^ 36) : MutC Try.prog fi_slices_Clone_int_int [.one (.p (eI s))] [] (.one (.msl 5 0 1 s.length none)) [(5, .arr true 1 (rI s))] [5] := by
  refine mut_slices_Clone_int_int (by simp) fun G ex hP hn hfr => ?_
  unfold a_slices_Clone_int_int
  have hfr := hfr 5 (by simp)
  refine go trivial trivial ?_
  refine T_eqnil fw (by decide) rfl fun b hb => ?_
  simp only [AS.keep, List.map, lk, lo, Nat.reduceEqDiff, if_true, if_false, restS, List.filter, ddS, List.length, List.nil_append, initV]
  have h8 : s.length * 8 ≤ 2 ^ 40 := by omega
  have h9 : s.length ≤ 2 ^ 40 := by omega
  cases b
  · refine go (aa @all1 <| aa h8 <| aa h9 <| aa hfr (scr_ex hfr)) trivial ?_
    exact endsM_ret rfl rfl rfl (by simp [lo]) rfl
  · have hs0 : s = [] := by simpa using hb rfl
    subst hs0
    refine T_then ?_
    refine T_condT rfl ?_
    refine T_sr fw (S := { env := [(2, .one .nils)], σ := [], ex := ex }) ?_ ?_
    · simp only [go_sem, seval, reduceIte, ↓reduceIte]
    · refine T_nils 2 5 1 rfl (by simp [AS.nr, AV.has, AC.has]; simpa using hfr) rfl ?_
      refine go trivial trivial ?_
      exact endsM_ret rfl rfl rfl (by simp [lo]) rfl
theorem rI_set (l : List Int) (i : Nat) (y : Int) : (rI l).set i [.int .i64 y] = rI (l.set i y) := by
  simp [List.map_set]
end Go.AM

namespace Go.AM
open Go Go.Proofs
set_option maxRecDepth 100000
abbrev dT (s d : List Int) : DV := .agg [eI s, eI d]
def checkT (s d : List Int) : Bool := checkS s && ((d.length : Int) == sizeS s)
theorem p_tensor_Check (s d : List Int) : PureC Try.prog fi_tensor_Check [dT s d] (dB (checkT s d)) := by
  refine pure_tensor_Check (by simp) fun G hP hn => ?_
  unfold a_tensor_Check
  cases hc : checkS s
  · refine go hc (aa @p_shape_Check @p_shape_Size) ?_
    exact ends_ret rfl rfl rfl (by simp [resD, checkT, hc])
  · refine go hc (aa @p_shape_Check @p_shape_Size) ?_
    exact ends_ret rfl rfl rfl (by simp [resD, checkT, hc])
end Go.AM

namespace Go.AM
open Go Go.Proofs
set_option maxRecDepth 100000
abbrev dNE (p : Int × Int) : DV := .tup [dN p.1, dN p.2]
def plW : List Int → List Int → Int → Int × Int
  | n :: s, k :: x, a => if k < 0 ∨ k ≥ n then (0, 20) else plW s x (IntKind.i64.wrap (IntKind.i64.wrap (a * n) + k))
  | _, _, a => (a, 0)
def placeF (s x : List Int) : Int × Int := if (!checkS s || ((x.length : Int) != s.length)) = true then (0, 20) else plW s x 0
theorem p_shape_Place (s x : List Int) : PureC Try.prog fi_shape_Place [dI s, dI x] (dNE (placeF s x)) := by
  refine pure_shape_Place (by simp) fun G hP hn => ?_
  unfold a_shape_Place
  refine T_wf 0 fun hl => ?_
  simp only [initE, lk, dI, eI, DV.av, wf_one, wf_sl, if_true, List.length_map] at hl
  repeat' (first     | refine T_then ?_ | refine then_ret ?_ | refine then_exit ?_ | refine then_goto ?_     | refine rnd_exit ?_ | refine rnd_ret ?_ | refine rnd_goto ?_     | refine noGo_normal ?_ | refine noGo_ret ?_ | refine noGo_exit ?_ | refine jmp_normal ?_ | refine jmp_ret ?_ | refine jmp_exit ?_ | refine jmp_goto ?_     | refine inB_normal ?_ | refine inB_ret ?_ | refine inB_goto ?_ | refine inB_exit ?_ | refine inB_exit_ne rfl ?_     | ((first | apply T_sr fw | apply T_reg fw); · ((try simp only [go_sem, seval, reduceIte, ↓reduceIte, hP]); (repeat ((first       | (refine ⟨true, false, rfl, fun h => absurd h (by decide), ?_⟩) | (refine ⟨false, false, rfl, fun h => absurd h (by decide), ?_⟩) | refine ⟨_, _, rfl, fun _ => rfl, ?_⟩       | (refine .inl ⟨_, _, ⟨_, _, _, _, _, _, rfl, rfl, rfl, p_shape_Check _⟩, ?_⟩)       | (refine ⟨_, ?_, rfl, fun _ => ⟨_, ⟨_, _, _, _, _, _, rfl, rfl, rfl, p_shape_Check _⟩, ?_⟩, ?_⟩; rotate_left; (· (simp only [go_sem, seval, reduceIte, ↓reduceIte, hP]; first | done | exact rfl)))); (try simp only [go_sem, seval, reduceIte, ↓reduceIte, hP]))); (first | done | exact rfl)))     | ((first | apply T_sdF fw (by rw [hP]; rfl) (by decide +kernel) | apply T_drF fw (by rw [hP]; rfl) (by decide +kernel)); · ((try simp only [TOps.flat, List.cons_append, List.nil_append]); (repeat ((first | refine Y_g0 ?_ | refine Y_g (by (try simp only [go_sem, seval, reduceIte, ↓reduceIte, Bool.not_eq_true, reduceCtorEq, beq_false, beq_true, hP]); (first | done | exact rfl)) ?_); (first | refine Y_skip ?_ | ((first | apply Y_q | (refine Y_call ⟨_, _, _, _, _, _, rfl, rfl, rfl, (by rw [hP]; exact p_shape_Check _)⟩ ?_ ?_)); (· ((try simp only [go_sem, seval, reduceIte, ↓reduceIte, Bool.not_eq_true, reduceCtorEq, beq_false, beq_true, hP]); (first | done | exact rfl))))))); apply RunF_nil; (try simp only [go_sem, seval, reduceIte, ↓reduceIte, Bool.not_eq_true, reduceCtorEq, beq_false, beq_true, hP]); (first | done | exact rfl)))     | ((first | apply T_sd fw (by rw [hP]; rfl) | apply T_dr fw (by rw [hP]; rfl)); · ((try simp only [go_sem, seval, reduceIte, ↓reduceIte, bne, beq_false, beq_true, Bool.not_eq_true, Bool.if_true_right, decide_not, reduceCtorEq, hP]); (repeat ((first       | (refine ⟨_, ⟨_, _, _, _, _, _, rfl, rfl, rfl, p_shape_Check _⟩, ?_⟩)); (try simp only [go_sem, seval, reduceIte, ↓reduceIte, bne, beq_false, beq_true, Bool.not_eq_true, Bool.if_true_right, decide_not, reduceCtorEq, hP]))); (first | done | exact rfl)))     | refine T_seq ?_ | refine T_block ?_ | refine T_scopeJ 0 rfl ?_ | refine T_scope ?_ | refine T_goto ?_ | refine T_ret ?_ | refine T_skip ?_ | refine T_exit ?_ | refine T_label ?_     | refine T_condT rfl ?_ | refine T_condF rfl ?_     | refine T_condD rfl (fun _ => ?_) (fun _ => ?_)     | refine T_cond rfl (fun _ => ?_) (fun _ => ?_))
  · rename_i h
    exact ends_ret rfl rfl rfl (by simp only [resD, placeF]; rw [if_pos h])
  · rename_i h
    have hxl : x.length = s.length := by
      simp only [Bool.or_eq_false_iff, bne_eq_false_iff_eq] at h
      omega
    refine T_for s.length (fun i acc => { env := [(1, .one (.p (eI x))), (6, .one (.p (.int .i64 acc))), (19, .one (.p (eI s))), (20, .one (.p (.int .i64 s.length))), (21, .one (.p (.int .i64 i)))], σ := [] })
      (fun i acc => plW (s.drop i) (x.drop i) acc = plW s x 0) 0 rfl (.refl _ _) fun i acc hi hc => ?_
    rcases nth hi with ⟨m, hlt, hm, hd⟩ | ⟨rfl, hd⟩
    · rcases nth (s := x) (i := i) (by omega) with ⟨k, hlt2, hk, hd2⟩ | ⟨hi2, _⟩
      · have hw := wrap_succ hlt hl.1
        rw [hd, hd2] at hc
        simp only [plW] at hc
        repeat' (first     | refine T_then ?_ | refine then_ret ?_ | refine then_exit ?_ | refine then_goto ?_     | refine rnd_exit ?_ | refine rnd_ret ?_ | refine rnd_goto ?_     | refine noGo_normal ?_ | refine noGo_ret ?_ | refine noGo_exit ?_ | refine jmp_normal ?_ | refine jmp_ret ?_ | refine jmp_exit ?_ | refine jmp_goto ?_     | refine inB_normal ?_ | refine inB_ret ?_ | refine inB_goto ?_ | refine inB_exit ?_ | refine inB_exit_ne rfl ?_     | ((first | apply T_sr fw | apply T_reg fw); · ((try simp only [go_sem, seval, reduceIte, ↓reduceIte, hm, hk, hlt, hlt2, hw]); (repeat ((first       | (refine ⟨true, false, rfl, fun h => absurd h (by decide), ?_⟩) | (refine ⟨false, false, rfl, fun h => absurd h (by decide), ?_⟩) | refine ⟨_, _, rfl, fun _ => rfl, ?_⟩); (try simp only [go_sem, seval, reduceIte, ↓reduceIte, hm, hk, hlt, hlt2, hw]))); (first | done | exact rfl)))     | ((first | apply T_sdF fw (by rw [hP]; rfl) (by decide +kernel) | apply T_drF fw (by rw [hP]; rfl) (by decide +kernel)); · ((try simp only [TOps.flat, List.cons_append, List.nil_append]); (repeat ((first | refine Y_g0 ?_ | refine Y_g (by (try simp only [go_sem, seval, reduceIte, ↓reduceIte, Bool.not_eq_true, reduceCtorEq, beq_false, beq_true, hm, hk, hlt, hlt2, hw]); (first | done | exact rfl)) ?_); (first | refine Y_skip ?_ | ((first | apply Y_q); (· ((try simp only [go_sem, seval, reduceIte, ↓reduceIte, Bool.not_eq_true, reduceCtorEq, beq_false, beq_true, hm, hk, hlt, hlt2, hw]); (first | done | exact rfl))))))); apply RunF_nil; (try simp only [go_sem, seval, reduceIte, ↓reduceIte, Bool.not_eq_true, reduceCtorEq, beq_false, beq_true, hm, hk, hlt, hlt2, hw]); (first | done | exact rfl)))     | ((first | apply T_sd fw (by rw [hP]; rfl) | apply T_dr fw (by rw [hP]; rfl)); · ((try simp only [go_sem, seval, reduceIte, ↓reduceIte, bne, beq_false, beq_true, Bool.not_eq_true, Bool.if_true_right, decide_not, reduceCtorEq, hm, hk, hlt, hlt2, hw]); (first | done | exact rfl)))     | refine T_seq ?_ | refine T_block ?_ | refine T_scopeJ 0 rfl ?_ | refine T_scope ?_ | refine T_goto ?_ | refine T_ret ?_ | refine T_skip ?_ | refine T_exit ?_ | refine T_label ?_     | refine T_condT rfl ?_ | refine T_condF rfl ?_     | refine T_condD rfl (fun _ => ?_) (fun _ => ?_)     | refine T_cond rfl (fun _ => ?_) (fun _ => ?_))
        · rename_i h2
          refine ends_ret rfl rfl rfl ?_
          rw [if_pos (by simpa using h2)] at hc
          simp only [resD, placeF]
          rw [if_neg (by rw [h]; simp), ← hc]
        · rename_i h2
          rw [if_neg (by simpa using h2)] at hc
          exact rnd_next hlt _ hc (.refl _ _)
      · omega
    · rw [hd] at hc
      refine go trivial trivial ?_
      refine ends_ret rfl rfl rfl ?_
      simp only [plW] at hc
      simp only [resD, placeF]
      rw [if_neg (by rw [h]; simp), ← hc]
end Go.AM

namespace Go.AM
open Go Go.Proofs
set_option maxRecDepth 100000

theorem p_tensor_At (s d x : List Int) (h0 : ∀ p, checkT s d = true → placeF s x = (p, 0) → 0 ≤ p ∧ p < d.length) :
    PureC Try.prog fi_tensor_At [dT s d, dI x] (dNE (if (!checkT s d) = true then (0, 30) else if ((placeF s x).2 != 0) = true then (0, (placeF s x).2) else ((d[(placeF s x).1.toNat]?).getD 0, 0))) := by
  refine pure_tensor_At (by simp) fun G hP hn => ?_
  unfold a_tensor_At
  repeat' (first     | refine T_then ?_ | refine then_ret ?_ | refine then_exit ?_ | refine then_goto ?_     | refine rnd_exit ?_ | refine rnd_ret ?_ | refine rnd_goto ?_     | refine noGo_normal ?_ | refine noGo_ret ?_ | refine noGo_exit ?_ | refine jmp_normal ?_ | refine jmp_ret ?_ | refine jmp_exit ?_ | refine jmp_goto ?_     | refine inB_normal ?_ | refine inB_ret ?_ | refine inB_goto ?_ | refine inB_exit ?_ | refine inB_exit_ne rfl ?_     | ((first | apply T_sr fw | apply T_reg fw); · ((try simp only [go_sem, seval, reduceIte, ↓reduceIte, hP]); (repeat ((first       | (refine ⟨true, false, rfl, fun h => absurd h (by decide), ?_⟩) | (refine ⟨false, false, rfl, fun h => absurd h (by decide), ?_⟩) | refine ⟨_, _, rfl, fun _ => rfl, ?_⟩       | (refine .inl ⟨_, _, ⟨_, _, _, _, _, _, rfl, rfl, rfl, p_tensor_Check _ _⟩, ?_⟩)       | (refine .inl ⟨_, _, ⟨_, _, _, _, _, _, rfl, rfl, rfl, p_shape_Place _ _⟩, ?_⟩)       | (refine ⟨_, ?_, rfl, fun _ => ⟨_, ⟨_, _, _, _, _, _, rfl, rfl, rfl, p_tensor_Check _ _⟩, ?_⟩, ?_⟩; rotate_left; (· (simp only [go_sem, seval, reduceIte, ↓reduceIte, hP]; first | done | exact rfl)))       | (refine ⟨_, ?_, rfl, fun _ => ⟨_, ⟨_, _, _, _, _, _, rfl, rfl, rfl, p_shape_Place _ _⟩, ?_⟩, ?_⟩; rotate_left; (· (simp only [go_sem, seval, reduceIte, ↓reduceIte, hP]; first | done | exact rfl)))); (try simp only [go_sem, seval, reduceIte, ↓reduceIte, hP]))); (first | done | exact rfl)))     | ((first | apply T_sdF fw (by rw [hP]; rfl) (by decide +kernel) | apply T_drF fw (by rw [hP]; rfl) (by decide +kernel)); · ((try simp only [TOps.flat, List.cons_append, List.nil_append]); (repeat ((first | refine Y_g0 ?_ | refine Y_g (by (try simp only [go_sem, seval, reduceIte, ↓reduceIte, Bool.not_eq_true, reduceCtorEq, beq_false, beq_true, hP]); (first | done | exact rfl)) ?_); (first | refine Y_skip ?_ | ((first | apply Y_q | (refine Y_call ⟨_, _, _, _, _, _, rfl, rfl, rfl, (by rw [hP]; exact p_tensor_Check _ _)⟩ ?_ ?_) | (refine Y_call ⟨_, _, _, _, _, _, rfl, rfl, rfl, (by rw [hP]; exact p_shape_Place _ _)⟩ ?_ ?_)); (· ((try simp only [go_sem, seval, reduceIte, ↓reduceIte, Bool.not_eq_true, reduceCtorEq, beq_false, beq_true, hP]); (first | done | exact rfl))))))); apply RunF_nil; (try simp only [go_sem, seval, reduceIte, ↓reduceIte, Bool.not_eq_true, reduceCtorEq, beq_false, beq_true, hP]); (first | done | exact rfl)))     | ((first | apply T_sd fw (by rw [hP]; rfl) | apply T_dr fw (by rw [hP]; rfl)); · ((try simp only [go_sem, seval, reduceIte, ↓reduceIte, bne, beq_false, beq_true, Bool.not_eq_true, Bool.if_true_right, decide_not, reduceCtorEq, hP]); (repeat ((first       | (refine ⟨_, ⟨_, _, _, _, _, _, rfl, rfl, rfl, p_tensor_Check _ _⟩, ?_⟩)       | (refine ⟨_, ⟨_, _, _, _, _, _, rfl, rfl, rfl, p_shape_Place _ _⟩, ?_⟩)); (try simp only [go_sem, seval, reduceIte, ↓reduceIte, bne, beq_false, beq_true, Bool.not_eq_true, Bool.if_true_right, decide_not, reduceCtorEq, hP]))); (first | done | exact rfl)))     | refine T_seq ?_ | refine T_block ?_ | refine T_scopeJ 0 rfl ?_ | refine T_scope ?_ | refine T_goto ?_ | refine T_ret ?_ | refine T_skip ?_ | refine T_exit ?_ | refine T_label ?_     | refine T_condT rfl ?_ | refine T_condF rfl ?_     | refine T_condD rfl (fun _ => ?_) (fun _ => ?_)     | refine T_cond rfl (fun _ => ?_) (fun _ => ?_))
  · rename_i h
    exact ends_ret rfl rfl rfl (by simp only [resD]; rw [if_pos h])
  · rename_i h h2
    exact ends_ret rfl rfl rfl (by simp only [resD]; rw [if_neg (by rw [h]; simp), if_pos h2])
  · rename_i h h2
    have h3 := h0 (placeF s x).1 (by simpa using h) (by
      have : (placeF s x).2 = 0 := by simpa using h2
      rw [← this])
    have h4 : (placeF s x).1.toNat < d.length := by omega
    have h5 : d[(placeF s x).1.toNat]? = some d[(placeF s x).1.toNat] := List.getElem?_eq_getElem h4
    refine go (aa @h3.1 <| aa @h3.2 h5) trivial ?_
    exact ends_ret rfl rfl rfl (by simp only [resD]; rw [if_neg (by rw [h]; simp), if_neg (by rw [h2]; simp), h5]; rfl)
end Go.AM

