import Derived.Test.YtphnlpfkenannaaGreatMv14
set_option linter.unusedVariables false
set_option linter.unusedSimpArgs false
namespace Go.AM
open Go Go.Proofs
set_option maxRecDepth 100000
def a_elem_kinds_1 : ACode := (sr [0] [] (mc 2 0<|mc 3 0<|.nil)<|
(sr [2,3] [] (mv 4 0<|qq 5 (.mm true (.t 4) (ic 0))<|mv 2 5<|mc 3 0<|.nil)<|
.ret))
theorem pure_elem_kinds_1 : PureT Tryz.prog fi_elem_kinds_1 6 a_elem_kinds_1 [.tmp 2,.tmp 3] := pureT_of Tryz.call264 Tryz.func264
def a_fix_Sub : ACode := (sr [0,1] [] (mc 4 0<|mc 5 0<|.nil)<|
(sr [0,1,6] [] (mv 7 0<|mv 8 1<|bt 9 .sub 7 8<|mv 6 9<|.nil)<|
(sr [4,5] [] (mv 10 6<|mv 11 0<|bc 12 .lss 11 0<|mv 13 1<|bc 14 .lss 13 0<|qq 15 (.eqB false (.t 12) (.t 14))<|mv 16 15<|.sc 22 16 false 21 none (.op (some 17) (some (16, false)) (.q (.mov (.t 6)))<|.op (some 18) (some (16, false)) (.q (.bin .lss (.t 17) (ic 0)))<|.op (some 19) (some (16, false)) (.q (.mov (.t 0)))<|.op (some 20) (some (16, false)) (.q (.bin .lss (.t 19) (ic 0)))<|.op (some 21) (some (16, false)) (.q (.eqB false (.t 18) (.t 20)))<|.nil)<|cl 23 235 [10,22]<|xt 24 23 0<|xt 25 23 1<|mv 4 24<|mv 5 25<|.nil)<|
.ret)))
theorem pure_fix_Sub : PureT Tryz.prog fi_fix_Sub 26 a_fix_Sub [.tmp 4,.tmp 5] := pureT_of Tryz.call265 Tryz.func265
def a_fix_Neg : ACode := (sr [0] [] (mc 2 0<|mc 3 0<|.nil)<|
(sr [2,3] [] (mv 4 0<|qq 5 (.un .neg (.t 4))<|mv 6 0<|bc 7 .neq 6 (-9223372036854775808)<|cl 8 235 [5,7]<|xt 9 8 0<|xt 10 8 1<|mv 2 9<|mv 3 10<|.nil)<|
.ret))
theorem pure_fix_Neg : PureT Tryz.prog fi_fix_Neg 11 a_fix_Neg [.tmp 2,.tmp 3] := pureT_of Tryz.call266 Tryz.func266
def a_fix_Pow : ACode := (sr [0] [] (mc 2 0<|mc 3 0<|.nil)<|
(sr [2,3] [] (mv 4 0<|bc 5 .and 4 4294967295<|qq 6 (.bin .add (ic 4294967296) (.t 5))<|qq 7 (.conv .u64 (.t 6))<|mv 8 0<|qq 9 (.bin .shr (.t 8) (.c (.one (.p (.int .u64 32)))))<|cl 10 244 [7,9]<|xt 11 10 0<|xt 12 10 1<|mv 2 11<|mv 3 12<|.nil)<|
.ret))
theorem pure_fix_Pow : PureT Tryz.prog fi_fix_Pow 13 a_fix_Pow [.tmp 2,.tmp 3] := pureT_of Tryz.call267 Tryz.func267
def a_fix_Sqrt : ACode := (sr [0] [] (mc 2 0<|mc 3 0<|.nil)<|
(ib [0,12] [] (mv 11 0<|bc 12 .lss 11 0<|.nil) 12 (sr [2,3] [] (mc 2 0<|mc 3 12<|.nil)<|
.ret)<|
(sr [0,4,5] [] (qq 4 (.mov (.c (.one (.p (.int .u64 0)))))<|qq 5 (.mov (.c (.one (.p (.int .u64 281474976710656)))))<|.nil)<|
(.seq (.block 0 (.loop (.seq (sr [0,4,5,16] [] (mv 13 5<|mv 14 4<|bt 15 .sub 13 14<|qq 16 (.bin .gtr (.t 15) (.c (.one (.p (.int .u64 1)))))<|.nil)<|
(cd 16 .skip (.exit 0)))<|
(.block 1 (sr [0,4,5,6] [] (mv 17 4<|mv 18 5<|bt 19 .add 17 18<|qq 20 (.bin .quo (.t 19) (.c (.one (.p (.int .u64 2)))))<|mv 6 20<|.nil)<|
(sr [0,4,5,6,7,8] [] (mv 22 6<|mv 23 6<|cl 24 66 [22,23]<|mv 21 24<|xt 25 21 0<|xt 26 21 1<|mv 7 25<|mv 8 26<|.nil)<|
(sr [0,4,5,6,7,10] [] (mv 28 0<|qq 29 (.conv .u64 (.t 28))<|qq 30 (.bin .shl (.t 29) (.c (.one (.p (.int .u64 32)))))<|mv 31 8<|qq 32 (.carry true (.t 30) (.t 31) (.c (.one (.p (.int .u64 0)))))<|mv 27 32<|xt 33 27 0<|xt 34 27 1<|mv 9 33<|mv 10 34<|.nil)<|
(sr [0,4,5,6,10] [] (mv 36 0<|qq 37 (.conv .u64 (.t 36))<|qq 38 (.bin .shr (.t 37) (.c (.one (.p (.int .u64 32)))))<|mv 39 7<|mv 40 10<|qq 41 (.carry true (.t 38) (.t 39) (.t 40))<|mv 35 41<|xt 42 35 0<|xt 43 35 1<|mv 10 43<|.nil)<|
(sr [0,4,5,6,45] [] (mv 44 10<|qq 45 (.bin .gtr (.t 44) (.c (.one (.p (.int .u64 0)))))<|.nil)<|
(cd 45 (rg [0,4,5] []<|mv 46 6<|mv 5 46<|.nil) (rg [0,4,5] []<|mv 47 6<|mv 4 47<|.nil)))))))))))<|
(sr [2,3] [] (mv 48 4<|qq 49 (.conv .i64 (.t 48))<|mv 2 49<|mc 3 0<|.nil)<|
.ret)))))
theorem pure_fix_Sqrt : PureT Tryz.prog fi_fix_Sqrt 50 a_fix_Sqrt [.tmp 2,.tmp 3] := pureT_of Tryz.call268 Tryz.func268
def a_shape_side : ACode := (sr [0,1] [] (mc 4 0<|.nil)<|
(ib [0,1,8] [] (mv 5 1<|mv 6 0<|le 7 6<|bt 8 .geq 5 7<|.nil) 8 (sr [4] [] (mc 4 1<|.nil)<|
.ret)<|
(sr [4] [] (mv 9 0<|mv 10 0<|le 11 10<|bc 12 .sub 11 1<|mv 13 1<|bt 14 .sub 12 13<|ia 15 1 9 14<|ld 16 1 false 15<|mv 4 16<|.nil)<|
.ret)))
theorem pure_shape_side : PureT Tryz.prog fi_shape_side 17 a_shape_side [.tmp 4] := pureT_of Tryz.call269 Tryz.func269
def a_move_indices_1 : ACode := (sr [0,1,7,8] [] (ld 6 1 false 1<|cl 7 58 [6]<|mc 8 0<|.nil)<|
(.block 0 (.loop (sr [0,1,7,8,9] [] (bt 9 .lss 8 7<|.nil)<|
(.seq (cd 9 .skip (.exit 0))<|
(.seq (.block 1 (sr [0,1,3,7,8] [] (mv 10 8<|mv 3 10<|.nil)<|
(sr [0,1,4,7,8] [] (ld 12 1 false 1<|mv 13 3<|cl 14 271 [12,13]<|mv 11 14<|xt 15 11 0<|xt 16 11 1<|mv 4 15<|mv 5 16<|.nil)<|
(sr [0,1,7,8,20] [] (mv 17 0<|mv 18 4<|.op (some 19) none (.call (.t 17) [(.t 18)])<|qq 20 (.un .not (.t 19))<|.nil)<|
(cd 20 .ret .skip)))))<|
(rg [0,1,7,8] []<|bc 21 .add 8 1<|mv 8 21<|.nil)))))))
theorem is_move_indices_1 : compC Tryz.prog (Tryz.f270.body.getD .skip) = some a_move_indices_1.erase := by kernel_rfl
theorem ok_move_indices_1 : a_move_indices_1.ok 22 = true := by kernel_rfl
theorem rv_move_indices_1 : compRV Tryz.prog Tryz.f270.results.toList = some [] := by kernel_rfl
theorem call_move_indices_1 (args : Array Value) (w : World) : (callFunc fi_move_indices_1 args).run Tryz.prog w = .ok (.enter fi_move_indices_1 args) w := Tryz.call270 args w
theorem func_move_indices_1 : Tryz.prog.funcs[fi_move_indices_1]? = some Tryz.f270 := Tryz.func270
def a_shape_Index : ACode := (sr [0,1] [] (qq 4 (.mov (.c (.one .nils)))<|mc 5 0<|.nil)<|
(ib [0,1,16] [] (mv 9 1<|bc 10 .lss 9 0<|mv 11 10<|.sc 16 11 false 15 none (.op (some 12) (some (11, false)) (.q (.mov (.t 1)))<|.op (some 13) (some (11, false)) (.q (.mov (.t 0)))<|.op (some 14) (some (11, false)) (.call (.c (.one (.p (.fn fi_shape_Size [] [])))) [(.t 13)])<|.op (some 15) (some (11, false)) (.q (.bin .geq (.t 12) (.t 14)))<|.nil)<|.nil) 16 (sr [4,5] [] (qq 4 (.mov (.c (.one .nils)))<|mc 5 20<|.nil)<|
.ret)<|
(sr [0,1,6] [19] (mv 17 0<|le 18 17<|nn 19 (.mkS 1 8 [(.int .i64 0)] (.t 18) (.t 18))<|mv 6 19<|.nil)<|
(.seq (sr [0,1,6,21,22] [19] (mv 20 0<|le 21 20<|mc 22 0<|.nil)<|
(.block 0 (.loop (sr [0,1,6,21,22,23] [19] (bt 23 .lss 22 21<|.nil)<|
(.seq (cd 23 .skip (.exit 0))<|
(.seq (.block 1 (sr [0,1,6,7,21,22] [19] (mv 24 22<|mv 7 24<|.nil)<|
(sr [0,1,6,8,21,22] [19] (mv 25 0<|le 26 25<|bc 27 .sub 26 1<|mv 28 7<|bt 29 .sub 27 28<|mv 8 29<|.nil)<|
(.region (some [[], [0], [0, 1], [0, 1, 2], [0, 1, 2, 3], [0, 1, 2], [0, 1, 2], [0, 1], [0, 1, 2, 3, 4, 5, 6, 7], [0, 1, 2, 3, 4, 5, 6, 7, 8], [0, 1, 2, 3, 4, 5, 6, 7, 8, 9], [0, 1, 2, 3, 4, 5, 6, 7, 8], [0, 1, 2, 3, 4, 5, 6, 7, 8], [0, 1, 2, 3, 4, 5, 6, 7], [8, 13], [8, 13], []]) (mv 30 6<|mv 31 8<|mv 32 1<|mv 33 0<|mv 34 8<|ia 35 1 33 34<|ld 36 1 false 35<|bt 37 .rem 32 36<|mv 38 1<|mv 39 0<|mv 40 8<|ia 41 1 39 40<|ld 42 1 false 41<|bt 43 .quo 38 42<|ia 44 1 30 31<|st 1 44 37<|mv 1 43<|.nil) [0,1,6,21,22] [19]))))<|
(rg [0,1,6,21,22] [19]<|bc 45 .add 22 1<|mv 22 45<|.nil)))))))<|
(sr [4,5] [19] (mv 46 6<|mv 4 46<|mc 5 0<|.nil)<|
.ret)))))
theorem pure_shape_Index : PureT Tryz.prog fi_shape_Index 47 a_shape_Index [.tmp 4,.tmp 5] := pureT_of Tryz.call271 Tryz.func271
def a_math_bits_Div64 : ACode := (sr [0,1,2] [] (qq 6 (.mov (.c (.one (.p (.int .u64 0)))))<|qq 7 (.mov (.c (.one (.p (.int .u64 0)))))<|.nil)<|
(ib [0,1,2,20] [] (mv 19 2<|qq 20 (.bin .eql (.t 19) (.c (.one (.p (.int .u64 0)))))<|.nil) 20 (rg [0,1,2] []<|.op (some 21) none .bad<|.op none none .bad<|.nil)<|
(ib [0,1,2,24] [] (mv 22 2<|mv 23 0<|bt 24 .leq 22 23<|.nil) 24 (rg [0,1,2] []<|.op (some 25) none .bad<|.op none none .bad<|.nil)<|
(ib [0,1,2,27] [] (mv 26 0<|qq 27 (.bin .eql (.t 26) (.c (.one (.p (.int .u64 0)))))<|.nil) 27 (.seq (.region (some [[], [0], [], [0, 1, 2], [0, 1, 2, 3], [0, 1, 2], [3, 4, 5], []]) (mv 28 1<|mv 29 2<|bt 30 .quo 28 29<|mv 31 1<|mv 32 2<|bt 33 .rem 31 32<|mv 6 30<|mv 7 33<|.nil) [6,7] [])<|
.ret)<|
(sr [0,1,2,8] [] (mv 34 2<|cl 35 282 [34]<|qq 36 (.conv .u64 (.t 35))<|mv 8 36<|.nil)<|
(sr [0,1,2,8] [] (mv 37 2<|mv 38 8<|bt 39 .shl 37 38<|mv 2 39<|.nil)<|
(sr [0,1,2,8,9] [] (mv 40 2<|qq 41 (.bin .shr (.t 40) (.c (.one (.p (.int .u64 32)))))<|mv 9 41<|.nil)<|
(sr [0,1,2,8,9,10] [] (mv 42 2<|qq 43 (.bin .and (.t 42) (.c (.one (.p (.int .u64 4294967295)))))<|mv 10 43<|.nil)<|
(sr [1,2,8,9,10,11] [] (mv 44 0<|mv 45 8<|bt 46 .shl 44 45<|mv 47 1<|mv 48 8<|qq 49 (.bin .sub (.c (.one (.p (.int .u64 64)))) (.t 48))<|bt 50 .shr 47 49<|bt 51 .or 46 50<|mv 11 51<|.nil)<|
(sr [2,8,9,10,11,12] [] (mv 52 1<|mv 53 8<|bt 54 .shl 52 53<|mv 12 54<|.nil)<|
(sr [2,8,9,10,11,12,13] [] (mv 55 12<|qq 56 (.bin .shr (.t 55) (.c (.one (.p (.int .u64 32)))))<|mv 13 56<|.nil)<|
(sr [2,8,9,10,11,13,14] [] (mv 57 12<|qq 58 (.bin .and (.t 57) (.c (.one (.p (.int .u64 4294967295)))))<|mv 14 58<|.nil)<|
(sr [2,8,9,10,11,13,14,15] [] (mv 59 11<|mv 60 9<|bt 61 .quo 59 60<|mv 15 61<|.nil)<|
(sr [2,8,9,10,11,13,14,15,16] [] (mv 62 11<|mv 63 15<|mv 64 9<|bt 65 .mul 63 64<|bt 66 .sub 62 65<|mv 16 66<|.nil)<|
(.seq (.block 0 (.loop (.seq (sr [2,8,9,10,11,13,14,15,16,78] [] (mv 67 15<|qq 68 (.bin .geq (.t 67) (.c (.one (.p (.int .u64 4294967296)))))<|mv 69 68<|.sc 78 69 false 77 none (.op (some 70) (some (69, false)) (.q (.mov (.t 15)))<|.op (some 71) (some (69, false)) (.q (.mov (.t 10)))<|.op (some 72) (some (69, false)) (.q (.bin .mul (.t 70) (.t 71)))<|.op (some 73) (some (69, false)) (.q (.mov (.t 16)))<|.op (some 74) (some (69, false)) (.q (.bin .mul (.c (.one (.p (.int .u64 4294967296)))) (.t 73)))<|.op (some 75) (some (69, false)) (.q (.mov (.t 13)))<|.op (some 76) (some (69, false)) (.q (.bin .add (.t 74) (.t 75)))<|.op (some 77) (some (69, false)) (.q (.bin .gtr (.t 72) (.t 76)))<|.nil)<|.nil)<|
(cd 78 .skip (.exit 0)))<|
(.block 1 (sr [2,8,9,10,11,13,14,15,16] [] (mv 79 15<|qq 80 (.bin .sub (.t 79) (.c (.one (.p (.int .u64 1)))))<|mv 15 80<|.nil)<|
(sr [2,8,9,10,11,13,14,15,16] [] (mv 81 16<|mv 82 9<|bt 83 .add 81 82<|mv 16 83<|.nil)<|
(sr [2,8,9,10,11,13,14,15,16,85] [] (mv 84 16<|qq 85 (.bin .geq (.t 84) (.c (.one (.p (.int .u64 4294967296)))))<|.nil)<|
(cd 85 (.exit 0) .skip))))))))<|
(sr [2,8,9,10,14,15,17] [] (mv 86 11<|qq 87 (.bin .mul (.t 86) (.c (.one (.p (.int .u64 4294967296)))))<|mv 88 13<|bt 89 .add 87 88<|mv 90 15<|mv 91 2<|bt 92 .mul 90 91<|bt 93 .sub 89 92<|mv 17 93<|.nil)<|
(sr [2,8,9,10,14,15,17,18] [] (mv 94 17<|mv 95 9<|bt 96 .quo 94 95<|mv 18 96<|.nil)<|
(sr [2,8,9,10,14,15,16,17,18] [] (mv 97 17<|mv 98 18<|mv 99 9<|bt 100 .mul 98 99<|bt 101 .sub 97 100<|mv 16 101<|.nil)<|
(.seq (.block 2 (.loop (.seq (sr [2,8,9,10,14,15,16,17,18,113] [] (mv 102 18<|qq 103 (.bin .geq (.t 102) (.c (.one (.p (.int .u64 4294967296)))))<|mv 104 103<|.sc 113 104 false 112 none (.op (some 105) (some (104, false)) (.q (.mov (.t 18)))<|.op (some 106) (some (104, false)) (.q (.mov (.t 10)))<|.op (some 107) (some (104, false)) (.q (.bin .mul (.t 105) (.t 106)))<|.op (some 108) (some (104, false)) (.q (.mov (.t 16)))<|.op (some 109) (some (104, false)) (.q (.bin .mul (.c (.one (.p (.int .u64 4294967296)))) (.t 108)))<|.op (some 110) (some (104, false)) (.q (.mov (.t 14)))<|.op (some 111) (some (104, false)) (.q (.bin .add (.t 109) (.t 110)))<|.op (some 112) (some (104, false)) (.q (.bin .gtr (.t 107) (.t 111)))<|.nil)<|.nil)<|
(cd 113 .skip (.exit 2)))<|
(.block 3 (sr [2,8,9,10,14,15,16,17,18] [] (mv 114 18<|qq 115 (.bin .sub (.t 114) (.c (.one (.p (.int .u64 1)))))<|mv 18 115<|.nil)<|
(sr [2,8,9,10,14,15,16,17,18] [] (mv 116 16<|mv 117 9<|bt 118 .add 116 117<|mv 16 118<|.nil)<|
(sr [2,8,9,10,14,15,16,17,18,120] [] (mv 119 16<|qq 120 (.bin .geq (.t 119) (.c (.one (.p (.int .u64 4294967296)))))<|.nil)<|
(cd 120 (.exit 2) .skip))))))))<|
(sr [6,7] [] (mv 121 15<|qq 122 (.bin .mul (.t 121) (.c (.one (.p (.int .u64 4294967296)))))<|mv 123 18<|bt 124 .add 122 123<|mv 125 17<|qq 126 (.bin .mul (.t 125) (.c (.one (.p (.int .u64 4294967296)))))<|mv 127 14<|bt 128 .add 126 127<|mv 129 18<|mv 130 2<|bt 131 .mul 129 130<|bt 132 .sub 128 131<|mv 133 8<|bt 134 .shr 132 133<|mv 6 124<|mv 7 134<|.nil)<|
.ret))))))))))))))))))))
theorem pure_math_bits_Div64 : PureT Tryz.prog fi_math_bits_Div64 135 a_math_bits_Div64 [.tmp 6,.tmp 7] := pureT_of Tryz.call272 Tryz.func272
def a_tensor_from_1 : ACode := (sr [0,1,2,4] [15] (ld 13 1 false 1<|le 14 13<|nn 15 (.mkS 1 8 [(.int .i64 0)] (.t 14) (.t 14))<|mv 4 15<|.nil)<|
(.seq (sr [0,1,2,4,5,6] [15] (ld 16 1 false 2<|le 17 16<|bc 18 .sub 17 1<|mv 5 18<|mc 6 1<|.nil)<|
(.block 0 (.loop (.seq (sr [0,1,2,4,5,6,20] [15] (mv 19 5<|bc 20 .geq 19 0<|.nil)<|
(cd 20 .skip (.exit 0)))<|
(.seq (.block 1 (ib [0,1,2,4,5,6,27] [15] (ld 23 1 false 2<|mv 24 5<|ia 25 1 23 24<|ld 26 1 false 25<|bc 27 .gtr 26 1<|.nil) 27 (rg [0,1,2,4,5,6] [15]<|mv 28 4<|ld 29 1 false 1<|le 30 29<|ld 31 1 false 2<|le 32 31<|bt 33 .sub 30 32<|mv 34 5<|bt 35 .add 33 34<|mv 36 6<|ia 37 1 28 35<|st 1 37 36<|.nil)<|
(rg [0,1,2,4,5,6] [15]<|mv 38 6<|ld 39 1 false 2<|mv 40 5<|ia 41 1 39 40<|ld 42 1 false 41<|bt 43 .mul 38 42<|mv 6 43<|.nil)))<|
(rg [0,1,2,4,5,6] [15]<|mv 21 5<|bc 22 .sub 21 1<|mv 5 22<|.nil))))))<|
(sr [0,1,4,45,46] [15] (ld 44 1 false 1<|cl 45 58 [44]<|mc 46 0<|.nil)<|
(.block 2 (.loop (sr [0,1,4,45,46,47] [15] (bt 47 .lss 46 45<|.nil)<|
(.seq (cd 47 .skip (.exit 2))<|
(.seq (.block 3 (sr [0,1,4,7,45,46] [15] (mv 48 46<|mv 7 48<|.nil)<|
(sr [0,1,4,7,8,45,46] [15] (ld 50 1 false 1<|mv 51 7<|cl 52 271 [50,51]<|mv 49 52<|xt 53 49 0<|xt 54 49 1<|mv 8 53<|mv 9 54<|.nil)<|
(sr [0,1,4,7,8,10,45,46] [15] (mc 10 0<|.nil)<|
(.seq (sr [0,1,4,7,10,45,46,55,56,57] [15] (mv 55 8<|le 56 55<|mc 57 0<|.nil)<|
(.block 4 (.loop (sr [0,1,4,7,10,45,46,55,56,57,58] [15] (bt 58 .lss 57 56<|.nil)<|
(.seq (cd 58 .skip (.exit 4))<|
(.seq (.block 5 (sr [0,1,4,7,10,11,12,45,46,55,56,57] [15] (mv 59 57<|ia 60 1 55 57<|ld 61 1 false 60<|mv 11 59<|mv 12 61<|.nil)<|
(rg [0,1,4,7,10,45,46,55,56,57] [15]<|mv 62 10<|mv 63 12<|mv 64 4<|mv 65 11<|ia 66 1 64 65<|ld 67 1 false 66<|bt 68 .mul 63 67<|bt 69 .add 62 68<|mv 10 69<|.nil)))<|
(rg [0,1,4,7,10,45,46,55,56,57] [15]<|bc 70 .add 57 1<|mv 57 70<|.nil)))))))<|
(sr [0,1,4,45,46,75] [15] (mv 71 0<|mv 72 7<|mv 73 10<|.op (some 74) none (.call (.t 71) [(.t 72),(.t 73)])<|qq 75 (.un .not (.t 74))<|.nil)<|
(cd 75 .ret .skip)))))))<|
(rg [0,1,4,45,46] [15]<|bc 76 .add 46 1<|mv 46 76<|.nil)))))))))
theorem is_tensor_from_1 : compC Tryz.prog (Tryz.f273.body.getD .skip) = some a_tensor_from_1.erase := by kernel_rfl
theorem ok_tensor_from_1 : a_tensor_from_1.ok 77 = true := by kernel_rfl
theorem rv_tensor_from_1 : compRV Tryz.prog Tryz.f273.results.toList = some [] := by kernel_rfl
theorem call_tensor_from_1 (args : Array Value) (w : World) : (callFunc fi_tensor_from_1 args).run Tryz.prog w = .ok (.enter fi_tensor_from_1 args) w := Tryz.call273 args w
theorem func_tensor_from_1 : Tryz.prog.funcs[fi_tensor_from_1]? = some Tryz.f273 := Tryz.func273
def a_math_bits_LeadingZeros64 : ACode := (sr [0] [] (mc 2 0<|.nil)<|
(sr [2] [] (mv 3 0<|cl 4 227 [3]<|qq 5 (.bin .sub (ic 64) (.t 4))<|mv 2 5<|.nil)<|
.ret))
theorem pure_math_bits_LeadingZeros64 : PureT Tryz.prog fi_math_bits_LeadingZeros64 6 a_math_bits_LeadingZeros64 [.tmp 2] := pureT_of Tryz.call282 Tryz.func282
end Go.AM

namespace Go.AM
open Go.RowKit (Below)

theorem obj_not {M A : Nat → Prop} {τ : Tau} {w : World} {t b : Nat} {o : AO} {x : Obj} (h : ORel M A τ w t o) (hn : o ≠ .none) (hb : τ t = some b) (hx : w.heap[b]? = some x) : (∃ cs e, x = .cells cs e (0, 0)) ∨ ∃ ces c, x = .map ces c := by
  cases o with
  | none => exact absurd rfl hn
  | cells m cs =>
    obtain ⟨b', xs, e, h1, h2, _⟩ := h
    rw [hb] at h1; cases h1; rw [hx] at h2; cases h2
    exact .inl ⟨_, _, rfl⟩
  | arr m s rows =>
    obtain ⟨_, _, ⟨h1, _⟩ | ⟨b', xs, e, h1, h2, _⟩⟩ := h
    · rw [hb] at h1; cases h1
    · rw [hb] at h1; cases h1; rw [hx] at h2; cases h2
      exact .inl ⟨_, _, rfl⟩
  | map m es =>
    obtain ⟨b', ces, c, h1, h2, _⟩ := h
    rw [hb] at h1; cases h1; rw [hx] at h2; cases h2
    exact .inr ⟨_, _, rfl⟩
theorem ow_not {M A : Nat → Prop} {τ : Tau} {w : World} {σ : Sto} {l : Nat} {x : Obj} (h : ∀ t, ORel M A τ w t (lo σ t)) (hx : w.heap[l]? = some x) (h1 : ∀ cs e, x ≠ .cells cs e (0, 0)) (h2 : ∀ ces c, x ≠ .map ces c) : ¬ owOf σ τ l := by
  rintro ⟨t, hm, hb⟩
  rcases obj_not (h t) (fun e => by rw [e] at hm; cases hm) hb hx with ⟨cs, e, rfl⟩ | ⟨ces, c, rfl⟩
  · exact h1 _ _ rfl
  · exact h2 _ _ rfl
theorem WStep.loop {w : World} {l : Nat} {R R' : Loop} (h : w.heap[l]? = some (.loop R)) : WStep (· = l) w (w.putObj l (.loop R')) := by
  refine ⟨rfl, rfl, rfl, by simp [World.putObj], fun b _ hb => World.putObj_heap_other hb, fun b cs e hb => ⟨cs, ?_, rfl⟩⟩
  rw [World.putObj_heap_other (fun e' => by subst e'; rw [h] at hb; cases hb)]
  exact hb
theorem KeepD.loop {w : World} {l : Nat} {R R' : Loop} (h : w.heap[l]? = some (.loop R)) : KeepD w (w.putObj l (.loop R')) := fun b ds hb => by
  rw [World.putObj_heap_other (fun e' => by subst e'; rw [h] at hb; cases hb)]; exact hb
section
variable {G : Ground} {F : Fence} {n : Nat} {Q : Exit → AS → Prop} {s : AS}
theorem T_steps (hF : FOk F) {t : TOps} {k ids : List Nat} {S : AS} (h : Steps G.P G t.flat s S) (hq : Q .normal S) : T G F n (.region none t k ids) Q s := by
  refine ⟨fun code hc => ?_⟩
  intro hok a w hs
  obtain ⟨id, ops, l, rfl, hz, hfl⟩ := inv_region hc
  have hl := flatT_inj hfl
  subst hl
  refine wpIn_region ?_
  have := steps_ops (F := F) (n := n) (Q := fun e a w => ∃ s', Q e s' ∧ SimS G s' a w) hF h 0 ops.toList hz (fun i o hi => by simpa using hi) (fun a w hs' => ⟨_, hq, hs'⟩) a w hs
  rw [compR_len hz] at this
  simpa [List.range_eq_range'] using this
theorem Steps.q {d : Option Nat} {q : QOp} {v : AV} {l : List FOp} {S : AS} (hd : ∀ t, d = some t → t < G.nt) (h : evQ q s.env s.σ = some v) (t : Steps G.P G l (putd d v s) S) : Steps G.P G (⟨d, none, .q q⟩ :: l) s S :=
  .cons (.run rfl hd (.q h)) t
theorem SimAt.reput {a : Act} {w : World} {A : Nat → Prop} {τ : Tau} {l : Nat} {R R' : Loop} (h : SimAt G s a w A τ) (hl : l < G.N) (hno : ¬ G.ow l) (hA : ¬ A l) (ho : w.heap[l]? = some (.loop R)) :
    SimAt { G with w0 := G.w0.putObj l (.loop R') } s a (w.putObj l (.loop R')) A τ := by
  have hw := WStep.loop (R' := R') ho
  have hst : Still A w (w.putObj l (.loop R')) := hw.still h.alt (fun b hb e => hA (e ▸ hb))
  have hN : ({ G with w0 := G.w0.putObj l (.loop R') } : Ground).N = G.N := by simp [Ground.N, World.putObj]
  have hM : ∀ b, G.M b → ({ G with w0 := G.w0.putObj l (.loop R') } : Ground).M b := fun b hb => hb.imp (fun h => by rw [hN]; exact h) id
  have hMe : ({ G with w0 := G.w0.putObj l (.loop R') } : Ground).M = G.M := by
    funext b; simp only [Ground.M, hN]
  refine ⟨⟨h.below.os, h.below.tape, h.below.output, ?_, fun k hk hn => ?_⟩, h.a0, fun b hb => (h.a1 b hb).imp id (hM b), fun b hb => Nat.lt_of_lt_of_le (h.alt b hb) hw.size, h.size, fun i => (h.env i).step hw (fun _ hb => hb) hst (fun _ _ => rfl),
    fun t => ?_, h.sep, h.ex.mono fun _ _ hv => hv.step hw (fun _ hb => hb) hst (fun _ _ => rfl), ?_⟩
  · rw [hN]; exact Nat.le_trans h.below.size hw.size
  · rw [hN] at hk
    show (w.putObj l (.loop R')).heap[k]? = (G.w0.putObj l (.loop R')).heap[k]?
    by_cases hkl : k = l
    · subst hkl
      rw [World.putObj_heap_same (heap_lt ho), World.putObj_heap_same hk]
    · rw [World.putObj_heap_other hkl, World.putObj_heap_other hkl]
      exact h.below.block k hk hn
  · rw [hMe]
    refine (h.obj t).step hw (fun _ hb => hb) hst (fun _ hb => .inl hb) (fun b hne hb hlt => hw.same b hlt fun e => ?_) rfl (fun _ _ => rfl)
    subst e
    rcases obj_not (h.obj t) hne hb ho with ⟨_, _, h⟩ | ⟨_, _, h⟩ <;> cases h
  · rw [hN]
    exact h.marks.step (KeepD.loop ho) (fun _ hb => .inl hb)
def putE : List Nat → List AV → Env → Env
  | p :: ps, v :: vs, e => putE ps vs ((p, v) :: e)
  | _, _, e => e
theorem put_rel {A : Nat → Prop} {τ : Tau} {w : World} : ∀ {ps : List Nat} {vs : List AV} {xs : List Value} {e : Env} {tmps : Array Value}, All2 (VRel A τ w) vs xs → (∀ i, VRel A τ w (lk e i) (tmps.getD i undef)) → ps.all (· < tmps.size) = true →
    (∀ i, VRel A τ w (lk (putE ps vs e) i) (((ps.zip xs).foldl (fun t (p, v) => t.setIfInBounds p v) tmps).getD i undef)) ∧ ((ps.zip xs).foldl (fun t (p, v) => t.setIfInBounds p v) tmps).size = tmps.size
  | [], _, _, e, tmps, _, h, _ => ⟨by simpa [putE] using h, by simp⟩
  | p :: ps, _, _, e, tmps, .nil, h, _ => ⟨by simpa [putE] using h, by simp⟩
  | p :: ps, _, _, e, tmps, .cons (a := v) (b := x) hv ht, h, hp => by
    simp only [List.all_cons, Bool.and_eq_true, decide_eq_true_eq] at hp
    have := put_rel (ps := ps) (e := (p, v) :: e) (tmps := tmps.setIfInBounds p x) ht (fun i => by
      rw [lk_put]
      by_cases hi : i = p
      · subst hi
        rw [if_pos rfl]
        have : (tmps.setIfInBounds i x).getD i undef = x := by simp [Array.getD_eq_getD_getElem?, hp.1]
        rw [this]; exact hv
      · rw [if_neg hi]
        have : (tmps.setIfInBounds p x).getD i undef = tmps.getD i undef := by
          simp [Array.getD_eq_getD_getElem?, Array.getElem?_setIfInBounds_ne (Ne.symm hi)]
        rw [this]; exact h i) (by simpa using hp.2)
    simpa [putE] using this
structure AsgEnd (K : AS → Prop) (e : Exit) (s : AS) : Prop where
  norm : e = .normal
  k : K s
structure RoundEnd (σ' : Sto) (ex : List AV) (e : Exit) (s : AS) : Prop where
  norm : e = .normal
  sto : ∀ p ∈ σ', lo s.σ p.1 = p.2
  ex : s.ex = ex
structure Fam (σ : Nat → Sto) (fr : List Nat) : Prop where
  once : ∀ k, ∀ p ∈ σ k, lo (σ k) p.1 = p.2
  keys : ∀ k t, lo (σ k) t ≠ .none → t ∈ (σ (k + 1)).map (·.1)
  out : ∀ k d, d ∈ fr → lo (σ k) d = .none ∨ d ∈ (σ (k + 1)).map (·.1)
  obj : ∀ k t d, d ∈ fr → t ∉ (σ (k + 1)).map (·.1) → (lo (σ k) t).nr d = true
structure SeqC (P : Program) (f : FuncId) (caps : List PV) (xs : List (List DV)) : Prop where
  enters : ∀ args w, (callFunc f args).run P w = .ok (.enter f args) w
  calls : ∀ (R : Loop) (l : Nat) (σ : Nat → Sto) (fr : List Nat) (cA : List AV) (cV : List Value),
    (∀ k x, xs[k]? = some x → YieldC P R l (x.map DV.av) (σ k) (σ (k + 1)) fr cA cV) → Fam σ fr →
    ∀ (A : Nat → Prop) (τ : Tau) (w : World) (vb : List Value) (ex : List AV) (exs : List Value), (∀ b, A b → b < w.heap.size) → PRels A w caps vb → All2 (VRel A τ w) (cA ++ ex) (cV ++ exs) →
    (∀ d ∈ fr, ∀ v ∈ cA ++ ex, v.has d = false) → (∀ t, ORel (fun _ => True) A τ w t (lo (σ 0) t)) → SepS (σ 0) τ → w.heap[l]? = some (.loop R) → ¬ A l →
    Calls P f ⟨Value.func (.yield l) #[] #[] :: vb⟩ w fun e w' => ∃ x A' τ', e = .returned x ∧ Frame A (owOf (σ 0) τ) w w' A' ∧ (∀ t, ORel (fun b => w.heap.size ≤ b ∨ owOf (σ 0) τ b) A' τ' w' t (lo (σ xs.length) t)) ∧
      SepS (σ xs.length) τ' ∧ All2 (VRel A' τ' w') (cA ++ ex) (cV ++ exs)
theorem inv_range {P : Program} {code : Code} {f : Opd} {ps : List Nat} {x y : ACode} (h : compC P code = some (.range f ps x y)) :
    ∃ fo pa cx cy, code = .rangeFunc fo pa cx cy ∧ opd fo = some f ∧ pa.toList = ps ∧ compC P cx = some x ∧ compC P cy = some y := by
  cases code <;> simp [compC, Option.bind_eq_some_iff, Option.map_eq_some_iff] at h
  obtain ⟨f', h1, x', h2, y', h3, rfl, rfl, rfl, rfl⟩ := h
  exact ⟨_, _, _, _, rfl, h1, rfl, h2, h3⟩
theorem yield_of {a : Act} {fn : FuncId} {pa : Array Tmp} {ps : List Nat} {cx cy : Code} {x y : ACode} {D : Nat} {l : Nat} {vs : List AV} {σ σ' : Sto} {fr : List Nat} {env : Env} {P : Program} {nt : Nat}
    (hpa : pa.toList = ps) (hps : ps.all (· < nt) = true) (hlen : vs.length = ps.length) (hcx : compC P cx = some x.erase) (hcy : compC P cy = some y.erase) (hokx : x.ok nt = true) (hoky : y.ok nt = true) (hnt : a.tmps.size = nt)
    (round : ∀ (F : Fence) (n : Nat) (G' G'' : Ground) (ex : List AV), FOk F → G'.P = P → G'.nt = nt → G''.P = P → G''.nt = nt → (∀ d ∈ fr, ex.all (fun v => !v.has d) = true) →
      T G' F n x (AsgEnd fun s1 => T G'' F n y (RoundEnd σ' ex) s1) { env := putE ps vs env, σ := σ, ex := ex }) :
    YieldC P { state := .ready, pending := none, fn := fn, tmps := a.tmps, params := pa, assign := cx, body := cy, defers := D } l vs σ σ' fr (env.map fun p => lk env p.1) (env.map fun p => a.tmps.getD p.1 undef) := by
  intro F n A τ w xs ex exs hF hA hx he hfr ho hs hl hAl
  have hF' : FOk (F.inRound l) := by
    rcases hF with rfl | ⟨l', rfl⟩
    · exact .inr ⟨l, rfl⟩
    · exact .inr ⟨l, rfl⟩
  have hxl := hx.length
  have hpl : pa.size = ps.length := by rw [← hpa]; simp
  refine ⟨fn, _, cx, cy, run_yield hl (by simp; omega), roundIn_of_wpIn (hF.fn fn) ?_⟩
  generalize hRd : ({ state := .ready, pending := none, fn := fn, tmps := a.tmps, params := pa, assign := cx, body := cy, defers := D } : Loop) = R at hl
  have hRs : R.state = .ready := by rw [← hRd]
  have hRp : R.pending = none := by rw [← hRd]
  have htm : (pa.zip ⟨xs⟩).foldl (fun tmps (t, a) => tmps.setIfInBounds t a) a.tmps = (ps.zip xs).foldl (fun t (p, v) => t.setIfInBounds p v) a.tmps := by
    rw [← hpa, ← Array.foldl_toList]
    simp
  have henv : ∀ i, VRel A τ w (lk env i) (a.tmps.getD i undef) := by
    intro i
    by_cases hi : i ∈ env.map (·.1)
    · obtain ⟨p, hp, rfl⟩ := List.mem_map.1 hi
      have : All2 (VRel A τ w) (env.map fun p => lk env p.1) (env.map fun p => a.tmps.getD p.1 undef) := by
        have h2 : ∀ {α β : Type} {R : α → β → Prop} {az az' : List α} {b1 b2 : List β}, All2 R (az ++ az') (b1 ++ b2) → az.length = b1.length → All2 R az b1 := by
          intro α β R az
          induction az with
          | nil => intro az' b1 b2 _ hl; cases b1 with | nil => exact .nil | cons => simp at hl
          | cons a az ih =>
            intro az' b1 b2 h hl
            cases b1 with
            | nil => simp at hl
            | cons b b1 => cases h with | cons h t => exact .cons h (ih t (by simpa using hl))
        exact h2 he (by simp)
      exact All2.map_inv this p hp
    · rw [lk_none hi]; exact .v1 (.top _)
  have hput := put_rel (ps := ps) hx henv (by rw [hnt]; exact hps)
  let G : Ground := { P := P, w0 := w, A0 := A, nt := nt, exv := (env.map fun p => a.tmps.getD p.1 undef) ++ exs, ow := owOf σ τ }
  have hno : ¬ G.ow l := ow_not ho hl (fun _ _ h => by cases h) (fun _ _ h => by cases h)
  have hlN : l < G.N := heap_lt hl
  have hs0 : SimAt G { env := putE ps vs env, σ := σ, ex := (env.map fun p => lk env p.1) ++ ex } { tmps := (ps.zip xs).foldl (fun t (p, v) => t.setIfInBounds p v) a.tmps, defers := [] } w A τ := by
    refine ⟨⟨rfl, rfl, rfl, Nat.le_refl _, fun _ _ _ => rfl⟩, fun _ hb => hb, fun _ hb => .inl hb, hA, by rw [hput.2]; exact hnt, hput.1, fun t => ?_, hs, he, trivial⟩
    exact (ho t).monoM fun b hm hb _ => .inr ⟨t, hm, hb⟩
  let G2 : Ground := { G with w0 := G.w0.putObj l (.loop { R with state := .busy }) }
  have hr := round (F.inRound l) n G G2 ((env.map fun p => lk env p.1) ++ ex) hF' rfl rfl rfl rfl (fun d hd => by
    rw [List.all_eq_true]; intro v hv; simp [hfr d hd v hv])
  have ht : ({ tmps := (R.params.zip ⟨xs⟩).foldl (fun tmps (t, a) => tmps.setIfInBounds t a) R.tmps, defers := [] } : Act) = { tmps := (ps.zip xs).foldl (fun t (p, v) => t.setIfInBounds p v) a.tmps, defers := [] } := by
    rw [show R.params = pa from by rw [← hRd], show R.tmps = a.tmps from by rw [← hRd], htm]
  rw [ht]
  have notA : ∀ {G : Ground} {s : AS} {a : Act} {w : World} {A1 : Nat → Prop} {τ1 : Tau}, SimAt G s a w A1 τ1 → l < G.N → ¬ G.ow l → ¬ G.A0 l → ¬ A1 l := by
    intro G s a w A1 τ1 hs h1 h2 h3 h
    rcases hs.a1 l h with h4 | h4 | h4
    · exact h3 h4
    · omega
    · exact h2 h4
  refine wpIn_mono (hr.of cx hcx hokx _ _ ⟨A, τ, hs0⟩) ?_
  rintro e a1 w1 ⟨s1, ⟨rfl, hbody⟩, A1, τ1, hs1⟩
  have hl1 : w1.heap[l]? = some (.loop R) := (hs1.below.block l hlN hno).trans hl
  have hA1 := notA hs1 hlN hno hAl
  refine ⟨_, run_beginRound hl1 hRs, ?_⟩
  have hs2 := hs1.reput (R' := { R with state := .busy }) hlN hno hA1 hl1
  refine wpIn_mono (hbody.of cy hcy hoky _ _ ⟨A1, τ1, hs2⟩) ?_
  rintro e a3 w3 ⟨s3, ⟨rfl, hsto, hex3⟩, A3, τ3, hs3⟩
  have hN2 : G2.N = G.N := by simp [G2, Ground.N, World.putObj]
  have hl2 : G2.w0.heap[l]? = some (.loop { R with state := .busy }) := World.putObj_heap_same hlN
  have hl3 : w3.heap[l]? = some (.loop { R with state := .busy }) := (hs3.below.block l (by rw [hN2]; exact hlN) hno).trans hl2
  have hA3 := notA hs3 (by rw [hN2]; exact hlN) hno hAl
  have hs4 := hs3.reput (R' := R) (by rw [hN2]; exact hlN) hno hA3 hl3
  have hend := run_endRound (P := P) none hl3
  have hRR : ({ ({ R with state := .busy } : Loop) with state := if (none : Option Code).isNone then .ready else .done, pending := none } : Loop) = R := by
    cases R; simp only at hRs hRp; subst hRs hRp; rfl
  rw [hRR] at hend
  refine ⟨_, _, hend, .bool true, A3, τ3, rfl, ?_, fun t => ?_, ?_, .v1 (.one (.c0 (.p _ _ (.bool true)))), ?_⟩
  · have hsz : w.heap.size ≤ (w3.putObj l (.loop R)).heap.size := by
      have := hs4.below.size
      simpa [Ground.N, G2, G, World.putObj] using this
    refine ⟨hs4.below.os, hs4.below.tape, hs4.below.output, hsz, fun k hk hn => ?_, hs3.a0, fun b hb => ?_, hs4.alt⟩
    · have := hs4.below.block k (by simpa [Ground.N, G2, G, World.putObj] using hk) hn
      rw [this]
      show ((w.putObj l (.loop { R with state := .busy })).putObj l (.loop R)).heap[k]? = w.heap[k]?
      by_cases hkl : k = l
      · rw [hkl, World.putObj_heap_same (by simpa [World.putObj, Ground.N, G] using hlN), hl]
      · rw [World.putObj_heap_other hkl, World.putObj_heap_other hkl]
    · rcases hs3.a1 b hb with h | h | h
      · exact .inl h
      · rw [hN2] at h; exact .inr (.inr h)
      · exact .inr (.inl h)
  · have hobj := hs4.obj t
    rcases lo_of_mem hsto t with e1 | e1
    · rw [e1]
      refine hobj.monoM fun b _ _ hb => hb.imp (fun h => ?_) id
      simpa [Ground.N, G2, G, World.putObj] using h
    · rw [e1]; trivial
  · intro t t' b n1 n2 hne hmu hb
    rcases lo_of_mem hsto t with e1 | e1
    · rcases lo_of_mem hsto t' with e2 | e2
      · rw [e1] at n1 hmu; rw [e2] at n2
        exact hs4.sep t t' b n1 n2 hne hmu hb
      · exact absurd e2 n2
    · exact absurd e1 n1
  · have := hs4.ex
    rw [hex3] at this
    exact this
theorem T_range {f : Opd} {ps : List Nat} {x y : ACode} {id : FuncId} {caps : List PV} {xs : List (List DV)} (hf : get s.env f = .one (.p (.fn id [] caps))) (hseq : SeqC G.P id caps xs) (σ : Nat → Sto) (fr : List Nat)
    (hps : ps.all (· < G.nt) = true) (hlen : ∀ x ∈ xs, x.length = ps.length) (h0 : ∀ t, lo (σ 0) t = lo s.σ t ∨ lo (σ 0) t = .none) (fam : Fam σ fr) (hk : ∀ t, lo (σ 0) t ≠ .none → t ∈ (σ xs.length).map (·.1)) (hfr : ∀ d ∈ fr, FrOk s (σ xs.length) d)
    (round : ∀ k v, xs[k]? = some v → ∀ (F : Fence) (n : Nat) (G' G'' : Ground) (ex : List AV), FOk F → G'.P = G.P → G'.nt = G.nt → G''.P = G.P → G''.nt = G.nt → (∀ d ∈ fr, ex.all (fun v => !v.has d) = true) →
      T G' F n x (AsgEnd fun s1 => T G'' F n y (RoundEnd (σ (k + 1)) ex) s1) { env := putE ps (v.map DV.av) s.env, σ := σ k, ex := ex })
    (done : Q .normal { s with σ := σ xs.length ++ s.σ }) : T G Fence.wide n (.range f ps x y) Q s := by
  refine ⟨fun code hc => ?_⟩
  intro hok a w hs
  obtain ⟨fo, pa, cx, cy, rfl, hfo, hpa, hcx, hcy⟩ := inv_range hc
  simp only [ACode.ok, Bool.and_eq_true] at hok
  obtain ⟨A, τ, hs⟩ := hs
  have hfv := opd_sound hs hfo
  rw [hf] at hfv
  have hfv := p_inv hfv
  generalize hz : a.eval fo = z at hfv
  cases hfv with
  | fn _ _ _ vf vc hp1 hp2 =>
  cases hp1
  refine wpIn_rangeFunc fun fn _ => ?_
  obtain ⟨R, hR⟩ : ∃ R : Loop, R = { state := .ready, pending := none, fn := fn, tmps := a.tmps, params := pa, assign := cx, body := cy, defers := w.heap.size } := ⟨_, rfl⟩
  obtain ⟨w1, hw1⟩ : ∃ w1, w1 = (w.alloc (.deferred (some []))).alloc (.loop R) := ⟨_, rfl⟩
  have ws : WStep (fun _ => False) w w1 := by
    rw [hw1]
    exact ((WStep.push w _).trans (WStep.push _ _)).weak fun _ h => h.elim (fun h => h) (fun h => h)
  have hs1 : SimAt G s a w1 A τ := hs.world ws (fun _ hb => hb) (fun _ hb => .inl hb) (fun _ hf => hf.elim) (fun _ _ _ _ hf => hf) ws.dfr0
  have hl : w1.heap[w.heap.size + 1]? = some (.loop R) := by
    rw [hw1]; have := World.alloc_heap_new (w.alloc (.deferred (some []))) (.loop R); rwa [World.size_alloc] at this
  have hD : w1.heap[w.heap.size]? = some (.deferred (some [])) := by
    rw [hw1]; exact (Below.heap_alloc _ _ _ (by simp)).trans (World.alloc_heap_new w _)
  have hAl : ¬ A (w.heap.size + 1) := fun h => by have := hs.alt _ h; omega
  have hAD : ¬ A w.heap.size := fun h => by have := hs.alt _ h; omega
  have hrun := callC_run (C := fun R' => Calls G.P id ⟨Value.func (.yield (w.heap.size + 1)) #[] #[] :: vc⟩ w1 R') (r := .top) (fr := fr) (σ0 := σ 0) (σ1 := σ xs.length) (fun h k => h.mono k)
    (fun ex exs h1 h2 h3 h4 => by
      have r1 : All2 (VRel A τ w1) (s.env.map fun p => lk s.env p.1) (s.env.map fun p => a.tmps.getD p.1 undef) := All2.map fun p _ => hs1.env p.1
      have := hseq.calls R (w.heap.size + 1) σ fr _ _ (fun k v hv => by
          rw [hR]
          exact yield_of (a := a) (fn := fn) (cx := cx) (cy := cy) (D := w.heap.size) hpa hps (by simpa using hlen v (List.mem_of_getElem? hv)) hcx hcy hok.1 hok.2 hs.size (round k v hv)) fam
        A τ w1 vc (s.ex ++ ex) (G.exv ++ exs) hs1.alt (hp2.mono (fun _ hb => hb) (ws.still hs.alt fun _ _ h => h)) (r1.append h1) (fun d hd v hv => by
          rcases List.mem_append.1 hv with hv | hv
          · obtain ⟨p, _, rfl⟩ := List.mem_map.1 hv
            exact (hfr d hd).env p.1
          · exact h2 d hd v hv) h3 h4 hl hAl
      refine this.mono ?_
      rintro e w' ⟨x, A', τ', rfl, q1, q2, q3, q4⟩
      exact ⟨x, A', τ', rfl, q1, q2, q3, .v1 (.top _), (q4.split2 r1).2⟩)
    hs1 h0 hk hfr
  refine ⟨w.heap.size + 1, [{ target := .collected w.heap.size, args := #[] }], w1, { target := .fn (.func id) ⟨vc⟩, args := #[.func (.yield (w.heap.size + 1)) #[] #[]] }, w1, id,
    ⟨Value.func (.yield (w.heap.size + 1)) #[] #[] :: vc⟩, w1, ?_, ?_, ?_, ?_, (fun h => by cases h), ?_⟩
  · rw [hw1, hR]; exact run_enterLoop_outer _ _ _ _ _
  · simp only [resolve, hz]
    simp [go_sem]
  · intro f' hf'; trivial
  · simp only [invoke, hseq.enters]
    congr 2
    apply Array.ext'; simp
  · refine callsIn_wide.2 (hrun.mono ?_)
    rintro e w2 ⟨v, A2, τ2, rfl, fr2, hs2, _⟩
    have hob : ∀ t, ORel (fun _ => True) A τ w1 t (lo (σ 0) t) := fun t => by
      rcases h0 t with h | h
      · rw [h]; exact (hs1.obj t).monoM fun _ _ _ _ => trivial
      · rw [h]; trivial
    have hol : ¬ owOf (σ 0) τ (w.heap.size + 1) := ow_not hob hl (fun _ _ h => by cases h) (fun _ _ h => by cases h)
    have hoD : ¬ owOf (σ 0) τ w.heap.size := ow_not hob hD (fun _ _ h => by cases h) (fun _ _ h => by cases h)
    have hl2 : w2.heap[w.heap.size + 1]? = some (.loop R) := (fr2.block _ (heap_lt hl) hol).trans hl
    have hD2 : w2.heap[w.heap.size]? = some (.deferred (some [])) := (fr2.block _ (heap_lt hD) hoD).trans hD
    have hA2l : ¬ A2 (w.heap.size + 1) := fun h => by
      rcases fr2.new _ h with h | h | h
      · exact hAl h
      · exact hol h
      · have := heap_lt hl; omega
    have hA2D : ¬ A2 w.heap.size := fun h => by
      rcases fr2.new _ h with h | h | h
      · exact hAD h
      · exact hoD h
      · have := heap_lt hD; omega
    have hN : G.N ≤ w.heap.size := hs.below.size
    have hend := run_endLoop (P := G.P) hl2 (by rw [hR]; simp)
    have hpend : R.pending = none := by rw [hR]
    refine ⟨none, _, hend.trans (congrArg (fun j => Result.ok j _) hpend), _, done, A2, τ2, ?_⟩
    have hs3 := hs2.world (WStep.loop (R' := { R with state := .exhausted }) hl2) (fun _ hb => hb) (fun _ hb => .inl hb) (fun b hb => by subst hb; exact ⟨hA2l, .inl (by omega)⟩) (fun t b hne hb e => by
      subst e
      rcases obj_not (hs2.obj t) hne hb hl2 with ⟨_, _, h⟩ | ⟨_, _, h⟩ <;> cases h) (KeepD.loop hl2)
    refine ⟨hs3.below, hs3.a0, hs3.a1, hs3.alt, hs3.size, hs3.env, hs3.obj, hs3.sep, hs3.ex, ?_⟩
    show Marks G.N A2 _ ({ target := .collected w.heap.size, args := #[] } :: a.defers)
    refine ⟨⟨w.heap.size, rfl, hN, hA2D, ?_, fun hm => ?_⟩, hs3.marks⟩
    · rw [World.putObj_heap_other (by omega)]; exact hD2
    · have key : ∀ {ds : List Deferred}, Marks G.N A w ds → ({ target := .collected w.heap.size, args := #[] } : Deferred) ∉ ds := by
        intro ds
        induction ds with
        | nil => intro _ h; cases h
        | cons d ds ih =>
          rintro ⟨⟨r, rfl, _, _, h4, _⟩, ht⟩ h
          rcases List.mem_cons.1 h with h | h
          · simp at h
            have := heap_lt h4; omega
          · exact ih ht h
      exact key hs.marks hm
theorem yStep {f : Opd} {az : List Opd} {R : Loop} {l : Nat} {σ : Nat → Sto} {fr : List Nat} {k : Nat} {vs : List AV} {env : Env} {ex : List AV} (fam : Fam σ fr) (hr : G.w0.heap[l]? = some (.loop R)) (hno : ¬ G.ow l) (hA : ¬ G.A0 l)
    (hy : YieldC G.P R l vs (σ k) (σ (k + 1)) fr ex G.exv) (hex : ∀ d ∈ fr, ∀ v ∈ ex, v.has d = false) (hg : get env f = .one (.raw (.func (.yield l) #[] #[]))) (hv : gets env az = vs) (henv : ∀ d i, (lk env i).has d = false) :
    YStep G f az { env := env, σ := σ k, ex := ex } (σ (k + 1)) R l (σ k) fr :=
  ⟨hg, hr, hno, hA, fun _ => .inl rfl, fam.keys k, fun d hd => ⟨henv d, hex d hd, fun t ht => fam.obj k t d hd ht, fam.out k d hd⟩, by rw [hv]; exact hy⟩
theorem Weak.drop {σ1 : Sto} {e : Env} {σ : Sto} {ex : List AV} : Weak G { env := e, σ := σ1 ++ σ, ex := ex } { env := e, σ := σ1, ex := ex } :=
  Weak.sto (s := { env := e, σ := σ1 ++ σ, ex := ex }) fun t => by
    rw [lo_app]
    split
    · exact .inl rfl
    · rename_i h; exact .inr (lo_none h)
theorem seqC_of {P : Program} {f : FuncId} {fn : Func} {c : Code} {ac : ACode} {caps : List PV} {xs : List (List DV)}
    (henter : ∀ args w, (callFunc f args).run P w = .ok (.enter f args) w) (hf : P.funcs[f]? = some fn) (hb : fn.body = some c) (hc : compC P c = some ac.erase) (hok : ac.ok fn.ntmps = true)
    (hr : compRV P fn.results.toList = some []) (hn : caps.length + 1 ≤ fn.ntmps)
    (h : ∀ (R : Loop) (l : Nat) (σ : Nat → Sto) (fr : List Nat) (G : Ground) (ex : List AV), G.P = P → G.nt = fn.ntmps → G.w0.heap[l]? = some (.loop R) → ¬ G.ow l → ¬ G.A0 l → Fam σ fr → (∀ d ∈ fr, ∀ v ∈ ex, v.has d = false) →
      (∀ k x, xs[k]? = some x → YieldC G.P R l (x.map DV.av) (σ k) (σ (k + 1)) fr ex G.exv) →
      T G Fence.wide 0 ac (fun e s => (e = .normal ∨ e = .ret) ∧ s.σ = σ xs.length ∧ s.ex = ex) { env := initV 0 (.one (.raw (.func (.yield l) #[] #[])) :: caps.map fun v => .one (.p v)), σ := σ 0, ex := ex }) : SeqC P f caps xs := by
  refine ⟨henter, fun R l σ fr cA cV hy fam A τ w vb ex exs hA hcaps hex hfr hob hsp hl hAl => ?_⟩
  have hvs : All2 (VRel A τ w) (.one (.raw (.func (.yield l) #[] #[])) :: caps.map fun v => .one (.p v)) (.func (.yield l) #[] #[] :: vb) :=
    .cons (.v1 (.one (.c0 (.raw _ rfl)))) ((PRels.all2.1 hcaps).mapL fun v x hr => .v1 (.one (.c0 (.p _ _ hr))))
  have hrun := mutW_of (r := .tup []) (σ' := σ xs.length) hf hb hc hok hr (by simpa using hn) hA hvs hex hob hsp (T_mono
    (h R l σ fr _ (cA ++ ex) rfl rfl hl (ow_not hob hl (fun _ _ h => by cases h) (fun _ _ h => by cases h)) hAl fam hfr (fun k x hx => (hy k x hx).more ex exs)) fun e s' ⟨h1, h2, h3⟩ =>
      ⟨h1, [], rfl, rfl, rfl, fun p hp => by rw [h2]; exact fam.once _ p hp, h3⟩)
  refine hrun.mono ?_
  rintro e w' ⟨x, A', τ', rfl, q1, q2, q3, _, q5⟩
  exact ⟨x, A', τ', rfl, q1, q2, q3, q5⟩
end
def AS.keepE (k : List Nat) (s : AS) : AS := { s with env := k.map fun i => (i, lk s.env i) }
section
variable {G : Ground} {F : Fence} {n : Nat} {Q : Exit → AS → Prop} {s : AS}
theorem keepE_weak (G : Ground) (k : List Nat) (s : AS) : Weak G s (s.keepE k) := by
  refine Weak.env fun i => ?_
  induction k with
  | nil => exact .inr rfl
  | cons j k ih =>
    simp only [List.map_cons, lk_put]
    by_cases h : i = j
    · left; rw [if_pos h, h]
    · rw [if_neg h]; exact ih
theorem T_regE (hF : FOk F) {t : TOps} {kp ids : List Nat} {S : AS} (h : Run G.P t (fun s' => s'.keepE kp = S) s) (k : Q .normal S) : T G F n (.region none t kp ids) Q s := by
  refine ⟨fun code hc => ?_⟩
  intro hok a w hs
  obtain ⟨id, ops, l, rfl, hz, hfl⟩ := inv_region hc
  have hl := flatT_inj hfl
  subst hl
  simp only [ACode.ok, Bool.and_eq_true] at hok
  obtain ⟨s', hst, hq⟩ := run_sound (G := G) hok.1 hok.2 h
  refine wpIn_region ?_
  have := steps_ops (F := F) (n := n) (Q := fun e a w => ∃ s', Q e s' ∧ SimS G s' a w) hF hst 0 ops.toList hz (fun i o hi => by simpa using hi) (fun a w hs' => ⟨S, k, by rw [← hq]; exact keepE_weak G kp s' a w hs'⟩) a w hs
  rw [compR_len hz] at this
  simpa [List.range_eq_range'] using this
theorem T_srE (hF : FOk F) {t : TOps} {kp ids : List Nat} {S : AS} {b : ACode} (h : Run G.P t (fun s' => s'.keepE kp = S) s) (k : T G F n b Q S) : T G F n (.seq (.region none t kp ids) b) Q s :=
  T_seq (T_regE hF h ⟨k⟩)
end
theorem lk_has {d : Nat} {e : Env} (h : e.all (fun p => !p.2.has d) = true) (i : Nat) : (lk e i).has d = false := by
  induction e with
  | nil => rfl
  | cons p e ih =>
    obtain ⟨j, v⟩ := p
    simp only [List.all_cons, Bool.and_eq_true, Bool.not_eq_true'] at h
    simp only [lk]
    split
    · exact h.1
    · exact ih (by simpa using h.2)
theorem Weak.pick {G : Ground} {s : AS} (k : List Nat) : Weak G s { s with env := k.map fun i => (i, lk s.env i) } := keepE_weak G k s
theorem Weak.nilC {G : Ground} {s : AS} (o d i k : Nat) {cs : List AC} (ho : lo s.σ o = .cells true cs) (hi : cs[i]? = some .nils) (hd : s.nr d = true) (hn : lo s.σ d = .none) :
    Weak G s { s with σ := (o, .cells true (cs.set i (.msl d 0 k 0 none))) :: (d, .arr true k []) :: s.σ } := by
  rintro a w ⟨A, τ, hs⟩
  have h1 := hs.newNone (AS.nr_Nr hd) hn true k
  have hod : o ≠ d := fun e => by rw [e, hn] at ho; cases ho
  have hlo : lo ((d, .arr true k []) :: s.σ) o = .cells true cs := by rw [lo_put, if_neg hod]; exact ho
  refine ⟨A, _, h1.below, h1.a0, h1.a1, h1.alt, h1.size, h1.env, fun t => ?_, fun t t' b n1 n2 hne hmu hb => ?_, h1.ex, h1.marks⟩
  · rw [lo_put]
    by_cases ht : t = o
    · subst ht
      rw [if_pos rfl]
      have := h1.obj t
      simp only [hlo] at this
      obtain ⟨b, xs, e, q1, q2, q3, q4⟩ := this
      refine ⟨b, xs, e, q1, q2, All2.of_get (by rw [List.length_set]; exact q3.length) fun j c x hc hx => ?_, q4⟩
      by_cases hj : j = i
      · subst hj
        rw [List.getElem?_set_self (by have := (List.getElem?_eq_some_iff.1 hi).1; exact this)] at hc
        cases hc
        obtain ⟨y, hy, hr⟩ := q3.get j _ hi
        rw [hy] at hx; cases hx
        cases hr with | c0 hr => cases hr with
          | nils => exact .c0 (.mslN d 0 k none none (if_pos rfl) (fun n hn => by cases hn))
      · rw [List.getElem?_set_ne (Ne.symm hj)] at hc
        obtain ⟨y, hy, hr⟩ := q3.get j _ hc
        rw [hy] at hx; cases hx
        exact hr
    · rw [if_neg ht]; exact h1.obj t
  · have key : ∀ t, lo ((o, .cells true (cs.set i (.msl d 0 k 0 none))) :: (d, .arr true k []) :: s.σ) t ≠ .none → lo ((d, .arr true k []) :: s.σ) t ≠ .none := by
      intro t h
      rw [lo_put] at h
      split at h
      · rename_i e; subst e; rw [hlo]; simp
      · exact h
    refine h1.sep t t' b (key t n1) (key t' n2) hne ?_ hb
    rw [lo_put] at hmu
    split at hmu
    · rename_i e; subst e; rw [hlo]; rfl
    · exact hmu
theorem FrOk.of {s : AS} {σ1 : Sto} {d : Nat} (ks : List Nat) (hks : σ1.map (·.1) = ks) (he : s.env.all (fun p => !p.2.has d) = true) (hx : s.ex.all (fun v => !v.has d) = true) (hk : s.σ.all (fun p => ks.contains p.1) = true)
    (ho : lo s.σ d = .none ∨ ks.contains d = true) : FrOk s σ1 d := by
  refine ⟨lk_has he, fun v hv => by simpa using (List.all_eq_true.1 hx) v hv, fun t ht => ?_, ?_⟩
  · have : lo s.σ t = .none := lo_none fun hc => by
      obtain ⟨p, hp, rfl⟩ := List.mem_map.1 hc
      have := (List.all_eq_true.1 hk) p hp
      rw [hks] at ht
      exact ht (by simpa using this)
    rw [this]; rfl
  · rw [hks]
    exact ho.imp id fun h => by simpa using h
theorem ends_agg2 {rv : List RV} {s : AS} {t k len : Nat} {cap : Option Nat} {m : Bool} {rows : List (List PV)} {a v : PV} (h1 : evRV rv s.env s.σ = some [.agg [.p a, .msl t 0 k len cap], .one (.p v)]) (h2 : lo s.σ t = .arr m k rows) (hl : len = rows.length) :
    Ends rv (.tup [.agg [a, .sl rows], .one v]) .ret s :=
  ends_ret (ds := [.agg [a, .sl rows], .one v]) (σ' := if m then (t, .arr false k rows) :: s.σ else s.σ) h1 (by
    have h3 : foldP (toP 6) [.p a, .msl t 0 k len cap] s.σ = some ([a, .sl rows], if m then (t, .arr false k rows) :: s.σ else s.σ) := by
      have := toD_list (n := 5) (cap := cap) h2 hl
      simp only [foldP]
      rw [show toP 6 (AC.p a) s.σ = some (a, s.σ) from rfl]
      simp only [this]
    simp only [toDs, toD, h3]; rfl) rfl rfl
end Go.AM

