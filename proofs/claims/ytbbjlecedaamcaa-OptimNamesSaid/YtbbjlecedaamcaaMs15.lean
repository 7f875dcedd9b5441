import Derived.Test.YtbbjlecedaamcaaMs14
import Derived.Test.YtbbjlecedaamcaaProg
import Derived.KernelRfl
set_option linter.unusedVariables false
set_option linter.unusedSimpArgs false
namespace Go.AM
open Go Go.Proofs
set_option maxRecDepth 100000
def a_elem_kinds : ACode := (sr [] [] (qq 0 (.mov (.c (.one (.raw (.map none)))))<|.nil)<|
(sr [1] [] (qq 1 (.mov (.c (.one (.p (.fn fi_elem_kinds_1 [] [])))))<|.nil)<|
(sr [0] [2] (nn 2 .mkM<|qq 3 (.build [(.p .nilF),(.p .nilF)] [(1, 1, (.c (.one (.p (.fn fi_fix_Add [] [])))))])<|ss (.mput (.t 2) (ic 10) (.t 3))<|qq 4 (.build [(.p .nilF),(.p .nilF)] [(1, 1, (.c (.one (.p (.fn fi_fix_Sub [] [])))))])<|ss (.mput (.t 2) (ic 11) (.t 4))<|qq 5 (.build [(.p .nilF),(.p .nilF)] [(1, 1, (.c (.one (.p (.fn fi_fix_Mul [] [])))))])<|ss (.mput (.t 2) (ic 12) (.t 5))<|qq 6 (.build [(.p .nilF),(.p .nilF)] [(1, 1, (.c (.one (.p (.fn fi_fix_Div [] [])))))])<|ss (.mput (.t 2) (ic 13) (.t 6))<|qq 7 (.build [(.p .nilF),(.p .nilF)] [(0, 1, (.c (.one (.p (.fn fi_fix_Neg [] [])))))])<|ss (.mput (.t 2) (ic 20) (.t 7))<|mv 8 1<|qq 9 (.build [(.p .nilF),(.p .nilF)] [(0, 1, (.t 8))])<|ss (.mput (.t 2) (ic 21) (.t 9))<|qq 10 (.build [(.p .nilF),(.p .nilF)] [(0, 1, (.c (.one (.p (.fn fi_fix_Pow [] [])))))])<|ss (.mput (.t 2) (ic 22) (.t 10))<|qq 11 (.build [(.p .nilF),(.p .nilF)] [(0, 1, (.c (.one (.p (.fn fi_fix_Sqrt [] [])))))])<|ss (.mput (.t 2) (ic 23) (.t 11))<|mv 12 2<|mv 0 12<|.nil)<|
.ret)))
theorem pure_elem_kinds : PureT Try.prog fi_elem_kinds 13 a_elem_kinds [.tmp 0] := pureT_of Try.call23 Try.func23
def a_shape_Join : ACode := (sr [0,1] [] (qq 4 (.mov (.c (.one .nils)))<|mc 5 0<|.nil)<|
(ib [0,1,17] [] (mv 10 0<|cl 11 28 [10]<|qq 12 (.un .not (.t 11))<|mv 13 12<|.sc 17 13 false 16 none (.op (some 14) (some (13, false)) (.q (.mov (.t 1)))<|.op (some 15) (some (13, false)) (.call (.c (.one (.p (.fn fi_shape_Check [] [])))) [(.t 14)])<|.op (some 16) (some (13, false)) (.q (.un .not (.t 15)))<|.nil)<|.nil) 17 (sr [4,5] [] (qq 4 (.mov (.c (.one .nils)))<|mc 5 20<|.nil)<|
.ret)<|
(sr [0,1,6] [23] (mv 18 0<|le 19 18<|mv 20 1<|le 21 20<|qq 22 (.mm true (.t 19) (.t 21))<|nn 23 (.mkS 1 8 [(.int .i64 0)] (.t 22) (.t 22))<|mv 6 23<|.nil)<|
(.seq (sr [0,1,6,25,26] [23] (mv 24 6<|le 25 24<|mc 26 0<|.nil)<|
(.block 0 (.loop (sr [0,1,6,25,26,27] [23] (bt 27 .lss 26 25<|.nil)<|
(.seq (cd 27 .skip (.exit 0))<|
(.seq (.block 1 (sr [0,1,6,7,25,26] [23] (mv 28 26<|mv 7 28<|.nil)<|
(sr [0,1,6,7,8,9,25,26] [23] (mv 29 0<|mv 30 7<|cl 31 38 [29,30]<|mv 32 1<|mv 33 7<|cl 34 38 [32,33]<|mv 8 31<|mv 9 34<|.nil)<|
(ib [0,1,6,7,8,9,25,26,45] [23] (mv 35 8<|mv 36 9<|bt 37 .neq 35 36<|mv 38 37<|.sc 41 38 true 40 none (.op (some 39) (some (38, true)) (.q (.mov (.t 8)))<|.op (some 40) (some (38, true)) (.q (.bin .neq (.t 39) (ic 1)))<|.nil)<|mv 42 41<|.sc 45 42 true 44 none (.op (some 43) (some (42, true)) (.q (.mov (.t 9)))<|.op (some 44) (some (42, true)) (.q (.bin .neq (.t 43) (ic 1)))<|.nil)<|.nil) 45 (sr [4,5] [23] (qq 4 (.mov (.c (.one .nils)))<|mc 5 20<|.nil)<|
.ret)<|
(rg [0,1,6,25,26] [23]<|mv 46 6<|mv 47 6<|le 48 47<|bc 49 .sub 48 1<|mv 50 7<|bt 51 .sub 49 50<|mv 52 8<|mv 53 9<|qq 54 (.mm true (.t 52) (.t 53))<|ia 55 1 46 51<|st 1 55 54<|.nil)))))<|
(rg [0,1,6,25,26] [23]<|bc 56 .add 26 1<|mv 26 56<|.nil)))))))<|
(ib [6,59] [23] (mv 57 6<|cl 58 28 [57]<|qq 59 (.un .not (.t 58))<|.nil) 59 (sr [4,5] [23] (qq 4 (.mov (.c (.one .nils)))<|mc 5 20<|.nil)<|
.ret)<|
(sr [4,5] [23] (mv 60 6<|mv 4 60<|mc 5 0<|.nil)<|
.ret))))))
theorem pure_shape_Join : PureT Try.prog fi_shape_Join 61 a_shape_Join [.tmp 4,.tmp 5] := pureT_of Try.call24 Try.func24
def a_tensor_Spread : ACode := (sr [1,2,4] [2,4] (nn 2 (.box 2 (.t 0))<|al 4 [.nils,.nils]<|mc 5 0<|.nil)<|
(.seq (.block 0 (sr [1,2,4,10] [2,4] (ld 11 2 true 2<|cl 12 21 [11]<|qq 13 (.un .not (.t 12))<|mv 10 13<|.nil)<|
(cd 10 (sr [4,5] [2,4] (qq 14 (.build [.nils,.nils] [])<|st 2 4 14<|mc 5 30<|.nil)<|
.ret) (sr [1,2,4,15] [2,4] (fa 16 0 2<|ld 17 1 false 16<|mv 18 1<|cl 19 39 [17,18]<|qq 20 (.un .not (.t 19))<|mv 15 20<|.nil)<|
(cd 15 (sr [4,5] [2,4] (qq 21 (.build [.nils,.nils] [])<|st 2 4 21<|mc 5 20<|.nil)<|
.ret) .skip)))))<|
(sr [1,2,4,6] [2,4,6] (mv 23 1<|.op (some 24) none (.call (.c (.one (.p (.fn fi_tensor_Full [] [])))) [(.t 23),(ic 0)])<|mv 22 24<|xt 25 22 0<|xt 26 22 1<|al 6 [.nils,.nils]<|st 2 6 25<|mv 7 26<|.nil)<|
(.seq (sr [2,4,6,30] [2,4,6] (fa 27 0 2<|ld 28 1 false 27<|mv 29 1<|cl 30 41 [28,29]<|.nil)<|
(.block 1 (.range (.t 30) [31, 32] (sr [2,4,6,8,30,32] [2,4,6] (mv 8 31<|.nil)<|
(rg [2,4,6,8,9,30] [2,4,6]<|mv 9 32<|.nil))
 (.block 2 (.region (some [[], [], [0, 1], [0, 1, 2], [0, 1, 2], [0, 1, 2, 3, 4], [0, 1, 2], [0, 1, 2], [], []]) (fa 33 1 6<|ld 34 1 false 33<|mv 35 8<|fa 36 1 2<|ld 37 1 false 36<|mv 38 9<|ia 39 1 37 38<|ld 40 1 false 39<|ia 41 1 34 35<|st 1 41 40<|.nil) [2,4,6,30] [2,4,6])))))<|
(sr [4,5] [2,4,6] (ld 42 2 true 6<|st 2 4 42<|mc 5 0<|.nil)<|
.ret)))))
theorem pure_tensor_Spread : PureT Try.prog fi_tensor_Spread 43 a_tensor_Spread [.cell 2 true 4,.tmp 5] := pureT_of Try.call25 Try.func25
def a_elem_each : ACode := (sr [0,1,4] [4] (al 4 [.nils,.nils]<|mc 5 0<|.nil)<|
(sr [0,1,4,6] [4,6] (mv 10 0<|cl 11 16 [10]<|qq 12 (.build [.nils,.nils] [(0, 1, (.t 11))])<|al 6 [.nils,.nils]<|st 2 6 12<|.nil)<|
(.seq (sr [1,4,6,14,15] [4,6] (mv 13 0<|cl 14 29 [13]<|mc 15 0<|.nil)<|
(.block 0 (.loop (sr [1,4,6,14,15,16] [4,6] (bt 16 .lss 15 14<|.nil)<|
(.seq (cd 16 .skip (.exit 0))<|
(.seq (.block 1 (sr [1,4,6,7,14,15] [4,6] (mv 17 15<|mv 7 17<|.nil)<|
(sr [1,4,6,8,9,14,15] [4,6] (mv 19 1<|mv 20 7<|.op (some 21) none (.call (.t 19) [(.t 20)])<|mv 18 21<|xt 22 18 0<|xt 23 18 1<|mv 8 22<|mv 9 23<|.nil)<|
(ib [1,4,6,8,9,14,15,25] [4,6] (mv 24 9<|bc 25 .neq 24 0<|.nil) 25 (sr [4,5] [4,6] (qq 26 (.build [.nils,.nils] [])<|mv 27 9<|st 2 4 26<|mv 5 27<|.nil)<|
.ret)<|
(rg [1,4,6,14,15] [4,6,31,32]<|fa 28 1 6<|ld 29 1 false 28<|mv 30 8<|nn 31 (.lit 1 1 [(.int .i64 0)] [(0, (.t 30))])<|sd 32 (.app 1 8 (.t 29) (.t 31))<|fa 33 1 6<|st 1 33 32<|.nil)))))<|
(rg [1,4,6,14,15] [4,6,31,32]<|bc 34 .add 15 1<|mv 15 34<|.nil)))))))<|
(sr [4,5] [4,6,31,32] (ld 35 2 true 6<|st 2 4 35<|mc 5 0<|.nil)<|
.ret))))
theorem pure_elem_each : PureT Try.prog fi_elem_each 36 a_elem_each [.cell 2 true 4,.tmp 5] := pureT_of Try.call26 Try.func26
def a_elem_Two_1 : ACode := (sr [0,1,2,3] [] (mc 5 0<|mc 6 0<|.nil)<|
(.seq (.region (some [[], [], [0, 1], [0, 1], [0, 1, 2, 3], [0, 1], [0, 1], [0, 1, 2, 3, 4, 5, 6], [0, 1, 2, 3, 4, 5, 6], [0, 1, 2, 3, 4, 5, 6, 7, 8], [0, 1, 2, 3, 4, 5, 6], [0, 1, 2, 3, 4, 5, 6], [], [], [13], [], []]) (fa 7 1 1<|ld 8 1 false 7<|fa 9 1 2<|ld 10 1 false 9<|mv 11 0<|ia 12 1 10 11<|ld 13 1 false 12<|fa 14 1 3<|ld 15 1 false 14<|mv 16 0<|ia 17 1 15 16<|ld 18 1 false 17<|.op (some 19) none (.call (.t 8) [(.t 13),(.t 18)])<|xt 20 19 0<|xt 21 19 1<|mv 5 20<|mv 6 21<|.nil) [5,6] [])<|
.ret))
theorem pure_elem_Two_1 : PureT Try.prog fi_elem_Two_1 22 a_elem_Two_1 [.tmp 5,.tmp 6] := pureT_of Try.call27 Try.func27
def a_shape_Check : ACode := (sr [0] [] (qq 2 (.mov (.c (.one (.p (.bool false)))))<|.nil)<|
(.scope (sr [0,3] [] (mc 3 1<|.nil)<|
(ib [0,3,8] [] (mv 6 0<|le 7 6<|bc 8 .gtr 7 3<|.nil) 8 (sr [2] [] (qq 2 (.mov (.c (.one (.p (.bool false)))))<|.nil)<|
.ret)<|
(.seq (.label 0)<|
(.seq (sr [3,9,10,11] [] (mv 9 0<|le 10 9<|mc 11 0<|.nil)<|
(.block 0 (.loop (sr [3,9,10,11,12] [] (bt 12 .lss 11 10<|.nil)<|
(.seq (cd 12 .skip (.exit 0))<|
(.seq (.block 1 (sr [3,5,9,10,11] [] (ia 13 1 9 11<|ld 14 1 false 13<|mv 5 14<|.nil)<|
(ib [3,5,9,10,11,20] [] (mv 15 5<|bc 16 .lss 15 1<|mv 17 16<|.sc 20 17 false 19 none (.op (some 18) (some (17, false)) (.q (.mov (.t 5)))<|.op (some 19) (some (17, false)) (.q (.bin .gtr (.t 18) (ic 16)))<|.nil)<|.nil) 20 (sr [3] [] (mc 3 0<|.nil)<|
(.exit 0))<|
(rg [3,9,10,11] []<|mv 21 3<|mv 22 5<|bt 23 .mul 21 22<|mv 3 23<|.nil))))<|
(rg [3,9,10,11] []<|bc 24 .add 11 1<|mv 11 24<|.nil)))))))<|
(sr [2] [] (mv 25 3<|bc 26 .gtr 25 0<|mv 27 26<|.sc 30 27 true 29 none (.op (some 28) (some (27, true)) (.q (.mov (.t 3)))<|.op (some 29) (some (27, true)) (.q (.bin .leq (.t 28) (ic 64)))<|.nil)<|mv 2 30<|.nil)<|
.ret)))))))
theorem pure_shape_Check : PureT Try.prog fi_shape_Check 31 a_shape_Check [.tmp 2] := pureT_of Try.call28 Try.func28
def a_shape_Size : ACode := (sr [0] [] (mc 2 0<|.nil)<|
(ib [0,8] [] (mv 6 0<|cl 7 28 [6]<|qq 8 (.un .not (.t 7))<|.nil) 8 (sr [2] [] (mc 2 0<|.nil)<|
.ret)<|
(sr [0,3] [] (mc 3 1<|.nil)<|
(.seq (sr [3,9,10,11] [] (mv 9 0<|le 10 9<|mc 11 0<|.nil)<|
(.block 0 (.loop (sr [3,9,10,11,12] [] (bt 12 .lss 11 10<|.nil)<|
(.seq (cd 12 .skip (.exit 0))<|
(.seq (.block 1 (sr [3,5,9,10,11] [] (ia 13 1 9 11<|ld 14 1 false 13<|mv 5 14<|.nil)<|
(rg [3,9,10,11] []<|mv 15 3<|mv 16 5<|bt 17 .mul 15 16<|mv 3 17<|.nil)))<|
(rg [3,9,10,11] []<|bc 18 .add 11 1<|mv 11 18<|.nil)))))))<|
(sr [2] [] (mv 19 3<|mv 2 19<|.nil)<|
.ret)))))
theorem pure_shape_Size : PureT Try.prog fi_shape_Size 20 a_shape_Size [.tmp 2] := pureT_of Try.call29 Try.func29
def a_fix_Add : ACode := (sr [0,1] [] (mc 4 0<|mc 5 0<|.nil)<|
(sr [0,1,6] [] (mv 7 0<|mv 8 1<|bt 9 .add 7 8<|mv 6 9<|.nil)<|
(sr [4,5] [] (mv 10 6<|mv 11 0<|bc 12 .lss 11 0<|mv 13 1<|bc 14 .lss 13 0<|qq 15 (.eqB true (.t 12) (.t 14))<|mv 16 15<|.sc 22 16 false 21 none (.op (some 17) (some (16, false)) (.q (.mov (.t 6)))<|.op (some 18) (some (16, false)) (.q (.bin .lss (.t 17) (ic 0)))<|.op (some 19) (some (16, false)) (.q (.mov (.t 0)))<|.op (some 20) (some (16, false)) (.q (.bin .lss (.t 19) (ic 0)))<|.op (some 21) (some (16, false)) (.q (.eqB false (.t 18) (.t 20)))<|.nil)<|cl 23 42 [10,22]<|xt 24 23 0<|xt 25 23 1<|mv 4 24<|mv 5 25<|.nil)<|
.ret)))
theorem pure_fix_Add : PureT Try.prog fi_fix_Add 26 a_fix_Add [.tmp 4,.tmp 5] := pureT_of Try.call31 Try.func31
def a_fix_Sub : ACode := (sr [0,1] [] (mc 4 0<|mc 5 0<|.nil)<|
(sr [0,1,6] [] (mv 7 0<|mv 8 1<|bt 9 .sub 7 8<|mv 6 9<|.nil)<|
(sr [4,5] [] (mv 10 6<|mv 11 0<|bc 12 .lss 11 0<|mv 13 1<|bc 14 .lss 13 0<|qq 15 (.eqB false (.t 12) (.t 14))<|mv 16 15<|.sc 22 16 false 21 none (.op (some 17) (some (16, false)) (.q (.mov (.t 6)))<|.op (some 18) (some (16, false)) (.q (.bin .lss (.t 17) (ic 0)))<|.op (some 19) (some (16, false)) (.q (.mov (.t 0)))<|.op (some 20) (some (16, false)) (.q (.bin .lss (.t 19) (ic 0)))<|.op (some 21) (some (16, false)) (.q (.eqB false (.t 18) (.t 20)))<|.nil)<|cl 23 42 [10,22]<|xt 24 23 0<|xt 25 23 1<|mv 4 24<|mv 5 25<|.nil)<|
.ret)))
theorem pure_fix_Sub : PureT Try.prog fi_fix_Sub 26 a_fix_Sub [.tmp 4,.tmp 5] := pureT_of Try.call32 Try.func32
def a_fix_Mul : ACode := (sr [0,1] [] (mc 4 0<|mc 5 0<|.nil)<|
(sr [0,1,6,7] [] (mv 9 0<|cl 10 44 [9]<|mv 11 1<|cl 12 44 [11]<|cl 13 43 [10,12]<|mv 8 13<|xt 14 8 0<|xt 15 8 1<|mv 6 14<|mv 7 15<|.nil)<|
(sr [4,5] [] (mv 16 6<|qq 17 (.bin .shr (.t 16) (.c (.one (.p (.int .u64 32)))))<|mv 18 6<|qq 19 (.bin .shl (.t 18) (.c (.one (.p (.int .u64 32)))))<|mv 20 7<|qq 21 (.bin .shr (.t 20) (.c (.one (.p (.int .u64 32)))))<|bt 22 .or 19 21<|qq 23 (.build [(.p (.int .u64 0)),(.p (.int .u64 0))] [(0, 1, (.t 17)),(1, 1, (.t 22))])<|mv 24 7<|qq 25 (.bin .and (.t 24) (.c (.one (.p (.int .u64 4294967295)))))<|qq 26 (.bin .neq (.t 25) (.c (.one (.p (.int .u64 0)))))<|mv 27 0<|mv 28 1<|cl 29 46 [27,28]<|cl 30 45 [23,26,29]<|xt 31 30 0<|xt 32 30 1<|mv 4 31<|mv 5 32<|.nil)<|
.ret)))
theorem pure_fix_Mul : PureT Try.prog fi_fix_Mul 33 a_fix_Mul [.tmp 4,.tmp 5] := pureT_of Try.call33 Try.func33
def a_shape_side : ACode := (sr [0,1] [] (mc 4 0<|.nil)<|
(ib [0,1,8] [] (mv 5 1<|mv 6 0<|le 7 6<|bt 8 .geq 5 7<|.nil) 8 (sr [4] [] (mc 4 1<|.nil)<|
.ret)<|
(sr [4] [] (mv 9 0<|mv 10 0<|le 11 10<|bc 12 .sub 11 1<|mv 13 1<|bt 14 .sub 12 13<|ia 15 1 9 14<|ld 16 1 false 15<|mv 4 16<|.nil)<|
.ret)))
theorem pure_shape_side : PureT Try.prog fi_shape_side 17 a_shape_side [.tmp 4] := pureT_of Try.call38 Try.func38
def a_shape_Fits : ACode := (sr [0,1] [] (qq 4 (.mov (.c (.one (.p (.bool false)))))<|.nil)<|
(sr [1,5,6] [] (mv 8 0<|mv 9 1<|cl 10 24 [8,9]<|mv 7 10<|xt 11 7 0<|xt 12 7 1<|mv 5 11<|mv 6 12<|.nil)<|
(sr [4] [] (mv 13 6<|bc 14 .eql 13 0<|mv 15 14<|.sc 19 15 true 18 none (.op (some 16) (some (15, true)) (.q (.mov (.t 5)))<|.op (some 17) (some (15, true)) (.q (.mov (.t 1)))<|.op (some 18) (some (15, true)) (.call (.c (.one (.p (.fn fi_slices_Equal_int_int [] [])))) [(.t 16),(.t 17)])<|.nil)<|mv 4 19<|.nil)<|
.ret)))
theorem pure_shape_Fits : PureT Try.prog fi_shape_Fits 20 a_shape_Fits [.tmp 4] := pureT_of Try.call39 Try.func39
def a_tensor_Full : ACode := (sr [0,1,4] [4] (al 4 [.nils,.nils]<|mc 5 0<|.nil)<|
(ib [0,1,4,8] [4] (mv 6 0<|cl 7 28 [6]<|qq 8 (.un .not (.t 7))<|.nil) 8 (sr [4,5] [4] (qq 9 (.build [.nils,.nils] [])<|st 2 4 9<|mc 5 20<|.nil)<|
.ret)<|
(sr [4,5] [4,13] (mv 10 0<|cl 11 16 [10]<|mv 12 1<|nn 13 (.lit 1 1 [(.int .i64 0)] [(0, (.t 12))])<|mv 14 0<|cl 15 29 [14]<|cl 16 50 [13,15]<|qq 17 (.build [.nils,.nils] [(0, 1, (.t 11)),(1, 1, (.t 16))])<|st 2 4 17<|mc 5 0<|.nil)<|
.ret)))
theorem mut_tensor_Full : MutT Try.prog fi_tensor_Full 18 a_tensor_Full [.cell 2 true 4,.tmp 5] := mutT_of Try.call40 Try.func40
def a_tensor_from : ACode := (sr [2,3] [2,3] (nn 2 (.box 1 (.t 0))<|nn 3 (.box 1 (.t 1))<|qq 4 (.mov (.c (.one (.p .nilF))))<|.nil)<|
(sr [4] [2,3] (qq 5 (.mkF fi_tensor_from_1 [] [(.t 3),(.t 2)])<|mv 4 5<|.nil)<|
.ret))
theorem pure_tensor_from : PureT Try.prog fi_tensor_from 6 a_tensor_from [.tmp 4] := pureT_of Try.call41 Try.func41
def a_fix_told : ACode := (sr [0,1] [] (mc 4 0<|mc 5 0<|.nil)<|
(ib [0,7] [] (mv 6 1<|qq 7 (.un .not (.t 6))<|.nil) 7 (sr [4,5] [] (mc 4 0<|mc 5 10<|.nil)<|
.ret)<|
(sr [4,5] [] (mv 8 0<|mv 4 8<|mc 5 0<|.nil)<|
.ret)))
theorem pure_fix_told : PureT Try.prog fi_fix_told 9 a_fix_told [.tmp 4,.tmp 5] := pureT_of Try.call42 Try.func42
def a_math_bits_Mul64 : ACode := (sr [0,1] [] (qq 4 (.mov (.c (.one (.p (.int .u64 0)))))<|qq 5 (.mov (.c (.one (.p (.int .u64 0)))))<|.nil)<|
(sr [0,1,6] [] (mv 14 0<|qq 15 (.bin .and (.t 14) (.c (.one (.p (.int .u64 4294967295)))))<|mv 6 15<|.nil)<|
(sr [0,1,6,7] [] (mv 16 0<|qq 17 (.bin .shr (.t 16) (.c (.one (.p (.int .u64 32)))))<|mv 7 17<|.nil)<|
(sr [0,1,6,7,8] [] (mv 18 1<|qq 19 (.bin .and (.t 18) (.c (.one (.p (.int .u64 4294967295)))))<|mv 8 19<|.nil)<|
(sr [0,1,6,7,8,9] [] (mv 20 1<|qq 21 (.bin .shr (.t 20) (.c (.one (.p (.int .u64 32)))))<|mv 9 21<|.nil)<|
(sr [0,1,6,7,8,9,10] [] (mv 22 6<|mv 23 8<|bt 24 .mul 22 23<|mv 10 24<|.nil)<|
(sr [0,1,6,7,9,11] [] (mv 25 7<|mv 26 8<|bt 27 .mul 25 26<|mv 28 10<|qq 29 (.bin .shr (.t 28) (.c (.one (.p (.int .u64 32)))))<|bt 30 .add 27 29<|mv 11 30<|.nil)<|
(sr [0,1,6,7,9,11,12] [] (mv 31 11<|qq 32 (.bin .and (.t 31) (.c (.one (.p (.int .u64 4294967295)))))<|mv 12 32<|.nil)<|
(sr [0,1,6,7,9,12,13] [] (mv 33 11<|qq 34 (.bin .shr (.t 33) (.c (.one (.p (.int .u64 32)))))<|mv 13 34<|.nil)<|
(sr [0,1,7,9,12,13] [] (mv 35 12<|mv 36 6<|mv 37 9<|bt 38 .mul 36 37<|bt 39 .add 35 38<|mv 12 39<|.nil)<|
(sr [0,1,4] [] (mv 40 7<|mv 41 9<|bt 42 .mul 40 41<|mv 43 13<|bt 44 .add 42 43<|mv 45 12<|qq 46 (.bin .shr (.t 45) (.c (.one (.p (.int .u64 32)))))<|bt 47 .add 44 46<|mv 4 47<|.nil)<|
(sr [4,5] [] (mv 48 0<|mv 49 1<|bt 50 .mul 48 49<|mv 5 50<|.nil)<|
.ret))))))))))))
theorem pure_math_bits_Mul64 : PureT Try.prog fi_math_bits_Mul64 51 a_math_bits_Mul64 [.tmp 4,.tmp 5] := pureT_of Try.call43 Try.func43
def a_fix_size : ACode := (sr [0] [] (qq 2 (.mov (.c (.one (.p (.int .u64 0)))))<|.nil)<|
(ib [0,4] [] (mv 3 0<|bc 4 .lss 3 0<|.nil) 4 (sr [2] [] (mv 5 0<|qq 6 (.conv .u64 (.t 5))<|qq 7 (.un .neg (.t 6))<|mv 2 7<|.nil)<|
.ret)<|
(sr [2] [] (mv 8 0<|qq 9 (.conv .u64 (.t 8))<|mv 2 9<|.nil)<|
.ret)))
theorem pure_fix_size : PureT Try.prog fi_fix_size 10 a_fix_size [.tmp 2] := pureT_of Try.call44 Try.func44
def a_fix_wide_signed : ACode := (sr [1,2,3] [3] (nn 3 (.boxA 1 2 (.t 0))<|mc 6 0<|mc 7 0<|.nil)<|
(sr [1,2,3,8] [3] (qq 8 (.mov (.c (.one (.p (.int .u64 9223372036854775807)))))<|.nil)<|
(sr [1,2,3,8,9] [3] (qq 10 (.mkF fi_fix_wide_signed_1 [] [(.t 3)])<|mv 9 10<|.nil)<|
(ib [1,2,3,8,9,11] [3] (mv 11 2<|.nil) 11 (sr [1,2,3,8,9] [3] (mv 12 8<|qq 13 (.bin .add (.t 12) (.c (.one (.p (.int .u64 1)))))<|mv 8 13<|.nil)<|
(sr [2,3,8,9,14] [3] (mv 14 1<|.nil)<|
(cd 14 (rg [2,3,8] [3]<|mv 15 9<|.op (some 16) none (.call (.t 15) [])<|.nil) .skip)))<|
(ib [2,3,25] [3] (qq 17 (.iaddrA 2 1 (.t 3) (ic 0))<|ld 18 1 false 17<|qq 19 (.bin .gtr (.t 18) (.c (.one (.p (.int .u64 0)))))<|mv 20 19<|.sc 25 20 false 24 none (.op (some 21) (some (20, false)) (.q (.iaddrA 2 1 (.t 3) (ic 1)))<|.op (some 22) (some (20, false)) (.q (.load 1 false (.t 21)))<|.op (some 23) (some (20, false)) (.q (.mov (.t 8)))<|.op (some 24) (some (20, false)) (.q (.bin .gtr (.t 22) (.t 23)))<|.nil)<|.nil) 25 (sr [6,7] [3] (mc 6 0<|mc 7 10<|.nil)<|
.ret)<|
(ib [3,26] [3] (mv 26 2<|.nil) 26 (sr [6,7] [3] (qq 27 (.iaddrA 2 1 (.t 3) (ic 1))<|ld 28 1 false 27<|qq 29 (.un .neg (.t 28))<|qq 30 (.conv .i64 (.t 29))<|mv 6 30<|mc 7 0<|.nil)<|
.ret)<|
(sr [6,7] [3] (qq 31 (.iaddrA 2 1 (.t 3) (ic 1))<|ld 32 1 false 31<|qq 33 (.conv .i64 (.t 32))<|mv 6 33<|mc 7 0<|.nil)<|
.ret)))))))
theorem pure_fix_wide_signed : PureT Try.prog fi_fix_wide_signed 34 a_fix_wide_signed [.tmp 6,.tmp 7] := pureT_of Try.call45 Try.func45
def a_fix_apart : ACode := (sr [0,1] [] (qq 4 (.mov (.c (.one (.p (.bool false)))))<|.nil)<|
(sr [4] [] (mv 5 0<|bc 6 .neq 5 0<|mv 7 6<|.sc 10 7 true 9 none (.op (some 8) (some (7, true)) (.q (.mov (.t 1)))<|.op (some 9) (some (7, true)) (.q (.bin .neq (.t 8) (ic 0)))<|.nil)<|mv 11 10<|.sc 17 11 true 16 none (.op (some 12) (some (11, true)) (.q (.mov (.t 0)))<|.op (some 13) (some (11, true)) (.q (.bin .lss (.t 12) (ic 0)))<|.op (some 14) (some (11, true)) (.q (.mov (.t 1)))<|.op (some 15) (some (11, true)) (.q (.bin .lss (.t 14) (ic 0)))<|.op (some 16) (some (11, true)) (.q (.eqB true (.t 13) (.t 15)))<|.nil)<|mv 4 17<|.nil)<|
.ret))
theorem pure_fix_apart : PureT Try.prog fi_fix_apart 18 a_fix_apart [.tmp 4] := pureT_of Try.call46 Try.func46
def a_slices_Repeat_int_int : ACode := (sr [0,1] [] (qq 4 (.mov (.c (.one .nils)))<|.nil)<|
(ib [0,1,10] [] (mv 9 1<|bc 10 .lss 9 0<|.nil) 10 (rg [0,1] []<|qq 11 (.mkI 9 (.c (.one (.p (.str ⟨#[99, 97, 110, 110, 111, 116, 32, 98, 101, 32, 110, 101, 103, 97, 116, 105, 118, 101]⟩)))))<|.op none none .bad<|.nil)<|
(sr [0,5,6] [] (mv 13 0<|le 14 13<|qq 15 (.conv .u64 (.t 14))<|mv 16 1<|qq 17 (.conv .u64 (.t 16))<|cl 18 57 [15,17]<|mv 12 18<|xt 19 12 0<|xt 20 12 1<|mv 5 19<|mv 6 20<|.nil)<|
(ib [0,6,26] [] (mv 21 5<|qq 22 (.bin .gtr (.t 21) (.c (.one (.p (.int .u64 0)))))<|mv 23 22<|.sc 26 23 false 25 none (.op (some 24) (some (23, false)) (.q (.mov (.t 6)))<|.op (some 25) (some (23, false)) (.q (.bin .gtr (.t 24) (.c (.one (.p (.int .u64 9223372036854775807))))))<|.nil)<|.nil) 26 (rg [0,6] []<|qq 27 (.mkI 9 (.c (.one (.p (.str ⟨#[116, 104, 101, 32, 114, 101, 115, 117, 108, 116, 32, 111, 102, 32, 40, 108, 101, 110, 40, 120, 41, 32, 42, 32, 99, 111, 117, 110, 116, 41, 32, 111, 118, 101, 114, 102, 108, 111, 119, 115]⟩)))))<|.op none none .bad<|.nil)<|
(sr [0,7] [30] (mv 28 6<|qq 29 (.conv .i64 (.t 28))<|nn 30 (.mkS 1 8 [(.int .i64 0)] (.t 29) (.t 29))<|mv 7 30<|.nil)<|
(sr [7,8] [30] (mv 31 7<|mv 32 0<|sd 33 (.copy 1 (.t 31) (.t 32))<|mv 8 33<|.nil)<|
(.seq (.block 0 (.loop (.seq (sr [7,8,37] [30] (mv 34 8<|mv 35 7<|le 36 35<|bt 37 .lss 34 36<|.nil)<|
(cd 37 .skip (.exit 0)))<|
(.block 1 (.region (some [[], [0], [0, 1], [0], [0, 1, 2, 3], [0, 1, 2, 3, 4], [0, 1, 2, 3], [0], [], []]) (mv 38 8<|mv 39 7<|mv 40 8<|qq 41 (.slc 1 (.t 39) (some (.t 40)) none none)<|mv 42 7<|mv 43 8<|qq 44 (.slc 1 (.t 42) none (some (.t 43)) none)<|sd 45 (.copy 1 (.t 41) (.t 44))<|bt 46 .add 38 45<|mv 8 46<|.nil) [7,8] [30])))))<|
(sr [4] [30] (mv 47 7<|mv 4 47<|.nil)<|
.ret))))))))
theorem mut_slices_Repeat_int_int : MutT Try.prog fi_slices_Repeat_int_int 48 a_slices_Repeat_int_int [.tmp 4] := mutT_of Try.call50 Try.func50
def a_tensor_from_1 : ACode := (sr [0,1,2,4] [15] (ld 13 1 false 1<|le 14 13<|nn 15 (.mkS 1 8 [(.int .i64 0)] (.t 14) (.t 14))<|mv 4 15<|.nil)<|
(.seq (sr [0,1,2,4,5,6] [15] (ld 16 1 false 2<|le 17 16<|bc 18 .sub 17 1<|mv 5 18<|mc 6 1<|.nil)<|
(.block 0 (.loop (.seq (sr [0,1,2,4,5,6,20] [15] (mv 19 5<|bc 20 .geq 19 0<|.nil)<|
(cd 20 .skip (.exit 0)))<|
(.seq (.block 1 (ib [0,1,2,4,5,6,27] [15] (ld 23 1 false 2<|mv 24 5<|ia 25 1 23 24<|ld 26 1 false 25<|bc 27 .gtr 26 1<|.nil) 27 (rg [0,1,2,4,5,6] [15]<|mv 28 4<|ld 29 1 false 1<|le 30 29<|ld 31 1 false 2<|le 32 31<|bt 33 .sub 30 32<|mv 34 5<|bt 35 .add 33 34<|mv 36 6<|ia 37 1 28 35<|st 1 37 36<|.nil)<|
(rg [0,1,2,4,5,6] [15]<|mv 38 6<|ld 39 1 false 2<|mv 40 5<|ia 41 1 39 40<|ld 42 1 false 41<|bt 43 .mul 38 42<|mv 6 43<|.nil)))<|
(rg [0,1,2,4,5,6] [15]<|mv 21 5<|bc 22 .sub 21 1<|mv 5 22<|.nil))))))<|
(sr [0,1,4,45,46] [15] (ld 44 1 false 1<|cl 45 29 [44]<|mc 46 0<|.nil)<|
(.block 2 (.loop (sr [0,1,4,45,46,47] [15] (bt 47 .lss 46 45<|.nil)<|
(.seq (cd 47 .skip (.exit 2))<|
(.seq (.block 3 (sr [0,1,4,7,45,46] [15] (mv 48 46<|mv 7 48<|.nil)<|
(sr [0,1,4,7,8,45,46] [15] (ld 50 1 false 1<|mv 51 7<|cl 52 52 [50,51]<|mv 49 52<|xt 53 49 0<|xt 54 49 1<|mv 8 53<|mv 9 54<|.nil)<|
(sr [0,1,4,7,8,10,45,46] [15] (mc 10 0<|.nil)<|
(.seq (sr [0,1,4,7,10,45,46,55,56,57] [15] (mv 55 8<|le 56 55<|mc 57 0<|.nil)<|
(.block 4 (.loop (sr [0,1,4,7,10,45,46,55,56,57,58] [15] (bt 58 .lss 57 56<|.nil)<|
(.seq (cd 58 .skip (.exit 4))<|
(.seq (.block 5 (sr [0,1,4,7,10,11,12,45,46,55,56,57] [15] (mv 59 57<|ia 60 1 55 57<|ld 61 1 false 60<|mv 11 59<|mv 12 61<|.nil)<|
(rg [0,1,4,7,10,45,46,55,56,57] [15]<|mv 62 10<|mv 63 12<|mv 64 4<|mv 65 11<|ia 66 1 64 65<|ld 67 1 false 66<|bt 68 .mul 63 67<|bt 69 .add 62 68<|mv 10 69<|.nil)))<|
(rg [0,1,4,7,10,45,46,55,56,57] [15]<|bc 70 .add 57 1<|mv 57 70<|.nil)))))))<|
(sr [0,1,4,45,46,75] [15] (mv 71 0<|mv 72 7<|mv 73 10<|.op (some 74) none (.call (.t 71) [(.t 72),(.t 73)])<|qq 75 (.un .not (.t 74))<|.nil)<|
(cd 75 .ret .skip)))))))<|
(rg [0,1,4,45,46] [15]<|bc 76 .add 46 1<|mv 46 76<|.nil)))))))))
theorem is_tensor_from_1 : compC Try.prog (Try.f51.body.getD .skip) = some a_tensor_from_1.erase := by kernel_rfl
theorem ok_tensor_from_1 : a_tensor_from_1.ok 77 = true := by kernel_rfl
theorem rv_tensor_from_1 : compRV Try.prog Try.f51.results.toList = some [] := by kernel_rfl
theorem call_tensor_from_1 (args : Array Value) (w : World) : (callFunc fi_tensor_from_1 args).run Try.prog w = .ok (.enter fi_tensor_from_1 args) w := Try.call51 args w
theorem func_tensor_from_1 : Try.prog.funcs[fi_tensor_from_1]? = some Try.f51 := Try.func51
def a_shape_Index : ACode := (sr [0,1] [] (qq 4 (.mov (.c (.one .nils)))<|mc 5 0<|.nil)<|
(ib [0,1,16] [] (mv 9 1<|bc 10 .lss 9 0<|mv 11 10<|.sc 16 11 false 15 none (.op (some 12) (some (11, false)) (.q (.mov (.t 1)))<|.op (some 13) (some (11, false)) (.q (.mov (.t 0)))<|.op (some 14) (some (11, false)) (.call (.c (.one (.p (.fn fi_shape_Size [] [])))) [(.t 13)])<|.op (some 15) (some (11, false)) (.q (.bin .geq (.t 12) (.t 14)))<|.nil)<|.nil) 16 (sr [4,5] [] (qq 4 (.mov (.c (.one .nils)))<|mc 5 20<|.nil)<|
.ret)<|
(sr [0,1,6] [19] (mv 17 0<|le 18 17<|nn 19 (.mkS 1 8 [(.int .i64 0)] (.t 18) (.t 18))<|mv 6 19<|.nil)<|
(.seq (sr [0,1,6,21,22] [19] (mv 20 0<|le 21 20<|mc 22 0<|.nil)<|
(.block 0 (.loop (sr [0,1,6,21,22,23] [19] (bt 23 .lss 22 21<|.nil)<|
(.seq (cd 23 .skip (.exit 0))<|
(.seq (.block 1 (sr [0,1,6,7,21,22] [19] (mv 24 22<|mv 7 24<|.nil)<|
(sr [0,1,6,8,21,22] [19] (mv 25 0<|le 26 25<|bc 27 .sub 26 1<|mv 28 7<|bt 29 .sub 27 28<|mv 8 29<|.nil)<|
(.region (some [[], [0], [0, 1], [0, 1, 2], [0, 1, 2, 3], [0, 1, 2], [0, 1, 2], [0, 1], [0, 1, 2, 3, 4, 5, 6, 7], [0, 1, 2, 3, 4, 5, 6, 7, 8], [0, 1, 2, 3, 4, 5, 6, 7, 8, 9], [0, 1, 2, 3, 4, 5, 6, 7, 8], [0, 1, 2, 3, 4, 5, 6, 7, 8], [0, 1, 2, 3, 4, 5, 6, 7], [8, 13], [8, 13], []]) (mv 30 6<|mv 31 8<|mv 32 1<|mv 33 0<|mv 34 8<|ia 35 1 33 34<|ld 36 1 false 35<|bt 37 .rem 32 36<|mv 38 1<|mv 39 0<|mv 40 8<|ia 41 1 39 40<|ld 42 1 false 41<|bt 43 .quo 38 42<|ia 44 1 30 31<|st 1 44 37<|mv 1 43<|.nil) [0,1,6,21,22] [19]))))<|
(rg [0,1,6,21,22] [19]<|bc 45 .add 22 1<|mv 22 45<|.nil)))))))<|
(sr [4,5] [19] (mv 46 6<|mv 4 46<|mc 5 0<|.nil)<|
.ret)))))
theorem pure_shape_Index : PureT Try.prog fi_shape_Index 47 a_shape_Index [.tmp 4,.tmp 5] := pureT_of Try.call52 Try.func52
def a_fix_wide_signed_1 : ACode := (sr [0] [] (qq 1 (.mov (.c (.one (.p (.int .u64 0)))))<|.nil)<|
(sr [0,1] [] (qq 3 (.iaddrA 2 1 (.t 0) (ic 1))<|ld 4 1 false 3<|qq 5 (.carry false (.t 4) (.c (.one (.p (.int .u64 1)))) (.c (.one (.p (.int .u64 0)))))<|mv 2 5<|xt 6 2 0<|xt 7 2 1<|qq 8 (.iaddrA 2 1 (.t 0) (ic 1))<|st 1 8 6<|mv 1 7<|.nil)<|
(rg [] []<|qq 9 (.iaddrA 2 1 (.t 0) (ic 0))<|ld 10 1 false 9<|mv 11 1<|bt 12 .add 10 11<|qq 13 (.iaddrA 2 1 (.t 0) (ic 0))<|st 1 13 12<|.nil)))
theorem mut_fix_wide_signed_1 : MutT Try.prog fi_fix_wide_signed_1 14 a_fix_wide_signed_1 [] := mutT_of Try.call53 Try.func53
def a_math_bits_Mul : ACode := (sr [0,1] [] (qq 4 (.mov (.c (.one (.p (.int .u64 0)))))<|qq 5 (.mov (.c (.one (.p (.int .u64 0)))))<|.nil)<|
(.seq (.cond (.c (.one (.p (.bool false)))) (sr [6,7] [] (mv 11 0<|qq 12 (.conv .u32 (.t 11))<|mv 13 1<|qq 14 (.conv .u32 (.t 13))<|cl 15 58 [12,14]<|mv 10 15<|xt 16 10 0<|xt 17 10 1<|mv 6 16<|mv 7 17<|.nil)<|
(sr [4,5] [] (mv 18 6<|qq 19 (.conv .u64 (.t 18))<|mv 20 7<|qq 21 (.conv .u64 (.t 20))<|mv 4 19<|mv 5 21<|.nil)<|
.ret))
 .skip)<|
(sr [8,9] [] (mv 23 0<|mv 24 1<|cl 25 43 [23,24]<|mv 22 25<|xt 26 22 0<|xt 27 22 1<|mv 8 26<|mv 9 27<|.nil)<|
(sr [4,5] [] (mv 28 8<|mv 29 9<|mv 4 28<|mv 5 29<|.nil)<|
.ret))))
theorem pure_math_bits_Mul : PureT Try.prog fi_math_bits_Mul 30 a_math_bits_Mul [.tmp 4,.tmp 5] := pureT_of Try.call57 Try.func57
def a_optim_keeps_slope : ACode := (sr [3,4,5,6] [3,4,5,6] (nn 3 (.box 1 (.t 0))<|nn 4 (.box 2 (.t 1))<|nn 5 (.box 2 (.t 2))<|al 6 [.nils,.nils]<|mc 7 0<|.nil)<|
(sr [5,6,8,9] [3,4,5,6,8] (ld 11 2 true 4<|fa 12 0 3<|ld 13 1 false 12<|cl 14 18 [11,13]<|mv 10 14<|xt 15 10 0<|xt 16 10 1<|al 8 [.nils,.nils]<|st 2 8 15<|mv 9 16<|.nil)<|
(ib [5,6,8,9,18] [3,4,5,6,8] (mv 17 9<|bc 18 .neq 17 0<|.nil) 18 (sr [6,7] [3,4,5,6,8] (ld 19 2 true 8<|mv 20 9<|st 2 6 19<|mv 7 20<|.nil)<|
.ret)<|
(sr [6,7] [3,4,5,6,8] (ld 21 2 true 8<|ld 22 2 true 5<|.op (some 23) none (.call (.c (.one (.p (.fn fi_elem_Two [] [])))) [(ic 10),(.t 21),(.t 22)])<|xt 24 23 0<|xt 25 23 1<|st 2 6 24<|mv 7 25<|.nil)<|
.ret))))
theorem pure_optim_keeps_slope : PureT Try.prog fi_optim_keeps_slope 26 a_optim_keeps_slope [.cell 2 true 6,.tmp 7] := pureT_of Try.call74 Try.func74
def a_optim_plain_slope : ACode := (sr [5,6] [3,4,5,6] (nn 3 (.box 0 (.t 0))<|nn 4 (.box 2 (.t 1))<|nn 5 (.box 2 (.t 2))<|al 6 [.nils,.nils]<|mc 7 0<|.nil)<|
(sr [6,7] [3,4,5,6] (ld 8 2 true 5<|st 2 6 8<|mc 7 0<|.nil)<|
.ret))
theorem pure_optim_plain_slope : PureT Try.prog fi_optim_plain_slope 9 a_optim_plain_slope [.cell 2 true 6,.tmp 7] := pureT_of Try.call75 Try.func75
def a_optim_clips_slope : ACode := (sr [3,5,6] [3,4,5,6] (nn 3 (.box 1 (.t 0))<|nn 4 (.box 2 (.t 1))<|nn 5 (.box 2 (.t 2))<|al 6 [.nils,.nils]<|mc 7 0<|.nil)<|
(.seq (.region (some [[], [], [], [0, 1, 2], [0, 1, 2], [], [], [0, 1, 2, 3, 4, 5, 6], []]) (fa 11 0 5<|ld 12 1 false 11<|cl 13 16 [12]<|fa 14 1 5<|ld 15 1 false 14<|cl 16 16 [15]<|qq 17 (.build [.nils,.nils] [(0, 1, (.t 13)),(1, 1, (.t 16))])<|al 8 [.nils,.nils]<|st 2 8 17<|.nil) [3,6,8] [3,4,5,6,8])<|
(.seq (sr [3,6,8,19,20,21] [3,4,5,6,8] (fa 18 1 8<|ld 19 1 false 18<|le 20 19<|mc 21 0<|.nil)<|
(.block 0 (.loop (sr [3,6,8,19,20,21,22] [3,4,5,6,8] (bt 22 .lss 21 20<|.nil)<|
(.seq (cd 22 .skip (.exit 0))<|
(.seq (.block 1 (sr [3,6,8,9,10,19,20,21] [3,4,5,6,8] (mv 23 21<|ia 24 1 19 21<|ld 25 1 false 24<|mv 9 23<|mv 10 25<|.nil)<|
(rg [3,6,8,19,20,21] [3,4,5,6,8]<|fa 26 1 8<|ld 27 1 false 26<|mv 28 9<|mv 29 10<|fa 30 0 3<|ld 31 1 false 30<|qq 32 (.un .neg (.t 31))<|qq 33 (.mm true (.t 29) (.t 32))<|fa 34 0 3<|ld 35 1 false 34<|qq 36 (.mm false (.t 33) (.t 35))<|ia 37 1 27 28<|st 1 37 36<|.nil)))<|
(rg [3,6,8,19,20,21] [3,4,5,6,8]<|bc 38 .add 21 1<|mv 21 38<|.nil)))))))<|
(sr [6,7] [3,4,5,6,8] (ld 39 2 true 8<|st 2 6 39<|mc 7 0<|.nil)<|
.ret))))
theorem pure_optim_clips_slope : PureT Try.prog fi_optim_clips_slope 40 a_optim_clips_slope [.cell 2 true 6,.tmp 7] := pureT_of Try.call76 Try.func76
end Go.AM

