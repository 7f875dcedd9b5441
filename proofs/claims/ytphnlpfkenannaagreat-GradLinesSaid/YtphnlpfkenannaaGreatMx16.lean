import Derived.Test.YtphnlpfkenannaaGreatMx15
set_option linter.unusedVariables false
set_option linter.unusedSimpArgs false
namespace Go.AM
open Go Go.Proofs
set_option maxRecDepth 100000
def a_math_bits_Len64 : ACode := (sr [0,2] [] (mc 2 0<|.nil)<|
(ib [0,2,4] [] (mv 3 0<|qq 4 (.bin .geq (.t 3) (.c (.one (.p (.int .u64 4294967296)))))<|.nil) 4 (sr [0] [] (mv 5 0<|qq 6 (.bin .shr (.t 5) (.c (.one (.p (.int .u64 32)))))<|mv 0 6<|.nil)<|
(rg [0,2] []<|mc 2 32<|.nil))<|
(ib [0,2,8] [] (mv 7 0<|qq 8 (.bin .geq (.t 7) (.c (.one (.p (.int .u64 65536)))))<|.nil) 8 (sr [0,2] [] (mv 9 0<|qq 10 (.bin .shr (.t 9) (.c (.one (.p (.int .u64 16)))))<|mv 0 10<|.nil)<|
(rg [0,2] []<|mv 11 2<|bc 12 .add 11 16<|mv 2 12<|.nil))<|
(ib [0,2,14] [] (mv 13 0<|qq 14 (.bin .geq (.t 13) (.c (.one (.p (.int .u64 256)))))<|.nil) 14 (sr [0,2] [] (mv 15 0<|qq 16 (.bin .shr (.t 15) (.c (.one (.p (.int .u64 8)))))<|mv 0 16<|.nil)<|
(rg [0,2] []<|mv 17 2<|bc 18 .add 17 8<|mv 2 18<|.nil))<|
(sr [2] [] (mv 19 2<|mv 20 0<|qq 21 (.conv .u8 (.t 20))<|qq 22 (.sidx (.c (.one (.p (.str ⟨#[0, 1, 2, 2, 3, 3, 3, 3, 4, 4, 4, 4, 4, 4, 4, 4, 5, 5, 5, 5, 5, 5, 5, 5, 5, 5, 5, 5, 5, 5, 5, 5, 6, 6, 6, 6, 6, 6, 6, 6, 6, 6, 6, 6, 6, 6, 6, 6, 6, 6, 6, 6, 6, 6, 6, 6, 6, 6, 6, 6, 6, 6, 6, 6, 7, 7, 7, 7, 7, 7, 7, 7, 7, 7, 7, 7, 7, 7, 7, 7, 7, 7, 7, 7, 7, 7, 7, 7, 7, 7, 7, 7, 7, 7, 7, 7, 7, 7, 7, 7, 7, 7, 7, 7, 7, 7, 7, 7, 7, 7, 7, 7, 7, 7, 7, 7, 7, 7, 7, 7, 7, 7, 7, 7, 7, 7, 7, 7, 8, 8, 8, 8, 8, 8, 8, 8, 8, 8, 8, 8, 8, 8, 8, 8, 8, 8, 8, 8, 8, 8, 8, 8, 8, 8, 8, 8, 8, 8, 8, 8, 8, 8, 8, 8, 8, 8, 8, 8, 8, 8, 8, 8, 8, 8, 8, 8, 8, 8, 8, 8, 8, 8, 8, 8, 8, 8, 8, 8, 8, 8, 8, 8, 8, 8, 8, 8, 8, 8, 8, 8, 8, 8, 8, 8, 8, 8, 8, 8, 8, 8, 8, 8, 8, 8, 8, 8, 8, 8, 8, 8, 8, 8, 8, 8, 8, 8, 8, 8, 8, 8, 8, 8, 8, 8, 8, 8, 8, 8, 8, 8, 8, 8, 8, 8, 8, 8, 8, 8, 8, 8, 8, 8, 8, 8, 8, 8]⟩)))) (.t 21))<|qq 23 (.conv .i64 (.t 22))<|bt 24 .add 19 23<|mv 2 24<|.nil)<|
.ret)))))
theorem pure_math_bits_Len64 : PureT Tryz.prog fi_math_bits_Len64 25 a_math_bits_Len64 [.tmp 2] := pureT_of Tryz.call227 Tryz.func227
def a_elem_kinds : ACode := (sr [] [] (qq 0 (.mov (.c (.one (.raw (.map none)))))<|.nil)<|
(sr [1] [] (qq 1 (.mov (.c (.one (.p (.fn fi_elem_kinds_1 [] [])))))<|.nil)<|
(sr [0] [2] (nn 2 .mkM<|qq 3 (.build [(.p .nilF),(.p .nilF)] [(1, 1, (.c (.one (.p (.fn fi_fix_Add [] [])))))])<|ss (.mput (.t 2) (ic 10) (.t 3))<|qq 4 (.build [(.p .nilF),(.p .nilF)] [(1, 1, (.c (.one (.p (.fn fi_fix_Sub [] [])))))])<|ss (.mput (.t 2) (ic 11) (.t 4))<|qq 5 (.build [(.p .nilF),(.p .nilF)] [(1, 1, (.c (.one (.p (.fn fi_fix_Mul [] [])))))])<|ss (.mput (.t 2) (ic 12) (.t 5))<|qq 6 (.build [(.p .nilF),(.p .nilF)] [(1, 1, (.c (.one (.p (.fn fi_fix_Div [] [])))))])<|ss (.mput (.t 2) (ic 13) (.t 6))<|qq 7 (.build [(.p .nilF),(.p .nilF)] [(0, 1, (.c (.one (.p (.fn fi_fix_Neg [] [])))))])<|ss (.mput (.t 2) (ic 20) (.t 7))<|mv 8 1<|qq 9 (.build [(.p .nilF),(.p .nilF)] [(0, 1, (.t 8))])<|ss (.mput (.t 2) (ic 21) (.t 9))<|qq 10 (.build [(.p .nilF),(.p .nilF)] [(0, 1, (.c (.one (.p (.fn fi_fix_Pow [] [])))))])<|ss (.mput (.t 2) (ic 22) (.t 10))<|qq 11 (.build [(.p .nilF),(.p .nilF)] [(0, 1, (.c (.one (.p (.fn fi_fix_Sqrt [] [])))))])<|ss (.mput (.t 2) (ic 23) (.t 11))<|mv 12 2<|mv 0 12<|.nil)<|
.ret)))
theorem pure_elem_kinds : PureT Tryz.prog fi_elem_kinds 13 a_elem_kinds [.tmp 0] := pureT_of Tryz.call228 Tryz.func228
def a_shape_Join : ACode := (sr [0,1] [] (qq 4 (.mov (.c (.one .nils)))<|mc 5 0<|.nil)<|
(ib [0,1,17] [] (mv 10 0<|cl 11 55 [10]<|qq 12 (.un .not (.t 11))<|mv 13 12<|.sc 17 13 false 16 none (.op (some 14) (some (13, false)) (.q (.mov (.t 1)))<|.op (some 15) (some (13, false)) (.call (.c (.one (.p (.fn fi_shape_Check [] [])))) [(.t 14)])<|.op (some 16) (some (13, false)) (.q (.un .not (.t 15)))<|.nil)<|.nil) 17 (sr [4,5] [] (qq 4 (.mov (.c (.one .nils)))<|mc 5 20<|.nil)<|
.ret)<|
(sr [0,1,6] [23] (mv 18 0<|le 19 18<|mv 20 1<|le 21 20<|qq 22 (.mm true (.t 19) (.t 21))<|nn 23 (.mkS 1 8 [(.int .i64 0)] (.t 22) (.t 22))<|mv 6 23<|.nil)<|
(.seq (sr [0,1,6,25,26] [23] (mv 24 6<|le 25 24<|mc 26 0<|.nil)<|
(.block 0 (.loop (sr [0,1,6,25,26,27] [23] (bt 27 .lss 26 25<|.nil)<|
(.seq (cd 27 .skip (.exit 0))<|
(.seq (.block 1 (sr [0,1,6,7,25,26] [23] (mv 28 26<|mv 7 28<|.nil)<|
(sr [0,1,6,7,8,9,25,26] [23] (mv 29 0<|mv 30 7<|cl 31 269 [29,30]<|mv 32 1<|mv 33 7<|cl 34 269 [32,33]<|mv 8 31<|mv 9 34<|.nil)<|
(ib [0,1,6,7,8,9,25,26,45] [23] (mv 35 8<|mv 36 9<|bt 37 .neq 35 36<|mv 38 37<|.sc 41 38 true 40 none (.op (some 39) (some (38, true)) (.q (.mov (.t 8)))<|.op (some 40) (some (38, true)) (.q (.bin .neq (.t 39) (ic 1)))<|.nil)<|mv 42 41<|.sc 45 42 true 44 none (.op (some 43) (some (42, true)) (.q (.mov (.t 9)))<|.op (some 44) (some (42, true)) (.q (.bin .neq (.t 43) (ic 1)))<|.nil)<|.nil) 45 (sr [4,5] [23] (qq 4 (.mov (.c (.one .nils)))<|mc 5 20<|.nil)<|
.ret)<|
(rg [0,1,6,25,26] [23]<|mv 46 6<|mv 47 6<|le 48 47<|bc 49 .sub 48 1<|mv 50 7<|bt 51 .sub 49 50<|mv 52 8<|mv 53 9<|qq 54 (.mm true (.t 52) (.t 53))<|ia 55 1 46 51<|st 1 55 54<|.nil)))))<|
(rg [0,1,6,25,26] [23]<|bc 56 .add 26 1<|mv 26 56<|.nil)))))))<|
(ib [6,59] [23] (mv 57 6<|cl 58 55 [57]<|qq 59 (.un .not (.t 58))<|.nil) 59 (sr [4,5] [23] (qq 4 (.mov (.c (.one .nils)))<|mc 5 20<|.nil)<|
.ret)<|
(sr [4,5] [23] (mv 60 6<|mv 4 60<|mc 5 0<|.nil)<|
.ret))))))
theorem pure_shape_Join : PureT Tryz.prog fi_shape_Join 61 a_shape_Join [.tmp 4,.tmp 5] := pureT_of Tryz.call229 Tryz.func229
def a_tensor_Spread : ACode := (sr [1,2,4] [2,4] (nn 2 (.box 2 (.t 0))<|al 4 [.nils,.nils]<|mc 5 0<|.nil)<|
(.seq (.block 0 (sr [1,2,4,10] [2,4] (ld 11 2 true 2<|cl 12 31 [11]<|qq 13 (.un .not (.t 12))<|mv 10 13<|.nil)<|
(cd 10 (sr [4,5] [2,4] (qq 14 (.build [.nils,.nils] [])<|st 2 4 14<|mc 5 30<|.nil)<|
.ret) (sr [1,2,4,15] [2,4] (fa 16 0 2<|ld 17 1 false 16<|mv 18 1<|cl 19 242 [17,18]<|qq 20 (.un .not (.t 19))<|mv 15 20<|.nil)<|
(cd 15 (sr [4,5] [2,4] (qq 21 (.build [.nils,.nils] [])<|st 2 4 21<|mc 5 20<|.nil)<|
.ret) .skip)))))<|
(sr [1,2,4,6] [2,4,6] (mv 23 1<|.op (some 24) none (.call (.c (.one (.p (.fn fi_tensor_Full [] [])))) [(.t 23),(ic 0)])<|mv 22 24<|xt 25 22 0<|xt 26 22 1<|al 6 [.nils,.nils]<|st 2 6 25<|mv 7 26<|.nil)<|
(.seq (sr [2,4,6,30] [2,4,6] (fa 27 0 2<|ld 28 1 false 27<|mv 29 1<|cl 30 243 [28,29]<|.nil)<|
(.block 1 (.range (.t 30) [31, 32] (sr [2,4,6,8,30,32] [2,4,6] (mv 8 31<|.nil)<|
(rg [2,4,6,8,9,30] [2,4,6]<|mv 9 32<|.nil))
 (.block 2 (.region (some [[], [], [0, 1], [0, 1, 2], [0, 1, 2], [0, 1, 2, 3, 4], [0, 1, 2], [0, 1, 2], [], []]) (fa 33 1 6<|ld 34 1 false 33<|mv 35 8<|fa 36 1 2<|ld 37 1 false 36<|mv 38 9<|ia 39 1 37 38<|ld 40 1 false 39<|ia 41 1 34 35<|st 1 41 40<|.nil) [2,4,6,30] [2,4,6])))))<|
(sr [4,5] [2,4,6] (ld 42 2 true 6<|st 2 4 42<|mc 5 0<|.nil)<|
.ret)))))
theorem pure_tensor_Spread : PureT Tryz.prog fi_tensor_Spread 43 a_tensor_Spread [.cell 2 true 4,.tmp 5] := pureT_of Tryz.call230 Tryz.func230
def a_elem_each : ACode := (sr [0,1,4] [4] (al 4 [.nils,.nils]<|mc 5 0<|.nil)<|
(sr [0,1,4,6] [4,6] (mv 10 0<|cl 11 56 [10]<|qq 12 (.build [.nils,.nils] [(0, 1, (.t 11))])<|al 6 [.nils,.nils]<|st 2 6 12<|.nil)<|
(.seq (sr [1,4,6,14,15] [4,6] (mv 13 0<|cl 14 58 [13]<|mc 15 0<|.nil)<|
(.block 0 (.loop (sr [1,4,6,14,15,16] [4,6] (bt 16 .lss 15 14<|.nil)<|
(.seq (cd 16 .skip (.exit 0))<|
(.seq (.block 1 (sr [1,4,6,7,14,15] [4,6] (mv 17 15<|mv 7 17<|.nil)<|
(sr [1,4,6,8,9,14,15] [4,6] (mv 19 1<|mv 20 7<|.op (some 21) none (.call (.t 19) [(.t 20)])<|mv 18 21<|xt 22 18 0<|xt 23 18 1<|mv 8 22<|mv 9 23<|.nil)<|
(ib [1,4,6,8,9,14,15,25] [4,6] (mv 24 9<|bc 25 .neq 24 0<|.nil) 25 (sr [4,5] [4,6] (qq 26 (.build [.nils,.nils] [])<|mv 27 9<|st 2 4 26<|mv 5 27<|.nil)<|
.ret)<|
(rg [1,4,6,14,15] [4,6,31,32]<|fa 28 1 6<|ld 29 1 false 28<|mv 30 8<|nn 31 (.lit 1 1 [(.int .i64 0)] [(0, (.t 30))])<|sd 32 (.app 1 8 (.t 29) (.t 31))<|fa 33 1 6<|st 1 33 32<|.nil)))))<|
(rg [1,4,6,14,15] [4,6,31,32]<|bc 34 .add 15 1<|mv 15 34<|.nil)))))))<|
(sr [4,5] [4,6,31,32] (ld 35 2 true 6<|st 2 4 35<|mc 5 0<|.nil)<|
.ret))))
theorem pure_elem_each : PureT Tryz.prog fi_elem_each 36 a_elem_each [.cell 2 true 4,.tmp 5] := pureT_of Tryz.call231 Tryz.func231
def a_elem_Two_1 : ACode := (sr [0,1,2,3] [] (mc 5 0<|mc 6 0<|.nil)<|
(.seq (.region (some [[], [], [0, 1], [0, 1], [0, 1, 2, 3], [0, 1], [0, 1], [0, 1, 2, 3, 4, 5, 6], [0, 1, 2, 3, 4, 5, 6], [0, 1, 2, 3, 4, 5, 6, 7, 8], [0, 1, 2, 3, 4, 5, 6], [0, 1, 2, 3, 4, 5, 6], [], [], [13], [], []]) (fa 7 1 1<|ld 8 1 false 7<|fa 9 1 2<|ld 10 1 false 9<|mv 11 0<|ia 12 1 10 11<|ld 13 1 false 12<|fa 14 1 3<|ld 15 1 false 14<|mv 16 0<|ia 17 1 15 16<|ld 18 1 false 17<|.op (some 19) none (.call (.t 8) [(.t 13),(.t 18)])<|xt 20 19 0<|xt 21 19 1<|mv 5 20<|mv 6 21<|.nil) [5,6] [])<|
.ret))
theorem pure_elem_Two_1 : PureT Tryz.prog fi_elem_Two_1 22 a_elem_Two_1 [.tmp 5,.tmp 6] := pureT_of Tryz.call232 Tryz.func232
def a_infer_sided_1 : ACode := (sr [0,1,2,5,6] [] (qq 5 (.mov (.c (.one .nils)))<|qq 6 (.mov (.c (.one (.p (.bool false)))))<|.nil)<|
(sr [0,1,2,5,6,7] [] (mv 8 1<|qq 9 (.iaddr 1 (.t 8) (ic 0))<|ld 10 1 false 9<|mv 7 10<|.nil)<|
(ib [0,1,2,5,6,7,20] [] (mv 11 7<|bc 12 .lss 11 0<|mv 13 12<|.sc 20 13 false 19 none (.op (some 14) (some (13, false)) (.q (.mov (.t 7)))<|.op (some 15) (some (13, false)) (.q (.mov (.t 0)))<|.op (some 16) (some (13, false)) (.q (.iaddr 1 (.t 15) (ic 0)))<|.op (some 17) (some (13, false)) (.q (.load 1 false (.t 16)))<|.op (some 18) (some (13, false)) (.q (.len (.t 17)))<|.op (some 19) (some (13, false)) (.q (.bin .geq (.t 14) (.t 18)))<|.nil)<|.nil) 20 .ret<|
(.seq (.region (some [[], [0], [0, 1], [0, 1, 2], [0, 1, 2], [], [], [6], [], []]) (ld 21 1 false 2<|mv 22 0<|mv 23 7<|mv 24 1<|qq 25 (.slc 1 (.t 24) (some (ic 1)) none none)<|.op (some 26) none (.call (.t 21) [(.t 22),(.t 23),(.t 25)])<|xt 27 26 0<|xt 28 26 1<|mv 5 27<|mv 6 28<|.nil) [5,6] [])<|
.ret))))
theorem pure_infer_sided_1 : PureT Tryz.prog fi_infer_sided_1 29 a_infer_sided_1 [.tmp 5,.tmp 6] := pureT_of Tryz.call233 Tryz.func233
def a_slices_Delete_int_int : ACode := (sr [0,1,2] [] (qq 6 (.mov (.c (.one .nils)))<|.nil)<|
(sr [0,1,2] [] (mv 8 0<|mv 9 1<|mv 10 2<|mv 11 0<|le 12 11<|qq 13 (.slc 1 (.t 8) (some (.t 9)) (some (.t 10)) (some (.t 12)))<|.nil)<|
(ib [0,1,2,16] [] (mv 14 1<|mv 15 2<|bt 16 .eql 14 15<|.nil) 16 (sr [6] [] (mv 17 0<|mv 6 17<|.nil)<|
.ret)<|
(sr [0,1,2,7] [] (mv 18 0<|le 19 18<|mv 7 19<|.nil)<|
(.seq (.region (some [[], [0], [], [0, 1, 2], [0, 1, 2, 3], [0, 1, 2], [], []]) (mv 20 0<|mv 21 1<|qq 22 (.slc 1 (.t 20) none (some (.t 21)) none)<|mv 23 0<|mv 24 2<|qq 25 (.slc 1 (.t 23) (some (.t 24)) none none)<|sd 26 (.app 1 8 (.t 22) (.t 25))<|mv 0 26<|.nil) [0,7] [26])<|
(sr [0] [26] (mv 27 0<|mv 28 0<|le 29 28<|mv 30 7<|qq 31 (.slc 1 (.t 27) (some (.t 29)) (some (.t 30)) none)<|ss (.clr 1 [(.int .i64 0)] (.t 31))<|.nil)<|
(sr [6] [26] (mv 32 0<|mv 6 32<|.nil)<|
.ret)))))))
theorem mut_slices_Delete_int_int : MutT Tryz.prog fi_slices_Delete_int_int 33 a_slices_Delete_int_int [.tmp 6] := mutT_of Tryz.call234 Tryz.func234
def a_fix_told : ACode := (sr [0,1] [] (mc 4 0<|mc 5 0<|.nil)<|
(ib [0,7] [] (mv 6 1<|qq 7 (.un .not (.t 6))<|.nil) 7 (sr [4,5] [] (mc 4 0<|mc 5 10<|.nil)<|
.ret)<|
(sr [4,5] [] (mv 8 0<|mv 4 8<|mc 5 0<|.nil)<|
.ret)))
theorem pure_fix_told : PureT Tryz.prog fi_fix_told 9 a_fix_told [.tmp 4,.tmp 5] := pureT_of Tryz.call235 Tryz.func235
def a_move_indices : ACode := (sr [1] [1] (nn 1 (.box 1 (.t 0))<|qq 2 (.mov (.c (.one (.p .nilF))))<|.nil)<|
(sr [2] [1] (qq 3 (.mkF fi_move_indices_1 [] [(.t 1)])<|mv 2 3<|.nil)<|
.ret))
theorem pure_move_indices : PureT Tryz.prog fi_move_indices 4 a_move_indices [.tmp 2] := pureT_of Tryz.call236 Tryz.func236
def a_shape_Place : ACode := (sr [0,1] [] (mc 4 0<|mc 5 0<|.nil)<|
(ib [0,1,18] [] (mv 9 0<|cl 10 55 [9]<|qq 11 (.un .not (.t 10))<|mv 12 11<|.sc 18 12 false 17 none (.op (some 13) (some (12, false)) (.q (.mov (.t 1)))<|.op (some 14) (some (12, false)) (.q (.len (.t 13)))<|.op (some 15) (some (12, false)) (.q (.mov (.t 0)))<|.op (some 16) (some (12, false)) (.q (.len (.t 15)))<|.op (some 17) (some (12, false)) (.q (.bin .neq (.t 14) (.t 16)))<|.nil)<|.nil) 18 (sr [4,5] [] (mc 4 0<|mc 5 20<|.nil)<|
.ret)<|
(sr [0,1,6] [] (mc 6 0<|.nil)<|
(.seq (sr [1,6,19,20,21] [] (mv 19 0<|le 20 19<|mc 21 0<|.nil)<|
(.block 0 (.loop (sr [1,6,19,20,21,22] [] (bt 22 .lss 21 20<|.nil)<|
(.seq (cd 22 .skip (.exit 0))<|
(.seq (.block 1 (sr [1,6,7,8,19,20,21] [] (mv 23 21<|ia 24 1 19 21<|ld 25 1 false 24<|mv 7 23<|mv 8 25<|.nil)<|
(ib [1,6,7,8,19,20,21,38] [] (mv 26 1<|mv 27 7<|ia 28 1 26 27<|ld 29 1 false 28<|bc 30 .lss 29 0<|mv 31 30<|.sc 38 31 false 37 none (.op (some 32) (some (31, false)) (.q (.mov (.t 1)))<|.op (some 33) (some (31, false)) (.q (.mov (.t 7)))<|.op (some 34) (some (31, false)) (.q (.iaddr 1 (.t 32) (.t 33)))<|.op (some 35) (some (31, false)) (.q (.load 1 false (.t 34)))<|.op (some 36) (some (31, false)) (.q (.mov (.t 8)))<|.op (some 37) (some (31, false)) (.q (.bin .geq (.t 35) (.t 36)))<|.nil)<|.nil) 38 (sr [4,5] [] (mc 4 0<|mc 5 20<|.nil)<|
.ret)<|
(rg [1,6,19,20,21] []<|mv 39 6<|mv 40 8<|bt 41 .mul 39 40<|mv 42 1<|mv 43 7<|ia 44 1 42 43<|ld 45 1 false 44<|bt 46 .add 41 45<|mv 6 46<|.nil))))<|
(rg [1,6,19,20,21] []<|bc 47 .add 21 1<|mv 21 47<|.nil)))))))<|
(sr [4,5] [] (mv 48 6<|mv 4 48<|mc 5 0<|.nil)<|
.ret)))))
theorem pure_shape_Place : PureT Tryz.prog fi_shape_Place 49 a_shape_Place [.tmp 4,.tmp 5] := pureT_of Tryz.call237 Tryz.func237
def a_reduce_lanes : ACode := (sr [1,2,4] [2,4] (nn 2 (.box 2 (.t 0))<|al 4 [(.p (.int .i64 0)),(.p (.int .i64 0)),(.p (.int .i64 0))]<|mc 5 0<|.nil)<|
(.seq (.block 0 (sr [1,2,4,6] [2,4] (ld 7 2 true 2<|cl 8 31 [7]<|qq 9 (.un .not (.t 8))<|mv 6 9<|.nil)<|
(cd 6 (sr [4,5] [2,4] (qq 10 (.build [(.p (.int .i64 0)),(.p (.int .i64 0)),(.p (.int .i64 0))] [])<|st 3 4 10<|mc 5 30<|.nil)<|
.ret) (sr [1,2,4,11] [2,4] (mv 12 1<|bc 13 .lss 12 0<|mv 14 13<|.sc 20 14 false 19 none (.op (some 15) (some (14, false)) (.q (.mov (.t 1)))<|.op (some 16) (some (14, false)) (.q (.faddr 0 (.t 2)))<|.op (some 17) (some (14, false)) (.q (.load 1 false (.t 16)))<|.op (some 18) (some (14, false)) (.q (.len (.t 17)))<|.op (some 19) (some (14, false)) (.q (.bin .geq (.t 15) (.t 18)))<|.nil)<|mv 11 20<|.nil)<|
(cd 11 (sr [4,5] [2,4] (qq 21 (.build [(.p (.int .i64 0)),(.p (.int .i64 0)),(.p (.int .i64 0))] [])<|st 3 4 21<|mc 5 20<|.nil)<|
.ret) .skip)))))<|
(.seq (.region (some [[], [], [0, 1], [], [], [0, 1, 2, 3, 4], [0, 1, 2, 3, 4], [0, 1, 2, 3, 4, 5, 6], [0, 1, 2, 3, 4], [0, 1, 2, 3, 4], [0, 1, 2, 3, 4, 5, 6, 7, 8, 9], [0, 1, 2, 3, 4, 5, 6, 7, 8, 9], [0, 1, 2, 3, 4, 5, 6, 7, 8, 9, 10, 11], [0, 1, 2, 3, 4, 5, 6, 7, 8, 9, 10, 11], [0, 1, 2, 3, 4, 5, 6, 7, 8, 9], [5, 6, 7, 8, 9], [], [], []]) (fa 22 0 2<|ld 23 1 false 22<|mv 24 1<|qq 25 (.slc 1 (.t 23) none (some (.t 24)) none)<|cl 26 58 [25]<|fa 27 0 2<|ld 28 1 false 27<|mv 29 1<|ia 30 1 28 29<|ld 31 1 false 30<|fa 32 0 2<|ld 33 1 false 32<|mv 34 1<|bc 35 .add 34 1<|qq 36 (.slc 1 (.t 33) (some (.t 35)) none none)<|cl 37 58 [36]<|qq 38 (.build [(.p (.int .i64 0)),(.p (.int .i64 0)),(.p (.int .i64 0))] [(0, 1, (.t 26)),(1, 1, (.t 31)),(2, 1, (.t 37))])<|st 3 4 38<|mc 5 0<|.nil) [4,5] [2,4])<|
.ret)))
theorem pure_reduce_lanes : PureT Tryz.prog fi_reduce_lanes 39 a_reduce_lanes [.cell 3 true 4,.tmp 5] := pureT_of Tryz.call238 Tryz.func238
def a_reduce_lane_at : ACode := (sr [1,2,3] [3] (nn 3 (.box 3 (.t 0))<|mc 6 0<|.nil)<|
(.seq (.region (some [[], [0], [0], [], [0, 1, 2, 3], [0, 1, 2, 3], [], [0, 1, 2, 3, 4, 5, 6], [], [0, 1, 2, 3, 4, 5, 6, 7, 8], [0, 1, 2, 3, 4, 5, 6, 7, 8], [], [0, 1, 2, 3, 4, 5, 6, 7, 8, 9, 10, 11], [0, 1, 2, 3, 4, 5, 6, 7, 8, 9, 10, 11, 12], [0, 1, 2, 3, 4, 5, 6, 7, 8, 9, 10, 11, 12], [0, 1, 2, 3, 4, 5, 6, 7, 8, 9, 10, 11], [], []]) (mv 7 1<|fa 8 2 3<|ld 9 1 false 8<|bt 10 .quo 7 9<|fa 11 1 3<|ld 12 1 false 11<|bt 13 .mul 10 12<|mv 14 2<|bt 15 .add 13 14<|fa 16 2 3<|ld 17 1 false 16<|bt 18 .mul 15 17<|mv 19 1<|fa 20 2 3<|ld 21 1 false 20<|bt 22 .rem 19 21<|bt 23 .add 18 22<|mv 6 23<|.nil) [6] [3])<|
.ret))
theorem pure_reduce_lane_at : PureT Tryz.prog fi_reduce_lane_at 24 a_reduce_lane_at [.tmp 6] := pureT_of Tryz.call239 Tryz.func239
def a_fix_Div : ACode := (sr [0,1] [] (mc 4 0<|mc 5 0<|.nil)<|
(ib [0,1,13] [] (mv 12 1<|bc 13 .eql 12 0<|.nil) 13 (sr [4,5] [] (mc 4 0<|mc 5 11<|.nil)<|
.ret)<|
(sr [0,1,6,7] [] (mv 14 0<|cl 15 67 [14]<|mv 16 1<|cl 17 67 [16]<|mv 6 15<|mv 7 17<|.nil)<|
(sr [0,1,6,7,8] [8] (nn 8 (.allocA 1 [[(.int .u64 0)],[(.int .u64 0)]])<|.nil)<|
(sr [0,1,7,8,9,10] [8] (mv 18 6<|qq 19 (.bin .shr (.t 18) (.c (.one (.p (.int .u64 32)))))<|mv 20 6<|qq 21 (.bin .shl (.t 20) (.c (.one (.p (.int .u64 32)))))<|mv 9 19<|mv 10 21<|.nil)<|
(.seq (.region (some [[], [0], [], [0, 1, 2], [0, 1, 2, 3], [0, 1, 2], [3, 4, 5], [3, 4, 5], []]) (mv 22 9<|mv 23 7<|bt 24 .quo 22 23<|mv 25 9<|mv 26 7<|bt 27 .rem 25 26<|qq 28 (.iaddrA 2 1 (.t 8) (ic 0))<|st 1 28 24<|mv 9 27<|.nil) [0,1,7,8,9,10] [8])<|
(sr [0,1,7,8,9,10] [8] (qq 11 (.mov (.c (.one (.p (.int .u64 0)))))<|.nil)<|
(sr [0,1,8,11] [8] (mv 30 9<|mv 31 10<|mv 32 7<|cl 33 272 [30,31,32]<|mv 29 33<|xt 34 29 0<|xt 35 29 1<|qq 36 (.iaddrA 2 1 (.t 8) (ic 1))<|st 1 36 34<|mv 11 35<|.nil)<|
(.seq (.region (some [[], [0], [0], [0, 1, 2], [0, 1, 2, 3], [0, 1, 2], [], [], [7], [], []]) (ld 37 2 true 8<|mv 38 11<|qq 39 (.bin .neq (.t 38) (.c (.one (.p (.int .u64 0)))))<|mv 40 0<|mv 41 1<|cl 42 69 [40,41]<|cl 43 68 [37,39,42]<|xt 44 43 0<|xt 45 43 1<|mv 4 44<|mv 5 45<|.nil) [4,5] [8])<|
.ret)))))))))
theorem pure_fix_Div : PureT Tryz.prog fi_fix_Div 46 a_fix_Div [.tmp 4,.tmp 5] := pureT_of Tryz.call240 Tryz.func240
def a_elem_One_1 : ACode := (sr [0,1,2] [] (mc 4 0<|mc 5 0<|.nil)<|
(.seq (.region (some [[], [], [0, 1], [0, 1], [0, 1, 2, 3], [0, 1], [0, 1], [], [], [8], [], []]) (fa 6 0 1<|ld 7 1 false 6<|fa 8 1 2<|ld 9 1 false 8<|mv 10 0<|ia 11 1 9 10<|ld 12 1 false 11<|.op (some 13) none (.call (.t 7) [(.t 12)])<|xt 14 13 0<|xt 15 13 1<|mv 4 14<|mv 5 15<|.nil) [4,5] [])<|
.ret))
theorem pure_elem_One_1 : PureT Tryz.prog fi_elem_One_1 16 a_elem_One_1 [.tmp 4,.tmp 5] := pureT_of Tryz.call241 Tryz.func241
def a_shape_Fits : ACode := (sr [0,1] [] (qq 4 (.mov (.c (.one (.p (.bool false)))))<|.nil)<|
(sr [1,5,6] [] (mv 8 0<|mv 9 1<|cl 10 229 [8,9]<|mv 7 10<|xt 11 7 0<|xt 12 7 1<|mv 5 11<|mv 6 12<|.nil)<|
(sr [4] [] (mv 13 6<|bc 14 .eql 13 0<|mv 15 14<|.sc 19 15 true 18 none (.op (some 16) (some (15, true)) (.q (.mov (.t 5)))<|.op (some 17) (some (15, true)) (.q (.mov (.t 1)))<|.op (some 18) (some (15, true)) (.call (.c (.one (.p (.fn fi_slices_Equal_int_int [] [])))) [(.t 16),(.t 17)])<|.nil)<|mv 4 19<|.nil)<|
.ret)))
theorem pure_shape_Fits : PureT Tryz.prog fi_shape_Fits 20 a_shape_Fits [.tmp 4] := pureT_of Tryz.call242 Tryz.func242
def a_tensor_from : ACode := (sr [2,3] [2,3] (nn 2 (.box 1 (.t 0))<|nn 3 (.box 1 (.t 1))<|qq 4 (.mov (.c (.one (.p .nilF))))<|.nil)<|
(sr [4] [2,3] (qq 5 (.mkF fi_tensor_from_1 [] [(.t 3),(.t 2)])<|mv 4 5<|.nil)<|
.ret))
theorem pure_tensor_from : PureT Tryz.prog fi_tensor_from 6 a_tensor_from [.tmp 4] := pureT_of Tryz.call243 Tryz.func243
def a_fix_shifted : ACode := (sr [0,1] [] (mc 4 0<|mc 5 0<|.nil)<|
(ib [0,1,7] [] (mv 6 1<|bc 7 .lss 6 0<|.nil) 7 (sr [4,5] [] (mv 8 0<|mv 9 1<|qq 10 (.un .neg (.t 9))<|qq 11 (.conv .u64 (.t 10))<|qq 12 (.mm false (.t 11) (.c (.one (.p (.int .u64 63)))))<|bt 13 .shr 8 12<|qq 14 (.conv .i64 (.t 13))<|mv 4 14<|mc 5 0<|.nil)<|
.ret)<|
(.seq (.region (some [[], [0], [0], [], [], [0, 1, 2, 3, 4], [0, 1, 2, 3, 4], [0, 1, 2, 3, 4, 5, 6], [0, 1, 2, 3, 4], [0, 1, 2, 3, 4], [], [], [11], [], []]) (mv 15 0<|mv 16 1<|qq 17 (.mm false (.t 16) (ic 63))<|bt 18 .shl 15 17<|qq 19 (.conv .i64 (.t 18))<|mv 20 0<|cl 21 227 [20]<|mv 22 1<|bt 23 .add 21 22<|bc 24 .lss 23 64<|cl 25 235 [19,24]<|xt 26 25 0<|xt 27 25 1<|mv 4 26<|mv 5 27<|.nil) [4,5] [])<|
.ret)))
theorem pure_fix_shifted : PureT Tryz.prog fi_fix_shifted 28 a_fix_shifted [.tmp 4,.tmp 5] := pureT_of Tryz.call244 Tryz.func244
end Go.AM

namespace Go.AM
open Go Go.Proofs
set_option maxRecDepth 100000
def a_elem_kinds_1 : ACode := (sr [0] [] (mc 2 0<|mc 3 0<|.nil)<|
(sr [2,3] [] (mv 4 0<|qq 5 (.mm true (.t 4) (ic 0))<|mv 2 5<|mc 3 0<|.nil)<|
.ret))
theorem pure_elem_kinds_1 : PureT Tryz.prog fi_elem_kinds_1 6 a_elem_kinds_1 [.tmp 2,.tmp 3] := pureT_of Tryz.call264 Tryz.func264
def a_fix_Sub : ACode := (sr [0,1] [] (mc 4 0<|mc 5 0<|.nil)<|
(sr [0,1,6] [] (mv 7 0<|mv 8 1<|bt 9 .sub 7 8<|mv 6 9<|.nil)<|
(sr [4,5] [] (mv 10 6<|mv 11 0<|bc 12 .lss 11 0<|mv 13 1<|bc 14 .lss 13 0<|qq 15 (.eqB false (.t 12) (.t 14))<|mv 16 15<|.sc 22 16 false 21 none (.op (some 17) (some (16, false)) (.q (.mov (.t 6)))<|.op (some 18) (some (16, false)) (.q (.bin .lss (.t 17) (ic 0)))<|.op (some 19) (some (16, false)) (.q (.mov (.t 0)))<|.op (some 20) (some (16, false)) (.q (.bin .lss (.t 19) (ic 0)))<|.op (some 21) (some (16, false)) (.q (.eqB false (.t 18) (.t 20)))<|.nil)<|cl 23 235 [10,22]<|xt 24 23 0<|xt 25 23 1<|mv 4 24<|mv 5 25<|.nil)<|
.ret)))
theorem pure_fix_Sub : PureT Tryz.prog fi_fix_Sub 26 a_fix_Sub [.tmp 4,.tmp 5] := pureT_of Tryz.call265 Tryz.func265
def a_fix_Neg : ACode := (sr [0] [] (mc 2 0<|mc 3 0<|.nil)<|
(sr [2,3] [] (mv 4 0<|qq 5 (.un .neg (.t 4))<|mv 6 0<|bc 7 .neq 6 (-9223372036854775808)<|cl 8 235 [5,7]<|xt 9 8 0<|xt 10 8 1<|mv 2 9<|mv 3 10<|.nil)<|
.ret))
theorem pure_fix_Neg : PureT Tryz.prog fi_fix_Neg 11 a_fix_Neg [.tmp 2,.tmp 3] := pureT_of Tryz.call266 Tryz.func266
def a_fix_Pow : ACode := (sr [0] [] (mc 2 0<|mc 3 0<|.nil)<|
(sr [2,3] [] (mv 4 0<|bc 5 .and 4 4294967295<|qq 6 (.bin .add (ic 4294967296) (.t 5))<|qq 7 (.conv .u64 (.t 6))<|mv 8 0<|qq 9 (.bin .shr (.t 8) (.c (.one (.p (.int .u64 32)))))<|cl 10 244 [7,9]<|xt 11 10 0<|xt 12 10 1<|mv 2 11<|mv 3 12<|.nil)<|
.ret))
theorem pure_fix_Pow : PureT Tryz.prog fi_fix_Pow 13 a_fix_Pow [.tmp 2,.tmp 3] := pureT_of Tryz.call267 Tryz.func267
def a_fix_Sqrt : ACode := (sr [0] [] (mc 2 0<|mc 3 0<|.nil)<|
(ib [0,12] [] (mv 11 0<|bc 12 .lss 11 0<|.nil) 12 (sr [2,3] [] (mc 2 0<|mc 3 12<|.nil)<|
.ret)<|
(sr [0,4,5] [] (qq 4 (.mov (.c (.one (.p (.int .u64 0)))))<|qq 5 (.mov (.c (.one (.p (.int .u64 281474976710656)))))<|.nil)<|
(.seq (.block 0 (.loop (.seq (sr [0,4,5,16] [] (mv 13 5<|mv 14 4<|bt 15 .sub 13 14<|qq 16 (.bin .gtr (.t 15) (.c (.one (.p (.int .u64 1)))))<|.nil)<|
(cd 16 .skip (.exit 0)))<|
(.block 1 (sr [0,4,5,6] [] (mv 17 4<|mv 18 5<|bt 19 .add 17 18<|qq 20 (.bin .quo (.t 19) (.c (.one (.p (.int .u64 2)))))<|mv 6 20<|.nil)<|
(sr [0,4,5,6,7,8] [] (mv 22 6<|mv 23 6<|cl 24 66 [22,23]<|mv 21 24<|xt 25 21 0<|xt 26 21 1<|mv 7 25<|mv 8 26<|.nil)<|
(sr [0,4,5,6,7,10] [] (mv 28 0<|qq 29 (.conv .u64 (.t 28))<|qq 30 (.bin .shl (.t 29) (.c (.one (.p (.int .u64 32)))))<|mv 31 8<|qq 32 (.carry true (.t 30) (.t 31) (.c (.one (.p (.int .u64 0)))))<|mv 27 32<|xt 33 27 0<|xt 34 27 1<|mv 9 33<|mv 10 34<|.nil)<|
(sr [0,4,5,6,10] [] (mv 36 0<|qq 37 (.conv .u64 (.t 36))<|qq 38 (.bin .shr (.t 37) (.c (.one (.p (.int .u64 32)))))<|mv 39 7<|mv 40 10<|qq 41 (.carry true (.t 38) (.t 39) (.t 40))<|mv 35 41<|xt 42 35 0<|xt 43 35 1<|mv 10 43<|.nil)<|
(sr [0,4,5,6,45] [] (mv 44 10<|qq 45 (.bin .gtr (.t 44) (.c (.one (.p (.int .u64 0)))))<|.nil)<|
(cd 45 (rg [0,4,5] []<|mv 46 6<|mv 5 46<|.nil) (rg [0,4,5] []<|mv 47 6<|mv 4 47<|.nil)))))))))))<|
(sr [2,3] [] (mv 48 4<|qq 49 (.conv .i64 (.t 48))<|mv 2 49<|mc 3 0<|.nil)<|
.ret)))))
theorem pure_fix_Sqrt : PureT Tryz.prog fi_fix_Sqrt 50 a_fix_Sqrt [.tmp 2,.tmp 3] := pureT_of Tryz.call268 Tryz.func268
def a_shape_side : ACode := (sr [0,1] [] (mc 4 0<|.nil)<|
(ib [0,1,8] [] (mv 5 1<|mv 6 0<|le 7 6<|bt 8 .geq 5 7<|.nil) 8 (sr [4] [] (mc 4 1<|.nil)<|
.ret)<|
(sr [4] [] (mv 9 0<|mv 10 0<|le 11 10<|bc 12 .sub 11 1<|mv 13 1<|bt 14 .sub 12 13<|ia 15 1 9 14<|ld 16 1 false 15<|mv 4 16<|.nil)<|
.ret)))
theorem pure_shape_side : PureT Tryz.prog fi_shape_side 17 a_shape_side [.tmp 4] := pureT_of Tryz.call269 Tryz.func269
def a_move_indices_1 : ACode := (sr [0,1,7,8] [] (ld 6 1 false 1<|cl 7 58 [6]<|mc 8 0<|.nil)<|
(.block 0 (.loop (sr [0,1,7,8,9] [] (bt 9 .lss 8 7<|.nil)<|
(.seq (cd 9 .skip (.exit 0))<|
(.seq (.block 1 (sr [0,1,3,7,8] [] (mv 10 8<|mv 3 10<|.nil)<|
(sr [0,1,4,7,8] [] (ld 12 1 false 1<|mv 13 3<|cl 14 271 [12,13]<|mv 11 14<|xt 15 11 0<|xt 16 11 1<|mv 4 15<|mv 5 16<|.nil)<|
(sr [0,1,7,8,20] [] (mv 17 0<|mv 18 4<|.op (some 19) none (.call (.t 17) [(.t 18)])<|qq 20 (.un .not (.t 19))<|.nil)<|
(cd 20 .ret .skip)))))<|
(rg [0,1,7,8] []<|bc 21 .add 8 1<|mv 8 21<|.nil)))))))
theorem is_move_indices_1 : compC Tryz.prog (Tryz.f270.body.getD .skip) = some a_move_indices_1.erase := by kernel_rfl
theorem ok_move_indices_1 : a_move_indices_1.ok 22 = true := by kernel_rfl
theorem rv_move_indices_1 : compRV Tryz.prog Tryz.f270.results.toList = some [] := by kernel_rfl
theorem call_move_indices_1 (args : Array Value) (w : World) : (callFunc fi_move_indices_1 args).run Tryz.prog w = .ok (.enter fi_move_indices_1 args) w := Tryz.call270 args w
theorem func_move_indices_1 : Tryz.prog.funcs[fi_move_indices_1]? = some Tryz.f270 := Tryz.func270
def a_shape_Index : ACode := (sr [0,1] [] (qq 4 (.mov (.c (.one .nils)))<|mc 5 0<|.nil)<|
(ib [0,1,16] [] (mv 9 1<|bc 10 .lss 9 0<|mv 11 10<|.sc 16 11 false 15 none (.op (some 12) (some (11, false)) (.q (.mov (.t 1)))<|.op (some 13) (some (11, false)) (.q (.mov (.t 0)))<|.op (some 14) (some (11, false)) (.call (.c (.one (.p (.fn fi_shape_Size [] [])))) [(.t 13)])<|.op (some 15) (some (11, false)) (.q (.bin .geq (.t 12) (.t 14)))<|.nil)<|.nil) 16 (sr [4,5] [] (qq 4 (.mov (.c (.one .nils)))<|mc 5 20<|.nil)<|
.ret)<|
(sr [0,1,6] [19] (mv 17 0<|le 18 17<|nn 19 (.mkS 1 8 [(.int .i64 0)] (.t 18) (.t 18))<|mv 6 19<|.nil)<|
(.seq (sr [0,1,6,21,22] [19] (mv 20 0<|le 21 20<|mc 22 0<|.nil)<|
(.block 0 (.loop (sr [0,1,6,21,22,23] [19] (bt 23 .lss 22 21<|.nil)<|
(.seq (cd 23 .skip (.exit 0))<|
(.seq (.block 1 (sr [0,1,6,7,21,22] [19] (mv 24 22<|mv 7 24<|.nil)<|
(sr [0,1,6,8,21,22] [19] (mv 25 0<|le 26 25<|bc 27 .sub 26 1<|mv 28 7<|bt 29 .sub 27 28<|mv 8 29<|.nil)<|
(.region (some [[], [0], [0, 1], [0, 1, 2], [0, 1, 2, 3], [0, 1, 2], [0, 1, 2], [0, 1], [0, 1, 2, 3, 4, 5, 6, 7], [0, 1, 2, 3, 4, 5, 6, 7, 8], [0, 1, 2, 3, 4, 5, 6, 7, 8, 9], [0, 1, 2, 3, 4, 5, 6, 7, 8], [0, 1, 2, 3, 4, 5, 6, 7, 8], [0, 1, 2, 3, 4, 5, 6, 7], [8, 13], [8, 13], []]) (mv 30 6<|mv 31 8<|mv 32 1<|mv 33 0<|mv 34 8<|ia 35 1 33 34<|ld 36 1 false 35<|bt 37 .rem 32 36<|mv 38 1<|mv 39 0<|mv 40 8<|ia 41 1 39 40<|ld 42 1 false 41<|bt 43 .quo 38 42<|ia 44 1 30 31<|st 1 44 37<|mv 1 43<|.nil) [0,1,6,21,22] [19]))))<|
(rg [0,1,6,21,22] [19]<|bc 45 .add 22 1<|mv 22 45<|.nil)))))))<|
(sr [4,5] [19] (mv 46 6<|mv 4 46<|mc 5 0<|.nil)<|
.ret)))))
theorem pure_shape_Index : PureT Tryz.prog fi_shape_Index 47 a_shape_Index [.tmp 4,.tmp 5] := pureT_of Tryz.call271 Tryz.func271
def a_math_bits_Div64 : ACode := (sr [0,1,2] [] (qq 6 (.mov (.c (.one (.p (.int .u64 0)))))<|qq 7 (.mov (.c (.one (.p (.int .u64 0)))))<|.nil)<|
(ib [0,1,2,20] [] (mv 19 2<|qq 20 (.bin .eql (.t 19) (.c (.one (.p (.int .u64 0)))))<|.nil) 20 (rg [0,1,2] []<|.op (some 21) none .bad<|.op none none .bad<|.nil)<|
(ib [0,1,2,24] [] (mv 22 2<|mv 23 0<|bt 24 .leq 22 23<|.nil) 24 (rg [0,1,2] []<|.op (some 25) none .bad<|.op none none .bad<|.nil)<|
(ib [0,1,2,27] [] (mv 26 0<|qq 27 (.bin .eql (.t 26) (.c (.one (.p (.int .u64 0)))))<|.nil) 27 (.seq (.region (some [[], [0], [], [0, 1, 2], [0, 1, 2, 3], [0, 1, 2], [3, 4, 5], []]) (mv 28 1<|mv 29 2<|bt 30 .quo 28 29<|mv 31 1<|mv 32 2<|bt 33 .rem 31 32<|mv 6 30<|mv 7 33<|.nil) [6,7] [])<|
.ret)<|
(sr [0,1,2,8] [] (mv 34 2<|cl 35 282 [34]<|qq 36 (.conv .u64 (.t 35))<|mv 8 36<|.nil)<|
(sr [0,1,2,8] [] (mv 37 2<|mv 38 8<|bt 39 .shl 37 38<|mv 2 39<|.nil)<|
(sr [0,1,2,8,9] [] (mv 40 2<|qq 41 (.bin .shr (.t 40) (.c (.one (.p (.int .u64 32)))))<|mv 9 41<|.nil)<|
(sr [0,1,2,8,9,10] [] (mv 42 2<|qq 43 (.bin .and (.t 42) (.c (.one (.p (.int .u64 4294967295)))))<|mv 10 43<|.nil)<|
(sr [1,2,8,9,10,11] [] (mv 44 0<|mv 45 8<|bt 46 .shl 44 45<|mv 47 1<|mv 48 8<|qq 49 (.bin .sub (.c (.one (.p (.int .u64 64)))) (.t 48))<|bt 50 .shr 47 49<|bt 51 .or 46 50<|mv 11 51<|.nil)<|
(sr [2,8,9,10,11,12] [] (mv 52 1<|mv 53 8<|bt 54 .shl 52 53<|mv 12 54<|.nil)<|
(sr [2,8,9,10,11,12,13] [] (mv 55 12<|qq 56 (.bin .shr (.t 55) (.c (.one (.p (.int .u64 32)))))<|mv 13 56<|.nil)<|
(sr [2,8,9,10,11,13,14] [] (mv 57 12<|qq 58 (.bin .and (.t 57) (.c (.one (.p (.int .u64 4294967295)))))<|mv 14 58<|.nil)<|
(sr [2,8,9,10,11,13,14,15] [] (mv 59 11<|mv 60 9<|bt 61 .quo 59 60<|mv 15 61<|.nil)<|
(sr [2,8,9,10,11,13,14,15,16] [] (mv 62 11<|mv 63 15<|mv 64 9<|bt 65 .mul 63 64<|bt 66 .sub 62 65<|mv 16 66<|.nil)<|
(.seq (.block 0 (.loop (.seq (sr [2,8,9,10,11,13,14,15,16,78] [] (mv 67 15<|qq 68 (.bin .geq (.t 67) (.c (.one (.p (.int .u64 4294967296)))))<|mv 69 68<|.sc 78 69 false 77 none (.op (some 70) (some (69, false)) (.q (.mov (.t 15)))<|.op (some 71) (some (69, false)) (.q (.mov (.t 10)))<|.op (some 72) (some (69, false)) (.q (.bin .mul (.t 70) (.t 71)))<|.op (some 73) (some (69, false)) (.q (.mov (.t 16)))<|.op (some 74) (some (69, false)) (.q (.bin .mul (.c (.one (.p (.int .u64 4294967296)))) (.t 73)))<|.op (some 75) (some (69, false)) (.q (.mov (.t 13)))<|.op (some 76) (some (69, false)) (.q (.bin .add (.t 74) (.t 75)))<|.op (some 77) (some (69, false)) (.q (.bin .gtr (.t 72) (.t 76)))<|.nil)<|.nil)<|
(cd 78 .skip (.exit 0)))<|
(.block 1 (sr [2,8,9,10,11,13,14,15,16] [] (mv 79 15<|qq 80 (.bin .sub (.t 79) (.c (.one (.p (.int .u64 1)))))<|mv 15 80<|.nil)<|
(sr [2,8,9,10,11,13,14,15,16] [] (mv 81 16<|mv 82 9<|bt 83 .add 81 82<|mv 16 83<|.nil)<|
(sr [2,8,9,10,11,13,14,15,16,85] [] (mv 84 16<|qq 85 (.bin .geq (.t 84) (.c (.one (.p (.int .u64 4294967296)))))<|.nil)<|
(cd 85 (.exit 0) .skip))))))))<|
(sr [2,8,9,10,14,15,17] [] (mv 86 11<|qq 87 (.bin .mul (.t 86) (.c (.one (.p (.int .u64 4294967296)))))<|mv 88 13<|bt 89 .add 87 88<|mv 90 15<|mv 91 2<|bt 92 .mul 90 91<|bt 93 .sub 89 92<|mv 17 93<|.nil)<|
(sr [2,8,9,10,14,15,17,18] [] (mv 94 17<|mv 95 9<|bt 96 .quo 94 95<|mv 18 96<|.nil)<|
(sr [2,8,9,10,14,15,16,17,18] [] (mv 97 17<|mv 98 18<|mv 99 9<|bt 100 .mul 98 99<|bt 101 .sub 97 100<|mv 16 101<|.nil)<|
(.seq (.block 2 (.loop (.seq (sr [2,8,9,10,14,15,16,17,18,113] [] (mv 102 18<|qq 103 (.bin .geq (.t 102) (.c (.one (.p (.int .u64 4294967296)))))<|mv 104 103<|.sc 113 104 false 112 none (.op (some 105) (some (104, false)) (.q (.mov (.t 18)))<|.op (some 106) (some (104, false)) (.q (.mov (.t 10)))<|.op (some 107) (some (104, false)) (.q (.bin .mul (.t 105) (.t 106)))<|.op (some 108) (some (104, false)) (.q (.mov (.t 16)))<|.op (some 109) (some (104, false)) (.q (.bin .mul (.c (.one (.p (.int .u64 4294967296)))) (.t 108)))<|.op (some 110) (some (104, false)) (.q (.mov (.t 14)))<|.op (some 111) (some (104, false)) (.q (.bin .add (.t 109) (.t 110)))<|.op (some 112) (some (104, false)) (.q (.bin .gtr (.t 107) (.t 111)))<|.nil)<|.nil)<|
(cd 113 .skip (.exit 2)))<|
(.block 3 (sr [2,8,9,10,14,15,16,17,18] [] (mv 114 18<|qq 115 (.bin .sub (.t 114) (.c (.one (.p (.int .u64 1)))))<|mv 18 115<|.nil)<|
(sr [2,8,9,10,14,15,16,17,18] [] (mv 116 16<|mv 117 9<|bt 118 .add 116 117<|mv 16 118<|.nil)<|
(sr [2,8,9,10,14,15,16,17,18,120] [] (mv 119 16<|qq 120 (.bin .geq (.t 119) (.c (.one (.p (.int .u64 4294967296)))))<|.nil)<|
(cd 120 (.exit 2) .skip))))))))<|
(sr [6,7] [] (mv 121 15<|qq 122 (.bin .mul (.t 121) (.c (.one (.p (.int .u64 4294967296)))))<|mv 123 18<|bt 124 .add 122 123<|mv 125 17<|qq 126 (.bin .mul (.t 125) (.c (.one (.p (.int .u64 4294967296)))))<|mv 127 14<|bt 128 .add 126 127<|mv 129 18<|mv 130 2<|bt 131 .mul 129 130<|bt 132 .sub 128 131<|mv 133 8<|bt 134 .shr 132 133<|mv 6 124<|mv 7 134<|.nil)<|
.ret))))))))))))))))))))
theorem pure_math_bits_Div64 : PureT Tryz.prog fi_math_bits_Div64 135 a_math_bits_Div64 [.tmp 6,.tmp 7] := pureT_of Tryz.call272 Tryz.func272
def a_tensor_from_1 : ACode := (sr [0,1,2,4] [15] (ld 13 1 false 1<|le 14 13<|nn 15 (.mkS 1 8 [(.int .i64 0)] (.t 14) (.t 14))<|mv 4 15<|.nil)<|
(.seq (sr [0,1,2,4,5,6] [15] (ld 16 1 false 2<|le 17 16<|bc 18 .sub 17 1<|mv 5 18<|mc 6 1<|.nil)<|
(.block 0 (.loop (.seq (sr [0,1,2,4,5,6,20] [15] (mv 19 5<|bc 20 .geq 19 0<|.nil)<|
(cd 20 .skip (.exit 0)))<|
(.seq (.block 1 (ib [0,1,2,4,5,6,27] [15] (ld 23 1 false 2<|mv 24 5<|ia 25 1 23 24<|ld 26 1 false 25<|bc 27 .gtr 26 1<|.nil) 27 (rg [0,1,2,4,5,6] [15]<|mv 28 4<|ld 29 1 false 1<|le 30 29<|ld 31 1 false 2<|le 32 31<|bt 33 .sub 30 32<|mv 34 5<|bt 35 .add 33 34<|mv 36 6<|ia 37 1 28 35<|st 1 37 36<|.nil)<|
(rg [0,1,2,4,5,6] [15]<|mv 38 6<|ld 39 1 false 2<|mv 40 5<|ia 41 1 39 40<|ld 42 1 false 41<|bt 43 .mul 38 42<|mv 6 43<|.nil)))<|
(rg [0,1,2,4,5,6] [15]<|mv 21 5<|bc 22 .sub 21 1<|mv 5 22<|.nil))))))<|
(sr [0,1,4,45,46] [15] (ld 44 1 false 1<|cl 45 58 [44]<|mc 46 0<|.nil)<|
(.block 2 (.loop (sr [0,1,4,45,46,47] [15] (bt 47 .lss 46 45<|.nil)<|
(.seq (cd 47 .skip (.exit 2))<|
(.seq (.block 3 (sr [0,1,4,7,45,46] [15] (mv 48 46<|mv 7 48<|.nil)<|
(sr [0,1,4,7,8,45,46] [15] (ld 50 1 false 1<|mv 51 7<|cl 52 271 [50,51]<|mv 49 52<|xt 53 49 0<|xt 54 49 1<|mv 8 53<|mv 9 54<|.nil)<|
(sr [0,1,4,7,8,10,45,46] [15] (mc 10 0<|.nil)<|
(.seq (sr [0,1,4,7,10,45,46,55,56,57] [15] (mv 55 8<|le 56 55<|mc 57 0<|.nil)<|
(.block 4 (.loop (sr [0,1,4,7,10,45,46,55,56,57,58] [15] (bt 58 .lss 57 56<|.nil)<|
(.seq (cd 58 .skip (.exit 4))<|
(.seq (.block 5 (sr [0,1,4,7,10,11,12,45,46,55,56,57] [15] (mv 59 57<|ia 60 1 55 57<|ld 61 1 false 60<|mv 11 59<|mv 12 61<|.nil)<|
(rg [0,1,4,7,10,45,46,55,56,57] [15]<|mv 62 10<|mv 63 12<|mv 64 4<|mv 65 11<|ia 66 1 64 65<|ld 67 1 false 66<|bt 68 .mul 63 67<|bt 69 .add 62 68<|mv 10 69<|.nil)))<|
(rg [0,1,4,7,10,45,46,55,56,57] [15]<|bc 70 .add 57 1<|mv 57 70<|.nil)))))))<|
(sr [0,1,4,45,46,75] [15] (mv 71 0<|mv 72 7<|mv 73 10<|.op (some 74) none (.call (.t 71) [(.t 72),(.t 73)])<|qq 75 (.un .not (.t 74))<|.nil)<|
(cd 75 .ret .skip)))))))<|
(rg [0,1,4,45,46] [15]<|bc 76 .add 46 1<|mv 46 76<|.nil)))))))))
theorem is_tensor_from_1 : compC Tryz.prog (Tryz.f273.body.getD .skip) = some a_tensor_from_1.erase := by kernel_rfl
theorem ok_tensor_from_1 : a_tensor_from_1.ok 77 = true := by kernel_rfl
theorem rv_tensor_from_1 : compRV Tryz.prog Tryz.f273.results.toList = some [] := by kernel_rfl
theorem call_tensor_from_1 (args : Array Value) (w : World) : (callFunc fi_tensor_from_1 args).run Tryz.prog w = .ok (.enter fi_tensor_from_1 args) w := Tryz.call273 args w
theorem func_tensor_from_1 : Tryz.prog.funcs[fi_tensor_from_1]? = some Tryz.f273 := Tryz.func273
def a_math_bits_LeadingZeros64 : ACode := (sr [0] [] (mc 2 0<|.nil)<|
(sr [2] [] (mv 3 0<|cl 4 227 [3]<|qq 5 (.bin .sub (ic 64) (.t 4))<|mv 2 5<|.nil)<|
.ret))
theorem pure_math_bits_LeadingZeros64 : PureT Tryz.prog fi_math_bits_LeadingZeros64 6 a_math_bits_LeadingZeros64 [.tmp 2] := pureT_of Tryz.call282 Tryz.func282
end Go.AM

