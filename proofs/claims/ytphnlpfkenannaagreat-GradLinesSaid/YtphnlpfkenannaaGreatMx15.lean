import Derived.Test.YtphnlpfkenannaaGreatMx14
set_option linter.unusedVariables false
set_option linter.unusedSimpArgs false
namespace Go.AM
open Go Go.Proofs
set_option maxRecDepth 100000
def a_eval_rules_2 : ACode := (sr [0,1,4] [4] (al 4 [.nils,.nils,(.p (.int .i64 0))]<|.nil)<|
(sr [4] [4] (mv 5 0<|qq 6 (.iaddr 2 (.t 5) (ic 0))<|ld 7 2 true 6<|mv 8 1<|cl 9 78 [7,8]<|xt 10 9 0<|xt 11 9 1<|cl 12 75 [10,11]<|st 3 4 12<|.nil)<|
.ret))
theorem pure_eval_rules_2 : PureT Tryz.prog fi_eval_rules_2 13 a_eval_rules_2 [.cell 3 true 4] := pureT_of Tryz.call77 Tryz.func77
def a_move_Reshape : ACode := (sr [1,2,4] [2,4] (nn 2 (.box 2 (.t 0))<|al 4 [.nils,.nils]<|mc 5 0<|.nil)<|
(.seq (.block 0 (sr [1,2,4,6] [2,4] (ld 7 2 true 2<|cl 8 31 [7]<|qq 9 (.un .not (.t 8))<|mv 6 9<|.nil)<|
(cd 6 (sr [4,5] [2,4] (qq 10 (.build [.nils,.nils] [])<|st 2 4 10<|mc 5 30<|.nil)<|
.ret) (.seq (.region (some [[], [], [], [], [], [], [4, 5], [4, 5], [4, 5], [], [], []]) (mv 12 1<|cl 13 55 [12]<|qq 14 (.un .not (.t 13))<|mv 15 14<|.sc 22 15 false 21 none (.op (some 16) (some (15, false)) (.q (.mov (.t 1)))<|.op (some 17) (some (15, false)) (.call (.c (.one (.p (.fn fi_shape_Size [] [])))) [(.t 16)])<|.op (some 18) (some (15, false)) (.q (.faddr 1 (.t 2)))<|.op (some 19) (some (15, false)) (.q (.load 1 false (.t 18)))<|.op (some 20) (some (15, false)) (.q (.len (.t 19)))<|.op (some 21) (some (15, false)) (.q (.bin .neq (.t 17) (.t 20)))<|.nil)<|mv 11 22<|.nil) [1,2,4,11] [2,4])<|
(cd 11 (sr [4,5] [2,4] (qq 23 (.build [.nils,.nils] [])<|st 2 4 23<|mc 5 20<|.nil)<|
.ret) .skip)))))<|
(.seq (.region (some [[], [], [0, 1], [0, 1], [], [], [], []]) (mv 24 1<|cl 25 56 [24]<|fa 26 1 2<|ld 27 1 false 26<|cl 28 56 [27]<|qq 29 (.build [.nils,.nils] [(0, 1, (.t 25)),(1, 1, (.t 28))])<|st 2 4 29<|mc 5 0<|.nil) [4,5] [2,4])<|
.ret)))
theorem pure_move_Reshape : PureT Tryz.prog fi_move_Reshape 30 a_move_Reshape [.cell 2 true 4,.tmp 5] := pureT_of Tryz.call78 Tryz.func78
def a_eval_rules_3 : ACode := (sr [0,4] [4] (al 4 [.nils,.nils,(.p (.int .i64 0))]<|.nil)<|
(sr [4] [4] (mv 5 0<|qq 6 (.iaddr 2 (.t 5) (ic 0))<|ld 7 2 true 6<|cl 8 80 [7]<|xt 9 8 0<|xt 10 8 1<|cl 11 75 [9,10]<|st 3 4 11<|.nil)<|
.ret))
theorem pure_eval_rules_3 : PureT Tryz.prog fi_eval_rules_3 12 a_eval_rules_3 [.cell 3 true 4] := pureT_of Tryz.call79 Tryz.func79
def a_move_Turn : ACode := (sr [1,2] [1,2] (nn 1 (.box 2 (.t 0))<|al 2 [.nils,.nils]<|mc 3 0<|.nil)<|
(ib [1,2,6] [1,2] (ld 4 2 true 1<|cl 5 31 [4]<|qq 6 (.un .not (.t 5))<|.nil) 6 (sr [2,3] [1,2] (qq 7 (.build [.nils,.nils] [])<|st 2 2 7<|mc 3 30<|.nil)<|
.ret)<|
(sr [2,3] [1,2] (fa 8 0 1<|ld 9 1 false 8<|cl 10 166 [9]<|qq 11 (.mkF fi_move_Turn_1 [] [(.t 1)])<|cl 12 165 [10,11]<|xt 13 12 0<|xt 14 12 1<|st 2 2 13<|mv 3 14<|.nil)<|
.ret)))
theorem pure_move_Turn : PureT Tryz.prog fi_move_Turn 15 a_move_Turn [.cell 2 true 2,.tmp 3] := pureT_of Tryz.call80 Tryz.func80
def a_eval_rules_4 : ACode := (sr [0,1,4] [4] (al 4 [.nils,.nils,(.p (.int .i64 0))]<|.nil)<|
(.seq (.region (some [[], [], [], [0, 1, 2], [0, 1, 2], [0, 1, 2], [0, 1, 2, 3, 4, 5], [0, 1, 2, 3, 4, 5], [0, 1, 2, 3, 4, 5], [0, 1, 2, 3, 4, 5, 6, 7, 8], [0, 1, 2, 3, 4, 5, 6, 7, 8], [0, 1, 2, 3, 4, 5, 6, 7, 8], [], [], [13], [], []]) (mv 5 0<|qq 6 (.iaddr 2 (.t 5) (ic 0))<|ld 7 2 true 6<|mv 8 1<|qq 9 (.iaddr 1 (.t 8) (ic 0))<|ld 10 1 false 9<|mv 11 1<|qq 12 (.iaddr 1 (.t 11) (ic 1))<|ld 13 1 false 12<|mv 14 1<|qq 15 (.iaddr 1 (.t 14) (ic 2))<|ld 16 1 false 15<|cl 17 82 [7,10,13,16]<|xt 18 17 0<|xt 19 17 1<|cl 20 75 [18,19]<|st 3 4 20<|.nil) [4] [4])<|
.ret))
theorem pure_eval_rules_4 : PureT Tryz.prog fi_eval_rules_4 21 a_eval_rules_4 [.cell 3 true 4] := pureT_of Tryz.call81 Tryz.func81
def a_move_Slice : ACode := (sr [3,4,5,6,8] [4,5,6,8] (nn 4 (.box 2 (.t 0))<|nn 5 (.box 1 (.t 1))<|nn 6 (.box 1 (.t 2))<|al 8 [.nils,.nils]<|mc 9 0<|.nil)<|
(.seq (.block 0 (sr [3,4,5,6,8,10] [4,5,6,8] (ld 11 2 true 4<|cl 12 31 [11]<|qq 13 (.un .not (.t 12))<|mv 10 13<|.nil)<|
(cd 10 (sr [8,9] [4,5,6,8] (qq 14 (.build [.nils,.nils] [])<|st 2 8 14<|mc 9 30<|.nil)<|
.ret) (sr [3,4,5,6,8,15] [4,5,6,8] (ld 16 1 false 5<|bc 17 .lss 16 0<|mv 18 17<|.sc 24 18 false 23 none (.op (some 19) (some (18, false)) (.q (.load 1 false (.t 5)))<|.op (some 20) (some (18, false)) (.q (.faddr 0 (.t 4)))<|.op (some 21) (some (18, false)) (.q (.load 1 false (.t 20)))<|.op (some 22) (some (18, false)) (.q (.len (.t 21)))<|.op (some 23) (some (18, false)) (.q (.bin .geq (.t 19) (.t 22)))<|.nil)<|mv 25 24<|.sc 28 25 false 27 none (.op (some 26) (some (25, false)) (.q (.load 1 false (.t 6)))<|.op (some 27) (some (25, false)) (.q (.bin .lss (.t 26) (ic 0)))<|.nil)<|mv 29 28<|.sc 33 29 false 32 none (.op (some 30) (some (29, false)) (.q (.load 1 false (.t 6)))<|.op (some 31) (some (29, false)) (.q (.mov (.t 3)))<|.op (some 32) (some (29, false)) (.q (.bin .geq (.t 30) (.t 31)))<|.nil)<|mv 34 33<|.sc 42 34 false 41 none (.op (some 35) (some (34, false)) (.q (.mov (.t 3)))<|.op (some 36) (some (34, false)) (.q (.faddr 0 (.t 4)))<|.op (some 37) (some (34, false)) (.q (.load 1 false (.t 36)))<|.op (some 38) (some (34, false)) (.q (.load 1 false (.t 5)))<|.op (some 39) (some (34, false)) (.q (.iaddr 1 (.t 37) (.t 38)))<|.op (some 40) (some (34, false)) (.q (.load 1 false (.t 39)))<|.op (some 41) (some (34, false)) (.q (.bin .gtr (.t 35) (.t 40)))<|.nil)<|mv 15 42<|.nil)<|
(cd 15 (sr [8,9] [4,5,6,8] (qq 43 (.build [.nils,.nils] [])<|st 2 8 43<|mc 9 20<|.nil)<|
.ret) .skip)))))<|
(sr [8,9] [4,5,6,8] (fa 44 0 4<|ld 45 1 false 44<|ld 46 1 false 5<|mv 47 3<|ld 48 1 false 6<|bt 49 .sub 47 48<|cl 50 169 [45,46,49]<|qq 51 (.mkF fi_move_Slice_1 [] [(.t 4),(.t 5),(.t 6)])<|cl 52 165 [50,51]<|xt 53 52 0<|xt 54 52 1<|st 2 8 53<|mv 9 54<|.nil)<|
.ret)))
theorem pure_move_Slice : PureT Tryz.prog fi_move_Slice 55 a_move_Slice [.cell 2 true 8,.tmp 9] := pureT_of Tryz.call82 Tryz.func82
def a_eval_rules_5 : ACode := (sr [0,1,4] [4] (al 4 [.nils,.nils,(.p (.int .i64 0))]<|.nil)<|
(.seq (.region (some [[], [], [], [0, 1, 2], [0, 1, 2], [0, 1, 2], [0, 1, 2, 3, 4, 5], [0, 1, 2, 3, 4, 5], [0, 1, 2, 3, 4, 5], [], [], [10], [], []]) (mv 5 0<|qq 6 (.iaddr 2 (.t 5) (ic 0))<|ld 7 2 true 6<|mv 8 0<|qq 9 (.iaddr 2 (.t 8) (ic 1))<|ld 10 2 true 9<|mv 11 1<|qq 12 (.iaddr 1 (.t 11) (ic 0))<|ld 13 1 false 12<|cl 14 84 [7,10,13]<|xt 15 14 0<|xt 16 14 1<|cl 17 75 [15,16]<|st 3 4 17<|.nil) [4] [4])<|
.ret))
theorem pure_eval_rules_5 : PureT Tryz.prog fi_eval_rules_5 18 a_eval_rules_5 [.cell 3 true 4] := pureT_of Tryz.call83 Tryz.func83
def a_move_Join : ACode := (sr [3,4,5,6] [3,4,5,6] (nn 3 (.box 2 (.t 0))<|nn 4 (.box 2 (.t 1))<|nn 5 (.box 1 (.t 2))<|al 6 [.nils,.nils]<|mc 7 0<|.nil)<|
(.seq (.block 0 (sr [3,4,5,6,10] [3,4,5,6] (ld 11 2 true 3<|cl 12 31 [11]<|qq 13 (.un .not (.t 12))<|mv 14 13<|.sc 18 14 false 17 none (.op (some 15) (some (14, false)) (.q (.load 2 true (.t 4)))<|.op (some 16) (some (14, false)) (.call (.c (.one (.p (.fn fi_tensor_Check [] [])))) [(.t 15)])<|.op (some 17) (some (14, false)) (.q (.un .not (.t 16)))<|.nil)<|mv 10 18<|.nil)<|
(cd 10 (sr [6,7] [3,4,5,6] (qq 19 (.build [.nils,.nils] [])<|st 2 6 19<|mc 7 30<|.nil)<|
.ret) (.seq (.region (some ([] :: [] :: [] :: [] :: [3] :: [3] :: [3] :: [] :: [] :: [] :: [] :: [] :: [] :: [10, 11, 12] :: [10, 11, 12] :: [10, 11, 12] :: [] :: [] :: [] :: [] :: [] :: [19, 20] :: [19, 20, 21] :: [19, 20, 21] :: [19, 20, 21, 22, 23] :: [19, 20, 21] :: [19, 20, 21] :: [] :: [19, 20, 21, 22, 23, 24, 25, 26, 27] :: [19, 20, 21, 22, 23, 24, 25, 26, 27] :: [] :: [] :: [] :: [] :: [])) (ld 21 1 false 5<|bc 22 .lss 21 0<|mv 23 22<|.sc 29 23 false 28 none (.op (some 24) (some (23, false)) (.q (.load 1 false (.t 5)))<|.op (some 25) (some (23, false)) (.q (.faddr 0 (.t 3)))<|.op (some 26) (some (23, false)) (.q (.load 1 false (.t 25)))<|.op (some 27) (some (23, false)) (.q (.len (.t 26)))<|.op (some 28) (some (23, false)) (.q (.bin .geq (.t 24) (.t 27)))<|.nil)<|mv 30 29<|.sc 38 30 false 37 none (.op (some 31) (some (30, false)) (.q (.faddr 0 (.t 3)))<|.op (some 32) (some (30, false)) (.q (.load 1 false (.t 31)))<|.op (some 33) (some (30, false)) (.q (.len (.t 32)))<|.op (some 34) (some (30, false)) (.q (.faddr 0 (.t 4)))<|.op (some 35) (some (30, false)) (.q (.load 1 false (.t 34)))<|.op (some 36) (some (30, false)) (.q (.len (.t 35)))<|.op (some 37) (some (30, false)) (.q (.bin .neq (.t 33) (.t 36)))<|.nil)<|mv 39 38<|.sc 53 39 false 52 none (.op (some 40) (some (39, false)) (.q (.faddr 0 (.t 3)))<|.op (some 41) (some (39, false)) (.q (.load 1 false (.t 40)))<|.op (some 42) (some (39, false)) (.q (.load 1 false (.t 5)))<|.op (some 43) (some (39, false)) (.q (.faddr 0 (.t 4)))<|.op (some 44) (some (39, false)) (.q (.load 1 false (.t 43)))<|.op (some 45) (some (39, false)) (.q (.load 1 false (.t 5)))<|.op (some 46) (some (39, false)) (.q (.iaddr 1 (.t 44) (.t 45)))<|.op (some 47) (some (39, false)) (.q (.load 1 false (.t 46)))<|.op (some 48) (some (39, false)) (.call (.c (.one (.p (.fn fi_move_sided [] [])))) [(.t 41),(.t 42),(.t 47)])<|.op (some 49) (some (39, false)) (.q (.faddr 0 (.t 4)))<|.op (some 50) (some (39, false)) (.q (.load 1 false (.t 49)))<|.op (some 51) (some (39, false)) (.call (.c (.one (.p (.fn fi_slices_Equal_int_int [] [])))) [(.t 48),(.t 50)])<|.op (some 52) (some (39, false)) (.q (.un .not (.t 51)))<|.nil)<|mv 20 53<|.nil) [3,4,5,6,20] [3,4,5,6])<|
(cd 20 (sr [6,7] [3,4,5,6] (qq 54 (.build [.nils,.nils] [])<|st 2 6 54<|mc 7 20<|.nil)<|
.ret) .skip)))))<|
(sr [3,4,5,6,8] [3,4,5,6,8] (fa 55 0 3<|ld 56 1 false 55<|ld 57 1 false 5<|ia 58 1 56 57<|ld 59 1 false 58<|al 8 [(.p (.int .i64 0))]<|st 1 8 59<|.nil)<|
(.seq (.region (some [[], [], [0, 1], [0, 1, 2], [0, 1, 2, 3], [0, 1, 2, 3], [0, 1, 2, 3, 4, 5], [0, 1, 2, 3], [0, 1, 2, 3], [0, 1, 2], [], []]) (fa 60 0 3<|ld 61 1 false 60<|ld 62 1 false 5<|ld 63 1 false 8<|fa 64 0 4<|ld 65 1 false 64<|ld 66 1 false 5<|ia 67 1 65 66<|ld 68 1 false 67<|bt 69 .add 63 68<|cl 70 169 [61,62,69]<|mv 9 70<|.nil) [3,4,5,6,8,9] [3,4,5,6,8])<|
(ib [3,4,5,6,8,9,73] [3,4,5,6,8] (mv 71 9<|cl 72 55 [71]<|qq 73 (.un .not (.t 72))<|.nil) 73 (sr [6,7] [3,4,5,6,8] (qq 74 (.build [.nils,.nils] [])<|st 2 6 74<|mc 7 20<|.nil)<|
.ret)<|
(sr [6,7] [3,4,5,6,8] (mv 75 9<|qq 76 (.mkF fi_move_Join_1 [] [(.t 5),(.t 8),(.t 3),(.t 4)])<|cl 77 165 [75,76]<|xt 78 77 0<|xt 79 77 1<|st 2 6 78<|mv 7 79<|.nil)<|
.ret))))))
theorem pure_move_Join : PureT Tryz.prog fi_move_Join 80 a_move_Join [.cell 2 true 6,.tmp 7] := pureT_of Tryz.call84 Tryz.func84
def a_eval_side : ACode := (sr [1] [1] (nn 1 (.box 1 (.t 0))<|qq 2 (.mov (.c (.one (.p .nilF))))<|.nil)<|
(sr [2] [1] (qq 3 (.mkF fi_eval_side_1 [] [(.t 1)])<|mv 2 3<|.nil)<|
.ret))
theorem pure_eval_side : PureT Tryz.prog fi_eval_side 4 a_eval_side [.tmp 2] := pureT_of Tryz.call85 Tryz.func85
def a_reduce_Sum : ACode := (sr [1,2,4] [2,4] (nn 2 (.box 2 (.t 0))<|al 4 [.nils,.nils]<|mc 5 0<|.nil)<|
(sr [4,5] [2,4] (ld 6 2 true 2<|mv 7 1<|qq 8 (.build [(.p .nilF),(.p .nilF)] [(0, 1, (.c (.one (.p (.fn fi_fix_Add [] []))))),(1, 1, (.c (.one (.p (.fn fi_reduce_done [] [])))))])<|.op (some 9) none (.call (.c (.one (.p (.fn fi_reduce_together [] [])))) [(.t 6),(.t 7),(.t 8),(.c (.one (.p (.fn fi_reduce_none [] []))))])<|xt 10 9 0<|xt 11 9 1<|st 2 4 10<|mv 5 11<|.nil)<|
.ret))
theorem pure_reduce_Sum : PureT Tryz.prog fi_reduce_Sum 12 a_reduce_Sum [.cell 2 true 4,.tmp 5] := pureT_of Tryz.call86 Tryz.func86
def a_reduce_Mean : ACode := (sr [1,2,4] [2,4] (nn 2 (.box 2 (.t 0))<|al 4 [.nils,.nils]<|mc 5 0<|.nil)<|
(.seq (sr [1,2,4,7] [2,4,6] (ld 9 2 true 2<|mv 10 1<|cl 11 86 [9,10]<|mv 8 11<|xt 12 8 0<|xt 13 8 1<|al 6 [.nils,.nils]<|st 2 6 12<|mv 7 13<|.nil)<|
(sr [1,2,4,7,15] [2,4,6] (mv 14 7<|bc 15 .neq 14 0<|.nil)<|
(cd 15 (sr [4,5] [2,4,6] (qq 16 (.build [.nils,.nils] [])<|mv 17 7<|st 2 4 16<|mv 5 17<|.nil)<|
.ret) .skip)))<|
(sr [4,5] [2,4,6] (ld 18 2 true 2<|mv 19 1<|qq 20 (.build [(.p .nilF),(.p .nilF)] [(0, 1, (.c (.one (.p (.fn fi_fix_Add [] []))))),(1, 1, (.c (.one (.p (.fn fi_reduce_share [] [])))))])<|.op (some 21) none (.call (.c (.one (.p (.fn fi_reduce_together [] [])))) [(.t 18),(.t 19),(.t 20),(.c (.one (.p (.fn fi_reduce_none [] []))))])<|xt 22 21 0<|xt 23 21 1<|st 2 4 22<|mv 5 23<|.nil)<|
.ret)))
theorem pure_reduce_Mean : PureT Tryz.prog fi_reduce_Mean 24 a_reduce_Mean [.cell 2 true 4,.tmp 5] := pureT_of Tryz.call87 Tryz.func87
def a_reduce_Max : ACode := (sr [1,2,4] [2,4] (nn 2 (.box 2 (.t 0))<|al 4 [.nils,.nils]<|mc 5 0<|.nil)<|
(sr [4,5] [2,4] (ld 6 2 true 2<|mv 7 1<|qq 8 (.build [(.p .nilF),(.p .nilF)] [(0, 1, (.c (.one (.p (.fn fi_reduce_most [] []))))),(1, 1, (.c (.one (.p (.fn fi_reduce_done [] [])))))])<|.op (some 9) none (.call (.c (.one (.p (.fn fi_reduce_together [] [])))) [(.t 6),(.t 7),(.t 8),(.c (.one (.p (.fn fi_reduce_same [] []))))])<|xt 10 9 0<|xt 11 9 1<|st 2 4 10<|mv 5 11<|.nil)<|
.ret))
theorem pure_reduce_Max : PureT Tryz.prog fi_reduce_Max 12 a_reduce_Max [.cell 2 true 4,.tmp 5] := pureT_of Tryz.call88 Tryz.func88
def a_eval_two : ACode := (sr [1] [1] (nn 1 (.box 1 (.t 0))<|qq 2 (.mov (.c (.one (.p .nilF))))<|.nil)<|
(sr [2] [1] (qq 3 (.mkF fi_eval_two_1 [] [(.t 1)])<|mv 2 3<|.nil)<|
.ret))
theorem pure_eval_two : PureT Tryz.prog fi_eval_two 4 a_eval_two [.tmp 2] := pureT_of Tryz.call89 Tryz.func89
def a_eval_one : ACode := (sr [1] [1] (nn 1 (.box 1 (.t 0))<|qq 2 (.mov (.c (.one (.p .nilF))))<|.nil)<|
(sr [2] [1] (qq 3 (.mkF fi_eval_one_1 [] [(.t 1)])<|mv 2 3<|.nil)<|
.ret))
theorem pure_eval_one : PureT Tryz.prog fi_eval_one 4 a_eval_one [.tmp 2] := pureT_of Tryz.call90 Tryz.func90
def a_slices_IndexFunc_int_int : ACode := (sr [0,1] [] (mc 4 0<|.nil)<|
(.seq (sr [0,1,7,8] [] (mv 6 0<|le 7 6<|mc 8 0<|.nil)<|
(.block 0 (.loop (sr [0,1,7,8,9] [] (bt 9 .lss 8 7<|.nil)<|
(.seq (cd 9 .skip (.exit 0))<|
(.seq (.block 1 (sr [0,1,5,7,8] [] (mv 10 8<|mv 5 10<|.nil)<|
(sr [0,1,5,7,8,16] [] (mv 11 1<|mv 12 0<|mv 13 5<|ia 14 1 12 13<|ld 15 1 false 14<|.op (some 16) none (.call (.t 11) [(.t 15)])<|.nil)<|
(cd 16 (sr [4] [] (mv 17 5<|mv 4 17<|.nil)<|
.ret) .skip))))<|
(rg [0,1,7,8] []<|bc 18 .add 8 1<|mv 8 18<|.nil)))))))<|
(sr [4] [] (mc 4 (-1)<|.nil)<|
.ret)))
theorem pure_slices_IndexFunc_int_int : PureT Tryz.prog fi_slices_IndexFunc_int_int 19 a_slices_IndexFunc_int_int [.tmp 4] := pureT_of Tryz.call91 Tryz.func91
def a_vjp_same : ACode := (sr [1] [1] (nn 1 (.box 1 (.t 0))<|qq 2 (.mov (.c (.one (.p .nilF))))<|.nil)<|
(sr [2] [1] (qq 3 (.mkF fi_vjp_same_1 [] [(.t 1)])<|mv 2 3<|.nil)<|
.ret))
theorem pure_vjp_same : PureT Tryz.prog fi_vjp_same 4 a_vjp_same [.tmp 2] := pureT_of Tryz.call92 Tryz.func92
def a_vjp_call_folded : ACode := (sr [0,2,4,6] [4,6] (nn 4 (.box 2 (.t 1))<|al 6 [.nils,.nils]<|.nil)<|
(ib [0,2,4,6,11] [4,6] (mv 7 0<|qq 8 (.nck (.t 7))<|fa 9 8 8<|ld 10 1 false 9<|bc 11 .neq 10 0<|.nil) 11 .ret<|
(.seq (.region (some [[], [0], [0, 1], [0, 1], [0, 1], [0, 1], [0, 1, 2, 3, 4, 5], [0, 1], [0, 1], [0, 1], [0], [0], [0, 11], [], []]) (mv 12 0<|ld 13 2 true 4<|mv 14 0<|qq 15 (.nck (.t 14))<|fa 16 3 15<|ld 17 1 false 16<|mv 18 2<|ia 19 2 17 18<|fa 20 0 19<|ld 21 1 false 20<|cl 22 184 [13,21]<|xt 23 22 0<|xt 24 22 1<|cl 25 104 [12,23,24]<|st 2 6 25<|.nil) [6] [4,6])<|
.ret)))
theorem mut_vjp_call_folded : MutT Tryz.prog fi_vjp_call_folded 26 a_vjp_call_folded [.cell 2 true 6] := mutT_of Tryz.call94 Tryz.func94
def a_vjp_by : ACode := (sr [3,4,5] [3,4,5] (nn 3 (.box 1 (.t 0))<|nn 4 (.box 1 (.t 1))<|nn 5 (.box 1 (.t 2))<|qq 6 (.mov (.c (.one (.p .nilF))))<|.nil)<|
(sr [6] [3,4,5] (qq 7 (.mkF fi_vjp_by_1 [] [(.t 3),(.t 4),(.t 5)])<|mv 6 7<|.nil)<|
.ret))
theorem pure_vjp_by : PureT Tryz.prog fi_vjp_by 8 a_vjp_by [.tmp 6] := pureT_of Tryz.call96 Tryz.func96
def a_vjp_call_two : ACode := (sr [0,1,6,7,8] [6,7,8] (nn 6 (.box 2 (.t 2))<|nn 7 (.box 2 (.t 3))<|al 8 [.nils,.nils]<|.nil)<|
(ib [0,1,6,7,8,13] [6,7,8] (mv 9 0<|qq 10 (.nck (.t 9))<|fa 11 8 10<|ld 12 1 false 11<|bc 13 .neq 12 0<|.nil) 13 .ret<|
(sr [8] [6,7,8] (mv 14 0<|mv 15 1<|ld 16 2 true 6<|ld 17 2 true 7<|cl 18 144 [15,16,17]<|xt 19 18 0<|xt 20 18 1<|cl 21 104 [14,19,20]<|st 2 8 21<|.nil)<|
.ret)))
theorem mut_vjp_call_two : MutT Tryz.prog fi_vjp_call_two 22 a_vjp_call_two [.cell 2 true 8] := mutT_of Tryz.call98 Tryz.func98
def a_vjp_call_keep : ACode := (sr [0,2,4,6] [4,6] (nn 4 (.box 2 (.t 1))<|al 6 [.nils,.nils]<|.nil)<|
(ib [0,2,4,6,11] [4,6] (mv 7 0<|qq 8 (.nck (.t 7))<|fa 9 8 8<|ld 10 1 false 9<|bc 11 .eql 10 0<|.nil) 11 (rg [4,6] [4,6]<|mv 12 0<|mv 13 2<|qq 14 (.nck (.t 12))<|fa 15 8 14<|st 1 15 13<|.nil)<|
(sr [6] [4,6] (ld 16 2 true 4<|st 2 6 16<|.nil)<|
.ret)))
theorem mut_vjp_call_keep : MutT Tryz.prog fi_vjp_call_keep 17 a_vjp_call_keep [.cell 2 true 6] := mutT_of Tryz.call104 Tryz.func104
end Go.AM

namespace Go.AM
open Go Go.Proofs
set_option maxRecDepth 100000
def a_math_bits_Mul : ACode := (sr [0,1] [] (qq 4 (.mov (.c (.one (.p (.int .u64 0)))))<|qq 5 (.mov (.c (.one (.p (.int .u64 0)))))<|.nil)<|
(.seq (.cond (.c (.one (.p (.bool false)))) (sr [6,7] [] (mv 11 0<|qq 12 (.conv .u32 (.t 11))<|mv 13 1<|qq 14 (.conv .u32 (.t 13))<|cl 15 216 [12,14]<|mv 10 15<|xt 16 10 0<|xt 17 10 1<|mv 6 16<|mv 7 17<|.nil)<|
(sr [4,5] [] (mv 18 6<|qq 19 (.conv .u64 (.t 18))<|mv 20 7<|qq 21 (.conv .u64 (.t 20))<|mv 4 19<|mv 5 21<|.nil)<|
.ret))
 .skip)<|
(sr [8,9] [] (mv 23 0<|mv 24 1<|cl 25 66 [23,24]<|mv 22 25<|xt 26 22 0<|xt 27 22 1<|mv 8 26<|mv 9 27<|.nil)<|
(sr [4,5] [] (mv 28 8<|mv 29 9<|mv 4 28<|mv 5 29<|.nil)<|
.ret))))
theorem pure_math_bits_Mul : PureT Tryz.prog fi_math_bits_Mul 30 a_math_bits_Mul [.tmp 4,.tmp 5] := pureT_of Tryz.call141 Tryz.func141
def a_elem_Two : ACode := (sr [0,4,5,6] [4,5,6] (nn 4 (.box 2 (.t 1))<|nn 5 (.box 2 (.t 2))<|al 6 [.nils,.nils]<|mc 7 0<|.nil)<|
(sr [4,5,6,8] [4,5,6,8] (cl 15 228 []<|mv 16 0<|qq 17 (.mget (.agg [(.p .nilF),(.p .nilF)]) false (.t 15) (.t 16))<|al 8 [(.p .nilF),(.p .nilF)]<|st 2 8 17<|.nil)<|
(.seq (.block 0 (sr [4,5,6,8,18] [4,5,6,8] (fa 19 1 8<|ld 20 1 false 19<|qq 21 (.eqN 1 false (.t 20) (.c (.one (.p .nilF))))<|mv 18 21<|.nil)<|
(cd 18 (sr [6,7] [4,5,6,8] (qq 22 (.build [.nils,.nils] [])<|st 2 6 22<|mc 7 1<|.nil)<|
.ret) (sr [4,5,6,8,23] [4,5,6,8] (ld 24 2 true 4<|cl 25 31 [24]<|qq 26 (.un .not (.t 25))<|mv 27 26<|.sc 31 27 false 30 none (.op (some 28) (some (27, false)) (.q (.load 2 true (.t 5)))<|.op (some 29) (some (27, false)) (.call (.c (.one (.p (.fn fi_tensor_Check [] [])))) [(.t 28)])<|.op (some 30) (some (27, false)) (.q (.un .not (.t 29)))<|.nil)<|mv 23 31<|.nil)<|
(cd 23 (sr [6,7] [4,5,6,8] (qq 32 (.build [.nils,.nils] [])<|st 2 6 32<|mc 7 30<|.nil)<|
.ret) .skip)))))<|
(sr [4,5,6,8,9,10] [4,5,6,8] (fa 34 0 4<|ld 35 1 false 34<|fa 36 0 5<|ld 37 1 false 36<|cl 38 229 [35,37]<|mv 33 38<|xt 39 33 0<|xt 40 33 1<|mv 9 39<|mv 10 40<|.nil)<|
(ib [4,5,6,8,9,10,42] [4,5,6,8] (mv 41 10<|bc 42 .neq 41 0<|.nil) 42 (sr [6,7] [4,5,6,8] (qq 43 (.build [.nils,.nils] [])<|mv 44 10<|st 2 6 43<|mv 7 44<|.nil)<|
.ret)<|
(sr [5,6,8,9,11] [4,5,6,8,11] (ld 46 2 true 4<|mv 47 9<|cl 48 230 [46,47]<|mv 45 48<|xt 49 45 0<|xt 50 45 1<|al 11 [.nils,.nils]<|st 2 11 49<|mv 12 50<|.nil)<|
(sr [6,8,9,11,13] [4,5,6,8,11,13] (ld 52 2 true 5<|mv 53 9<|cl 54 230 [52,53]<|mv 51 54<|xt 55 51 0<|xt 56 51 1<|al 13 [.nils,.nils]<|st 2 13 55<|mv 14 56<|.nil)<|
(sr [6,7] [4,5,6,8,11,13] (mv 57 9<|qq 58 (.mkF fi_elem_Two_1 [] [(.t 8),(.t 11),(.t 13)])<|cl 59 231 [57,58]<|xt 60 59 0<|xt 61 59 1<|st 2 6 60<|mv 7 61<|.nil)<|
.ret))))))))
theorem pure_elem_Two : PureT Tryz.prog fi_elem_Two 62 a_elem_Two [.cell 2 true 6,.tmp 7] := pureT_of Tryz.call144 Tryz.func144
def a_slices_Reverse_int_int : ACode := (sr [0,2,3] [] (mv 4 0<|le 5 4<|bc 6 .sub 5 1<|mc 2 0<|mv 3 6<|.nil)<|
(.block 0 (.loop (.seq (sr [0,2,3,9] [] (mv 7 2<|mv 8 3<|bt 9 .lss 7 8<|.nil)<|
(cd 9 .skip (.exit 0)))<|
(.seq (.block 1 (.region (some [[], [0], [0, 1], [0, 1, 2], [0, 1, 2, 3], [0, 1, 2, 3, 4], [0, 1, 2, 3], [0, 1, 2, 3], [0, 1, 2, 3, 4, 5, 6, 7], [0, 1, 2, 3, 4, 5, 6, 7, 8], [0, 1, 2, 3, 4, 5, 6, 7], [0, 1, 2, 3, 4, 5, 6, 7], [2, 3], [2, 3], [], []]) (mv 14 0<|mv 15 2<|mv 16 0<|mv 17 3<|mv 18 0<|mv 19 3<|ia 20 1 18 19<|ld 21 1 false 20<|mv 22 0<|mv 23 2<|ia 24 1 22 23<|ld 25 1 false 24<|ia 26 1 14 15<|st 1 26 21<|ia 27 1 16 17<|st 1 27 25<|.nil) [0,2,3] []))<|
(rg [0,2,3] []<|mv 10 2<|bc 11 .add 10 1<|mv 12 3<|bc 13 .sub 12 1<|mv 2 11<|mv 3 13<|.nil))))))
theorem mut_slices_Reverse_int_int : MutT Tryz.prog fi_slices_Reverse_int_int 28 a_slices_Reverse_int_int [] := mutT_of Tryz.call145 Tryz.func145
def a_fix_wide_signed_1 : ACode := (sr [0] [] (qq 1 (.mov (.c (.one (.p (.int .u64 0)))))<|.nil)<|
(sr [0,1] [] (qq 3 (.iaddrA 2 1 (.t 0) (ic 1))<|ld 4 1 false 3<|qq 5 (.carry false (.t 4) (.c (.one (.p (.int .u64 1)))) (.c (.one (.p (.int .u64 0)))))<|mv 2 5<|xt 6 2 0<|xt 7 2 1<|qq 8 (.iaddrA 2 1 (.t 0) (ic 1))<|st 1 8 6<|mv 1 7<|.nil)<|
(rg [] []<|qq 9 (.iaddrA 2 1 (.t 0) (ic 0))<|ld 10 1 false 9<|mv 11 1<|bt 12 .add 10 11<|qq 13 (.iaddrA 2 1 (.t 0) (ic 0))<|st 1 13 12<|.nil)))
theorem mut_fix_wide_signed_1 : MutT Tryz.prog fi_fix_wide_signed_1 14 a_fix_wide_signed_1 [] := mutT_of Tryz.call146 Tryz.func146
def a_slices_IndexFunc_LL_int_int : ACode := (sr [0,1] [] (mc 4 0<|.nil)<|
(.seq (sr [0,1,7,8] [] (mv 6 0<|le 7 6<|mc 8 0<|.nil)<|
(.block 0 (.loop (sr [0,1,7,8,9] [] (bt 9 .lss 8 7<|.nil)<|
(.seq (cd 9 .skip (.exit 0))<|
(.seq (.block 1 (sr [0,1,5,7,8] [] (mv 10 8<|mv 5 10<|.nil)<|
(sr [0,1,5,7,8,16] [] (mv 11 1<|mv 12 0<|mv 13 5<|ia 14 1 12 13<|ld 15 1 false 14<|.op (some 16) none (.call (.t 11) [(.t 15)])<|.nil)<|
(cd 16 (sr [4] [] (mv 17 5<|mv 4 17<|.nil)<|
.ret) .skip))))<|
(rg [0,1,7,8] []<|bc 18 .add 8 1<|mv 8 18<|.nil)))))))<|
(sr [4] [] (mc 4 (-1)<|.nil)<|
.ret)))
theorem pure_slices_IndexFunc_LL_int_int : PureT Tryz.prog fi_slices_IndexFunc_LL_int_int 19 a_slices_IndexFunc_LL_int_int [.tmp 4] := pureT_of Tryz.call148 Tryz.func148
def a_infer_rules_1 : ACode := (sr [1] [] (qq 4 (.mov (.c (.one .nils)))<|qq 5 (.mov (.c (.one (.p (.bool false)))))<|.nil)<|
(sr [4,5] [] (mv 6 1<|cl 7 56 [6]<|mv 4 7<|qq 5 (.mov (.c (.one (.p (.bool true)))))<|.nil)<|
.ret))
theorem pure_infer_rules_1 : PureT Tryz.prog fi_infer_rules_1 8 a_infer_rules_1 [.tmp 4,.tmp 5] := pureT_of Tryz.call149 Tryz.func149
def a_infer_rules_2 : ACode := (sr [1] [] (qq 4 (.mov (.c (.one .nils)))<|qq 5 (.mov (.c (.one (.p (.bool false)))))<|.nil)<|
(sr [4,5] [] (mv 6 1<|qq 7 (.slc 1 (.t 6) (some (ic 1)) none none)<|cl 8 56 [7]<|mv 4 8<|qq 5 (.mov (.c (.one (.p (.bool true)))))<|.nil)<|
.ret))
theorem pure_infer_rules_2 : PureT Tryz.prog fi_infer_rules_2 9 a_infer_rules_2 [.tmp 4,.tmp 5] := pureT_of Tryz.call150 Tryz.func150
def a_infer_rules_3 : ACode := (sr [] [] (qq 4 (.mov (.c (.one .nils)))<|qq 5 (.mov (.c (.one (.p (.bool false)))))<|.nil)<|
(sr [4,5] [] (qq 4 (.mov (.c (.one .nils)))<|qq 5 (.mov (.c (.one (.p (.bool true)))))<|.nil)<|
.ret))
theorem pure_infer_rules_3 : PureT Tryz.prog fi_infer_rules_3 6 a_infer_rules_3 [.tmp 4,.tmp 5] := pureT_of Tryz.call151 Tryz.func151
def a_infer_rules_4 : ACode := (sr [0,1] [] (qq 4 (.mov (.c (.one .nils)))<|qq 5 (.mov (.c (.one (.p (.bool false)))))<|.nil)<|
(.seq (.region (some [[], [], [0, 1], [], [0, 1, 2, 3], [0, 1, 2, 3], [0, 1, 2, 3], [], [], [8], []]) (mv 6 1<|cl 7 56 [6]<|mv 8 1<|cl 9 58 [8]<|mv 10 0<|qq 11 (.iaddr 1 (.t 10) (ic 0))<|ld 12 1 false 11<|cl 13 58 [12]<|bt 14 .eql 9 13<|mv 4 7<|mv 5 14<|.nil) [4,5] [])<|
.ret))
theorem pure_infer_rules_4 : PureT Tryz.prog fi_infer_rules_4 15 a_infer_rules_4 [.tmp 4,.tmp 5] := pureT_of Tryz.call152 Tryz.func152
def a_infer_rules_5 : ACode := (sr [0] [] (qq 4 (.mov (.c (.one .nils)))<|qq 5 (.mov (.c (.one (.p (.bool false)))))<|.nil)<|
(sr [6] [] (mv 7 0<|qq 8 (.iaddr 1 (.t 7) (ic 0))<|ld 9 1 false 8<|cl 10 56 [9]<|mv 6 10<|.nil)<|
(sr [6] [] (mv 11 6<|cl 12 145 [11]<|.nil)<|
(sr [4,5] [] (mv 13 6<|mv 4 13<|qq 5 (.mov (.c (.one (.p (.bool true)))))<|.nil)<|
.ret))))
theorem pure_infer_rules_5 : PureT Tryz.prog fi_infer_rules_5 14 a_infer_rules_5 [.tmp 4,.tmp 5] := pureT_of Tryz.call153 Tryz.func153
def a_infer_rules_6 : ACode := (sr [0,4,5] [] (qq 4 (.mov (.c (.one .nils)))<|qq 5 (.mov (.c (.one (.p (.bool false)))))<|.nil)<|
(.seq (.seq (.region (some ([] :: [] :: [] :: [] :: [] :: [] :: [] :: [] :: [] :: [] :: [] :: [] :: [] :: [] :: [] :: [] :: [] :: [] :: [13, 14, 15, 16, 17] :: [13, 14, 15, 16, 17] :: [13, 14, 15, 16, 17] :: [13, 14, 15, 16, 17] :: [13, 14, 15, 16, 17] :: [] :: [] :: [])) (mv 6 0<|qq 7 (.iaddr 1 (.t 6) (ic 0))<|ld 8 1 false 7<|le 9 8<|bc 10 .neq 9 2<|mv 11 10<|.sc 17 11 false 16 none (.op (some 12) (some (11, false)) (.q (.mov (.t 0)))<|.op (some 13) (some (11, false)) (.q (.iaddr 1 (.t 12) (ic 1)))<|.op (some 14) (some (11, false)) (.q (.load 1 false (.t 13)))<|.op (some 15) (some (11, false)) (.q (.len (.t 14)))<|.op (some 16) (some (11, false)) (.q (.bin .neq (.t 15) (ic 2)))<|.nil)<|mv 18 17<|.sc 30 18 false 29 none (.op (some 19) (some (18, false)) (.q (.mov (.t 0)))<|.op (some 20) (some (18, false)) (.q (.iaddr 1 (.t 19) (ic 0)))<|.op (some 21) (some (18, false)) (.q (.load 1 false (.t 20)))<|.op (some 22) (some (18, false)) (.q (.iaddr 1 (.t 21) (ic 1)))<|.op (some 23) (some (18, false)) (.q (.load 1 false (.t 22)))<|.op (some 24) (some (18, false)) (.q (.mov (.t 0)))<|.op (some 25) (some (18, false)) (.q (.iaddr 1 (.t 24) (ic 1)))<|.op (some 26) (some (18, false)) (.q (.load 1 false (.t 25)))<|.op (some 27) (some (18, false)) (.q (.iaddr 1 (.t 26) (ic 0)))<|.op (some 28) (some (18, false)) (.q (.load 1 false (.t 27)))<|.op (some 29) (some (18, false)) (.q (.bin .neq (.t 23) (.t 28)))<|.nil)<|.nil) [0,4,5,30] [])<|
(cd 30 .ret .skip))<|
(.seq (.region (some [[], [], [], [], [], [0, 1, 2, 3, 4], [0, 1, 2, 3, 4], [0, 1, 2, 3, 4], [0, 1, 2, 3, 4], [0, 1, 2, 3, 4], [], []]) (mv 31 0<|qq 32 (.iaddr 1 (.t 31) (ic 0))<|ld 33 1 false 32<|qq 34 (.iaddr 1 (.t 33) (ic 0))<|ld 35 1 false 34<|mv 36 0<|qq 37 (.iaddr 1 (.t 36) (ic 1))<|ld 38 1 false 37<|qq 39 (.iaddr 1 (.t 38) (ic 1))<|ld 40 1 false 39<|nn 41 (.lit 1 2 [(.int .i64 0)] [(0, (.t 35)),(1, (.t 40))])<|mv 4 41<|.nil) [4] [41])<|
(sr [4,5] [41] (mv 42 4<|mv 43 4<|cl 44 55 [43]<|mv 4 42<|mv 5 44<|.nil)<|
.ret))))
theorem pure_infer_rules_6 : PureT Tryz.prog fi_infer_rules_6 45 a_infer_rules_6 [.tmp 4,.tmp 5] := pureT_of Tryz.call154 Tryz.func154
def a_infer_both : ACode := (sr [0] [] (qq 4 (.mov (.c (.one .nils)))<|qq 5 (.mov (.c (.one (.p (.bool false)))))<|.nil)<|
(.seq (.region (some [[], [], [], [0, 1, 2], [0, 1, 2], [0, 1, 2], [], [], [], [8], [9], []]) (mv 9 0<|qq 10 (.iaddr 1 (.t 9) (ic 0))<|ld 11 1 false 10<|mv 12 0<|qq 13 (.iaddr 1 (.t 12) (ic 1))<|ld 14 1 false 13<|cl 15 229 [11,14]<|mv 8 15<|xt 16 8 0<|xt 17 8 1<|mv 6 16<|mv 7 17<|.nil) [6,7] [])<|
(sr [4,5] [] (mv 18 6<|mv 19 7<|bc 20 .eql 19 0<|mv 4 18<|mv 5 20<|.nil)<|
.ret)))
theorem pure_infer_both : PureT Tryz.prog fi_infer_both 21 a_infer_both [.tmp 4,.tmp 5] := pureT_of Tryz.call155 Tryz.func155
def a_infer_first : ACode := (sr [0] [] (qq 4 (.mov (.c (.one .nils)))<|qq 5 (.mov (.c (.one (.p (.bool false)))))<|.nil)<|
(sr [4,5] [] (mv 6 0<|qq 7 (.iaddr 1 (.t 6) (ic 0))<|ld 8 1 false 7<|cl 9 56 [8]<|mv 4 9<|qq 5 (.mov (.c (.one (.p (.bool true)))))<|.nil)<|
.ret))
theorem pure_infer_first : PureT Tryz.prog fi_infer_first 10 a_infer_first [.tmp 4,.tmp 5] := pureT_of Tryz.call156 Tryz.func156
def a_infer_sided : ACode := (sr [1] [1] (nn 1 (.box 1 (.t 0))<|qq 2 (.mov (.c (.one (.p .nilF))))<|.nil)<|
(sr [2] [1] (qq 3 (.mkF fi_infer_sided_1 [] [(.t 1)])<|mv 2 3<|.nil)<|
.ret))
theorem pure_infer_sided : PureT Tryz.prog fi_infer_sided 4 a_infer_sided [.tmp 2] := pureT_of Tryz.call157 Tryz.func157
def a_infer_part : ACode := (sr [0,1,2,6,7] [] (qq 6 (.mov (.c (.one .nils)))<|qq 7 (.mov (.c (.one (.p (.bool false)))))<|.nil)<|
(.seq (.region (some [[], [], [], [0, 1, 2], [0, 1, 2], [0, 1, 2], [3, 4, 5], []]) (mv 10 2<|qq 11 (.iaddr 1 (.t 10) (ic 0))<|ld 12 1 false 11<|mv 13 2<|qq 14 (.iaddr 1 (.t 13) (ic 1))<|ld 15 1 false 14<|mv 8 12<|mv 9 15<|.nil) [0,1,6,7,8,9] [])<|
(ib [0,1,6,7,8,9,32] [] (mv 16 8<|bc 17 .lss 16 0<|mv 18 17<|.sc 22 18 false 21 none (.op (some 19) (some (18, false)) (.q (.mov (.t 8)))<|.op (some 20) (some (18, false)) (.q (.mov (.t 9)))<|.op (some 21) (some (18, false)) (.q (.bin .geq (.t 19) (.t 20)))<|.nil)<|mv 23 22<|.sc 32 23 false 31 none (.op (some 24) (some (23, false)) (.q (.mov (.t 9)))<|.op (some 25) (some (23, false)) (.q (.mov (.t 0)))<|.op (some 26) (some (23, false)) (.q (.iaddr 1 (.t 25) (ic 0)))<|.op (some 27) (some (23, false)) (.q (.load 1 false (.t 26)))<|.op (some 28) (some (23, false)) (.q (.mov (.t 1)))<|.op (some 29) (some (23, false)) (.q (.iaddr 1 (.t 27) (.t 28)))<|.op (some 30) (some (23, false)) (.q (.load 1 false (.t 29)))<|.op (some 31) (some (23, false)) (.q (.bin .gtr (.t 24) (.t 30)))<|.nil)<|.nil) 32 .ret<|
(sr [1,6,8,9] [] (mv 33 0<|qq 34 (.iaddr 1 (.t 33) (ic 0))<|ld 35 1 false 34<|cl 36 56 [35]<|mv 6 36<|.nil)<|
(sr [6] [] (mv 37 6<|mv 38 1<|mv 39 9<|mv 40 8<|bt 41 .sub 39 40<|ia 42 1 37 38<|st 1 42 41<|.nil)<|
(sr [6,7] [] (mv 43 6<|mv 6 43<|qq 7 (.mov (.c (.one (.p (.bool true)))))<|.nil)<|
.ret))))))
theorem pure_infer_part : PureT Tryz.prog fi_infer_part 44 a_infer_part [.tmp 6,.tmp 7] := pureT_of Tryz.call158 Tryz.func158
def a_infer_behind : ACode := (sr [0,1,6,7] [] (qq 6 (.mov (.c (.one .nils)))<|qq 7 (.mov (.c (.one (.p (.bool false)))))<|.nil)<|
(.seq (.region (some [[], [], [], [], [0, 1, 2, 3], [0, 1, 2, 3], [0, 1, 2, 3], [4, 5, 6], []]) (mv 11 0<|qq 12 (.iaddr 1 (.t 11) (ic 0))<|ld 13 1 false 12<|cl 14 56 [13]<|mv 15 0<|qq 16 (.iaddr 1 (.t 15) (ic 1))<|ld 17 1 false 16<|mv 8 14<|mv 9 17<|.nil) [1,6,7,8,9] [])<|
(ib [1,6,7,8,9,22] [] (mv 18 8<|le 19 18<|mv 20 9<|le 21 20<|bt 22 .neq 19 21<|.nil) 22 .ret<|
(sr [1,6,7,8,9,10] [] (mv 23 8<|mv 24 1<|ia 25 1 23 24<|ld 26 1 false 25<|mv 10 26<|.nil)<|
(.seq (sr [1,6,7,8,9,10] [] (mv 27 8<|mv 28 1<|mv 29 9<|mv 30 1<|ia 31 1 29 30<|ld 32 1 false 31<|ia 33 1 27 28<|st 1 33 32<|.nil)<|
(sr [1,6,7,8,10,37] [] (mv 34 8<|mv 35 9<|cl 36 49 [34,35]<|qq 37 (.un .not (.t 36))<|.nil)<|
(cd 37 .ret .skip)))<|
(sr [8] [] (mv 38 8<|mv 39 1<|ia 40 1 38 39<|ld 41 1 false 40<|mv 42 10<|bt 43 .add 41 42<|ia 44 1 38 39<|st 1 44 43<|.nil)<|
(sr [6,7] [] (mv 45 8<|mv 46 8<|cl 47 55 [46]<|mv 6 45<|mv 7 47<|.nil)<|
.ret)))))))
theorem pure_infer_behind : PureT Tryz.prog fi_infer_behind 48 a_infer_behind [.tmp 6,.tmp 7] := pureT_of Tryz.call159 Tryz.func159
def a_infer_together : ACode := (sr [0,1] [] (qq 6 (.mov (.c (.one .nils)))<|qq 7 (.mov (.c (.one (.p (.bool false)))))<|.nil)<|
(sr [6,7] [] (mv 8 0<|qq 9 (.iaddr 1 (.t 8) (ic 0))<|ld 10 1 false 9<|cl 11 56 [10]<|mv 12 1<|mv 13 1<|bc 14 .add 13 1<|cl 15 234 [11,12,14]<|mv 6 15<|qq 7 (.mov (.c (.one (.p (.bool true)))))<|.nil)<|
.ret))
theorem pure_infer_together : PureT Tryz.prog fi_infer_together 16 a_infer_together [.tmp 6,.tmp 7] := pureT_of Tryz.call160 Tryz.func160
def a_matmul_may : ACode := (sr [0] [] (mc 2 0<|.nil)<|
(.seq (sr [5,6,7] [] (mv 5 0<|le 6 5<|mc 7 0<|.nil)<|
(.block 0 (.loop (sr [5,6,7,8] [] (bt 8 .lss 7 6<|.nil)<|
(.seq (cd 8 .skip (.exit 0))<|
(.seq (.block 1 (sr [4,5,6,7] [4] (ia 9 2 5 7<|ld 10 2 true 9<|al 4 [.nils,.nils]<|st 2 4 10<|.nil)<|
(sr [5,6,7,13] [4] (ld 11 2 true 4<|cl 12 31 [11]<|qq 13 (.un .not (.t 12))<|.nil)<|
(cd 13 (sr [2] [4] (mc 2 30<|.nil)<|
.ret) .skip))))<|
(rg [5,6,7] [4]<|bc 14 .add 7 1<|mv 7 14<|.nil)))))))<|
(sr [2] [4] (mc 2 0<|.nil)<|
.ret)))
theorem pure_matmul_may : PureT Tryz.prog fi_matmul_may 15 a_matmul_may [.tmp 2] := pureT_of Tryz.call161 Tryz.func161
def a_matmul_Mul_1 : ACode := (sr [0,1,2,3] [] (mc 6 0<|.nil)<|
(sr [6] [] (fa 7 1 2<|ld 8 1 false 7<|mv 9 0<|ld 10 1 false 3<|bt 11 .mul 9 10<|mv 12 1<|bt 13 .add 11 12<|ia 14 1 8 13<|ld 15 1 false 14<|mv 6 15<|.nil)<|
.ret))
theorem pure_matmul_Mul_1 : PureT Tryz.prog fi_matmul_Mul_1 16 a_matmul_Mul_1 [.tmp 6] := pureT_of Tryz.call162 Tryz.func162
def a_matmul_Mul_2 : ACode := (sr [0,1,2,3] [] (mc 6 0<|.nil)<|
(sr [6] [] (fa 7 1 2<|ld 8 1 false 7<|mv 9 0<|qq 10 (.iaddrA 2 1 (.t 3) (ic 1))<|ld 11 1 false 10<|bt 12 .mul 9 11<|mv 13 1<|bt 14 .add 12 13<|ia 15 1 8 14<|ld 16 1 false 15<|mv 6 16<|.nil)<|
.ret))
theorem pure_matmul_Mul_2 : PureT Tryz.prog fi_matmul_Mul_2 17 a_matmul_Mul_2 [.tmp 6] := pureT_of Tryz.call163 Tryz.func163
end Go.AM

namespace Go.AM
open Go Go.Proofs
set_option maxRecDepth 100000
def a_fix_Add : ACode := (sr [0,1] [] (mc 4 0<|mc 5 0<|.nil)<|
(sr [0,1,6] [] (mv 7 0<|mv 8 1<|bt 9 .add 7 8<|mv 6 9<|.nil)<|
(sr [4,5] [] (mv 10 6<|mv 11 0<|bc 12 .lss 11 0<|mv 13 1<|bc 14 .lss 13 0<|qq 15 (.eqB true (.t 12) (.t 14))<|mv 16 15<|.sc 22 16 false 21 none (.op (some 17) (some (16, false)) (.q (.mov (.t 6)))<|.op (some 18) (some (16, false)) (.q (.bin .lss (.t 17) (ic 0)))<|.op (some 19) (some (16, false)) (.q (.mov (.t 0)))<|.op (some 20) (some (16, false)) (.q (.bin .lss (.t 19) (ic 0)))<|.op (some 21) (some (16, false)) (.q (.eqB false (.t 18) (.t 20)))<|.nil)<|cl 23 235 [10,22]<|xt 24 23 0<|xt 25 23 1<|mv 4 24<|mv 5 25<|.nil)<|
.ret)))
theorem pure_fix_Add : PureT Tryz.prog fi_fix_Add 26 a_fix_Add [.tmp 4,.tmp 5] := pureT_of Tryz.call164 Tryz.func164
def a_move_made : ACode := (sr [0,3,4] [3,4] (nn 3 (.box 1 (.t 1))<|al 4 [.nils,.nils]<|mc 5 0<|.nil)<|
(sr [0,3,4,6] [3,4,6] (mv 8 0<|qq 9 (.build [.nils,.nils] [(0, 1, (.t 8))])<|al 6 [.nils,.nils]<|st 2 6 9<|.nil)<|
(.seq (sr [3,4,6,11] [3,4,6] (mv 10 0<|cl 11 236 [10]<|.nil)<|
(.block 0 (.range (.t 11) [12] (rg [3,4,6,7,11] [3,4,6]<|mv 7 12<|.nil)
 (.block 1 (.region (some [[], [], [0, 1], [0, 1, 2], [0, 1], [0, 1], [], [], []]) (fa 13 1 6<|ld 14 1 false 13<|ld 15 1 false 3<|mv 16 7<|.op (some 17) none (.call (.t 15) [(.t 16)])<|nn 18 (.lit 1 1 [(.int .i64 0)] [(0, (.t 17))])<|sd 19 (.app 1 8 (.t 14) (.t 18))<|fa 20 1 6<|st 1 20 19<|.nil) [3,4,6,11] [3,4,6,18,19])))))<|
(sr [4,5] [3,4,6] (ld 21 2 true 6<|st 2 4 21<|mc 5 0<|.nil)<|
.ret))))
theorem pure_move_made : PureT Tryz.prog fi_move_made 22 a_move_made [.cell 2 true 4,.tmp 5] := pureT_of Tryz.call165 Tryz.func165
def a_move_turned_int : ACode := (sr [0] [] (qq 2 (.mov (.c (.one .nils)))<|.nil)<|
(sr [3] [] (mv 4 0<|cl 5 56 [4]<|mv 3 5<|.nil)<|
(sr [3] [] (mv 6 3<|cl 7 145 [6]<|.nil)<|
(sr [2] [] (mv 8 3<|mv 2 8<|.nil)<|
.ret))))
theorem pure_move_turned_int : PureT Tryz.prog fi_move_turned_int 9 a_move_turned_int [.tmp 2] := pureT_of Tryz.call166 Tryz.func166
def a_move_Turn_1 : ACode := (sr [0,1] [] (mc 3 0<|.nil)<|
(.seq (.region (some [[], [0], [0], [], [], [], [5], [6], []]) (ld 7 2 true 1<|mv 8 0<|cl 9 166 [8]<|cl 10 168 [7,9]<|mv 6 10<|xt 11 6 0<|xt 12 6 1<|mv 4 11<|mv 5 12<|.nil) [4] [])<|
(sr [3] [] (mv 13 4<|mv 3 13<|.nil)<|
.ret)))
theorem pure_move_Turn_1 : PureT Tryz.prog fi_move_Turn_1 14 a_move_Turn_1 [.tmp 3] := pureT_of Tryz.call167 Tryz.func167
def a_tensor_At : ACode := (sr [1,2] [2] (nn 2 (.box 2 (.t 0))<|mc 4 0<|mc 5 0<|.nil)<|
(ib [1,2,10] [2] (ld 8 2 true 2<|cl 9 31 [8]<|qq 10 (.un .not (.t 9))<|.nil) 10 (sr [4,5] [2] (mc 4 0<|mc 5 30<|.nil)<|
.ret)<|
(sr [2,6,7] [2] (fa 12 0 2<|ld 13 1 false 12<|mv 14 1<|cl 15 237 [13,14]<|mv 11 15<|xt 16 11 0<|xt 17 11 1<|mv 6 16<|mv 7 17<|.nil)<|
(ib [2,6,7,19] [2] (mv 18 7<|bc 19 .neq 18 0<|.nil) 19 (sr [4,5] [2] (mv 20 7<|mc 4 0<|mv 5 20<|.nil)<|
.ret)<|
(sr [4,5] [2] (fa 21 1 2<|ld 22 1 false 21<|mv 23 6<|ia 24 1 22 23<|ld 25 1 false 24<|mv 4 25<|mc 5 0<|.nil)<|
.ret)))))
theorem pure_tensor_At : PureT Tryz.prog fi_tensor_At 26 a_tensor_At [.tmp 4,.tmp 5] := pureT_of Tryz.call168 Tryz.func168
def a_move_sided : ACode := (sr [0,1,2] [] (qq 6 (.mov (.c (.one .nils)))<|.nil)<|
(sr [1,2,7] [] (mv 8 0<|cl 9 56 [8]<|mv 7 9<|.nil)<|
(sr [7] [] (mv 10 7<|mv 11 1<|mv 12 2<|ia 13 1 10 11<|st 1 13 12<|.nil)<|
(sr [6] [] (mv 14 7<|mv 6 14<|.nil)<|
.ret))))
theorem pure_move_sided : PureT Tryz.prog fi_move_sided 15 a_move_sided [.tmp 6] := pureT_of Tryz.call169 Tryz.func169
def a_move_Slice_1 : ACode := (sr [0,1,2,3] [] (mc 5 0<|.nil)<|
(sr [5] [] (ld 6 2 true 1<|mv 7 0<|ld 8 1 false 2<|ld 9 1 false 3<|cl 10 171 [6,7,8,9]<|mv 5 10<|.nil)<|
.ret))
theorem pure_move_Slice_1 : PureT Tryz.prog fi_move_Slice_1 11 a_move_Slice_1 [.tmp 5] := pureT_of Tryz.call170 Tryz.func170
def a_move_shifted : ACode := (sr [1,2,3,4] [4] (nn 4 (.box 2 (.t 0))<|mc 8 0<|.nil)<|
(sr [1,2,3,4] [4] (mv 11 1<|cl 12 56 [11]<|mv 1 12<|.nil)<|
(sr [1,4] [4] (mv 13 1<|mv 14 2<|ia 15 1 13 14<|ld 16 1 false 15<|mv 17 3<|bt 18 .add 16 17<|ia 19 1 13 14<|st 1 19 18<|.nil)<|
(sr [9] [4] (ld 21 2 true 4<|mv 22 1<|cl 23 168 [21,22]<|mv 20 23<|xt 24 20 0<|xt 25 20 1<|mv 9 24<|mv 10 25<|.nil)<|
(sr [8] [4] (mv 26 9<|mv 8 26<|.nil)<|
.ret)))))
theorem pure_move_shifted : PureT Tryz.prog fi_move_shifted 27 a_move_shifted [.tmp 8] := pureT_of Tryz.call171 Tryz.func171
def a_move_Join_1 : ACode := (sr [0,1,2,3,4] [] (mc 6 0<|.nil)<|
(.seq (.seq (.region (some [[], [0], [], [], [0, 1, 2, 3], []]) (mv 7 0<|ld 8 1 false 1<|ia 9 1 7 8<|ld 10 1 false 9<|ld 11 1 false 2<|bt 12 .lss 10 11<|.nil) [0,1,2,3,4,12] [])<|
(cd 12 (sr [6] [] (ld 13 2 true 3<|mv 14 0<|ld 15 1 false 1<|.op (some 16) none (.call (.c (.one (.p (.fn fi_move_shifted [] [])))) [(.t 13),(.t 14),(.t 15),(ic 0)])<|mv 6 16<|.nil)<|
.ret) .skip))<|
(sr [6] [] (ld 17 2 true 4<|mv 18 0<|ld 19 1 false 1<|ld 20 1 false 2<|qq 21 (.un .neg (.t 20))<|cl 22 171 [17,18,19,21]<|mv 6 22<|.nil)<|
.ret)))
theorem pure_move_Join_1 : PureT Tryz.prog fi_move_Join_1 23 a_move_Join_1 [.tmp 6] := pureT_of Tryz.call172 Tryz.func172
def a_eval_side_1 : ACode := (sr [0,1,2,5] [5] (al 5 [.nils,.nils,(.p (.int .i64 0))]<|.nil)<|
(.seq (.region (some [[], [0], [0], [0], [0, 1, 2, 3], [0, 1, 2, 3], [0, 1, 2, 3], [], [], [8], [], []]) (ld 6 1 false 2<|mv 7 0<|qq 8 (.iaddr 2 (.t 7) (ic 0))<|ld 9 2 true 8<|mv 10 1<|qq 11 (.iaddr 1 (.t 10) (ic 0))<|ld 12 1 false 11<|.op (some 13) none (.call (.t 6) [(.t 9),(.t 12)])<|xt 14 13 0<|xt 15 13 1<|cl 16 75 [14,15]<|st 3 5 16<|.nil) [5] [5])<|
.ret))
theorem pure_eval_side_1 : PureT Tryz.prog fi_eval_side_1 17 a_eval_side_1 [.cell 3 true 5] := pureT_of Tryz.call173 Tryz.func173
def a_reduce_together : ACode := (sr [1,3,4,6,8] [4,6,8] (nn 4 (.box 2 (.t 0))<|nn 6 (.box 2 (.t 2))<|al 8 [.nils,.nils]<|mc 9 0<|.nil)<|
(sr [1,3,4,6,8,10,11] [4,6,8,10] (ld 17 2 true 4<|mv 18 1<|cl 19 238 [17,18]<|mv 16 19<|xt 20 16 0<|xt 21 16 1<|al 10 [(.p (.int .i64 0)),(.p (.int .i64 0)),(.p (.int .i64 0))]<|st 3 10 20<|mv 11 21<|.nil)<|
(ib [1,3,4,6,8,10,11,23] [4,6,8,10] (mv 22 11<|bc 23 .neq 22 0<|.nil) 23 (sr [8,9] [4,6,8,10] (qq 24 (.build [.nils,.nils] [])<|mv 25 11<|st 2 8 24<|mv 9 25<|.nil)<|
.ret)<|
(sr [3,4,6,8,10,12] [4,6,8,10,12] (fa 26 0 4<|ld 27 1 false 26<|cl 28 56 [27]<|mv 29 1<|mv 30 1<|bc 31 .add 30 1<|cl 32 234 [28,29,31]<|qq 33 (.build [.nils,.nils] [(0, 1, (.t 32))])<|al 12 [.nils,.nils]<|st 2 12 33<|.nil)<|
(.seq (sr [3,4,6,8,10,12,38,39] [4,6,8,10,12] (fa 34 0 10<|ld 35 1 false 34<|fa 36 2 10<|ld 37 1 false 36<|bt 38 .mul 35 37<|mc 39 0<|.nil)<|
(.block 0 (.loop (sr [3,4,6,8,10,12,38,39,40] [4,6,8,10,12] (bt 40 .lss 39 38<|.nil)<|
(.seq (cd 40 .skip (.exit 0))<|
(.seq (.block 1 (sr [3,4,6,8,10,12,13,38,39] [4,6,8,10,12] (mv 41 39<|mv 13 41<|.nil)<|
(.seq (.region (some [[], [0], [0], [0, 1, 2], [0, 1, 2, 3], [0, 1, 2], [0], [0], [], []]) (mv 42 3<|fa 43 1 4<|ld 44 1 false 43<|ld 45 3 true 10<|mv 46 13<|.op (some 47) none (.call (.c (.one (.p (.fn fi_reduce_lane_at [] [])))) [(.t 45),(.t 46),(ic 0)])<|ia 48 1 44 47<|ld 49 1 false 48<|.op (some 50) none (.call (.t 42) [(.t 49)])<|mv 14 50<|.nil) [3,4,6,8,10,12,13,14,38,39] [4,6,8,10,12])<|
(.seq (sr [3,4,6,8,10,12,13,14,38,39,52,53] [4,6,8,10,12] (fa 51 1 10<|ld 52 1 false 51<|mc 53 0<|.nil)<|
(.block 2 (.loop (sr [3,4,6,8,10,12,13,14,38,39,52,53,54] [4,6,8,10,12] (bt 54 .lss 53 52<|.nil)<|
(.seq (cd 54 .skip (.exit 2))<|
(.seq (.block 3 (sr [3,4,6,8,10,12,13,14,15,38,39,52,53] [4,6,8,10,12] (mv 55 53<|mv 15 55<|.nil)<|
(.seq (.region (some [[], [], [0, 1], [0, 1, 2], [0, 1, 2], [0, 1, 2, 3, 4], [0, 1, 2, 3, 4, 5], [0, 1, 2, 3, 4, 5, 6], [0, 1, 2, 3, 4], [0, 1, 2], [0, 1, 2], [], [], [], [13], [14], []]) (fa 57 0 6<|ld 58 1 false 57<|mv 59 14<|fa 60 1 4<|ld 61 1 false 60<|ld 62 3 true 10<|mv 63 13<|mv 64 15<|cl 65 239 [62,63,64]<|ia 66 1 61 65<|ld 67 1 false 66<|.op (some 68) none (.call (.t 58) [(.t 59),(.t 67)])<|mv 56 68<|xt 69 56 0<|xt 70 56 1<|mv 14 69<|mv 11 70<|.nil) [3,4,6,8,10,11,12,13,14,38,39,52,53] [4,6,8,10,12])<|
(sr [3,4,6,8,10,11,12,13,14,38,39,52,53,72] [4,6,8,10,12] (mv 71 11<|bc 72 .neq 71 0<|.nil)<|
(cd 72 (sr [8,9] [4,6,8,10,12] (qq 73 (.build [.nils,.nils] [])<|mv 74 11<|st 2 8 73<|mv 9 74<|.nil)<|
.ret) .skip)))))<|
(rg [3,4,6,8,10,12,13,14,38,39,52,53] [4,6,8,10,12]<|bc 75 .add 53 1<|mv 53 75<|.nil)))))))<|
(.seq (sr [3,4,6,8,10,11,12,14,38,39] [4,6,8,10,12] (fa 77 1 6<|ld 78 1 false 77<|mv 79 14<|fa 80 1 10<|ld 81 1 false 80<|.op (some 82) none (.call (.t 78) [(.t 79),(.t 81)])<|mv 76 82<|xt 83 76 0<|xt 84 76 1<|mv 14 83<|mv 11 84<|.nil)<|
(sr [3,4,6,8,10,11,12,14,38,39,86] [4,6,8,10,12] (mv 85 11<|bc 86 .neq 85 0<|.nil)<|
(cd 86 (sr [8,9] [4,6,8,10,12] (qq 87 (.build [.nils,.nils] [])<|mv 88 11<|st 2 8 87<|mv 9 88<|.nil)<|
.ret) .skip)))<|
(rg [3,4,6,8,10,12,38,39] [4,6,8,10,12,92,93]<|fa 89 1 12<|ld 90 1 false 89<|mv 91 14<|nn 92 (.lit 1 1 [(.int .i64 0)] [(0, (.t 91))])<|sd 93 (.app 1 8 (.t 90) (.t 92))<|fa 94 1 12<|st 1 94 93<|.nil))))))<|
(rg [3,4,6,8,10,12,38,39] [4,6,8,10,12,92,93]<|bc 95 .add 39 1<|mv 39 95<|.nil)))))))<|
(sr [8,9] [4,6,8,10,12,92,93] (ld 96 2 true 12<|st 2 8 96<|mc 9 0<|.nil)<|
.ret))))))
theorem pure_reduce_together : PureT Tryz.prog fi_reduce_together 97 a_reduce_together [.cell 2 true 8,.tmp 9] := pureT_of Tryz.call174 Tryz.func174
def a_reduce_done : ACode := (sr [0] [] (mc 4 0<|mc 5 0<|.nil)<|
(sr [4,5] [] (mv 6 0<|mv 4 6<|mc 5 0<|.nil)<|
.ret))
theorem pure_reduce_done : PureT Tryz.prog fi_reduce_done 7 a_reduce_done [.tmp 4,.tmp 5] := pureT_of Tryz.call175 Tryz.func175
def a_reduce_none : ACode := (sr [] [] (mc 2 0<|.nil)<|
(sr [2] [] (mc 2 0<|.nil)<|
.ret))
theorem pure_reduce_none : PureT Tryz.prog fi_reduce_none 3 a_reduce_none [.tmp 2] := pureT_of Tryz.call176 Tryz.func176
def a_reduce_share : ACode := (sr [0,1] [] (mc 4 0<|mc 5 0<|.nil)<|
(sr [4,5] [] (mv 6 0<|mv 7 1<|bc 8 .mul 7 4294967296<|cl 9 240 [6,8]<|xt 10 9 0<|xt 11 9 1<|mv 4 10<|mv 5 11<|.nil)<|
.ret))
theorem pure_reduce_share : PureT Tryz.prog fi_reduce_share 12 a_reduce_share [.tmp 4,.tmp 5] := pureT_of Tryz.call177 Tryz.func177
def a_reduce_most : ACode := (sr [0,1] [] (mc 4 0<|mc 5 0<|.nil)<|
(sr [4,5] [] (mv 6 0<|mv 7 1<|qq 8 (.mm true (.t 6) (.t 7))<|mv 4 8<|mc 5 0<|.nil)<|
.ret))
theorem pure_reduce_most : PureT Tryz.prog fi_reduce_most 9 a_reduce_most [.tmp 4,.tmp 5] := pureT_of Tryz.call178 Tryz.func178
def a_reduce_same : ACode := (sr [0] [] (mc 2 0<|.nil)<|
(sr [2] [] (mv 3 0<|mv 2 3<|.nil)<|
.ret))
theorem pure_reduce_same : PureT Tryz.prog fi_reduce_same 4 a_reduce_same [.tmp 2] := pureT_of Tryz.call179 Tryz.func179
def a_eval_two_1 : ACode := (sr [0,2,5] [5] (al 5 [.nils,.nils,(.p (.int .i64 0))]<|.nil)<|
(.seq (.region (some [[], [0], [0], [0], [0, 1, 2, 3], [0, 1, 2, 3], [0, 1, 2, 3], [], [], [8], [], []]) (ld 6 1 false 2<|mv 7 0<|qq 8 (.iaddr 2 (.t 7) (ic 0))<|ld 9 2 true 8<|mv 10 0<|qq 11 (.iaddr 2 (.t 10) (ic 1))<|ld 12 2 true 11<|cl 13 144 [6,9,12]<|xt 14 13 0<|xt 15 13 1<|cl 16 75 [14,15]<|st 3 5 16<|.nil) [5] [5])<|
.ret))
theorem pure_eval_two_1 : PureT Tryz.prog fi_eval_two_1 17 a_eval_two_1 [.cell 3 true 5] := pureT_of Tryz.call180 Tryz.func180
def a_eval_one_1 : ACode := (sr [0,2,5] [5] (al 5 [.nils,.nils,(.p (.int .i64 0))]<|.nil)<|
(.seq (.region (some [[], [0], [0], [0], [], [], [5], [], []]) (ld 6 1 false 2<|mv 7 0<|qq 8 (.iaddr 2 (.t 7) (ic 0))<|ld 9 2 true 8<|cl 10 182 [6,9]<|xt 11 10 0<|xt 12 10 1<|cl 13 75 [11,12]<|st 3 5 13<|.nil) [5] [5])<|
.ret))
theorem pure_eval_one_1 : PureT Tryz.prog fi_eval_one_1 14 a_eval_one_1 [.cell 3 true 5] := pureT_of Tryz.call181 Tryz.func181
def a_elem_One : ACode := (sr [0,3,4] [3,4] (nn 3 (.box 2 (.t 1))<|al 4 [.nils,.nils]<|mc 5 0<|.nil)<|
(sr [3,4,6] [3,4,6] (cl 7 228 []<|mv 8 0<|qq 9 (.mget (.agg [(.p .nilF),(.p .nilF)]) false (.t 7) (.t 8))<|al 6 [(.p .nilF),(.p .nilF)]<|st 2 6 9<|.nil)<|
(.seq (.block 0 (sr [3,4,6,10] [3,4,6] (fa 11 0 6<|ld 12 1 false 11<|qq 13 (.eqN 1 false (.t 12) (.c (.one (.p .nilF))))<|mv 10 13<|.nil)<|
(cd 10 (sr [4,5] [3,4,6] (qq 14 (.build [.nils,.nils] [])<|st 2 4 14<|mc 5 1<|.nil)<|
.ret) (sr [3,4,6,15] [3,4,6] (ld 16 2 true 3<|cl 17 31 [16]<|qq 18 (.un .not (.t 17))<|mv 15 18<|.nil)<|
(cd 15 (sr [4,5] [3,4,6] (qq 19 (.build [.nils,.nils] [])<|st 2 4 19<|mc 5 30<|.nil)<|
.ret) .skip)))))<|
(sr [4,5] [3,4,6] (fa 20 0 3<|ld 21 1 false 20<|qq 22 (.mkF fi_elem_One_1 [] [(.t 6),(.t 3)])<|cl 23 231 [21,22]<|xt 24 23 0<|xt 25 23 1<|st 2 4 24<|mv 5 25<|.nil)<|
.ret))))
theorem pure_elem_One : PureT Tryz.prog fi_elem_One 26 a_elem_One [.cell 2 true 4,.tmp 5] := pureT_of Tryz.call182 Tryz.func182
def a_vjp_same_1 : ACode := (sr [0,1,3] [3] (al 3 [.nils,.nils]<|.nil)<|
(.seq (.region (some [[], [0], [0], [0], [0], [0, 1, 2, 3, 4], [], []]) (mv 4 0<|mv 5 0<|qq 6 (.nck (.t 5))<|fa 7 6 6<|ld 8 2 true 7<|ld 9 1 false 1<|cl 10 94 [4,8,9]<|st 2 3 10<|.nil) [3] [3])<|
.ret))
theorem mut_vjp_same_1 : MutT Tryz.prog fi_vjp_same_1 11 a_vjp_same_1 [.cell 2 true 3] := mutT_of Tryz.call183 Tryz.func183
def a_tensor_Fold : ACode := (sr [1,2,4,5] [2,4,5] (nn 2 (.box 2 (.t 0))<|al 4 [.nils,.nils]<|al 5 [(.p (.int .i64 0))]<|.nil)<|
(.seq (.block 0 (sr [1,2,4,5,12] [2,4,5] (ld 13 2 true 2<|cl 14 31 [13]<|qq 15 (.un .not (.t 14))<|mv 12 15<|.nil)<|
(cd 12 (sr [4,5] [2,4,5] (qq 16 (.build [.nils,.nils] [])<|st 2 4 16<|ss (.store 1 (.t 5) (ic 30))<|.nil)<|
.ret) (sr [1,2,4,5,17] [2,4,5] (mv 18 1<|fa 19 0 2<|ld 20 1 false 19<|cl 21 242 [18,20]<|qq 22 (.un .not (.t 21))<|mv 17 22<|.nil)<|
(cd 17 (sr [4,5] [2,4,5] (qq 23 (.build [.nils,.nils] [])<|st 2 4 23<|ss (.store 1 (.t 5) (ic 20))<|.nil)<|
.ret) .skip)))))<|
(sr [1,2,4,5,6] [2,4,5,6] (mv 25 1<|.op (some 26) none (.call (.c (.one (.p (.fn fi_tensor_Full [] [])))) [(.t 25),(ic 0)])<|mv 24 26<|xt 27 24 0<|xt 28 24 1<|al 6 [.nils,.nils]<|st 2 6 27<|mv 7 28<|.nil)<|
(.seq (sr [2,4,5,6,32] [2,4,5,6] (mv 29 1<|fa 30 0 2<|ld 31 1 false 30<|cl 32 243 [29,31]<|.nil)<|
(.block 1 (.range (.t 32) [33, 34] (sr [2,4,5,6,8,32,34] [2,4,5,6] (mv 8 33<|.nil)<|
(rg [2,4,5,6,8,9,32] [2,4,5,6]<|mv 9 34<|.nil))
 (.block 2 (.seq (.region (some [[], [], [0, 1], [], [], [0, 1, 2, 3, 4], [0, 1, 2, 3, 4], [0, 1, 2, 3, 4, 5, 6], [0, 1, 2, 3, 4], [0, 1, 2, 3, 4], [], [], [], [12], [13], []]) (fa 36 1 6<|ld 37 1 false 36<|mv 38 9<|ia 39 1 37 38<|ld 40 1 false 39<|fa 41 1 2<|ld 42 1 false 41<|mv 43 8<|ia 44 1 42 43<|ld 45 1 false 44<|cl 46 164 [40,45]<|mv 35 46<|xt 47 35 0<|xt 48 35 1<|mv 10 47<|mv 11 48<|.nil) [2,4,5,6,9,10,11,32] [2,4,5,6])<|
(ib [2,4,5,6,9,10,11,32,50] [2,4,5,6] (mv 49 11<|bc 50 .neq 49 0<|.nil) 50 (sr [4,5] [2,4,5,6] (qq 51 (.build [.nils,.nils] [])<|mv 52 11<|st 2 4 51<|st 1 5 52<|.nil)<|
.ret)<|
(rg [2,4,5,6,32] [2,4,5,6]<|fa 53 1 6<|ld 54 1 false 53<|mv 55 9<|mv 56 10<|ia 57 1 54 55<|st 1 57 56<|.nil)))))))<|
(sr [4,5] [2,4,5,6] (ld 58 2 true 6<|st 2 4 58<|ss (.store 1 (.t 5) (ic 0))<|.nil)<|
.ret)))))
theorem pure_tensor_Fold : PureT Tryz.prog fi_tensor_Fold 59 a_tensor_Fold [.cell 2 true 4,.cell 1 false 5] := pureT_of Tryz.call184 Tryz.func184
def a_vjp_by_1 : ACode := (sr [0,1,2,3,5] [5] (al 5 [.nils,.nils]<|.nil)<|
(.seq (.region (some [[], [0], [0, 1], [0, 1, 2], [0, 1, 2], [0, 1, 2], [0, 1, 2], [0, 1, 2, 3, 4, 5, 6], [0, 1, 2, 3, 4, 5, 6], [0, 1, 2, 3, 4, 5, 6], [0, 1, 2, 3, 4, 5, 6], [0, 1, 2, 3, 4, 5, 6, 7, 8, 9, 10], [0, 1, 2, 3, 4, 5, 6], [0, 1, 2, 3, 4, 5, 6], [0], [0, 1, 2, 3, 4, 5, 6, 7, 8, 9, 10, 11, 12, 13, 14], [], []]) (mv 6 0<|mv 7 0<|ld 8 1 false 1<|mv 9 0<|qq 10 (.nck (.t 9))<|fa 11 6 10<|ld 12 2 true 11<|mv 13 0<|qq 14 (.nck (.t 13))<|fa 15 3 14<|ld 16 1 false 15<|ld 17 1 false 2<|ia 18 2 16 17<|ld 19 2 true 18<|cl 20 98 [7,8,12,19]<|ld 21 1 false 3<|cl 22 94 [6,20,21]<|st 2 5 22<|.nil) [5] [5])<|
.ret))
theorem mut_vjp_by_1 : MutT Tryz.prog fi_vjp_by_1 23 a_vjp_by_1 [.cell 2 true 5] := mutT_of Tryz.call185 Tryz.func185
end Go.AM

