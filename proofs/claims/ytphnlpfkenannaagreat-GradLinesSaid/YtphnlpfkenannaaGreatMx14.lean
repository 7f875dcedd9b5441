import Derived.Test.YtphnlpfkenannaaGreatMx13
set_option linter.unusedVariables false
set_option linter.unusedSimpArgs false
namespace Go.AM
open Go Go.Proofs
set_option maxRecDepth 100000
def a_eval_given : ACode := (sr [1,2,4] [2,4] (nn 2 (.box 2 (.t 0))<|al 4 [.nils,.nils]<|mc 5 0<|.nil)<|
(ib [2,4,15] [2,4] (ld 6 2 true 2<|cl 7 31 [6]<|qq 8 (.un .not (.t 7))<|mv 9 8<|.sc 15 9 false 14 none (.op (some 10) (some (9, false)) (.q (.faddr 0 (.t 2)))<|.op (some 11) (some (9, false)) (.q (.load 1 false (.t 10)))<|.op (some 12) (some (9, false)) (.q (.mov (.t 1)))<|.op (some 13) (some (9, false)) (.call (.c (.one (.p (.fn fi_slices_Equal_int_int [] [])))) [(.t 11),(.t 12)])<|.op (some 14) (some (9, false)) (.q (.un .not (.t 13)))<|.nil)<|.nil) 15 (sr [4,5] [2,4] (qq 16 (.build [.nils,.nils] [])<|st 2 4 16<|mc 5 130<|.nil)<|
.ret)<|
(.seq (.region (some [[], [], [], [0, 1, 2], [0, 1, 2], [], [], [], []]) (fa 17 0 2<|ld 18 1 false 17<|cl 19 56 [18]<|fa 20 1 2<|ld 21 1 false 20<|cl 22 56 [21]<|qq 23 (.build [.nils,.nils] [(0, 1, (.t 19)),(1, 1, (.t 22))])<|st 2 4 23<|mc 5 0<|.nil) [4,5] [2,4])<|
.ret)))
theorem pure_eval_given : PureT Tryz.prog fi_eval_given 24 a_eval_given [.cell 2 true 4,.tmp 5] := pureT_of Tryz.call42 Tryz.func42
def a_eval_rules : ACode := (sr [] [] (qq 0 (.mov (.c (.one (.raw (.map none)))))<|.nil)<|
(sr [1] [6] (nn 6 .mkM<|ss (.mput (.t 6) (ic 30) (.c (.one (.p (.fn fi_eval_rules_1 [] [])))))<|ss (.mput (.t 6) (ic 40) (.c (.one (.p (.fn fi_eval_rules_2 [] [])))))<|ss (.mput (.t 6) (ic 41) (.c (.one (.p (.fn fi_eval_rules_3 [] [])))))<|ss (.mput (.t 6) (ic 42) (.c (.one (.p (.fn fi_eval_rules_4 [] [])))))<|ss (.mput (.t 6) (ic 43) (.c (.one (.p (.fn fi_eval_rules_5 [] [])))))<|.op (some 7) none (.call (.c (.one (.p (.fn fi_eval_side [] [])))) [(.c (.one (.p (.fn fi_reduce_Sum [] []))))])<|ss (.mput (.t 6) (ic 50) (.t 7))<|.op (some 8) none (.call (.c (.one (.p (.fn fi_eval_side [] [])))) [(.c (.one (.p (.fn fi_reduce_Mean [] []))))])<|ss (.mput (.t 6) (ic 51) (.t 8))<|.op (some 9) none (.call (.c (.one (.p (.fn fi_eval_side [] [])))) [(.c (.one (.p (.fn fi_reduce_Max [] []))))])<|ss (.mput (.t 6) (ic 52) (.t 9))<|mv 10 6<|mv 1 10<|.nil)<|
(.seq (sr [1,11,12,13] [6,11] (nn 11 (.lit 1 4 [(.int .i64 0)] [(0, (ic 10)),(1, (ic 11)),(2, (ic 12)),(3, (ic 13))])<|le 12 11<|mc 13 0<|.nil)<|
(.block 0 (.loop (sr [1,11,12,13,14] [6,11] (bt 14 .lss 13 12<|.nil)<|
(.seq (cd 14 .skip (.exit 0))<|
(.seq (.block 1 (sr [1,3,11,12,13] [6,11] (ia 15 1 11 13<|ld 16 1 false 15<|mv 3 16<|.nil)<|
(rg [1,11,12,13] [6,11]<|mv 17 1<|mv 18 3<|mv 19 3<|cl 20 89 [19]<|ss (.mput (.t 17) (.t 18) (.t 20))<|.nil)))<|
(rg [1,11,12,13] [6,11]<|bc 21 .add 13 1<|mv 13 21<|.nil)))))))<|
(.seq (sr [1,22,23,24] [6,11,22] (nn 22 (.lit 1 4 [(.int .i64 0)] [(0, (ic 20)),(1, (ic 21)),(2, (ic 22)),(3, (ic 23))])<|le 23 22<|mc 24 0<|.nil)<|
(.block 2 (.loop (sr [1,22,23,24,25] [6,11,22] (bt 25 .lss 24 23<|.nil)<|
(.seq (cd 25 .skip (.exit 2))<|
(.seq (.block 3 (sr [1,5,22,23,24] [6,11,22] (ia 26 1 22 24<|ld 27 1 false 26<|mv 5 27<|.nil)<|
(rg [1,22,23,24] [6,11,22]<|mv 28 1<|mv 29 5<|mv 30 5<|cl 31 90 [30]<|ss (.mput (.t 28) (.t 29) (.t 31))<|.nil)))<|
(rg [1,22,23,24] [6,11,22]<|bc 32 .add 24 1<|mv 24 32<|.nil)))))))<|
(sr [0] [6,11,22] (mv 33 1<|mv 0 33<|.nil)<|
.ret)))))
theorem pure_eval_rules : PureT Tryz.prog fi_eval_rules 34 a_eval_rules [.tmp 0] := pureT_of Tryz.call43 Tryz.func43
def a_graph_kinds : ACode := (sr [] [] (qq 0 (.mov (.c (.one (.raw (.map none)))))<|.nil)<|
(sr [1,2] [1,2] (qq 3 (.build [(.p (.int .i64 0)),(.p (.int .i64 0))] [(0, 1, (ic 2)),(1, 1, (ic 0))])<|qq 4 (.build [(.p (.int .i64 0)),(.p (.int .i64 0))] [(0, 1, (ic 1)),(1, 1, (ic 0))])<|al 1 [(.p (.int .i64 0)),(.p (.int .i64 0))]<|al 2 [(.p (.int .i64 0)),(.p (.int .i64 0))]<|st 2 1 3<|st 2 2 4<|.nil)<|
(sr [0] [1,2,5] (nn 5 .mkM<|qq 6 (.build [(.p (.int .i64 0)),(.p (.int .i64 0))] [(0, 1, (ic 0)),(1, 1, (ic (-1)))])<|ss (.mput (.t 5) (ic 1) (.t 6))<|qq 7 (.build [(.p (.int .i64 0)),(.p (.int .i64 0))] [(0, 1, (ic 0)),(1, 1, (ic (-2)))])<|ss (.mput (.t 5) (ic 2) (.t 7))<|qq 8 (.build [(.p (.int .i64 0)),(.p (.int .i64 0))] [(0, 1, (ic 0)),(1, 1, (ic 1))])<|ss (.mput (.t 5) (ic 3) (.t 8))<|ld 9 2 true 1<|ss (.mput (.t 5) (ic 10) (.t 9))<|ld 10 2 true 1<|ss (.mput (.t 5) (ic 11) (.t 10))<|ld 11 2 true 1<|ss (.mput (.t 5) (ic 12) (.t 11))<|ld 12 2 true 1<|ss (.mput (.t 5) (ic 13) (.t 12))<|ld 13 2 true 2<|ss (.mput (.t 5) (ic 20) (.t 13))<|ld 14 2 true 2<|ss (.mput (.t 5) (ic 21) (.t 14))<|ld 15 2 true 2<|ss (.mput (.t 5) (ic 22) (.t 15))<|ld 16 2 true 2<|ss (.mput (.t 5) (ic 23) (.t 16))<|ld 17 2 true 1<|ss (.mput (.t 5) (ic 30) (.t 17))<|qq 18 (.build [(.p (.int .i64 0)),(.p (.int .i64 0))] [(0, 1, (ic 1)),(1, 1, (ic (-1)))])<|ss (.mput (.t 5) (ic 40) (.t 18))<|ld 19 2 true 2<|ss (.mput (.t 5) (ic 41) (.t 19))<|qq 20 (.build [(.p (.int .i64 0)),(.p (.int .i64 0))] [(0, 1, (ic 1)),(1, 1, (ic 3))])<|ss (.mput (.t 5) (ic 42) (.t 20))<|qq 21 (.build [(.p (.int .i64 0)),(.p (.int .i64 0))] [(0, 1, (ic 2)),(1, 1, (ic 1))])<|ss (.mput (.t 5) (ic 43) (.t 21))<|qq 22 (.build [(.p (.int .i64 0)),(.p (.int .i64 0))] [(0, 1, (ic 1)),(1, 1, (ic 1))])<|ss (.mput (.t 5) (ic 50) (.t 22))<|qq 23 (.build [(.p (.int .i64 0)),(.p (.int .i64 0))] [(0, 1, (ic 1)),(1, 1, (ic 1))])<|ss (.mput (.t 5) (ic 51) (.t 23))<|qq 24 (.build [(.p (.int .i64 0)),(.p (.int .i64 0))] [(0, 1, (ic 1)),(1, 1, (ic 1))])<|ss (.mput (.t 5) (ic 52) (.t 24))<|mv 25 5<|mv 0 25<|.nil)<|
.ret)))
theorem pure_graph_kinds : PureT Tryz.prog fi_graph_kinds 26 a_graph_kinds [.tmp 0] := pureT_of Tryz.call44 Tryz.func44
def a_graph_Check_1 : ACode := (sr [0,1] [] (qq 3 (.mov (.c (.one (.p (.bool false)))))<|.nil)<|
(sr [3] [] (mv 4 0<|bc 5 .lss 4 0<|mv 6 5<|.sc 10 6 false 9 none (.op (some 7) (some (6, false)) (.q (.mov (.t 0)))<|.op (some 8) (some (6, false)) (.q (.load 1 false (.t 1)))<|.op (some 9) (some (6, false)) (.q (.bin .geq (.t 7) (.t 8)))<|.nil)<|mv 3 10<|.nil)<|
.ret))
theorem pure_graph_Check_1 : PureT Tryz.prog fi_graph_Check_1 11 a_graph_Check_1 [.tmp 3] := pureT_of Tryz.call45 Tryz.func45
def a_graph_well : ACode := (sr [2,3] [2,3] (nn 2 (.box 3 (.t 0))<|nn 3 (.box 2 (.t 1))<|qq 4 (.mov (.c (.one (.p (.bool false)))))<|.nil)<|
(sr [3,5] [2,3] (fa 6 2 2<|ld 7 1 false 6<|mv 5 7<|.nil)<|
(.seq (sr [3,5,9] [2,3] (fa 8 1 3<|ld 9 1 false 8<|.nil)<|
(.block 0 (.seq (.block 2 (.seq (.block 1 (.seq (ib [3,5,9,10] [2,3] (bc 11 .eql 9 (-2)<|mv 10 11<|.nil) 10 (.exit 1)<|
(sr [3,5,12] [2,3] (bc 13 .eql 9 (-1)<|mv 12 13<|.nil)<|
(cd 12 (.exit 2) .skip)))<|
(.exit 0)))<|
(ib [5,28] [2,3] (mv 14 5<|le 15 14<|bc 16 .eql 15 0<|mv 17 16<|.sc 22 17 false 21 none (.op (some 18) (some (17, false)) (.q (.mov (.t 5)))<|.op (some 19) (some (17, false)) (.q (.iaddr 1 (.t 18) (ic 0)))<|.op (some 20) (some (17, false)) (.q (.load 1 false (.t 19)))<|.op (some 21) (some (17, false)) (.q (.bin .lss (.t 20) (ic 0)))<|.nil)<|mv 23 22<|.sc 28 23 false 27 none (.op (some 24) (some (23, false)) (.q (.mov (.t 5)))<|.op (some 25) (some (23, false)) (.q (.iaddr 1 (.t 24) (ic 0)))<|.op (some 26) (some (23, false)) (.q (.load 1 false (.t 25)))<|.op (some 27) (some (23, false)) (.q (.bin .geq (.t 26) (ic 8)))<|.nil)<|.nil) 28 (sr [4] [2,3] (qq 4 (.mov (.c (.one (.p (.bool false)))))<|.nil)<|
.ret)<|
(rg [5] [2,3]<|mv 29 5<|qq 30 (.slc 1 (.t 29) (some (ic 1)) none none)<|mv 5 30<|.nil))))<|
(.seq (sr [4] [2,3] (mv 31 5<|cl 32 55 [31]<|mv 4 32<|.nil)<|
.ret)<|
(.exit 0)))))<|
(sr [4] [2,3] (mv 33 5<|le 34 33<|fa 35 1 3<|ld 36 1 false 35<|bt 37 .eql 34 36<|mv 4 37<|.nil)<|
.ret))))
theorem pure_graph_well : PureT Tryz.prog fi_graph_well 38 a_graph_well [.tmp 4] := pureT_of Tryz.call46 Tryz.func46
def a_slices_ContainsFunc_int_int : ACode := (sr [0,1] [] (qq 4 (.mov (.c (.one (.p (.bool false)))))<|.nil)<|
(sr [4] [] (mv 5 0<|mv 6 1<|cl 7 91 [5,6]<|bc 8 .geq 7 0<|mv 4 8<|.nil)<|
.ret))
theorem pure_slices_ContainsFunc_int_int : PureT Tryz.prog fi_slices_ContainsFunc_int_int 9 a_slices_ContainsFunc_int_int [.tmp 4] := pureT_of Tryz.call47 Tryz.func47
def a_graph_name : ACode := (sr [1] [1] (nn 1 (.box 3 (.t 0))<|mc 2 0<|qq 3 (.mov (.c (.one (.p (.bool false)))))<|.nil)<|
(.seq (sr [1,5] [1] (fa 4 0 1<|ld 5 1 false 4<|.nil)<|
(.block 0 (sr [1,5,6] [1] (bc 7 .eql 5 1<|mv 6 7<|.nil)<|
(cd 6 (sr [2,3] [1] (mc 2 (-1)<|qq 3 (.mov (.c (.one (.p (.bool true)))))<|.nil)<|
.ret) (sr [1,8] [1] (bc 9 .eql 5 2<|mv 8 9<|.nil)<|
(cd 8 (sr [2,3] [1] (fa 10 2 1<|ld 11 1 false 10<|qq 12 (.iaddr 1 (.t 11) (ic 0))<|ld 13 1 false 12<|mv 2 13<|qq 3 (.mov (.c (.one (.p (.bool true)))))<|.nil)<|
.ret) .skip))))))<|
(sr [2,3] [1] (mc 2 0<|qq 3 (.mov (.c (.one (.p (.bool false)))))<|.nil)<|
.ret)))
theorem pure_graph_name : PureT Tryz.prog fi_graph_name 14 a_graph_name [.tmp 2,.tmp 3] := pureT_of Tryz.call48 Tryz.func48
def a_slices_Equal_int_int : ACode := (sr [0,1] [] (qq 4 (.mov (.c (.one (.p (.bool false)))))<|.nil)<|
(ib [0,1,10] [] (mv 6 0<|le 7 6<|mv 8 1<|le 9 8<|bt 10 .neq 7 9<|.nil) 10 (sr [4] [] (qq 4 (.mov (.c (.one (.p (.bool false)))))<|.nil)<|
.ret)<|
(.seq (sr [0,1,12,13] [] (mv 11 0<|le 12 11<|mc 13 0<|.nil)<|
(.block 0 (.loop (sr [0,1,12,13,14] [] (bt 14 .lss 13 12<|.nil)<|
(.seq (cd 14 .skip (.exit 0))<|
(.seq (.block 1 (sr [0,1,5,12,13] [] (mv 15 13<|mv 5 15<|.nil)<|
(.seq (.region (some [[], [0], [], [], [0, 1, 2, 3], [0, 1, 2, 3, 4], [0, 1, 2, 3], [0, 1, 2, 3], []]) (mv 16 0<|mv 17 5<|ia 18 1 16 17<|ld 19 1 false 18<|mv 20 1<|mv 21 5<|ia 22 1 20 21<|ld 23 1 false 22<|bt 24 .neq 19 23<|.nil) [0,1,12,13,24] [])<|
(cd 24 (sr [4] [] (qq 4 (.mov (.c (.one (.p (.bool false)))))<|.nil)<|
.ret) .skip))))<|
(rg [0,1,12,13] []<|bc 25 .add 13 1<|mv 13 25<|.nil)))))))<|
(sr [4] [] (qq 4 (.mov (.c (.one (.p (.bool true)))))<|.nil)<|
.ret))))
theorem pure_slices_Equal_int_int : PureT Tryz.prog fi_slices_Equal_int_int 26 a_slices_Equal_int_int [.tmp 4] := pureT_of Tryz.call49 Tryz.func49
theorem mut_slices_Equal_int_int : MutT Tryz.prog fi_slices_Equal_int_int 26 a_slices_Equal_int_int [.tmp 4] := mutT_of Tryz.call49 Tryz.func49
def a_vjp_rules : ACode := (sr [] [] (qq 0 (.mov (.c (.one (.raw (.map none)))))<|.nil)<|
(sr [0] [1,4,6,9,11,12,13,14,15,16,17,18,19,20,21,22,23] (nn 1 .mkM<|.op (some 2) none (.call (.c (.one (.p (.fn fi_vjp_same [] [])))) [(ic 0)])<|.op (some 3) none (.call (.c (.one (.p (.fn fi_vjp_same [] [])))) [(ic 1)])<|nn 4 (.lit 1 2 [.nilF] [(0, (.t 2)),(1, (.t 3))])<|ss (.mput (.t 1) (ic 10) (.t 4))<|.op (some 5) none (.call (.c (.one (.p (.fn fi_vjp_same [] [])))) [(ic 0)])<|nn 6 (.lit 1 2 [.nilF] [(0, (.t 5)),(1, (.c (.one (.p (.fn fi_vjp_rules_1 [] [])))))])<|ss (.mput (.t 1) (ic 11) (.t 6))<|.op (some 7) none (.call (.c (.one (.p (.fn fi_vjp_by [] [])))) [(ic 12),(ic 1),(ic 0)])<|.op (some 8) none (.call (.c (.one (.p (.fn fi_vjp_by [] [])))) [(ic 12),(ic 0),(ic 1)])<|nn 9 (.lit 1 2 [.nilF] [(0, (.t 7)),(1, (.t 8))])<|ss (.mput (.t 1) (ic 12) (.t 9))<|.op (some 10) none (.call (.c (.one (.p (.fn fi_vjp_by [] [])))) [(ic 13),(ic 1),(ic 0)])<|nn 11 (.lit 1 2 [.nilF] [(0, (.t 10)),(1, (.c (.one (.p (.fn fi_vjp_rules_2 [] [])))))])<|ss (.mput (.t 1) (ic 13) (.t 11))<|nn 12 (.lit 1 1 [.nilF] [(0, (.c (.one (.p (.fn fi_vjp_rules_3 [] [])))))])<|ss (.mput (.t 1) (ic 20) (.t 12))<|nn 13 (.lit 1 1 [.nilF] [(0, (.c (.one (.p (.fn fi_vjp_relu [] [])))))])<|ss (.mput (.t 1) (ic 21) (.t 13))<|nn 14 (.lit 1 1 [.nilF] [(0, (.c (.one (.p (.fn fi_vjp_slopes [] [])))))])<|ss (.mput (.t 1) (ic 22) (.t 14))<|nn 15 (.lit 1 1 [.nilF] [(0, (.c (.one (.p (.fn fi_vjp_roots [] [])))))])<|ss (.mput (.t 1) (ic 23) (.t 15))<|nn 16 (.lit 1 2 [.nilF] [(0, (.c (.one (.p (.fn fi_vjp_rules_4 [] []))))),(1, (.c (.one (.p (.fn fi_vjp_rules_5 [] [])))))])<|ss (.mput (.t 1) (ic 30) (.t 16))<|nn 17 (.lit 1 1 [.nilF] [(0, (.c (.one (.p (.fn fi_vjp_rules_6 [] [])))))])<|ss (.mput (.t 1) (ic 40) (.t 17))<|nn 18 (.lit 1 1 [.nilF] [(0, (.c (.one (.p (.fn fi_vjp_rules_7 [] [])))))])<|ss (.mput (.t 1) (ic 41) (.t 18))<|nn 19 (.lit 1 1 [.nilF] [(0, (.c (.one (.p (.fn fi_vjp_rules_8 [] [])))))])<|ss (.mput (.t 1) (ic 42) (.t 19))<|nn 20 (.lit 1 2 [.nilF] [(0, (.c (.one (.p (.fn fi_vjp_rules_9 [] []))))),(1, (.c (.one (.p (.fn fi_vjp_rules_10 [] [])))))])<|ss (.mput (.t 1) (ic 43) (.t 20))<|nn 21 (.lit 1 1 [.nilF] [(0, (.c (.one (.p (.fn fi_vjp_rules_11 [] [])))))])<|ss (.mput (.t 1) (ic 50) (.t 21))<|nn 22 (.lit 1 1 [.nilF] [(0, (.c (.one (.p (.fn fi_vjp_middle [] [])))))])<|ss (.mput (.t 1) (ic 51) (.t 22))<|nn 23 (.lit 1 1 [.nilF] [(0, (.c (.one (.p (.fn fi_vjp_most [] [])))))])<|ss (.mput (.t 1) (ic 52) (.t 23))<|mv 24 1<|mv 0 24<|.nil)<|
.ret))
theorem pure_vjp_rules : PureT Tryz.prog fi_vjp_rules 25 a_vjp_rules [.tmp 0] := pureT_of Tryz.call50 Tryz.func50
def a_shape_Check : ACode := (sr [0] [] (qq 2 (.mov (.c (.one (.p (.bool false)))))<|.nil)<|
(.scope (sr [0,3] [] (mc 3 1<|.nil)<|
(ib [0,3,8] [] (mv 6 0<|le 7 6<|bc 8 .gtr 7 3<|.nil) 8 (sr [2] [] (qq 2 (.mov (.c (.one (.p (.bool false)))))<|.nil)<|
.ret)<|
(.seq (.label 0)<|
(.seq (sr [3,9,10,11] [] (mv 9 0<|le 10 9<|mc 11 0<|.nil)<|
(.block 0 (.loop (sr [3,9,10,11,12] [] (bt 12 .lss 11 10<|.nil)<|
(.seq (cd 12 .skip (.exit 0))<|
(.seq (.block 1 (sr [3,5,9,10,11] [] (ia 13 1 9 11<|ld 14 1 false 13<|mv 5 14<|.nil)<|
(ib [3,5,9,10,11,20] [] (mv 15 5<|bc 16 .lss 15 1<|mv 17 16<|.sc 20 17 false 19 none (.op (some 18) (some (17, false)) (.q (.mov (.t 5)))<|.op (some 19) (some (17, false)) (.q (.bin .gtr (.t 18) (ic 16)))<|.nil)<|.nil) 20 (sr [3] [] (mc 3 0<|.nil)<|
(.exit 0))<|
(rg [3,9,10,11] []<|mv 21 3<|mv 22 5<|bt 23 .mul 21 22<|mv 3 23<|.nil))))<|
(rg [3,9,10,11] []<|bc 24 .add 11 1<|mv 11 24<|.nil)))))))<|
(sr [2] [] (mv 25 3<|bc 26 .gtr 25 0<|mv 27 26<|.sc 30 27 true 29 none (.op (some 28) (some (27, true)) (.q (.mov (.t 3)))<|.op (some 29) (some (27, true)) (.q (.bin .leq (.t 28) (ic 64)))<|.nil)<|mv 2 30<|.nil)<|
.ret)))))))
theorem pure_shape_Check : PureT Tryz.prog fi_shape_Check 31 a_shape_Check [.tmp 2] := pureT_of Tryz.call55 Tryz.func55
def a_slices_Clone_int_int : ACode := (sr [0] [] (qq 2 (.mov (.c (.one .nils)))<|.nil)<|
(ib [0,4] [] (mv 3 0<|qq 4 (.eqN 0 false (.t 3) (.c (.one .nils)))<|.nil) 4 (sr [2] [] (qq 2 (.mov (.c (.one .nils)))<|.nil)<|
.ret)<|
(sr [2] [5,7] (nn 5 (.lit 1 0 [(.int .i64 0)] [])<|mv 6 0<|sd 7 (.app 1 8 (.t 5) (.t 6))<|mv 2 7<|.nil)<|
.ret)))
theorem pure_slices_Clone_int_int : PureT Tryz.prog fi_slices_Clone_int_int 8 a_slices_Clone_int_int [.tmp 2] := pureT_of Tryz.call56 Tryz.func56
theorem mut_slices_Clone_int_int : MutT Tryz.prog fi_slices_Clone_int_int 8 a_slices_Clone_int_int [.tmp 2] := mutT_of Tryz.call56 Tryz.func56
def a_slices_Repeat_int_int : ACode := (sr [0,1] [] (qq 4 (.mov (.c (.one .nils)))<|.nil)<|
(ib [0,1,10] [] (mv 9 1<|bc 10 .lss 9 0<|.nil) 10 (rg [0,1] []<|qq 11 (.mkI 9 (.c (.one (.p (.str ⟨#[99, 97, 110, 110, 111, 116, 32, 98, 101, 32, 110, 101, 103, 97, 116, 105, 118, 101]⟩)))))<|.op none none .bad<|.nil)<|
(sr [0,5,6] [] (mv 13 0<|le 14 13<|qq 15 (.conv .u64 (.t 14))<|mv 16 1<|qq 17 (.conv .u64 (.t 16))<|cl 18 141 [15,17]<|mv 12 18<|xt 19 12 0<|xt 20 12 1<|mv 5 19<|mv 6 20<|.nil)<|
(ib [0,6,26] [] (mv 21 5<|qq 22 (.bin .gtr (.t 21) (.c (.one (.p (.int .u64 0)))))<|mv 23 22<|.sc 26 23 false 25 none (.op (some 24) (some (23, false)) (.q (.mov (.t 6)))<|.op (some 25) (some (23, false)) (.q (.bin .gtr (.t 24) (.c (.one (.p (.int .u64 9223372036854775807))))))<|.nil)<|.nil) 26 (rg [0,6] []<|qq 27 (.mkI 9 (.c (.one (.p (.str ⟨#[116, 104, 101, 32, 114, 101, 115, 117, 108, 116, 32, 111, 102, 32, 40, 108, 101, 110, 40, 120, 41, 32, 42, 32, 99, 111, 117, 110, 116, 41, 32, 111, 118, 101, 114, 102, 108, 111, 119, 115]⟩)))))<|.op none none .bad<|.nil)<|
(sr [0,7] [30] (mv 28 6<|qq 29 (.conv .i64 (.t 28))<|nn 30 (.mkS 1 8 [(.int .i64 0)] (.t 29) (.t 29))<|mv 7 30<|.nil)<|
(sr [7,8] [30] (mv 31 7<|mv 32 0<|sd 33 (.copy 1 (.t 31) (.t 32))<|mv 8 33<|.nil)<|
(.seq (.block 0 (.loop (.seq (sr [7,8,37] [30] (mv 34 8<|mv 35 7<|le 36 35<|bt 37 .lss 34 36<|.nil)<|
(cd 37 .skip (.exit 0)))<|
(.block 1 (.region (some [[], [0], [0, 1], [0], [0, 1, 2, 3], [0, 1, 2, 3, 4], [0, 1, 2, 3], [0], [], []]) (mv 38 8<|mv 39 7<|mv 40 8<|qq 41 (.slc 1 (.t 39) (some (.t 40)) none none)<|mv 42 7<|mv 43 8<|qq 44 (.slc 1 (.t 42) none (some (.t 43)) none)<|sd 45 (.copy 1 (.t 41) (.t 44))<|bt 46 .add 38 45<|mv 8 46<|.nil) [7,8] [30])))))<|
(sr [4] [30] (mv 47 7<|mv 4 47<|.nil)<|
.ret))))))))
theorem mut_slices_Repeat_int_int : MutT Tryz.prog fi_slices_Repeat_int_int 48 a_slices_Repeat_int_int [.tmp 4] := mutT_of Tryz.call57 Tryz.func57
def a_shape_Size : ACode := (sr [0] [] (mc 2 0<|.nil)<|
(ib [0,8] [] (mv 6 0<|cl 7 55 [6]<|qq 8 (.un .not (.t 7))<|.nil) 8 (sr [2] [] (mc 2 0<|.nil)<|
.ret)<|
(sr [0,3] [] (mc 3 1<|.nil)<|
(.seq (sr [3,9,10,11] [] (mv 9 0<|le 10 9<|mc 11 0<|.nil)<|
(.block 0 (.loop (sr [3,9,10,11,12] [] (bt 12 .lss 11 10<|.nil)<|
(.seq (cd 12 .skip (.exit 0))<|
(.seq (.block 1 (sr [3,5,9,10,11] [] (ia 13 1 9 11<|ld 14 1 false 13<|mv 5 14<|.nil)<|
(rg [3,9,10,11] []<|mv 15 3<|mv 16 5<|bt 17 .mul 15 16<|mv 3 17<|.nil)))<|
(rg [3,9,10,11] []<|bc 18 .add 11 1<|mv 11 18<|.nil)))))))<|
(sr [2] [] (mv 19 3<|mv 2 19<|.nil)<|
.ret)))))
theorem pure_shape_Size : PureT Tryz.prog fi_shape_Size 20 a_shape_Size [.tmp 2] := pureT_of Tryz.call58 Tryz.func58
def a_grad_All_1 : ACode := (sr [0,1,2,3,4] [] (mc 6 0<|.nil)<|
(sr [0,2,3,4,7] [7] (ld 15 1 false 1<|mv 16 0<|ia 17 3 15 16<|ld 18 3 true 17<|al 7 [(.p (.int .i64 0)),.nils,.nils]<|st 3 7 18<|.nil)<|
(ib [0,2,3,4,7,21] [7] (fa 19 0 7<|ld 20 1 false 19<|bc 21 .eql 20 2<|.nil) 21 (.seq (.region (some [[], [0], [0], [0], [0], [0, 1, 2, 3, 4], [0, 1, 2, 3, 4, 5], [0, 1, 2, 3, 4], [], []]) (ld 22 1 false 2<|fa 23 2 7<|ld 24 1 false 23<|qq 25 (.iaddr 1 (.t 24) (ic 0))<|ld 26 1 false 25<|ld 27 1 false 3<|mv 28 0<|qq 29 (.mget (.agg [.nils,.nils]) false (.t 27) (.t 28))<|cl 30 64 [22,26,29]<|mv 6 30<|.nil) [6] [7])<|
.ret)<|
(sr [0,3,4,7,8] [7] (qq 8 (.mov (.c (.one .nils)))<|.nil)<|
(.seq (sr [0,3,4,7,8,32,33,34] [7] (fa 31 1 7<|ld 32 1 false 31<|le 33 32<|mc 34 0<|.nil)<|
(.block 0 (.loop (sr [0,3,4,7,8,32,33,34,35] [7] (bt 35 .lss 34 33<|.nil)<|
(.seq (cd 35 .skip (.exit 0))<|
(.seq (.block 1 (sr [0,3,4,7,8,10,32,33,34] [7] (ia 36 1 32 34<|ld 37 1 false 36<|mv 10 37<|.nil)<|
(rg [0,3,4,7,8,32,33,34] [7,43,44]<|mv 38 8<|ld 39 1 false 4<|mv 40 10<|ia 41 2 39 40<|ld 42 2 true 41<|nn 43 (.lit 2 1 [(.sl []),(.sl [])] [(0, (.t 42))])<|sd 44 (.app 2 48 (.t 38) (.t 43))<|mv 8 44<|.nil)))<|
(rg [0,3,4,7,8,32,33,34] [7,43,44]<|bc 45 .add 34 1<|mv 34 45<|.nil)))))))<|
(.seq (.region (some [[], [0], [0, 1], [0, 1, 2], [0, 1], [0, 1], [0, 1, 2, 3, 4, 5], [0, 1, 2, 3, 4, 5, 6], [0, 1, 2, 3, 4, 5], [], [], [], [11], [12], []]) (ld 47 3 true 7<|mv 48 8<|ld 49 1 false 4<|mv 50 0<|ia 51 2 49 50<|ld 52 2 true 51<|ld 53 1 false 3<|mv 54 0<|qq 55 (.mget (.agg [.nils,.nils]) false (.t 53) (.t 54))<|cl 56 28 [47,48,52,55]<|mv 46 56<|xt 57 46 0<|xt 58 46 1<|mv 11 57<|mv 12 58<|.nil) [3,7,11,12] [7,43,44])<|
(.seq (sr [3,7,12,59,60,61] [7,43,44] (mv 59 11<|le 60 59<|mc 61 0<|.nil)<|
(.block 2 (.loop (sr [3,7,12,59,60,61,62] [7,43,44] (bt 62 .lss 61 60<|.nil)<|
(.seq (cd 62 .skip (.exit 2))<|
(.seq (.block 3 (sr [3,7,13,14,59,60,61] [7,14,43,44] (mv 63 61<|ia 64 2 59 61<|ld 65 2 true 64<|al 14 [.nils,.nils]<|mv 13 63<|st 2 14 65<|.nil)<|
(.seq (.region (some [[], [0], [0], [0, 1, 2], [0], [0], [0, 1, 2, 3, 4, 5], [], []]) (ld 66 1 false 3<|fa 67 1 7<|ld 68 1 false 67<|mv 69 13<|ia 70 1 68 69<|ld 71 1 false 70<|ld 72 2 true 14<|cl 73 64 [66,71,72]<|mv 12 73<|.nil) [3,7,12,59,60,61] [7,14,43,44])<|
(sr [3,7,12,59,60,61,75] [7,14,43,44] (mv 74 12<|bc 75 .neq 74 0<|.nil)<|
(cd 75 (.exit 2) .skip)))))<|
(rg [3,7,12,59,60,61] [7,14,43,44]<|bc 76 .add 61 1<|mv 61 76<|.nil)))))))<|
(sr [6] [7,14,43,44] (mv 77 12<|mv 6 77<|.nil)<|
.ret))))))))
theorem mut_grad_All_1 : MutT Tryz.prog fi_grad_All_1 78 a_grad_All_1 [.tmp 6] := mutT_of Tryz.call63 Tryz.func63
def a_grad_sums_add : ACode := (sr [0,1,5] [5] (nn 5 (.box 2 (.t 2))<|mc 6 0<|.nil)<|
(.seq (sr [0,1,5,7,8] [5,7] (mv 10 0<|mv 11 1<|qq 12 (.mget (.agg [.nils,.nils]) true (.t 10) (.t 11))<|mv 9 12<|xt 13 9 0<|xt 14 9 1<|al 7 [.nils,.nils]<|st 2 7 13<|mv 8 14<|.nil)<|
(sr [0,1,5,7,15] [5,7] (mv 15 8<|.nil)<|
(cd 15 (sr [0,1,5,6] [5,7] (ld 17 2 true 7<|ld 18 2 true 5<|.op (some 19) none (.call (.c (.one (.p (.fn fi_elem_Two [] [])))) [(ic 10),(.t 17),(.t 18)])<|mv 16 19<|xt 20 16 0<|xt 21 16 1<|st 2 5 20<|mv 6 21<|.nil)<|
(sr [0,1,5,6,23] [5,7] (mv 22 6<|bc 23 .neq 22 0<|.nil)<|
(cd 23 (sr [6] [5,7] (mv 24 6<|mv 6 24<|.nil)<|
.ret) .skip))) .skip)))<|
(sr [] [5,7] (mv 25 0<|mv 26 1<|ld 27 2 true 5<|ss (.mput (.t 25) (.t 26) (.t 27))<|.nil)<|
(sr [6] [5,7] (mc 6 0<|.nil)<|
.ret))))
theorem mut_grad_sums_add : MutT Tryz.prog fi_grad_sums_add 28 a_grad_sums_add [.tmp 6] := mutT_of Tryz.call64 Tryz.func64
def a_graph_Live : ACode := (sr [0,2] [] (qq 2 (.mov (.c (.one .nils)))<|.nil)<|
(ib [0,2,10] [] (mv 8 0<|cl 9 24 [8]<|qq 10 (.un .not (.t 9))<|.nil) 10 (sr [2] [] (qq 2 (.mov (.c (.one .nils)))<|.nil)<|
.ret)<|
(sr [0,2,3] [11] (nn 11 .mkM<|mv 12 0<|le 13 12<|bc 14 .sub 13 1<|ss (.mput (.t 11) (.t 14) (.c (.one (.p (.bool true)))))<|mv 15 11<|mv 3 15<|.nil)<|
(.seq (sr [0,2,3,17,18] [11] (mv 16 0<|le 17 16<|mc 18 0<|.nil)<|
(.block 0 (.loop (sr [0,2,3,17,18,19] [11] (bt 19 .lss 18 17<|.nil)<|
(.seq (cd 19 .skip (.exit 0))<|
(.seq (.block 1 (sr [0,2,3,4,17,18] [11] (mv 20 18<|mv 4 20<|.nil)<|
(sr [0,2,3,5,17,18] [11] (mv 21 0<|le 22 21<|bc 23 .sub 22 1<|mv 24 4<|bt 25 .sub 23 24<|mv 5 25<|.nil)<|
(ib [0,2,3,5,17,18,29] [11] (mv 26 3<|mv 27 5<|qq 28 (.mget (.one (.p (.bool false))) false (.t 26) (.t 27))<|qq 29 (.un .not (.t 28))<|.nil) 29 (.exit 1)<|
(sr [0,2,3,5,17,18] [11,32,33] (mv 30 2<|mv 31 5<|nn 32 (.lit 1 1 [(.int .i64 0)] [(0, (.t 31))])<|sd 33 (.app 1 8 (.t 30) (.t 32))<|mv 2 33<|.nil)<|
(sr [0,2,3,17,18,38,39,40] [11,32,33] (mv 34 0<|mv 35 5<|ia 36 3 34 35<|fa 37 1 36<|ld 38 1 false 37<|le 39 38<|mc 40 0<|.nil)<|
(.block 2 (.loop (sr [0,2,3,17,18,38,39,40,41] [11,32,33] (bt 41 .lss 40 39<|.nil)<|
(.seq (cd 41 .skip (.exit 2))<|
(.seq (.block 3 (sr [0,2,3,7,17,18,38,39,40] [11,32,33] (ia 42 1 38 40<|ld 43 1 false 42<|mv 7 43<|.nil)<|
(rg [0,2,3,17,18,38,39,40] [11,32,33]<|mv 44 3<|mv 45 7<|ss (.mput (.t 44) (.t 45) (.c (.one (.p (.bool true)))))<|.nil)))<|
(rg [0,2,3,17,18,38,39,40] [11,32,33]<|bc 46 .add 40 1<|mv 40 46<|.nil))))))))))))<|
(rg [0,2,3,17,18] [11,32,33]<|bc 47 .add 18 1<|mv 18 47<|.nil)))))))<|
(sr [2] [11,32,33] (mv 48 2<|cl 49 145 [48]<|.nil)<|
(sr [2] [11,32,33] (mv 50 2<|mv 2 50<|.nil)<|
.ret))))))
theorem pure_graph_Live : PureT Tryz.prog fi_graph_Live 51 a_graph_Live [.tmp 2] := pureT_of Tryz.call65 Tryz.func65
def a_math_bits_Mul64 : ACode := (sr [0,1] [] (qq 4 (.mov (.c (.one (.p (.int .u64 0)))))<|qq 5 (.mov (.c (.one (.p (.int .u64 0)))))<|.nil)<|
(sr [0,1,6] [] (mv 14 0<|qq 15 (.bin .and (.t 14) (.c (.one (.p (.int .u64 4294967295)))))<|mv 6 15<|.nil)<|
(sr [0,1,6,7] [] (mv 16 0<|qq 17 (.bin .shr (.t 16) (.c (.one (.p (.int .u64 32)))))<|mv 7 17<|.nil)<|
(sr [0,1,6,7,8] [] (mv 18 1<|qq 19 (.bin .and (.t 18) (.c (.one (.p (.int .u64 4294967295)))))<|mv 8 19<|.nil)<|
(sr [0,1,6,7,8,9] [] (mv 20 1<|qq 21 (.bin .shr (.t 20) (.c (.one (.p (.int .u64 32)))))<|mv 9 21<|.nil)<|
(sr [0,1,6,7,8,9,10] [] (mv 22 6<|mv 23 8<|bt 24 .mul 22 23<|mv 10 24<|.nil)<|
(sr [0,1,6,7,9,11] [] (mv 25 7<|mv 26 8<|bt 27 .mul 25 26<|mv 28 10<|qq 29 (.bin .shr (.t 28) (.c (.one (.p (.int .u64 32)))))<|bt 30 .add 27 29<|mv 11 30<|.nil)<|
(sr [0,1,6,7,9,11,12] [] (mv 31 11<|qq 32 (.bin .and (.t 31) (.c (.one (.p (.int .u64 4294967295)))))<|mv 12 32<|.nil)<|
(sr [0,1,6,7,9,12,13] [] (mv 33 11<|qq 34 (.bin .shr (.t 33) (.c (.one (.p (.int .u64 32)))))<|mv 13 34<|.nil)<|
(sr [0,1,7,9,12,13] [] (mv 35 12<|mv 36 6<|mv 37 9<|bt 38 .mul 36 37<|bt 39 .add 35 38<|mv 12 39<|.nil)<|
(sr [0,1,4] [] (mv 40 7<|mv 41 9<|bt 42 .mul 40 41<|mv 43 13<|bt 44 .add 42 43<|mv 45 12<|qq 46 (.bin .shr (.t 45) (.c (.one (.p (.int .u64 32)))))<|bt 47 .add 44 46<|mv 4 47<|.nil)<|
(sr [4,5] [] (mv 48 0<|mv 49 1<|bt 50 .mul 48 49<|mv 5 50<|.nil)<|
.ret))))))))))))
theorem pure_math_bits_Mul64 : PureT Tryz.prog fi_math_bits_Mul64 51 a_math_bits_Mul64 [.tmp 4,.tmp 5] := pureT_of Tryz.call66 Tryz.func66
def a_fix_size : ACode := (sr [0] [] (qq 2 (.mov (.c (.one (.p (.int .u64 0)))))<|.nil)<|
(ib [0,4] [] (mv 3 0<|bc 4 .lss 3 0<|.nil) 4 (sr [2] [] (mv 5 0<|qq 6 (.conv .u64 (.t 5))<|qq 7 (.un .neg (.t 6))<|mv 2 7<|.nil)<|
.ret)<|
(sr [2] [] (mv 8 0<|qq 9 (.conv .u64 (.t 8))<|mv 2 9<|.nil)<|
.ret)))
theorem pure_fix_size : PureT Tryz.prog fi_fix_size 10 a_fix_size [.tmp 2] := pureT_of Tryz.call67 Tryz.func67
def a_fix_wide_signed : ACode := (sr [1,2,3] [3] (nn 3 (.boxA 1 2 (.t 0))<|mc 6 0<|mc 7 0<|.nil)<|
(sr [1,2,3,8] [3] (qq 8 (.mov (.c (.one (.p (.int .u64 9223372036854775807)))))<|.nil)<|
(sr [1,2,3,8,9] [3] (qq 10 (.mkF fi_fix_wide_signed_1 [] [(.t 3)])<|mv 9 10<|.nil)<|
(ib [1,2,3,8,9,11] [3] (mv 11 2<|.nil) 11 (sr [1,2,3,8,9] [3] (mv 12 8<|qq 13 (.bin .add (.t 12) (.c (.one (.p (.int .u64 1)))))<|mv 8 13<|.nil)<|
(sr [2,3,8,9,14] [3] (mv 14 1<|.nil)<|
(cd 14 (rg [2,3,8] [3]<|mv 15 9<|.op (some 16) none (.call (.t 15) [])<|.nil) .skip)))<|
(ib [2,3,25] [3] (qq 17 (.iaddrA 2 1 (.t 3) (ic 0))<|ld 18 1 false 17<|qq 19 (.bin .gtr (.t 18) (.c (.one (.p (.int .u64 0)))))<|mv 20 19<|.sc 25 20 false 24 none (.op (some 21) (some (20, false)) (.q (.iaddrA 2 1 (.t 3) (ic 1)))<|.op (some 22) (some (20, false)) (.q (.load 1 false (.t 21)))<|.op (some 23) (some (20, false)) (.q (.mov (.t 8)))<|.op (some 24) (some (20, false)) (.q (.bin .gtr (.t 22) (.t 23)))<|.nil)<|.nil) 25 (sr [6,7] [3] (mc 6 0<|mc 7 10<|.nil)<|
.ret)<|
(ib [3,26] [3] (mv 26 2<|.nil) 26 (sr [6,7] [3] (qq 27 (.iaddrA 2 1 (.t 3) (ic 1))<|ld 28 1 false 27<|qq 29 (.un .neg (.t 28))<|qq 30 (.conv .i64 (.t 29))<|mv 6 30<|mc 7 0<|.nil)<|
.ret)<|
(sr [6,7] [3] (qq 31 (.iaddrA 2 1 (.t 3) (ic 1))<|ld 32 1 false 31<|qq 33 (.conv .i64 (.t 32))<|mv 6 33<|mc 7 0<|.nil)<|
.ret)))))))
theorem pure_fix_wide_signed : PureT Tryz.prog fi_fix_wide_signed 34 a_fix_wide_signed [.tmp 6,.tmp 7] := pureT_of Tryz.call68 Tryz.func68
def a_fix_apart : ACode := (sr [0,1] [] (qq 4 (.mov (.c (.one (.p (.bool false)))))<|.nil)<|
(sr [4] [] (mv 5 0<|bc 6 .neq 5 0<|mv 7 6<|.sc 10 7 true 9 none (.op (some 8) (some (7, true)) (.q (.mov (.t 1)))<|.op (some 9) (some (7, true)) (.q (.bin .neq (.t 8) (ic 0)))<|.nil)<|mv 11 10<|.sc 17 11 true 16 none (.op (some 12) (some (11, true)) (.q (.mov (.t 0)))<|.op (some 13) (some (11, true)) (.q (.bin .lss (.t 12) (ic 0)))<|.op (some 14) (some (11, true)) (.q (.mov (.t 1)))<|.op (some 15) (some (11, true)) (.q (.bin .lss (.t 14) (ic 0)))<|.op (some 16) (some (11, true)) (.q (.eqB true (.t 13) (.t 15)))<|.nil)<|mv 4 17<|.nil)<|
.ret))
theorem pure_fix_apart : PureT Tryz.prog fi_fix_apart 18 a_fix_apart [.tmp 4] := pureT_of Tryz.call69 Tryz.func69
def a_graph_Arity : ACode := (sr [0] [] (mc 2 0<|.nil)<|
(sr [3,4] [3] (cl 6 44 []<|mv 7 0<|qq 8 (.mget (.agg [(.p (.int .i64 0)),(.p (.int .i64 0))]) true (.t 6) (.t 7))<|mv 5 8<|xt 9 5 0<|xt 10 5 1<|al 3 [(.p (.int .i64 0)),(.p (.int .i64 0))]<|st 2 3 9<|mv 4 10<|.nil)<|
(ib [3,12] [3] (mv 11 4<|qq 12 (.un .not (.t 11))<|.nil) 12 (sr [2] [3] (mc 2 (-1)<|.nil)<|
.ret)<|
(sr [2] [3] (fa 13 0 3<|ld 14 1 false 13<|mv 2 14<|.nil)<|
.ret))))
theorem pure_graph_Arity : PureT Tryz.prog fi_graph_Arity 15 a_graph_Arity [.tmp 2] := pureT_of Tryz.call70 Tryz.func70
def a_infer_Node_1 : ACode := (sr [0] [] (qq 2 (.mov (.c (.one (.p (.bool false)))))<|.nil)<|
(sr [2] [] (mv 3 0<|cl 4 55 [3]<|qq 5 (.un .not (.t 4))<|mv 2 5<|.nil)<|
.ret))
theorem pure_infer_Node_1 : PureT Tryz.prog fi_infer_Node_1 6 a_infer_Node_1 [.tmp 2] := pureT_of Tryz.call71 Tryz.func71
def a_slices_ContainsFunc_LL_int_int : ACode := (sr [0,1] [] (qq 4 (.mov (.c (.one (.p (.bool false)))))<|.nil)<|
(sr [4] [] (mv 5 0<|mv 6 1<|cl 7 148 [5,6]<|bc 8 .geq 7 0<|mv 4 8<|.nil)<|
.ret))
theorem pure_slices_ContainsFunc_LL_int_int : PureT Tryz.prog fi_slices_ContainsFunc_LL_int_int 9 a_slices_ContainsFunc_LL_int_int [.tmp 4] := pureT_of Tryz.call72 Tryz.func72
def a_infer_rules : ACode := (sr [] [] (qq 0 (.mov (.c (.one (.raw (.map none)))))<|.nil)<|
(sr [1] [] (qq 1 (.mov (.c (.one (.p (.fn fi_infer_rules_1 [] [])))))<|.nil)<|
(sr [1,2] [] (qq 2 (.mov (.c (.one (.p (.fn fi_infer_rules_2 [] [])))))<|.nil)<|
(sr [1,2,3] [] (qq 3 (.mov (.c (.one (.p (.fn fi_infer_rules_3 [] [])))))<|.nil)<|
(sr [1,2,3,4] [] (qq 4 (.mov (.c (.one (.p (.fn fi_infer_rules_4 [] [])))))<|.nil)<|
(sr [1,2,3,4,5] [] (qq 5 (.mov (.c (.one (.p (.fn fi_infer_rules_5 [] [])))))<|.nil)<|
(sr [1,2,3,4,5,6] [] (qq 6 (.mov (.c (.one (.p (.fn fi_infer_rules_6 [] [])))))<|.nil)<|
(sr [0] [7] (nn 7 .mkM<|mv 8 1<|ss (.mput (.t 7) (ic 1) (.t 8))<|mv 9 2<|ss (.mput (.t 7) (ic 2) (.t 9))<|mv 10 3<|ss (.mput (.t 7) (ic 3) (.t 10))<|ss (.mput (.t 7) (ic 10) (.c (.one (.p (.fn fi_infer_both [] [])))))<|ss (.mput (.t 7) (ic 11) (.c (.one (.p (.fn fi_infer_both [] [])))))<|ss (.mput (.t 7) (ic 12) (.c (.one (.p (.fn fi_infer_both [] [])))))<|ss (.mput (.t 7) (ic 13) (.c (.one (.p (.fn fi_infer_both [] [])))))<|ss (.mput (.t 7) (ic 20) (.c (.one (.p (.fn fi_infer_first [] [])))))<|ss (.mput (.t 7) (ic 21) (.c (.one (.p (.fn fi_infer_first [] [])))))<|ss (.mput (.t 7) (ic 22) (.c (.one (.p (.fn fi_infer_first [] [])))))<|ss (.mput (.t 7) (ic 23) (.c (.one (.p (.fn fi_infer_first [] [])))))<|mv 11 6<|ss (.mput (.t 7) (ic 30) (.t 11))<|mv 12 4<|ss (.mput (.t 7) (ic 40) (.t 12))<|mv 13 5<|ss (.mput (.t 7) (ic 41) (.t 13))<|.op (some 14) none (.call (.c (.one (.p (.fn fi_infer_sided [] [])))) [(.c (.one (.p (.fn fi_infer_part [] []))))])<|ss (.mput (.t 7) (ic 42) (.t 14))<|.op (some 15) none (.call (.c (.one (.p (.fn fi_infer_sided [] [])))) [(.c (.one (.p (.fn fi_infer_behind [] []))))])<|ss (.mput (.t 7) (ic 43) (.t 15))<|.op (some 16) none (.call (.c (.one (.p (.fn fi_infer_sided [] [])))) [(.c (.one (.p (.fn fi_infer_together [] []))))])<|ss (.mput (.t 7) (ic 50) (.t 16))<|.op (some 17) none (.call (.c (.one (.p (.fn fi_infer_sided [] [])))) [(.c (.one (.p (.fn fi_infer_together [] []))))])<|ss (.mput (.t 7) (ic 51) (.t 17))<|.op (some 18) none (.call (.c (.one (.p (.fn fi_infer_sided [] [])))) [(.c (.one (.p (.fn fi_infer_together [] []))))])<|ss (.mput (.t 7) (ic 52) (.t 18))<|mv 19 7<|mv 0 19<|.nil)<|
.ret))))))))
theorem pure_infer_rules : PureT Tryz.prog fi_infer_rules 20 a_infer_rules [.tmp 0] := pureT_of Tryz.call73 Tryz.func73
def a_eval_rules_1 : ACode := (sr [0,4] [4] (al 4 [.nils,.nils,(.p (.int .i64 0))]<|.nil)<|
(.seq (.region (some [[], [], [], [0, 1, 2], [0, 1, 2], [0, 1, 2], [], [], [7], [], []]) (mv 5 0<|qq 6 (.iaddr 2 (.t 5) (ic 0))<|ld 7 2 true 6<|mv 8 0<|qq 9 (.iaddr 2 (.t 8) (ic 1))<|ld 10 2 true 9<|cl 11 76 [7,10]<|xt 12 11 0<|xt 13 11 1<|cl 14 75 [12,13]<|st 3 4 14<|.nil) [4] [4])<|
.ret))
theorem pure_eval_rules_1 : PureT Tryz.prog fi_eval_rules_1 15 a_eval_rules_1 [.cell 3 true 4] := pureT_of Tryz.call74 Tryz.func74
def a_eval_of_api_Tensor : ACode := (sr [1,2,4] [2,4] (nn 2 (.box 2 (.t 0))<|al 4 [.nils,.nils,(.p (.int .i64 0))]<|.nil)<|
(sr [4] [2,4] (ld 5 2 true 2<|mv 6 1<|qq 7 (.build [.nils,.nils,(.p (.int .i64 0))] [(0, 2, (.t 5)),(2, 1, (.t 6))])<|st 3 4 7<|.nil)<|
.ret))
theorem pure_eval_of_api_Tensor : PureT Tryz.prog fi_eval_of_api_Tensor 8 a_eval_of_api_Tensor [.cell 3 true 4] := pureT_of Tryz.call75 Tryz.func75
def a_matmul_Mul : ACode := (sr [2,3,4] [2,3,4] (nn 2 (.box 2 (.t 0))<|nn 3 (.box 2 (.t 1))<|al 4 [.nils,.nils]<|mc 5 0<|.nil)<|
(.scope (.seq (sr [2,3,4,5] [2,3,4,16] (ld 14 2 true 2<|ld 15 2 true 3<|nn 16 (.lit 2 2 [(.sl []),(.sl [])] [(0, (.t 14)),(1, (.t 15))])<|cl 17 161 [16]<|mv 5 17<|.nil)<|
(sr [2,3,4,5,19] [2,3,4,16] (mv 18 5<|bc 19 .neq 18 0<|.nil)<|
(cd 19 (sr [4,5] [2,3,4,16] (ld 20 2 true 4<|mv 21 5<|st 2 4 20<|mv 5 21<|.nil)<|
.ret) .skip)))<|
(.seq (.seq (.region (some ([] :: [] :: [] :: [] :: [] :: [] :: [] :: [] :: [] :: [] :: [] :: [] :: [] :: [] :: [] :: [11, 12, 13, 14] :: [11, 12, 13, 14] :: [11, 12, 13, 14] :: [11, 12, 13, 14] :: [] :: [] :: [])) (fa 22 0 2<|ld 23 1 false 22<|le 24 23<|bc 25 .neq 24 2<|mv 26 25<|.sc 31 26 false 30 none (.op (some 27) (some (26, false)) (.q (.faddr 0 (.t 3)))<|.op (some 28) (some (26, false)) (.q (.load 1 false (.t 27)))<|.op (some 29) (some (26, false)) (.q (.len (.t 28)))<|.op (some 30) (some (26, false)) (.q (.bin .neq (.t 29) (ic 2)))<|.nil)<|mv 32 31<|.sc 42 32 false 41 none (.op (some 33) (some (32, false)) (.q (.faddr 0 (.t 2)))<|.op (some 34) (some (32, false)) (.q (.load 1 false (.t 33)))<|.op (some 35) (some (32, false)) (.q (.iaddr 1 (.t 34) (ic 1)))<|.op (some 36) (some (32, false)) (.q (.load 1 false (.t 35)))<|.op (some 37) (some (32, false)) (.q (.faddr 0 (.t 3)))<|.op (some 38) (some (32, false)) (.q (.load 1 false (.t 37)))<|.op (some 39) (some (32, false)) (.q (.iaddr 1 (.t 38) (ic 0)))<|.op (some 40) (some (32, false)) (.q (.load 1 false (.t 39)))<|.op (some 41) (some (32, false)) (.q (.bin .neq (.t 36) (.t 40)))<|.nil)<|.nil) [2,3,4,42] [2,3,4,16])<|
(cd 42 (sr [4,5] [2,3,4,16] (ld 43 2 true 4<|st 2 4 43<|mc 5 20<|.nil)<|
.ret) .skip))<|
(.seq (.region (some [[], [], [], [], [0, 1, 2, 3], [0, 1, 2, 3], [0, 1, 2, 3], [0, 1, 2, 3], [], [0, 1, 2, 3, 4, 5, 6, 7, 8], []]) (fa 44 0 2<|ld 45 1 false 44<|qq 46 (.iaddr 1 (.t 45) (ic 0))<|ld 47 1 false 46<|fa 48 0 3<|ld 49 1 false 48<|qq 50 (.iaddr 1 (.t 49) (ic 1))<|ld 51 1 false 50<|qq 52 (.build [(.p (.int .i64 0)),(.p (.int .i64 0))] [(0, 1, (.t 47)),(1, 1, (.t 51))])<|nn 6 (.allocA 1 [[(.int .i64 0)],[(.int .i64 0)]])<|ss (.storeA 2 1 (.t 6) (.t 52))<|.nil) [2,3,4,6] [2,3,4,6,16])<|
(ib [2,3,4,6,55] [2,3,4,6,16] (qq 53 (.slcA 2 1 (.t 6) none none none)<|cl 54 55 [53]<|qq 55 (.un .not (.t 54))<|.nil) 55 (sr [4,5] [2,3,4,6,16] (ld 56 2 true 4<|st 2 4 56<|mc 5 20<|.nil)<|
.ret)<|
(sr [2,3,4,6,7] [2,3,4,6,7,16] (fa 57 0 2<|ld 58 1 false 57<|qq 59 (.iaddr 1 (.t 58) (ic 1))<|ld 60 1 false 59<|al 7 [(.p (.int .i64 0))]<|st 1 7 60<|.nil)<|
(sr [3,4,6,7,8] [2,3,4,6,7,16] (qq 61 (.mkF fi_matmul_Mul_1 [] [(.t 2),(.t 7)])<|mv 8 61<|.nil)<|
(sr [4,6,7,8,9] [2,3,4,6,7,16] (qq 62 (.mkF fi_matmul_Mul_2 [] [(.t 3),(.t 6)])<|mv 9 62<|.nil)<|
(sr [4,6,7,8,9,10] [2,3,4,6,7,16,68] (qq 63 (.iaddrA 2 1 (.t 6) (ic 0))<|ld 64 1 false 63<|qq 65 (.iaddrA 2 1 (.t 6) (ic 1))<|ld 66 1 false 65<|bt 67 .mul 64 66<|nn 68 (.mkS 1 8 [(.int .i64 0)] (.t 67) (.t 67))<|mv 10 68<|.nil)<|
(.seq (sr [4,6,7,8,9,10,70,71] [2,3,4,6,7,16,68] (mv 69 10<|le 70 69<|mc 71 0<|.nil)<|
(.block 0 (.loop (sr [4,6,7,8,9,10,70,71,72] [2,3,4,6,7,16,68] (bt 72 .lss 71 70<|.nil)<|
(.seq (cd 72 .skip (.exit 0))<|
(.seq (.block 1 (sr [4,6,7,8,9,10,11,70,71] [2,3,4,6,7,16,68] (mv 73 71<|mv 11 73<|.nil)<|
(sr [4,6,7,8,9,10,11,70,71,74,75] [2,3,4,6,7,16,68] (ld 74 1 false 7<|mc 75 0<|.nil)<|
(.block 2 (.loop (sr [4,6,7,8,9,10,11,70,71,74,75,76] [2,3,4,6,7,16,68] (bt 76 .lss 75 74<|.nil)<|
(.seq (cd 76 .skip (.exit 2))<|
(.seq (.block 3 (sr [4,6,7,8,9,10,11,12,70,71,74,75] [2,3,4,6,7,16,68] (mv 77 75<|mv 12 77<|.nil)<|
(sr [4,6,7,8,9,10,11,12,70,71,74,75] [2,3,4,6,7,16,68] (mc 13 0<|.nil)<|
(.seq (.seq (.region (some [[], [0], [0, 1], [0, 1], [0], [0, 1, 2, 3, 4], [], [0, 1, 2, 3, 4, 5, 6], [0, 1, 2, 3, 4, 5, 6, 7], [0, 1, 2, 3, 4, 5, 6, 7, 8], [0, 1, 2, 3, 4, 5, 6, 7, 8, 9], [0, 1, 2, 3, 4, 5, 6, 7, 8, 9], [0, 1, 2, 3, 4, 5, 6, 7, 8], [], [], [], [], [16], [17], []]) (mv 79 8<|mv 80 11<|qq 81 (.iaddrA 2 1 (.t 6) (ic 1))<|ld 82 1 false 81<|bt 83 .quo 80 82<|mv 84 12<|.op (some 85) none (.call (.t 79) [(.t 83),(.t 84)])<|mv 86 9<|mv 87 12<|mv 88 11<|qq 89 (.iaddrA 2 1 (.t 6) (ic 1))<|ld 90 1 false 89<|bt 91 .rem 88 90<|.op (some 92) none (.call (.t 86) [(.t 87),(.t 91)])<|cl 93 39 [85,92]<|mv 78 93<|xt 94 78 0<|xt 95 78 1<|mv 13 94<|mv 5 95<|.nil) [4,5,6,7,8,9,10,11,13,70,71,74,75] [2,3,4,6,7,16,68])<|
(sr [4,5,6,7,8,9,10,11,13,70,71,74,75,97] [2,3,4,6,7,16,68] (mv 96 5<|bc 97 .neq 96 0<|.nil)<|
(cd 97 (.goto 0) .skip)))<|
(sr [4,5,6,7,8,9,10,11,70,71,74,75] [2,3,4,6,7,16,68] (mv 99 10<|mv 100 11<|mv 101 10<|mv 102 11<|ia 103 1 101 102<|ld 104 1 false 103<|mv 105 13<|cl 106 164 [104,105]<|mv 98 106<|xt 107 98 0<|xt 108 98 1<|ia 109 1 99 100<|st 1 109 107<|mv 5 108<|.nil)<|
(sr [4,5,6,7,8,9,10,11,70,71,74,75,111] [2,3,4,6,7,16,68] (mv 110 5<|bc 111 .neq 110 0<|.nil)<|
(cd 111 (.goto 0) .skip)))))))<|
(rg [4,6,7,8,9,10,11,70,71,74,75] [2,3,4,6,7,16,68]<|bc 112 .add 75 1<|mv 75 112<|.nil)))))))))<|
(rg [4,6,7,8,9,10,70,71] [2,3,4,6,7,16,68]<|bc 113 .add 71 1<|mv 71 113<|.nil)))))))<|
(.seq (sr [4,5] [2,3,4,6,7,16,68] (qq 114 (.slcA 2 1 (.t 6) none none none)<|mv 115 10<|qq 116 (.build [.nils,.nils] [(0, 1, (.t 114)),(1, 1, (.t 115))])<|st 2 4 116<|mc 5 0<|.nil)<|
.ret)<|
(.seq (.label 0)<|
(sr [4,5] [2,3,4,6,7,16,68] (qq 117 (.build [.nils,.nils] [])<|mv 118 5<|st 2 4 117<|mv 5 118<|.nil)<|
.ret))))))))))))))
theorem pure_matmul_Mul : PureT Tryz.prog fi_matmul_Mul 119 a_matmul_Mul [.cell 2 true 4,.tmp 5] := pureT_of Tryz.call76 Tryz.func76
end Go.AM

