import Derived.Test.YtphnlpfkenannaaGreatMv11
set_option linter.unusedVariables false
set_option linter.unusedSimpArgs false
namespace Go.AM
open Go Go.Proofs
set_option maxRecDepth 100000
def a_fullerlaw13_awake : ACode := (sr [] [] (qq 0 (.mov (.c (.one (.p (.bool false)))))<|.nil)<|
(sr [1] [15,17,19] (qq 14 (.build [(.p (.int .i64 0)),.nils,.nils] [(0, 1, (ic 1))])<|nn 15 (.lit 1 1 [(.int .i64 0)] [(0, (ic 0))])<|qq 16 (.build [(.p (.int .i64 0)),.nils,.nils] [(0, 1, (ic 20)),(1, 1, (.t 15))])<|nn 17 (.lit 1 1 [(.int .i64 0)] [(0, (ic 1))])<|qq 18 (.build [(.p (.int .i64 0)),.nils,.nils] [(0, 1, (ic 2)),(2, 1, (.t 17))])<|nn 19 (.lit 3 3 [(.int .i64 0),(.sl []),(.sl [])] [(0, (.t 14)),(1, (.t 16)),(2, (.t 18))])<|mv 1 19<|.nil)<|
(sr [1,2] [2,15,17,19,20] (nn 20 (.lit 1 1 [(.int .i64 0)] [(0, (ic 5))])<|qq 21 (.build [.nils,.nils] [(1, 1, (.t 20))])<|al 2 [.nils,.nils]<|st 2 2 21<|.nil)<|
(sr [1,2,3,4,5] [2,15,17,19,20,27] (mv 23 1<|ld 24 2 true 2<|qq 25 (.build [.nils,.nils] [])<|ld 26 2 true 2<|nn 27 (.lit 2 2 [(.sl []),(.sl [])] [(0, (.t 25)),(1, (.t 26))])<|cl 28 18 [23,24,27]<|mv 22 28<|xt 29 22 0<|xt 30 22 1<|xt 31 22 2<|mv 3 29<|mv 4 30<|mv 5 31<|.nil)<|
(sr [2,3,4,5,7,8] [2,15,17,19,20,27] (mv 33 1<|ld 34 2 true 2<|.op (some 35) none (.call (.c (.one (.p (.fn fi_eval_All [] [])))) [(.t 33),(.t 34),(.c (.one .nils))])<|mv 32 35<|xt 36 32 0<|xt 37 32 1<|xt 38 32 2<|mv 6 36<|mv 7 37<|mv 8 38<|.nil)<|
(sr [2,3,4,5,7,8,10,11] [2,15,17,19,20,27] (ld 40 2 true 2<|.op (some 41) none (.call (.c (.one (.p (.fn fi_eval_All [] [])))) [(.c (.one .nils)),(.t 40),(.c (.one .nils))])<|mv 39 41<|xt 42 39 0<|xt 43 39 1<|xt 44 39 2<|mv 9 42<|mv 10 43<|mv 11 44<|.nil)<|
(sr [3,4,5,7,8,10,11,12,13] [2,12,15,17,19,20,27,46] (nn 46 (.lit 1 1 [(.int .i64 0)] [(0, (ic 7))])<|qq 47 (.build [(.p (.int .i64 0)),.nils,.nils] [(0, 1, (ic 3)),(2, 1, (.t 46))])<|ld 48 2 true 2<|.op (some 49) none (.call (.c (.one (.p (.fn fi_eval_Node [] [])))) [(.t 47),(.c (.one .nils)),(.t 48),(.c (.one .nils))])<|mv 45 49<|xt 50 45 0<|xt 51 45 1<|al 12 [.nils,.nils]<|st 2 12 50<|mv 13 51<|.nil)<|
(sr [0] [2,12,15,17,19,20,27,46,60,90] (mv 52 3<|le 53 52<|bc 54 .eql 53 3<|mv 55 54<|.sc 62 55 true 61 none (.op (some 56) (some (55, true)) (.q (.mov (.t 3)))<|.op (some 57) (some (55, true)) (.q (.iaddr 2 (.t 56) (ic 1)))<|.op (some 58) (some (55, true)) (.q (.faddr 1 (.t 57)))<|.op (some 59) (some (55, true)) (.q (.load 1 false (.t 58)))<|.op (some 60) (some (55, true)) (.n (.lit 1 1 [(.int .i64 0)] [(0, (ic (-5)))]))<|.op (some 61) (some (55, true)) (.call (.c (.one (.p (.fn fi_fullerref02_Same [] [])))) [(.t 59),(.t 60)])<|.nil)<|mv 63 62<|.sc 66 63 true 65 none (.op (some 64) (some (63, true)) (.q (.mov (.t 4)))<|.op (some 65) (some (63, true)) (.q (.bin .eql (.t 64) (ic (-1))))<|.nil)<|mv 67 66<|.sc 70 67 true 69 none (.op (some 68) (some (67, true)) (.q (.mov (.t 5)))<|.op (some 69) (some (67, true)) (.q (.bin .eql (.t 68) (ic 0)))<|.nil)<|mv 71 70<|.sc 74 71 true 73 none (.op (some 72) (some (71, true)) (.q (.mov (.t 7)))<|.op (some 73) (some (71, true)) (.q (.bin .eql (.t 72) (ic 2)))<|.nil)<|mv 75 74<|.sc 78 75 true 77 none (.op (some 76) (some (75, true)) (.q (.mov (.t 8)))<|.op (some 77) (some (75, true)) (.q (.bin .eql (.t 76) (ic 130)))<|.nil)<|mv 79 78<|.sc 82 79 true 81 none (.op (some 80) (some (79, true)) (.q (.mov (.t 10)))<|.op (some 81) (some (79, true)) (.q (.bin .eql (.t 80) (ic (-1))))<|.nil)<|mv 83 82<|.sc 86 83 true 85 none (.op (some 84) (some (83, true)) (.q (.mov (.t 11)))<|.op (some 85) (some (83, true)) (.q (.bin .eql (.t 84) (ic 100)))<|.nil)<|mv 87 86<|.sc 92 87 true 91 none (.op (some 88) (some (87, true)) (.q (.faddr 1 (.t 12)))<|.op (some 89) (some (87, true)) (.q (.load 1 false (.t 88)))<|.op (some 90) (some (87, true)) (.n (.lit 1 1 [(.int .i64 0)] [(0, (ic 7))]))<|.op (some 91) (some (87, true)) (.call (.c (.one (.p (.fn fi_fullerref02_Same [] [])))) [(.t 89),(.t 90)])<|.nil)<|mv 93 92<|.sc 96 93 true 95 none (.op (some 94) (some (93, true)) (.q (.mov (.t 13)))<|.op (some 95) (some (93, true)) (.q (.bin .eql (.t 94) (ic 0)))<|.nil)<|mv 97 96<|qq 98 (.pick (.t 97) (.c (.one (.p (.bool true)))) (.c (.one (.p (.bool false)))))<|mv 0 98<|.nil)<|
.ret))))))))
theorem pure_fullerlaw13_awake : PureT Tryz.prog fi_fullerlaw13_awake 99 a_fullerlaw13_awake [.tmp 0] := pureT_of Tryz.call15 Tryz.func15
def a_fullerref10_Few : ACode := (sr [0] [] (qq 2 (.mov (.c (.one (.p (.bool false)))))<|.nil)<|
(.seq (sr [0,3] [] (mc 3 0<|.nil)<|
(.block 0 (.loop (.seq (sr [0,3,7] [] (mv 4 3<|mv 5 0<|le 6 5<|bt 7 .lss 4 6<|.nil)<|
(cd 7 .skip (.exit 0)))<|
(.seq (.block 1 (sr [0,3,25] [] (mv 10 0<|mv 11 3<|ia 12 3 10 11<|fa 13 1 12<|ld 14 1 false 13<|le 15 14<|bc 16 .gtr 15 30<|mv 17 16<|.sc 25 17 false 24 none (.op (some 18) (some (17, false)) (.q (.mov (.t 0)))<|.op (some 19) (some (17, false)) (.q (.mov (.t 3)))<|.op (some 20) (some (17, false)) (.q (.iaddr 3 (.t 18) (.t 19)))<|.op (some 21) (some (17, false)) (.q (.faddr 2 (.t 20)))<|.op (some 22) (some (17, false)) (.q (.load 1 false (.t 21)))<|.op (some 23) (some (17, false)) (.q (.len (.t 22)))<|.op (some 24) (some (17, false)) (.q (.bin .gtr (.t 23) (ic 30)))<|.nil)<|.nil)<|
(cd 25 (sr [2] [] (qq 2 (.mov (.c (.one (.p (.bool false)))))<|.nil)<|
.ret) .skip)))<|
(rg [0,3] []<|mv 8 3<|bc 9 .add 8 1<|mv 3 9<|.nil))))))<|
(sr [2] [] (mv 26 0<|le 27 26<|bc 28 .leq 27 30<|mv 2 28<|.nil)<|
.ret)))
theorem pure_fullerref10_Few : PureT Tryz.prog fi_fullerref10_Few 29 a_fullerref10_Few [.tmp 2] := pureT_of Tryz.call16 Tryz.func16
def a_fullerlaw13_few : ACode := (sr [1,2] [2] (nn 2 (.box 2 (.t 0))<|qq 4 (.mov (.c (.one (.p (.bool false)))))<|.nil)<|
(sr [1,5] [2] (ld 6 2 true 2<|cl 7 27 [6]<|mv 5 7<|.nil)<|
(sr [4] [2] (mv 8 5<|mv 9 8<|.sc 12 9 true 11 none (.op (some 10) (some (9, true)) (.q (.mov (.t 1)))<|.op (some 11) (some (9, true)) (.call (.c (.one (.p (.fn fi_fullerref09_Few [] [])))) [(.t 10),(ic 10)])<|.nil)<|mv 4 12<|.nil)<|
.ret)))
theorem pure_fullerlaw13_few : PureT Tryz.prog fi_fullerlaw13_few 13 a_fullerlaw13_few [.tmp 4] := pureT_of Tryz.call17 Tryz.func17
def a_eval_All : ACode := (sr [0,2,4] [4] (nn 4 (.box 2 (.t 1))<|qq 6 (.mov (.c (.one .nils)))<|mc 7 0<|mc 8 0<|.nil)<|
(.seq (sr [0,2,4,10,11] [4] (mv 21 0<|cl 22 19 [21]<|mv 20 22<|xt 23 20 0<|xt 24 20 1<|xt 25 20 2<|mv 9 23<|mv 10 24<|mv 11 25<|.nil)<|
(sr [0,2,4,10,11,27] [4] (mv 26 11<|bc 27 .neq 26 0<|.nil)<|
(cd 27 (sr [6,7,8] [4] (mv 28 10<|mv 29 11<|qq 6 (.mov (.c (.one .nils)))<|mv 7 28<|mv 8 29<|.nil)<|
.ret) .skip)))<|
(sr [0,2,4,12] [4] (qq 12 (.mov (.c (.one .nils)))<|.nil)<|
(.seq (sr [2,4,12,30,31,32] [4] (mv 30 0<|le 31 30<|mc 32 0<|.nil)<|
(.block 0 (.loop (sr [2,4,12,30,31,32,33] [4] (bt 33 .lss 32 31<|.nil)<|
(.seq (cd 33 .skip (.exit 0))<|
(.seq (.block 1 (sr [2,4,12,13,14,30,31,32] [4,14] (mv 34 32<|ia 35 3 30 32<|ld 36 3 true 35<|al 14 [(.p (.int .i64 0)),.nils,.nils]<|mv 13 34<|st 3 14 36<|.nil)<|
(sr [2,4,12,13,14,15,30,31,32] [4,14] (qq 15 (.mov (.c (.one .nils)))<|.nil)<|
(.seq (sr [2,4,12,13,14,15,30,31,32,38,39,40] [4,14] (fa 37 1 14<|ld 38 1 false 37<|le 39 38<|mc 40 0<|.nil)<|
(.block 2 (.loop (sr [2,4,12,13,14,15,30,31,32,38,39,40,41] [4,14] (bt 41 .lss 40 39<|.nil)<|
(.seq (cd 41 .skip (.exit 2))<|
(.seq (.block 3 (sr [2,4,12,13,14,15,17,30,31,32,38,39,40] [4,14] (ia 42 1 38 40<|ld 43 1 false 42<|mv 17 43<|.nil)<|
(rg [2,4,12,13,14,15,30,31,32,38,39,40] [4,14,49,50]<|mv 44 15<|mv 45 12<|mv 46 17<|ia 47 2 45 46<|ld 48 2 true 47<|nn 49 (.lit 2 1 [(.sl []),(.sl [])] [(0, (.t 48))])<|sd 50 (.app 2 48 (.t 44) (.t 49))<|mv 15 50<|.nil)))<|
(rg [2,4,12,13,14,15,30,31,32,38,39,40] [4,14,49,50]<|bc 51 .add 40 1<|mv 40 51<|.nil)))))))<|
(sr [2,4,12,13,18,19,30,31,32] [4,14,18,49,50] (ld 53 3 true 14<|mv 54 15<|ld 55 2 true 4<|mv 56 2<|cl 57 22 [53,54,55,56]<|mv 52 57<|xt 58 52 0<|xt 59 52 1<|al 18 [.nils,.nils]<|st 2 18 58<|mv 19 59<|.nil)<|
(ib [2,4,12,13,18,19,30,31,32,61] [4,14,18,49,50] (mv 60 19<|bc 61 .neq 60 0<|.nil) 61 (sr [6,7,8] [4,14,18,49,50] (mv 62 13<|mv 63 19<|qq 6 (.mov (.c (.one .nils)))<|mv 7 62<|mv 8 63<|.nil)<|
.ret)<|
(rg [2,4,12,30,31,32] [4,14,18,49,50,66,67]<|mv 64 12<|ld 65 2 true 18<|nn 66 (.lit 2 1 [(.sl []),(.sl [])] [(0, (.t 65))])<|sd 67 (.app 2 48 (.t 64) (.t 66))<|mv 12 67<|.nil)))))))<|
(rg [2,4,12,30,31,32] [4,14,18,49,50,66,67]<|bc 68 .add 32 1<|mv 32 68<|.nil)))))))<|
(sr [6,7,8] [4,14,18,49,50,66,67] (mv 69 12<|mv 6 69<|mc 7 (-1)<|mc 8 0<|.nil)<|
.ret)))))
theorem pure_eval_All : PureT Tryz.prog fi_eval_All 70 a_eval_All [.tmp 6,.tmp 7,.tmp 8] := pureT_of Tryz.call18 Tryz.func18
def a_infer_Shapes : ACode := (sr [0,2,4] [] (qq 2 (.mov (.c (.one .nils)))<|mc 3 0<|mc 4 0<|.nil)<|
(sr [0,2,3,4] [] (mc 3 (-1)<|.nil)<|
(ib [0,2,3,4,14] [] (mv 12 0<|cl 13 24 [12]<|qq 14 (.un .not (.t 13))<|.nil) 14 (sr [2,3,4] [] (mc 4 100<|.nil)<|
.ret)<|
(.seq (sr [2,3,4,15,16,17] [] (mv 15 0<|le 16 15<|mc 17 0<|.nil)<|
(.block 0 (.loop (sr [2,3,4,15,16,17,18] [] (bt 18 .lss 17 16<|.nil)<|
(.seq (cd 18 .skip (.exit 0))<|
(.seq (.block 1 (sr [2,3,4,5,6,15,16,17] [6] (mv 19 17<|ia 20 3 15 17<|ld 21 3 true 20<|al 6 [(.p (.int .i64 0)),.nils,.nils]<|mv 5 19<|st 3 6 21<|.nil)<|
(sr [2,3,4,5,6,7,15,16,17] [6] (qq 7 (.mov (.c (.one .nils)))<|.nil)<|
(.seq (sr [2,3,4,5,6,7,15,16,17,23,24,25] [6] (fa 22 1 6<|ld 23 1 false 22<|le 24 23<|mc 25 0<|.nil)<|
(.block 2 (.loop (sr [2,3,4,5,6,7,15,16,17,23,24,25,26] [6] (bt 26 .lss 25 24<|.nil)<|
(.seq (cd 26 .skip (.exit 2))<|
(.seq (.block 3 (sr [2,3,4,5,6,7,9,15,16,17,23,24,25] [6] (ia 27 1 23 25<|ld 28 1 false 27<|mv 9 28<|.nil)<|
(rg [2,3,4,5,6,7,15,16,17,23,24,25] [6,34,35]<|mv 29 7<|mv 30 2<|mv 31 9<|ia 32 1 30 31<|ld 33 1 false 32<|nn 34 (.lit 1 1 [(.sl [])] [(0, (.t 33))])<|sd 35 (.app 1 24 (.t 29) (.t 34))<|mv 7 35<|.nil)))<|
(rg [2,3,4,5,6,7,15,16,17,23,24,25] [6,34,35]<|bc 36 .add 25 1<|mv 25 36<|.nil)))))))<|
(sr [2,3,4,5,10,11,15,16,17] [6,34,35] (ld 38 3 true 6<|mv 39 7<|cl 40 41 [38,39]<|mv 37 40<|xt 41 37 0<|xt 42 37 1<|mv 10 41<|mv 11 42<|.nil)<|
(ib [2,3,4,5,10,11,15,16,17,44] [6,34,35] (mv 43 11<|bc 44 .neq 43 0<|.nil) 44 (sr [2,3,4] [6,34,35] (mv 45 5<|mv 46 11<|qq 2 (.mov (.c (.one .nils)))<|mv 3 45<|mv 4 46<|.nil)<|
.ret)<|
(rg [2,3,4,15,16,17] [6,34,35,49,50]<|mv 47 2<|mv 48 10<|nn 49 (.lit 1 1 [(.sl [])] [(0, (.t 48))])<|sd 50 (.app 1 24 (.t 47) (.t 49))<|mv 2 50<|.nil)))))))<|
(rg [2,3,4,15,16,17] [6,34,35,49,50]<|bc 51 .add 17 1<|mv 17 51<|.nil)))))))<|
.ret))))
theorem pure_infer_Shapes : PureT Tryz.prog fi_infer_Shapes 52 a_infer_Shapes [.tmp 2,.tmp 3,.tmp 4] := pureT_of Tryz.call19 Tryz.func19
def a_fullerref09_Same : ACode := (sr [0,1] [] (qq 4 (.mov (.c (.one (.p (.bool false)))))<|.nil)<|
(ib [0,1,11] [] (mv 7 0<|le 8 7<|mv 9 1<|le 10 9<|bt 11 .neq 8 10<|.nil) 11 (sr [4] [] (qq 4 (.mov (.c (.one (.p (.bool false)))))<|.nil)<|
.ret)<|
(.seq (sr [0,1,5] [] (mc 5 0<|.nil)<|
(.block 0 (.loop (.seq (sr [0,1,5,15] [] (mv 12 5<|mv 13 0<|le 14 13<|bt 15 .lss 12 14<|.nil)<|
(cd 15 .skip (.exit 0)))<|
(.seq (.block 1 (.seq (.region (some [[], [0], [], [], [0, 1, 2, 3], [0, 1, 2, 3, 4], [0, 1, 2, 3], [0, 1, 2, 3], [], []]) (mv 18 0<|mv 19 5<|ia 20 2 18 19<|ld 21 2 true 20<|mv 22 1<|mv 23 5<|ia 24 2 22 23<|ld 25 2 true 24<|cl 26 23 [21,25]<|mv 6 26<|.nil) [0,1,5,6] [])<|
(sr [0,1,5,28] [] (mv 27 6<|qq 28 (.un .not (.t 27))<|.nil)<|
(cd 28 (sr [4] [] (qq 4 (.mov (.c (.one (.p (.bool false)))))<|.nil)<|
.ret) .skip))))<|
(rg [0,1,5] []<|mv 16 5<|bc 17 .add 16 1<|mv 5 17<|.nil))))))<|
(sr [4] [] (qq 4 (.mov (.c (.one (.p (.bool true)))))<|.nil)<|
.ret))))
theorem pure_fullerref09_Same : PureT Tryz.prog fi_fullerref09_Same 29 a_fullerref09_Same [.tmp 4] := pureT_of Tryz.call20 Tryz.func20
def a_fullerref02_Same : ACode := (sr [0,1] [] (qq 4 (.mov (.c (.one (.p (.bool false)))))<|.nil)<|
(ib [0,1,10] [] (mv 6 0<|le 7 6<|mv 8 1<|le 9 8<|bt 10 .neq 7 9<|.nil) 10 (sr [4] [] (qq 4 (.mov (.c (.one (.p (.bool false)))))<|.nil)<|
.ret)<|
(.seq (sr [0,1,5] [] (mc 5 0<|.nil)<|
(.block 0 (.loop (.seq (sr [0,1,5,14] [] (mv 11 5<|mv 12 0<|le 13 12<|bt 14 .lss 11 13<|.nil)<|
(cd 14 .skip (.exit 0)))<|
(.seq (.block 1 (.seq (.region (some [[], [0], [], [], [0, 1, 2, 3], [0, 1, 2, 3, 4], [0, 1, 2, 3], [0, 1, 2, 3], []]) (mv 17 0<|mv 18 5<|ia 19 1 17 18<|ld 20 1 false 19<|mv 21 1<|mv 22 5<|ia 23 1 21 22<|ld 24 1 false 23<|bt 25 .neq 20 24<|.nil) [0,1,5,25] [])<|
(cd 25 (sr [4] [] (qq 4 (.mov (.c (.one (.p (.bool false)))))<|.nil)<|
.ret) .skip)))<|
(rg [0,1,5] []<|mv 15 5<|bc 16 .add 15 1<|mv 5 16<|.nil))))))<|
(sr [4] [] (qq 4 (.mov (.c (.one (.p (.bool true)))))<|.nil)<|
.ret))))
theorem pure_fullerref02_Same : PureT Tryz.prog fi_fullerref02_Same 26 a_fullerref02_Same [.tmp 4] := pureT_of Tryz.call21 Tryz.func21
def a_eval_Node : ACode := (sr [1,3,4,6,8] [4,6,8] (nn 4 (.box 3 (.t 0))<|nn 6 (.box 2 (.t 2))<|al 8 [.nils,.nils]<|mc 9 0<|.nil)<|
(sr [1,3,4,6,8,10] [4,6,8] (qq 10 (.mov (.c (.one .nils)))<|.nil)<|
(.seq (sr [1,3,4,6,8,10,17,18,19] [4,6,8] (mv 17 1<|le 18 17<|mc 19 0<|.nil)<|
(.block 0 (.loop (sr [1,3,4,6,8,10,17,18,19,20] [4,6,8] (bt 20 .lss 19 18<|.nil)<|
(.seq (cd 20 .skip (.exit 0))<|
(.seq (.block 1 (sr [1,3,4,6,8,10,12,17,18,19] [4,6,8,12] (ia 21 2 17 19<|ld 22 2 true 21<|al 12 [.nils,.nils]<|st 2 12 22<|.nil)<|
(ib [1,3,4,6,8,10,12,17,18,19,25] [4,6,8,12] (ld 23 2 true 12<|cl 24 31 [23]<|qq 25 (.un .not (.t 24))<|.nil) 25 (sr [8,9] [4,6,8,12] (qq 26 (.build [.nils,.nils] [])<|st 2 8 26<|mc 9 30<|.nil)<|
.ret)<|
(rg [1,3,4,6,8,10,17,18,19] [4,6,8,12,30,31]<|mv 27 10<|fa 28 0 12<|ld 29 1 false 28<|nn 30 (.lit 1 1 [(.sl [])] [(0, (.t 29))])<|sd 31 (.app 1 24 (.t 27) (.t 30))<|mv 10 31<|.nil))))<|
(rg [1,3,4,6,8,10,17,18,19] [4,6,8,12,30,31]<|bc 32 .add 19 1<|mv 19 32<|.nil)))))))<|
(sr [1,3,4,6,8,13,14] [4,6,8,12,30,31] (ld 34 3 true 4<|mv 35 10<|cl 36 41 [34,35]<|mv 33 36<|xt 37 33 0<|xt 38 33 1<|mv 13 37<|mv 14 38<|.nil)<|
(ib [1,3,4,6,8,13,14,40] [4,6,8,12,30,31] (mv 39 14<|bc 40 .neq 39 0<|.nil) 40 (sr [8,9] [4,6,8,12,30,31] (qq 41 (.build [.nils,.nils] [])<|mv 42 14<|st 2 8 41<|mv 9 42<|.nil)<|
.ret)<|
(.seq (sr [1,3,4,6,8,13,44] [4,6,8,12,30,31] (fa 43 0 4<|ld 44 1 false 43<|.nil)<|
(.block 2 (sr [1,3,4,6,8,13,44,45] [4,6,8,12,30,31] (bc 46 .eql 44 1<|mv 45 46<|.nil)<|
(cd 45 (sr [8,9] [4,6,8,12,30,31] (ld 47 2 true 6<|mv 48 13<|cl 49 42 [47,48]<|xt 50 49 0<|xt 51 49 1<|st 2 8 50<|mv 9 51<|.nil)<|
.ret) (sr [1,3,4,8,13,44,52] [4,6,8,12,30,31] (bc 53 .eql 44 2<|mv 52 53<|.nil)<|
(cd 52 (sr [3,4,8,13,15] [4,6,8,12,15,30,31] (al 15 [.nils,.nils]<|.nil)<|
(ib [3,4,8,13,15,60] [4,6,8,12,15,30,31] (fa 54 2 4<|ld 55 1 false 54<|qq 56 (.iaddr 1 (.t 55) (ic 0))<|ld 57 1 false 56<|mv 58 3<|le 59 58<|bt 60 .lss 57 59<|.nil) 60 (rg [8,13,15] [4,6,8,12,15,30,31]<|mv 61 3<|fa 62 2 4<|ld 63 1 false 62<|qq 64 (.iaddr 1 (.t 63) (ic 0))<|ld 65 1 false 64<|ia 66 2 61 65<|ld 67 2 true 66<|st 2 15 67<|.nil)<|
(sr [8,9] [4,6,8,12,15,30,31] (ld 68 2 true 15<|mv 69 13<|cl 70 42 [68,69]<|xt 71 70 0<|xt 72 70 1<|st 2 8 71<|mv 9 72<|.nil)<|
.ret))) (sr [1,4,8,73] [4,6,8,12,30,31] (bc 74 .eql 44 3<|mv 73 74<|.nil)<|
(cd 73 (sr [8,9] [4,6,8,12,30,31] (fa 75 2 4<|ld 76 1 false 75<|qq 77 (.iaddr 1 (.t 76) (ic 0))<|ld 78 1 false 77<|.op (some 79) none (.call (.c (.one (.p (.fn fi_tensor_Full [] [])))) [(.c (.one .nils)),(.t 78)])<|xt 80 79 0<|xt 81 79 1<|st 2 8 80<|mv 9 81<|.nil)<|
.ret) .skip))))))))<|
(.seq (.region (some [[], [0], [0], [], [0, 1, 2, 3], [0, 1, 2, 3, 4], [0, 1, 2, 3, 4], [], [0, 1, 2, 3, 4, 5, 6, 7], []]) (cl 82 43 []<|fa 83 0 4<|ld 84 1 false 83<|qq 85 (.mget (.one (.p .nilF)) false (.t 82) (.t 84))<|mv 86 1<|fa 87 2 4<|ld 88 1 false 87<|.op (some 89) none (.call (.t 85) [(.t 86),(.t 88)])<|al 16 [.nils,.nils,(.p (.int .i64 0))]<|st 3 16 89<|.nil) [8,16] [4,6,8,12,15,16,30,31])<|
(.seq (.region (some [[], [], [0, 1], [0, 1], [2, 3], []]) (fa 90 0 16<|ld 91 2 true 90<|fa 92 2 16<|ld 93 1 false 92<|st 2 8 91<|mv 9 93<|.nil) [8,9] [4,6,8,12,15,16,30,31])<|
.ret))))))))
theorem pure_eval_Node : PureT Tryz.prog fi_eval_Node 94 a_eval_Node [.cell 2 true 8,.tmp 9] := pureT_of Tryz.call22 Tryz.func22
def a_fullerref03_Same : ACode := (sr [2,3] [2,3] (nn 2 (.box 2 (.t 0))<|nn 3 (.box 2 (.t 1))<|qq 4 (.mov (.c (.one (.p (.bool false)))))<|.nil)<|
(sr [2,3,5] [2,3] (fa 6 0 2<|ld 7 1 false 6<|fa 8 0 3<|ld 9 1 false 8<|cl 10 21 [7,9]<|mv 5 10<|.nil)<|
(sr [4] [2,3] (mv 11 5<|mv 12 11<|.sc 18 12 true 17 none (.op (some 13) (some (12, true)) (.q (.faddr 1 (.t 2)))<|.op (some 14) (some (12, true)) (.q (.load 1 false (.t 13)))<|.op (some 15) (some (12, true)) (.q (.faddr 1 (.t 3)))<|.op (some 16) (some (12, true)) (.q (.load 1 false (.t 15)))<|.op (some 17) (some (12, true)) (.call (.c (.one (.p (.fn fi_fullerref02_Same [] [])))) [(.t 14),(.t 16)])<|.nil)<|mv 4 18<|.nil)<|
.ret)))
theorem pure_fullerref03_Same : PureT Tryz.prog fi_fullerref03_Same 19 a_fullerref03_Same [.tmp 4] := pureT_of Tryz.call23 Tryz.func23
def a_graph_Check : ACode := (sr [0] [] (qq 2 (.mov (.c (.one (.p (.bool false)))))<|.nil)<|
(sr [0,3] [] (cl 14 44 []<|mv 3 14<|.nil)<|
(sr [0,3,4] [15] (nn 15 .mkM<|mv 4 15<|.nil)<|
(.seq (sr [0,3,4,16,17,18] [15] (mv 16 0<|le 17 16<|mc 18 0<|.nil)<|
(.block 0 (.loop (sr [0,3,4,16,17,18,19] [15] (bt 19 .lss 18 17<|.nil)<|
(.seq (cd 19 .skip (.exit 0))<|
(.seq (.block 1 (sr [0,3,4,5,6,16,17,18] [5,6,15] (mv 20 18<|ia 21 3 16 18<|ld 22 3 true 21<|al 5 [(.p (.int .i64 0))]<|al 6 [(.p (.int .i64 0)),.nils,.nils]<|st 1 5 20<|st 3 6 22<|.nil)<|
(sr [0,3,4,5,6,7,8,16,17,18] [5,6,7,15] (mv 24 3<|fa 25 0 6<|ld 26 1 false 25<|qq 27 (.mget (.agg [(.p (.int .i64 0)),(.p (.int .i64 0))]) true (.t 24) (.t 26))<|mv 23 27<|xt 28 23 0<|xt 29 23 1<|al 7 [(.p (.int .i64 0)),(.p (.int .i64 0))]<|st 2 7 28<|mv 8 29<|.nil)<|
(sr [0,3,4,6,7,8,9,16,17,18] [5,6,7,15] (qq 30 (.mkF fi_graph_Check_1 [] [(.t 5)])<|mv 9 30<|.nil)<|
(ib [0,3,4,6,16,17,18,52] [5,6,7,15] (mv 31 8<|qq 32 (.un .not (.t 31))<|mv 33 32<|.sc 40 33 false 39 none (.op (some 34) (some (33, false)) (.q (.faddr 1 (.t 6)))<|.op (some 35) (some (33, false)) (.q (.load 1 false (.t 34)))<|.op (some 36) (some (33, false)) (.q (.len (.t 35)))<|.op (some 37) (some (33, false)) (.q (.faddr 0 (.t 7)))<|.op (some 38) (some (33, false)) (.q (.load 1 false (.t 37)))<|.op (some 39) (some (33, false)) (.q (.bin .neq (.t 36) (.t 38)))<|.nil)<|mv 41 40<|.sc 46 41 false 45 none (.op (some 42) (some (41, false)) (.q (.load 3 true (.t 6)))<|.op (some 43) (some (41, false)) (.q (.load 2 true (.t 7)))<|.op (some 44) (some (41, false)) (.call (.c (.one (.p (.fn fi_graph_well [] [])))) [(.t 42),(.t 43)])<|.op (some 45) (some (41, false)) (.q (.un .not (.t 44)))<|.nil)<|mv 47 46<|.sc 52 47 false 51 none (.op (some 48) (some (47, false)) (.q (.faddr 1 (.t 6)))<|.op (some 49) (some (47, false)) (.q (.load 1 false (.t 48)))<|.op (some 50) (some (47, false)) (.q (.mov (.t 9)))<|.op (some 51) (some (47, false)) (.call (.c (.one (.p (.fn fi_slices_ContainsFunc_int_int [] [])))) [(.t 49),(.t 50)])<|.nil)<|.nil) 52 (sr [2] [5,6,7,15] (qq 2 (.mov (.c (.one (.p (.bool false)))))<|.nil)<|
.ret)<|
(sr [0,3,4,6,10,11,16,17,18] [5,6,7,15] (ld 54 3 true 6<|cl 55 48 [54]<|mv 53 55<|xt 56 53 0<|xt 57 53 1<|mv 10 56<|mv 11 57<|.nil)<|
(sr [0,3,4,6,10,16,17,18,58] [5,6,7,15] (mv 58 11<|.nil)<|
(cd 58 (.seq (sr [0,3,4,6,10,12,13,16,17,18] [5,6,7,15] (mv 60 4<|mv 61 10<|qq 62 (.mget (.one .nils) true (.t 60) (.t 61))<|mv 59 62<|xt 63 59 0<|xt 64 59 1<|mv 12 63<|mv 13 64<|.nil)<|
(sr [0,3,4,6,10,16,17,18,72] [5,6,7,15] (mv 65 13<|mv 66 65<|.sc 72 66 true 71 none (.op (some 67) (some (66, true)) (.q (.mov (.t 12)))<|.op (some 68) (some (66, true)) (.q (.faddr 2 (.t 6)))<|.op (some 69) (some (66, true)) (.q (.load 1 false (.t 68)))<|.op (some 70) (some (66, true)) (.call (.c (.one (.p (.fn fi_slices_Equal_int_int [] [])))) [(.t 67),(.t 69)])<|.op (some 71) (some (66, true)) (.q (.un .not (.t 70)))<|.nil)<|.nil)<|
(cd 72 (sr [2] [5,6,7,15] (qq 2 (.mov (.c (.one (.p (.bool false)))))<|.nil)<|
.ret) .skip)))<|
(rg [0,3,4,16,17,18] [5,6,7,15]<|mv 73 4<|mv 74 10<|fa 75 2 6<|ld 76 1 false 75<|ss (.mput (.t 73) (.t 74) (.t 76))<|.nil)) .skip))))))))<|
(rg [0,3,4,16,17,18] [5,6,7,15]<|bc 77 .add 18 1<|mv 18 77<|.nil)))))))<|
(sr [2] [5,6,7,15] (mv 78 0<|le 79 78<|bc 80 .gtr 79 0<|mv 81 80<|.sc 85 81 true 84 none (.op (some 82) (some (81, true)) (.q (.mov (.t 0)))<|.op (some 83) (some (81, true)) (.q (.len (.t 82)))<|.op (some 84) (some (81, true)) (.q (.bin .leq (.t 83) (ic 24)))<|.nil)<|mv 2 85<|.nil)<|
.ret)))))
theorem pure_graph_Check : PureT Tryz.prog fi_graph_Check 86 a_graph_Check [.tmp 2] := pureT_of Tryz.call24 Tryz.func24
def a_fullerref09_Few : ACode := (sr [0,1] [] (qq 4 (.mov (.c (.one (.p (.bool false)))))<|.nil)<|
(.seq (sr [0,1,5] [] (mc 5 0<|.nil)<|
(.block 0 (.loop (.seq (sr [0,1,5,10] [] (mv 7 5<|mv 8 0<|le 9 8<|bt 10 .lss 7 9<|.nil)<|
(cd 10 .skip (.exit 0)))<|
(.seq (.block 1 (sr [0,1,5,6] [] (mv 13 0<|mv 14 5<|ia 15 2 13 14<|ld 16 2 true 15<|cl 17 27 [16]<|mv 6 17<|.nil)<|
(sr [0,1,5,19] [] (mv 18 6<|qq 19 (.un .not (.t 18))<|.nil)<|
(cd 19 (sr [4] [] (qq 4 (.mov (.c (.one (.p (.bool false)))))<|.nil)<|
.ret) .skip))))<|
(rg [0,1,5] []<|mv 11 5<|bc 12 .add 11 1<|mv 5 12<|.nil))))))<|
(sr [4] [] (mv 20 0<|le 21 20<|mv 22 1<|bt 23 .leq 21 22<|mv 4 23<|.nil)<|
.ret)))
theorem pure_fullerref09_Few : PureT Tryz.prog fi_fullerref09_Few 24 a_fullerref09_Few [.tmp 4] := pureT_of Tryz.call26 Tryz.func26
def a_fullerref03_Few : ACode := (sr [1] [1] (nn 1 (.box 2 (.t 0))<|qq 2 (.mov (.c (.one (.p (.bool false)))))<|.nil)<|
(sr [2] [1] (fa 3 0 1<|ld 4 1 false 3<|le 5 4<|bc 6 .leq 5 100<|mv 7 6<|.sc 12 7 true 11 none (.op (some 8) (some (7, true)) (.q (.faddr 1 (.t 1)))<|.op (some 9) (some (7, true)) (.q (.load 1 false (.t 8)))<|.op (some 10) (some (7, true)) (.q (.len (.t 9)))<|.op (some 11) (some (7, true)) (.q (.bin .leq (.t 10) (ic 100)))<|.nil)<|mv 2 12<|.nil)<|
.ret))
theorem pure_fullerref03_Few : PureT Tryz.prog fi_fullerref03_Few 13 a_fullerref03_Few [.tmp 2] := pureT_of Tryz.call27 Tryz.func27
def a_tensor_Full : ACode := (sr [0,1,4] [4] (al 4 [.nils,.nils]<|mc 5 0<|.nil)<|
(ib [0,1,4,8] [4] (mv 6 0<|cl 7 55 [6]<|qq 8 (.un .not (.t 7))<|.nil) 8 (sr [4,5] [4] (qq 9 (.build [.nils,.nils] [])<|st 2 4 9<|mc 5 20<|.nil)<|
.ret)<|
(sr [4,5] [4,13] (mv 10 0<|cl 11 56 [10]<|mv 12 1<|nn 13 (.lit 1 1 [(.int .i64 0)] [(0, (.t 12))])<|mv 14 0<|cl 15 58 [14]<|cl 16 57 [13,15]<|qq 17 (.build [.nils,.nils] [(0, 1, (.t 11)),(1, 1, (.t 16))])<|st 2 4 17<|mc 5 0<|.nil)<|
.ret)))
theorem pure_tensor_Full : PureT Tryz.prog fi_tensor_Full 18 a_tensor_Full [.cell 2 true 4,.tmp 5] := pureT_of Tryz.call30 Tryz.func30
theorem mut_tensor_Full : MutT Tryz.prog fi_tensor_Full 18 a_tensor_Full [.cell 2 true 4,.tmp 5] := mutT_of Tryz.call30 Tryz.func30
def a_tensor_Check : ACode := (sr [1] [1] (nn 1 (.box 2 (.t 0))<|qq 2 (.mov (.c (.one (.p (.bool false)))))<|.nil)<|
(.seq (.region (some [[], [], [], [], [], [], [], [4, 5, 6], [4, 5, 6], [4, 5, 6], [], [], []]) (fa 3 0 1<|ld 4 1 false 3<|cl 5 55 [4]<|mv 6 5<|.sc 14 6 true 13 none (.op (some 7) (some (6, true)) (.q (.faddr 1 (.t 1)))<|.op (some 8) (some (6, true)) (.q (.load 1 false (.t 7)))<|.op (some 9) (some (6, true)) (.q (.len (.t 8)))<|.op (some 10) (some (6, true)) (.q (.faddr 0 (.t 1)))<|.op (some 11) (some (6, true)) (.q (.load 1 false (.t 10)))<|.op (some 12) (some (6, true)) (.call (.c (.one (.p (.fn fi_shape_Size [] [])))) [(.t 11)])<|.op (some 13) (some (6, true)) (.q (.bin .eql (.t 9) (.t 12)))<|.nil)<|mv 2 14<|.nil) [2] [1])<|
.ret))
theorem pure_tensor_Check : PureT Tryz.prog fi_tensor_Check 15 a_tensor_Check [.tmp 2] := pureT_of Tryz.call31 Tryz.func31
def a_fix_Mul : ACode := (sr [0,1] [] (mc 4 0<|mc 5 0<|.nil)<|
(sr [0,1,6,7] [] (mv 9 0<|cl 10 67 [9]<|mv 11 1<|cl 12 67 [11]<|cl 13 66 [10,12]<|mv 8 13<|xt 14 8 0<|xt 15 8 1<|mv 6 14<|mv 7 15<|.nil)<|
(sr [4,5] [] (mv 16 6<|qq 17 (.bin .shr (.t 16) (.c (.one (.p (.int .u64 32)))))<|mv 18 6<|qq 19 (.bin .shl (.t 18) (.c (.one (.p (.int .u64 32)))))<|mv 20 7<|qq 21 (.bin .shr (.t 20) (.c (.one (.p (.int .u64 32)))))<|bt 22 .or 19 21<|qq 23 (.build [(.p (.int .u64 0)),(.p (.int .u64 0))] [(0, 1, (.t 17)),(1, 1, (.t 22))])<|mv 24 7<|qq 25 (.bin .and (.t 24) (.c (.one (.p (.int .u64 4294967295)))))<|qq 26 (.bin .neq (.t 25) (.c (.one (.p (.int .u64 0)))))<|mv 27 0<|mv 28 1<|cl 29 69 [27,28]<|cl 30 68 [23,26,29]<|xt 31 30 0<|xt 32 30 1<|mv 4 31<|mv 5 32<|.nil)<|
.ret)))
theorem pure_fix_Mul : PureT Tryz.prog fi_fix_Mul 33 a_fix_Mul [.tmp 4,.tmp 5] := pureT_of Tryz.call39 Tryz.func39
def a_infer_Node : ACode := (sr [1,2,4] [2] (nn 2 (.box 3 (.t 0))<|qq 4 (.mov (.c (.one .nils)))<|mc 5 0<|.nil)<|
(sr [1,2,4,5] [2] (mc 5 20<|.nil)<|
(.seq (.region (some [[], [], [0, 1], [0, 1], [0, 1, 2, 3], [0, 1, 2, 3], [0, 1, 2, 3], [0, 1, 2, 3], [0, 1, 2, 3], [0, 1, 2, 3, 4, 5, 6, 7, 8], [0, 1, 2, 3, 4, 5, 6, 7, 8], [0, 1], [], []]) (nn 10 (.lit 1 1 [(.int .i64 0)] [(0, (ic 0))])<|qq 11 (.build [(.p (.int .i64 0)),.nils,.nils] [(0, 1, (ic 3)),(2, 1, (.t 10))])<|fa 12 0 2<|ld 13 1 false 12<|fa 14 0 2<|ld 15 1 false 14<|cl 16 70 [15]<|qq 17 (.mm true (ic 0) (.t 16))<|nn 18 (.mkS 1 8 [(.int .i64 0)] (.t 17) (.t 17))<|fa 19 2 2<|ld 20 1 false 19<|qq 21 (.build [(.p (.int .i64 0)),.nils,.nils] [(0, 1, (.t 13)),(1, 1, (.t 18)),(2, 1, (.t 20))])<|nn 22 (.lit 3 2 [(.int .i64 0),(.sl []),(.sl [])] [(0, (.t 11)),(1, (.t 21))])<|mv 6 22<|.nil) [1,2,4,5,6] [2,10,18,22])<|
(sr [1,2,4,5,6,7] [2,10,18,22] (qq 7 (.mov (.c (.one (.p (.fn fi_infer_Node_1 [] [])))))<|.nil)<|
(ib [1,2,4,5,38] [2,10,18,22] (mv 23 1<|le 24 23<|fa 25 0 2<|ld 26 1 false 25<|cl 27 70 [26]<|bt 28 .neq 24 27<|mv 29 28<|.sc 33 29 false 32 none (.op (some 30) (some (29, false)) (.q (.mov (.t 6)))<|.op (some 31) (some (29, false)) (.call (.c (.one (.p (.fn fi_graph_Check [] [])))) [(.t 30)])<|.op (some 32) (some (29, false)) (.q (.un .not (.t 31)))<|.nil)<|mv 34 33<|.sc 38 34 false 37 none (.op (some 35) (some (34, false)) (.q (.mov (.t 1)))<|.op (some 36) (some (34, false)) (.q (.mov (.t 7)))<|.op (some 37) (some (34, false)) (.call (.c (.one (.p (.fn fi_slices_ContainsFunc_LL_int_int [] [])))) [(.t 35),(.t 36)])<|.nil)<|.nil) 38 .ret<|
(.seq (.seq (.region (some [[], [0], [0], [], [0, 1, 2, 3], [0, 1, 2, 3, 4], [0, 1, 2, 3, 4], [], [], [], [9], [10], []]) (cl 40 73 []<|fa 41 0 2<|ld 42 1 false 41<|qq 43 (.mget (.one (.p .nilF)) false (.t 40) (.t 42))<|mv 44 1<|fa 45 2 2<|ld 46 1 false 45<|.op (some 47) none (.call (.t 43) [(.t 44),(.t 46)])<|mv 39 47<|xt 48 39 0<|xt 49 39 1<|mv 8 48<|mv 9 49<|.nil) [4,5,8,9] [2,10,18,22])<|
(sr [4,5,8,50] [2,10,18,22] (mv 50 9<|.nil)<|
(cd 50 (rg [4,5] [2,10,18,22]<|mv 51 8<|mv 4 51<|mc 5 0<|.nil) .skip)))<|
.ret))))))
theorem pure_infer_Node : PureT Tryz.prog fi_infer_Node 52 a_infer_Node [.tmp 4,.tmp 5] := pureT_of Tryz.call41 Tryz.func41
end Go.AM

