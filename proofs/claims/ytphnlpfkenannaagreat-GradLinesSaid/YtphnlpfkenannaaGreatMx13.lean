import Derived.Test.YtphnlpfkenannaaGreatMx12
set_option linter.unusedVariables false
set_option linter.unusedSimpArgs false
namespace Go.AM
open Go Go.Proofs
set_option maxRecDepth 100000
def a_fullerlaw15_GradNone : ACode := (sr [0,2,3,5] [5] (nn 5 (.box 2 (.t 1))<|qq 8 (.mov (.c (.one (.p (.bool false)))))<|.nil)<|
(sr [0,2,3,5,9] [5] (cl 19 36 []<|mv 9 19<|.nil)<|
(ib [0,2,3,5,9,29] [5] (mv 20 0<|ld 21 2 true 5<|mv 22 2<|cl 23 40 [20,21,22]<|qq 24 (.un .not (.t 23))<|mv 25 24<|.sc 29 25 false 28 none (.op (some 26) (some (25, false)) (.q (.mov (.t 0)))<|.op (some 27) (some (25, false)) (.q (.len (.t 26)))<|.op (some 28) (some (25, false)) (.q (.bin .gtr (.t 27) (ic 23)))<|.nil)<|.nil) 29 (sr [8] [5] (mv 30 9<|mv 8 30<|.nil)<|
.ret)<|
(sr [0,2,3,5,9,12] [5] (mv 32 0<|ld 33 2 true 5<|mv 34 2<|cl 35 18 [32,33,34]<|mv 31 35<|xt 36 31 0<|xt 37 31 1<|xt 38 31 2<|mv 10 36<|mv 11 37<|mv 12 38<|.nil)<|
(.seq (.region (some [[], [0], [], [0, 1, 2], [0, 1, 2], [0, 1, 2], [0, 1, 2], [], [0, 1, 2, 3, 4, 5, 6, 7], [0, 1, 2, 3, 4, 5, 6, 7, 8], [], [], [], [12], [12, 13], [12, 13, 14], [13, 14, 15], [14, 15], [15], []]) (nn 40 (.lit 3 0 [(.int .i64 0),(.sl []),(.sl [])] [])<|mv 41 0<|sd 42 (.app 3 56 (.t 40) (.t 41))<|mv 43 3<|nn 44 (.lit 1 1 [(.int .i64 0)] [(0, (.t 43))])<|qq 45 (.build [(.p (.int .i64 0)),.nils,.nils] [(0, 1, (ic 3)),(2, 1, (.t 44))])<|nn 46 (.lit 3 1 [(.int .i64 0),(.sl []),(.sl [])] [(0, (.t 45))])<|sd 47 (.app 3 56 (.t 42) (.t 46))<|ld 48 2 true 5<|mv 49 2<|cl 50 37 [47,48,49]<|mv 39 50<|xt 51 39 0<|xt 52 39 1<|xt 53 39 2<|xt 54 39 3<|mv 13 51<|mv 14 52<|mv 15 53<|mv 16 54<|.nil) [0,3,9,12,13,14,16] [5,40,42,44,46,47])<|
(ib [3,9,12,13,14,16,61] [5,40,42,44,46,47] (mv 55 12<|bc 56 .neq 55 0<|mv 57 56<|.sc 61 57 true 60 none (.op (some 58) (some (57, true)) (.q (.mov (.t 0)))<|.op (some 59) (some (57, true)) (.q (.len (.t 58)))<|.op (some 60) (some (57, true)) (.q (.bin .gtr (.t 59) (ic 0)))<|.nil)<|.nil) 61 (sr [8] [5,40,42,44,46,47] (mv 62 9<|mv 63 62<|.sc 67 63 true 66 none (.op (some 64) (some (63, true)) (.q (.mov (.t 16)))<|.op (some 65) (some (63, true)) (.q (.mov (.t 12)))<|.op (some 66) (some (63, true)) (.q (.bin .eql (.t 64) (.t 65)))<|.nil)<|mv 8 67<|.nil)<|
.ret)<|
(.seq (sr [3,9,13,14,16,17] [5,40,42,44,46,47] (mc 17 0<|.nil)<|
(.block 0 (.loop (.seq (sr [3,9,13,14,16,17,71] [5,40,42,44,46,47] (mv 68 17<|mv 69 13<|le 70 69<|bt 71 .lss 68 70<|.nil)<|
(cd 71 .skip (.exit 0)))<|
(.seq (.block 1 (sr [3,9,13,14,16,17,18] [5,40,42,44,46,47] (mc 18 0<|.nil)<|
(.block 2 (.loop (.seq (sr [3,9,13,14,16,17,18,81] [5,40,42,44,46,47] (mv 74 18<|mv 75 13<|mv 76 17<|ia 77 2 75 76<|fa 78 1 77<|ld 79 1 false 78<|le 80 79<|bt 81 .lss 74 80<|.nil)<|
(cd 81 .skip (.exit 2)))<|
(.seq (.block 3 (sr [3,9,13,14,16,17,18,92] [5,40,42,44,46,47] (mv 84 13<|mv 85 17<|ia 86 2 84 85<|fa 87 1 86<|ld 88 1 false 87<|mv 89 18<|ia 90 1 88 89<|ld 91 1 false 90<|bc 92 .neq 91 0<|.nil)<|
(cd 92 (sr [8] [5,40,42,44,46,47] (qq 8 (.mov (.c (.one (.p (.bool false)))))<|.nil)<|
.ret) .skip)))<|
(rg [3,9,13,14,16,17,18] [5,40,42,44,46,47]<|mv 82 18<|bc 83 .add 82 1<|mv 18 83<|.nil)))))))<|
(rg [3,9,13,14,16,17] [5,40,42,44,46,47]<|mv 72 17<|bc 73 .add 72 1<|mv 17 73<|.nil))))))<|
(sr [8] [5,40,42,44,46,47] (mv 93 9<|mv 94 93<|.sc 97 94 true 96 none (.op (some 95) (some (94, true)) (.q (.mov (.t 16)))<|.op (some 96) (some (94, true)) (.q (.bin .eql (.t 95) (ic 0)))<|.nil)<|mv 98 97<|.sc 102 98 true 101 none (.op (some 99) (some (98, true)) (.q (.mov (.t 14)))<|.op (some 100) (some (98, true)) (.q (.mov (.t 3)))<|.op (some 101) (some (98, true)) (.q (.bin .eql (.t 99) (.t 100)))<|.nil)<|mv 103 102<|.sc 107 103 true 106 none (.op (some 104) (some (103, true)) (.q (.mov (.t 13)))<|.op (some 105) (some (103, true)) (.q (.len (.t 104)))<|.op (some 106) (some (103, true)) (.q (.bin .eql (.t 105) (ic 8)))<|.nil)<|mv 8 107<|.nil)<|
.ret))))))))
theorem pure_fullerlaw15_GradNone : PureT Tryz.prog fi_fullerlaw15_GradNone 108 a_fullerlaw15_GradNone [.tmp 8] := pureT_of Tryz.call14 Tryz.func14
def a_fullerref10_Few : ACode := (sr [0] [] (qq 2 (.mov (.c (.one (.p (.bool false)))))<|.nil)<|
(.seq (sr [0,3] [] (mc 3 0<|.nil)<|
(.block 0 (.loop (.seq (sr [0,3,7] [] (mv 4 3<|mv 5 0<|le 6 5<|bt 7 .lss 4 6<|.nil)<|
(cd 7 .skip (.exit 0)))<|
(.seq (.block 1 (sr [0,3,25] [] (mv 10 0<|mv 11 3<|ia 12 3 10 11<|fa 13 1 12<|ld 14 1 false 13<|le 15 14<|bc 16 .gtr 15 30<|mv 17 16<|.sc 25 17 false 24 none (.op (some 18) (some (17, false)) (.q (.mov (.t 0)))<|.op (some 19) (some (17, false)) (.q (.mov (.t 3)))<|.op (some 20) (some (17, false)) (.q (.iaddr 3 (.t 18) (.t 19)))<|.op (some 21) (some (17, false)) (.q (.faddr 2 (.t 20)))<|.op (some 22) (some (17, false)) (.q (.load 1 false (.t 21)))<|.op (some 23) (some (17, false)) (.q (.len (.t 22)))<|.op (some 24) (some (17, false)) (.q (.bin .gtr (.t 23) (ic 30)))<|.nil)<|.nil)<|
(cd 25 (sr [2] [] (qq 2 (.mov (.c (.one (.p (.bool false)))))<|.nil)<|
.ret) .skip)))<|
(rg [0,3] []<|mv 8 3<|bc 9 .add 8 1<|mv 3 9<|.nil))))))<|
(sr [2] [] (mv 26 0<|le 27 26<|bc 28 .leq 27 30<|mv 2 28<|.nil)<|
.ret)))
theorem pure_fullerref10_Few : PureT Tryz.prog fi_fullerref10_Few 29 a_fullerref10_Few [.tmp 2] := pureT_of Tryz.call16 Tryz.func16
def a_eval_All : ACode := (sr [0,2,4] [4] (nn 4 (.box 2 (.t 1))<|qq 6 (.mov (.c (.one .nils)))<|mc 7 0<|mc 8 0<|.nil)<|
(.seq (sr [0,2,4,10,11] [4] (mv 21 0<|cl 22 19 [21]<|mv 20 22<|xt 23 20 0<|xt 24 20 1<|xt 25 20 2<|mv 9 23<|mv 10 24<|mv 11 25<|.nil)<|
(sr [0,2,4,10,11,27] [4] (mv 26 11<|bc 27 .neq 26 0<|.nil)<|
(cd 27 (sr [6,7,8] [4] (mv 28 10<|mv 29 11<|qq 6 (.mov (.c (.one .nils)))<|mv 7 28<|mv 8 29<|.nil)<|
.ret) .skip)))<|
(sr [0,2,4,12] [4] (qq 12 (.mov (.c (.one .nils)))<|.nil)<|
(.seq (sr [2,4,12,30,31,32] [4] (mv 30 0<|le 31 30<|mc 32 0<|.nil)<|
(.block 0 (.loop (sr [2,4,12,30,31,32,33] [4] (bt 33 .lss 32 31<|.nil)<|
(.seq (cd 33 .skip (.exit 0))<|
(.seq (.block 1 (sr [2,4,12,13,14,30,31,32] [4,14] (mv 34 32<|ia 35 3 30 32<|ld 36 3 true 35<|al 14 [(.p (.int .i64 0)),.nils,.nils]<|mv 13 34<|st 3 14 36<|.nil)<|
(sr [2,4,12,13,14,15,30,31,32] [4,14] (qq 15 (.mov (.c (.one .nils)))<|.nil)<|
(.seq (sr [2,4,12,13,14,15,30,31,32,38,39,40] [4,14] (fa 37 1 14<|ld 38 1 false 37<|le 39 38<|mc 40 0<|.nil)<|
(.block 2 (.loop (sr [2,4,12,13,14,15,30,31,32,38,39,40,41] [4,14] (bt 41 .lss 40 39<|.nil)<|
(.seq (cd 41 .skip (.exit 2))<|
(.seq (.block 3 (sr [2,4,12,13,14,15,17,30,31,32,38,39,40] [4,14] (ia 42 1 38 40<|ld 43 1 false 42<|mv 17 43<|.nil)<|
(rg [2,4,12,13,14,15,30,31,32,38,39,40] [4,14,49,50]<|mv 44 15<|mv 45 12<|mv 46 17<|ia 47 2 45 46<|ld 48 2 true 47<|nn 49 (.lit 2 1 [(.sl []),(.sl [])] [(0, (.t 48))])<|sd 50 (.app 2 48 (.t 44) (.t 49))<|mv 15 50<|.nil)))<|
(rg [2,4,12,13,14,15,30,31,32,38,39,40] [4,14,49,50]<|bc 51 .add 40 1<|mv 40 51<|.nil)))))))<|
(sr [2,4,12,13,18,19,30,31,32] [4,14,18,49,50] (ld 53 3 true 14<|mv 54 15<|ld 55 2 true 4<|mv 56 2<|cl 57 22 [53,54,55,56]<|mv 52 57<|xt 58 52 0<|xt 59 52 1<|al 18 [.nils,.nils]<|st 2 18 58<|mv 19 59<|.nil)<|
(ib [2,4,12,13,18,19,30,31,32,61] [4,14,18,49,50] (mv 60 19<|bc 61 .neq 60 0<|.nil) 61 (sr [6,7,8] [4,14,18,49,50] (mv 62 13<|mv 63 19<|qq 6 (.mov (.c (.one .nils)))<|mv 7 62<|mv 8 63<|.nil)<|
.ret)<|
(rg [2,4,12,30,31,32] [4,14,18,49,50,66,67]<|mv 64 12<|ld 65 2 true 18<|nn 66 (.lit 2 1 [(.sl []),(.sl [])] [(0, (.t 65))])<|sd 67 (.app 2 48 (.t 64) (.t 66))<|mv 12 67<|.nil)))))))<|
(rg [2,4,12,30,31,32] [4,14,18,49,50,66,67]<|bc 68 .add 32 1<|mv 32 68<|.nil)))))))<|
(sr [6,7,8] [4,14,18,49,50,66,67] (mv 69 12<|mv 6 69<|mc 7 (-1)<|mc 8 0<|.nil)<|
.ret)))))
theorem pure_eval_All : PureT Tryz.prog fi_eval_All 70 a_eval_All [.tmp 6,.tmp 7,.tmp 8] := pureT_of Tryz.call18 Tryz.func18
def a_infer_Shapes : ACode := (sr [0,2,4] [] (qq 2 (.mov (.c (.one .nils)))<|mc 3 0<|mc 4 0<|.nil)<|
(sr [0,2,3,4] [] (mc 3 (-1)<|.nil)<|
(ib [0,2,3,4,14] [] (mv 12 0<|cl 13 24 [12]<|qq 14 (.un .not (.t 13))<|.nil) 14 (sr [2,3,4] [] (mc 4 100<|.nil)<|
.ret)<|
(.seq (sr [2,3,4,15,16,17] [] (mv 15 0<|le 16 15<|mc 17 0<|.nil)<|
(.block 0 (.loop (sr [2,3,4,15,16,17,18] [] (bt 18 .lss 17 16<|.nil)<|
(.seq (cd 18 .skip (.exit 0))<|
(.seq (.block 1 (sr [2,3,4,5,6,15,16,17] [6] (mv 19 17<|ia 20 3 15 17<|ld 21 3 true 20<|al 6 [(.p (.int .i64 0)),.nils,.nils]<|mv 5 19<|st 3 6 21<|.nil)<|
(sr [2,3,4,5,6,7,15,16,17] [6] (qq 7 (.mov (.c (.one .nils)))<|.nil)<|
(.seq (sr [2,3,4,5,6,7,15,16,17,23,24,25] [6] (fa 22 1 6<|ld 23 1 false 22<|le 24 23<|mc 25 0<|.nil)<|
(.block 2 (.loop (sr [2,3,4,5,6,7,15,16,17,23,24,25,26] [6] (bt 26 .lss 25 24<|.nil)<|
(.seq (cd 26 .skip (.exit 2))<|
(.seq (.block 3 (sr [2,3,4,5,6,7,9,15,16,17,23,24,25] [6] (ia 27 1 23 25<|ld 28 1 false 27<|mv 9 28<|.nil)<|
(rg [2,3,4,5,6,7,15,16,17,23,24,25] [6,34,35]<|mv 29 7<|mv 30 2<|mv 31 9<|ia 32 1 30 31<|ld 33 1 false 32<|nn 34 (.lit 1 1 [(.sl [])] [(0, (.t 33))])<|sd 35 (.app 1 24 (.t 29) (.t 34))<|mv 7 35<|.nil)))<|
(rg [2,3,4,5,6,7,15,16,17,23,24,25] [6,34,35]<|bc 36 .add 25 1<|mv 25 36<|.nil)))))))<|
(sr [2,3,4,5,10,11,15,16,17] [6,34,35] (ld 38 3 true 6<|mv 39 7<|cl 40 41 [38,39]<|mv 37 40<|xt 41 37 0<|xt 42 37 1<|mv 10 41<|mv 11 42<|.nil)<|
(ib [2,3,4,5,10,11,15,16,17,44] [6,34,35] (mv 43 11<|bc 44 .neq 43 0<|.nil) 44 (sr [2,3,4] [6,34,35] (mv 45 5<|mv 46 11<|qq 2 (.mov (.c (.one .nils)))<|mv 3 45<|mv 4 46<|.nil)<|
.ret)<|
(rg [2,3,4,15,16,17] [6,34,35,49,50]<|mv 47 2<|mv 48 10<|nn 49 (.lit 1 1 [(.sl [])] [(0, (.t 48))])<|sd 50 (.app 1 24 (.t 47) (.t 49))<|mv 2 50<|.nil)))))))<|
(rg [2,3,4,15,16,17] [6,34,35,49,50]<|bc 51 .add 17 1<|mv 17 51<|.nil)))))))<|
.ret))))
theorem pure_infer_Shapes : PureT Tryz.prog fi_infer_Shapes 52 a_infer_Shapes [.tmp 2,.tmp 3,.tmp 4] := pureT_of Tryz.call19 Tryz.func19
def a_fullerref02_Same : ACode := (sr [0,1] [] (qq 4 (.mov (.c (.one (.p (.bool false)))))<|.nil)<|
(ib [0,1,10] [] (mv 6 0<|le 7 6<|mv 8 1<|le 9 8<|bt 10 .neq 7 9<|.nil) 10 (sr [4] [] (qq 4 (.mov (.c (.one (.p (.bool false)))))<|.nil)<|
.ret)<|
(.seq (sr [0,1,5] [] (mc 5 0<|.nil)<|
(.block 0 (.loop (.seq (sr [0,1,5,14] [] (mv 11 5<|mv 12 0<|le 13 12<|bt 14 .lss 11 13<|.nil)<|
(cd 14 .skip (.exit 0)))<|
(.seq (.block 1 (.seq (.region (some [[], [0], [], [], [0, 1, 2, 3], [0, 1, 2, 3, 4], [0, 1, 2, 3], [0, 1, 2, 3], []]) (mv 17 0<|mv 18 5<|ia 19 1 17 18<|ld 20 1 false 19<|mv 21 1<|mv 22 5<|ia 23 1 21 22<|ld 24 1 false 23<|bt 25 .neq 20 24<|.nil) [0,1,5,25] [])<|
(cd 25 (sr [4] [] (qq 4 (.mov (.c (.one (.p (.bool false)))))<|.nil)<|
.ret) .skip)))<|
(rg [0,1,5] []<|mv 15 5<|bc 16 .add 15 1<|mv 5 16<|.nil))))))<|
(sr [4] [] (qq 4 (.mov (.c (.one (.p (.bool true)))))<|.nil)<|
.ret))))
theorem pure_fullerref02_Same : PureT Tryz.prog fi_fullerref02_Same 26 a_fullerref02_Same [.tmp 4] := pureT_of Tryz.call21 Tryz.func21
def a_eval_Node : ACode := (sr [1,3,4,6,8] [4,6,8] (nn 4 (.box 3 (.t 0))<|nn 6 (.box 2 (.t 2))<|al 8 [.nils,.nils]<|mc 9 0<|.nil)<|
(sr [1,3,4,6,8,10] [4,6,8] (qq 10 (.mov (.c (.one .nils)))<|.nil)<|
(.seq (sr [1,3,4,6,8,10,17,18,19] [4,6,8] (mv 17 1<|le 18 17<|mc 19 0<|.nil)<|
(.block 0 (.loop (sr [1,3,4,6,8,10,17,18,19,20] [4,6,8] (bt 20 .lss 19 18<|.nil)<|
(.seq (cd 20 .skip (.exit 0))<|
(.seq (.block 1 (sr [1,3,4,6,8,10,12,17,18,19] [4,6,8,12] (ia 21 2 17 19<|ld 22 2 true 21<|al 12 [.nils,.nils]<|st 2 12 22<|.nil)<|
(ib [1,3,4,6,8,10,12,17,18,19,25] [4,6,8,12] (ld 23 2 true 12<|cl 24 31 [23]<|qq 25 (.un .not (.t 24))<|.nil) 25 (sr [8,9] [4,6,8,12] (qq 26 (.build [.nils,.nils] [])<|st 2 8 26<|mc 9 30<|.nil)<|
.ret)<|
(rg [1,3,4,6,8,10,17,18,19] [4,6,8,12,30,31]<|mv 27 10<|fa 28 0 12<|ld 29 1 false 28<|nn 30 (.lit 1 1 [(.sl [])] [(0, (.t 29))])<|sd 31 (.app 1 24 (.t 27) (.t 30))<|mv 10 31<|.nil))))<|
(rg [1,3,4,6,8,10,17,18,19] [4,6,8,12,30,31]<|bc 32 .add 19 1<|mv 19 32<|.nil)))))))<|
(sr [1,3,4,6,8,13,14] [4,6,8,12,30,31] (ld 34 3 true 4<|mv 35 10<|cl 36 41 [34,35]<|mv 33 36<|xt 37 33 0<|xt 38 33 1<|mv 13 37<|mv 14 38<|.nil)<|
(ib [1,3,4,6,8,13,14,40] [4,6,8,12,30,31] (mv 39 14<|bc 40 .neq 39 0<|.nil) 40 (sr [8,9] [4,6,8,12,30,31] (qq 41 (.build [.nils,.nils] [])<|mv 42 14<|st 2 8 41<|mv 9 42<|.nil)<|
.ret)<|
(.seq (sr [1,3,4,6,8,13,44] [4,6,8,12,30,31] (fa 43 0 4<|ld 44 1 false 43<|.nil)<|
(.block 2 (sr [1,3,4,6,8,13,44,45] [4,6,8,12,30,31] (bc 46 .eql 44 1<|mv 45 46<|.nil)<|
(cd 45 (sr [8,9] [4,6,8,12,30,31] (ld 47 2 true 6<|mv 48 13<|cl 49 42 [47,48]<|xt 50 49 0<|xt 51 49 1<|st 2 8 50<|mv 9 51<|.nil)<|
.ret) (sr [1,3,4,8,13,44,52] [4,6,8,12,30,31] (bc 53 .eql 44 2<|mv 52 53<|.nil)<|
(cd 52 (sr [3,4,8,13,15] [4,6,8,12,15,30,31] (al 15 [.nils,.nils]<|.nil)<|
(ib [3,4,8,13,15,60] [4,6,8,12,15,30,31] (fa 54 2 4<|ld 55 1 false 54<|qq 56 (.iaddr 1 (.t 55) (ic 0))<|ld 57 1 false 56<|mv 58 3<|le 59 58<|bt 60 .lss 57 59<|.nil) 60 (rg [8,13,15] [4,6,8,12,15,30,31]<|mv 61 3<|fa 62 2 4<|ld 63 1 false 62<|qq 64 (.iaddr 1 (.t 63) (ic 0))<|ld 65 1 false 64<|ia 66 2 61 65<|ld 67 2 true 66<|st 2 15 67<|.nil)<|
(sr [8,9] [4,6,8,12,15,30,31] (ld 68 2 true 15<|mv 69 13<|cl 70 42 [68,69]<|xt 71 70 0<|xt 72 70 1<|st 2 8 71<|mv 9 72<|.nil)<|
.ret))) (sr [1,4,8,73] [4,6,8,12,30,31] (bc 74 .eql 44 3<|mv 73 74<|.nil)<|
(cd 73 (sr [8,9] [4,6,8,12,30,31] (fa 75 2 4<|ld 76 1 false 75<|qq 77 (.iaddr 1 (.t 76) (ic 0))<|ld 78 1 false 77<|.op (some 79) none (.call (.c (.one (.p (.fn fi_tensor_Full [] [])))) [(.c (.one .nils)),(.t 78)])<|xt 80 79 0<|xt 81 79 1<|st 2 8 80<|mv 9 81<|.nil)<|
.ret) .skip))))))))<|
(.seq (.region (some [[], [0], [0], [], [0, 1, 2, 3], [0, 1, 2, 3, 4], [0, 1, 2, 3, 4], [], [0, 1, 2, 3, 4, 5, 6, 7], []]) (cl 82 43 []<|fa 83 0 4<|ld 84 1 false 83<|qq 85 (.mget (.one (.p .nilF)) false (.t 82) (.t 84))<|mv 86 1<|fa 87 2 4<|ld 88 1 false 87<|.op (some 89) none (.call (.t 85) [(.t 86),(.t 88)])<|al 16 [.nils,.nils,(.p (.int .i64 0))]<|st 3 16 89<|.nil) [8,16] [4,6,8,12,15,16,30,31])<|
(.seq (.region (some [[], [], [0, 1], [0, 1], [2, 3], []]) (fa 90 0 16<|ld 91 2 true 90<|fa 92 2 16<|ld 93 1 false 92<|st 2 8 91<|mv 9 93<|.nil) [8,9] [4,6,8,12,15,16,30,31])<|
.ret))))))))
theorem pure_eval_Node : PureT Tryz.prog fi_eval_Node 94 a_eval_Node [.cell 2 true 8,.tmp 9] := pureT_of Tryz.call22 Tryz.func22
def a_graph_Check : ACode := (sr [0] [] (qq 2 (.mov (.c (.one (.p (.bool false)))))<|.nil)<|
(sr [0,3] [] (cl 14 44 []<|mv 3 14<|.nil)<|
(sr [0,3,4] [15] (nn 15 .mkM<|mv 4 15<|.nil)<|
(.seq (sr [0,3,4,16,17,18] [15] (mv 16 0<|le 17 16<|mc 18 0<|.nil)<|
(.block 0 (.loop (sr [0,3,4,16,17,18,19] [15] (bt 19 .lss 18 17<|.nil)<|
(.seq (cd 19 .skip (.exit 0))<|
(.seq (.block 1 (sr [0,3,4,5,6,16,17,18] [5,6,15] (mv 20 18<|ia 21 3 16 18<|ld 22 3 true 21<|al 5 [(.p (.int .i64 0))]<|al 6 [(.p (.int .i64 0)),.nils,.nils]<|st 1 5 20<|st 3 6 22<|.nil)<|
(sr [0,3,4,5,6,7,8,16,17,18] [5,6,7,15] (mv 24 3<|fa 25 0 6<|ld 26 1 false 25<|qq 27 (.mget (.agg [(.p (.int .i64 0)),(.p (.int .i64 0))]) true (.t 24) (.t 26))<|mv 23 27<|xt 28 23 0<|xt 29 23 1<|al 7 [(.p (.int .i64 0)),(.p (.int .i64 0))]<|st 2 7 28<|mv 8 29<|.nil)<|
(sr [0,3,4,6,7,8,9,16,17,18] [5,6,7,15] (qq 30 (.mkF fi_graph_Check_1 [] [(.t 5)])<|mv 9 30<|.nil)<|
(ib [0,3,4,6,16,17,18,52] [5,6,7,15] (mv 31 8<|qq 32 (.un .not (.t 31))<|mv 33 32<|.sc 40 33 false 39 none (.op (some 34) (some (33, false)) (.q (.faddr 1 (.t 6)))<|.op (some 35) (some (33, false)) (.q (.load 1 false (.t 34)))<|.op (some 36) (some (33, false)) (.q (.len (.t 35)))<|.op (some 37) (some (33, false)) (.q (.faddr 0 (.t 7)))<|.op (some 38) (some (33, false)) (.q (.load 1 false (.t 37)))<|.op (some 39) (some (33, false)) (.q (.bin .neq (.t 36) (.t 38)))<|.nil)<|mv 41 40<|.sc 46 41 false 45 none (.op (some 42) (some (41, false)) (.q (.load 3 true (.t 6)))<|.op (some 43) (some (41, false)) (.q (.load 2 true (.t 7)))<|.op (some 44) (some (41, false)) (.call (.c (.one (.p (.fn fi_graph_well [] [])))) [(.t 42),(.t 43)])<|.op (some 45) (some (41, false)) (.q (.un .not (.t 44)))<|.nil)<|mv 47 46<|.sc 52 47 false 51 none (.op (some 48) (some (47, false)) (.q (.faddr 1 (.t 6)))<|.op (some 49) (some (47, false)) (.q (.load 1 false (.t 48)))<|.op (some 50) (some (47, false)) (.q (.mov (.t 9)))<|.op (some 51) (some (47, false)) (.call (.c (.one (.p (.fn fi_slices_ContainsFunc_int_int [] [])))) [(.t 49),(.t 50)])<|.nil)<|.nil) 52 (sr [2] [5,6,7,15] (qq 2 (.mov (.c (.one (.p (.bool false)))))<|.nil)<|
.ret)<|
(sr [0,3,4,6,10,11,16,17,18] [5,6,7,15] (ld 54 3 true 6<|cl 55 48 [54]<|mv 53 55<|xt 56 53 0<|xt 57 53 1<|mv 10 56<|mv 11 57<|.nil)<|
(sr [0,3,4,6,10,16,17,18,58] [5,6,7,15] (mv 58 11<|.nil)<|
(cd 58 (.seq (sr [0,3,4,6,10,12,13,16,17,18] [5,6,7,15] (mv 60 4<|mv 61 10<|qq 62 (.mget (.one .nils) true (.t 60) (.t 61))<|mv 59 62<|xt 63 59 0<|xt 64 59 1<|mv 12 63<|mv 13 64<|.nil)<|
(sr [0,3,4,6,10,16,17,18,72] [5,6,7,15] (mv 65 13<|mv 66 65<|.sc 72 66 true 71 none (.op (some 67) (some (66, true)) (.q (.mov (.t 12)))<|.op (some 68) (some (66, true)) (.q (.faddr 2 (.t 6)))<|.op (some 69) (some (66, true)) (.q (.load 1 false (.t 68)))<|.op (some 70) (some (66, true)) (.call (.c (.one (.p (.fn fi_slices_Equal_int_int [] [])))) [(.t 67),(.t 69)])<|.op (some 71) (some (66, true)) (.q (.un .not (.t 70)))<|.nil)<|.nil)<|
(cd 72 (sr [2] [5,6,7,15] (qq 2 (.mov (.c (.one (.p (.bool false)))))<|.nil)<|
.ret) .skip)))<|
(rg [0,3,4,16,17,18] [5,6,7,15]<|mv 73 4<|mv 74 10<|fa 75 2 6<|ld 76 1 false 75<|ss (.mput (.t 73) (.t 74) (.t 76))<|.nil)) .skip))))))))<|
(rg [0,3,4,16,17,18] [5,6,7,15]<|bc 77 .add 18 1<|mv 18 77<|.nil)))))))<|
(sr [2] [5,6,7,15] (mv 78 0<|le 79 78<|bc 80 .gtr 79 0<|mv 81 80<|.sc 85 81 true 84 none (.op (some 82) (some (81, true)) (.q (.mov (.t 0)))<|.op (some 83) (some (81, true)) (.q (.len (.t 82)))<|.op (some 84) (some (81, true)) (.q (.bin .leq (.t 83) (ic 24)))<|.nil)<|mv 2 85<|.nil)<|
.ret)))))
theorem pure_graph_Check : PureT Tryz.prog fi_graph_Check 86 a_graph_Check [.tmp 2] := pureT_of Tryz.call24 Tryz.func24
def a_fullerref09_Few : ACode := (sr [0,1] [] (qq 4 (.mov (.c (.one (.p (.bool false)))))<|.nil)<|
(.seq (sr [0,1,5] [] (mc 5 0<|.nil)<|
(.block 0 (.loop (.seq (sr [0,1,5,10] [] (mv 7 5<|mv 8 0<|le 9 8<|bt 10 .lss 7 9<|.nil)<|
(cd 10 .skip (.exit 0)))<|
(.seq (.block 1 (sr [0,1,5,6] [] (mv 13 0<|mv 14 5<|ia 15 2 13 14<|ld 16 2 true 15<|cl 17 27 [16]<|mv 6 17<|.nil)<|
(sr [0,1,5,19] [] (mv 18 6<|qq 19 (.un .not (.t 18))<|.nil)<|
(cd 19 (sr [4] [] (qq 4 (.mov (.c (.one (.p (.bool false)))))<|.nil)<|
.ret) .skip))))<|
(rg [0,1,5] []<|mv 11 5<|bc 12 .add 11 1<|mv 5 12<|.nil))))))<|
(sr [4] [] (mv 20 0<|le 21 20<|mv 22 1<|bt 23 .leq 21 22<|mv 4 23<|.nil)<|
.ret)))
theorem pure_fullerref09_Few : PureT Tryz.prog fi_fullerref09_Few 24 a_fullerref09_Few [.tmp 4] := pureT_of Tryz.call26 Tryz.func26
def a_fullerref03_Few : ACode := (sr [1] [1] (nn 1 (.box 2 (.t 0))<|qq 2 (.mov (.c (.one (.p (.bool false)))))<|.nil)<|
(sr [2] [1] (fa 3 0 1<|ld 4 1 false 3<|le 5 4<|bc 6 .leq 5 100<|mv 7 6<|.sc 12 7 true 11 none (.op (some 8) (some (7, true)) (.q (.faddr 1 (.t 1)))<|.op (some 9) (some (7, true)) (.q (.load 1 false (.t 8)))<|.op (some 10) (some (7, true)) (.q (.len (.t 9)))<|.op (some 11) (some (7, true)) (.q (.bin .leq (.t 10) (ic 100)))<|.nil)<|mv 2 12<|.nil)<|
.ret))
theorem pure_fullerref03_Few : PureT Tryz.prog fi_fullerref03_Few 13 a_fullerref03_Few [.tmp 2] := pureT_of Tryz.call27 Tryz.func27
def a_vjp_Back : ACode := (sr [1,4,6,7,8] [4,6,7] (nn 4 (.box 3 (.t 0))<|nn 6 (.box 2 (.t 2))<|nn 7 (.box 2 (.t 3))<|qq 8 (.mov (.c (.one .nils)))<|mc 9 0<|.nil)<|
(sr [1,4,6,7,8,10] [4,6,7] (qq 10 (.mov (.c (.one .nils)))<|.nil)<|
(sr [1,4,6,7,8,10,11] [4,6,7] (ld 19 2 true 6<|cl 20 31 [19]<|qq 21 (.un .not (.t 20))<|mv 22 21<|.sc 26 22 false 25 none (.op (some 23) (some (22, false)) (.q (.load 2 true (.t 7)))<|.op (some 24) (some (22, false)) (.call (.c (.one (.p (.fn fi_tensor_Check [] [])))) [(.t 23)])<|.op (some 25) (some (22, false)) (.q (.un .not (.t 24)))<|.nil)<|mv 11 26<|.nil)<|
(.seq (sr [1,4,6,7,8,10,11,27,28,29] [4,6,7] (mv 27 1<|le 28 27<|mc 29 0<|.nil)<|
(.block 0 (.loop (sr [1,4,6,7,8,10,11,27,28,29,30] [4,6,7] (bt 30 .lss 29 28<|.nil)<|
(.seq (cd 30 .skip (.exit 0))<|
(.seq (.block 1 (sr [1,4,6,7,8,10,11,13,27,28,29] [4,6,7,13] (ia 31 2 27 29<|ld 32 2 true 31<|al 13 [.nils,.nils]<|st 2 13 32<|.nil)<|
(sr [1,4,6,7,8,10,11,13,27,28,29] [4,6,7,13] (mv 33 11<|mv 34 33<|.sc 38 34 false 37 none (.op (some 35) (some (34, false)) (.q (.load 2 true (.t 13)))<|.op (some 36) (some (34, false)) (.call (.c (.one (.p (.fn fi_tensor_Check [] [])))) [(.t 35)])<|.op (some 37) (some (34, false)) (.q (.un .not (.t 36)))<|.nil)<|mv 11 38<|.nil)<|
(rg [1,4,6,7,8,10,11,27,28,29] [4,6,7,13,42,43]<|mv 39 10<|fa 40 0 13<|ld 41 1 false 40<|nn 42 (.lit 1 1 [(.sl [])] [(0, (.t 41))])<|sd 43 (.app 1 24 (.t 39) (.t 42))<|mv 10 43<|.nil))))<|
(rg [1,4,6,7,8,10,11,27,28,29] [4,6,7,13,42,43]<|bc 44 .add 29 1<|mv 29 44<|.nil)))))))<|
(ib [1,4,6,7,8,10,45] [4,6,7,13,42,43] (mv 45 11<|.nil) 45 (sr [8,9] [4,6,7,13,42,43] (qq 8 (.mov (.c (.one .nils)))<|mc 9 30<|.nil)<|
.ret)<|
(sr [1,4,6,7,8,9,14] [4,6,7,13,42,43] (ld 47 3 true 4<|mv 48 10<|cl 49 41 [47,48]<|mv 46 49<|xt 50 46 0<|xt 51 46 1<|mv 14 50<|mv 9 51<|.nil)<|
(ib [1,4,6,7,8,9,14,53] [4,6,7,13,42,43] (mv 52 9<|bc 53 .neq 52 0<|.nil) 53 (sr [8,9] [4,6,7,13,42,43] (mv 54 9<|qq 8 (.mov (.c (.one .nils)))<|mv 9 54<|.nil)<|
.ret)<|
(ib [1,4,6,7,8,66] [4,6,7,13,42,43] (fa 55 0 6<|ld 56 1 false 55<|mv 57 14<|cl 58 49 [56,57]<|qq 59 (.un .not (.t 58))<|mv 60 59<|.sc 66 60 false 65 none (.op (some 61) (some (60, false)) (.q (.faddr 0 (.t 7)))<|.op (some 62) (some (60, false)) (.q (.load 1 false (.t 61)))<|.op (some 63) (some (60, false)) (.q (.mov (.t 14)))<|.op (some 64) (some (60, false)) (.call (.c (.one (.p (.fn fi_slices_Equal_int_int [] [])))) [(.t 62),(.t 63)])<|.op (some 65) (some (60, false)) (.q (.un .not (.t 64)))<|.nil)<|.nil) 66 (sr [8,9] [4,6,7,13,42,43] (qq 8 (.mov (.c (.one .nils)))<|mc 9 20<|.nil)<|
.ret)<|
(sr [4,8,15] [4,6,7,13,42,43,72] (ld 67 3 true 4<|mv 68 1<|ld 69 2 true 6<|ld 70 2 true 7<|qq 71 (.build [(.p (.int .i64 0)),.nils,.nils,.nils,.nils,.nils,.nils,.nils,(.p (.int .i64 0))] [(0, 3, (.t 67)),(3, 1, (.t 68)),(4, 2, (.t 69)),(6, 2, (.t 70))])<|nn 72 (.box 9 (.t 71))<|mv 15 72<|.nil)<|
(.seq (.seq (.region (some [[], [0], [0], [], [], [0, 1, 2, 3, 4]]) (cl 73 50 []<|fa 74 0 4<|ld 75 1 false 74<|qq 76 (.mget (.one .nils) false (.t 73) (.t 75))<|le 77 76<|mc 78 0<|.nil) [8,15,76,77,78] [4,6,7,13,42,43,72])<|
(.block 2 (.loop (sr [8,15,76,77,78,79] [4,6,7,13,42,43,72] (bt 79 .lss 78 77<|.nil)<|
(.seq (cd 79 .skip (.exit 2))<|
(.seq (.block 3 (sr [8,15,17,76,77,78] [4,6,7,13,42,43,72] (ia 80 1 76 78<|ld 81 1 false 80<|mv 17 81<|.nil)<|
(sr [8,15,18,76,77,78] [4,6,7,13,18,42,43,72] (mv 82 17<|mv 83 15<|.op (some 84) none (.call (.t 82) [(.t 83)])<|al 18 [.nils,.nils]<|st 2 18 84<|.nil)<|
(ib [8,15,18,76,77,78,89] [4,6,7,13,18,42,43,72] (mv 85 15<|qq 86 (.nck (.t 85))<|fa 87 8 86<|ld 88 1 false 87<|bc 89 .neq 88 0<|.nil) 89 (.seq (.region (some [[], [], [], [], [0, 1, 2, 3], []]) (mv 90 15<|qq 91 (.nck (.t 90))<|fa 92 8 91<|ld 93 1 false 92<|qq 8 (.mov (.c (.one .nils)))<|mv 9 93<|.nil) [8,9] [4,6,7,13,18,42,43,72])<|
.ret)<|
(rg [8,15,76,77,78] [4,6,7,13,18,42,43,72,96,97]<|mv 94 8<|ld 95 2 true 18<|nn 96 (.lit 2 1 [(.sl []),(.sl [])] [(0, (.t 95))])<|sd 97 (.app 2 48 (.t 94) (.t 96))<|mv 8 97<|.nil)))))<|
(rg [8,15,76,77,78] [4,6,7,13,18,42,43,72,96,97]<|bc 98 .add 78 1<|mv 78 98<|.nil)))))))<|
(sr [8,9] [4,6,7,13,18,42,43,72,96,97] (mv 99 8<|mv 8 99<|mc 9 0<|.nil)<|
.ret)))))))))))
theorem pure_vjp_Back : PureT Tryz.prog fi_vjp_Back 100 a_vjp_Back [.tmp 8,.tmp 9] := pureT_of Tryz.call28 Tryz.func28
def a_tensor_Full : ACode := (sr [0,1,4] [4] (al 4 [.nils,.nils]<|mc 5 0<|.nil)<|
(ib [0,1,4,8] [4] (mv 6 0<|cl 7 55 [6]<|qq 8 (.un .not (.t 7))<|.nil) 8 (sr [4,5] [4] (qq 9 (.build [.nils,.nils] [])<|st 2 4 9<|mc 5 20<|.nil)<|
.ret)<|
(sr [4,5] [4,13] (mv 10 0<|cl 11 56 [10]<|mv 12 1<|nn 13 (.lit 1 1 [(.int .i64 0)] [(0, (.t 12))])<|mv 14 0<|cl 15 58 [14]<|cl 16 57 [13,15]<|qq 17 (.build [.nils,.nils] [(0, 1, (.t 11)),(1, 1, (.t 16))])<|st 2 4 17<|mc 5 0<|.nil)<|
.ret)))
theorem pure_tensor_Full : PureT Tryz.prog fi_tensor_Full 18 a_tensor_Full [.cell 2 true 4,.tmp 5] := pureT_of Tryz.call30 Tryz.func30
theorem mut_tensor_Full : MutT Tryz.prog fi_tensor_Full 18 a_tensor_Full [.cell 2 true 4,.tmp 5] := mutT_of Tryz.call30 Tryz.func30
def a_tensor_Check : ACode := (sr [1] [1] (nn 1 (.box 2 (.t 0))<|qq 2 (.mov (.c (.one (.p (.bool false)))))<|.nil)<|
(.seq (.region (some [[], [], [], [], [], [], [], [4, 5, 6], [4, 5, 6], [4, 5, 6], [], [], []]) (fa 3 0 1<|ld 4 1 false 3<|cl 5 55 [4]<|mv 6 5<|.sc 14 6 true 13 none (.op (some 7) (some (6, true)) (.q (.faddr 1 (.t 1)))<|.op (some 8) (some (6, true)) (.q (.load 1 false (.t 7)))<|.op (some 9) (some (6, true)) (.q (.len (.t 8)))<|.op (some 10) (some (6, true)) (.q (.faddr 0 (.t 1)))<|.op (some 11) (some (6, true)) (.q (.load 1 false (.t 10)))<|.op (some 12) (some (6, true)) (.call (.c (.one (.p (.fn fi_shape_Size [] [])))) [(.t 11)])<|.op (some 13) (some (6, true)) (.q (.bin .eql (.t 9) (.t 12)))<|.nil)<|mv 2 14<|.nil) [2] [1])<|
.ret))
theorem pure_tensor_Check : PureT Tryz.prog fi_tensor_Check 15 a_tensor_Check [.tmp 2] := pureT_of Tryz.call31 Tryz.func31
def a_fullerlaw15_awake : ACode := (sr [] [] (qq 0 (.mov (.c (.one (.p (.bool false)))))<|.nil)<|
(sr [1] [15,17,19] (nn 15 (.lit 1 1 [(.int .i64 0)] [(0, (ic 1))])<|qq 16 (.build [(.p (.int .i64 0)),.nils,.nils] [(0, 1, (ic 2)),(2, 1, (.t 15))])<|nn 17 (.lit 1 2 [(.int .i64 0)] [(0, (ic 0)),(1, (ic 0))])<|qq 18 (.build [(.p (.int .i64 0)),.nils,.nils] [(0, 1, (ic 12)),(1, 1, (.t 17))])<|nn 19 (.lit 3 2 [(.int .i64 0),(.sl []),(.sl [])] [(0, (.t 16)),(1, (.t 18))])<|mv 1 19<|.nil)<|
(sr [1,2] [15,17,19,21,23] (qq 20 (.build [.nils,.nils] [])<|nn 21 (.lit 1 1 [(.int .i64 0)] [(0, (ic 12884901888))])<|qq 22 (.build [.nils,.nils] [(1, 1, (.t 21))])<|nn 23 (.lit 2 2 [(.sl []),(.sl [])] [(0, (.t 20)),(1, (.t 22))])<|mv 2 23<|.nil)<|
(sr [2,3,4,5,6] [15,17,19,21,23] (mv 25 1<|qq 26 (.build [.nils,.nils] [])<|mv 27 2<|cl 28 37 [25,26,27]<|mv 24 28<|xt 29 24 0<|xt 30 24 1<|xt 31 24 2<|xt 32 24 3<|mv 3 29<|mv 4 30<|mv 5 31<|mv 6 32<|.nil)<|
(sr [3,4,5,6,9,10] [15,17,19,21,23] (qq 34 (.build [.nils,.nils] [])<|mv 35 2<|.op (some 36) none (.call (.c (.one (.p (.fn fi_grad_All [] [])))) [(.c (.one .nils)),(.t 34),(.t 35)])<|mv 33 36<|xt 37 33 0<|xt 38 33 1<|xt 39 33 2<|xt 40 33 3<|mv 7 37<|mv 8 38<|mv 9 39<|mv 10 40<|.nil)<|
(sr [3,4,5,6,9,10,13,14] [15,17,19,21,23,42,44,45,46] (nn 42 (.lit 1 1 [(.int .i64 0)] [(0, (ic 2))])<|qq 43 (.build [(.p (.int .i64 0)),.nils,.nils] [(0, 1, (ic 1)),(2, 1, (.t 42))])<|nn 44 (.lit 3 1 [(.int .i64 0),(.sl []),(.sl [])] [(0, (.t 43))])<|nn 45 (.lit 1 1 [(.int .i64 0)] [(0, (ic 2))])<|nn 46 (.lit 1 2 [(.int .i64 0)] [(0, (ic 1)),(1, (ic 2))])<|qq 47 (.build [.nils,.nils] [(0, 1, (.t 45)),(1, 1, (.t 46))])<|.op (some 48) none (.call (.c (.one (.p (.fn fi_grad_All [] [])))) [(.t 44),(.t 47),(.c (.one .nils))])<|mv 41 48<|xt 49 41 0<|xt 50 41 1<|xt 51 41 2<|xt 52 41 3<|mv 11 49<|mv 12 50<|mv 13 51<|mv 14 52<|.nil)<|
(sr [0] [15,17,19,21,23,42,44,45,46,61] (mv 53 3<|le 54 53<|bc 55 .eql 54 8<|mv 56 55<|.sc 63 56 true 62 none (.op (some 57) (some (56, true)) (.q (.mov (.t 3)))<|.op (some 58) (some (56, true)) (.q (.iaddr 2 (.t 57) (ic 1)))<|.op (some 59) (some (56, true)) (.q (.faddr 1 (.t 58)))<|.op (some 60) (some (56, true)) (.q (.load 1 false (.t 59)))<|.op (some 61) (some (56, true)) (.n (.lit 1 1 [(.int .i64 0)] [(0, (ic 25769803776))]))<|.op (some 62) (some (56, true)) (.call (.c (.one (.p (.fn fi_fullerref02_Same [] [])))) [(.t 60),(.t 61)])<|.nil)<|mv 64 63<|.sc 71 64 true 70 none (.op (some 65) (some (64, true)) (.q (.mov (.t 3)))<|.op (some 66) (some (64, true)) (.q (.iaddr 2 (.t 65) (ic 0)))<|.op (some 67) (some (64, true)) (.q (.faddr 1 (.t 66)))<|.op (some 68) (some (64, true)) (.q (.load 1 false (.t 67)))<|.op (some 69) (some (64, true)) (.q (.len (.t 68)))<|.op (some 70) (some (64, true)) (.q (.bin .eql (.t 69) (ic 0)))<|.nil)<|mv 72 71<|.sc 75 72 true 74 none (.op (some 73) (some (72, true)) (.q (.mov (.t 4)))<|.op (some 74) (some (72, true)) (.q (.bin .eql (.t 73) (ic 38654705664)))<|.nil)<|mv 76 75<|.sc 79 76 true 78 none (.op (some 77) (some (76, true)) (.q (.mov (.t 5)))<|.op (some 78) (some (76, true)) (.q (.bin .eql (.t 77) (ic (-1))))<|.nil)<|mv 80 79<|.sc 83 80 true 82 none (.op (some 81) (some (80, true)) (.q (.mov (.t 6)))<|.op (some 82) (some (80, true)) (.q (.bin .eql (.t 81) (ic 0)))<|.nil)<|mv 84 83<|.sc 87 84 true 86 none (.op (some 85) (some (84, true)) (.q (.mov (.t 9)))<|.op (some 86) (some (84, true)) (.q (.bin .eql (.t 85) (ic (-1))))<|.nil)<|mv 88 87<|.sc 91 88 true 90 none (.op (some 89) (some (88, true)) (.q (.mov (.t 10)))<|.op (some 90) (some (88, true)) (.q (.bin .eql (.t 89) (ic 100)))<|.nil)<|mv 92 91<|.sc 95 92 true 94 none (.op (some 93) (some (92, true)) (.q (.mov (.t 13)))<|.op (some 94) (some (92, true)) (.q (.bin .eql (.t 93) (ic 0)))<|.nil)<|mv 96 95<|.sc 99 96 true 98 none (.op (some 97) (some (96, true)) (.q (.mov (.t 14)))<|.op (some 98) (some (96, true)) (.q (.bin .eql (.t 97) (ic 150)))<|.nil)<|mv 100 99<|qq 101 (.pick (.t 100) (.c (.one (.p (.bool true)))) (.c (.one (.p (.bool false)))))<|mv 0 101<|.nil)<|
.ret)))))))
theorem pure_fullerlaw15_awake : PureT Tryz.prog fi_fullerlaw15_awake 102 a_fullerlaw15_awake [.tmp 0] := pureT_of Tryz.call36 Tryz.func36
def a_grad_All : ACode := (sr [2,3,4] [3,4] (nn 3 (.box 1 (.t 0))<|nn 4 (.box 2 (.t 1))<|qq 6 (.mov (.c (.one .nils)))<|mc 7 0<|mc 8 0<|mc 9 0<|.nil)<|
(sr [3,10,11,12] [3,4,10] (ld 30 1 false 3<|ld 31 2 true 4<|mv 32 2<|cl 33 18 [30,31,32]<|mv 29 33<|xt 34 29 0<|xt 35 29 1<|xt 36 29 2<|al 10 [.nils]<|st 1 10 34<|mv 11 35<|mv 12 36<|.nil)<|
(ib [3,10,11,12,38] [3,4,10] (mv 37 12<|bc 38 .neq 37 0<|.nil) 38 (sr [6,7,8,9] [3,4,10] (mv 39 11<|mv 40 12<|qq 6 (.mov (.c (.one .nils)))<|mc 7 0<|mv 8 39<|mv 9 40<|.nil)<|
.ret)<|
(sr [3,10,13] [3,4,10] (ld 41 1 false 3<|le 42 41<|bc 43 .sub 42 1<|mv 13 43<|.nil)<|
(sr [3,10,13,14] [3,4,10,14] (ld 44 1 false 10<|mv 45 13<|ia 46 2 44 45<|ld 47 2 true 46<|al 14 [.nils,.nils]<|st 2 14 47<|.nil)<|
(ib [3,10,13,14,51] [3,4,10,14] (fa 48 1 14<|ld 49 1 false 48<|le 50 49<|bc 51 .gtr 50 1<|.nil) 51 (sr [6,7,8,9] [3,4,10,14] (mv 52 13<|qq 6 (.mov (.c (.one .nils)))<|mc 7 0<|mv 8 52<|mc 9 150<|.nil)<|
.ret)<|
(sr [3,10,13,14,15] [3,4,10,14,15] (fa 54 0 14<|ld 55 1 false 54<|.op (some 56) none (.call (.c (.one (.p (.fn fi_tensor_Full [] [])))) [(.t 55),(ic 4294967296)])<|mv 53 56<|xt 57 53 0<|xt 58 53 1<|al 15 [.nils,.nils]<|st 2 15 57<|mv 16 58<|.nil)<|
(sr [3,10,14,17,18] [3,4,10,14,15,17,18,59,63] (nn 59 .mkM<|mv 60 13<|ld 61 2 true 15<|ss (.mput (.t 59) (.t 60) (.t 61))<|mv 62 59<|nn 63 .mkM<|al 17 [(.raw (.map none))]<|al 18 [(.raw (.map none))]<|st 1 17 62<|st 1 18 63<|.nil)<|
(sr [3,10,14,18,19] [3,4,10,14,15,17,18,59,63] (qq 64 (.mkF fi_grad_All_1 [] [(.t 3),(.t 18),(.t 17),(.t 10)])<|mv 19 64<|.nil)<|
(sr [3,10,14,18,19,20] [3,4,10,14,15,17,18,59,63] (ld 65 1 false 3<|cl 66 65 [65]<|mv 20 66<|.nil)<|
(.seq (sr [3,10,14,18,19,20,68,69] [3,4,10,14,15,17,18,59,63] (mv 67 20<|le 68 67<|mc 69 0<|.nil)<|
(.block 0 (.loop (sr [3,10,14,18,19,20,68,69,70] [3,4,10,14,15,17,18,59,63] (bt 70 .lss 69 68<|.nil)<|
(.seq (cd 70 .skip (.exit 0))<|
(.seq (.block 1 (sr [3,10,14,18,19,20,21,68,69] [3,4,10,14,15,17,18,59,63] (mv 71 69<|mv 21 71<|.nil)<|
(sr [3,10,14,18,19,20,22,68,69] [3,4,10,14,15,17,18,59,63] (mv 72 20<|mv 73 20<|le 74 73<|bc 75 .sub 74 1<|mv 76 21<|bt 77 .sub 75 76<|ia 78 1 72 77<|ld 79 1 false 78<|mv 22 79<|.nil)<|
(sr [3,10,14,18,19,20,22,23,68,69] [3,4,10,14,15,17,18,59,63] (mv 80 19<|mv 81 22<|.op (some 82) none (.call (.t 80) [(.t 81)])<|mv 23 82<|.nil)<|
(sr [3,10,14,18,19,20,22,23,68,69,84] [3,4,10,14,15,17,18,59,63] (mv 83 23<|bc 84 .neq 83 0<|.nil)<|
(cd 84 (sr [6,7,8,9] [3,4,10,14,15,17,18,59,63] (mv 85 22<|mv 86 23<|qq 6 (.mov (.c (.one .nils)))<|mc 7 0<|mv 8 85<|mv 9 86<|.nil)<|
.ret) .skip))))))<|
(rg [3,10,14,18,19,20,68,69] [3,4,10,14,15,17,18,59,63]<|bc 87 .add 69 1<|mv 69 87<|.nil)))))))<|
(sr [3,10,14,18,24] [3,4,10,14,15,17,18,59,63,88] (nn 88 (.mkS 2 48 [(.sl []),(.sl [])] (ic 8) (ic 8))<|mv 24 88<|.nil)<|
(.seq (sr [10,14,18,24,89,90,91] [3,4,10,14,15,17,18,59,63,88] (ld 89 1 false 3<|le 90 89<|mc 91 0<|.nil)<|
(.block 2 (.loop (sr [10,14,18,24,89,90,91,92] [3,4,10,14,15,17,18,59,63,88] (bt 92 .lss 91 90<|.nil)<|
(.seq (cd 92 .skip (.exit 2))<|
(.seq (.block 3 (sr [10,14,18,24,25,26,89,90,91] [3,4,10,14,15,17,18,26,59,63,88] (mv 93 91<|ia 94 3 89 91<|ld 95 3 true 94<|al 26 [(.p (.int .i64 0)),.nils,.nils]<|mv 25 93<|st 3 26 95<|.nil)<|
(ib [10,14,18,24,25,26,89,90,91,98] [3,4,10,14,15,17,18,26,59,63,88] (fa 96 0 26<|ld 97 1 false 96<|bc 98 .neq 97 2<|.nil) 98 (.exit 3)<|
(.seq (.region (some [[], [0], [0], [0], [0], [], [], [], [7], [0, 1, 2, 3, 4, 5, 6, 7, 8], [8], []]) (ld 100 1 false 18<|fa 101 2 26<|ld 102 1 false 101<|qq 103 (.iaddr 1 (.t 102) (ic 0))<|ld 104 1 false 103<|qq 105 (.mget (.agg [.nils,.nils]) true (.t 100) (.t 104))<|mv 99 105<|xt 106 99 0<|xt 107 99 1<|al 27 [.nils,.nils]<|st 2 27 106<|mv 28 107<|.nil) [10,14,18,24,25,26,27,28,89,90,91] [3,4,10,14,15,17,18,26,27,59,63,88])<|
(sr [10,14,18,24,25,26,27,89,90,91,108] [3,4,10,14,15,17,18,26,27,59,63,88] (mv 108 28<|.nil)<|
(cd 108 (.region (some [[], [0], [0], [0], [0], [0, 1, 2, 3, 4], [], []]) (mv 109 24<|fa 110 2 26<|ld 111 1 false 110<|qq 112 (.iaddr 1 (.t 111) (ic 0))<|ld 113 1 false 112<|ld 114 2 true 27<|ia 115 2 109 113<|st 2 115 114<|.nil) [10,14,18,24,89,90,91] [3,4,10,14,15,17,18,26,27,59,63,88]) (.region (some [[], [0], [0], [0], [0], [0, 1, 2, 3, 4], [0, 1, 2, 3, 4, 5], [0, 1, 2, 3, 4], [0, 1, 2, 3, 4], [0, 1, 2, 3, 4], [0, 1, 2, 3, 4], [0, 1, 2, 3, 4], [0, 1, 2, 3, 4], [0, 1, 2, 3, 4, 12], [13], [13]]) (mv 117 24<|fa 118 2 26<|ld 119 1 false 118<|qq 120 (.iaddr 1 (.t 119) (ic 0))<|ld 121 1 false 120<|ld 122 1 false 10<|mv 123 25<|ia 124 2 122 123<|fa 125 0 124<|ld 126 1 false 125<|.op (some 127) none (.call (.c (.one (.p (.fn fi_tensor_Full [] [])))) [(.t 126),(ic 0)])<|mv 116 127<|xt 128 116 0<|xt 129 116 1<|ia 130 2 117 121<|st 2 130 128<|.nil) [10,14,18,24,89,90,91] [3,4,10,14,15,17,18,26,27,59,63,88])))))))<|
(rg [10,14,18,24,89,90,91] [3,4,10,14,15,17,18,26,27,59,63,88]<|bc 131 .add 91 1<|mv 91 131<|.nil)))))))<|
(.seq (.region (some [[], [0], [0], [0], [0], [1, 2, 3, 4], [], [], []]) (mv 132 24<|fa 133 1 14<|ld 134 1 false 133<|qq 135 (.iaddr 1 (.t 134) (ic 0))<|ld 136 1 false 135<|mv 6 132<|mv 7 136<|mc 8 (-1)<|mc 9 0<|.nil) [6,7,8,9] [3,4,10,14,15,17,18,26,27,59,63,88])<|
.ret))))))))))))))
theorem pure_grad_All : PureT Tryz.prog fi_grad_All 137 a_grad_All [.tmp 6,.tmp 7,.tmp 8,.tmp 9] := pureT_of Tryz.call37 Tryz.func37
def a_fullerlaw15_line : ACode := (sr [0,1] [] (qq 4 (.mov (.c (.one .nils)))<|.nil)<|
(sr [0,5] [7,10,12] (nn 7 (.lit 1 1 [(.int .i64 0)] [(0, (ic 0))])<|qq 8 (.build [(.p (.int .i64 0)),.nils,.nils] [(0, 1, (ic 2)),(2, 1, (.t 7))])<|mv 9 1<|nn 10 (.lit 1 1 [(.int .i64 0)] [(0, (.t 9))])<|qq 11 (.build [(.p (.int .i64 0)),.nils,.nils] [(0, 1, (ic 3)),(2, 1, (.t 10))])<|nn 12 (.lit 3 2 [(.int .i64 0),(.sl []),(.sl [])] [(0, (.t 8)),(1, (.t 11))])<|mv 5 12<|.nil)<|
(.seq (sr [0,5,6] [7,10,12] (mc 6 0<|.nil)<|
(.block 0 (.loop (.seq (sr [0,5,6,15] [7,10,12] (mv 13 6<|mv 14 0<|bt 15 .lss 13 14<|.nil)<|
(cd 15 .skip (.exit 0)))<|
(.seq (.block 1 (rg [0,5,6] [7,10,12,22,24,25]<|mv 18 5<|mv 19 5<|le 20 19<|bc 21 .sub 20 1<|nn 22 (.lit 1 2 [(.int .i64 0)] [(0, (ic 0)),(1, (.t 21))])<|qq 23 (.build [(.p (.int .i64 0)),.nils,.nils] [(0, 1, (ic 10)),(1, 1, (.t 22))])<|nn 24 (.lit 3 1 [(.int .i64 0),(.sl []),(.sl [])] [(0, (.t 23))])<|sd 25 (.app 3 56 (.t 18) (.t 24))<|mv 5 25<|.nil))<|
(rg [0,5,6] [7,10,12,22,24,25]<|mv 16 6<|bc 17 .add 16 1<|mv 6 17<|.nil))))))<|
(sr [4] [7,10,12,22,24,25] (mv 26 5<|mv 4 26<|.nil)<|
.ret))))
theorem pure_fullerlaw15_line : PureT Tryz.prog fi_fullerlaw15_line 27 a_fullerlaw15_line [.tmp 4] := pureT_of Tryz.call38 Tryz.func38
def a_fix_Mul : ACode := (sr [0,1] [] (mc 4 0<|mc 5 0<|.nil)<|
(sr [0,1,6,7] [] (mv 9 0<|cl 10 67 [9]<|mv 11 1<|cl 12 67 [11]<|cl 13 66 [10,12]<|mv 8 13<|xt 14 8 0<|xt 15 8 1<|mv 6 14<|mv 7 15<|.nil)<|
(sr [4,5] [] (mv 16 6<|qq 17 (.bin .shr (.t 16) (.c (.one (.p (.int .u64 32)))))<|mv 18 6<|qq 19 (.bin .shl (.t 18) (.c (.one (.p (.int .u64 32)))))<|mv 20 7<|qq 21 (.bin .shr (.t 20) (.c (.one (.p (.int .u64 32)))))<|bt 22 .or 19 21<|qq 23 (.build [(.p (.int .u64 0)),(.p (.int .u64 0))] [(0, 1, (.t 17)),(1, 1, (.t 22))])<|mv 24 7<|qq 25 (.bin .and (.t 24) (.c (.one (.p (.int .u64 4294967295)))))<|qq 26 (.bin .neq (.t 25) (.c (.one (.p (.int .u64 0)))))<|mv 27 0<|mv 28 1<|cl 29 69 [27,28]<|cl 30 68 [23,26,29]<|xt 31 30 0<|xt 32 30 1<|mv 4 31<|mv 5 32<|.nil)<|
.ret)))
theorem pure_fix_Mul : PureT Tryz.prog fi_fix_Mul 33 a_fix_Mul [.tmp 4,.tmp 5] := pureT_of Tryz.call39 Tryz.func39
def a_fullerlaw15_few : ACode := (sr [0,2,4] [4] (nn 4 (.box 2 (.t 1))<|qq 6 (.mov (.c (.one (.p (.bool false)))))<|.nil)<|
(sr [2,7] [4] (mv 8 0<|cl 9 16 [8]<|mv 10 9<|.sc 13 10 true 12 none (.op (some 11) (some (10, true)) (.q (.load 2 true (.t 4)))<|.op (some 12) (some (10, true)) (.call (.c (.one (.p (.fn fi_fullerref03_Few [] [])))) [(.t 11)])<|.nil)<|mv 7 13<|.nil)<|
(sr [6] [4] (mv 14 7<|mv 15 14<|.sc 18 15 true 17 none (.op (some 16) (some (15, true)) (.q (.mov (.t 2)))<|.op (some 17) (some (15, true)) (.call (.c (.one (.p (.fn fi_fullerref09_Few [] [])))) [(.t 16),(ic 10)])<|.nil)<|mv 6 18<|.nil)<|
.ret)))
theorem pure_fullerlaw15_few : PureT Tryz.prog fi_fullerlaw15_few 19 a_fullerlaw15_few [.tmp 6] := pureT_of Tryz.call40 Tryz.func40
def a_infer_Node : ACode := (sr [1,2,4] [2] (nn 2 (.box 3 (.t 0))<|qq 4 (.mov (.c (.one .nils)))<|mc 5 0<|.nil)<|
(sr [1,2,4,5] [2] (mc 5 20<|.nil)<|
(.seq (.region (some [[], [], [0, 1], [0, 1], [0, 1, 2, 3], [0, 1, 2, 3], [0, 1, 2, 3], [0, 1, 2, 3], [0, 1, 2, 3], [0, 1, 2, 3, 4, 5, 6, 7, 8], [0, 1, 2, 3, 4, 5, 6, 7, 8], [0, 1], [], []]) (nn 10 (.lit 1 1 [(.int .i64 0)] [(0, (ic 0))])<|qq 11 (.build [(.p (.int .i64 0)),.nils,.nils] [(0, 1, (ic 3)),(2, 1, (.t 10))])<|fa 12 0 2<|ld 13 1 false 12<|fa 14 0 2<|ld 15 1 false 14<|cl 16 70 [15]<|qq 17 (.mm true (ic 0) (.t 16))<|nn 18 (.mkS 1 8 [(.int .i64 0)] (.t 17) (.t 17))<|fa 19 2 2<|ld 20 1 false 19<|qq 21 (.build [(.p (.int .i64 0)),.nils,.nils] [(0, 1, (.t 13)),(1, 1, (.t 18)),(2, 1, (.t 20))])<|nn 22 (.lit 3 2 [(.int .i64 0),(.sl []),(.sl [])] [(0, (.t 11)),(1, (.t 21))])<|mv 6 22<|.nil) [1,2,4,5,6] [2,10,18,22])<|
(sr [1,2,4,5,6,7] [2,10,18,22] (qq 7 (.mov (.c (.one (.p (.fn fi_infer_Node_1 [] [])))))<|.nil)<|
(ib [1,2,4,5,38] [2,10,18,22] (mv 23 1<|le 24 23<|fa 25 0 2<|ld 26 1 false 25<|cl 27 70 [26]<|bt 28 .neq 24 27<|mv 29 28<|.sc 33 29 false 32 none (.op (some 30) (some (29, false)) (.q (.mov (.t 6)))<|.op (some 31) (some (29, false)) (.call (.c (.one (.p (.fn fi_graph_Check [] [])))) [(.t 30)])<|.op (some 32) (some (29, false)) (.q (.un .not (.t 31)))<|.nil)<|mv 34 33<|.sc 38 34 false 37 none (.op (some 35) (some (34, false)) (.q (.mov (.t 1)))<|.op (some 36) (some (34, false)) (.q (.mov (.t 7)))<|.op (some 37) (some (34, false)) (.call (.c (.one (.p (.fn fi_slices_ContainsFunc_LL_int_int [] [])))) [(.t 35),(.t 36)])<|.nil)<|.nil) 38 .ret<|
(.seq (.seq (.region (some [[], [0], [0], [], [0, 1, 2, 3], [0, 1, 2, 3, 4], [0, 1, 2, 3, 4], [], [], [], [9], [10], []]) (cl 40 73 []<|fa 41 0 2<|ld 42 1 false 41<|qq 43 (.mget (.one (.p .nilF)) false (.t 40) (.t 42))<|mv 44 1<|fa 45 2 2<|ld 46 1 false 45<|.op (some 47) none (.call (.t 43) [(.t 44),(.t 46)])<|mv 39 47<|xt 48 39 0<|xt 49 39 1<|mv 8 48<|mv 9 49<|.nil) [4,5,8,9] [2,10,18,22])<|
(sr [4,5,8,50] [2,10,18,22] (mv 50 9<|.nil)<|
(cd 50 (rg [4,5] [2,10,18,22]<|mv 51 8<|mv 4 51<|mc 5 0<|.nil) .skip)))<|
.ret))))))
theorem pure_infer_Node : PureT Tryz.prog fi_infer_Node 52 a_infer_Node [.tmp 4,.tmp 5] := pureT_of Tryz.call41 Tryz.func41
end Go.AM

