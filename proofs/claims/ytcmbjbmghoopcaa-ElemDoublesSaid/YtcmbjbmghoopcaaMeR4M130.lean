import Derived.Test.YtcmbjbmghoopcaaMe5
import Derived.Test.YtcmbjbmghoopcaaProg
import Derived.KernelRfl
set_option linter.unusedVariables false
set_option linter.unusedSimpArgs false
namespace Go.AM
open Go Go.Proofs
set_option maxRecDepth 100000
abbrev fi_fullerlaw04_ElemDoubles : Nat := 13
def a_fullerlaw04_ElemDoubles : ACode := (.seq (.region none (.op (some 2) none (.n (.box 2 (.t 0)))
  (.op (some 3) none (.n (.box 2 (.t 1)))
  (.op (some 4) none (.q (.mov (.c (.one (.p (.bool false))))))
  .nil))) [2, 3] [2, 3])
 (.seq (.region none (.op (some 21) none (.call (.c (.one (.p (.fn fi_fullerlaw04_awake [] [])))) [])
  (.op (some 5) none (.q (.mov (.t 21)))
  .nil)) [2, 3, 5] [2, 3])
 (.seq (.seq (.region none (.op (some 22) none (.q (.load 2 true (.t 2)))
  (.op (some 23) none (.call (.c (.one (.p (.fn fi_fullerref03_Few [] [])))) [(.t 22)])
  (.op (some 24) none (.q (.un .not (.t 23)))
  (.op (some 25) none (.q (.mov (.t 24)))
  (.sc 29 25 false 28 none
  (.op (some 26) (some (25, false)) (.q (.load 2 true (.t 3)))
  (.op (some 27) (some (25, false)) (.call (.c (.one (.p (.fn fi_fullerref03_Few [] [])))) [(.t 26)])
  (.op (some 28) (some (25, false)) (.q (.un .not (.t 27)))
  .nil)))
  (.op (some 30) none (.q (.mov (.t 29)))
  (.sc 34 30 false 33 none
  (.op (some 31) (some (30, false)) (.q (.load 2 true (.t 2)))
  (.op (some 32) (some (30, false)) (.call (.c (.one (.p (.fn fi_tensor_Check [] [])))) [(.t 31)])
  (.op (some 33) (some (30, false)) (.q (.un .not (.t 32)))
  .nil)))
  (.op (some 35) none (.q (.mov (.t 34)))
  (.sc 39 35 false 38 none
  (.op (some 36) (some (35, false)) (.q (.load 2 true (.t 3)))
  (.op (some 37) (some (35, false)) (.call (.c (.one (.p (.fn fi_tensor_Check [] [])))) [(.t 36)])
  (.op (some 38) (some (35, false)) (.q (.un .not (.t 37)))
  .nil)))
  .nil))))))))) [2, 3, 5, 39] [2, 3])
 (.cond (.t 39) (.seq (.region none (.op (some 40) none (.q (.mov (.t 5)))
  (.op (some 4) none (.q (.mov (.t 40)))
  .nil)) [4] [2, 3])
 .ret)
 .skip))
 (.seq (.region none (.op (some 42) none (.q (.load 2 true (.t 2)))
  (.op (some 43) none (.q (.load 2 true (.t 2)))
  (.op (some 44) none (.call (.c (.one (.p (.fn fi_elem_Two [] [])))) [(.c (.one (.p (.int .i64 10)))), (.t 42), (.t 43)])
  (.op (some 41) none (.q (.mov (.t 44)))
  (.op (some 45) none (.q (.extr (.t 41) 0))
  (.op (some 46) none (.q (.extr (.t 41) 1))
  (.op (some 6) none (.n (.alloc [.nils, .nils]))
  (.op none none (.s (.store 2 (.t 6) (.t 45)))
  (.op (some 7) none (.q (.mov (.t 46)))
  .nil))))))))) [2, 3, 5, 6, 7] [2, 3, 6])
 (.seq (.region none (.op (some 48) none (.q (.load 2 true (.t 2)))
  (.op (some 49) none (.n (.lit 1 1 [(.int .i64 0)] [(0, (.c (.one (.p (.int .i64 8589934592)))))]))
  (.op (some 50) none (.q (.build [.nils, .nils] [(1, 1, (.t 49))]))
  (.op (some 51) none (.call (.c (.one (.p (.fn fi_elem_Two [] [])))) [(.c (.one (.p (.int .i64 12)))), (.t 48), (.t 50)])
  (.op (some 47) none (.q (.mov (.t 51)))
  (.op (some 52) none (.q (.extr (.t 47) 0))
  (.op (some 53) none (.q (.extr (.t 47) 1))
  (.op (some 8) none (.n (.alloc [.nils, .nils]))
  (.op none none (.s (.store 2 (.t 8) (.t 52)))
  (.op (some 9) none (.q (.mov (.t 53)))
  .nil)))))))))) [2, 3, 5, 6, 7, 8, 9] [2, 3, 6, 8, 49])
 (.seq (.region none (.op (some 55) none (.q (.load 2 true (.t 2)))
  (.op (some 56) none (.q (.load 2 true (.t 3)))
  (.op (some 57) none (.call (.c (.one (.p (.fn fi_elem_Two [] [])))) [(.c (.one (.p (.int .i64 11)))), (.t 55), (.t 56)])
  (.op (some 54) none (.q (.mov (.t 57)))
  (.op (some 58) none (.q (.extr (.t 54) 0))
  (.op (some 59) none (.q (.extr (.t 54) 1))
  (.op (some 10) none (.n (.alloc [.nils, .nils]))
  (.op none none (.s (.store 2 (.t 10) (.t 58)))
  (.op (some 11) none (.q (.mov (.t 59)))
  .nil))))))))) [2, 3, 5, 6, 7, 8, 9, 10, 11] [2, 3, 6, 8, 10, 49])
 (.seq (.region none (.op (some 61) none (.q (.load 2 true (.t 3)))
  (.op (some 62) none (.q (.load 2 true (.t 2)))
  (.op (some 63) none (.call (.c (.one (.p (.fn fi_elem_Two [] [])))) [(.c (.one (.p (.int .i64 11)))), (.t 61), (.t 62)])
  (.op (some 60) none (.q (.mov (.t 63)))
  (.op (some 64) none (.q (.extr (.t 60) 0))
  (.op (some 65) none (.q (.extr (.t 60) 1))
  (.op (some 12) none (.n (.alloc [.nils, .nils]))
  (.op none none (.s (.store 2 (.t 12) (.t 64)))
  (.op (some 13) none (.q (.mov (.t 65)))
  .nil))))))))) [2, 5, 6, 7, 8, 9, 10, 11, 12, 13] [2, 3, 6, 8, 10, 12, 49])
 (.seq (.region none (.op (some 67) none (.q (.load 2 true (.t 12)))
  (.op (some 68) none (.call (.c (.one (.p (.fn fi_elem_One [] [])))) [(.c (.one (.p (.int .i64 20)))), (.t 67)])
  (.op (some 66) none (.q (.mov (.t 68)))
  (.op (some 69) none (.q (.extr (.t 66) 0))
  (.op (some 70) none (.q (.extr (.t 66) 1))
  (.op (some 14) none (.n (.alloc [.nils, .nils]))
  (.op none none (.s (.store 2 (.t 14) (.t 69)))
  (.op (some 15) none (.q (.mov (.t 70)))
  .nil)))))))) [2, 5, 6, 7, 8, 9, 10, 11, 13, 14, 15] [2, 3, 6, 8, 10, 12, 14, 49])
 (.seq (.region none (.op (some 72) none (.q (.load 2 true (.t 2)))
  (.op (some 73) none (.call (.c (.one (.p (.fn fi_elem_One [] [])))) [(.c (.one (.p (.int .i64 23)))), (.t 72)])
  (.op (some 71) none (.q (.mov (.t 73)))
  (.op (some 74) none (.q (.extr (.t 71) 0))
  (.op (some 75) none (.q (.extr (.t 71) 1))
  (.op (some 16) none (.n (.alloc [.nils, .nils]))
  (.op none none (.s (.store 2 (.t 16) (.t 74)))
  (.op (some 17) none (.q (.mov (.t 75)))
  .nil)))))))) [2, 5, 6, 7, 8, 9, 10, 11, 13, 14, 15, 16, 17] [2, 3, 6, 8, 10, 12, 14, 16, 49])
 (.seq (.region none (.op (some 77) none (.q (.load 2 true (.t 16)))
  (.op (some 78) none (.q (.load 2 true (.t 16)))
  (.op (some 79) none (.call (.c (.one (.p (.fn fi_elem_Two [] [])))) [(.c (.one (.p (.int .i64 12)))), (.t 77), (.t 78)])
  (.op (some 76) none (.q (.mov (.t 79)))
  (.op (some 80) none (.q (.extr (.t 76) 0))
  (.op (some 81) none (.q (.extr (.t 76) 1))
  (.op (some 18) none (.n (.alloc [.nils, .nils]))
  (.op none none (.s (.store 2 (.t 18) (.t 80)))
  (.op (some 19) none (.q (.mov (.t 81)))
  .nil))))))))) [2, 5, 6, 7, 8, 9, 10, 11, 13, 14, 15, 17, 18, 19] [2, 3, 6, 8, 10, 12, 14, 16, 18, 49])
 (.seq (.seq (.region none (.op (some 82) none (.q (.mov (.t 17)))
  (.op (some 83) none (.q (.bin .eql (.t 82) (.c (.one (.p (.int .i64 0))))))
  (.op (some 84) none (.q (.mov (.t 83)))
  (.sc 96 84 true 95 none
  (.op (some 85) (some (84, true)) (.q (.mov (.t 19)))
  (.op (some 86) (some (84, true)) (.q (.bin .neq (.t 85) (.c (.one (.p (.int .i64 0))))))
  (.op (some 87) (some (84, true)) (.q (.mov (.t 86)))
  (.sc 95 87 false 94 (some (84, true))
  (.op (some 88) (some (87, false)) (.q (.faddr 1 (.t 18)))
  (.op (some 89) (some (87, false)) (.q (.load 1 false (.t 88)))
  (.op (some 90) (some (87, false)) (.q (.len (.t 89)))
  (.op (some 91) (some (87, false)) (.q (.faddr 1 (.t 2)))
  (.op (some 92) (some (87, false)) (.q (.load 1 false (.t 91)))
  (.op (some 93) (some (87, false)) (.q (.len (.t 92)))
  (.op (some 94) (some (87, false)) (.q (.bin .neq (.t 90) (.t 93)))
  .nil)))))))
  .nil))))
  .nil)))) [2, 5, 6, 7, 8, 9, 10, 11, 13, 14, 15, 17, 18, 96] [2, 3, 6, 8, 10, 12, 14, 16, 18, 49])
 (.cond (.t 96) (.seq (.region none (.op (some 4) none (.q (.mov (.c (.one (.p (.bool false))))))
  .nil) [4] [2, 3, 6, 8, 10, 12, 14, 16, 18, 49])
 .ret)
 .skip))
 (.seq (.seq (.region none (.op (some 20) none (.q (.mov (.c (.one (.p (.int .i64 0))))))
  .nil) [2, 5, 6, 7, 8, 9, 10, 11, 13, 14, 15, 17, 18, 20] [2, 3, 6, 8, 10, 12, 14, 16, 18, 49])
 (.block 0 (.loop (.seq (.seq (.region none (.op (some 97) none (.q (.mov (.t 20)))
  (.op (some 98) none (.q (.faddr 1 (.t 2)))
  (.op (some 99) none (.q (.load 1 false (.t 98)))
  (.op (some 100) none (.q (.len (.t 99)))
  (.op (some 101) none (.q (.bin .lss (.t 97) (.t 100)))
  (.op (some 102) none (.q (.mov (.t 101)))
  (.sc 105 102 true 104 none
  (.op (some 103) (some (102, true)) (.q (.mov (.t 17)))
  (.op (some 104) (some (102, true)) (.q (.bin .eql (.t 103) (.c (.one (.p (.int .i64 0))))))
  .nil))
  .nil))))))) [2, 5, 6, 7, 8, 9, 10, 11, 13, 14, 15, 17, 18, 20, 105] [2, 3, 6, 8, 10, 12, 14, 16, 18, 49])
 (.cond (.t 105) .skip
 (.exit 0)))
 (.seq (.block 1 (.seq (.region (some [[], [], [0, 1], [], [], [], [], [], [], [7, 8], [], [], [7, 8, 9, 10, 11], [7, 8, 9, 10, 11], [7, 8, 9, 10, 11, 12, 13], [7, 8, 9, 10, 11], [7, 8, 9, 10, 11], [], []]) (.op (some 108) none (.q (.faddr 1 (.t 2)))
  (.op (some 109) none (.q (.load 1 false (.t 108)))
  (.op (some 110) none (.q (.mov (.t 20)))
  (.op (some 111) none (.q (.iaddr 1 (.t 109) (.t 110)))
  (.op (some 112) none (.q (.load 1 false (.t 111)))
  (.op (some 113) none (.q (.bin .lss (.t 112) (.c (.one (.p (.int .i64 0))))))
  (.op (some 114) none (.q (.mov (.t 113)))
  (.sc 126 114 false 125 none
  (.op (some 115) (some (114, false)) (.q (.faddr 1 (.t 18)))
  (.op (some 116) (some (114, false)) (.q (.load 1 false (.t 115)))
  (.op (some 117) (some (114, false)) (.q (.mov (.t 20)))
  (.op (some 118) (some (114, false)) (.q (.iaddr 1 (.t 116) (.t 117)))
  (.op (some 119) (some (114, false)) (.q (.load 1 false (.t 118)))
  (.op (some 120) (some (114, false)) (.q (.faddr 1 (.t 2)))
  (.op (some 121) (some (114, false)) (.q (.load 1 false (.t 120)))
  (.op (some 122) (some (114, false)) (.q (.mov (.t 20)))
  (.op (some 123) (some (114, false)) (.q (.iaddr 1 (.t 121) (.t 122)))
  (.op (some 124) (some (114, false)) (.q (.load 1 false (.t 123)))
  (.op (some 125) (some (114, false)) (.q (.bin .gtr (.t 119) (.t 124)))
  .nil)))))))))))
  .nil)))))))) [2, 5, 6, 7, 8, 9, 10, 11, 13, 14, 15, 17, 18, 20, 126] [2, 3, 6, 8, 10, 12, 14, 16, 18, 49])
 (.cond (.t 126) (.seq (.region none (.op (some 4) none (.q (.mov (.c (.one (.p (.bool false))))))
  .nil) [4] [2, 3, 6, 8, 10, 12, 14, 16, 18, 49])
 .ret)
 .skip)))
 (.region none (.op (some 106) none (.q (.mov (.t 20)))
  (.op (some 107) none (.q (.bin .add (.t 106) (.c (.one (.p (.int .i64 1))))))
  (.op (some 20) none (.q (.mov (.t 107)))
  .nil))) [2, 5, 6, 7, 8, 9, 10, 11, 13, 14, 15, 17, 18, 20] [2, 3, 6, 8, 10, 12, 14, 16, 18, 49]))))))
 (.seq (.region none (.op (some 127) none (.q (.mov (.t 5)))
  (.op (some 128) none (.q (.mov (.t 127)))
  (.sc 132 128 true 131 none
  (.op (some 129) (some (128, true)) (.q (.mov (.t 7)))
  (.op (some 130) (some (128, true)) (.q (.mov (.t 9)))
  (.op (some 131) (some (128, true)) (.q (.bin .eql (.t 129) (.t 130)))
  .nil)))
  (.op (some 133) none (.q (.mov (.t 132)))
  (.sc 137 133 true 136 none
  (.op (some 134) (some (133, true)) (.q (.load 2 true (.t 6)))
  (.op (some 135) (some (133, true)) (.q (.load 2 true (.t 8)))
  (.op (some 136) (some (133, true)) (.call (.c (.one (.p (.fn fi_fullerref03_Same [] [])))) [(.t 134), (.t 135)])
  .nil)))
  (.op (some 138) none (.q (.mov (.t 137)))
  (.sc 154 138 true 153 none
  (.op (some 139) (some (138, true)) (.q (.mov (.t 11)))
  (.op (some 140) (some (138, true)) (.q (.bin .neq (.t 139) (.c (.one (.p (.int .i64 0))))))
  (.op (some 141) (some (138, true)) (.q (.mov (.t 140)))
  (.sc 144 141 false 143 (some (138, true))
  (.op (some 142) (some (141, false)) (.q (.mov (.t 13)))
  (.op (some 143) (some (141, false)) (.q (.bin .neq (.t 142) (.c (.one (.p (.int .i64 0))))))
  .nil))
  (.op (some 145) (some (138, true)) (.q (.mov (.t 144)))
  (.sc 153 145 false 152 (some (138, true))
  (.op (some 146) (some (145, false)) (.q (.mov (.t 15)))
  (.op (some 147) (some (145, false)) (.q (.bin .eql (.t 146) (.c (.one (.p (.int .i64 0))))))
  (.op (some 148) (some (145, false)) (.q (.mov (.t 147)))
  (.sc 152 148 true 151 (some (145, false))
  (.op (some 149) (some (148, true)) (.q (.load 2 true (.t 10)))
  (.op (some 150) (some (148, true)) (.q (.load 2 true (.t 14)))
  (.op (some 151) (some (148, true)) (.call (.c (.one (.p (.fn fi_fullerref03_Same [] [])))) [(.t 149), (.t 150)])
  .nil)))
  .nil))))
  .nil))))))
  (.op (some 4) none (.q (.mov (.t 154)))
  .nil)))))))) [4] [2, 3, 6, 8, 10, 12, 14, 16, 18, 49])
 .ret)))))))))))))
theorem is_fullerlaw04_ElemDoubles : compC Try.prog (Try.f13.body.getD .skip) = some a_fullerlaw04_ElemDoubles.erase := by kernel_rfl
theorem ok_fullerlaw04_ElemDoubles : a_fullerlaw04_ElemDoubles.ok 155 = true := by kernel_rfl
theorem rv_fullerlaw04_ElemDoubles : compRV Try.prog Try.f13.results.toList = some [.tmp 4] := by kernel_rfl
theorem pure_fullerlaw04_ElemDoubles {ds : List DV} {r : DV} (hn : ds.length ≤ 155) (h : ∀ (G : AM.Ground), G.P = Try.prog → G.nt = 155 → T G Fence.wide 0 a_fullerlaw04_ElemDoubles (AM.Ends [.tmp 4] r) { env := initE 0 ds, σ := [] }) : PureC Try.prog fi_fullerlaw04_ElemDoubles ds r :=
  pureC_of Try.call13 Try.func13 (by rfl) is_fullerlaw04_ElemDoubles ok_fullerlaw04_ElemDoubles rv_fullerlaw04_ElemDoubles hn h

def a_fix_Sqrt : ACode := (.seq (.region none (.op (some 2) none (.q (.mov (.c (.one (.p (.int .i64 0))))))
  (.op (some 3) none (.q (.mov (.c (.one (.p (.int .i64 0))))))
  .nil)) [0] [])
 (.seq (.seq (.region none (.op (some 11) none (.q (.mov (.t 0)))
  (.op (some 12) none (.q (.bin .lss (.t 11) (.c (.one (.p (.int .i64 0))))))
  .nil)) [0, 12] [])
 (.cond (.t 12) (.seq (.region none (.op (some 2) none (.q (.mov (.c (.one (.p (.int .i64 0))))))
  (.op (some 3) none (.q (.mov (.c (.one (.p (.int .i64 12))))))
  .nil)) [2, 3] [])
 .ret)
 .skip))
 (.seq (.region none (.op (some 4) none (.q (.mov (.c (.one (.p (.int .u64 0))))))
  (.op (some 5) none (.q (.mov (.c (.one (.p (.int .u64 281474976710656))))))
  .nil)) [0, 4, 5] [])
 (.seq (.block 0 (.loop (.seq (.seq (.region none (.op (some 13) none (.q (.mov (.t 5)))
  (.op (some 14) none (.q (.mov (.t 4)))
  (.op (some 15) none (.q (.bin .sub (.t 13) (.t 14)))
  (.op (some 16) none (.q (.bin .gtr (.t 15) (.c (.one (.p (.int .u64 1))))))
  .nil)))) [0, 4, 5, 16] [])
 (.cond (.t 16) .skip
 (.exit 0)))
 (.block 1 (.seq (.region none (.op (some 17) none (.q (.mov (.t 4)))
  (.op (some 18) none (.q (.mov (.t 5)))
  (.op (some 19) none (.q (.bin .add (.t 17) (.t 18)))
  (.op (some 20) none (.q (.bin .quo (.t 19) (.c (.one (.p (.int .u64 2))))))
  (.op (some 6) none (.q (.mov (.t 20)))
  .nil))))) [0, 4, 5, 6] [])
 (.seq (.region none (.op (some 22) none (.q (.mov (.t 6)))
  (.op (some 23) none (.q (.mov (.t 6)))
  (.op (some 24) none (.call (.c (.one (.p (.fn fi_math_bits_Mul64 [] [])))) [(.t 22), (.t 23)])
  (.op (some 21) none (.q (.mov (.t 24)))
  (.op (some 25) none (.q (.extr (.t 21) 0))
  (.op (some 26) none (.q (.extr (.t 21) 1))
  (.op (some 7) none (.q (.mov (.t 25)))
  (.op (some 8) none (.q (.mov (.t 26)))
  .nil)))))))) [0, 4, 5, 6, 7, 8] [])
 (.seq (.region none (.op (some 28) none (.q (.mov (.t 0)))
  (.op (some 29) none (.q (.conv .u64 (.t 28)))
  (.op (some 30) none (.q (.bin .shl (.t 29) (.c (.one (.p (.int .u64 32))))))
  (.op (some 31) none (.q (.mov (.t 8)))
  (.op (some 32) none (.q (.carry true (.t 30) (.t 31) (.c (.one (.p (.int .u64 0))))))
  (.op (some 27) none (.q (.mov (.t 32)))
  (.op (some 33) none (.q (.extr (.t 27) 0))
  (.op (some 34) none (.q (.extr (.t 27) 1))
  (.op (some 9) none (.q (.mov (.t 33)))
  (.op (some 10) none (.q (.mov (.t 34)))
  .nil)))))))))) [0, 4, 5, 6, 7, 10] [])
 (.seq (.region none (.op (some 36) none (.q (.mov (.t 0)))
  (.op (some 37) none (.q (.conv .u64 (.t 36)))
  (.op (some 38) none (.q (.bin .shr (.t 37) (.c (.one (.p (.int .u64 32))))))
  (.op (some 39) none (.q (.mov (.t 7)))
  (.op (some 40) none (.q (.mov (.t 10)))
  (.op (some 41) none (.q (.carry true (.t 38) (.t 39) (.t 40)))
  (.op (some 35) none (.q (.mov (.t 41)))
  (.op (some 42) none (.q (.extr (.t 35) 0))
  (.op (some 43) none (.q (.extr (.t 35) 1))
  (.op (some 10) none (.q (.mov (.t 43)))
  .nil)))))))))) [0, 4, 5, 6, 10] [])
 (.seq (.region none (.op (some 44) none (.q (.mov (.t 10)))
  (.op (some 45) none (.q (.bin .gtr (.t 44) (.c (.one (.p (.int .u64 0))))))
  .nil)) [0, 4, 5, 6, 45] [])
 (.cond (.t 45) (.region none (.op (some 46) none (.q (.mov (.t 6)))
  (.op (some 5) none (.q (.mov (.t 46)))
  .nil)) [0, 4, 5] [])
 (.region none (.op (some 47) none (.q (.mov (.t 6)))
  (.op (some 4) none (.q (.mov (.t 47)))
  .nil)) [0, 4, 5] [])))))))))))
 (.seq (.region none (.op (some 48) none (.q (.mov (.t 4)))
  (.op (some 49) none (.q (.conv .i64 (.t 48)))
  (.op (some 2) none (.q (.mov (.t 49)))
  (.op (some 3) none (.q (.mov (.c (.one (.p (.int .i64 0))))))
  .nil)))) [2, 3] [])
 .ret)))))
theorem is_fix_Sqrt : compC Try.prog (Try.f128.body.getD .skip) = some a_fix_Sqrt.erase := by kernel_rfl
theorem ok_fix_Sqrt : a_fix_Sqrt.ok 50 = true := by kernel_rfl
theorem rv_fix_Sqrt : compRV Try.prog Try.f128.results.toList = some [.tmp 2, .tmp 3] := by kernel_rfl
theorem pure_fix_Sqrt {ds : List DV} {r : DV} (hn : ds.length ≤ 50) (h : ∀ (G : AM.Ground), G.P = Try.prog → G.nt = 50 → T G Fence.wide 0 a_fix_Sqrt (AM.Ends [.tmp 2, .tmp 3] r) { env := initE 0 ds, σ := [] }) : PureC Try.prog fi_fix_Sqrt ds r :=
  pureC_of Try.call128 Try.func128 (by rfl) is_fix_Sqrt ok_fix_Sqrt rv_fix_Sqrt hn h

end Go.AM

namespace Go.AM
open Go Go.Proofs
set_option linter.unusedSimpArgs false
set_option linter.unusedVariables false

theorem emod_split (p b m : Int) (hb : 0 < b) (hm : 0 < m) : p % (m * b) = (p / b) % m * b + p % b := by
  have h1 := Int.mul_ediv_add_emod p b
  have h2 := Int.mul_ediv_add_emod (p / b) m
  have h3 := Int.emod_nonneg p (b := b) (by omega)
  have h4 := Int.emod_lt_of_pos p hb
  have h5 := Int.emod_nonneg (p / b) (b := m) (by omega)
  have h6 := Int.emod_lt_of_pos (p / b) hm
  generalize p / b / m = q at h2
  generalize (p / b) % m = r at h2 h5 h6 ⊢
  generalize p % b = t at h1 h3 h4 ⊢
  rw [← h2] at h1
  have e : p = (m * b) * q + (r * b + t) := by
    rw [← h1, Int.mul_add, Int.mul_comm b (m * q), Int.mul_assoc, Int.mul_comm q b, Int.mul_comm b r, ← Int.mul_assoc, Int.add_assoc]
  rw [e, Int.mul_add_emod_self_left]
  have h7 : 0 ≤ r * b := Int.mul_nonneg h5 (by omega)
  have h8 : (r + 1) * b ≤ m * b := Int.mul_le_mul_of_nonneg_right (by omega) (by omega)
  rw [Int.add_mul] at h8
  exact Int.emod_eq_of_lt (by omega) (by omega)

theorem pl_ix : ∀ {s : List Int} {p : Int}, Sides s → pl s (ix s p) 0 = p % prd s
  | [], p, _ => by simp [pl, prd, Int.emod_one]
  | m :: s, p, h => by
    have hm := h.head
    have hp := prd_pos h.tail
    simp only [pl, ix, prd]
    rw [pl_add (ix_in h.tail), pl_ix h.tail, emod_split p (prd s) m (by omega) (by omega)]
    simp

theorem pl_ix_lt {s : List Int} {p : Int} (h : Sides s) (h0 : 0 ≤ p) (h1 : p < prd s) : pl s (ix s p) 0 = p := by
  rw [pl_ix h, Int.emod_eq_of_lt h0 h1]
end Go.AM

namespace Go.AM
open Go Go.Proofs
set_option linter.unusedSimpArgs false
set_option linter.unusedVariables false

theorem mk_self {s d : List Int} (h : checkT s d = true) : mk s (fun x => (atF s d x).1) = d := by
  have hs := (checkT_iff.1 h).1
  have hd := (checkT_iff.1 h).2
  apply List.ext_getElem?
  intro p
  by_cases hp : (p : Int) < prd s
  · rw [mk_get hs _ hp, atF_ok h (ix_in hs.2.1), pl_ix_lt hs.2.1 (by omega) hp]
    simp only [Int.toNat_natCast]
    rw [List.getElem?_eq_getElem (by omega)]
    rfl
  · have h1 := mk_len hs fun x => (atF s d x).1
    rw [List.getElem?_eq_none (by omega), List.getElem?_eq_none (by omega)]

end Go.AM

namespace Go.AM
open Go Go.Proofs
set_option maxRecDepth 100000
set_option maxHeartbeats 4000000
set_option linter.unusedSimpArgs false
set_option linter.unusedVariables false

theorem coll_congr {f g : Nat → Int × Int} : ∀ {n a : Nat} {acc : List Int}, (∀ k, k < n → f (a + k) = g (a + k)) → coll f n a acc = coll g n a acc
  | 0, _, _, _ => rfl
  | n + 1, a, acc, h => by
    have h0 := h 0 (by omega)
    simp only [Nat.add_zero] at h0
    simp only [coll, h0]
    have ih := coll_congr (f := f) (g := g) (n := n) (a := a + 1) (acc := acc ++ [(g a).1]) fun k hk => by have := h (k + 1) (by omega); rwa [show a + (k + 1) = a + 1 + k from by omega] at this
    rw [ih]

end Go.AM

namespace Go.AM
open Go Go.Proofs
set_option maxRecDepth 100000
set_option maxHeartbeats 4000000
set_option linter.unusedSimpArgs false
set_option linter.unusedVariables false

theorem JoinOk.uniq {a b r r' : List Int} (h : JoinOk a b r) (k : JoinOk a b r') : r = r' := by
  have := h.eq
  rw [k.eq] at this
  exact (congrArg Prod.fst this).symm
theorem spread_self {s d : List Int} (h : checkT s d = true) : spreadD s d s = d := by
  have hs := (checkT_iff.1 h).1
  unfold spreadD
  rw [mk_congr hs (g' := fun x => (atF s d x).1) fun x hx => by
    have hxl := hx.length
    unfold fromX
    rw [← hxl, Nat.sub_self, List.drop_zero, clip_self hx]]
  exact mk_self h
end Go.AM

namespace Go.AM
open Go Go.Proofs
set_option maxRecDepth 100000
set_option maxHeartbeats 4000000
set_option linter.unusedSimpArgs false
set_option linter.unusedVariables false

theorem one_range {W : Int → Int × Int} (hW : ∀ a, I64 (W a).1) (s d : List Int) : I64s (oneF W s d).1.2 := by
  unfold oneF
  split
  · exact each_range fun p => hW _
  · exact I64s.nil

theorem rng_val {a : Int} (h : (rng a).2 = 0) : rng a = (a, 0) ∧ I64 a := by
  unfold rng at h ⊢; split at h <;> simp_all

end Go.AM

namespace Go.AM
open Go Go.Proofs
set_option maxRecDepth 100000
set_option maxHeartbeats 4000000
set_option linter.unusedSimpArgs false
set_option linter.unusedVariables false

/-- what is tried, and what is left: v1, v0: the divisor's halves; u: what there is, u1: the next half -/
structure Knuth (v1 v0 u u1 : Nat) : Prop where
  h1 : 2147483648 ≤ v1
  h2 : v1 < 4294967296
  h3 : v0 < 4294967296
  h4 : u < v1 * 4294967296 + v0
  h5 : u1 < 4294967296
def Knuth.q {v1 v0 u u1 : Nat} (_ : Knuth v1 v0 u u1) : Nat := (u * 4294967296 + u1) / (v1 * 4294967296 + v0)
/-- what is left behind a digit -/
theorem Knuth.rest {v1 v0 u u1 : Nat} (h : Knuth v1 v0 u u1) : u * 4294967296 + u1 = h.q * (v1 * 4294967296 + v0) + (u * 4294967296 + u1) % (v1 * 4294967296 + v0) ∧ (u * 4294967296 + u1) % (v1 * 4294967296 + v0) < v1 * 4294967296 + v0 := by
  have h1 := h.h1
  refine ⟨?_, Nat.mod_lt _ (by omega)⟩
  unfold Knuth.q
  have := Nat.div_add_mod (u * 4294967296 + u1) (v1 * 4294967296 + v0)
  rw [Nat.mul_comm] at this
  exact this.symm

end Go.AM

namespace Go.AM
open Go Go.Proofs
set_option maxRecDepth 100000
set_option maxHeartbeats 4000000
set_option linter.unusedSimpArgs false
set_option linter.unusedVariables false

theorem map_gt {d : List Int} {n : Nat} (h : d.length = n) (f : Int → Int) : ((List.range n).map fun p => f (gt d p)) = d.map f := by
  subst h
  apply List.ext_getElem?
  intro i
  by_cases hi : i < d.length
  · rw [List.getElem?_map, List.getElem?_map, List.getElem?_range hi, List.getElem?_eq_getElem hi]
    simp only [Option.map_some]
    congr 1
    unfold gt
    rw [List.getElem?_eq_getElem hi]; rfl
  · rw [List.getElem?_eq_none (by simp; omega), List.getElem?_eq_none (by simp; omega)]
theorem check_size {s d : List Int} (h : checkT s d = true) : d.length = (sizeS s).toNat := by
  obtain ⟨h1, h2⟩ := checkT_iff.1 h
  have := sizeS_ok h1
  omega
theorem gt_mem {d : List Int} {p : Nat} (h : p < d.length) : gt d p ∈ d := List.mem_of_getElem? (gt_some h)
theorem one_map {W : Int → Int × Int} {s d : List Int} (h : checkT s d = true) (hW : ∀ v ∈ d, (W v).2 = 0) : oneF W s d = ((s, d.map fun v => (W v).1), 0) := by
  have hl := check_size h
  unfold oneF
  rw [if_pos h, eachF_ok (fun p hp => hW _ (gt_mem (by omega))), map_gt hl fun v => (W v).1]
theorem op1_inv {W : Int → Int × Int} {s d : List Int} (h : (oneF W s d).2 = 0) : checkT s d = true ∧ (∀ v ∈ d, (W v).2 = 0) := by
  by_cases hc : checkT s d = true
  · refine ⟨hc, fun v hv => ?_⟩
    have hl := check_size hc
    unfold oneF at h
    rw [if_pos hc] at h
    obtain ⟨p, hp, e⟩ := List.getElem_of_mem hv
    have := eachF_inv h p (by omega)
    have e2 : gt d p = v := by unfold gt; rw [List.getElem?_eq_getElem hp, e]; rfl
    rwa [e2] at this
  · unfold oneF at h; rw [if_neg hc] at h; simp [bad] at h
theorem check_map {s d : List Int} (h : checkT s d = true) (f : Int → Int) : checkT s (d.map f) = true := by
  obtain ⟨h1, h2⟩ := checkT_iff.1 h
  exact checkT_iff.2 ⟨h1, by simpa using h2⟩

theorem val_nil (v : Int) (x : List Int) : val [] [v] (fromX [] x) = v := by
  have : fromX [] x = [] := rfl
  rw [this]; rfl
end Go.AM

namespace Go.AM
open Go Go.Proofs
set_option maxRecDepth 100000
set_option maxHeartbeats 4000000
set_option linter.unusedSimpArgs false
set_option linter.unusedVariables false

/-- a root, bit by bit -/
def sq (N : Nat) : Nat → Nat → Nat
  | 0, r => r
  | k + 1, r => if (r + 2 ^ k) * (r + 2 ^ k) ≤ N then sq N k (r + 2 ^ k) else sq N k r
def rootN (a : Int) : Nat := sq (a.toNat * 4294967296) 48 0
def fSqrt (a : Int) : Int × Int := if a < 0 then (0, 12) else ((rootN a : Int), 0)
theorem sq_le {N : Nat} : ∀ {k r : Nat}, r * r ≤ N → sq N k r * sq N k r ≤ N
  | 0, _, h => h
  | k + 1, r, h => by
    simp only [sq]
    split
    · rename_i h2; exact sq_le h2
    · exact sq_le h
theorem sq_bound {N : Nat} : ∀ {k r : Nat}, sq N k r < r + 2 ^ k
  | 0, r => by simp [sq]
  | k + 1, r => by
    have hp : 2 ^ (k + 1) = 2 ^ k + 2 ^ k := by rw [Nat.pow_succ]; omega
    simp only [sq]
    split
    · have := sq_bound (N := N) (k := k) (r := r + 2 ^ k); omega
    · have := sq_bound (N := N) (k := k) (r := r)
      have hp2 := Nat.two_pow_pos k
      omega
theorem rootN_lt (a : Int) : rootN a < 281474976710656 := by
  have := sq_bound (N := a.toNat * 4294967296) (k := 48) (r := 0)
  simpa [rootN] using this
theorem fSqrt_range (a : Int) : I64 (fSqrt a).1 := by
  unfold fSqrt
  split
  · exact ⟨by decide, by decide⟩
  · have := rootN_lt a
    unfold I64
    simp only
    omega

/-- below, word by word -/
theorem cmp_words {A m : Nat} : ∃ h l Nh Nl : Nat, h = m * m / 18446744073709551616 ∧ l = m * m % 18446744073709551616 ∧ Nh = A / 4294967296 ∧ Nl = A % 4294967296 * 4294967296 ∧
    ((Nl < l → (Nh < h + 1 ↔ A * 4294967296 < m * m)) ∧ (¬ Nl < l → (Nh < h ↔ A * 4294967296 < m * m))) := by
  refine ⟨_, _, _, _, rfl, rfl, rfl, rfl, ?_⟩
  generalize m * m = M
  omega

theorem p_fix_Sqrt {a : Int} (ha : I64 a) : PureC Try.prog fi_fix_Sqrt [dN a] (dNE (fSqrt a)) := by
  refine pure_fix_Sqrt (by simp) fun G hP hn => ?_
  unfold a_fix_Sqrt
  by_cases h0 : a < 0
  · have hf : fSqrt a = (0, 12) := if_pos h0
    repeat' (first | apply T_then | apply then_ret | apply then_exit | apply then_goto | apply rnd_exit | apply rnd_ret | apply rnd_goto | apply noGo_normal | apply noGo_ret | apply noGo_exit | apply jmp_normal | apply jmp_ret | apply jmp_exit | apply jmp_goto | apply inB_normal | apply inB_ret | apply inB_goto | apply inB_exit | refine inB_exit_ne rfl ?_ | ((first | apply T_srK fw | apply T_regK fw); · ((try simp only [TOps.flat, List.cons_append, List.nil_append]); repeat (first | apply X_g0 | apply X_g | apply S_keep | apply X_skip | apply X_skipN | apply X_q | apply X_st | apply X_n | apply X_s | apply SKs0 | apply SKs2 | apply SKs1 | refine ⟨⟨rfl, rfl⟩, ?_⟩ | refine ⟨⟨rfl, ?_⟩, ?_⟩ | refine ⟨?_, ?_⟩ | (· (try simp only [go_sem, seval, reduceIte, ↓reduceIte, Bool.not_eq_true, reduceCtorEq, beq_false, beq_true, hn, hP, h0]); first | done | rfl)))) | apply T_seq | apply T_block | refine T_scopeJ 0 rfl ?_ | apply T_scope | apply T_goto | apply T_ret | apply T_skip | apply T_exit | apply T_label | refine T_condT rfl ?_ | refine T_condF rfl ?_ | refine T_condD rfl (fun _ => ?_) (fun _ => ?_) | refine T_cond rfl (fun _ => ?_) (fun _ => ?_))
    exact ends_ret rfl rfl rfl (by rw [hf]; rfl)
  have hf : fSqrt a = ((rootN a : Int), 0) := if_neg h0
  have hrt := rootN_lt a
  unfold rootN at hf hrt
  obtain ⟨A, rfl⟩ := Int.eq_ofNat_of_zero_le (by omega : 0 ≤ a)
  rw [Int.toNat_natCast] at hf hrt
  have hA : A < 9223372036854775808 := by unfold I64 at ha; omega
  have wa : IntKind.u64.wrap (A : Int) = (A : Int) := u64_nat (by omega)
  have sh := shl32 A
  have sr := shr32 A
  obtain ⟨Tv, hT⟩ : ∃ Tv, Tv = sq (A * 4294967296) 48 0 := ⟨_, rfl⟩
  rw [← hT] at hf hrt
  repeat' (first | apply T_then | apply then_ret | apply then_exit | apply then_goto | apply rnd_exit | apply rnd_ret | apply rnd_goto | apply noGo_normal | apply noGo_ret | apply noGo_exit | apply jmp_normal | apply jmp_ret | apply jmp_exit | apply jmp_goto | apply inB_normal | apply inB_ret | apply inB_goto | apply inB_exit | refine inB_exit_ne rfl ?_ | ((first | apply T_srK fw | apply T_regK fw); · ((try simp only [TOps.flat, List.cons_append, List.nil_append]); repeat (first | apply X_g0 | apply X_g | apply S_keep | apply X_skip | apply X_skipN | apply X_q | apply X_st | apply X_n | apply X_s | apply SKs0 | apply SKs2 | apply SKs1 | refine ⟨⟨rfl, rfl⟩, ?_⟩ | refine ⟨⟨rfl, ?_⟩, ?_⟩ | refine ⟨?_, ?_⟩ | (· (try simp only [go_sem, seval, reduceIte, ↓reduceIte, Bool.not_eq_true, reduceCtorEq, beq_false, beq_true, hn, hP, h0]); first | done | rfl)))) | apply T_seq | apply T_block | refine T_scopeJ 0 rfl ?_ | apply T_scope | apply T_goto | apply T_ret | apply T_skip | apply T_exit | apply T_label | refine T_condT rfl ?_ | refine T_condF rfl ?_ | refine T_condD rfl (fun _ => ?_) (fun _ => ?_) | refine T_cond rfl (fun _ => ?_) (fun _ => ?_))
  refine T_for 48 (fun i (r : Nat) => { env := [(0, .one (.p (.int .i64 A))), (4, .one (.p (.int .u64 r))), (5, .one (.p (.int .u64 ((r + 2 ^ (48 - i) : Nat) : Int))))], σ := [] })
    (fun i r => r + 2 ^ (48 - i) ≤ 281474976710656 ∧ sq (A * 4294967296) (48 - i) r = Tv) 0 ⟨by decide, by rw [hT]⟩ (.refl _ _) fun i r hi hr => ?_
  obtain ⟨hb, hsq⟩ := hr
  clear hT
  by_cases hlt : i < 48
  · obtain ⟨w, hw⟩ : ∃ w, w = 2 ^ (48 - (i + 1)) := ⟨_, rfl⟩
    have hp : 2 ^ (48 - i) = 2 * w := by rw [hw, show 48 - i = (48 - (i + 1)) + 1 from by omega, Nat.pow_succ]; omega
    have hw1 : 1 ≤ w := by rw [hw]; exact Nat.two_pow_pos _
    rw [show 48 - i = (48 - (i + 1)) + 1 from by omega] at hsq
    simp only [sq] at hsq
    rw [← hw] at hsq
    rw [hp] at hb ⊢
    have s1 : IntKind.u64.wrap (((r + 2 * w : Nat) : Int) - (r : Int)) = ((2 * w : Nat) : Int) := by
      rw [show ((r + 2 * w : Nat) : Int) - (r : Int) = ((2 * w : Nat) : Int) from by omega]; exact u64_nat (by omega)
    have c1 : ((2 * w : Nat) : Int) > 1 := by omega
    have s2 : IntKind.u64.wrap ((r : Int) + ((r + 2 * w : Nat) : Int)) = ((2 * (r + w) : Nat) : Int) := by
      rw [show (r : Int) + ((r + 2 * w : Nat) : Int) = ((2 * (r + w) : Nat) : Int) from by omega]; exact u64_nat (by omega)
    have s3 : IntKind.u64.wrap (((2 * (r + w) : Nat) : Int).tdiv 2) = ((r + w : Nat) : Int) := by
      rw [Int.tdiv_eq_ediv_of_nonneg (by omega), show ((2 * (r + w) : Nat) : Int) / 2 = ((r + w : Nat) : Int) from by omega]
      exact u64_nat (by omega)
    have km := p_bits_Mul64 (x := r + w) (y := r + w) (by omega) (by omega)
    obtain ⟨h, l, Nh, Nl, e1, e2, e3, e4, e5, e6⟩ := cmp_words (A := A) (m := r + w)
    rw [← e1, ← e2] at km
    rw [← e4] at sh
    rw [← e3] at sr
    have nx1 : r + w + 2 ^ (48 - (i + 1)) = r + 2 * w := by rw [← hw]; omega
    have nx0 : r + 2 ^ (48 - (i + 1)) = r + w := by rw [← hw]
    have lo0 : A * 4294967296 < (r + w) * (r + w) → sq (A * 4294967296) (48 - (i + 1)) r = Tv := fun q => by rw [if_neg (Nat.not_le_of_lt q)] at hsq; exact hsq
    have lo1 : ¬ A * 4294967296 < (r + w) * (r + w) → sq (A * 4294967296) (48 - (i + 1)) (r + w) = Tv := fun q => by rw [if_pos (Nat.le_of_not_lt q)] at hsq; exact hsq
    clear e1 e2 e3 e4 hsq
    generalize (A * 4294967296 < (r + w) * (r + w)) = below at *
    by_cases b0 : Nl < l
    · have e5 := e5 b0
      by_cases b1 : Nh < h + 1
      · repeat' (first | apply T_then | apply then_ret | apply then_exit | apply then_goto | apply rnd_exit | apply rnd_ret | apply rnd_goto | apply noGo_normal | apply noGo_ret | apply noGo_exit | apply jmp_normal | apply jmp_ret | apply jmp_exit | apply jmp_goto | apply inB_normal | apply inB_ret | apply inB_goto | apply inB_exit | refine inB_exit_ne rfl ?_ | ((first | apply T_srK fw | apply T_regK fw); · ((try simp only [TOps.flat, List.cons_append, List.nil_append]); repeat (first | apply X_g0 | apply X_g | apply S_keep | apply X_skip | apply X_skipN | refine X_call ?_ ⟨_, _, _, _, _, _, rfl, rfl, rfl, by rw [hP]; exact km⟩ ?_ | apply X_q | apply X_st | apply X_n | apply X_s | apply SKs0 | apply SKs2 | apply SKs1 | refine ⟨⟨rfl, rfl⟩, ?_⟩ | refine ⟨⟨rfl, ?_⟩, ?_⟩ | refine ⟨?_, ?_⟩ | (· (try simp only [go_sem, seval, reduceIte, ↓reduceIte, Bool.not_eq_true, reduceCtorEq, beq_false, beq_true, hn, hP, wa, sh, sr, s1, c1, s2, s3, b0, b1]); first | done | rfl)))) | apply T_seq | apply T_block | refine T_scopeJ 0 rfl ?_ | apply T_scope | apply T_goto | apply T_ret | apply T_skip | apply T_exit | apply T_label | refine T_condT rfl ?_ | refine T_condF rfl ?_ | refine T_condD rfl (fun _ => ?_) (fun _ => ?_) | refine T_cond rfl (fun _ => ?_) (fun _ => ?_))
        exact rnd_next hlt r ⟨by rw [nx0]; omega, lo0 (e5.1 b1)⟩ (by rw [nx0]; exact .refl _ _)
      · repeat' (first | apply T_then | apply then_ret | apply then_exit | apply then_goto | apply rnd_exit | apply rnd_ret | apply rnd_goto | apply noGo_normal | apply noGo_ret | apply noGo_exit | apply jmp_normal | apply jmp_ret | apply jmp_exit | apply jmp_goto | apply inB_normal | apply inB_ret | apply inB_goto | apply inB_exit | refine inB_exit_ne rfl ?_ | ((first | apply T_srK fw | apply T_regK fw); · ((try simp only [TOps.flat, List.cons_append, List.nil_append]); repeat (first | apply X_g0 | apply X_g | apply S_keep | apply X_skip | apply X_skipN | refine X_call ?_ ⟨_, _, _, _, _, _, rfl, rfl, rfl, by rw [hP]; exact km⟩ ?_ | apply X_q | apply X_st | apply X_n | apply X_s | apply SKs0 | apply SKs2 | apply SKs1 | refine ⟨⟨rfl, rfl⟩, ?_⟩ | refine ⟨⟨rfl, ?_⟩, ?_⟩ | refine ⟨?_, ?_⟩ | (· (try simp only [go_sem, seval, reduceIte, ↓reduceIte, Bool.not_eq_true, reduceCtorEq, beq_false, beq_true, hn, hP, wa, sh, sr, s1, c1, s2, s3, b0, b1]); first | done | rfl)))) | apply T_seq | apply T_block | refine T_scopeJ 0 rfl ?_ | apply T_scope | apply T_goto | apply T_ret | apply T_skip | apply T_exit | apply T_label | refine T_condT rfl ?_ | refine T_condF rfl ?_ | refine T_condD rfl (fun _ => ?_) (fun _ => ?_) | refine T_cond rfl (fun _ => ?_) (fun _ => ?_))
        exact rnd_next hlt (r + w) ⟨by rw [nx1]; omega, lo1 (fun q => b1 (e5.2 q))⟩ (by rw [nx1]; exact .refl _ _)
    · have e6 := e6 b0
      by_cases b1 : Nh < h
      · repeat' (first | apply T_then | apply then_ret | apply then_exit | apply then_goto | apply rnd_exit | apply rnd_ret | apply rnd_goto | apply noGo_normal | apply noGo_ret | apply noGo_exit | apply jmp_normal | apply jmp_ret | apply jmp_exit | apply jmp_goto | apply inB_normal | apply inB_ret | apply inB_goto | apply inB_exit | refine inB_exit_ne rfl ?_ | ((first | apply T_srK fw | apply T_regK fw); · ((try simp only [TOps.flat, List.cons_append, List.nil_append]); repeat (first | apply X_g0 | apply X_g | apply S_keep | apply X_skip | apply X_skipN | refine X_call ?_ ⟨_, _, _, _, _, _, rfl, rfl, rfl, by rw [hP]; exact km⟩ ?_ | apply X_q | apply X_st | apply X_n | apply X_s | apply SKs0 | apply SKs2 | apply SKs1 | refine ⟨⟨rfl, rfl⟩, ?_⟩ | refine ⟨⟨rfl, ?_⟩, ?_⟩ | refine ⟨?_, ?_⟩ | (· (try simp only [go_sem, seval, reduceIte, ↓reduceIte, Bool.not_eq_true, reduceCtorEq, beq_false, beq_true, hn, hP, wa, sh, sr, s1, c1, s2, s3, b0, b1]); first | done | rfl)))) | apply T_seq | apply T_block | refine T_scopeJ 0 rfl ?_ | apply T_scope | apply T_goto | apply T_ret | apply T_skip | apply T_exit | apply T_label | refine T_condT rfl ?_ | refine T_condF rfl ?_ | refine T_condD rfl (fun _ => ?_) (fun _ => ?_) | refine T_cond rfl (fun _ => ?_) (fun _ => ?_))
        exact rnd_next hlt r ⟨by rw [nx0]; omega, lo0 (e6.1 b1)⟩ (by rw [nx0]; exact .refl _ _)
      · repeat' (first | apply T_then | apply then_ret | apply then_exit | apply then_goto | apply rnd_exit | apply rnd_ret | apply rnd_goto | apply noGo_normal | apply noGo_ret | apply noGo_exit | apply jmp_normal | apply jmp_ret | apply jmp_exit | apply jmp_goto | apply inB_normal | apply inB_ret | apply inB_goto | apply inB_exit | refine inB_exit_ne rfl ?_ | ((first | apply T_srK fw | apply T_regK fw); · ((try simp only [TOps.flat, List.cons_append, List.nil_append]); repeat (first | apply X_g0 | apply X_g | apply S_keep | apply X_skip | apply X_skipN | refine X_call ?_ ⟨_, _, _, _, _, _, rfl, rfl, rfl, by rw [hP]; exact km⟩ ?_ | apply X_q | apply X_st | apply X_n | apply X_s | apply SKs0 | apply SKs2 | apply SKs1 | refine ⟨⟨rfl, rfl⟩, ?_⟩ | refine ⟨⟨rfl, ?_⟩, ?_⟩ | refine ⟨?_, ?_⟩ | (· (try simp only [go_sem, seval, reduceIte, ↓reduceIte, Bool.not_eq_true, reduceCtorEq, beq_false, beq_true, hn, hP, wa, sh, sr, s1, c1, s2, s3, b0, b1]); first | done | rfl)))) | apply T_seq | apply T_block | refine T_scopeJ 0 rfl ?_ | apply T_scope | apply T_goto | apply T_ret | apply T_skip | apply T_exit | apply T_label | refine T_condT rfl ?_ | refine T_condF rfl ?_ | refine T_condD rfl (fun _ => ?_) (fun _ => ?_) | refine T_cond rfl (fun _ => ?_) (fun _ => ?_))
        exact rnd_next hlt (r + w) ⟨by rw [nx1]; omega, lo1 (fun q => b1 (e6.2 q))⟩ (by rw [nx1]; exact .refl _ _)
  · have hie : i = 48 := by omega
    subst hie
    simp only [Nat.sub_self, sq] at hsq
    rw [← hsq] at hf hrt
    have s1 : IntKind.u64.wrap (((r + 2 ^ (48 - 48) : Nat) : Int) - (r : Int)) = 1 := by
      rw [show ((r + 2 ^ (48 - 48) : Nat) : Int) - (r : Int) = ((1 : Nat) : Int) from by omega]; exact u64_nat (by omega)
    have s2 : IntKind.i64.wrap (r : Int) = (r : Int) := wrap_in (by omega) (by omega)
    repeat' (first | apply T_then | apply then_ret | apply then_exit | apply then_goto | apply rnd_exit | apply rnd_ret | apply rnd_goto | apply noGo_normal | apply noGo_ret | apply noGo_exit | apply jmp_normal | apply jmp_ret | apply jmp_exit | apply jmp_goto | apply inB_normal | apply inB_ret | apply inB_goto | apply inB_exit | refine inB_exit_ne rfl ?_ | ((first | apply T_srK fw | apply T_regK fw); · ((try simp only [TOps.flat, List.cons_append, List.nil_append]); repeat (first | apply X_g0 | apply X_g | apply S_keep | apply X_skip | apply X_skipN | apply X_q | apply X_st | apply X_n | apply X_s | apply SKs0 | apply SKs2 | apply SKs1 | refine ⟨⟨rfl, rfl⟩, ?_⟩ | refine ⟨⟨rfl, ?_⟩, ?_⟩ | refine ⟨?_, ?_⟩ | (· (try simp only [go_sem, seval, reduceIte, ↓reduceIte, Bool.not_eq_true, reduceCtorEq, beq_false, beq_true, hn, hP, s1, s2]); first | done | rfl)))) | apply T_seq | apply T_block | refine T_scopeJ 0 rfl ?_ | apply T_scope | apply T_goto | apply T_ret | apply T_skip | apply T_exit | apply T_label | refine T_condT rfl ?_ | refine T_condF rfl ?_ | refine T_condD rfl (fun _ => ?_) (fun _ => ?_) | refine T_cond rfl (fun _ => ?_) (fun _ => ?_))
    exact ends_ret rfl rfl rfl (by rw [hf]; rfl)
end Go.AM

namespace Go.AM
open Go Go.Proofs
set_option maxRecDepth 100000
set_option maxHeartbeats 4000000
set_option linter.unusedSimpArgs false
set_option linter.unusedVariables false

theorem k_Sqrt {s d : List Int} (hd : I64s d) : PureC Try.prog fi_elem_One [dN 23, dT s d] (dTE (oneF fSqrt s d)) := p_elem_One (.inr (.inr (.inr ⟨rfl, rfl⟩))) (fun _ ha => p_fix_Sqrt ha) s d hd

theorem eachF_congr {s : List Int} {h h' : Nat → Int × Int} (k : ∀ p, p < (sizeS s).toNat → h p = h' p) : eachF s h = eachF s h' := by
  have := coll_congr (f := h) (g := h') (n := (sizeS s).toNat) (a := 0) (acc := []) fun p hp => by rw [Nat.zero_add]; exact k p hp
  unfold eachF
  rw [this]
theorem two_self {W : Int → Int → Int × Int} {s d : List Int} (h : checkT s d = true) : twoF W s d s d = eachF s fun p => W (gt d p) (gt d p) := by
  have hs := (checkT_iff.1 h).1
  unfold twoF
  rw [if_pos ⟨h, h⟩, (JoinOk.self hs).eq, if_pos rfl]
  simp only [spread_self h]
theorem two_scalar {W : Int → Int → Int × Int} {s d : List Int} (h : checkT s d = true) (o : Int) : twoF W s d [] [o] = eachF s fun p => W (gt d p) o := by
  have hs := (checkT_iff.1 h).1
  have h0 : checkT [] [o] = true := checkT_iff.2 ⟨shape_nil, by simp [prd]⟩
  unfold twoF
  rw [if_pos ⟨h, h0⟩, (JoinOk.nil hs).comm.eq, if_pos rfl]
  simp only [spread_self h]
  refine eachF_congr fun p hp => ?_
  rw [spread_gt hs hp, val_nil]
theorem twice_it {s d : List Int} (h : checkT s d = true) : twoF fMul s d [] [8589934592] = twoF fAdd s d s d := by
  rw [two_self h, two_scalar h]
  refine eachF_congr fun p _ => ?_
  unfold fMul fAdd
  congr 1
  omega

theorem mk_map {r : List Int} (g : List Int → Int) (f : Int → Int) : (mk r g).map f = mk r fun x => f (g x) := by
  unfold mk; rw [List.map_map]; rfl
theorem sub_neg {s d t e : List Int} (h1 : (twoF fSub s d t e).2 = 0) (h2 : (twoF fSub t e s d).2 = 0) : oneF fNeg (twoF fSub t e s d).1.1 (twoF fSub t e s d).1.2 = twoF fSub s d t e := by
  obtain ⟨a1, a2, r, j1, w1, f1⟩ := two_inv h1
  obtain ⟨_, _, r', j2, w2, f2⟩ := two_inv h2
  have hr := j1.uniq j2.comm
  subst hr
  rw [f1, f2]
  have key : ∀ x, InIdx r x → fNeg (fSub (val t e (fromX t x)) (val s d (fromX s x))).1 = ((fSub (val s d (fromX s x)) (val t e (fromX t x))).1, 0) := fun x hx => by
    have q1 := rng_val (a := val s d (fromX s x) - val t e (fromX t x)) (w1 x hx)
    have q2 := rng_val (a := val t e (fromX t x) - val s d (fromX s x)) (w2 x hx)
    have e1 : fSub (val t e (fromX t x)) (val s d (fromX s x)) = (val t e (fromX t x) - val s d (fromX s x), 0) := q2.1
    have e2 : fSub (val s d (fromX s x)) (val t e (fromX t x)) = (val s d (fromX s x) - val t e (fromX t x), 0) := q1.1
    rw [e1, e2]
    unfold fNeg
    simp only
    rw [show (0 : Int) - (val t e (fromX t x) - val s d (fromX s x)) = val s d (fromX s x) - val t e (fromX t x) from by omega]
    exact q1.1
  rw [one_map (mk_check j1.hr _) (fun v hv => by
    unfold mk at hv
    obtain ⟨p, hp, rfl⟩ := List.mem_map.1 hv
    have hp := List.mem_range.1 hp
    have hsz := sizeS_ok j1.hr
    have h64 := j1.hr.2.2
    rw [key _ (by rw [idxF_eq j1.hr.2.1 (by omega) (by omega)]; exact ix_in j1.hr.2.1)])]
  congr 2
  rw [mk_map]
  exact mk_congr j1.hr fun x hx => by rw [key x hx]

/-- roots, squared -/
theorem root_sq {v : Int} (h : 0 ≤ v) (hv : I64 v) : fMul (rootN v) (rootN v) = (((rootN v * rootN v / 4294967296 : Nat) : Int), 0) ∧ ((rootN v * rootN v / 4294967296 : Nat) : Int) ≤ v := by
  have h1 : rootN v * rootN v ≤ v.toNat * 4294967296 := sq_le (Nat.zero_le _)
  have h2 : rootN v * rootN v / 4294967296 ≤ v.toNat := by
    have := Nat.div_le_div_right (c := 4294967296) h1
    rwa [Nat.mul_div_cancel _ (by decide)] at this
  refine ⟨?_, by omega⟩
  unfold fMul
  rw [← Int.natCast_mul]
  have e : ((rootN v * rootN v : Nat) : Int) / 4294967296 = ((rootN v * rootN v / 4294967296 : Nat) : Int) := by
    generalize rootN v * rootN v = m
    omega
  rw [e]
  exact rng_in (by unfold I64 at hv ⊢; omega)
def sqD (d : List Int) : List Int := d.map fun v => ((rootN v * rootN v / 4294967296 : Nat) : Int)
theorem roots {s d : List Int} (hd : I64s d) (h : (oneF fSqrt s d).2 = 0) : oneF fSqrt s d = ((s, d.map fun v => (rootN v : Int)), 0) ∧ twoF fMul s (d.map fun v => (rootN v : Int)) s (d.map fun v => (rootN v : Int)) = ((s, sqD d), 0) ∧ ∀ v ∈ d, 0 ≤ v := by
  obtain ⟨hc, hW⟩ := op1_inv h
  have hn : ∀ v ∈ d, 0 ≤ v := fun v hv => by
    have := hW v hv
    unfold fSqrt at this
    split at this
    · simp at this
    · omega
  have hs : ∀ v ∈ d, fSqrt v = ((rootN v : Int), 0) := fun v hv => if_neg (by have := hn v hv; omega)
  have e1 : (d.map fun v => (fSqrt v).1) = d.map fun v => (rootN v : Int) := List.map_congr_left fun v hv => by rw [hs v hv]
  have hl := check_size hc
  refine ⟨by rw [one_map hc hW, e1], ?_, hn⟩
  have hg : ∀ p, p < d.length → gt (d.map fun v => (rootN v : Int)) p = (rootN (gt d p) : Int) := fun p hp => by
    unfold gt
    rw [List.getElem?_map, List.getElem?_eq_getElem hp]; rfl
  rw [two_self (check_map hc _), eachF_congr (h' := fun p => (((rootN (gt d p) * rootN (gt d p) / 4294967296 : Nat) : Int), 0)) (fun p hp => by
    rw [hg p (by omega), (root_sq (hn _ (gt_mem (by omega))) (gt_range hd p)).1])]
  rw [eachF_ok (fun p hp => rfl), map_gt hl fun v => ((rootN v * rootN v / 4294967296 : Nat) : Int)]
  rfl
theorem sqD_get {d : List Int} (hd : I64s d) (hn : ∀ v ∈ d, 0 ≤ v) {p : Nat} (hp : p < d.length) : ∃ q, (sqD d)[p]? = some q ∧ q ≤ gt d p ∧ 0 ≤ gt d p := by
  have h0 := hn _ (gt_mem hp)
  refine ⟨_, by unfold sqD; rw [List.getElem?_map, gt_some hp]; rfl, (root_sq h0 (gt_range hd p)).2, h0⟩

theorem p_ElemDoubles (s d t e : List Int) (hd : I64s d) (he : I64s e) : PureC Try.prog fi_fullerlaw04_ElemDoubles [dT s d, dT t e] (dB true) := by
  refine pure_fullerlaw04_ElemDoubles (by simp) fun G hP hn => ?_
  unfold a_fullerlaw04_ElemDoubles
  cases f1 : fewT s d
  · repeat' (first | apply T_then | apply then_ret | apply then_exit | apply then_goto | apply rnd_exit | apply rnd_ret | apply rnd_goto | apply noGo_normal | apply noGo_ret | apply noGo_exit | apply jmp_normal | apply jmp_ret | apply jmp_exit | apply jmp_goto | apply inB_normal | apply inB_ret | apply inB_goto | apply inB_exit | refine inB_exit_ne rfl ?_ | ((first | apply T_srK fw | apply T_regK fw); · ((try simp only [TOps.flat, List.cons_append, List.nil_append]); repeat (first | apply X_g0 | apply X_g | apply S_keep | apply X_skip | apply X_skipN | refine X_call ?_ ⟨_, _, _, _, _, _, rfl, rfl, rfl, by rw [hP]; exact p_awake4⟩ ?_ | refine X_call ?_ ⟨_, _, _, _, _, _, rfl, rfl, rfl, by rw [hP]; exact p_ref03_Few _ _⟩ ?_ | apply X_q | apply X_st | apply X_n | apply X_s | apply SKs0 | apply SKs2 | apply SKs1 | refine ⟨⟨rfl, rfl⟩, ?_⟩ | refine ⟨⟨rfl, ?_⟩, ?_⟩ | refine ⟨?_, ?_⟩ | (· (try simp only [go_sem, seval, reduceIte, ↓reduceIte, Bool.not_eq_true, reduceCtorEq, beq_false, beq_true, hn, hP, f1]); first | done | rfl)))) | apply T_seq | apply T_block | refine T_scopeJ 0 rfl ?_ | apply T_scope | apply T_goto | apply T_ret | apply T_skip | apply T_exit | apply T_label | refine T_condT rfl ?_ | refine T_condF rfl ?_ | refine T_condD rfl (fun _ => ?_) (fun _ => ?_) | refine T_cond rfl (fun _ => ?_) (fun _ => ?_))
    exact ends_ret rfl rfl rfl rfl
  cases f2 : fewT t e
  · repeat' (first | apply T_then | apply then_ret | apply then_exit | apply then_goto | apply rnd_exit | apply rnd_ret | apply rnd_goto | apply noGo_normal | apply noGo_ret | apply noGo_exit | apply jmp_normal | apply jmp_ret | apply jmp_exit | apply jmp_goto | apply inB_normal | apply inB_ret | apply inB_goto | apply inB_exit | refine inB_exit_ne rfl ?_ | ((first | apply T_srK fw | apply T_regK fw); · ((try simp only [TOps.flat, List.cons_append, List.nil_append]); repeat (first | apply X_g0 | apply X_g | apply S_keep | apply X_skip | apply X_skipN | refine X_call ?_ ⟨_, _, _, _, _, _, rfl, rfl, rfl, by rw [hP]; exact p_awake4⟩ ?_ | refine X_call ?_ ⟨_, _, _, _, _, _, rfl, rfl, rfl, by rw [hP]; exact p_ref03_Few _ _⟩ ?_ | apply X_q | apply X_st | apply X_n | apply X_s | apply SKs0 | apply SKs2 | apply SKs1 | refine ⟨⟨rfl, rfl⟩, ?_⟩ | refine ⟨⟨rfl, ?_⟩, ?_⟩ | refine ⟨?_, ?_⟩ | (· (try simp only [go_sem, seval, reduceIte, ↓reduceIte, Bool.not_eq_true, reduceCtorEq, beq_false, beq_true, hn, hP, f1, f2]); first | done | rfl)))) | apply T_seq | apply T_block | refine T_scopeJ 0 rfl ?_ | apply T_scope | apply T_goto | apply T_ret | apply T_skip | apply T_exit | apply T_label | refine T_condT rfl ?_ | refine T_condF rfl ?_ | refine T_condD rfl (fun _ => ?_) (fun _ => ?_) | refine T_cond rfl (fun _ => ?_) (fun _ => ?_))
    exact ends_ret rfl rfl rfl rfl
  cases h1 : checkT s d
  · repeat' (first | apply T_then | apply then_ret | apply then_exit | apply then_goto | apply rnd_exit | apply rnd_ret | apply rnd_goto | apply noGo_normal | apply noGo_ret | apply noGo_exit | apply jmp_normal | apply jmp_ret | apply jmp_exit | apply jmp_goto | apply inB_normal | apply inB_ret | apply inB_goto | apply inB_exit | refine inB_exit_ne rfl ?_ | ((first | apply T_srK fw | apply T_regK fw); · ((try simp only [TOps.flat, List.cons_append, List.nil_append]); repeat (first | apply X_g0 | apply X_g | apply S_keep | apply X_skip | apply X_skipN | refine X_call ?_ ⟨_, _, _, _, _, _, rfl, rfl, rfl, by rw [hP]; exact p_awake4⟩ ?_ | refine X_call ?_ ⟨_, _, _, _, _, _, rfl, rfl, rfl, by rw [hP]; exact p_ref03_Few _ _⟩ ?_ | refine X_call ?_ ⟨_, _, _, _, _, _, rfl, rfl, rfl, by rw [hP]; exact p_tensor_Check _ _⟩ ?_ | apply X_q | apply X_st | apply X_n | apply X_s | apply SKs0 | apply SKs2 | apply SKs1 | refine ⟨⟨rfl, rfl⟩, ?_⟩ | refine ⟨⟨rfl, ?_⟩, ?_⟩ | refine ⟨?_, ?_⟩ | (· (try simp only [go_sem, seval, reduceIte, ↓reduceIte, Bool.not_eq_true, reduceCtorEq, beq_false, beq_true, hn, hP, f1, f2, h1]); first | done | rfl)))) | apply T_seq | apply T_block | refine T_scopeJ 0 rfl ?_ | apply T_scope | apply T_goto | apply T_ret | apply T_skip | apply T_exit | apply T_label | refine T_condT rfl ?_ | refine T_condF rfl ?_ | refine T_condD rfl (fun _ => ?_) (fun _ => ?_) | refine T_cond rfl (fun _ => ?_) (fun _ => ?_))
    exact ends_ret rfl rfl rfl rfl
  cases h2 : checkT t e
  · repeat' (first | apply T_then | apply then_ret | apply then_exit | apply then_goto | apply rnd_exit | apply rnd_ret | apply rnd_goto | apply noGo_normal | apply noGo_ret | apply noGo_exit | apply jmp_normal | apply jmp_ret | apply jmp_exit | apply jmp_goto | apply inB_normal | apply inB_ret | apply inB_goto | apply inB_exit | refine inB_exit_ne rfl ?_ | ((first | apply T_srK fw | apply T_regK fw); · ((try simp only [TOps.flat, List.cons_append, List.nil_append]); repeat (first | apply X_g0 | apply X_g | apply S_keep | apply X_skip | apply X_skipN | refine X_call ?_ ⟨_, _, _, _, _, _, rfl, rfl, rfl, by rw [hP]; exact p_awake4⟩ ?_ | refine X_call ?_ ⟨_, _, _, _, _, _, rfl, rfl, rfl, by rw [hP]; exact p_ref03_Few _ _⟩ ?_ | refine X_call ?_ ⟨_, _, _, _, _, _, rfl, rfl, rfl, by rw [hP]; exact p_tensor_Check _ _⟩ ?_ | apply X_q | apply X_st | apply X_n | apply X_s | apply SKs0 | apply SKs2 | apply SKs1 | refine ⟨⟨rfl, rfl⟩, ?_⟩ | refine ⟨⟨rfl, ?_⟩, ?_⟩ | refine ⟨?_, ?_⟩ | (· (try simp only [go_sem, seval, reduceIte, ↓reduceIte, Bool.not_eq_true, reduceCtorEq, beq_false, beq_true, hn, hP, f1, f2, h1, h2]); first | done | rfl)))) | apply T_seq | apply T_block | refine T_scopeJ 0 rfl ?_ | apply T_scope | apply T_goto | apply T_ret | apply T_skip | apply T_exit | apply T_label | refine T_condT rfl ?_ | refine T_condF rfl ?_ | refine T_condD rfl (fun _ => ?_) (fun _ => ?_) | refine T_cond rfl (fun _ => ?_) (fun _ => ?_))
    exact ends_ret rfl rfl rfl rfl
  have k1 := k_Add (s := s) (t := s) hd hd
  have k2 := k_Mul (s := s) (t := []) (e := [8589934592]) hd (i64s_dec (by decide))
  rw [twice_it h1] at k2
  obtain ⟨xs, xd, ex, hx⟩ : ∃ xs xd ex, twoF fAdd s d s d = ((xs, xd), ex) := ⟨_, _, _, rfl⟩
  rw [hx] at k1 k2
  -- what is told of differences
  obtain ⟨ds, dd, g, cs, cd, h, ns, nd, i, k3, k4, k5, hdif⟩ : ∃ (ds dd : List Int) (g : Int) (cs cd : List Int) (h : Int) (ns nd : List Int) (i : Int), PureC Try.prog fi_elem_Two [dN 11, dT s d, dT t e] (dTE ((ds, dd), g)) ∧ PureC Try.prog fi_elem_Two [dN 11, dT t e, dT s d] (dTE ((cs, cd), h)) ∧
      PureC Try.prog fi_elem_One [dN 20, dT cs cd] (dTE ((ns, nd), i)) ∧ ((g != 0) = true ∨ (g = 0 ∧ (h != 0) = true) ∨ (g = 0 ∧ h = 0 ∧ i = 0 ∧ ns = ds ∧ nd = dd)) := by
    have z1 := k_Sub (s := s) (t := t) hd he
    have z2 := k_Sub (s := t) (t := s) he hd
    have z3 := k_Neg (s := (twoF fSub t e s d).1.1) (two_range (W := fSub) (fun a b => rng_range _) t e s d)
    refine ⟨(twoF fSub s d t e).1.1, (twoF fSub s d t e).1.2, (twoF fSub s d t e).2, (twoF fSub t e s d).1.1, (twoF fSub t e s d).1.2, (twoF fSub t e s d).2, (oneF fNeg (twoF fSub t e s d).1.1 (twoF fSub t e s d).1.2).1.1, (oneF fNeg (twoF fSub t e s d).1.1 (twoF fSub t e s d).1.2).1.2, (oneF fNeg (twoF fSub t e s d).1.1 (twoF fSub t e s d).1.2).2, z1, z2, z3, ?_⟩
    by_cases c1 : (twoF fSub s d t e).2 = 0
    · by_cases c2 : (twoF fSub t e s d).2 = 0
      · right; right
        rw [sub_neg c1 c2]
        exact ⟨c1, c2, c1, rfl, rfl⟩
      · right; left; exact ⟨c1, by simpa using c2⟩
    · left; simpa using c1
  -- what is told of roots
  obtain ⟨rs, rd, j, qs, qd, k, k6, k7, hrt⟩ : ∃ (rs rd : List Int) (j : Int) (qs qd : List Int) (k : Int), PureC Try.prog fi_elem_One [dN 23, dT s d] (dTE ((rs, rd), j)) ∧ PureC Try.prog fi_elem_Two [dN 12, dT rs rd, dT rs rd] (dTE ((qs, qd), k)) ∧
      ((j != 0) = true ∨ (j = 0 ∧ k = 0 ∧ qd.length = d.length ∧ ∀ p, p < d.length → ∃ q, qd[p]? = some q ∧ q ≤ gt d p ∧ 0 ≤ gt d p)) := by
    have z1 := k_Sqrt (s := s) hd
    have z2 := k_Mul (s := (oneF fSqrt s d).1.1) (t := (oneF fSqrt s d).1.1) (one_range fSqrt_range s d) (one_range fSqrt_range s d)
    refine ⟨(oneF fSqrt s d).1.1, (oneF fSqrt s d).1.2, (oneF fSqrt s d).2, (twoF fMul (oneF fSqrt s d).1.1 (oneF fSqrt s d).1.2 (oneF fSqrt s d).1.1 (oneF fSqrt s d).1.2).1.1, (twoF fMul (oneF fSqrt s d).1.1 (oneF fSqrt s d).1.2 (oneF fSqrt s d).1.1 (oneF fSqrt s d).1.2).1.2, (twoF fMul (oneF fSqrt s d).1.1 (oneF fSqrt s d).1.2 (oneF fSqrt s d).1.1 (oneF fSqrt s d).1.2).2, z1, z2, ?_⟩
    by_cases c1 : (oneF fSqrt s d).2 = 0
    · obtain ⟨q1, q2, q3⟩ := roots hd c1
      right
      rw [q1]
      simp only
      rw [q2]
      exact ⟨by trivial, by trivial, by simp [sqD], fun p hp => sqD_get hd q3 hp⟩
    · left; simpa using c1
  have hl : d.length ≤ 64 := by have := check_size h1; have := sizeS_nn s; omega
  rcases hrt with hj | ⟨rfl, rfl, hql, hq⟩
  · have hj' : (j == 0) = false := by simpa using hj
    repeat' (first | apply T_then | apply then_ret | apply then_exit | apply then_goto | apply rnd_exit | apply rnd_ret | apply rnd_goto | apply noGo_normal | apply noGo_ret | apply noGo_exit | apply jmp_normal | apply jmp_ret | apply jmp_exit | apply jmp_goto | apply inB_normal | apply inB_ret | apply inB_goto | apply inB_exit | refine inB_exit_ne rfl ?_ | ((first | apply T_srK fw | apply T_regK fw); · ((try simp only [TOps.flat, List.cons_append, List.nil_append]); repeat (first | apply X_g0 | apply X_g | apply S_keep | apply X_skip | apply X_skipN | refine X_call ?_ ⟨_, _, _, _, _, _, rfl, rfl, rfl, by rw [hP]; exact p_awake4⟩ ?_ | refine X_call ?_ ⟨_, _, _, _, _, _, rfl, rfl, rfl, by rw [hP]; exact p_ref03_Few _ _⟩ ?_ | refine X_call ?_ ⟨_, _, _, _, _, _, rfl, rfl, rfl, by rw [hP]; exact p_tensor_Check _ _⟩ ?_ | refine X_call ?_ ⟨_, _, _, _, _, _, rfl, rfl, rfl, by rw [hP]; exact k1⟩ ?_ | refine X_call ?_ ⟨_, _, _, _, _, _, rfl, rfl, rfl, by rw [hP]; exact k2⟩ ?_ | refine X_call ?_ ⟨_, _, _, _, _, _, rfl, rfl, rfl, by rw [hP]; exact k3⟩ ?_ | refine X_call ?_ ⟨_, _, _, _, _, _, rfl, rfl, rfl, by rw [hP]; exact k4⟩ ?_ | refine X_call ?_ ⟨_, _, _, _, _, _, rfl, rfl, rfl, by rw [hP]; exact k5⟩ ?_ | refine X_call ?_ ⟨_, _, _, _, _, _, rfl, rfl, rfl, by rw [hP]; exact k6⟩ ?_ | refine X_call ?_ ⟨_, _, _, _, _, _, rfl, rfl, rfl, by rw [hP]; exact k7⟩ ?_ | apply X_q | apply X_st | apply X_n | apply X_s | apply SKs0 | apply SKs2 | apply SKs1 | refine ⟨⟨rfl, rfl⟩, ?_⟩ | refine ⟨⟨rfl, ?_⟩, ?_⟩ | refine ⟨?_, ?_⟩ | (· (try simp only [go_sem, seval, reduceIte, ↓reduceIte, Bool.not_eq_true, reduceCtorEq, beq_false, beq_true, hn, hP, f1, f2, h1, h2, hj, hj']); first | done | rfl)))) | apply T_seq | apply T_block | refine T_scopeJ 0 rfl ?_ | apply T_scope | apply T_goto | apply T_ret | apply T_skip | apply T_exit | apply T_label | refine T_condT rfl ?_ | refine T_condF rfl ?_ | refine T_condD rfl (fun _ => ?_) (fun _ => ?_) | refine T_cond rfl (fun _ => ?_) (fun _ => ?_))
    refine T_for 0 (fun m (_ : Unit) => { env := [(2, .one (.ptr 2 0 2 0)), (5, .one (.p (.bool true))), (6, .one (.ptr 6 0 2 0)), (7, .one (.p (.int .i64 ex))), (8, .one (.ptr 8 0 2 0)), (9, .one (.p (.int .i64 ex))), (10, .one (.ptr 10 0 2 0)), (11, .one (.p (.int .i64 g))), (13, .one (.p (.int .i64 h))), (14, .one (.ptr 14 0 2 0)), (15, .one (.p (.int .i64 i))), (17, .one (.p (.int .i64 j))), (18, .one (.ptr 18 0 2 0)), (20, .one (.p (.int .i64 m)))], σ := [(2, .cells true [.p (eI s), .p (eI d)]), (6, .cells true [.p (eI xs), .p (eI xd)]), (8, .cells true [.p (eI xs), .p (eI xd)]), (10, .cells true [.p (eI ds), .p (eI dd)]), (14, .cells true [.p (eI ns), .p (eI nd)]), (18, .cells true [.p (eI qs), .p (eI qd)])] })
      (fun _ _ => True) () trivial ?_ fun m _ hm _ => ?_
    · refine Weak.sub fun q hq => ?_
      simp only [List.mem_cons, List.not_mem_nil, or_false] at hq
      rcases hq with rfl | rfl | rfl | rfl | rfl | rfl <;> rfl
    have hm0 : m = 0 := by omega
    subst hm0
    by_cases c1 : (0 : Int) < (d.length : Int)
    · have c1' : ((0 : Nat) : Int) < (d.length : Int) := c1
      rcases hdif with z | ⟨rfl, z⟩ | ⟨rfl, rfl, rfl, rfl, rfl⟩
      · repeat' (first | apply T_then | apply then_ret | apply then_exit | apply then_goto | apply rnd_exit | apply rnd_ret | apply rnd_goto | apply noGo_normal | apply noGo_ret | apply noGo_exit | apply jmp_normal | apply jmp_ret | apply jmp_exit | apply jmp_goto | apply inB_normal | apply inB_ret | apply inB_goto | apply inB_exit | refine inB_exit_ne rfl ?_ | ((first | apply T_srK fw | apply T_regK fw); · ((try simp only [TOps.flat, List.cons_append, List.nil_append]); repeat (first | apply X_g0 | apply X_g | apply S_keep | apply X_skip | apply X_skipN | refine X_call ?_ ⟨_, _, _, _, _, _, rfl, rfl, rfl, by rw [hP]; exact c_sameT _ _⟩ ?_ | apply X_q | apply X_st | apply X_n | apply X_s | apply SKs0 | apply SKs2 | apply SKs1 | refine ⟨⟨rfl, rfl⟩, ?_⟩ | refine ⟨⟨rfl, ?_⟩, ?_⟩ | refine ⟨?_, ?_⟩ | (· (try simp only [go_sem, seval, reduceIte, ↓reduceIte, Bool.not_eq_true, reduceCtorEq, beq_false, beq_true, hn, hP, c1, c1', hj', z]); first | done | rfl)))) | apply T_seq | apply T_block | refine T_scopeJ 0 rfl ?_ | apply T_scope | apply T_goto | apply T_ret | apply T_skip | apply T_exit | apply T_label | refine T_condT rfl ?_ | refine T_condF rfl ?_ | refine T_condD rfl (fun _ => ?_) (fun _ => ?_) | refine T_cond rfl (fun _ => ?_) (fun _ => ?_))
        exact ends_ret rfl rfl rfl rfl
      · repeat' (first | apply T_then | apply then_ret | apply then_exit | apply then_goto | apply rnd_exit | apply rnd_ret | apply rnd_goto | apply noGo_normal | apply noGo_ret | apply noGo_exit | apply jmp_normal | apply jmp_ret | apply jmp_exit | apply jmp_goto | apply inB_normal | apply inB_ret | apply inB_goto | apply inB_exit | refine inB_exit_ne rfl ?_ | ((first | apply T_srK fw | apply T_regK fw); · ((try simp only [TOps.flat, List.cons_append, List.nil_append]); repeat (first | apply X_g0 | apply X_g | apply S_keep | apply X_skip | apply X_skipN | refine X_call ?_ ⟨_, _, _, _, _, _, rfl, rfl, rfl, by rw [hP]; exact c_sameT _ _⟩ ?_ | apply X_q | apply X_st | apply X_n | apply X_s | apply SKs0 | apply SKs2 | apply SKs1 | refine ⟨⟨rfl, rfl⟩, ?_⟩ | refine ⟨⟨rfl, ?_⟩, ?_⟩ | refine ⟨?_, ?_⟩ | (· (try simp only [go_sem, seval, reduceIte, ↓reduceIte, Bool.not_eq_true, reduceCtorEq, beq_false, beq_true, hn, hP, c1, c1', hj', z]); first | done | rfl)))) | apply T_seq | apply T_block | refine T_scopeJ 0 rfl ?_ | apply T_scope | apply T_goto | apply T_ret | apply T_skip | apply T_exit | apply T_label | refine T_condT rfl ?_ | refine T_condF rfl ?_ | refine T_condD rfl (fun _ => ?_) (fun _ => ?_) | refine T_cond rfl (fun _ => ?_) (fun _ => ?_))
        exact ends_ret rfl rfl rfl rfl
      · repeat' (first | apply T_then | apply then_ret | apply then_exit | apply then_goto | apply rnd_exit | apply rnd_ret | apply rnd_goto | apply noGo_normal | apply noGo_ret | apply noGo_exit | apply jmp_normal | apply jmp_ret | apply jmp_exit | apply jmp_goto | apply inB_normal | apply inB_ret | apply inB_goto | apply inB_exit | refine inB_exit_ne rfl ?_ | ((first | apply T_srK fw | apply T_regK fw); · ((try simp only [TOps.flat, List.cons_append, List.nil_append]); repeat (first | apply X_g0 | apply X_g | apply S_keep | apply X_skip | apply X_skipN | refine X_call ?_ ⟨_, _, _, _, _, _, rfl, rfl, rfl, by rw [hP]; exact c_sameT _ _⟩ ?_ | apply X_q | apply X_st | apply X_n | apply X_s | apply SKs0 | apply SKs2 | apply SKs1 | refine ⟨⟨rfl, rfl⟩, ?_⟩ | refine ⟨⟨rfl, ?_⟩, ?_⟩ | refine ⟨?_, ?_⟩ | (· (try simp only [go_sem, seval, reduceIte, ↓reduceIte, Bool.not_eq_true, reduceCtorEq, beq_false, beq_true, hn, hP, c1, c1', hj']); first | done | rfl)))) | apply T_seq | apply T_block | refine T_scopeJ 0 rfl ?_ | apply T_scope | apply T_goto | apply T_ret | apply T_skip | apply T_exit | apply T_label | refine T_condT rfl ?_ | refine T_condF rfl ?_ | refine T_condD rfl (fun _ => ?_) (fun _ => ?_) | refine T_cond rfl (fun _ => ?_) (fun _ => ?_))
        exact ends_ret rfl rfl rfl rfl
    · have c1' : ¬ ((0 : Nat) : Int) < (d.length : Int) := c1
      rcases hdif with z | ⟨rfl, z⟩ | ⟨rfl, rfl, rfl, rfl, rfl⟩
      · repeat' (first | apply T_then | apply then_ret | apply then_exit | apply then_goto | apply rnd_exit | apply rnd_ret | apply rnd_goto | apply noGo_normal | apply noGo_ret | apply noGo_exit | apply jmp_normal | apply jmp_ret | apply jmp_exit | apply jmp_goto | apply inB_normal | apply inB_ret | apply inB_goto | apply inB_exit | refine inB_exit_ne rfl ?_ | ((first | apply T_srK fw | apply T_regK fw); · ((try simp only [TOps.flat, List.cons_append, List.nil_append]); repeat (first | apply X_g0 | apply X_g | apply S_keep | apply X_skip | apply X_skipN | refine X_call ?_ ⟨_, _, _, _, _, _, rfl, rfl, rfl, by rw [hP]; exact c_sameT _ _⟩ ?_ | apply X_q | apply X_st | apply X_n | apply X_s | apply SKs0 | apply SKs2 | apply SKs1 | refine ⟨⟨rfl, rfl⟩, ?_⟩ | refine ⟨⟨rfl, ?_⟩, ?_⟩ | refine ⟨?_, ?_⟩ | (· (try simp only [go_sem, seval, reduceIte, ↓reduceIte, Bool.not_eq_true, reduceCtorEq, beq_false, beq_true, hn, hP, c1, c1', hj', z]); first | done | rfl)))) | apply T_seq | apply T_block | refine T_scopeJ 0 rfl ?_ | apply T_scope | apply T_goto | apply T_ret | apply T_skip | apply T_exit | apply T_label | refine T_condT rfl ?_ | refine T_condF rfl ?_ | refine T_condD rfl (fun _ => ?_) (fun _ => ?_) | refine T_cond rfl (fun _ => ?_) (fun _ => ?_))
        exact ends_ret rfl rfl rfl rfl
      · repeat' (first | apply T_then | apply then_ret | apply then_exit | apply then_goto | apply rnd_exit | apply rnd_ret | apply rnd_goto | apply noGo_normal | apply noGo_ret | apply noGo_exit | apply jmp_normal | apply jmp_ret | apply jmp_exit | apply jmp_goto | apply inB_normal | apply inB_ret | apply inB_goto | apply inB_exit | refine inB_exit_ne rfl ?_ | ((first | apply T_srK fw | apply T_regK fw); · ((try simp only [TOps.flat, List.cons_append, List.nil_append]); repeat (first | apply X_g0 | apply X_g | apply S_keep | apply X_skip | apply X_skipN | refine X_call ?_ ⟨_, _, _, _, _, _, rfl, rfl, rfl, by rw [hP]; exact c_sameT _ _⟩ ?_ | apply X_q | apply X_st | apply X_n | apply X_s | apply SKs0 | apply SKs2 | apply SKs1 | refine ⟨⟨rfl, rfl⟩, ?_⟩ | refine ⟨⟨rfl, ?_⟩, ?_⟩ | refine ⟨?_, ?_⟩ | (· (try simp only [go_sem, seval, reduceIte, ↓reduceIte, Bool.not_eq_true, reduceCtorEq, beq_false, beq_true, hn, hP, c1, c1', hj', z]); first | done | rfl)))) | apply T_seq | apply T_block | refine T_scopeJ 0 rfl ?_ | apply T_scope | apply T_goto | apply T_ret | apply T_skip | apply T_exit | apply T_label | refine T_condT rfl ?_ | refine T_condF rfl ?_ | refine T_condD rfl (fun _ => ?_) (fun _ => ?_) | refine T_cond rfl (fun _ => ?_) (fun _ => ?_))
        exact ends_ret rfl rfl rfl rfl
      · repeat' (first | apply T_then | apply then_ret | apply then_exit | apply then_goto | apply rnd_exit | apply rnd_ret | apply rnd_goto | apply noGo_normal | apply noGo_ret | apply noGo_exit | apply jmp_normal | apply jmp_ret | apply jmp_exit | apply jmp_goto | apply inB_normal | apply inB_ret | apply inB_goto | apply inB_exit | refine inB_exit_ne rfl ?_ | ((first | apply T_srK fw | apply T_regK fw); · ((try simp only [TOps.flat, List.cons_append, List.nil_append]); repeat (first | apply X_g0 | apply X_g | apply S_keep | apply X_skip | apply X_skipN | refine X_call ?_ ⟨_, _, _, _, _, _, rfl, rfl, rfl, by rw [hP]; exact c_sameT _ _⟩ ?_ | apply X_q | apply X_st | apply X_n | apply X_s | apply SKs0 | apply SKs2 | apply SKs1 | refine ⟨⟨rfl, rfl⟩, ?_⟩ | refine ⟨⟨rfl, ?_⟩, ?_⟩ | refine ⟨?_, ?_⟩ | (· (try simp only [go_sem, seval, reduceIte, ↓reduceIte, Bool.not_eq_true, reduceCtorEq, beq_false, beq_true, hn, hP, c1, c1', hj']); first | done | rfl)))) | apply T_seq | apply T_block | refine T_scopeJ 0 rfl ?_ | apply T_scope | apply T_goto | apply T_ret | apply T_skip | apply T_exit | apply T_label | refine T_condT rfl ?_ | refine T_condF rfl ?_ | refine T_condD rfl (fun _ => ?_) (fun _ => ?_) | refine T_cond rfl (fun _ => ?_) (fun _ => ?_))
        exact ends_ret rfl rfl rfl rfl
  · have ql : ((qd.length : Int) != d.length) = false := by rw [hql]; simp
    repeat' (first | apply T_then | apply then_ret | apply then_exit | apply then_goto | apply rnd_exit | apply rnd_ret | apply rnd_goto | apply noGo_normal | apply noGo_ret | apply noGo_exit | apply jmp_normal | apply jmp_ret | apply jmp_exit | apply jmp_goto | apply inB_normal | apply inB_ret | apply inB_goto | apply inB_exit | refine inB_exit_ne rfl ?_ | ((first | apply T_srK fw | apply T_regK fw); · ((try simp only [TOps.flat, List.cons_append, List.nil_append]); repeat (first | apply X_g0 | apply X_g | apply S_keep | apply X_skip | apply X_skipN | refine X_call ?_ ⟨_, _, _, _, _, _, rfl, rfl, rfl, by rw [hP]; exact p_awake4⟩ ?_ | refine X_call ?_ ⟨_, _, _, _, _, _, rfl, rfl, rfl, by rw [hP]; exact p_ref03_Few _ _⟩ ?_ | refine X_call ?_ ⟨_, _, _, _, _, _, rfl, rfl, rfl, by rw [hP]; exact p_tensor_Check _ _⟩ ?_ | refine X_call ?_ ⟨_, _, _, _, _, _, rfl, rfl, rfl, by rw [hP]; exact k1⟩ ?_ | refine X_call ?_ ⟨_, _, _, _, _, _, rfl, rfl, rfl, by rw [hP]; exact k2⟩ ?_ | refine X_call ?_ ⟨_, _, _, _, _, _, rfl, rfl, rfl, by rw [hP]; exact k3⟩ ?_ | refine X_call ?_ ⟨_, _, _, _, _, _, rfl, rfl, rfl, by rw [hP]; exact k4⟩ ?_ | refine X_call ?_ ⟨_, _, _, _, _, _, rfl, rfl, rfl, by rw [hP]; exact k5⟩ ?_ | refine X_call ?_ ⟨_, _, _, _, _, _, rfl, rfl, rfl, by rw [hP]; exact k6⟩ ?_ | refine X_call ?_ ⟨_, _, _, _, _, _, rfl, rfl, rfl, by rw [hP]; exact k7⟩ ?_ | apply X_q | apply X_st | apply X_n | apply X_s | apply SKs0 | apply SKs2 | apply SKs1 | refine ⟨⟨rfl, rfl⟩, ?_⟩ | refine ⟨⟨rfl, ?_⟩, ?_⟩ | refine ⟨?_, ?_⟩ | (· (try simp only [go_sem, seval, reduceIte, ↓reduceIte, Bool.not_eq_true, reduceCtorEq, beq_false, beq_true, hn, hP, f1, f2, h1, h2, ql]); first | done | rfl)))) | apply T_seq | apply T_block | refine T_scopeJ 0 rfl ?_ | apply T_scope | apply T_goto | apply T_ret | apply T_skip | apply T_exit | apply T_label | refine T_condT rfl ?_ | refine T_condF rfl ?_ | refine T_condD rfl (fun _ => ?_) (fun _ => ?_) | refine T_cond rfl (fun _ => ?_) (fun _ => ?_))
    refine T_for d.length (fun m (_ : Unit) => { env := [(2, .one (.ptr 2 0 2 0)), (5, .one (.p (.bool true))), (6, .one (.ptr 6 0 2 0)), (7, .one (.p (.int .i64 ex))), (8, .one (.ptr 8 0 2 0)), (9, .one (.p (.int .i64 ex))), (10, .one (.ptr 10 0 2 0)), (11, .one (.p (.int .i64 g))), (13, .one (.p (.int .i64 h))), (14, .one (.ptr 14 0 2 0)), (15, .one (.p (.int .i64 i))), (17, .one (.p (.int .i64 0))), (18, .one (.ptr 18 0 2 0)), (20, .one (.p (.int .i64 m)))], σ := [(2, .cells true [.p (eI s), .p (eI d)]), (6, .cells true [.p (eI xs), .p (eI xd)]), (8, .cells true [.p (eI xs), .p (eI xd)]), (10, .cells true [.p (eI ds), .p (eI dd)]), (14, .cells true [.p (eI ns), .p (eI nd)]), (18, .cells true [.p (eI qs), .p (eI qd)])] })
      (fun _ _ => True) () trivial ?_ fun m _ hm _ => ?_
    · refine Weak.sub fun q hq => ?_
      simp only [List.mem_cons, List.not_mem_nil, or_false] at hq
      rcases hq with rfl | rfl | rfl | rfl | rfl | rfl <;> rfl
    by_cases hlt : m < d.length
    · have c1 : (m : Int) < (d.length : Int) := by omega
      have w1 : IntKind.i64.wrap ((m : Int) + 1) = ((m + 1 : Nat) : Int) := by rw [wrap_in (by omega) (by omega)]; rfl
      obtain ⟨q, q1, q2, q3⟩ := hq m hlt
      have hx := gt_some hlt
      have hlq : m < qd.length := by omega
      have d1 : ¬ gt d m < 0 := by omega
      have d2 : ¬ q > gt d m := by omega
      generalize gt d m = v at *
      repeat' (first | apply T_then | apply then_ret | apply then_exit | apply then_goto | apply rnd_exit | apply rnd_ret | apply rnd_goto | apply noGo_normal | apply noGo_ret | apply noGo_exit | apply jmp_normal | apply jmp_ret | apply jmp_exit | apply jmp_goto | apply inB_normal | apply inB_ret | apply inB_goto | apply inB_exit | refine inB_exit_ne rfl ?_ | ((first | apply T_srK fw | apply T_regK fw); · ((try simp only [TOps.flat, List.cons_append, List.nil_append]); repeat (first | apply X_g0 | apply X_g | apply S_keep | apply X_skip | apply X_skipN | apply X_q | apply X_st | apply X_n | apply X_s | apply SKs0 | apply SKs2 | apply SKs1 | refine ⟨⟨rfl, rfl⟩, ?_⟩ | refine ⟨⟨rfl, ?_⟩, ?_⟩ | refine ⟨?_, ?_⟩ | (· (try simp only [go_sem, seval, reduceIte, ↓reduceIte, Bool.not_eq_true, reduceCtorEq, beq_false, beq_true, hn, hP, c1, w1, hx, q1, hlt, hlq, d1, d2]); first | done | rfl)))) | ((first | apply T_sdF fw (by rw [hP]; rfl) (by decide +kernel) | apply T_drF fw (by rw [hP]; rfl) (by decide +kernel)); · ((try simp only [TOps.flat, List.cons_append, List.nil_append]); repeat (first | apply Y_g0 | apply Y_g | apply Y_skip | apply Y_q | refine RunF_nil (P := G.P) ?_ | (· (try simp only [go_sem, seval, reduceIte, ↓reduceIte, Bool.not_eq_true, reduceCtorEq, beq_false, beq_true, hn, hP, c1, w1, hx, q1, hlt, hlq, d1, d2]); first | done | rfl)))) | apply T_seq | apply T_block | refine T_scopeJ 0 rfl ?_ | apply T_scope | apply T_goto | apply T_ret | apply T_skip | apply T_exit | apply T_label | refine T_condT rfl ?_ | refine T_condF rfl ?_ | refine T_condD rfl (fun _ => ?_) (fun _ => ?_) | refine T_cond rfl (fun _ => ?_) (fun _ => ?_))
      exact rnd_next hlt () trivial (Weak.sub fun q hq => by
        simp only [List.mem_cons, List.not_mem_nil, or_false] at hq
        rcases hq with rfl | rfl | rfl | rfl | rfl | rfl <;> rfl)
    · have c1 : ¬ (m : Int) < (d.length : Int) := by omega
      rcases hdif with z | ⟨rfl, z⟩ | ⟨rfl, rfl, rfl, rfl, rfl⟩
      · repeat' (first | apply T_then | apply then_ret | apply then_exit | apply then_goto | apply rnd_exit | apply rnd_ret | apply rnd_goto | apply noGo_normal | apply noGo_ret | apply noGo_exit | apply jmp_normal | apply jmp_ret | apply jmp_exit | apply jmp_goto | apply inB_normal | apply inB_ret | apply inB_goto | apply inB_exit | refine inB_exit_ne rfl ?_ | ((first | apply T_srK fw | apply T_regK fw); · ((try simp only [TOps.flat, List.cons_append, List.nil_append]); repeat (first | apply X_g0 | apply X_g | apply S_keep | apply X_skip | apply X_skipN | refine X_call ?_ ⟨_, _, _, _, _, _, rfl, rfl, rfl, by rw [hP]; exact c_sameT _ _⟩ ?_ | apply X_q | apply X_st | apply X_n | apply X_s | apply SKs0 | apply SKs2 | apply SKs1 | refine ⟨⟨rfl, rfl⟩, ?_⟩ | refine ⟨⟨rfl, ?_⟩, ?_⟩ | refine ⟨?_, ?_⟩ | (· (try simp only [go_sem, seval, reduceIte, ↓reduceIte, Bool.not_eq_true, reduceCtorEq, beq_false, beq_true, hn, hP, c1, z]); first | done | rfl)))) | apply T_seq | apply T_block | refine T_scopeJ 0 rfl ?_ | apply T_scope | apply T_goto | apply T_ret | apply T_skip | apply T_exit | apply T_label | refine T_condT rfl ?_ | refine T_condF rfl ?_ | refine T_condD rfl (fun _ => ?_) (fun _ => ?_) | refine T_cond rfl (fun _ => ?_) (fun _ => ?_))
        exact ends_ret rfl rfl rfl rfl
      · repeat' (first | apply T_then | apply then_ret | apply then_exit | apply then_goto | apply rnd_exit | apply rnd_ret | apply rnd_goto | apply noGo_normal | apply noGo_ret | apply noGo_exit | apply jmp_normal | apply jmp_ret | apply jmp_exit | apply jmp_goto | apply inB_normal | apply inB_ret | apply inB_goto | apply inB_exit | refine inB_exit_ne rfl ?_ | ((first | apply T_srK fw | apply T_regK fw); · ((try simp only [TOps.flat, List.cons_append, List.nil_append]); repeat (first | apply X_g0 | apply X_g | apply S_keep | apply X_skip | apply X_skipN | refine X_call ?_ ⟨_, _, _, _, _, _, rfl, rfl, rfl, by rw [hP]; exact c_sameT _ _⟩ ?_ | apply X_q | apply X_st | apply X_n | apply X_s | apply SKs0 | apply SKs2 | apply SKs1 | refine ⟨⟨rfl, rfl⟩, ?_⟩ | refine ⟨⟨rfl, ?_⟩, ?_⟩ | refine ⟨?_, ?_⟩ | (· (try simp only [go_sem, seval, reduceIte, ↓reduceIte, Bool.not_eq_true, reduceCtorEq, beq_false, beq_true, hn, hP, c1, z]); first | done | rfl)))) | apply T_seq | apply T_block | refine T_scopeJ 0 rfl ?_ | apply T_scope | apply T_goto | apply T_ret | apply T_skip | apply T_exit | apply T_label | refine T_condT rfl ?_ | refine T_condF rfl ?_ | refine T_condD rfl (fun _ => ?_) (fun _ => ?_) | refine T_cond rfl (fun _ => ?_) (fun _ => ?_))
        exact ends_ret rfl rfl rfl rfl
      · repeat' (first | apply T_then | apply then_ret | apply then_exit | apply then_goto | apply rnd_exit | apply rnd_ret | apply rnd_goto | apply noGo_normal | apply noGo_ret | apply noGo_exit | apply jmp_normal | apply jmp_ret | apply jmp_exit | apply jmp_goto | apply inB_normal | apply inB_ret | apply inB_goto | apply inB_exit | refine inB_exit_ne rfl ?_ | ((first | apply T_srK fw | apply T_regK fw); · ((try simp only [TOps.flat, List.cons_append, List.nil_append]); repeat (first | apply X_g0 | apply X_g | apply S_keep | apply X_skip | apply X_skipN | refine X_call ?_ ⟨_, _, _, _, _, _, rfl, rfl, rfl, by rw [hP]; exact c_sameT _ _⟩ ?_ | apply X_q | apply X_st | apply X_n | apply X_s | apply SKs0 | apply SKs2 | apply SKs1 | refine ⟨⟨rfl, rfl⟩, ?_⟩ | refine ⟨⟨rfl, ?_⟩, ?_⟩ | refine ⟨?_, ?_⟩ | (· (try simp only [go_sem, seval, reduceIte, ↓reduceIte, Bool.not_eq_true, reduceCtorEq, beq_false, beq_true, hn, hP, c1]); first | done | rfl)))) | apply T_seq | apply T_block | refine T_scopeJ 0 rfl ?_ | apply T_scope | apply T_goto | apply T_ret | apply T_skip | apply T_exit | apply T_label | refine T_condT rfl ?_ | refine T_condF rfl ?_ | refine T_condD rfl (fun _ => ?_) (fun _ => ?_) | refine T_cond rfl (fun _ => ?_) (fun _ => ?_))
        exact ends_ret rfl rfl rfl rfl
end Go.AM

