import Derived.Test.YtcmbjbmghoopcaaMe5
import Derived.Test.YtcmbjbmghoopcaaProg
import Derived.KernelRfl
set_option linter.unusedVariables false
set_option linter.unusedSimpArgs false
namespace Go.AM
open Go Go.Proofs
set_option maxRecDepth 100000
abbrev fi_fullerlaw04_ElemOnes : Nat := 12
abbrev fi_math_bits_LeadingZeros64 : Nat := 152
abbrev fi_math_bits_Len64 : Nat := 153
def a_fullerlaw04_ElemOnes : ACode := (.seq (.region none (.op (some 1) none (.n (.box 2 (.t 0)))
  (.op (some 2) none (.q (.mov (.c (.one (.p (.bool false))))))
  .nil)) [1] [1])
 (.seq (.region none (.op (some 19) none (.call (.c (.one (.p (.fn fi_fullerlaw04_awake [] [])))) [])
  (.op (some 3) none (.q (.mov (.t 19)))
  .nil)) [1, 3] [1])
 (.seq (.seq (.region none (.op (some 20) none (.q (.load 2 true (.t 1)))
  (.op (some 21) none (.call (.c (.one (.p (.fn fi_fullerref03_Few [] [])))) [(.t 20)])
  (.op (some 22) none (.q (.un .not (.t 21)))
  (.op (some 23) none (.q (.mov (.t 22)))
  (.sc 27 23 false 26 none
  (.op (some 24) (some (23, false)) (.q (.load 2 true (.t 1)))
  (.op (some 25) (some (23, false)) (.call (.c (.one (.p (.fn fi_tensor_Check [] [])))) [(.t 24)])
  (.op (some 26) (some (23, false)) (.q (.un .not (.t 25)))
  .nil)))
  .nil))))) [1, 3, 27] [1])
 (.cond (.t 27) (.seq (.region none (.op (some 28) none (.q (.mov (.t 3)))
  (.op (some 2) none (.q (.mov (.t 28)))
  .nil)) [2] [1])
 .ret)
 .skip))
 (.seq (.region none (.op (some 30) none (.call (.c (.one (.p (.fn fi_tensor_Full [] [])))) [(.c (.one .nils)), (.c (.one (.p (.int .i64 4294967296))))])
  (.op (some 29) none (.q (.mov (.t 30)))
  (.op (some 31) none (.q (.extr (.t 29) 0))
  (.op (some 32) none (.q (.extr (.t 29) 1))
  (.op (some 4) none (.n (.alloc [.nils, .nils]))
  (.op none none (.s (.store 2 (.t 4) (.t 31)))
  (.op (some 5) none (.q (.mov (.t 32)))
  .nil))))))) [1, 3, 4] [1, 4])
 (.seq (.region none (.op (some 34) none (.q (.load 2 true (.t 1)))
  (.op (some 35) none (.q (.load 2 true (.t 4)))
  (.op (some 36) none (.call (.c (.one (.p (.fn fi_elem_Two [] [])))) [(.c (.one (.p (.int .i64 12)))), (.t 34), (.t 35)])
  (.op (some 33) none (.q (.mov (.t 36)))
  (.op (some 37) none (.q (.extr (.t 33) 0))
  (.op (some 38) none (.q (.extr (.t 33) 1))
  (.op (some 6) none (.n (.alloc [.nils, .nils]))
  (.op none none (.s (.store 2 (.t 6) (.t 37)))
  (.op (some 7) none (.q (.mov (.t 38)))
  .nil))))))))) [1, 3, 4, 6, 7] [1, 4, 6])
 (.seq (.region none (.op (some 40) none (.q (.load 2 true (.t 1)))
  (.op (some 41) none (.q (.load 2 true (.t 4)))
  (.op (some 42) none (.call (.c (.one (.p (.fn fi_elem_Two [] [])))) [(.c (.one (.p (.int .i64 13)))), (.t 40), (.t 41)])
  (.op (some 39) none (.q (.mov (.t 42)))
  (.op (some 43) none (.q (.extr (.t 39) 0))
  (.op (some 44) none (.q (.extr (.t 39) 1))
  (.op (some 8) none (.n (.alloc [.nils, .nils]))
  (.op none none (.s (.store 2 (.t 8) (.t 43)))
  (.op (some 9) none (.q (.mov (.t 44)))
  .nil))))))))) [1, 3, 6, 7, 8, 9] [1, 4, 6, 8])
 (.seq (.region none (.op (some 46) none (.q (.load 2 true (.t 1)))
  (.op (some 47) none (.call (.c (.one (.p (.fn fi_elem_One [] [])))) [(.c (.one (.p (.int .i64 20)))), (.t 46)])
  (.op (some 45) none (.q (.mov (.t 47)))
  (.op (some 48) none (.q (.extr (.t 45) 0))
  (.op (some 49) none (.q (.extr (.t 45) 1))
  (.op (some 10) none (.n (.alloc [.nils, .nils]))
  (.op none none (.s (.store 2 (.t 10) (.t 48)))
  (.op (some 11) none (.q (.mov (.t 49)))
  .nil)))))))) [1, 3, 6, 7, 8, 9, 10, 11] [1, 4, 6, 8, 10])
 (.seq (.region none (.op (some 51) none (.q (.load 2 true (.t 10)))
  (.op (some 52) none (.call (.c (.one (.p (.fn fi_elem_One [] [])))) [(.c (.one (.p (.int .i64 20)))), (.t 51)])
  (.op (some 50) none (.q (.mov (.t 52)))
  (.op (some 53) none (.q (.extr (.t 50) 0))
  (.op (some 54) none (.q (.extr (.t 50) 1))
  (.op (some 12) none (.n (.alloc [.nils, .nils]))
  (.op none none (.s (.store 2 (.t 12) (.t 53)))
  (.op (some 13) none (.q (.mov (.t 54)))
  .nil)))))))) [1, 3, 6, 7, 8, 9, 11, 12, 13] [1, 4, 6, 8, 10, 12])
 (.seq (.region none (.op (some 56) none (.q (.load 2 true (.t 1)))
  (.op (some 57) none (.call (.c (.one (.p (.fn fi_elem_One [] [])))) [(.c (.one (.p (.int .i64 21)))), (.t 56)])
  (.op (some 55) none (.q (.mov (.t 57)))
  (.op (some 58) none (.q (.extr (.t 55) 0))
  (.op (some 59) none (.q (.extr (.t 55) 1))
  (.op (some 14) none (.n (.alloc [.nils, .nils]))
  (.op none none (.s (.store 2 (.t 14) (.t 58)))
  (.op (some 15) none (.q (.mov (.t 59)))
  .nil)))))))) [1, 3, 6, 7, 8, 9, 11, 12, 13, 14, 15] [1, 4, 6, 8, 10, 12, 14])
 (.seq (.region none (.op (some 61) none (.q (.load 2 true (.t 14)))
  (.op (some 62) none (.call (.c (.one (.p (.fn fi_elem_One [] [])))) [(.c (.one (.p (.int .i64 21)))), (.t 61)])
  (.op (some 60) none (.q (.mov (.t 62)))
  (.op (some 63) none (.q (.extr (.t 60) 0))
  (.op (some 64) none (.q (.extr (.t 60) 1))
  (.op (some 16) none (.n (.alloc [.nils, .nils]))
  (.op none none (.s (.store 2 (.t 16) (.t 63)))
  (.op (some 17) none (.q (.mov (.t 64)))
  .nil)))))))) [1, 3, 6, 7, 8, 9, 11, 12, 13, 14, 15, 16, 17] [1, 4, 6, 8, 10, 12, 14, 16])
 (.seq (.seq (.region none (.op (some 18) none (.q (.mov (.c (.one (.p (.int .i64 0))))))
  .nil) [1, 3, 6, 7, 8, 9, 11, 12, 13, 14, 15, 16, 17, 18] [1, 4, 6, 8, 10, 12, 14, 16])
 (.block 0 (.loop (.seq (.seq (.region none (.op (some 65) none (.q (.mov (.t 18)))
  (.op (some 66) none (.q (.faddr 1 (.t 14)))
  (.op (some 67) none (.q (.load 1 false (.t 66)))
  (.op (some 68) none (.q (.len (.t 67)))
  (.op (some 69) none (.q (.bin .lss (.t 65) (.t 68)))
  (.op (some 70) none (.q (.mov (.t 69)))
  (.sc 76 70 true 75 none
  (.op (some 71) (some (70, true)) (.q (.mov (.t 18)))
  (.op (some 72) (some (70, true)) (.q (.faddr 1 (.t 1)))
  (.op (some 73) (some (70, true)) (.q (.load 1 false (.t 72)))
  (.op (some 74) (some (70, true)) (.q (.len (.t 73)))
  (.op (some 75) (some (70, true)) (.q (.bin .lss (.t 71) (.t 74)))
  .nil)))))
  .nil))))))) [1, 3, 6, 7, 8, 9, 11, 12, 13, 14, 15, 16, 17, 18, 76] [1, 4, 6, 8, 10, 12, 14, 16])
 (.cond (.t 76) .skip
 (.exit 0)))
 (.seq (.block 1 (.seq (.region (some ([] :: [] :: [0, 1] :: [] :: [] :: [] :: [] :: [] :: [] :: [7, 8] :: [] :: [] :: [7, 8, 9, 10, 11] :: [7, 8, 9, 10, 11] :: [7, 8, 9, 10, 11, 12, 13] :: [7, 8, 9, 10, 11] :: [7, 8, 9, 10, 11] :: [] :: [] :: [] :: [] :: [] :: [20, 21] :: [] :: [] :: [] :: [] :: [] :: [] :: [27, 28] :: [] :: [] :: [27, 28, 29, 30, 31] :: [27, 28, 29, 30, 31] :: [27, 28, 29, 30, 31, 32, 33] :: [27, 28, 29, 30, 31] :: [27, 28, 29, 30, 31] :: [] :: [] :: [] :: [])) (.op (some 79) none (.q (.faddr 1 (.t 14)))
  (.op (some 80) none (.q (.load 1 false (.t 79)))
  (.op (some 81) none (.q (.mov (.t 18)))
  (.op (some 82) none (.q (.iaddr 1 (.t 80) (.t 81)))
  (.op (some 83) none (.q (.load 1 false (.t 82)))
  (.op (some 84) none (.q (.bin .lss (.t 83) (.c (.one (.p (.int .i64 0))))))
  (.op (some 85) none (.q (.mov (.t 84)))
  (.sc 97 85 false 96 none
  (.op (some 86) (some (85, false)) (.q (.faddr 1 (.t 14)))
  (.op (some 87) (some (85, false)) (.q (.load 1 false (.t 86)))
  (.op (some 88) (some (85, false)) (.q (.mov (.t 18)))
  (.op (some 89) (some (85, false)) (.q (.iaddr 1 (.t 87) (.t 88)))
  (.op (some 90) (some (85, false)) (.q (.load 1 false (.t 89)))
  (.op (some 91) (some (85, false)) (.q (.faddr 1 (.t 1)))
  (.op (some 92) (some (85, false)) (.q (.load 1 false (.t 91)))
  (.op (some 93) (some (85, false)) (.q (.mov (.t 18)))
  (.op (some 94) (some (85, false)) (.q (.iaddr 1 (.t 92) (.t 93)))
  (.op (some 95) (some (85, false)) (.q (.load 1 false (.t 94)))
  (.op (some 96) (some (85, false)) (.q (.bin .lss (.t 90) (.t 95)))
  .nil)))))))))))
  (.op (some 98) none (.q (.mov (.t 97)))
  (.sc 118 98 false 117 none
  (.op (some 99) (some (98, false)) (.q (.faddr 1 (.t 14)))
  (.op (some 100) (some (98, false)) (.q (.load 1 false (.t 99)))
  (.op (some 101) (some (98, false)) (.q (.mov (.t 18)))
  (.op (some 102) (some (98, false)) (.q (.iaddr 1 (.t 100) (.t 101)))
  (.op (some 103) (some (98, false)) (.q (.load 1 false (.t 102)))
  (.op (some 104) (some (98, false)) (.q (.bin .neq (.t 103) (.c (.one (.p (.int .i64 0))))))
  (.op (some 105) (some (98, false)) (.q (.mov (.t 104)))
  (.sc 117 105 true 116 (some (98, false))
  (.op (some 106) (some (105, true)) (.q (.faddr 1 (.t 14)))
  (.op (some 107) (some (105, true)) (.q (.load 1 false (.t 106)))
  (.op (some 108) (some (105, true)) (.q (.mov (.t 18)))
  (.op (some 109) (some (105, true)) (.q (.iaddr 1 (.t 107) (.t 108)))
  (.op (some 110) (some (105, true)) (.q (.load 1 false (.t 109)))
  (.op (some 111) (some (105, true)) (.q (.faddr 1 (.t 1)))
  (.op (some 112) (some (105, true)) (.q (.load 1 false (.t 111)))
  (.op (some 113) (some (105, true)) (.q (.mov (.t 18)))
  (.op (some 114) (some (105, true)) (.q (.iaddr 1 (.t 112) (.t 113)))
  (.op (some 115) (some (105, true)) (.q (.load 1 false (.t 114)))
  (.op (some 116) (some (105, true)) (.q (.bin .neq (.t 110) (.t 115)))
  .nil)))))))))))
  .nil))))))))
  .nil)))))))))) [1, 3, 6, 7, 8, 9, 11, 12, 13, 14, 15, 16, 17, 18, 118] [1, 4, 6, 8, 10, 12, 14, 16])
 (.cond (.t 118) (.seq (.region none (.op (some 2) none (.q (.mov (.c (.one (.p (.bool false))))))
  .nil) [2] [1, 4, 6, 8, 10, 12, 14, 16])
 .ret)
 .skip)))
 (.region none (.op (some 77) none (.q (.mov (.t 18)))
  (.op (some 78) none (.q (.bin .add (.t 77) (.c (.one (.p (.int .i64 1))))))
  (.op (some 18) none (.q (.mov (.t 78)))
  .nil))) [1, 3, 6, 7, 8, 9, 11, 12, 13, 14, 15, 16, 17, 18] [1, 4, 6, 8, 10, 12, 14, 16]))))))
 (.seq (.region none (.op (some 119) none (.q (.mov (.t 3)))
  (.op (some 120) none (.q (.mov (.t 119)))
  (.sc 123 120 true 122 none
  (.op (some 121) (some (120, true)) (.q (.mov (.t 7)))
  (.op (some 122) (some (120, true)) (.q (.bin .eql (.t 121) (.c (.one (.p (.int .i64 0))))))
  .nil))
  (.op (some 124) none (.q (.mov (.t 123)))
  (.sc 127 124 true 126 none
  (.op (some 125) (some (124, true)) (.q (.mov (.t 9)))
  (.op (some 126) (some (124, true)) (.q (.bin .eql (.t 125) (.c (.one (.p (.int .i64 0))))))
  .nil))
  (.op (some 128) none (.q (.mov (.t 127)))
  (.sc 132 128 true 131 none
  (.op (some 129) (some (128, true)) (.q (.load 2 true (.t 6)))
  (.op (some 130) (some (128, true)) (.q (.load 2 true (.t 1)))
  (.op (some 131) (some (128, true)) (.call (.c (.one (.p (.fn fi_fullerref03_Same [] [])))) [(.t 129), (.t 130)])
  .nil)))
  (.op (some 133) none (.q (.mov (.t 132)))
  (.sc 137 133 true 136 none
  (.op (some 134) (some (133, true)) (.q (.load 2 true (.t 8)))
  (.op (some 135) (some (133, true)) (.q (.load 2 true (.t 1)))
  (.op (some 136) (some (133, true)) (.call (.c (.one (.p (.fn fi_fullerref03_Same [] [])))) [(.t 134), (.t 135)])
  .nil)))
  (.op (some 138) none (.q (.mov (.t 137)))
  (.sc 150 138 true 149 none
  (.op (some 139) (some (138, true)) (.q (.mov (.t 11)))
  (.op (some 140) (some (138, true)) (.q (.bin .neq (.t 139) (.c (.one (.p (.int .i64 0))))))
  (.op (some 141) (some (138, true)) (.q (.mov (.t 140)))
  (.sc 149 141 false 148 (some (138, true))
  (.op (some 142) (some (141, false)) (.q (.mov (.t 13)))
  (.op (some 143) (some (141, false)) (.q (.bin .eql (.t 142) (.c (.one (.p (.int .i64 0))))))
  (.op (some 144) (some (141, false)) (.q (.mov (.t 143)))
  (.sc 148 144 true 147 (some (141, false))
  (.op (some 145) (some (144, true)) (.q (.load 2 true (.t 12)))
  (.op (some 146) (some (144, true)) (.q (.load 2 true (.t 1)))
  (.op (some 147) (some (144, true)) (.call (.c (.one (.p (.fn fi_fullerref03_Same [] [])))) [(.t 145), (.t 146)])
  .nil)))
  .nil))))
  .nil))))
  (.op (some 151) none (.q (.mov (.t 150)))
  (.sc 154 151 true 153 none
  (.op (some 152) (some (151, true)) (.q (.mov (.t 15)))
  (.op (some 153) (some (151, true)) (.q (.bin .eql (.t 152) (.c (.one (.p (.int .i64 0))))))
  .nil))
  (.op (some 155) none (.q (.mov (.t 154)))
  (.sc 158 155 true 157 none
  (.op (some 156) (some (155, true)) (.q (.mov (.t 17)))
  (.op (some 157) (some (155, true)) (.q (.bin .eql (.t 156) (.c (.one (.p (.int .i64 0))))))
  .nil))
  (.op (some 159) none (.q (.mov (.t 158)))
  (.sc 163 159 true 162 none
  (.op (some 160) (some (159, true)) (.q (.load 2 true (.t 14)))
  (.op (some 161) (some (159, true)) (.q (.load 2 true (.t 16)))
  (.op (some 162) (some (159, true)) (.call (.c (.one (.p (.fn fi_fullerref03_Same [] [])))) [(.t 160), (.t 161)])
  .nil)))
  (.op (some 2) none (.q (.mov (.t 163)))
  .nil)))))))))))))))))) [2] [1, 4, 6, 8, 10, 12, 14, 16])
 .ret))))))))))))
theorem is_fullerlaw04_ElemOnes : compC Try.prog (Try.f12.body.getD .skip) = some a_fullerlaw04_ElemOnes.erase := by kernel_rfl
theorem ok_fullerlaw04_ElemOnes : a_fullerlaw04_ElemOnes.ok 164 = true := by kernel_rfl
theorem rv_fullerlaw04_ElemOnes : compRV Try.prog Try.f12.results.toList = some [.tmp 2] := by kernel_rfl
theorem pure_fullerlaw04_ElemOnes {ds : List DV} {r : DV} (hn : ds.length ≤ 164) (h : ∀ (G : AM.Ground), G.P = Try.prog → G.nt = 164 → T G Fence.wide 0 a_fullerlaw04_ElemOnes (AM.Ends [.tmp 2] r) { env := initE 0 ds, σ := [] }) : PureC Try.prog fi_fullerlaw04_ElemOnes ds r :=
  pureC_of Try.call12 Try.func12 (by rfl) is_fullerlaw04_ElemOnes ok_fullerlaw04_ElemOnes rv_fullerlaw04_ElemOnes hn h

def a_math_bits_Div64 : ACode := (.seq (.region none (.op (some 6) none (.q (.mov (.c (.one (.p (.int .u64 0))))))
  (.op (some 7) none (.q (.mov (.c (.one (.p (.int .u64 0))))))
  .nil)) [0, 1, 2] [])
 (.seq (.seq (.region none (.op (some 19) none (.q (.mov (.t 2)))
  (.op (some 20) none (.q (.bin .eql (.t 19) (.c (.one (.p (.int .u64 0))))))
  .nil)) [0, 1, 2, 20] [])
 (.cond (.t 20) (.region none (.op (some 21) none .bad
  (.op none none .bad
  .nil)) [0, 1, 2] [])
 .skip))
 (.seq (.seq (.region none (.op (some 22) none (.q (.mov (.t 2)))
  (.op (some 23) none (.q (.mov (.t 0)))
  (.op (some 24) none (.q (.bin .leq (.t 22) (.t 23)))
  .nil))) [0, 1, 2, 24] [])
 (.cond (.t 24) (.region none (.op (some 25) none .bad
  (.op none none .bad
  .nil)) [0, 1, 2] [])
 .skip))
 (.seq (.seq (.region none (.op (some 26) none (.q (.mov (.t 0)))
  (.op (some 27) none (.q (.bin .eql (.t 26) (.c (.one (.p (.int .u64 0))))))
  .nil)) [0, 1, 2, 27] [])
 (.cond (.t 27) (.seq (.region (some [[], [0], [], [0, 1, 2], [0, 1, 2, 3], [0, 1, 2], [3, 4, 5], []]) (.op (some 28) none (.q (.mov (.t 1)))
  (.op (some 29) none (.q (.mov (.t 2)))
  (.op (some 30) none (.q (.bin .quo (.t 28) (.t 29)))
  (.op (some 31) none (.q (.mov (.t 1)))
  (.op (some 32) none (.q (.mov (.t 2)))
  (.op (some 33) none (.q (.bin .rem (.t 31) (.t 32)))
  (.op (some 6) none (.q (.mov (.t 30)))
  (.op (some 7) none (.q (.mov (.t 33)))
  .nil)))))))) [6, 7] [])
 .ret)
 .skip))
 (.seq (.region none (.op (some 34) none (.q (.mov (.t 2)))
  (.op (some 35) none (.call (.c (.one (.p (.fn fi_math_bits_LeadingZeros64 [] [])))) [(.t 34)])
  (.op (some 36) none (.q (.conv .u64 (.t 35)))
  (.op (some 8) none (.q (.mov (.t 36)))
  .nil)))) [0, 1, 2, 8] [])
 (.seq (.region none (.op (some 37) none (.q (.mov (.t 2)))
  (.op (some 38) none (.q (.mov (.t 8)))
  (.op (some 39) none (.q (.bin .shl (.t 37) (.t 38)))
  (.op (some 2) none (.q (.mov (.t 39)))
  .nil)))) [0, 1, 2, 8] [])
 (.seq (.region none (.op (some 40) none (.q (.mov (.t 2)))
  (.op (some 41) none (.q (.bin .shr (.t 40) (.c (.one (.p (.int .u64 32))))))
  (.op (some 9) none (.q (.mov (.t 41)))
  .nil))) [0, 1, 2, 8, 9] [])
 (.seq (.region none (.op (some 42) none (.q (.mov (.t 2)))
  (.op (some 43) none (.q (.bin .and (.t 42) (.c (.one (.p (.int .u64 4294967295))))))
  (.op (some 10) none (.q (.mov (.t 43)))
  .nil))) [0, 1, 2, 8, 9, 10] [])
 (.seq (.region none (.op (some 44) none (.q (.mov (.t 0)))
  (.op (some 45) none (.q (.mov (.t 8)))
  (.op (some 46) none (.q (.bin .shl (.t 44) (.t 45)))
  (.op (some 47) none (.q (.mov (.t 1)))
  (.op (some 48) none (.q (.mov (.t 8)))
  (.op (some 49) none (.q (.bin .sub (.c (.one (.p (.int .u64 64)))) (.t 48)))
  (.op (some 50) none (.q (.bin .shr (.t 47) (.t 49)))
  (.op (some 51) none (.q (.bin .or (.t 46) (.t 50)))
  (.op (some 11) none (.q (.mov (.t 51)))
  .nil))))))))) [1, 2, 8, 9, 10, 11] [])
 (.seq (.region none (.op (some 52) none (.q (.mov (.t 1)))
  (.op (some 53) none (.q (.mov (.t 8)))
  (.op (some 54) none (.q (.bin .shl (.t 52) (.t 53)))
  (.op (some 12) none (.q (.mov (.t 54)))
  .nil)))) [2, 8, 9, 10, 11, 12] [])
 (.seq (.region none (.op (some 55) none (.q (.mov (.t 12)))
  (.op (some 56) none (.q (.bin .shr (.t 55) (.c (.one (.p (.int .u64 32))))))
  (.op (some 13) none (.q (.mov (.t 56)))
  .nil))) [2, 8, 9, 10, 11, 12, 13] [])
 (.seq (.region none (.op (some 57) none (.q (.mov (.t 12)))
  (.op (some 58) none (.q (.bin .and (.t 57) (.c (.one (.p (.int .u64 4294967295))))))
  (.op (some 14) none (.q (.mov (.t 58)))
  .nil))) [2, 8, 9, 10, 11, 13, 14] [])
 (.seq (.region none (.op (some 59) none (.q (.mov (.t 11)))
  (.op (some 60) none (.q (.mov (.t 9)))
  (.op (some 61) none (.q (.bin .quo (.t 59) (.t 60)))
  (.op (some 15) none (.q (.mov (.t 61)))
  .nil)))) [2, 8, 9, 10, 11, 13, 14, 15] [])
 (.seq (.region none (.op (some 62) none (.q (.mov (.t 11)))
  (.op (some 63) none (.q (.mov (.t 15)))
  (.op (some 64) none (.q (.mov (.t 9)))
  (.op (some 65) none (.q (.bin .mul (.t 63) (.t 64)))
  (.op (some 66) none (.q (.bin .sub (.t 62) (.t 65)))
  (.op (some 16) none (.q (.mov (.t 66)))
  .nil)))))) [2, 8, 9, 10, 11, 13, 14, 15, 16] [])
 (.seq (.block 0 (.loop (.seq (.seq (.region none (.op (some 67) none (.q (.mov (.t 15)))
  (.op (some 68) none (.q (.bin .geq (.t 67) (.c (.one (.p (.int .u64 4294967296))))))
  (.op (some 69) none (.q (.mov (.t 68)))
  (.sc 78 69 false 77 none
  (.op (some 70) (some (69, false)) (.q (.mov (.t 15)))
  (.op (some 71) (some (69, false)) (.q (.mov (.t 10)))
  (.op (some 72) (some (69, false)) (.q (.bin .mul (.t 70) (.t 71)))
  (.op (some 73) (some (69, false)) (.q (.mov (.t 16)))
  (.op (some 74) (some (69, false)) (.q (.bin .mul (.c (.one (.p (.int .u64 4294967296)))) (.t 73)))
  (.op (some 75) (some (69, false)) (.q (.mov (.t 13)))
  (.op (some 76) (some (69, false)) (.q (.bin .add (.t 74) (.t 75)))
  (.op (some 77) (some (69, false)) (.q (.bin .gtr (.t 72) (.t 76)))
  .nil))))))))
  .nil)))) [2, 8, 9, 10, 11, 13, 14, 15, 16, 78] [])
 (.cond (.t 78) .skip
 (.exit 0)))
 (.block 1 (.seq (.region none (.op (some 79) none (.q (.mov (.t 15)))
  (.op (some 80) none (.q (.bin .sub (.t 79) (.c (.one (.p (.int .u64 1))))))
  (.op (some 15) none (.q (.mov (.t 80)))
  .nil))) [2, 8, 9, 10, 11, 13, 14, 15, 16] [])
 (.seq (.region none (.op (some 81) none (.q (.mov (.t 16)))
  (.op (some 82) none (.q (.mov (.t 9)))
  (.op (some 83) none (.q (.bin .add (.t 81) (.t 82)))
  (.op (some 16) none (.q (.mov (.t 83)))
  .nil)))) [2, 8, 9, 10, 11, 13, 14, 15, 16] [])
 (.seq (.region none (.op (some 84) none (.q (.mov (.t 16)))
  (.op (some 85) none (.q (.bin .geq (.t 84) (.c (.one (.p (.int .u64 4294967296))))))
  .nil)) [2, 8, 9, 10, 11, 13, 14, 15, 16, 85] [])
 (.cond (.t 85) (.exit 0)
 .skip))))))))
 (.seq (.region none (.op (some 86) none (.q (.mov (.t 11)))
  (.op (some 87) none (.q (.bin .mul (.t 86) (.c (.one (.p (.int .u64 4294967296))))))
  (.op (some 88) none (.q (.mov (.t 13)))
  (.op (some 89) none (.q (.bin .add (.t 87) (.t 88)))
  (.op (some 90) none (.q (.mov (.t 15)))
  (.op (some 91) none (.q (.mov (.t 2)))
  (.op (some 92) none (.q (.bin .mul (.t 90) (.t 91)))
  (.op (some 93) none (.q (.bin .sub (.t 89) (.t 92)))
  (.op (some 17) none (.q (.mov (.t 93)))
  .nil))))))))) [2, 8, 9, 10, 14, 15, 17] [])
 (.seq (.region none (.op (some 94) none (.q (.mov (.t 17)))
  (.op (some 95) none (.q (.mov (.t 9)))
  (.op (some 96) none (.q (.bin .quo (.t 94) (.t 95)))
  (.op (some 18) none (.q (.mov (.t 96)))
  .nil)))) [2, 8, 9, 10, 14, 15, 17, 18] [])
 (.seq (.region none (.op (some 97) none (.q (.mov (.t 17)))
  (.op (some 98) none (.q (.mov (.t 18)))
  (.op (some 99) none (.q (.mov (.t 9)))
  (.op (some 100) none (.q (.bin .mul (.t 98) (.t 99)))
  (.op (some 101) none (.q (.bin .sub (.t 97) (.t 100)))
  (.op (some 16) none (.q (.mov (.t 101)))
  .nil)))))) [2, 8, 9, 10, 14, 15, 16, 17, 18] [])
 (.seq (.block 2 (.loop (.seq (.seq (.region none (.op (some 102) none (.q (.mov (.t 18)))
  (.op (some 103) none (.q (.bin .geq (.t 102) (.c (.one (.p (.int .u64 4294967296))))))
  (.op (some 104) none (.q (.mov (.t 103)))
  (.sc 113 104 false 112 none
  (.op (some 105) (some (104, false)) (.q (.mov (.t 18)))
  (.op (some 106) (some (104, false)) (.q (.mov (.t 10)))
  (.op (some 107) (some (104, false)) (.q (.bin .mul (.t 105) (.t 106)))
  (.op (some 108) (some (104, false)) (.q (.mov (.t 16)))
  (.op (some 109) (some (104, false)) (.q (.bin .mul (.c (.one (.p (.int .u64 4294967296)))) (.t 108)))
  (.op (some 110) (some (104, false)) (.q (.mov (.t 14)))
  (.op (some 111) (some (104, false)) (.q (.bin .add (.t 109) (.t 110)))
  (.op (some 112) (some (104, false)) (.q (.bin .gtr (.t 107) (.t 111)))
  .nil))))))))
  .nil)))) [2, 8, 9, 10, 14, 15, 16, 17, 18, 113] [])
 (.cond (.t 113) .skip
 (.exit 2)))
 (.block 3 (.seq (.region none (.op (some 114) none (.q (.mov (.t 18)))
  (.op (some 115) none (.q (.bin .sub (.t 114) (.c (.one (.p (.int .u64 1))))))
  (.op (some 18) none (.q (.mov (.t 115)))
  .nil))) [2, 8, 9, 10, 14, 15, 16, 17, 18] [])
 (.seq (.region none (.op (some 116) none (.q (.mov (.t 16)))
  (.op (some 117) none (.q (.mov (.t 9)))
  (.op (some 118) none (.q (.bin .add (.t 116) (.t 117)))
  (.op (some 16) none (.q (.mov (.t 118)))
  .nil)))) [2, 8, 9, 10, 14, 15, 16, 17, 18] [])
 (.seq (.region none (.op (some 119) none (.q (.mov (.t 16)))
  (.op (some 120) none (.q (.bin .geq (.t 119) (.c (.one (.p (.int .u64 4294967296))))))
  .nil)) [2, 8, 9, 10, 14, 15, 16, 17, 18, 120] [])
 (.cond (.t 120) (.exit 2)
 .skip))))))))
 (.seq (.region none (.op (some 121) none (.q (.mov (.t 15)))
  (.op (some 122) none (.q (.bin .mul (.t 121) (.c (.one (.p (.int .u64 4294967296))))))
  (.op (some 123) none (.q (.mov (.t 18)))
  (.op (some 124) none (.q (.bin .add (.t 122) (.t 123)))
  (.op (some 125) none (.q (.mov (.t 17)))
  (.op (some 126) none (.q (.bin .mul (.t 125) (.c (.one (.p (.int .u64 4294967296))))))
  (.op (some 127) none (.q (.mov (.t 14)))
  (.op (some 128) none (.q (.bin .add (.t 126) (.t 127)))
  (.op (some 129) none (.q (.mov (.t 18)))
  (.op (some 130) none (.q (.mov (.t 2)))
  (.op (some 131) none (.q (.bin .mul (.t 129) (.t 130)))
  (.op (some 132) none (.q (.bin .sub (.t 128) (.t 131)))
  (.op (some 133) none (.q (.mov (.t 8)))
  (.op (some 134) none (.q (.bin .shr (.t 132) (.t 133)))
  (.op (some 6) none (.q (.mov (.t 124)))
  (.op (some 7) none (.q (.mov (.t 134)))
  .nil)))))))))))))))) [6, 7] [])
 .ret))))))))))))))))))))
theorem is_math_bits_Div64 : compC Try.prog (Try.f146.body.getD .skip) = some a_math_bits_Div64.erase := by kernel_rfl
theorem ok_math_bits_Div64 : a_math_bits_Div64.ok 135 = true := by kernel_rfl
theorem rv_math_bits_Div64 : compRV Try.prog Try.f146.results.toList = some [.tmp 6, .tmp 7] := by kernel_rfl
theorem pure_math_bits_Div64 {ds : List DV} {r : DV} (hn : ds.length ≤ 135) (h : ∀ (G : AM.Ground), G.P = Try.prog → G.nt = 135 → T G Fence.wide 0 a_math_bits_Div64 (AM.Ends [.tmp 6, .tmp 7] r) { env := initE 0 ds, σ := [] }) : PureC Try.prog fi_math_bits_Div64 ds r :=
  pureC_of Try.call146 Try.func146 (by rfl) is_math_bits_Div64 ok_math_bits_Div64 rv_math_bits_Div64 hn h

def a_math_bits_LeadingZeros64 : ACode := (.seq (.region none (.op (some 2) none (.q (.mov (.c (.one (.p (.int .i64 0))))))
  .nil) [0] [])
 (.seq (.region none (.op (some 3) none (.q (.mov (.t 0)))
  (.op (some 4) none (.call (.c (.one (.p (.fn fi_math_bits_Len64 [] [])))) [(.t 3)])
  (.op (some 5) none (.q (.bin .sub (.c (.one (.p (.int .i64 64)))) (.t 4)))
  (.op (some 2) none (.q (.mov (.t 5)))
  .nil)))) [2] [])
 .ret))
theorem is_math_bits_LeadingZeros64 : compC Try.prog (Try.f152.body.getD .skip) = some a_math_bits_LeadingZeros64.erase := by kernel_rfl
theorem ok_math_bits_LeadingZeros64 : a_math_bits_LeadingZeros64.ok 6 = true := by kernel_rfl
theorem rv_math_bits_LeadingZeros64 : compRV Try.prog Try.f152.results.toList = some [.tmp 2] := by kernel_rfl
theorem pure_math_bits_LeadingZeros64 {ds : List DV} {r : DV} (hn : ds.length ≤ 6) (h : ∀ (G : AM.Ground), G.P = Try.prog → G.nt = 6 → T G Fence.wide 0 a_math_bits_LeadingZeros64 (AM.Ends [.tmp 2] r) { env := initE 0 ds, σ := [] }) : PureC Try.prog fi_math_bits_LeadingZeros64 ds r :=
  pureC_of Try.call152 Try.func152 (by rfl) is_math_bits_LeadingZeros64 ok_math_bits_LeadingZeros64 rv_math_bits_LeadingZeros64 hn h

def a_math_bits_Len64 : ACode := (.seq (.region none (.op (some 2) none (.q (.mov (.c (.one (.p (.int .i64 0))))))
  .nil) [0, 2] [])
 (.seq (.seq (.region none (.op (some 3) none (.q (.mov (.t 0)))
  (.op (some 4) none (.q (.bin .geq (.t 3) (.c (.one (.p (.int .u64 4294967296))))))
  .nil)) [0, 2, 4] [])
 (.cond (.t 4) (.seq (.region none (.op (some 5) none (.q (.mov (.t 0)))
  (.op (some 6) none (.q (.bin .shr (.t 5) (.c (.one (.p (.int .u64 32))))))
  (.op (some 0) none (.q (.mov (.t 6)))
  .nil))) [0] [])
 (.region none (.op (some 2) none (.q (.mov (.c (.one (.p (.int .i64 32))))))
  .nil) [0, 2] []))
 .skip))
 (.seq (.seq (.region none (.op (some 7) none (.q (.mov (.t 0)))
  (.op (some 8) none (.q (.bin .geq (.t 7) (.c (.one (.p (.int .u64 65536))))))
  .nil)) [0, 2, 8] [])
 (.cond (.t 8) (.seq (.region none (.op (some 9) none (.q (.mov (.t 0)))
  (.op (some 10) none (.q (.bin .shr (.t 9) (.c (.one (.p (.int .u64 16))))))
  (.op (some 0) none (.q (.mov (.t 10)))
  .nil))) [0, 2] [])
 (.region none (.op (some 11) none (.q (.mov (.t 2)))
  (.op (some 12) none (.q (.bin .add (.t 11) (.c (.one (.p (.int .i64 16))))))
  (.op (some 2) none (.q (.mov (.t 12)))
  .nil))) [0, 2] []))
 .skip))
 (.seq (.seq (.region none (.op (some 13) none (.q (.mov (.t 0)))
  (.op (some 14) none (.q (.bin .geq (.t 13) (.c (.one (.p (.int .u64 256))))))
  .nil)) [0, 2, 14] [])
 (.cond (.t 14) (.seq (.region none (.op (some 15) none (.q (.mov (.t 0)))
  (.op (some 16) none (.q (.bin .shr (.t 15) (.c (.one (.p (.int .u64 8))))))
  (.op (some 0) none (.q (.mov (.t 16)))
  .nil))) [0, 2] [])
 (.region none (.op (some 17) none (.q (.mov (.t 2)))
  (.op (some 18) none (.q (.bin .add (.t 17) (.c (.one (.p (.int .i64 8))))))
  (.op (some 2) none (.q (.mov (.t 18)))
  .nil))) [0, 2] []))
 .skip))
 (.seq (.region none (.op (some 19) none (.q (.mov (.t 2)))
  (.op (some 20) none (.q (.mov (.t 0)))
  (.op (some 21) none (.q (.conv .u8 (.t 20)))
  (.op (some 22) none (.q (.sidx (.c (.one (.p (.str ⟨#[0, 1, 2, 2, 3, 3, 3, 3, 4, 4, 4, 4, 4, 4, 4, 4, 5, 5, 5, 5, 5, 5, 5, 5, 5, 5, 5, 5, 5, 5, 5, 5, 6, 6, 6, 6, 6, 6, 6, 6, 6, 6, 6, 6, 6, 6, 6, 6, 6, 6, 6, 6, 6, 6, 6, 6, 6, 6, 6, 6, 6, 6, 6, 6, 7, 7, 7, 7, 7, 7, 7, 7, 7, 7, 7, 7, 7, 7, 7, 7, 7, 7, 7, 7, 7, 7, 7, 7, 7, 7, 7, 7, 7, 7, 7, 7, 7, 7, 7, 7, 7, 7, 7, 7, 7, 7, 7, 7, 7, 7, 7, 7, 7, 7, 7, 7, 7, 7, 7, 7, 7, 7, 7, 7, 7, 7, 7, 7, 8, 8, 8, 8, 8, 8, 8, 8, 8, 8, 8, 8, 8, 8, 8, 8, 8, 8, 8, 8, 8, 8, 8, 8, 8, 8, 8, 8, 8, 8, 8, 8, 8, 8, 8, 8, 8, 8, 8, 8, 8, 8, 8, 8, 8, 8, 8, 8, 8, 8, 8, 8, 8, 8, 8, 8, 8, 8, 8, 8, 8, 8, 8, 8, 8, 8, 8, 8, 8, 8, 8, 8, 8, 8, 8, 8, 8, 8, 8, 8, 8, 8, 8, 8, 8, 8, 8, 8, 8, 8, 8, 8, 8, 8, 8, 8, 8, 8, 8, 8, 8, 8, 8, 8, 8, 8, 8, 8, 8, 8, 8, 8, 8, 8, 8, 8, 8, 8, 8, 8, 8, 8, 8, 8, 8, 8, 8, 8]⟩)))) (.t 21)))
  (.op (some 23) none (.q (.conv .i64 (.t 22)))
  (.op (some 24) none (.q (.bin .add (.t 19) (.t 23)))
  (.op (some 2) none (.q (.mov (.t 24)))
  .nil))))))) [2] [])
 .ret)))))
theorem is_math_bits_Len64 : compC Try.prog (Try.f153.body.getD .skip) = some a_math_bits_Len64.erase := by kernel_rfl
theorem ok_math_bits_Len64 : a_math_bits_Len64.ok 25 = true := by kernel_rfl
theorem rv_math_bits_Len64 : compRV Try.prog Try.f153.results.toList = some [.tmp 2] := by kernel_rfl
theorem pure_math_bits_Len64 {ds : List DV} {r : DV} (hn : ds.length ≤ 25) (h : ∀ (G : AM.Ground), G.P = Try.prog → G.nt = 25 → T G Fence.wide 0 a_math_bits_Len64 (AM.Ends [.tmp 2] r) { env := initE 0 ds, σ := [] }) : PureC Try.prog fi_math_bits_Len64 ds r :=
  pureC_of Try.call153 Try.func153 (by rfl) is_math_bits_Len64 ok_math_bits_Len64 rv_math_bits_Len64 hn h

end Go.AM

namespace Go.AM
open Go Go.Proofs
set_option linter.unusedSimpArgs false
set_option linter.unusedVariables false

theorem emod_split (p b m : Int) (hb : 0 < b) (hm : 0 < m) : p % (m * b) = (p / b) % m * b + p % b := by
  have h1 := Int.mul_ediv_add_emod p b
  have h2 := Int.mul_ediv_add_emod (p / b) m
  have h3 := Int.emod_nonneg p (b := b) (by omega)
  have h4 := Int.emod_lt_of_pos p hb
  have h5 := Int.emod_nonneg (p / b) (b := m) (by omega)
  have h6 := Int.emod_lt_of_pos (p / b) hm
  generalize p / b / m = q at h2
  generalize (p / b) % m = r at h2 h5 h6 ⊢
  generalize p % b = t at h1 h3 h4 ⊢
  rw [← h2] at h1
  have e : p = (m * b) * q + (r * b + t) := by
    rw [← h1, Int.mul_add, Int.mul_comm b (m * q), Int.mul_assoc, Int.mul_comm q b, Int.mul_comm b r, ← Int.mul_assoc, Int.add_assoc]
  rw [e, Int.mul_add_emod_self_left]
  have h7 : 0 ≤ r * b := Int.mul_nonneg h5 (by omega)
  have h8 : (r + 1) * b ≤ m * b := Int.mul_le_mul_of_nonneg_right (by omega) (by omega)
  rw [Int.add_mul] at h8
  exact Int.emod_eq_of_lt (by omega) (by omega)

theorem pl_ix : ∀ {s : List Int} {p : Int}, Sides s → pl s (ix s p) 0 = p % prd s
  | [], p, _ => by simp [pl, prd, Int.emod_one]
  | m :: s, p, h => by
    have hm := h.head
    have hp := prd_pos h.tail
    simp only [pl, ix, prd]
    rw [pl_add (ix_in h.tail), pl_ix h.tail, emod_split p (prd s) m (by omega) (by omega)]
    simp

theorem pl_ix_lt {s : List Int} {p : Int} (h : Sides s) (h0 : 0 ≤ p) (h1 : p < prd s) : pl s (ix s p) 0 = p := by
  rw [pl_ix h, Int.emod_eq_of_lt h0 h1]
end Go.AM

namespace Go.AM
open Go Go.Proofs
set_option linter.unusedSimpArgs false
set_option linter.unusedVariables false

theorem mk_self {s d : List Int} (h : checkT s d = true) : mk s (fun x => (atF s d x).1) = d := by
  have hs := (checkT_iff.1 h).1
  have hd := (checkT_iff.1 h).2
  apply List.ext_getElem?
  intro p
  by_cases hp : (p : Int) < prd s
  · rw [mk_get hs _ hp, atF_ok h (ix_in hs.2.1), pl_ix_lt hs.2.1 (by omega) hp]
    simp only [Int.toNat_natCast]
    rw [List.getElem?_eq_getElem (by omega)]
    rfl
  · have h1 := mk_len hs fun x => (atF s d x).1
    rw [List.getElem?_eq_none (by omega), List.getElem?_eq_none (by omega)]

end Go.AM

namespace Go.AM
open Go Go.Proofs
set_option maxRecDepth 100000
set_option maxHeartbeats 4000000
set_option linter.unusedSimpArgs false
set_option linter.unusedVariables false

theorem fMul_one {a : Int} (h : I64 a) : fMul 4294967296 a = (a, 0) := by
  unfold fMul; rw [Int.mul_ediv_cancel_left _ (by decide)]; exact rng_in h
end Go.AM

namespace Go.AM
open Go Go.Proofs
set_option maxRecDepth 100000
set_option maxHeartbeats 4000000
set_option linter.unusedSimpArgs false
set_option linter.unusedVariables false

theorem coll_bad {f : Nat → Int × Int} {n : Nat} (h : (coll f n 0 []).2 ≠ 0) : ∃ k, k < n ∧ (∀ j, j < k → (f j).2 = 0) ∧ (f k).2 ≠ 0 ∧ coll f n 0 [] = ([], (f k).2) := by
  rcases coll_cases f n with c | ⟨j, hj, c1, c2⟩
  · rw [coll_ok (fun p hp => by rw [Nat.zero_add]; exact c p hp)] at h; exact absurd rfl h
  · have := coll_err (f := f) (n := n) (a := 0) (acc := []) hj (fun i hi => by rw [Nat.zero_add]; exact c1 i hi) (by rw [Nat.zero_add]; exact c2)
    rw [Nat.zero_add] at this
    exact ⟨j, hj, c1, c2, this⟩
theorem eachF_bad {s : List Int} {h : Nat → Int × Int} (k : (eachF s h).2 ≠ 0) : ∃ p, p < (sizeS s).toNat ∧ (h p).2 ≠ 0 ∧ eachF s h = bad (h p).2 := by
  by_cases c : (coll h (sizeS s).toNat 0 []).2 = 0
  · unfold eachF at k; rw [if_pos c] at k; exact absurd rfl k
  · obtain ⟨p, hp, _, h2, h3⟩ := coll_bad c
    refine ⟨p, hp, h2, ?_⟩
    unfold eachF; rw [h3, if_neg h2]

theorem rng_val {a : Int} (h : (rng a).2 = 0) : rng a = (a, 0) ∧ I64 a := by
  unfold rng at h ⊢; split at h <;> simp_all

end Go.AM

namespace Go.AM
open Go Go.Proofs
set_option maxRecDepth 100000
set_option maxHeartbeats 4000000
set_option linter.unusedSimpArgs false
set_option linter.unusedVariables false

def lenN (x : Nat) : Nat := if x = 0 then 0 else x.log2 + 1
theorem lenN_step {x k : Nat} (h : 2 ^ k ≤ x) : lenN x = lenN (x / 2 ^ k) + k := by
  have h0 : 0 < 2 ^ k := Nat.two_pow_pos k
  have hx : x ≠ 0 := by omega
  have hq : x / 2 ^ k ≠ 0 := by
    have := Nat.div_pos h h0
    omega
  unfold lenN
  rw [if_neg hx, if_neg hq]
  have h1 := (Nat.log2_eq_iff hq).1 rfl
  generalize (x / 2 ^ k).log2 = m at *
  have h2 : 2 ^ m * 2 ^ k ≤ x := Nat.le_trans (Nat.mul_le_mul_right _ h1.1) (Nat.div_mul_le_self x _)
  have h3 : x < 2 ^ (m + 1) * 2 ^ k := by
    rw [← Nat.div_lt_iff_lt_mul h0]; exact h1.2
  rw [← Nat.pow_add] at h2 h3
  have : x.log2 = m + k := (Nat.log2_eq_iff hx).2 ⟨h2, by rw [show m + k + 1 = m + 1 + k from by omega]; exact h3⟩
  omega
theorem lenN_lt {x : Nat} {n : Nat} (h : x < 2 ^ n) : lenN x ≤ n := by
  unfold lenN
  split
  · omega
  · rename_i hx
    have := (Nat.log2_eq_iff hx).1 rfl
    have h2 : 2 ^ x.log2 < 2 ^ n := Nat.lt_of_le_of_lt this.1 h
    have := (Nat.pow_lt_pow_iff_right (by decide : 1 < 2)).1 h2
    omega
theorem lenN_pow {x : Nat} (h : x ≠ 0) (hx : x < 18446744073709551616) : lenN x ≤ 64 ∧ 1 ≤ lenN x ∧ 9223372036854775808 ≤ x * 2 ^ (64 - lenN x) ∧ x * 2 ^ (64 - lenN x) < 18446744073709551616 := by
  have h1 := lenN_lt (n := 64) (x := x) (by omega)
  have h2 : lenN x = x.log2 + 1 := if_neg h
  have h3 := (Nat.log2_eq_iff h).1 rfl
  refine ⟨h1, by omega, ?_, ?_⟩
  · have : 2 ^ x.log2 * 2 ^ (64 - lenN x) ≤ x * 2 ^ (64 - lenN x) := Nat.mul_le_mul_right _ h3.1
    rw [← Nat.pow_add, show x.log2 + (64 - lenN x) = 63 from by omega] at this
    omega
  · have : x * 2 ^ (64 - lenN x) < 2 ^ (x.log2 + 1) * 2 ^ (64 - lenN x) := Nat.mul_lt_mul_of_pos_right h3.2 (Nat.two_pow_pos _)
    rw [← Nat.pow_add, show x.log2 + 1 + (64 - lenN x) = 64 from by omega] at this
    omega

/-- what is tried, and what is left: v1, v0: the divisor's halves; u: what there is, u1: the next half -/
structure Knuth (v1 v0 u u1 : Nat) : Prop where
  h1 : 2147483648 ≤ v1
  h2 : v1 < 4294967296
  h3 : v0 < 4294967296
  h4 : u < v1 * 4294967296 + v0
  h5 : u1 < 4294967296
def Knuth.q {v1 v0 u u1 : Nat} (_ : Knuth v1 v0 u u1) : Nat := (u * 4294967296 + u1) / (v1 * 4294967296 + v0)
theorem Knuth.q_lt {v1 v0 u u1 : Nat} (h : Knuth v1 v0 u u1) : h.q < 4294967296 := by
  have := h.h1; have := h.h4; have := h.h5
  unfold Knuth.q
  rw [Nat.div_lt_iff_lt_mul (by omega)]
  omega
theorem Knuth.lt_iff {v1 v0 u u1 : Nat} (h : Knuth v1 v0 u u1) {q r : Nat} (hq : q * v1 + r = u) : h.q < q ↔ q * v0 > 4294967296 * r + u1 := by
  have := h.h1
  unfold Knuth.q
  rw [Nat.div_lt_iff_lt_mul (by omega), Nat.mul_add, ← Nat.mul_assoc, ← hq]
  generalize q * v1 = P
  generalize q * v0 = A
  omega
theorem Knuth.start {v1 v0 u u1 : Nat} (h : Knuth v1 v0 u u1) : u / v1 * v1 + u % v1 = u ∧ h.q ≤ u / v1 ∧ u % v1 < 4294967296 := by
  have h1 := h.h1
  refine ⟨by rw [Nat.mul_comm]; exact Nat.div_add_mod u v1, ?_, by have := Nat.mod_lt u (y := v1) (by omega); have := h.h2; omega⟩
  rw [Nat.le_div_iff_mul_le (by omega)]
  have h2 : h.q * (v1 * 4294967296 + v0) ≤ u * 4294967296 + u1 := Nat.div_mul_le_self _ _
  rw [Nat.mul_add, ← Nat.mul_assoc] at h2
  have := h.h5
  generalize h.q * v1 = P at *
  generalize h.q * v0 = A at *
  omega
theorem Knuth.small {v1 v0 u u1 : Nat} (h : Knuth v1 v0 u u1) {q r : Nat} (hq : q * v1 + r = u) (hr : 4294967296 ≤ r) : q < 4294967296 ∧ q ≤ h.q := by
  have h1 := h.h1; have h2 := h.h2; have h3 := h.h3; have h4 := h.h4
  have hlt : q * v1 < 4294967296 * v1 := by
    rw [Nat.mul_comm 4294967296 v1]
    omega
  have hqb : q < 4294967296 := Nat.lt_of_mul_lt_mul_right hlt
  refine ⟨hqb, ?_⟩
  have : ¬ h.q < q := by
    rw [h.lt_iff hq]
    have hA : q * v0 ≤ 4294967296 * v0 := Nat.mul_le_mul_right v0 (by omega)
    omega
  omega
/-- what is left behind a digit -/
theorem Knuth.rest {v1 v0 u u1 : Nat} (h : Knuth v1 v0 u u1) : u * 4294967296 + u1 = h.q * (v1 * 4294967296 + v0) + (u * 4294967296 + u1) % (v1 * 4294967296 + v0) ∧ (u * 4294967296 + u1) % (v1 * 4294967296 + v0) < v1 * 4294967296 + v0 := by
  have h1 := h.h1
  refine ⟨?_, Nat.mod_lt _ (by omega)⟩
  unfold Knuth.q
  have := Nat.div_add_mod (u * 4294967296 + u1) (v1 * 4294967296 + v0)
  rw [Nat.mul_comm] at this
  exact this.symm

def tabL : Array UInt8 := #[0, 1, 2, 2, 3, 3, 3, 3, 4, 4, 4, 4, 4, 4, 4, 4, 5, 5, 5, 5, 5, 5, 5, 5, 5, 5, 5, 5, 5, 5, 5, 5, 6, 6, 6, 6, 6, 6, 6, 6, 6, 6, 6, 6, 6, 6, 6, 6, 6, 6, 6, 6, 6, 6, 6, 6, 6, 6, 6, 6, 6, 6, 6, 6, 7, 7, 7, 7, 7, 7, 7, 7, 7, 7, 7, 7, 7, 7, 7, 7, 7, 7, 7, 7, 7, 7, 7, 7, 7, 7, 7, 7, 7, 7, 7, 7, 7, 7, 7, 7, 7, 7, 7, 7, 7, 7, 7, 7, 7, 7, 7, 7, 7, 7, 7, 7, 7, 7, 7, 7, 7, 7, 7, 7, 7, 7, 7, 7, 8, 8, 8, 8, 8, 8, 8, 8, 8, 8, 8, 8, 8, 8, 8, 8, 8, 8, 8, 8, 8, 8, 8, 8, 8, 8, 8, 8, 8, 8, 8, 8, 8, 8, 8, 8, 8, 8, 8, 8, 8, 8, 8, 8, 8, 8, 8, 8, 8, 8, 8, 8, 8, 8, 8, 8, 8, 8, 8, 8, 8, 8, 8, 8, 8, 8, 8, 8, 8, 8, 8, 8, 8, 8, 8, 8, 8, 8, 8, 8, 8, 8, 8, 8, 8, 8, 8, 8, 8, 8, 8, 8, 8, 8, 8, 8, 8, 8, 8, 8, 8, 8, 8, 8, 8, 8, 8, 8, 8, 8, 8, 8, 8, 8, 8, 8, 8, 8, 8, 8, 8, 8, 8, 8, 8, 8, 8, 8]
theorem tab_lenN : ∀ x : Nat, x < 256 → tabL[x]? = some (UInt8.ofNat (lenN x)) := by decide +kernel
end Go.AM

namespace Go.AM
open Go Go.Proofs
set_option maxRecDepth 100000
set_option maxHeartbeats 4000000
set_option linter.unusedSimpArgs false
set_option linter.unusedVariables false

theorem tab_get (x : Nat) (h : x < 256) : (⟨#[0, 1, 2, 2, 3, 3, 3, 3, 4, 4, 4, 4, 4, 4, 4, 4, 5, 5, 5, 5, 5, 5, 5, 5, 5, 5, 5, 5, 5, 5, 5, 5, 6, 6, 6, 6, 6, 6, 6, 6, 6, 6, 6, 6, 6, 6, 6, 6, 6, 6, 6, 6, 6, 6, 6, 6, 6, 6, 6, 6, 6, 6, 6, 6, 7, 7, 7, 7, 7, 7, 7, 7, 7, 7, 7, 7, 7, 7, 7, 7, 7, 7, 7, 7, 7, 7, 7, 7, 7, 7, 7, 7, 7, 7, 7, 7, 7, 7, 7, 7, 7, 7, 7, 7, 7, 7, 7, 7, 7, 7, 7, 7, 7, 7, 7, 7, 7, 7, 7, 7, 7, 7, 7, 7, 7, 7, 7, 7, 8, 8, 8, 8, 8, 8, 8, 8, 8, 8, 8, 8, 8, 8, 8, 8, 8, 8, 8, 8, 8, 8, 8, 8, 8, 8, 8, 8, 8, 8, 8, 8, 8, 8, 8, 8, 8, 8, 8, 8, 8, 8, 8, 8, 8, 8, 8, 8, 8, 8, 8, 8, 8, 8, 8, 8, 8, 8, 8, 8, 8, 8, 8, 8, 8, 8, 8, 8, 8, 8, 8, 8, 8, 8, 8, 8, 8, 8, 8, 8, 8, 8, 8, 8, 8, 8, 8, 8, 8, 8, 8, 8, 8, 8, 8, 8, 8, 8, 8, 8, 8, 8, 8, 8, 8, 8, 8, 8, 8, 8, 8, 8, 8, 8, 8, 8, 8, 8, 8, 8, 8, 8, 8, 8, 8, 8, 8, 8]⟩ : ByteArray)[x]? = some (UInt8.ofNat (lenN x)) := by
  have := tab_lenN x h
  rw [Array.getElem?_eq_getElem (by rw [show tabL.size = 256 from rfl]; exact h)] at this
  rw [← this]
  exact getElem?_pos _ _ _

theorem u8_len {x : Nat} (h : x < 256) : (UInt8.ofNat (lenN x)).toNat = lenN x ∧ lenN x ≤ 8 := by
  have := lenN_lt (n := 8) (x := x) h
  refine ⟨?_, this⟩
  rw [UInt8.toNat_ofNat']
  omega

theorem u8_eq (n : Int) : IntKind.u8.wrap n = n % 256 := by
  simp [IntKind.wrap, IntKind.bits, IntKind.signed]
theorem p_Len64 {x : Nat} (hx : x < 18446744073709551616) : PureC Try.prog fi_math_bits_Len64 [dU x] (dN (lenN x)) := by
  refine pure_math_bits_Len64 (by simp) fun G hP hn => ?_
  unfold a_math_bits_Len64
  have fin : ∀ (y : Nat) (n : Int), y < 256 → (lenN x : Int) = lenN y + n → 0 ≤ n → n ≤ 56 → IntKind.u8.wrap (y : Int) = (y : Int) ∧ (⟨#[0, 1, 2, 2, 3, 3, 3, 3, 4, 4, 4, 4, 4, 4, 4, 4, 5, 5, 5, 5, 5, 5, 5, 5, 5, 5, 5, 5, 5, 5, 5, 5, 6, 6, 6, 6, 6, 6, 6, 6, 6, 6, 6, 6, 6, 6, 6, 6, 6, 6, 6, 6, 6, 6, 6, 6, 6, 6, 6, 6, 6, 6, 6, 6, 7, 7, 7, 7, 7, 7, 7, 7, 7, 7, 7, 7, 7, 7, 7, 7, 7, 7, 7, 7, 7, 7, 7, 7, 7, 7, 7, 7, 7, 7, 7, 7, 7, 7, 7, 7, 7, 7, 7, 7, 7, 7, 7, 7, 7, 7, 7, 7, 7, 7, 7, 7, 7, 7, 7, 7, 7, 7, 7, 7, 7, 7, 7, 7, 8, 8, 8, 8, 8, 8, 8, 8, 8, 8, 8, 8, 8, 8, 8, 8, 8, 8, 8, 8, 8, 8, 8, 8, 8, 8, 8, 8, 8, 8, 8, 8, 8, 8, 8, 8, 8, 8, 8, 8, 8, 8, 8, 8, 8, 8, 8, 8, 8, 8, 8, 8, 8, 8, 8, 8, 8, 8, 8, 8, 8, 8, 8, 8, 8, 8, 8, 8, 8, 8, 8, 8, 8, 8, 8, 8, 8, 8, 8, 8, 8, 8, 8, 8, 8, 8, 8, 8, 8, 8, 8, 8, 8, 8, 8, 8, 8, 8, 8, 8, 8, 8, 8, 8, 8, 8, 8, 8, 8, 8, 8, 8, 8, 8, 8, 8, 8, 8, 8, 8, 8, 8, 8, 8, 8, 8, 8, 8]⟩ : ByteArray)[y]? = some (UInt8.ofNat (lenN y)) ∧ IntKind.i64.wrap ((((UInt8.ofNat (lenN y)).toNat : Nat)) : Int) = (lenN y : Int) ∧ IntKind.i64.wrap (n + (lenN y : Int)) = (lenN x : Int) := fun y n h h2 h0 h3 => by
    have h4 := u8_len h
    refine ⟨by rw [u8_eq]; omega, tab_get y h, ?_, ?_⟩
    · rw [h4.1]; exact wrap_in (by omega) (by omega)
    · rw [wrap_in (by omega) (by omega), h2]; omega
  have s32 : shrZ .u64 (x : Int) 32 = ((x / 2 ^ 32 : Nat) : Int) := shr32 x
  have shr : ∀ (y k : Nat), k ≤ 64 → shrZ .u64 (y : Int) (k : Int) = ((y / 2 ^ k : Nat) : Int) := fun y k hk => by
    unfold shrZ
    rw [Int.toNat_natCast, show min k (IntKind.u64.bits) = k from by show min k 64 = k; omega, Int.fdiv_eq_ediv_of_nonneg _ (Int.pow_nonneg (by decide))]
    push_cast; rfl
  have shr16 : ∀ y : Nat, shrZ .u64 (y : Int) 16 = ((y / 2 ^ 16 : Nat) : Int) := fun y => shr y 16 (by decide)
  have shr8 : ∀ y : Nat, shrZ .u64 (y : Int) 8 = ((y / 2 ^ 8 : Nat) : Int) := fun y => shr y 8 (by decide)
  obtain ⟨x1, n1, e1, b1, h1⟩ : ∃ (x1 : Nat) (n1 : Int), (lenN x : Int) = lenN x1 + n1 ∧ x1 < 2 ^ 32 ∧ ((¬ (x : Int) ≥ 4294967296 ∧ x = x1 ∧ 0 = n1) ∨ ((x : Int) ≥ 4294967296 ∧ x / 2 ^ 32 = x1 ∧ 32 = n1)) := by
    by_cases h : x < 2 ^ 32
    · exact ⟨x, 0, by omega, h, .inl ⟨by omega, rfl, rfl⟩⟩
    · exact ⟨x / 2 ^ 32, 32, by have := lenN_step (x := x) (k := 32) (by omega); omega, by omega, .inr ⟨by omega, rfl, rfl⟩⟩
  obtain ⟨x2, n2, e2, b2, h2⟩ : ∃ (x2 : Nat) (n2 : Int), (lenN x1 : Int) = lenN x2 + n2 ∧ x2 < 2 ^ 16 ∧ ((¬ (x1 : Int) ≥ 65536 ∧ x1 = x2 ∧ 0 = n2) ∨ ((x1 : Int) ≥ 65536 ∧ x1 / 2 ^ 16 = x2 ∧ 16 = n2)) := by
    by_cases h : x1 < 2 ^ 16
    · exact ⟨x1, 0, by omega, h, .inl ⟨by omega, rfl, rfl⟩⟩
    · exact ⟨x1 / 2 ^ 16, 16, by have := lenN_step (x := x1) (k := 16) (by omega); omega, by omega, .inr ⟨by omega, rfl, rfl⟩⟩
  obtain ⟨x3, n3, e3, b3, h3⟩ : ∃ (x3 : Nat) (n3 : Int), (lenN x2 : Int) = lenN x3 + n3 ∧ x3 < 2 ^ 8 ∧ ((¬ (x2 : Int) ≥ 256 ∧ x2 = x3 ∧ 0 = n3) ∨ ((x2 : Int) ≥ 256 ∧ x2 / 2 ^ 8 = x3 ∧ 8 = n3)) := by
    by_cases h : x2 < 2 ^ 8
    · exact ⟨x2, 0, by omega, h, .inl ⟨by omega, rfl, rfl⟩⟩
    · exact ⟨x2 / 2 ^ 8, 8, by have := lenN_step (x := x2) (k := 8) (by omega); omega, by omega, .inr ⟨by omega, rfl, rfl⟩⟩
  have hnn : 0 ≤ n1 + n2 + n3 ∧ n1 + n2 + n3 ≤ 56 := by omega
  obtain ⟨g1, g2, g3, g4⟩ := fin x3 (n1 + n2 + n3) b3 (by omega) (by omega) (by omega)
  have w1 : IntKind.i64.wrap 8 = 8 := by decide
  have w2 : IntKind.i64.wrap 16 = 16 := by decide
  have w3 : IntKind.i64.wrap 24 = 24 := by decide
  have w4 : IntKind.i64.wrap 40 = 40 := by decide
  have w5 : IntKind.i64.wrap 48 = 48 := by decide
  have w6 : IntKind.i64.wrap 56 = 56 := by decide
  clear e1 e2 e3 fin shr
  rcases h1 with ⟨c1, rfl, rfl⟩ | ⟨c1, rfl, rfl⟩
  all_goals
    rcases h2 with ⟨c2, rfl, rfl⟩ | ⟨c2, rfl, rfl⟩
    all_goals
      rcases h3 with ⟨c3, rfl, rfl⟩ | ⟨c3, rfl, rfl⟩
      all_goals
        simp only [Int.add_zero, Int.zero_add, Int.reduceAdd] at g4
        repeat' (first | apply T_then | apply then_ret | apply then_exit | apply then_goto | apply rnd_exit | apply rnd_ret | apply rnd_goto | apply noGo_normal | apply noGo_ret | apply noGo_exit | apply jmp_normal | apply jmp_ret | apply jmp_exit | apply jmp_goto | apply inB_normal | apply inB_ret | apply inB_goto | apply inB_exit | refine inB_exit_ne rfl ?_ | ((first | apply T_srK fw | apply T_regK fw); · ((try simp only [TOps.flat, List.cons_append, List.nil_append]); repeat (first | apply X_g0 | apply X_g | apply S_keep | apply X_skip | apply X_skipN | apply X_q | apply X_st | apply X_n | apply X_s | apply SKs0 | apply SKs2 | apply SKs1 | refine ⟨⟨rfl, rfl⟩, ?_⟩ | refine ⟨⟨rfl, ?_⟩, ?_⟩ | refine ⟨?_, ?_⟩ | (· (try simp only [go_sem, seval, reduceIte, ↓reduceIte, Bool.not_eq_true, reduceCtorEq, beq_false, beq_true, hn, hP, c1, c2, c3, s32, shr16, shr8, w1, w2, w3, w4, w5, w6, g1, g2, g3, g4]); first | done | rfl)))) | apply T_seq | apply T_block | refine T_scopeJ 0 rfl ?_ | apply T_scope | apply T_goto | apply T_ret | apply T_skip | apply T_exit | apply T_label | refine T_condT rfl ?_ | refine T_condF rfl ?_ | refine T_condD rfl (fun _ => ?_) (fun _ => ?_) | refine T_cond rfl (fun _ => ?_) (fun _ => ?_))
        exact ends_ret rfl rfl rfl (by first | rfl | (simp only [Int.zero_add]; rw [g4]; rfl))

def lzN (x : Nat) : Nat := 64 - lenN x
theorem p_LZ64 {x : Nat} (hx : x < 18446744073709551616) : PureC Try.prog fi_math_bits_LeadingZeros64 [dU x] (dN (lzN x)) := by
  refine pure_math_bits_LeadingZeros64 (by simp) fun G hP hn => ?_
  unfold a_math_bits_LeadingZeros64
  have k := p_Len64 hx
  have hl := lenN_lt (n := 64) (x := x) (by omega)
  have w : IntKind.i64.wrap (64 - (lenN x : Int)) = (lzN x : Int) := by unfold lzN; rw [wrap_in (by omega) (by omega)]; omega
  repeat' (first | apply T_then | apply then_ret | apply then_exit | apply then_goto | apply rnd_exit | apply rnd_ret | apply rnd_goto | apply noGo_normal | apply noGo_ret | apply noGo_exit | apply jmp_normal | apply jmp_ret | apply jmp_exit | apply jmp_goto | apply inB_normal | apply inB_ret | apply inB_goto | apply inB_exit | refine inB_exit_ne rfl ?_ | ((first | apply T_srK fw | apply T_regK fw); · ((try simp only [TOps.flat, List.cons_append, List.nil_append]); repeat (first | apply X_g0 | apply X_g | apply S_keep | apply X_skip | apply X_skipN | refine X_call ?_ ⟨_, _, _, _, _, _, rfl, rfl, rfl, by rw [hP]; exact k⟩ ?_ | apply X_q | apply X_st | apply X_n | apply X_s | apply SKs0 | apply SKs2 | apply SKs1 | refine ⟨⟨rfl, rfl⟩, ?_⟩ | refine ⟨⟨rfl, ?_⟩, ?_⟩ | refine ⟨?_, ?_⟩ | (· (try simp only [go_sem, seval, reduceIte, ↓reduceIte, Bool.not_eq_true, reduceCtorEq, beq_false, beq_true, hn, hP, w]); first | done | rfl)))) | apply T_seq | apply T_block | refine T_scopeJ 0 rfl ?_ | apply T_scope | apply T_goto | apply T_ret | apply T_skip | apply T_exit | apply T_label | refine T_condT rfl ?_ | refine T_condF rfl ?_ | refine T_condD rfl (fun _ => ?_) (fun _ => ?_) | refine T_cond rfl (fun _ => ?_) (fun _ => ?_))
  exact ends_ret rfl rfl rfl rfl
end Go.AM

namespace Go.AM
open Go Go.Proofs
set_option maxRecDepth 100000
set_option maxHeartbeats 4000000
set_option linter.unusedSimpArgs false
set_option linter.unusedVariables false

theorem shlN {x k : Nat} (hk : k ≤ 64) (h : x * 2 ^ k < 18446744073709551616) : shlZ .u64 (x : Int) (k : Int) = ((x * 2 ^ k : Nat) : Int) := by
  unfold shlZ
  rw [Int.toNat_natCast, show min k (IntKind.u64.bits) = k from by show min k 64 = k; omega]
  have : (x : Int) * 2 ^ k = ((x * 2 ^ k : Nat) : Int) := by push_cast; rfl
  rw [this]; exact u64_nat h
theorem shlM {x k : Nat} (hk : k ≤ 64) : shlZ .u64 (x : Int) (k : Int) = ((x * 2 ^ k % 18446744073709551616 : Nat) : Int) := by
  unfold shlZ
  rw [Int.toNat_natCast, show min k (IntKind.u64.bits) = k from by show min k 64 = k; omega]
  have : (x : Int) * 2 ^ k = ((x * 2 ^ k : Nat) : Int) := by push_cast; rfl
  rw [this, u64_eq]
  generalize x * 2 ^ k = m
  omega
theorem shrN {y k : Nat} (hk : k ≤ 64) : shrZ .u64 (y : Int) (k : Int) = ((y / 2 ^ k : Nat) : Int) := by
  unfold shrZ
  rw [Int.toNat_natCast, show min k (IntKind.u64.bits) = k from by show min k 64 = k; omega, Int.fdiv_eq_ediv_of_nonneg _ (Int.pow_nonneg (by decide))]
  push_cast; rfl
theorem orN {x y k : Nat} (hk : k ≤ 64) (hx : x * 2 ^ k < 18446744073709551616) (hy : y < 2 ^ k) : orZ .u64 ((x * 2 ^ k : Nat) : Int) (y : Int) = ((x * 2 ^ k + y : Nat) : Int) := by
  have hy2 : y < 18446744073709551616 := by
    have : 2 ^ k ≤ 2 ^ 64 := Nat.pow_le_pow_right (by decide) hk
    omega
  have e : x * 2 ^ k ||| y = x * 2 ^ k + y := by
    rw [← Nat.shiftLeft_eq, Nat.shiftLeft_add_eq_or_of_lt hy]
  have hs : x * 2 ^ k + y < 18446744073709551616 := by
    rw [← e]
    exact Nat.or_lt_two_pow (n := 64) hx hy2
  unfold orZ
  have h1 : (BitVec.ofInt IntKind.u64.bits ((x * 2 ^ k : Nat) : Int)).toNat = x * 2 ^ k := by
    rw [BitVec.toNat_ofInt]
    show (((x * 2 ^ k : Nat) : Int) % (18446744073709551616 : Int)).toNat = _
    omega
  have h2 : (BitVec.ofInt IntKind.u64.bits (y : Int)).toNat = y := by
    rw [BitVec.toNat_ofInt]
    show ((y : Int) % (18446744073709551616 : Int)).toNat = _
    omega
  rw [BitVec.toNat_or, h1, h2, e]
  exact u64_nat hs

theorem p_Div64_0 {lo y : Nat} (hl : lo < 18446744073709551616) (hy : y < 18446744073709551616) (h0 : 0 < y) : PureC Try.prog fi_math_bits_Div64 [dU 0, dU lo, dU y] (dUU (lo / y) (lo % y)) := by
  refine pure_math_bits_Div64 (by simp) fun G hP hn => ?_
  unfold a_math_bits_Div64
  have c1 : ((y : Int) == 0) = false := by simp; omega
  have c1' : ((y : Int) = 0) = False := by simp; omega
  have c2 : ¬ (y : Int) ≤ 0 := by omega
  have hq := Nat.div_le_self lo y
  have hr := Nat.mod_lt lo h0
  have qd : IntKind.u64.wrap ((lo : Int).tdiv (y : Int)) = ((lo / y : Nat) : Int) := by
    rw [Int.tdiv_eq_ediv_of_nonneg (by omega), ← Int.natCast_ediv]
    exact u64_nat (by omega)
  have qm : (lo : Int).tmod (y : Int) = ((lo % y : Nat) : Int) := by rw [Int.tmod_eq_emod_of_nonneg (by omega)]; omega
  repeat' (first | apply T_then | apply then_ret | apply then_exit | apply then_goto | apply rnd_exit | apply rnd_ret | apply rnd_goto | apply noGo_normal | apply noGo_ret | apply noGo_exit | apply jmp_normal | apply jmp_ret | apply jmp_exit | apply jmp_goto | apply inB_normal | apply inB_ret | apply inB_goto | apply inB_exit | refine inB_exit_ne rfl ?_ | ((first | apply T_srK fw | apply T_regK fw); · ((try simp only [TOps.flat, List.cons_append, List.nil_append]); repeat (first | apply X_g0 | apply X_g | apply S_keep | apply X_skip | apply X_skipN | apply X_q | apply X_st | apply X_n | apply X_s | apply SKs0 | apply SKs2 | apply SKs1 | refine ⟨⟨rfl, rfl⟩, ?_⟩ | refine ⟨⟨rfl, ?_⟩, ?_⟩ | refine ⟨?_, ?_⟩ | (· (try simp only [go_sem, seval, reduceIte, ↓reduceIte, Bool.not_eq_true, reduceCtorEq, beq_false, beq_true, hn, hP, c1, c1', c2, qd, qm]); first | done | rfl)))) | ((first | apply T_sdF fw (by rw [hP]; rfl) (by decide +kernel) | apply T_drF fw (by rw [hP]; rfl) (by decide +kernel)); · ((try simp only [TOps.flat, List.cons_append, List.nil_append]); repeat (first | apply Y_g0 | apply Y_g | apply Y_skip | apply Y_q | refine RunF_nil (P := G.P) ?_ | (· (try simp only [go_sem, seval, reduceIte, ↓reduceIte, Bool.not_eq_true, reduceCtorEq, beq_false, beq_true, hn, hP, c1, c1', c2, qd, qm]); first | done | rfl)))) | apply T_seq | apply T_block | refine T_scopeJ 0 rfl ?_ | apply T_scope | apply T_goto | apply T_ret | apply T_skip | apply T_exit | apply T_label | refine T_condT rfl ?_ | refine T_condF rfl ?_ | refine T_condD rfl (fun _ => ?_) (fun _ => ?_) | refine T_cond rfl (fun _ => ?_) (fun _ => ?_))
  exact ends_ret rfl rfl rfl rfl
end Go.AM

namespace Go.AM
open Go Go.Proofs
set_option maxRecDepth 100000
set_option maxHeartbeats 8000000
set_option linter.unusedSimpArgs false
set_option linter.unusedVariables false

theorem T_cutX {G : Ground} {F : Fence} {n id : Nat} {Q : Exit → AS → Prop} {s S : AS} {c b : ACode} (h : T G F n c (fun e s' => e = .exit id ∧ Weak G s' S) s) (k : T G F n b Q S) : T G F n c (inB id (Then G F n b Q)) s :=
  T_mono h fun e s' ⟨h1, h2⟩ => by subst h1; exact inB_exit (T_then (T_weak h2 k))

theorem div_lin {b H Lh L U U1 U0 U2 A B R2 : Nat} (hU : U = H + Lh) (hL : L = U1 * b + U0) (h1 : U * b + U1 = A + U2) (h2 : U2 * b + U0 = B + R2) :
    H * (b * b) + (Lh * (b * b) + L) = A * b + B + R2 := by
  have e : H * (b * b) + (Lh * (b * b) + L) = (U * b + U1) * b + U0 := by
    rw [hU, hL]; simp only [Nat.add_mul, Nat.mul_assoc, Nat.add_assoc]
  rw [e, h1, Nat.add_mul, Nat.add_assoc, h2, Nat.add_assoc]
theorem kn_next {i r v : Nat} (h : i * 2147483648 ≤ r) (hv : 2147483648 ≤ v) : (i + 1) * 2147483648 ≤ r + v := by
  rw [Nat.add_mul, Nat.one_mul]; exact Nat.add_le_add h hv
theorem kn_lt {i r : Nat} (h : i * 2147483648 ≤ r) (h2 : r < 4294967296) : i < 2 :=
  Nat.lt_of_mul_lt_mul_right (Nat.lt_of_le_of_lt h h2 : i * 2147483648 < 2 * 2147483648)
theorem div_tail {T q y s Y R2 : Nat} (hY : Y = y * 2 ^ s) (e1 : T * 2 ^ s = (q * y) * 2 ^ s + R2) (h3 : R2 < Y) (hy : 0 < y) : T / y = q ∧ T % y = R2 / 2 ^ s := by
  have hp : 0 < 2 ^ s := Nat.two_pow_pos s
  have e2 : R2 = (T - q * y) * 2 ^ s := by rw [Nat.sub_mul]; omega
  have hle : q * y ≤ T := Nat.le_of_mul_le_mul_right (by omega : (q * y) * 2 ^ s ≤ T * 2 ^ s) hp
  have e3 : R2 / 2 ^ s = T - q * y := by rw [e2, Nat.mul_div_cancel _ hp]
  have e4 : T - q * y < y := by
    rw [e2, hY] at h3
    exact Nat.lt_of_mul_lt_mul_right h3
  have e5 : T = y * q + (T - q * y) := by rw [Nat.mul_comm y q]; omega
  rw [e3]
  generalize T - q * y = r at *
  subst e5
  exact ⟨by rw [Nat.mul_add_div hy, Nat.div_eq_of_lt e4]; rfl, by rw [Nat.mul_add_mod, Nat.mod_eq_of_lt e4]⟩
/-- the whole of it, from its two digits -/
theorem div_parts {hi lo y s Y U L Lh U1 U0 U2 R2 q1 q0 : Nat} (hY : Y = y * 2 ^ s) (hU : U = hi * 2 ^ s + Lh) (hl : lo * 2 ^ s = Lh * 18446744073709551616 + L) (hL : L = U1 * 4294967296 + U0)
    (h1 : U * 4294967296 + U1 = q1 * Y + U2) (h2 : U2 * 4294967296 + U0 = q0 * Y + R2) (h3 : R2 < Y) (hy : 0 < y) :
    (hi * 18446744073709551616 + lo) / y = q1 * 4294967296 + q0 ∧ (hi * 18446744073709551616 + lo) % y = R2 / 2 ^ s := by
  refine div_tail hY ?_ h3 hy
  have a1 : (hi * 18446744073709551616 + lo) * 2 ^ s = (hi * 2 ^ s) * 18446744073709551616 + lo * 2 ^ s := by
    rw [Nat.add_mul, Nat.mul_right_comm]
  have a2 : ((q1 * 4294967296 + q0) * y) * 2 ^ s = (q1 * Y) * 4294967296 + q0 * Y := by
    rw [hY, Nat.mul_assoc, Nat.add_mul, Nat.mul_right_comm q1]
  rw [a1, a2, hl]
  exact div_lin (b := 4294967296) hU hL h1 h2

theorem wrap_sub {N P R : Nat} (h : N = P + R) (hR : R < 18446744073709551616) : IntKind.u64.wrap (((N % 18446744073709551616 : Nat) : Int) - ((P % 18446744073709551616 : Nat) : Int)) = (R : Int) := by
  rw [u64_eq]; omega
theorem wrap_mulB (a : Nat) : IntKind.u64.wrap ((a : Int) * 4294967296) = ((a * 4294967296 % 18446744073709551616 : Nat) : Int) := by
  rw [u64_eq]; omega
theorem wrap_mulN (a b : Nat) : IntKind.u64.wrap ((a : Int) * (b : Int)) = ((a * b % 18446744073709551616 : Nat) : Int) := by
  rw [u64_eq, ← Int.natCast_mul]
  generalize a * b = m
  omega
theorem wrap_addM (a b : Nat) : IntKind.u64.wrap (((a % 18446744073709551616 : Nat) : Int) + (b : Int)) = (((a + b) % 18446744073709551616 : Nat) : Int) := by
  rw [u64_eq]; omega
theorem low_B {q : Nat} (h : q < 4294967296) : q * 4294967296 % 18446744073709551616 = q * 4294967296 := by omega
theorem low_BB {q r : Nat} (h : q < 4294967296) (h2 : r < 4294967296) : IntKind.u64.wrap (((q * 4294967296 : Nat) : Int) + (r : Int)) = ((q * 4294967296 + r : Nat) : Int) := by
  rw [← Int.natCast_add]; exact u64_nat (by omega)

theorem p_Div64_1 {hi lo y : Nat} (hl : lo < 18446744073709551616) (hy : y < 18446744073709551616) (h0 : 0 < hi) (h1 : hi < y) :
    PureC Try.prog fi_math_bits_Div64 [dU hi, dU lo, dU y] (dUU ((hi * 18446744073709551616 + lo) / y) ((hi * 18446744073709551616 + lo) % y)) := by
  refine pure_math_bits_Div64 (by simp) fun G hP hn => ?_
  unfold a_math_bits_Div64
  have c1 : ((y : Int) == 0) = false := by simp; omega
  have c2 : ¬ (y : Int) ≤ hi := by omega
  have c3 : ((hi : Int) == 0) = false := by simp; omega
  have kl := p_LZ64 hy
  obtain ⟨p1, p2, p3, p4⟩ := lenN_pow (x := y) (by omega) hy
  obtain ⟨s, hs⟩ : ∃ s, s = lzN y := ⟨_, rfl⟩
  have hs64 : s ≤ 63 := by rw [hs]; unfold lzN; omega
  rw [show 64 - lenN y = s from by rw [hs]; rfl] at p3 p4
  rw [← hs] at kl
  have es : IntKind.u64.wrap (s : Int) = (s : Int) := u64_nat (by omega)
  have hp : 0 < 2 ^ s := Nat.two_pow_pos s
  obtain ⟨Y, hY⟩ : ∃ Y, Y = y * 2 ^ s := ⟨_, rfl⟩
  have f1 : shlZ .u64 (y : Int) (s : Int) = (Y : Int) := by rw [hY]; exact shlN (by omega) p4
  rw [← hY] at p3 p4
  obtain ⟨V1, hV1⟩ : ∃ V1, V1 = Y / 4294967296 := ⟨_, rfl⟩
  obtain ⟨V0, hV0⟩ : ∃ V0, V0 = Y % 4294967296 := ⟨_, rfl⟩
  have f2 : shrZ .u64 (Y : Int) 32 = (V1 : Int) := by rw [hV1]; exact shr32 Y
  have f3 : andZ .u64 (Y : Int) 4294967295 = (V0 : Int) := by rw [hV0]; exact u64_and p4
  have hYV : Y = V1 * 4294967296 + V0 := by omega
  obtain ⟨Lh, hLh⟩ : ∃ Lh, Lh = lo / 2 ^ (64 - s) := ⟨_, rfl⟩
  have hpp : 2 ^ (64 - s) * 2 ^ s = 18446744073709551616 := by rw [← Nat.pow_add, show 64 - s + s = 64 from by omega]
  have hLhs : Lh < 2 ^ s := by
    rw [hLh, Nat.div_lt_iff_lt_mul (Nat.two_pow_pos _), Nat.mul_comm, hpp]; exact hl
  have hHy : hi * 2 ^ s + 2 ^ s ≤ Y := by
    have := Nat.mul_le_mul_right (2 ^ s) (show hi + 1 ≤ y from h1)
    rw [Nat.add_mul, Nat.one_mul] at this
    rw [hY]; exact this
  have f4 : shlZ .u64 (hi : Int) (s : Int) = ((hi * 2 ^ s : Nat) : Int) := shlN (by omega) (by omega)
  have f5 : IntKind.u64.wrap (64 - (s : Int)) = ((64 - s : Nat) : Int) := by
    rw [show (64 : Int) - (s : Int) = ((64 - s : Nat) : Int) from by omega]; exact u64_nat (by omega)
  have f6 : shrZ .u64 (lo : Int) ((64 - s : Nat) : Int) = (Lh : Int) := by rw [hLh]; exact shrN (by omega)
  obtain ⟨U, hU⟩ : ∃ U, U = hi * 2 ^ s + Lh := ⟨_, rfl⟩
  have f7 : orZ .u64 ((hi * 2 ^ s : Nat) : Int) (Lh : Int) = (U : Int) := by rw [hU]; exact orN (by omega) (by omega) hLhs
  obtain ⟨L, hL⟩ : ∃ L, L = lo * 2 ^ s % 18446744073709551616 := ⟨_, rfl⟩
  have f8 : shlZ .u64 (lo : Int) (s : Int) = (L : Int) := by rw [hL]; exact shlM (by omega)
  have hlo : lo * 2 ^ s = Lh * 18446744073709551616 + L := by
    have : lo * 2 ^ s / 18446744073709551616 = Lh := by
      rw [hLh, ← hpp, Nat.mul_div_mul_right _ _ hp]
    have := Nat.div_add_mod (lo * 2 ^ s) 18446744073709551616
    omega
  have hL64 : L < 18446744073709551616 := by rw [hL]; exact Nat.mod_lt _ (by decide)
  obtain ⟨U1, hU1⟩ : ∃ U1, U1 = L / 4294967296 := ⟨_, rfl⟩
  obtain ⟨U0, hU0⟩ : ∃ U0, U0 = L % 4294967296 := ⟨_, rfl⟩
  have f9 : shrZ .u64 (L : Int) 32 = (U1 : Int) := by rw [hU1]; exact shr32 L
  have f10 : andZ .u64 (L : Int) 4294967295 = (U0 : Int) := by rw [hU0]; exact u64_and hL64
  have hLU : L = U1 * 4294967296 + U0 := by omega
  have K : Knuth V1 V0 U U1 := ⟨by omega, by omega, by omega, by omega, by omega⟩
  have hU0b : U0 < 4294967296 := by omega
  clear hLh hL hV1 hV0 hU1 hU0 hs p1 p2
  have v0 : ((V1 : Int) = 0) = False := by have := K.h1; simp; omega
  have K1 := K.start
  have hQ0 := Nat.div_le_self U V1
  obtain ⟨Q0, hQ⟩ : ∃ Q0, Q0 = U / V1 := ⟨_, rfl⟩
  obtain ⟨R0, hR⟩ : ∃ R0, R0 = U % V1 := ⟨_, rfl⟩
  rw [← hQ, ← hR] at K1
  have hU64 : U < 18446744073709551616 := by omega
  have f11 : IntKind.u64.wrap ((U : Int).tdiv (V1 : Int)) = (Q0 : Int) := by
    rw [Int.tdiv_eq_ediv_of_nonneg (by omega), ← Int.natCast_ediv, ← hQ]
    exact u64_nat (by omega)
  have f12 : IntKind.u64.wrap ((Q0 : Int) * (V1 : Int)) = ((Q0 * V1 : Nat) : Int) := by rw [← Int.natCast_mul]; exact u64_nat (by omega)
  have f13 : IntKind.u64.wrap ((U : Int) - ((Q0 * V1 : Nat) : Int)) = (R0 : Int) := by
    rw [show (U : Int) - ((Q0 * V1 : Nat) : Int) = (R0 : Int) from by omega]; exact u64_nat (by omega)
  repeat' (first | apply T_then | apply then_ret | apply then_exit | apply then_goto | apply rnd_exit | apply rnd_ret | apply rnd_goto | apply noGo_normal | apply noGo_ret | apply noGo_exit | apply jmp_normal | apply jmp_ret | apply jmp_exit | apply jmp_goto | apply inB_normal | apply inB_ret | apply inB_goto | apply inB_exit | refine inB_exit_ne rfl ?_ | ((first | apply T_srK fw | apply T_regK fw); · ((try simp only [TOps.flat, List.cons_append, List.nil_append]); repeat (first | apply X_g0 | apply X_g | apply S_keep | apply X_skip | apply X_skipN | refine X_call ?_ ⟨_, _, _, _, _, _, rfl, rfl, rfl, by rw [hP]; exact kl⟩ ?_ | apply X_q | apply X_st | apply X_n | apply X_s | apply SKs0 | apply SKs2 | apply SKs1 | refine ⟨⟨rfl, rfl⟩, ?_⟩ | refine ⟨⟨rfl, ?_⟩, ?_⟩ | refine ⟨?_, ?_⟩ | (· (try simp only [go_sem, seval, reduceIte, ↓reduceIte, Bool.not_eq_true, reduceCtorEq, beq_false, beq_true, hn, hP, c1, c2, c3, es, f1, f2, f3, f4, f5, f6, f7, f8, f9, f10, v0, f11, f12, f13]); first | done | rfl)))) | apply T_seq | apply T_block | refine T_scopeJ 0 rfl ?_ | apply T_scope | apply T_goto | apply T_ret | apply T_skip | apply T_exit | apply T_label | refine T_condT rfl ?_ | refine T_condF rfl ?_ | refine T_condD rfl (fun _ => ?_) (fun _ => ?_) | refine T_cond rfl (fun _ => ?_) (fun _ => ?_))
  refine T_cutX (S := { env := [(2, .one (.p (.int .u64 Y))), (8, .one (.p (.int .u64 s))), (9, .one (.p (.int .u64 V1))), (10, .one (.p (.int .u64 V0))), (11, .one (.p (.int .u64 U))), (13, .one (.p (.int .u64 U1))), (14, .one (.p (.int .u64 U0))), (15, .one (.p (.int .u64 K.q))), (16, .one (.p (.int .u64 ((U - K.q * V1 : Nat) : Int))))], σ := [] }) ?_ ?_
  · refine T_for 2 (fun _ (a : Nat × Nat) => { env := [(2, .one (.p (.int .u64 Y))), (8, .one (.p (.int .u64 s))), (9, .one (.p (.int .u64 V1))), (10, .one (.p (.int .u64 V0))), (11, .one (.p (.int .u64 U))), (13, .one (.p (.int .u64 U1))), (14, .one (.p (.int .u64 U0))), (15, .one (.p (.int .u64 a.1))), (16, .one (.p (.int .u64 a.2)))], σ := [] })
      (fun i a => a.1 * V1 + a.2 = U ∧ K.q ≤ a.1 ∧ a.2 < 4294967296 ∧ i * 2147483648 ≤ a.2 ∧ a.1 ≤ Q0) (Q0, R0) ⟨K1.1, K1.2.1, K1.2.2, by rw [Nat.zero_mul]; exact Nat.zero_le _, Nat.le_refl _⟩ (.refl _ _) fun i a hi ha => ?_
    obtain ⟨q, r⟩ := a
    obtain ⟨a1, a2, a3, a4, a5⟩ := ha
    simp only at a1 a2 a3 a4 a5
    have hv := K.h1
    have hv2 := K.h2
    have hv0 := K.h3
    have hK := K.q_lt
    have hiff := K.lt_iff a1
    have dec : K.q < q → (q - 1) * V1 + (r + V1) = U := fun h => by
      have : q * V1 = (q - 1) * V1 + V1 := by
        conv => lhs; rw [show q = (q - 1) + 1 from by omega, Nat.add_mul, Nat.one_mul]
      omega
    have w1 : 1 ≤ q → IntKind.u64.wrap ((q : Int) - 1) = ((q - 1 : Nat) : Int) := fun h => by
      rw [show (q : Int) - 1 = ((q - 1 : Nat) : Int) from by omega]; exact u64_nat (by omega)
    have w2 : IntKind.u64.wrap ((r : Int) + (V1 : Int)) = ((r + V1 : Nat) : Int) := by rw [← Int.natCast_add]; exact u64_nat (by omega)
    have stop : ∀ q' r' : Nat, q' * V1 + r' = U → q' = K.q → r' = U - K.q * V1 := fun q' r' h1 h2 => by subst h2; omega
    by_cases b1 : 4294967296 ≤ q
    · have b1' : (q : Int) ≥ 4294967296 := by omega
      have hlt : K.q < q := by omega
      have hd := dec hlt
      have w1' := w1 (by omega)
      by_cases b2 : 4294967296 ≤ r + V1
      · have b2' : ((r + V1 : Nat) : Int) ≥ 4294967296 := by omega
        have hsm := K.small hd b2
        repeat' (first | apply T_then | apply then_ret | apply then_exit | apply then_goto | apply rnd_exit | apply rnd_ret | apply rnd_goto | apply noGo_normal | apply noGo_ret | apply noGo_exit | apply jmp_normal | apply jmp_ret | apply jmp_exit | apply jmp_goto | apply inB_normal | apply inB_ret | apply inB_goto | apply inB_exit | refine inB_exit_ne rfl ?_ | ((first | apply T_srK fw | apply T_regK fw); · ((try simp only [TOps.flat, List.cons_append, List.nil_append]); repeat (first | apply X_g0 | apply X_g | apply S_keep | apply X_skip | apply X_skipN | apply X_q | apply X_st | apply X_n | apply X_s | apply SKs0 | apply SKs2 | apply SKs1 | refine ⟨⟨rfl, rfl⟩, ?_⟩ | refine ⟨⟨rfl, ?_⟩, ?_⟩ | refine ⟨?_, ?_⟩ | (· (try simp only [go_sem, seval, reduceIte, ↓reduceIte, Bool.not_eq_true, reduceCtorEq, beq_false, beq_true, hn, hP, b1', w1', w2, b2']); first | done | rfl)))) | apply T_seq | apply T_block | refine T_scopeJ 0 rfl ?_ | apply T_scope | apply T_goto | apply T_ret | apply T_skip | apply T_exit | apply T_label | refine T_condT rfl ?_ | refine T_condF rfl ?_ | refine T_condD rfl (fun _ => ?_) (fun _ => ?_) | refine T_cond rfl (fun _ => ?_) (fun _ => ?_))
        refine ⟨rfl, ?_⟩
        rw [← stop _ _ hd (by omega), show K.q = q - 1 from by omega]
        exact Weak.pick [2, 8, 9, 10, 11, 13, 14, 15, 16]
      · have b2' : ¬ ((r + V1 : Nat) : Int) ≥ 4294967296 := by omega
        repeat' (first | apply T_then | apply then_ret | apply then_exit | apply then_goto | apply rnd_exit | apply rnd_ret | apply rnd_goto | apply noGo_normal | apply noGo_ret | apply noGo_exit | apply jmp_normal | apply jmp_ret | apply jmp_exit | apply jmp_goto | apply inB_normal | apply inB_ret | apply inB_goto | apply inB_exit | refine inB_exit_ne rfl ?_ | ((first | apply T_srK fw | apply T_regK fw); · ((try simp only [TOps.flat, List.cons_append, List.nil_append]); repeat (first | apply X_g0 | apply X_g | apply S_keep | apply X_skip | apply X_skipN | apply X_q | apply X_st | apply X_n | apply X_s | apply SKs0 | apply SKs2 | apply SKs1 | refine ⟨⟨rfl, rfl⟩, ?_⟩ | refine ⟨⟨rfl, ?_⟩, ?_⟩ | refine ⟨?_, ?_⟩ | (· (try simp only [go_sem, seval, reduceIte, ↓reduceIte, Bool.not_eq_true, reduceCtorEq, beq_false, beq_true, hn, hP, b1', w1', w2, b2']); first | done | rfl)))) | apply T_seq | apply T_block | refine T_scopeJ 0 rfl ?_ | apply T_scope | apply T_goto | apply T_ret | apply T_skip | apply T_exit | apply T_label | refine T_condT rfl ?_ | refine T_condF rfl ?_ | refine T_condD rfl (fun _ => ?_) (fun _ => ?_) | refine T_cond rfl (fun _ => ?_) (fun _ => ?_))
        exact rnd_next (kn_lt a4 a3) (q - 1, r + V1) ⟨hd, Nat.le_sub_one_of_lt hlt, Nat.lt_of_not_le b2, kn_next a4 hv, Nat.le_trans (Nat.sub_le _ _) a5⟩ (Weak.pick [2, 8, 9, 10, 11, 13, 14, 15, 16])
    · have b1' : ¬ (q : Int) ≥ 4294967296 := by omega
      have hA : q * V0 ≤ 4294967295 * V0 := Nat.mul_le_mul_right V0 (by omega)
      have w3 : IntKind.u64.wrap ((q : Int) * (V0 : Int)) = ((q * V0 : Nat) : Int) := by rw [← Int.natCast_mul]; exact u64_nat (by omega)
      have w4 : IntKind.u64.wrap (4294967296 * (r : Int)) = ((4294967296 * r : Nat) : Int) := by
        rw [show 4294967296 * (r : Int) = ((4294967296 * r : Nat) : Int) from by omega]; exact u64_nat (by omega)
      have w5 : IntKind.u64.wrap (((4294967296 * r : Nat) : Int) + (U1 : Int)) = ((4294967296 * r + U1 : Nat) : Int) := by
        have := K.h5
        rw [← Int.natCast_add]; exact u64_nat (by omega)
      by_cases b3 : q * V0 > 4294967296 * r + U1
      · have b3' : ((q * V0 : Nat) : Int) > ((4294967296 * r + U1 : Nat) : Int) := by omega
        have hlt : K.q < q := hiff.2 b3
        have hd := dec hlt
        have w1' := w1 (by omega)
        by_cases b2 : 4294967296 ≤ r + V1
        · have b2' : ((r + V1 : Nat) : Int) ≥ 4294967296 := by omega
          have hsm := K.small hd b2
          repeat' (first | apply T_then | apply then_ret | apply then_exit | apply then_goto | apply rnd_exit | apply rnd_ret | apply rnd_goto | apply noGo_normal | apply noGo_ret | apply noGo_exit | apply jmp_normal | apply jmp_ret | apply jmp_exit | apply jmp_goto | apply inB_normal | apply inB_ret | apply inB_goto | apply inB_exit | refine inB_exit_ne rfl ?_ | ((first | apply T_srK fw | apply T_regK fw); · ((try simp only [TOps.flat, List.cons_append, List.nil_append]); repeat (first | apply X_g0 | apply X_g | apply S_keep | apply X_skip | apply X_skipN | apply X_q | apply X_st | apply X_n | apply X_s | apply SKs0 | apply SKs2 | apply SKs1 | refine ⟨⟨rfl, rfl⟩, ?_⟩ | refine ⟨⟨rfl, ?_⟩, ?_⟩ | refine ⟨?_, ?_⟩ | (· (try simp only [go_sem, seval, reduceIte, ↓reduceIte, Bool.not_eq_true, reduceCtorEq, beq_false, beq_true, hn, hP, b1', w1', w2, w3, w4, w5, b2', b3']); first | done | rfl)))) | apply T_seq | apply T_block | refine T_scopeJ 0 rfl ?_ | apply T_scope | apply T_goto | apply T_ret | apply T_skip | apply T_exit | apply T_label | refine T_condT rfl ?_ | refine T_condF rfl ?_ | refine T_condD rfl (fun _ => ?_) (fun _ => ?_) | refine T_cond rfl (fun _ => ?_) (fun _ => ?_))
          refine ⟨rfl, ?_⟩
          rw [← stop _ _ hd (by omega), show K.q = q - 1 from by omega]
          exact Weak.pick [2, 8, 9, 10, 11, 13, 14, 15, 16]
        · have b2' : ¬ ((r + V1 : Nat) : Int) ≥ 4294967296 := by omega
          repeat' (first | apply T_then | apply then_ret | apply then_exit | apply then_goto | apply rnd_exit | apply rnd_ret | apply rnd_goto | apply noGo_normal | apply noGo_ret | apply noGo_exit | apply jmp_normal | apply jmp_ret | apply jmp_exit | apply jmp_goto | apply inB_normal | apply inB_ret | apply inB_goto | apply inB_exit | refine inB_exit_ne rfl ?_ | ((first | apply T_srK fw | apply T_regK fw); · ((try simp only [TOps.flat, List.cons_append, List.nil_append]); repeat (first | apply X_g0 | apply X_g | apply S_keep | apply X_skip | apply X_skipN | apply X_q | apply X_st | apply X_n | apply X_s | apply SKs0 | apply SKs2 | apply SKs1 | refine ⟨⟨rfl, rfl⟩, ?_⟩ | refine ⟨⟨rfl, ?_⟩, ?_⟩ | refine ⟨?_, ?_⟩ | (· (try simp only [go_sem, seval, reduceIte, ↓reduceIte, Bool.not_eq_true, reduceCtorEq, beq_false, beq_true, hn, hP, b1', w1', w2, w3, w4, w5, b2', b3']); first | done | rfl)))) | apply T_seq | apply T_block | refine T_scopeJ 0 rfl ?_ | apply T_scope | apply T_goto | apply T_ret | apply T_skip | apply T_exit | apply T_label | refine T_condT rfl ?_ | refine T_condF rfl ?_ | refine T_condD rfl (fun _ => ?_) (fun _ => ?_) | refine T_cond rfl (fun _ => ?_) (fun _ => ?_))
          exact rnd_next (kn_lt a4 a3) (q - 1, r + V1) ⟨hd, Nat.le_sub_one_of_lt hlt, Nat.lt_of_not_le b2, kn_next a4 hv, Nat.le_trans (Nat.sub_le _ _) a5⟩ (Weak.pick [2, 8, 9, 10, 11, 13, 14, 15, 16])
      · have b3' : ¬ ((q * V0 : Nat) : Int) > ((4294967296 * r + U1 : Nat) : Int) := by omega
        have hle : ¬ K.q < q := fun h => b3 (hiff.1 h)
        repeat' (first | apply T_then | apply then_ret | apply then_exit | apply then_goto | apply rnd_exit | apply rnd_ret | apply rnd_goto | apply noGo_normal | apply noGo_ret | apply noGo_exit | apply jmp_normal | apply jmp_ret | apply jmp_exit | apply jmp_goto | apply inB_normal | apply inB_ret | apply inB_goto | apply inB_exit | refine inB_exit_ne rfl ?_ | ((first | apply T_srK fw | apply T_regK fw); · ((try simp only [TOps.flat, List.cons_append, List.nil_append]); repeat (first | apply X_g0 | apply X_g | apply S_keep | apply X_skip | apply X_skipN | apply X_q | apply X_st | apply X_n | apply X_s | apply SKs0 | apply SKs2 | apply SKs1 | refine ⟨⟨rfl, rfl⟩, ?_⟩ | refine ⟨⟨rfl, ?_⟩, ?_⟩ | refine ⟨?_, ?_⟩ | (· (try simp only [go_sem, seval, reduceIte, ↓reduceIte, Bool.not_eq_true, reduceCtorEq, beq_false, beq_true, hn, hP, b1', w3, w4, w5, b3']); first | done | rfl)))) | apply T_seq | apply T_block | refine T_scopeJ 0 rfl ?_ | apply T_scope | apply T_goto | apply T_ret | apply T_skip | apply T_exit | apply T_label | refine T_condT rfl ?_ | refine T_condF rfl ?_ | refine T_condD rfl (fun _ => ?_) (fun _ => ?_) | refine T_cond rfl (fun _ => ?_) (fun _ => ?_))
        refine ⟨rfl, ?_⟩
        rw [← stop _ _ a1 (by omega), show K.q = q from by omega]
        exact Weak.pick [2, 8, 9, 10, 11, 13, 14, 15, 16]
  have hq1b := K.q_lt
  obtain ⟨q1, hq1⟩ : ∃ q1, q1 = K.q := ⟨_, rfl⟩
  have KR := K.rest
  rw [← hYV, ← hq1] at KR
  rw [← hq1] at hq1b
  obtain ⟨U2, hU2⟩ : ∃ U2, U2 = (U * 4294967296 + U1) % Y := ⟨_, rfl⟩
  rw [← hU2] at KR
  rw [← hq1]
  have t1 := wrap_mulB U
  have t2 := wrap_addM (U * 4294967296) U1
  have t3 := wrap_mulN q1 Y
  have t4 := wrap_sub KR.1 (Nat.lt_trans KR.2 p4)
  have K2 : Knuth V1 V0 U2 U0 := ⟨K.h1, K.h2, K.h3, by rw [← hYV]; exact KR.2, hU0b⟩
  have K21 := K2.start
  have hQ2' := Nat.div_le_self U2 V1
  have hU264 : U2 < 18446744073709551616 := Nat.lt_trans KR.2 p4
  obtain ⟨Q2, hQ2⟩ : ∃ Q2, Q2 = U2 / V1 := ⟨_, rfl⟩
  obtain ⟨R2, hR2⟩ : ∃ R2, R2 = U2 % V1 := ⟨_, rfl⟩
  rw [← hQ2, ← hR2] at K21
  have g11 : IntKind.u64.wrap ((U2 : Int).tdiv (V1 : Int)) = (Q2 : Int) := by
    rw [Int.tdiv_eq_ediv_of_nonneg (by omega), ← Int.natCast_ediv, ← hQ2]
    exact u64_nat (by omega)
  have g12 : IntKind.u64.wrap ((Q2 : Int) * (V1 : Int)) = ((Q2 * V1 : Nat) : Int) := by rw [← Int.natCast_mul]; exact u64_nat (by omega)
  have g13 : IntKind.u64.wrap ((U2 : Int) - ((Q2 * V1 : Nat) : Int)) = (R2 : Int) := by
    rw [show (U2 : Int) - ((Q2 * V1 : Nat) : Int) = (R2 : Int) from by omega]; exact u64_nat (by omega)
  repeat' (first | apply T_then | apply then_ret | apply then_exit | apply then_goto | apply rnd_exit | apply rnd_ret | apply rnd_goto | apply noGo_normal | apply noGo_ret | apply noGo_exit | apply jmp_normal | apply jmp_ret | apply jmp_exit | apply jmp_goto | apply inB_normal | apply inB_ret | apply inB_goto | apply inB_exit | refine inB_exit_ne rfl ?_ | ((first | apply T_srK fw | apply T_regK fw); · ((try simp only [TOps.flat, List.cons_append, List.nil_append]); repeat (first | apply X_g0 | apply X_g | apply S_keep | apply X_skip | apply X_skipN | apply X_q | apply X_st | apply X_n | apply X_s | apply SKs0 | apply SKs2 | apply SKs1 | refine ⟨⟨rfl, rfl⟩, ?_⟩ | refine ⟨⟨rfl, ?_⟩, ?_⟩ | refine ⟨?_, ?_⟩ | (· (try simp only [go_sem, seval, reduceIte, ↓reduceIte, Bool.not_eq_true, reduceCtorEq, beq_false, beq_true, hn, hP, t1, t2, t3, t4, v0, g11, g12, g13]); first | done | rfl)))) | apply T_seq | apply T_block | refine T_scopeJ 0 rfl ?_ | apply T_scope | apply T_goto | apply T_ret | apply T_skip | apply T_exit | apply T_label | refine T_condT rfl ?_ | refine T_condF rfl ?_ | refine T_condD rfl (fun _ => ?_) (fun _ => ?_) | refine T_cond rfl (fun _ => ?_) (fun _ => ?_))
  refine T_cutX (S := { env := [(2, .one (.p (.int .u64 Y))), (8, .one (.p (.int .u64 s))), (9, .one (.p (.int .u64 V1))), (10, .one (.p (.int .u64 V0))), (14, .one (.p (.int .u64 U0))), (15, .one (.p (.int .u64 q1))), (17, .one (.p (.int .u64 U2))), (18, .one (.p (.int .u64 K2.q))), (16, .one (.p (.int .u64 ((U2 - K2.q * V1 : Nat) : Int))))], σ := [] }) ?_ ?_
  · refine T_for 2 (fun _ (a : Nat × Nat) => { env := [(2, .one (.p (.int .u64 Y))), (8, .one (.p (.int .u64 s))), (9, .one (.p (.int .u64 V1))), (10, .one (.p (.int .u64 V0))), (14, .one (.p (.int .u64 U0))), (15, .one (.p (.int .u64 q1))), (17, .one (.p (.int .u64 U2))), (18, .one (.p (.int .u64 a.1))), (16, .one (.p (.int .u64 a.2)))], σ := [] })
      (fun i a => a.1 * V1 + a.2 = U2 ∧ K2.q ≤ a.1 ∧ a.2 < 4294967296 ∧ i * 2147483648 ≤ a.2 ∧ a.1 ≤ Q2) (Q2, R2) ⟨K21.1, K21.2.1, K21.2.2, by rw [Nat.zero_mul]; exact Nat.zero_le _, Nat.le_refl _⟩ (Weak.pick [2, 8, 9, 10, 14, 15, 17, 18, 16]) fun i a hi ha => ?_
    obtain ⟨q, r⟩ := a
    obtain ⟨a1, a2, a3, a4, a5⟩ := ha
    simp only at a1 a2 a3 a4 a5
    have hv := K2.h1
    have hv2 := K2.h2
    have hv0 := K2.h3
    have hK := K2.q_lt
    have hiff := K2.lt_iff a1
    have dec : K2.q < q → (q - 1) * V1 + (r + V1) = U2 := fun h => by
      have : q * V1 = (q - 1) * V1 + V1 := by
        conv => lhs; rw [show q = (q - 1) + 1 from by omega, Nat.add_mul, Nat.one_mul]
      omega
    have w1 : 1 ≤ q → IntKind.u64.wrap ((q : Int) - 1) = ((q - 1 : Nat) : Int) := fun h => by
      rw [show (q : Int) - 1 = ((q - 1 : Nat) : Int) from by omega]; exact u64_nat (by omega)
    have w2 : IntKind.u64.wrap ((r : Int) + (V1 : Int)) = ((r + V1 : Nat) : Int) := by rw [← Int.natCast_add]; exact u64_nat (by omega)
    have stop : ∀ q' r' : Nat, q' * V1 + r' = U2 → q' = K2.q → r' = U2 - K2.q * V1 := fun q' r' h1 h2 => by subst h2; omega
    by_cases b1 : 4294967296 ≤ q
    · have b1' : (q : Int) ≥ 4294967296 := by omega
      have hlt : K2.q < q := by omega
      have hd := dec hlt
      have w1' := w1 (by omega)
      by_cases b2 : 4294967296 ≤ r + V1
      · have b2' : ((r + V1 : Nat) : Int) ≥ 4294967296 := by omega
        have hsm := K2.small hd b2
        repeat' (first | apply T_then | apply then_ret | apply then_exit | apply then_goto | apply rnd_exit | apply rnd_ret | apply rnd_goto | apply noGo_normal | apply noGo_ret | apply noGo_exit | apply jmp_normal | apply jmp_ret | apply jmp_exit | apply jmp_goto | apply inB_normal | apply inB_ret | apply inB_goto | apply inB_exit | refine inB_exit_ne rfl ?_ | ((first | apply T_srK fw | apply T_regK fw); · ((try simp only [TOps.flat, List.cons_append, List.nil_append]); repeat (first | apply X_g0 | apply X_g | apply S_keep | apply X_skip | apply X_skipN | apply X_q | apply X_st | apply X_n | apply X_s | apply SKs0 | apply SKs2 | apply SKs1 | refine ⟨⟨rfl, rfl⟩, ?_⟩ | refine ⟨⟨rfl, ?_⟩, ?_⟩ | refine ⟨?_, ?_⟩ | (· (try simp only [go_sem, seval, reduceIte, ↓reduceIte, Bool.not_eq_true, reduceCtorEq, beq_false, beq_true, hn, hP, b1', w1', w2, b2']); first | done | rfl)))) | apply T_seq | apply T_block | refine T_scopeJ 0 rfl ?_ | apply T_scope | apply T_goto | apply T_ret | apply T_skip | apply T_exit | apply T_label | refine T_condT rfl ?_ | refine T_condF rfl ?_ | refine T_condD rfl (fun _ => ?_) (fun _ => ?_) | refine T_cond rfl (fun _ => ?_) (fun _ => ?_))
        refine ⟨rfl, ?_⟩
        rw [← stop _ _ hd (by omega), show K2.q = q - 1 from by omega]
        exact Weak.pick [2, 8, 9, 10, 14, 15, 17, 18, 16]
      · have b2' : ¬ ((r + V1 : Nat) : Int) ≥ 4294967296 := by omega
        repeat' (first | apply T_then | apply then_ret | apply then_exit | apply then_goto | apply rnd_exit | apply rnd_ret | apply rnd_goto | apply noGo_normal | apply noGo_ret | apply noGo_exit | apply jmp_normal | apply jmp_ret | apply jmp_exit | apply jmp_goto | apply inB_normal | apply inB_ret | apply inB_goto | apply inB_exit | refine inB_exit_ne rfl ?_ | ((first | apply T_srK fw | apply T_regK fw); · ((try simp only [TOps.flat, List.cons_append, List.nil_append]); repeat (first | apply X_g0 | apply X_g | apply S_keep | apply X_skip | apply X_skipN | apply X_q | apply X_st | apply X_n | apply X_s | apply SKs0 | apply SKs2 | apply SKs1 | refine ⟨⟨rfl, rfl⟩, ?_⟩ | refine ⟨⟨rfl, ?_⟩, ?_⟩ | refine ⟨?_, ?_⟩ | (· (try simp only [go_sem, seval, reduceIte, ↓reduceIte, Bool.not_eq_true, reduceCtorEq, beq_false, beq_true, hn, hP, b1', w1', w2, b2']); first | done | rfl)))) | apply T_seq | apply T_block | refine T_scopeJ 0 rfl ?_ | apply T_scope | apply T_goto | apply T_ret | apply T_skip | apply T_exit | apply T_label | refine T_condT rfl ?_ | refine T_condF rfl ?_ | refine T_condD rfl (fun _ => ?_) (fun _ => ?_) | refine T_cond rfl (fun _ => ?_) (fun _ => ?_))
        exact rnd_next (kn_lt a4 a3) (q - 1, r + V1) ⟨hd, Nat.le_sub_one_of_lt hlt, Nat.lt_of_not_le b2, kn_next a4 hv, Nat.le_trans (Nat.sub_le _ _) a5⟩ (Weak.pick [2, 8, 9, 10, 14, 15, 17, 18, 16])
    · have b1' : ¬ (q : Int) ≥ 4294967296 := by omega
      have hA : q * V0 ≤ 4294967295 * V0 := Nat.mul_le_mul_right V0 (by omega)
      have w3 : IntKind.u64.wrap ((q : Int) * (V0 : Int)) = ((q * V0 : Nat) : Int) := by rw [← Int.natCast_mul]; exact u64_nat (by omega)
      have w4 : IntKind.u64.wrap (4294967296 * (r : Int)) = ((4294967296 * r : Nat) : Int) := by
        rw [show 4294967296 * (r : Int) = ((4294967296 * r : Nat) : Int) from by omega]; exact u64_nat (by omega)
      have w5 : IntKind.u64.wrap (((4294967296 * r : Nat) : Int) + (U0 : Int)) = ((4294967296 * r + U0 : Nat) : Int) := by
        have := K2.h5
        rw [← Int.natCast_add]; exact u64_nat (by omega)
      by_cases b3 : q * V0 > 4294967296 * r + U0
      · have b3' : ((q * V0 : Nat) : Int) > ((4294967296 * r + U0 : Nat) : Int) := by omega
        have hlt : K2.q < q := hiff.2 b3
        have hd := dec hlt
        have w1' := w1 (by omega)
        by_cases b2 : 4294967296 ≤ r + V1
        · have b2' : ((r + V1 : Nat) : Int) ≥ 4294967296 := by omega
          have hsm := K2.small hd b2
          repeat' (first | apply T_then | apply then_ret | apply then_exit | apply then_goto | apply rnd_exit | apply rnd_ret | apply rnd_goto | apply noGo_normal | apply noGo_ret | apply noGo_exit | apply jmp_normal | apply jmp_ret | apply jmp_exit | apply jmp_goto | apply inB_normal | apply inB_ret | apply inB_goto | apply inB_exit | refine inB_exit_ne rfl ?_ | ((first | apply T_srK fw | apply T_regK fw); · ((try simp only [TOps.flat, List.cons_append, List.nil_append]); repeat (first | apply X_g0 | apply X_g | apply S_keep | apply X_skip | apply X_skipN | apply X_q | apply X_st | apply X_n | apply X_s | apply SKs0 | apply SKs2 | apply SKs1 | refine ⟨⟨rfl, rfl⟩, ?_⟩ | refine ⟨⟨rfl, ?_⟩, ?_⟩ | refine ⟨?_, ?_⟩ | (· (try simp only [go_sem, seval, reduceIte, ↓reduceIte, Bool.not_eq_true, reduceCtorEq, beq_false, beq_true, hn, hP, b1', w1', w2, w3, w4, w5, b2', b3']); first | done | rfl)))) | apply T_seq | apply T_block | refine T_scopeJ 0 rfl ?_ | apply T_scope | apply T_goto | apply T_ret | apply T_skip | apply T_exit | apply T_label | refine T_condT rfl ?_ | refine T_condF rfl ?_ | refine T_condD rfl (fun _ => ?_) (fun _ => ?_) | refine T_cond rfl (fun _ => ?_) (fun _ => ?_))
          refine ⟨rfl, ?_⟩
          rw [← stop _ _ hd (by omega), show K2.q = q - 1 from by omega]
          exact Weak.pick [2, 8, 9, 10, 14, 15, 17, 18, 16]
        · have b2' : ¬ ((r + V1 : Nat) : Int) ≥ 4294967296 := by omega
          repeat' (first | apply T_then | apply then_ret | apply then_exit | apply then_goto | apply rnd_exit | apply rnd_ret | apply rnd_goto | apply noGo_normal | apply noGo_ret | apply noGo_exit | apply jmp_normal | apply jmp_ret | apply jmp_exit | apply jmp_goto | apply inB_normal | apply inB_ret | apply inB_goto | apply inB_exit | refine inB_exit_ne rfl ?_ | ((first | apply T_srK fw | apply T_regK fw); · ((try simp only [TOps.flat, List.cons_append, List.nil_append]); repeat (first | apply X_g0 | apply X_g | apply S_keep | apply X_skip | apply X_skipN | apply X_q | apply X_st | apply X_n | apply X_s | apply SKs0 | apply SKs2 | apply SKs1 | refine ⟨⟨rfl, rfl⟩, ?_⟩ | refine ⟨⟨rfl, ?_⟩, ?_⟩ | refine ⟨?_, ?_⟩ | (· (try simp only [go_sem, seval, reduceIte, ↓reduceIte, Bool.not_eq_true, reduceCtorEq, beq_false, beq_true, hn, hP, b1', w1', w2, w3, w4, w5, b2', b3']); first | done | rfl)))) | apply T_seq | apply T_block | refine T_scopeJ 0 rfl ?_ | apply T_scope | apply T_goto | apply T_ret | apply T_skip | apply T_exit | apply T_label | refine T_condT rfl ?_ | refine T_condF rfl ?_ | refine T_condD rfl (fun _ => ?_) (fun _ => ?_) | refine T_cond rfl (fun _ => ?_) (fun _ => ?_))
          exact rnd_next (kn_lt a4 a3) (q - 1, r + V1) ⟨hd, Nat.le_sub_one_of_lt hlt, Nat.lt_of_not_le b2, kn_next a4 hv, Nat.le_trans (Nat.sub_le _ _) a5⟩ (Weak.pick [2, 8, 9, 10, 14, 15, 17, 18, 16])
      · have b3' : ¬ ((q * V0 : Nat) : Int) > ((4294967296 * r + U0 : Nat) : Int) := by omega
        have hle : ¬ K2.q < q := fun h => b3 (hiff.1 h)
        repeat' (first | apply T_then | apply then_ret | apply then_exit | apply then_goto | apply rnd_exit | apply rnd_ret | apply rnd_goto | apply noGo_normal | apply noGo_ret | apply noGo_exit | apply jmp_normal | apply jmp_ret | apply jmp_exit | apply jmp_goto | apply inB_normal | apply inB_ret | apply inB_goto | apply inB_exit | refine inB_exit_ne rfl ?_ | ((first | apply T_srK fw | apply T_regK fw); · ((try simp only [TOps.flat, List.cons_append, List.nil_append]); repeat (first | apply X_g0 | apply X_g | apply S_keep | apply X_skip | apply X_skipN | apply X_q | apply X_st | apply X_n | apply X_s | apply SKs0 | apply SKs2 | apply SKs1 | refine ⟨⟨rfl, rfl⟩, ?_⟩ | refine ⟨⟨rfl, ?_⟩, ?_⟩ | refine ⟨?_, ?_⟩ | (· (try simp only [go_sem, seval, reduceIte, ↓reduceIte, Bool.not_eq_true, reduceCtorEq, beq_false, beq_true, hn, hP, b1', w3, w4, w5, b3']); first | done | rfl)))) | apply T_seq | apply T_block | refine T_scopeJ 0 rfl ?_ | apply T_scope | apply T_goto | apply T_ret | apply T_skip | apply T_exit | apply T_label | refine T_condT rfl ?_ | refine T_condF rfl ?_ | refine T_condD rfl (fun _ => ?_) (fun _ => ?_) | refine T_cond rfl (fun _ => ?_) (fun _ => ?_))
        refine ⟨rfl, ?_⟩
        rw [← stop _ _ a1 (by omega), show K2.q = q from by omega]
        exact Weak.pick [2, 8, 9, 10, 14, 15, 17, 18, 16]
  have hq0b := K2.q_lt
  obtain ⟨q0, hq0⟩ : ∃ q0, q0 = K2.q := ⟨_, rfl⟩
  have KR2 := K2.rest
  rw [← hYV, ← hq0] at KR2
  rw [← hq0] at hq0b
  obtain ⟨X2, hX2⟩ : ∃ X2, X2 = (U2 * 4294967296 + U0) % Y := ⟨_, rfl⟩
  rw [← hX2] at KR2
  rw [← hq0]
  obtain ⟨r1, r2⟩ := div_parts hY hU hlo hLU KR.1 KR2.1 KR2.2 (by omega)
  have s1 := wrap_mulB q1
  rw [low_B hq1b] at s1
  have s2 := low_BB hq1b hq0b
  have s3 := wrap_mulB U2
  have s4 := wrap_addM (U2 * 4294967296) U0
  have s5 := wrap_mulN q0 Y
  have s6 := wrap_sub KR2.1 (Nat.lt_trans KR2.2 p4)
  have s7 : shrZ .u64 (X2 : Int) (s : Int) = ((X2 / 2 ^ s : Nat) : Int) := shrN (by omega)
  rw [r1, r2]
  repeat' (first | apply T_then | apply then_ret | apply then_exit | apply then_goto | apply rnd_exit | apply rnd_ret | apply rnd_goto | apply noGo_normal | apply noGo_ret | apply noGo_exit | apply jmp_normal | apply jmp_ret | apply jmp_exit | apply jmp_goto | apply inB_normal | apply inB_ret | apply inB_goto | apply inB_exit | refine inB_exit_ne rfl ?_ | ((first | apply T_srK fw | apply T_regK fw); · ((try simp only [TOps.flat, List.cons_append, List.nil_append]); repeat (first | apply X_g0 | apply X_g | apply S_keep | apply X_skip | apply X_skipN | apply X_q | apply X_st | apply X_n | apply X_s | apply SKs0 | apply SKs2 | apply SKs1 | refine ⟨⟨rfl, rfl⟩, ?_⟩ | refine ⟨⟨rfl, ?_⟩, ?_⟩ | refine ⟨?_, ?_⟩ | (· (try simp only [go_sem, seval, reduceIte, ↓reduceIte, Bool.not_eq_true, reduceCtorEq, beq_false, beq_true, hn, hP, s1, s2, s3, s4, s5, s6, s7]); first | done | rfl)))) | apply T_seq | apply T_block | refine T_scopeJ 0 rfl ?_ | apply T_scope | apply T_goto | apply T_ret | apply T_skip | apply T_exit | apply T_label | refine T_condT rfl ?_ | refine T_condF rfl ?_ | refine T_condD rfl (fun _ => ?_) (fun _ => ?_) | refine T_cond rfl (fun _ => ?_) (fun _ => ?_))
  exact ends_ret rfl rfl rfl rfl
end Go.AM

namespace Go.AM
open Go Go.Proofs
set_option maxRecDepth 100000
set_option maxHeartbeats 4000000
set_option linter.unusedSimpArgs false
set_option linter.unusedVariables false

theorem p_Div64 {hi lo y : Nat} (hl : lo < 18446744073709551616) (hy : y < 18446744073709551616) (h1 : hi < y) :
    PureC Try.prog fi_math_bits_Div64 [dU hi, dU lo, dU y] (dUU ((hi * 18446744073709551616 + lo) / y) ((hi * 18446744073709551616 + lo) % y)) := by
  by_cases h0 : hi = 0
  · subst h0
    rw [Nat.zero_mul, Nat.zero_add]
    exact p_Div64_0 hl hy h1
  · exact p_Div64_1 hl hy (by omega) h1

def fDiv (a b : Int) : Int × Int := if b = 0 then (0, 11) else rng (sgn (a.natAbs * 4294967296 / b.natAbs) (decide (a.natAbs * 4294967296 % b.natAbs ≠ 0)) (apart a b))
theorem div_words {A B : Nat} (hB : 0 < B) : A / 4294967296 / B * 18446744073709551616 + (A / 4294967296 % B * 18446744073709551616 + A % 4294967296 * 4294967296) / B = A * 4294967296 / B ∧
    (A / 4294967296 % B * 18446744073709551616 + A % 4294967296 * 4294967296) % B = A * 4294967296 % B := by
  have e1 := Nat.div_add_mod (A / 4294967296) B
  have e2 : A * 4294967296 = (A / 4294967296) * 18446744073709551616 + A % 4294967296 * 4294967296 := by omega
  have e3 : A * 4294967296 = B * ((A / 4294967296 / B) * 18446744073709551616) + (A / 4294967296 % B * 18446744073709551616 + A % 4294967296 * 4294967296) := by
    rw [e2, ← Nat.mul_assoc, ← Nat.add_assoc, ← Nat.add_mul, e1]
  rw [e3, Nat.mul_add_div hB, Nat.mul_add_mod]
  exact ⟨rfl, rfl⟩
theorem div_word {A B : Nat} (hB : 0 < B) : (A / 4294967296 % B * 18446744073709551616 + A % 4294967296 * 4294967296) / B < 18446744073709551616 := by
  have h1 := Nat.mod_lt (A / 4294967296) hB
  rw [Nat.div_lt_iff_lt_mul hB]
  generalize A / 4294967296 % B = h at *
  omega

theorem div_plan {A B : Nat} (hB : 0 < B) (hA : A ≤ 9223372036854775808) (hB2 : B ≤ 9223372036854775808) : ∃ hi lo w0 hm w1 rs : Nat, shrZ .u64 (A : Int) 32 = (hi : Int) ∧ shlZ .u64 (A : Int) 32 = (lo : Int) ∧ IntKind.u64.wrap ((hi : Int).tdiv (B : Int)) = (w0 : Int) ∧ (hi : Int).tmod (B : Int) = (hm : Int) ∧
    PureC Try.prog fi_math_bits_Div64 [dU hm, dU lo, dU B] (dUU w1 rs) ∧ w1 < 18446744073709551616 ∧ w0 < 18446744073709551615 ∧ w0 * 18446744073709551616 + w1 = A * 4294967296 / B ∧ rs = A * 4294967296 % B := by
  have hm := Nat.mod_lt (A / 4294967296) hB
  have hq := Nat.div_le_self (A / 4294967296) B
  have hA2 : A / 4294967296 < 4294967296 := by omega
  refine ⟨_, _, A / 4294967296 / B, A / 4294967296 % B, _, _, shr32 A, shl32 A, ?_, ?_, p_Div64 (by omega) (by omega) hm, div_word hB, by omega, (div_words hB).1, (div_words hB).2⟩
  · rw [Int.tdiv_eq_ediv_of_nonneg (by omega), ← Int.natCast_ediv]
    exact u64_nat (by omega)
  · rw [Int.tmod_eq_emod_of_nonneg (by omega)]; exact (Int.natCast_emod _ _).symm

theorem p_fix_Div {a b : Int} (ha : I64 a) (hb : I64 b) : PureC Try.prog fi_fix_Div [dN a, dN b] (dNE (fDiv a b)) := by
  refine pure_fix_Div (by simp) fun G hP hn => ?_
  unfold a_fix_Div
  by_cases hb0 : b = 0
  · subst hb0
    repeat' (first | apply T_then | apply then_ret | apply then_exit | apply then_goto | apply rnd_exit | apply rnd_ret | apply rnd_goto | apply noGo_normal | apply noGo_ret | apply noGo_exit | apply jmp_normal | apply jmp_ret | apply jmp_exit | apply jmp_goto | apply inB_normal | apply inB_ret | apply inB_goto | apply inB_exit | refine inB_exit_ne rfl ?_ | ((first | apply T_srK fw | apply T_regK fw); · ((try simp only [TOps.flat, List.cons_append, List.nil_append]); repeat (first | apply X_g0 | apply X_g | apply S_keep | apply X_skip | apply X_skipN | apply X_q | apply X_st | apply X_n | apply X_s | apply SKs0 | apply SKs2 | apply SKs1 | refine ⟨⟨rfl, rfl⟩, ?_⟩ | refine ⟨⟨rfl, ?_⟩, ?_⟩ | refine ⟨?_, ?_⟩ | (· (try simp only [go_sem, seval, reduceIte, ↓reduceIte, Bool.not_eq_true, reduceCtorEq, beq_false, beq_true, hn, hP]); first | done | rfl)))) | apply T_seq | apply T_block | refine T_scopeJ 0 rfl ?_ | apply T_scope | apply T_goto | apply T_ret | apply T_skip | apply T_exit | apply T_label | refine T_condT rfl ?_ | refine T_condF rfl ?_ | refine T_condD rfl (fun _ => ?_) (fun _ => ?_) | refine T_cond rfl (fun _ => ?_) (fun _ => ?_))
    exact ends_ret rfl rfl rfl rfl
  have c1 : (b == 0) = false := by simpa using hb0
  have la := abs_lt ha
  have lb := abs_lt hb
  have hB : 0 < b.natAbs := by omega
  have ka := p_fix_size ha
  have kb := p_fix_size hb
  have kp := p_fix_apart a b
  have hf : fDiv a b = rng (sgn (a.natAbs * 4294967296 / b.natAbs) (decide (a.natAbs * 4294967296 % b.natAbs ≠ 0)) (apart a b)) := if_neg hb0
  generalize apart a b = ap at *
  generalize a.natAbs = A at *
  generalize b.natAbs = B at *
  obtain ⟨hi, lo, w0, hm, w1, rs, e1, e2, e3, e4, kd, e5, e6, e7, e8⟩ := div_plan hB la lb
  rw [← e7, ← e8] at hf
  have b0 : ((B : Int) = 0) = False := by simp; omega
  have e9 : decide (rs ≠ 0) = ((rs : Int) != 0) := by rw [Bool.eq_iff_iff]; simp
  rw [e9] at hf
  have ks := p_fix_signed e5 e6 ((rs : Int) != 0) ap
  rw [← hf] at ks
  repeat' (first | apply T_then | apply then_ret | apply then_exit | apply then_goto | apply rnd_exit | apply rnd_ret | apply rnd_goto | apply noGo_normal | apply noGo_ret | apply noGo_exit | apply jmp_normal | apply jmp_ret | apply jmp_exit | apply jmp_goto | apply inB_normal | apply inB_ret | apply inB_goto | apply inB_exit | refine inB_exit_ne rfl ?_ | ((first | apply T_srK fw | apply T_regK fw); · ((try simp only [TOps.flat, List.cons_append, List.nil_append]); repeat (first | apply X_g0 | apply X_g | apply S_keep | apply X_skip | apply X_skipN | refine X_call ?_ ⟨_, _, _, _, _, _, rfl, rfl, rfl, by rw [hP]; exact ka⟩ ?_ | refine X_call ?_ ⟨_, _, _, _, _, _, rfl, rfl, rfl, by rw [hP]; exact kb⟩ ?_ | refine X_call ?_ ⟨_, _, _, _, _, _, rfl, rfl, rfl, by rw [hP]; exact kd⟩ ?_ | refine X_call ?_ ⟨_, _, _, _, _, _, rfl, rfl, rfl, by rw [hP]; exact kp⟩ ?_ | refine X_call ?_ ⟨_, _, _, _, _, _, rfl, rfl, rfl, by rw [hP]; exact ks⟩ ?_ | apply X_q | apply X_st | apply X_n | apply X_s | apply SKs0 | apply SKs2 | apply SKs1 | refine ⟨⟨rfl, rfl⟩, ?_⟩ | refine ⟨⟨rfl, ?_⟩, ?_⟩ | refine ⟨?_, ?_⟩ | (· (try simp only [go_sem, seval, reduceIte, ↓reduceIte, Bool.not_eq_true, reduceCtorEq, beq_false, beq_true, hn, hP, c1, b0, e1, e2, e3, e4]); first | done | rfl)))) | ((first | apply T_sdF fw (by rw [hP]; rfl) (by decide +kernel) | apply T_drF fw (by rw [hP]; rfl) (by decide +kernel)); · ((try simp only [TOps.flat, List.cons_append, List.nil_append]); repeat (first | apply Y_g0 | apply Y_g | apply Y_skip | apply Y_q | refine Y_call ⟨_, _, _, _, _, _, rfl, rfl, rfl, by rw [hP]; exact ka⟩ ?_ ?_ | refine Y_call ⟨_, _, _, _, _, _, rfl, rfl, rfl, by rw [hP]; exact kb⟩ ?_ ?_ | refine Y_call ⟨_, _, _, _, _, _, rfl, rfl, rfl, by rw [hP]; exact kd⟩ ?_ ?_ | refine Y_call ⟨_, _, _, _, _, _, rfl, rfl, rfl, by rw [hP]; exact kp⟩ ?_ ?_ | refine Y_call ⟨_, _, _, _, _, _, rfl, rfl, rfl, by rw [hP]; exact ks⟩ ?_ ?_ | refine RunF_nil (P := G.P) ?_ | (· (try simp only [go_sem, seval, reduceIte, ↓reduceIte, Bool.not_eq_true, reduceCtorEq, beq_false, beq_true, hn, hP, c1, b0, e1, e2, e3, e4]); first | done | rfl)))) | ((first | apply T_sd fw (by rw [hP]; rfl) | apply T_dr fw (by rw [hP]; rfl)); · ((try simp only [go_sem, seval, reduceIte, ↓reduceIte, bne, beq_false, beq_true, Bool.not_eq_true, Bool.if_true_right, decide_not, reduceCtorEq, hP, c1, b0, e1, e2, e3, e4]); (repeat ((first       | (refine ⟨_, ⟨_, _, _, _, _, _, rfl, rfl, rfl, ka⟩, ?_⟩)       | (refine ⟨_, ⟨_, _, _, _, _, _, rfl, rfl, rfl, kb⟩, ?_⟩)       | (refine ⟨_, ⟨_, _, _, _, _, _, rfl, rfl, rfl, kd⟩, ?_⟩)       | (refine ⟨_, ⟨_, _, _, _, _, _, rfl, rfl, rfl, kp⟩, ?_⟩)       | (refine ⟨_, ⟨_, _, _, _, _, _, rfl, rfl, rfl, ks⟩, ?_⟩)); (try simp only [go_sem, seval, reduceIte, ↓reduceIte, bne, beq_false, beq_true, Bool.not_eq_true, Bool.if_true_right, decide_not, reduceCtorEq, hP, c1, b0, e1, e2, e3, e4]))); (first | done | exact rfl))) | apply T_seq | apply T_block | refine T_scopeJ 0 rfl ?_ | apply T_scope | apply T_goto | apply T_ret | apply T_skip | apply T_exit | apply T_label | refine T_condT rfl ?_ | refine T_condF rfl ?_ | refine T_condD rfl (fun _ => ?_) (fun _ => ?_) | refine T_cond rfl (fun _ => ?_) (fun _ => ?_))
  exact ends_ret rfl rfl rfl rfl
end Go.AM

namespace Go.AM
open Go Go.Proofs
set_option maxRecDepth 100000
set_option maxHeartbeats 4000000
set_option linter.unusedSimpArgs false
set_option linter.unusedVariables false

theorem k_Div {s d t e : List Int} (hd : I64s d) (he : I64s e) : PureC Try.prog fi_elem_Two [dN 13, dT s d, dT t e] (dTE (twoF fDiv s d t e)) := p_elem_Two (.inr (.inr (.inr ⟨rfl, rfl⟩))) (fun _ _ ha hb => p_fix_Div ha hb) s d t e hd he

theorem map_gt {d : List Int} {n : Nat} (h : d.length = n) (f : Int → Int) : ((List.range n).map fun p => f (gt d p)) = d.map f := by
  subst h
  apply List.ext_getElem?
  intro i
  by_cases hi : i < d.length
  · rw [List.getElem?_map, List.getElem?_map, List.getElem?_range hi, List.getElem?_eq_getElem hi]
    simp only [Option.map_some]
    congr 1
    unfold gt
    rw [List.getElem?_eq_getElem hi]; rfl
  · rw [List.getElem?_eq_none (by simp; omega), List.getElem?_eq_none (by simp; omega)]
theorem check_size {s d : List Int} (h : checkT s d = true) : d.length = (sizeS s).toNat := by
  obtain ⟨h1, h2⟩ := checkT_iff.1 h
  have := sizeS_ok h1
  omega
theorem gt_mem {d : List Int} {p : Nat} (h : p < d.length) : gt d p ∈ d := List.mem_of_getElem? (gt_some h)
theorem one_map {W : Int → Int × Int} {s d : List Int} (h : checkT s d = true) (hW : ∀ v ∈ d, (W v).2 = 0) : oneF W s d = ((s, d.map fun v => (W v).1), 0) := by
  have hl := check_size h
  unfold oneF
  rw [if_pos h, eachF_ok (fun p hp => hW _ (gt_mem (by omega))), map_gt hl fun v => (W v).1]
theorem op1_inv {W : Int → Int × Int} {s d : List Int} (h : (oneF W s d).2 = 0) : checkT s d = true ∧ (∀ v ∈ d, (W v).2 = 0) := by
  by_cases hc : checkT s d = true
  · refine ⟨hc, fun v hv => ?_⟩
    have hl := check_size hc
    unfold oneF at h
    rw [if_pos hc] at h
    obtain ⟨p, hp, e⟩ := List.getElem_of_mem hv
    have := eachF_inv h p (by omega)
    have e2 : gt d p = v := by unfold gt; rw [List.getElem?_eq_getElem hp, e]; rfl
    rwa [e2] at this
  · unfold oneF at h; rw [if_neg hc] at h; simp [bad] at h
theorem one_bad {W : Int → Int × Int} {s d : List Int} (h : (oneF W s d).2 ≠ 0) : oneF W s d = bad (oneF W s d).2 := by
  unfold oneF at h ⊢
  split
  · rename_i hc
    rw [if_pos hc] at h
    obtain ⟨p, _, _, hp⟩ := eachF_bad h
    rw [hp]; rfl
  · rfl
theorem check_map {s d : List Int} (h : checkT s d = true) (f : Int → Int) : checkT s (d.map f) = true := by
  obtain ⟨h1, h2⟩ := checkT_iff.1 h
  exact checkT_iff.2 ⟨h1, by simpa using h2⟩

theorem val_nil (v : Int) (x : List Int) : val [] [v] (fromX [] x) = v := by
  have : fromX [] x = [] := rfl
  rw [this]; rfl
theorem two_one {W : Int → Int → Int × Int} {s d : List Int} (h : checkT s d = true) (hd : I64s d) {o : Int} (hW : ∀ v, I64 v → W v o = (v, 0)) : twoF W s d [] [o] = ((s, d), 0) := by
  have hs := (checkT_iff.1 h).1
  have h0 : checkT [] [o] = true := checkT_iff.2 ⟨shape_nil, by simp [prd]⟩
  have hv : ∀ x, InIdx s x → W (val s d (fromX s x)) (val [] [o] (fromX [] x)) = (val s d x, 0) := fun x hx => by
    rw [val_nil, hW _ (val_range hd), fromX_self hx]
  rw [two_ok h h0 (JoinOk.nil hs).comm (fun x hx => by rw [hv x hx])]
  congr 2
  rw [mk_congr hs (fun x hx => by rw [hv x hx])]
  exact mk_self h
theorem fDiv_one {v : Int} (h : I64 v) : fDiv v 4294967296 = (v, 0) := by
  unfold fDiv
  rw [if_neg (by decide)]
  have e1 : (4294967296 : Int).natAbs = 4294967296 := rfl
  rw [e1, Nat.mul_div_cancel _ (by decide), Nat.mul_mod_left]
  have e2 : sgn v.natAbs (decide ((0 : Nat) ≠ 0)) (apart v 4294967296) = v := by
    unfold sgn apart
    by_cases h1 : v < 0
    · have h2 : v ≠ 0 := by omega
      simp [h1, h2]; omega
    · by_cases h2 : v = 0
      · subst h2; simp
      · simp [h1, h2]; omega
  rw [e2]; exact rng_in h
theorem neg_neg_map {s d : List Int} (hd : I64s d) (h : (oneF fNeg s d).2 = 0) : ∃ nd, oneF fNeg s d = ((s, nd), 0) ∧ I64s nd ∧ oneF fNeg s nd = ((s, d), 0) := by
  obtain ⟨hc, hW⟩ := op1_inv h
  refine ⟨_, one_map hc hW, fun x hx => ?_, ?_⟩
  · obtain ⟨v, _, rfl⟩ := List.mem_map.1 hx
    exact rng_range _
  have hv : ∀ v ∈ d, fNeg v = (0 - v, 0) ∧ fNeg (0 - v) = (v, 0) := fun v hv => by
    have h1 := rng_val (a := 0 - v) (hW v hv)
    refine ⟨h1.1, ?_⟩
    unfold fNeg
    rw [show (0 : Int) - (0 - v) = v from by omega]
    exact rng_in (hd v hv)
  have e1 : (d.map fun v => (fNeg v).1) = d.map fun v => 0 - v := List.map_congr_left fun v h => by rw [(hv v h).1]
  rw [e1, one_map (check_map hc _) (fun w hw => by
    obtain ⟨v, h2, rfl⟩ := List.mem_map.1 hw
    rw [(hv v h2).2])]
  congr 2
  rw [List.map_map]
  conv => rhs; rw [← List.map_id d]
  exact List.map_congr_left fun v h => by simp only [Function.comp, (hv v h).2, id]
theorem relu_map {s d : List Int} (h : checkT s d = true) : oneF fRelu s d = ((s, d.map fun v => max v 0), 0) ∧ oneF fRelu s (d.map fun v => max v 0) = ((s, d.map fun v => max v 0), 0) := by
  refine ⟨one_map h fun _ _ => rfl, ?_⟩
  rw [one_map (check_map h _) fun _ _ => rfl]
  congr 2
  rw [List.map_map]
  exact List.map_congr_left fun v _ => by simp only [Function.comp, fRelu]; omega

theorem p_ElemOnes (s d : List Int) (hd : I64s d) : PureC Try.prog fi_fullerlaw04_ElemOnes [dT s d] (dB true) := by
  refine pure_fullerlaw04_ElemOnes (by simp) fun G hP hn => ?_
  unfold a_fullerlaw04_ElemOnes
  cases f1 : fewT s d
  · repeat' (first | apply T_then | apply then_ret | apply then_exit | apply then_goto | apply rnd_exit | apply rnd_ret | apply rnd_goto | apply noGo_normal | apply noGo_ret | apply noGo_exit | apply jmp_normal | apply jmp_ret | apply jmp_exit | apply jmp_goto | apply inB_normal | apply inB_ret | apply inB_goto | apply inB_exit | refine inB_exit_ne rfl ?_ | ((first | apply T_srK fw | apply T_regK fw); · ((try simp only [TOps.flat, List.cons_append, List.nil_append]); repeat (first | apply X_g0 | apply X_g | apply S_keep | apply X_skip | apply X_skipN | refine X_call ?_ ⟨_, _, _, _, _, _, rfl, rfl, rfl, by rw [hP]; exact p_awake4⟩ ?_ | refine X_call ?_ ⟨_, _, _, _, _, _, rfl, rfl, rfl, by rw [hP]; exact p_ref03_Few _ _⟩ ?_ | apply X_q | apply X_st | apply X_n | apply X_s | apply SKs0 | apply SKs2 | apply SKs1 | refine ⟨⟨rfl, rfl⟩, ?_⟩ | refine ⟨⟨rfl, ?_⟩, ?_⟩ | refine ⟨?_, ?_⟩ | (· (try simp only [go_sem, seval, reduceIte, ↓reduceIte, Bool.not_eq_true, reduceCtorEq, beq_false, beq_true, hn, hP, f1]); first | done | rfl)))) | apply T_seq | apply T_block | refine T_scopeJ 0 rfl ?_ | apply T_scope | apply T_goto | apply T_ret | apply T_skip | apply T_exit | apply T_label | refine T_condT rfl ?_ | refine T_condF rfl ?_ | refine T_condD rfl (fun _ => ?_) (fun _ => ?_) | refine T_cond rfl (fun _ => ?_) (fun _ => ?_))
    exact ends_ret rfl rfl rfl rfl
  cases h1 : checkT s d
  · repeat' (first | apply T_then | apply then_ret | apply then_exit | apply then_goto | apply rnd_exit | apply rnd_ret | apply rnd_goto | apply noGo_normal | apply noGo_ret | apply noGo_exit | apply jmp_normal | apply jmp_ret | apply jmp_exit | apply jmp_goto | apply inB_normal | apply inB_ret | apply inB_goto | apply inB_exit | refine inB_exit_ne rfl ?_ | ((first | apply T_srK fw | apply T_regK fw); · ((try simp only [TOps.flat, List.cons_append, List.nil_append]); repeat (first | apply X_g0 | apply X_g | apply S_keep | apply X_skip | apply X_skipN | refine X_call ?_ ⟨_, _, _, _, _, _, rfl, rfl, rfl, by rw [hP]; exact p_awake4⟩ ?_ | refine X_call ?_ ⟨_, _, _, _, _, _, rfl, rfl, rfl, by rw [hP]; exact p_ref03_Few _ _⟩ ?_ | refine X_call ?_ ⟨_, _, _, _, _, _, rfl, rfl, rfl, by rw [hP]; exact p_tensor_Check _ _⟩ ?_ | apply X_q | apply X_st | apply X_n | apply X_s | apply SKs0 | apply SKs2 | apply SKs1 | refine ⟨⟨rfl, rfl⟩, ?_⟩ | refine ⟨⟨rfl, ?_⟩, ?_⟩ | refine ⟨?_, ?_⟩ | (· (try simp only [go_sem, seval, reduceIte, ↓reduceIte, Bool.not_eq_true, reduceCtorEq, beq_false, beq_true, hn, hP, f1, h1]); first | done | rfl)))) | apply T_seq | apply T_block | refine T_scopeJ 0 rfl ?_ | apply T_scope | apply T_goto | apply T_ret | apply T_skip | apply T_exit | apply T_label | refine T_condT rfl ?_ | refine T_condF rfl ?_ | refine T_condD rfl (fun _ => ?_) (fun _ => ?_) | refine T_cond rfl (fun _ => ?_) (fun _ => ?_))
    exact ends_ret rfl rfl rfl rfl
  have o64 : I64s [4294967296] := i64s_dec (by decide)
  have kf := p_tensor_Full [] 4294967296
  have hf : fullF [] 4294967296 = (([], [4294967296]), 0) := by decide
  rw [hf] at kf
  have k1 := k_Mul (s := s) (t := []) hd o64
  rw [two_one h1 hd (fun v hv => by rw [fMul_comm]; exact fMul_one hv)] at k1
  have k2 := k_Div (s := s) (t := []) hd o64
  rw [two_one h1 hd (fun v hv => fDiv_one hv)] at k2
  have r64 : I64s (d.map fun v => max v 0) := fun x hx => by
    obtain ⟨v, hv, rfl⟩ := List.mem_map.1 hx
    have := hd v hv
    unfold I64 at this ⊢
    omega
  obtain ⟨q1, q2⟩ := relu_map h1
  have k5 := k_Relu (s := s) hd
  have k6 := k_Relu (s := s) r64
  rw [q1] at k5
  rw [q2] at k6
  have k3 := k_Neg (s := s) hd
  have rl : (d.map fun v => max v 0).length = d.length := by simp
  have rg : ∀ i, i < d.length → (d.map fun v => max v 0)[i]? = some (max (gt d i) 0) := fun i hi => by rw [List.getElem?_map, gt_some hi]; rfl
  have hl : d.length ≤ 64 := by have := check_size h1; have := sizeS_nn s; omega
  generalize (d.map fun v => max v 0) = rd at *
  obtain ⟨ns, nd, g, ms, md, h, z1, z2, z3⟩ : ∃ (ns nd : List Int) (g : Int) (ms md : List Int) (h : Int), PureC Try.prog fi_elem_One [dN 20, dT s d] (dTE ((ns, nd), g)) ∧ PureC Try.prog fi_elem_One [dN 20, dT ns nd] (dTE ((ms, md), h)) ∧ ((g != 0) = true ∨ (g = 0 ∧ h = 0 ∧ ms = s ∧ md = d)) := by
    cases c : ((oneF fNeg s d).2 != 0)
    · simp only [bne_eq_false_iff_eq] at c
      obtain ⟨nd, z1, z2, z3⟩ := neg_neg_map hd c
      have k4 := k_Neg (s := s) z2
      rw [z1] at k3
      rw [z3] at k4
      exact ⟨_, _, _, _, _, _, k3, k4, .inr ⟨rfl, rfl, rfl, rfl⟩⟩
    · have hb := one_bad (W := fNeg) (s := s) (d := d) (by simpa using c)
      have k4 := k_Neg (s := []) (d := []) I64s.nil
      rw [hb] at k3
      exact ⟨_, _, _, _, _, _, k3, k4, .inl c⟩
  repeat' (first | apply T_then | apply then_ret | apply then_exit | apply then_goto | apply rnd_exit | apply rnd_ret | apply rnd_goto | apply noGo_normal | apply noGo_ret | apply noGo_exit | apply jmp_normal | apply jmp_ret | apply jmp_exit | apply jmp_goto | apply inB_normal | apply inB_ret | apply inB_goto | apply inB_exit | refine inB_exit_ne rfl ?_ | ((first | apply T_srK fw | apply T_regK fw); · ((try simp only [TOps.flat, List.cons_append, List.nil_append]); repeat (first | apply X_g0 | apply X_g | apply S_keep | apply X_skip | apply X_skipN | refine X_call ?_ ⟨_, _, _, _, _, _, rfl, rfl, rfl, by rw [hP]; exact p_awake4⟩ ?_ | refine X_call ?_ ⟨_, _, _, _, _, _, rfl, rfl, rfl, by rw [hP]; exact p_ref03_Few _ _⟩ ?_ | refine X_call ?_ ⟨_, _, _, _, _, _, rfl, rfl, rfl, by rw [hP]; exact p_tensor_Check _ _⟩ ?_ | refine X_call ?_ ⟨_, _, _, _, _, _, rfl, rfl, rfl, by rw [hP]; exact kf⟩ ?_ | refine X_call ?_ ⟨_, _, _, _, _, _, rfl, rfl, rfl, by rw [hP]; exact k1⟩ ?_ | refine X_call ?_ ⟨_, _, _, _, _, _, rfl, rfl, rfl, by rw [hP]; exact k2⟩ ?_ | refine X_call ?_ ⟨_, _, _, _, _, _, rfl, rfl, rfl, by rw [hP]; exact z1⟩ ?_ | refine X_call ?_ ⟨_, _, _, _, _, _, rfl, rfl, rfl, by rw [hP]; exact z2⟩ ?_ | refine X_call ?_ ⟨_, _, _, _, _, _, rfl, rfl, rfl, by rw [hP]; exact k5⟩ ?_ | refine X_call ?_ ⟨_, _, _, _, _, _, rfl, rfl, rfl, by rw [hP]; exact k6⟩ ?_ | apply X_q | apply X_st | apply X_n | apply X_s | apply SKs0 | apply SKs2 | apply SKs1 | refine ⟨⟨rfl, rfl⟩, ?_⟩ | refine ⟨⟨rfl, ?_⟩, ?_⟩ | refine ⟨?_, ?_⟩ | (· (try simp only [go_sem, seval, reduceIte, ↓reduceIte, Bool.not_eq_true, reduceCtorEq, beq_false, beq_true, hn, hP, f1, h1]); first | done | rfl)))) | apply T_seq | apply T_block | refine T_scopeJ 0 rfl ?_ | apply T_scope | apply T_goto | apply T_ret | apply T_skip | apply T_exit | apply T_label | refine T_condT rfl ?_ | refine T_condF rfl ?_ | refine T_condD rfl (fun _ => ?_) (fun _ => ?_) | refine T_cond rfl (fun _ => ?_) (fun _ => ?_))
  refine T_for d.length (fun i (_ : Unit) => { env := [(1, .one (.ptr 1 0 2 0)), (3, .one (.p (.bool true))), (6, .one (.ptr 6 0 2 0)), (7, .one (.p (.int .i64 0))), (8, .one (.ptr 8 0 2 0)), (9, .one (.p (.int .i64 0))), (11, .one (.p (.int .i64 g))), (12, .one (.ptr 12 0 2 0)), (13, .one (.p (.int .i64 h))), (14, .one (.ptr 14 0 2 0)), (15, .one (.p (.int .i64 0))), (16, .one (.ptr 16 0 2 0)), (17, .one (.p (.int .i64 0))), (18, .one (.p (.int .i64 i)))], σ := [(1, .cells true [.p (eI s), .p (eI d)]), (6, .cells true [.p (eI s), .p (eI d)]), (8, .cells true [.p (eI s), .p (eI d)]), (12, .cells true [.p (eI ms), .p (eI md)]), (14, .cells true [.p (eI s), .p (eI rd)]), (16, .cells true [.p (eI s), .p (eI rd)])] })
    (fun _ _ => True) () trivial ?_ fun i _ hi _ => ?_
  · refine Weak.sub fun q hq => ?_
    simp only [List.mem_cons, List.not_mem_nil, or_false] at hq
    rcases hq with rfl | rfl | rfl | rfl | rfl | rfl <;> rfl
  by_cases hlt : i < d.length
  · have c1 : (i : Int) < (d.length : Int) := by omega
    have c2 : (i : Int) < (rd.length : Int) := by omega
    have w1 : IntKind.i64.wrap ((i : Int) + 1) = ((i + 1 : Nat) : Int) := by rw [wrap_in (by omega) (by omega)]; rfl
    have hx := gt_some hlt
    have hr := rg i hlt
    have hlr : i < rd.length := by omega
    have d1 : ¬ max (gt d i) 0 < 0 := by omega
    have d2 : ¬ max (gt d i) 0 < gt d i := by omega
    have d3 : (max (gt d i) 0 != 0) = false ∨ ((max (gt d i) 0 != 0) = true ∧ (max (gt d i) 0 != gt d i) = false) := by
      by_cases h0 : gt d i ≤ 0
      · left; simp; omega
      · right; simp; omega
    generalize max (gt d i) 0 = m at *
    generalize gt d i = v at *
    rcases d3 with d3 | ⟨d3, d4⟩
    · repeat' (first | apply T_then | apply then_ret | apply then_exit | apply then_goto | apply rnd_exit | apply rnd_ret | apply rnd_goto | apply noGo_normal | apply noGo_ret | apply noGo_exit | apply jmp_normal | apply jmp_ret | apply jmp_exit | apply jmp_goto | apply inB_normal | apply inB_ret | apply inB_goto | apply inB_exit | refine inB_exit_ne rfl ?_ | ((first | apply T_srK fw | apply T_regK fw); · ((try simp only [TOps.flat, List.cons_append, List.nil_append]); repeat (first | apply X_g0 | apply X_g | apply S_keep | apply X_skip | apply X_skipN | apply X_q | apply X_st | apply X_n | apply X_s | apply SKs0 | apply SKs2 | apply SKs1 | refine ⟨⟨rfl, rfl⟩, ?_⟩ | refine ⟨⟨rfl, ?_⟩, ?_⟩ | refine ⟨?_, ?_⟩ | (· (try simp only [go_sem, seval, reduceIte, ↓reduceIte, Bool.not_eq_true, reduceCtorEq, beq_false, beq_true, hn, hP, c1, c2, w1, hx, hr, hlt, hlr, d1, d2, d3]); first | done | rfl)))) | ((first | apply T_sdF fw (by rw [hP]; rfl) (by decide +kernel) | apply T_drF fw (by rw [hP]; rfl) (by decide +kernel)); · ((try simp only [TOps.flat, List.cons_append, List.nil_append]); repeat (first | apply Y_g0 | apply Y_g | apply Y_skip | apply Y_q | refine RunF_nil (P := G.P) ?_ | (· (try simp only [go_sem, seval, reduceIte, ↓reduceIte, Bool.not_eq_true, reduceCtorEq, beq_false, beq_true, hn, hP, c1, c2, w1, hx, hr, hlt, hlr, d1, d2, d3]); first | done | rfl)))) | apply T_seq | apply T_block | refine T_scopeJ 0 rfl ?_ | apply T_scope | apply T_goto | apply T_ret | apply T_skip | apply T_exit | apply T_label | refine T_condT rfl ?_ | refine T_condF rfl ?_ | refine T_condD rfl (fun _ => ?_) (fun _ => ?_) | refine T_cond rfl (fun _ => ?_) (fun _ => ?_))
      exact rnd_next hlt () trivial (Weak.sub fun q hq => by
        simp only [List.mem_cons, List.not_mem_nil, or_false] at hq
        rcases hq with rfl | rfl | rfl | rfl | rfl | rfl <;> rfl)
    · repeat' (first | apply T_then | apply then_ret | apply then_exit | apply then_goto | apply rnd_exit | apply rnd_ret | apply rnd_goto | apply noGo_normal | apply noGo_ret | apply noGo_exit | apply jmp_normal | apply jmp_ret | apply jmp_exit | apply jmp_goto | apply inB_normal | apply inB_ret | apply inB_goto | apply inB_exit | refine inB_exit_ne rfl ?_ | ((first | apply T_srK fw | apply T_regK fw); · ((try simp only [TOps.flat, List.cons_append, List.nil_append]); repeat (first | apply X_g0 | apply X_g | apply S_keep | apply X_skip | apply X_skipN | apply X_q | apply X_st | apply X_n | apply X_s | apply SKs0 | apply SKs2 | apply SKs1 | refine ⟨⟨rfl, rfl⟩, ?_⟩ | refine ⟨⟨rfl, ?_⟩, ?_⟩ | refine ⟨?_, ?_⟩ | (· (try simp only [go_sem, seval, reduceIte, ↓reduceIte, Bool.not_eq_true, reduceCtorEq, beq_false, beq_true, hn, hP, c1, c2, w1, hx, hr, hlt, hlr, d1, d2, d3, d4]); first | done | rfl)))) | ((first | apply T_sdF fw (by rw [hP]; rfl) (by decide +kernel) | apply T_drF fw (by rw [hP]; rfl) (by decide +kernel)); · ((try simp only [TOps.flat, List.cons_append, List.nil_append]); repeat (first | apply Y_g0 | apply Y_g | apply Y_skip | apply Y_q | refine RunF_nil (P := G.P) ?_ | (· (try simp only [go_sem, seval, reduceIte, ↓reduceIte, Bool.not_eq_true, reduceCtorEq, beq_false, beq_true, hn, hP, c1, c2, w1, hx, hr, hlt, hlr, d1, d2, d3, d4]); first | done | rfl)))) | apply T_seq | apply T_block | refine T_scopeJ 0 rfl ?_ | apply T_scope | apply T_goto | apply T_ret | apply T_skip | apply T_exit | apply T_label | refine T_condT rfl ?_ | refine T_condF rfl ?_ | refine T_condD rfl (fun _ => ?_) (fun _ => ?_) | refine T_cond rfl (fun _ => ?_) (fun _ => ?_))
      exact rnd_next hlt () trivial (Weak.sub fun q hq => by
        simp only [List.mem_cons, List.not_mem_nil, or_false] at hq
        rcases hq with rfl | rfl | rfl | rfl | rfl | rfl <;> rfl)
  · have c1 : ¬ (i : Int) < (d.length : Int) := by omega
    have c2 : ¬ (i : Int) < (rd.length : Int) := by omega
    rcases z3 with z3 | ⟨rfl, rfl, rfl, rfl⟩
    · repeat' (first | apply T_then | apply then_ret | apply then_exit | apply then_goto | apply rnd_exit | apply rnd_ret | apply rnd_goto | apply noGo_normal | apply noGo_ret | apply noGo_exit | apply jmp_normal | apply jmp_ret | apply jmp_exit | apply jmp_goto | apply inB_normal | apply inB_ret | apply inB_goto | apply inB_exit | refine inB_exit_ne rfl ?_ | ((first | apply T_srK fw | apply T_regK fw); · ((try simp only [TOps.flat, List.cons_append, List.nil_append]); repeat (first | apply X_g0 | apply X_g | apply S_keep | apply X_skip | apply X_skipN | refine X_call ?_ ⟨_, _, _, _, _, _, rfl, rfl, rfl, by rw [hP]; exact c_sameT _ _⟩ ?_ | apply X_q | apply X_st | apply X_n | apply X_s | apply SKs0 | apply SKs2 | apply SKs1 | refine ⟨⟨rfl, rfl⟩, ?_⟩ | refine ⟨⟨rfl, ?_⟩, ?_⟩ | refine ⟨?_, ?_⟩ | (· (try simp only [go_sem, seval, reduceIte, ↓reduceIte, Bool.not_eq_true, reduceCtorEq, beq_false, beq_true, hn, hP, c1, c2, z3]); first | done | rfl)))) | apply T_seq | apply T_block | refine T_scopeJ 0 rfl ?_ | apply T_scope | apply T_goto | apply T_ret | apply T_skip | apply T_exit | apply T_label | refine T_condT rfl ?_ | refine T_condF rfl ?_ | refine T_condD rfl (fun _ => ?_) (fun _ => ?_) | refine T_cond rfl (fun _ => ?_) (fun _ => ?_))
      exact ends_ret rfl rfl rfl rfl
    · repeat' (first | apply T_then | apply then_ret | apply then_exit | apply then_goto | apply rnd_exit | apply rnd_ret | apply rnd_goto | apply noGo_normal | apply noGo_ret | apply noGo_exit | apply jmp_normal | apply jmp_ret | apply jmp_exit | apply jmp_goto | apply inB_normal | apply inB_ret | apply inB_goto | apply inB_exit | refine inB_exit_ne rfl ?_ | ((first | apply T_srK fw | apply T_regK fw); · ((try simp only [TOps.flat, List.cons_append, List.nil_append]); repeat (first | apply X_g0 | apply X_g | apply S_keep | apply X_skip | apply X_skipN | refine X_call ?_ ⟨_, _, _, _, _, _, rfl, rfl, rfl, by rw [hP]; exact c_sameT _ _⟩ ?_ | apply X_q | apply X_st | apply X_n | apply X_s | apply SKs0 | apply SKs2 | apply SKs1 | refine ⟨⟨rfl, rfl⟩, ?_⟩ | refine ⟨⟨rfl, ?_⟩, ?_⟩ | refine ⟨?_, ?_⟩ | (· (try simp only [go_sem, seval, reduceIte, ↓reduceIte, Bool.not_eq_true, reduceCtorEq, beq_false, beq_true, hn, hP, c1, c2]); first | done | rfl)))) | apply T_seq | apply T_block | refine T_scopeJ 0 rfl ?_ | apply T_scope | apply T_goto | apply T_ret | apply T_skip | apply T_exit | apply T_label | refine T_condT rfl ?_ | refine T_condF rfl ?_ | refine T_condD rfl (fun _ => ?_) (fun _ => ?_) | refine T_cond rfl (fun _ => ?_) (fun _ => ?_))
      exact ends_ret rfl rfl rfl rfl
end Go.AM

