import Derived.Test.YtcmbjbmghoopcaaMe2
import Derived.Test.YtcmbjbmghoopcaaProg
import Derived.KernelRfl
set_option linter.unusedVariables false
set_option linter.unusedSimpArgs false
namespace Go.AM
open Go Go.Proofs
set_option maxRecDepth 100000
abbrev fi_fullerlaw04_ElemTurns : Nat := 10
abbrev fi_fullerlaw04_ElemThree : Nat := 15
abbrev fi_fullerref03_Few : Nat := 20
abbrev fi_fullerref03_Same : Nat := 23
abbrev fi_tensor_Check : Nat := 28
abbrev fi_tensor_Full : Nat := 31
abbrev fi_fix_Mul : Nat := 32
abbrev fi_fullerref02_Same : Nat := 36
abbrev fi_fullerlaw04_awake : Nat := 37
abbrev fi_elem_One : Nat := 38
abbrev fi_elem_Two : Nat := 40
abbrev fi_tensor_Spread : Nat := 42
abbrev fi_shape_Join : Nat := 43
abbrev fi_shape_Check : Nat := 55
abbrev fi_fix_Add : Nat := 58
abbrev fi_shape_Size : Nat := 64
abbrev fi_slices_Clone_int_int : Nat := 69
abbrev fi_slices_Repeat_int_int : Nat := 70
abbrev fi_math_bits_Mul64 : Nat := 71
abbrev fi_fix_size : Nat := 72
abbrev fi_fix_wide_signed : Nat := 73
abbrev fi_fix_apart : Nat := 74
abbrev fi_slices_Equal_int_int : Nat := 75
abbrev fi_elem_kinds : Nat := 83
abbrev fi_elem_each : Nat := 84
abbrev fi_elem_One_1 : Nat := 85
abbrev fi_elem_Two_1 : Nat := 87
abbrev fi_shape_Fits : Nat := 91
abbrev fi_tensor_from : Nat := 92
abbrev fi_shape_side : Nat := 93
abbrev fi_fix_told : Nat := 111
abbrev fi_math_bits_Mul : Nat := 119
abbrev fi_fix_wide_signed_1 : Nat := 120
abbrev fi_elem_kinds_1 : Nat := 123
abbrev fi_fix_Sub : Nat := 124
abbrev fi_fix_Div : Nat := 125
abbrev fi_fix_Neg : Nat := 126
abbrev fi_fix_Pow : Nat := 127
abbrev fi_fix_Sqrt : Nat := 128
abbrev fi_tensor_from_1 : Nat := 136
abbrev fi_shape_Index : Nat := 137
abbrev fi_math_bits_Mul32 : Nat := 145
abbrev fi_math_bits_Div64 : Nat := 146
def a_fullerlaw04_ElemTurns : ACode := (.seq (.region none (.op (some 2) none (.n (.box 2 (.t 0)))
  (.op (some 3) none (.n (.box 2 (.t 1)))
  (.op (some 4) none (.q (.mov (.c (.one (.p (.bool false))))))
  .nil))) [2, 3] [2, 3])
 (.seq (.region none (.op (some 23) none (.call (.c (.one (.p (.fn fi_fullerlaw04_awake [] [])))) [])
  (.op (some 5) none (.q (.mov (.t 23)))
  .nil)) [2, 3, 5] [2, 3])
 (.seq (.seq (.region none (.op (some 24) none (.q (.load 2 true (.t 2)))
  (.op (some 25) none (.call (.c (.one (.p (.fn fi_fullerref03_Few [] [])))) [(.t 24)])
  (.op (some 26) none (.q (.un .not (.t 25)))
  (.op (some 27) none (.q (.mov (.t 26)))
  (.sc 31 27 false 30 none
  (.op (some 28) (some (27, false)) (.q (.load 2 true (.t 3)))
  (.op (some 29) (some (27, false)) (.call (.c (.one (.p (.fn fi_fullerref03_Few [] [])))) [(.t 28)])
  (.op (some 30) (some (27, false)) (.q (.un .not (.t 29)))
  .nil)))
  (.op (some 32) none (.q (.mov (.t 31)))
  (.sc 36 32 false 35 none
  (.op (some 33) (some (32, false)) (.q (.load 2 true (.t 2)))
  (.op (some 34) (some (32, false)) (.call (.c (.one (.p (.fn fi_tensor_Check [] [])))) [(.t 33)])
  (.op (some 35) (some (32, false)) (.q (.un .not (.t 34)))
  .nil)))
  (.op (some 37) none (.q (.mov (.t 36)))
  (.sc 41 37 false 40 none
  (.op (some 38) (some (37, false)) (.q (.load 2 true (.t 3)))
  (.op (some 39) (some (37, false)) (.call (.c (.one (.p (.fn fi_tensor_Check [] [])))) [(.t 38)])
  (.op (some 40) (some (37, false)) (.q (.un .not (.t 39)))
  .nil)))
  .nil))))))))) [2, 3, 5, 41] [2, 3])
 (.cond (.t 41) (.seq (.region none (.op (some 42) none (.q (.mov (.t 5)))
  (.op (some 4) none (.q (.mov (.t 42)))
  .nil)) [4] [2, 3])
 .ret)
 .skip))
 (.seq (.region none (.op (some 44) none (.q (.load 2 true (.t 2)))
  (.op (some 45) none (.q (.load 2 true (.t 3)))
  (.op (some 46) none (.call (.c (.one (.p (.fn fi_elem_Two [] [])))) [(.c (.one (.p (.int .i64 10)))), (.t 44), (.t 45)])
  (.op (some 43) none (.q (.mov (.t 46)))
  (.op (some 47) none (.q (.extr (.t 43) 0))
  (.op (some 48) none (.q (.extr (.t 43) 1))
  (.op (some 6) none (.n (.alloc [.nils, .nils]))
  (.op none none (.s (.store 2 (.t 6) (.t 47)))
  (.op (some 7) none (.q (.mov (.t 48)))
  .nil))))))))) [2, 3, 5, 6, 7] [2, 3, 6])
 (.seq (.region none (.op (some 50) none (.q (.load 2 true (.t 3)))
  (.op (some 51) none (.q (.load 2 true (.t 2)))
  (.op (some 52) none (.call (.c (.one (.p (.fn fi_elem_Two [] [])))) [(.c (.one (.p (.int .i64 10)))), (.t 50), (.t 51)])
  (.op (some 49) none (.q (.mov (.t 52)))
  (.op (some 53) none (.q (.extr (.t 49) 0))
  (.op (some 54) none (.q (.extr (.t 49) 1))
  (.op (some 8) none (.n (.alloc [.nils, .nils]))
  (.op none none (.s (.store 2 (.t 8) (.t 53)))
  (.op (some 9) none (.q (.mov (.t 54)))
  .nil))))))))) [2, 3, 5, 6, 7, 8, 9] [2, 3, 6, 8])
 (.seq (.region none (.op (some 56) none (.q (.load 2 true (.t 2)))
  (.op (some 57) none (.q (.load 2 true (.t 3)))
  (.op (some 58) none (.call (.c (.one (.p (.fn fi_elem_Two [] [])))) [(.c (.one (.p (.int .i64 12)))), (.t 56), (.t 57)])
  (.op (some 55) none (.q (.mov (.t 58)))
  (.op (some 59) none (.q (.extr (.t 55) 0))
  (.op (some 60) none (.q (.extr (.t 55) 1))
  (.op (some 10) none (.n (.alloc [.nils, .nils]))
  (.op none none (.s (.store 2 (.t 10) (.t 59)))
  (.op (some 11) none (.q (.mov (.t 60)))
  .nil))))))))) [2, 3, 5, 6, 7, 8, 9, 10, 11] [2, 3, 6, 8, 10])
 (.seq (.region none (.op (some 62) none (.q (.load 2 true (.t 3)))
  (.op (some 63) none (.q (.load 2 true (.t 2)))
  (.op (some 64) none (.call (.c (.one (.p (.fn fi_elem_Two [] [])))) [(.c (.one (.p (.int .i64 12)))), (.t 62), (.t 63)])
  (.op (some 61) none (.q (.mov (.t 64)))
  (.op (some 65) none (.q (.extr (.t 61) 0))
  (.op (some 66) none (.q (.extr (.t 61) 1))
  (.op (some 12) none (.n (.alloc [.nils, .nils]))
  (.op none none (.s (.store 2 (.t 12) (.t 65)))
  (.op (some 13) none (.q (.mov (.t 66)))
  .nil))))))))) [2, 3, 5, 6, 7, 8, 9, 10, 11, 12, 13] [2, 3, 6, 8, 10, 12])
 (.seq (.region none (.op (some 68) none (.q (.load 2 true (.t 2)))
  (.op (some 69) none (.q (.load 2 true (.t 2)))
  (.op (some 70) none (.call (.c (.one (.p (.fn fi_elem_Two [] [])))) [(.c (.one (.p (.int .i64 11)))), (.t 68), (.t 69)])
  (.op (some 67) none (.q (.mov (.t 70)))
  (.op (some 71) none (.q (.extr (.t 67) 0))
  (.op (some 72) none (.q (.extr (.t 67) 1))
  (.op (some 14) none (.n (.alloc [.nils, .nils]))
  (.op none none (.s (.store 2 (.t 14) (.t 71)))
  (.op (some 15) none (.q (.mov (.t 72)))
  .nil))))))))) [2, 3, 5, 6, 7, 8, 9, 10, 11, 12, 13, 14, 15] [2, 3, 6, 8, 10, 12, 14])
 (.seq (.region none (.op (some 74) none (.q (.faddr 0 (.t 2)))
  (.op (some 75) none (.q (.load 1 false (.t 74)))
  (.op (some 76) none (.call (.c (.one (.p (.fn fi_tensor_Full [] [])))) [(.t 75), (.c (.one (.p (.int .i64 0))))])
  (.op (some 73) none (.q (.mov (.t 76)))
  (.op (some 77) none (.q (.extr (.t 73) 0))
  (.op (some 78) none (.q (.extr (.t 73) 1))
  (.op (some 16) none (.n (.alloc [.nils, .nils]))
  (.op none none (.s (.store 2 (.t 16) (.t 77)))
  (.op (some 17) none (.q (.mov (.t 78)))
  .nil))))))))) [2, 3, 5, 6, 7, 8, 9, 10, 11, 12, 13, 14, 15, 16, 17] [2, 3, 6, 8, 10, 12, 14, 16])
 (.seq (.region none (.op (some 80) none (.q (.load 2 true (.t 6)))
  (.op (some 81) none (.q (.load 2 true (.t 3)))
  (.op (some 82) none (.call (.c (.one (.p (.fn fi_elem_Two [] [])))) [(.c (.one (.p (.int .i64 11)))), (.t 80), (.t 81)])
  (.op (some 79) none (.q (.mov (.t 82)))
  (.op (some 83) none (.q (.extr (.t 79) 0))
  (.op (some 84) none (.q (.extr (.t 79) 1))
  (.op (some 18) none (.n (.alloc [.nils, .nils]))
  (.op none none (.s (.store 2 (.t 18) (.t 83)))
  (.op (some 19) none (.q (.mov (.t 84)))
  .nil))))))))) [2, 5, 6, 7, 8, 9, 10, 11, 12, 13, 14, 15, 16, 17, 18, 19] [2, 3, 6, 8, 10, 12, 14, 16, 18])
 (.seq (.region none (.op (some 86) none (.q (.load 2 true (.t 2)))
  (.op (some 87) none (.q (.faddr 0 (.t 6)))
  (.op (some 88) none (.q (.load 1 false (.t 87)))
  (.op (some 89) none (.call (.c (.one (.p (.fn fi_tensor_Spread [] [])))) [(.t 86), (.t 88)])
  (.op (some 85) none (.q (.mov (.t 89)))
  (.op (some 90) none (.q (.extr (.t 85) 0))
  (.op (some 91) none (.q (.extr (.t 85) 1))
  (.op (some 20) none (.n (.alloc [.nils, .nils]))
  (.op none none (.s (.store 2 (.t 20) (.t 90)))
  (.op (some 21) none (.q (.mov (.t 91)))
  .nil)))))))))) [5, 6, 7, 8, 9, 10, 11, 12, 13, 14, 15, 16, 17, 18, 19, 20, 21] [2, 3, 6, 8, 10, 12, 14, 16, 18, 20])
 (.seq (.region none (.op (some 92) none (.q (.mov (.t 7)))
  (.op (some 93) none (.q (.bin .neq (.t 92) (.c (.one (.p (.int .i64 0))))))
  (.op (some 94) none (.q (.mov (.t 93)))
  (.sc 106 94 false 105 none
  (.op (some 95) (some (94, false)) (.q (.mov (.t 19)))
  (.op (some 96) (some (94, false)) (.q (.bin .eql (.t 95) (.c (.one (.p (.int .i64 0))))))
  (.op (some 97) (some (94, false)) (.q (.mov (.t 96)))
  (.sc 100 97 true 99 (some (94, false))
  (.op (some 98) (some (97, true)) (.q (.mov (.t 21)))
  (.op (some 99) (some (97, true)) (.q (.bin .eql (.t 98) (.c (.one (.p (.int .i64 0))))))
  .nil))
  (.op (some 101) (some (94, false)) (.q (.mov (.t 100)))
  (.sc 105 101 true 104 (some (94, false))
  (.op (some 102) (some (101, true)) (.q (.load 2 true (.t 18)))
  (.op (some 103) (some (101, true)) (.q (.load 2 true (.t 20)))
  (.op (some 104) (some (101, true)) (.call (.c (.one (.p (.fn fi_fullerref03_Same [] [])))) [(.t 102), (.t 103)])
  .nil)))
  .nil))))))
  (.op (some 22) none (.q (.mov (.t 106)))
  .nil))))) [5, 6, 7, 8, 9, 10, 11, 12, 13, 14, 15, 16, 17, 22] [2, 3, 6, 8, 10, 12, 14, 16, 18, 20])
 (.seq (.region none (.op (some 107) none (.q (.mov (.t 5)))
  (.op (some 108) none (.q (.mov (.t 107)))
  (.sc 112 108 true 111 none
  (.op (some 109) (some (108, true)) (.q (.load 2 true (.t 6)))
  (.op (some 110) (some (108, true)) (.q (.load 2 true (.t 8)))
  (.op (some 111) (some (108, true)) (.call (.c (.one (.p (.fn fi_fullerref03_Same [] [])))) [(.t 109), (.t 110)])
  .nil)))
  (.op (some 113) none (.q (.mov (.t 112)))
  (.sc 117 113 true 116 none
  (.op (some 114) (some (113, true)) (.q (.mov (.t 7)))
  (.op (some 115) (some (113, true)) (.q (.mov (.t 9)))
  (.op (some 116) (some (113, true)) (.q (.bin .eql (.t 114) (.t 115)))
  .nil)))
  (.op (some 118) none (.q (.mov (.t 117)))
  (.sc 122 118 true 121 none
  (.op (some 119) (some (118, true)) (.q (.load 2 true (.t 10)))
  (.op (some 120) (some (118, true)) (.q (.load 2 true (.t 12)))
  (.op (some 121) (some (118, true)) (.call (.c (.one (.p (.fn fi_fullerref03_Same [] [])))) [(.t 119), (.t 120)])
  .nil)))
  (.op (some 123) none (.q (.mov (.t 122)))
  (.sc 127 123 true 126 none
  (.op (some 124) (some (123, true)) (.q (.mov (.t 11)))
  (.op (some 125) (some (123, true)) (.q (.mov (.t 13)))
  (.op (some 126) (some (123, true)) (.q (.bin .eql (.t 124) (.t 125)))
  .nil)))
  (.op (some 128) none (.q (.mov (.t 127)))
  (.sc 131 128 true 130 none
  (.op (some 129) (some (128, true)) (.q (.mov (.t 15)))
  (.op (some 130) (some (128, true)) (.q (.bin .eql (.t 129) (.c (.one (.p (.int .i64 0))))))
  .nil))
  (.op (some 132) none (.q (.mov (.t 131)))
  (.sc 135 132 true 134 none
  (.op (some 133) (some (132, true)) (.q (.mov (.t 17)))
  (.op (some 134) (some (132, true)) (.q (.bin .eql (.t 133) (.c (.one (.p (.int .i64 0))))))
  .nil))
  (.op (some 136) none (.q (.mov (.t 135)))
  (.sc 140 136 true 139 none
  (.op (some 137) (some (136, true)) (.q (.load 2 true (.t 14)))
  (.op (some 138) (some (136, true)) (.q (.load 2 true (.t 16)))
  (.op (some 139) (some (136, true)) (.call (.c (.one (.p (.fn fi_fullerref03_Same [] [])))) [(.t 137), (.t 138)])
  .nil)))
  (.op (some 141) none (.q (.mov (.t 140)))
  (.sc 143 141 true 142 none
  (.op (some 142) (some (141, true)) (.q (.mov (.t 22)))
  .nil)
  (.op (some 4) none (.q (.mov (.t 143)))
  .nil)))))))))))))))))) [4] [2, 3, 6, 8, 10, 12, 14, 16, 18, 20])
 .ret)))))))))))))
theorem is_fullerlaw04_ElemTurns : compC Try.prog (Try.f10.body.getD .skip) = some a_fullerlaw04_ElemTurns.erase := by kernel_rfl
theorem ok_fullerlaw04_ElemTurns : a_fullerlaw04_ElemTurns.ok 144 = true := by kernel_rfl
theorem rv_fullerlaw04_ElemTurns : compRV Try.prog Try.f10.results.toList = some [.tmp 4] := by kernel_rfl
theorem pure_fullerlaw04_ElemTurns {ds : List DV} {r : DV} (hn : ds.length ≤ 144) (h : ∀ (G : AM.Ground), G.P = Try.prog → G.nt = 144 → T G Fence.wide 0 a_fullerlaw04_ElemTurns (AM.Ends [.tmp 4] r) { env := initE 0 ds, σ := [] }) : PureC Try.prog fi_fullerlaw04_ElemTurns ds r :=
  pureC_of Try.call10 Try.func10 (by rfl) is_fullerlaw04_ElemTurns ok_fullerlaw04_ElemTurns rv_fullerlaw04_ElemTurns hn h

def a_fullerlaw04_ElemThree : ACode := (.seq (.region none (.op (some 3) none (.n (.box 2 (.t 0)))
  (.op (some 4) none (.n (.box 2 (.t 1)))
  (.op (some 5) none (.n (.box 2 (.t 2)))
  (.op (some 6) none (.q (.mov (.c (.one (.p (.bool false))))))
  .nil)))) [3, 4, 5] [3, 4, 5])
 (.seq (.region none (.op (some 16) none (.call (.c (.one (.p (.fn fi_fullerlaw04_awake [] [])))) [])
  (.op (some 7) none (.q (.mov (.t 16)))
  .nil)) [3, 4, 5, 7] [3, 4, 5])
 (.seq (.seq (.region none (.op (some 17) none (.q (.load 2 true (.t 3)))
  (.op (some 18) none (.call (.c (.one (.p (.fn fi_fullerref03_Few [] [])))) [(.t 17)])
  (.op (some 19) none (.q (.un .not (.t 18)))
  (.op (some 20) none (.q (.mov (.t 19)))
  (.sc 24 20 false 23 none
  (.op (some 21) (some (20, false)) (.q (.load 2 true (.t 4)))
  (.op (some 22) (some (20, false)) (.call (.c (.one (.p (.fn fi_fullerref03_Few [] [])))) [(.t 21)])
  (.op (some 23) (some (20, false)) (.q (.un .not (.t 22)))
  .nil)))
  (.op (some 25) none (.q (.mov (.t 24)))
  (.sc 29 25 false 28 none
  (.op (some 26) (some (25, false)) (.q (.load 2 true (.t 5)))
  (.op (some 27) (some (25, false)) (.call (.c (.one (.p (.fn fi_fullerref03_Few [] [])))) [(.t 26)])
  (.op (some 28) (some (25, false)) (.q (.un .not (.t 27)))
  .nil)))
  .nil))))))) [3, 4, 5, 7, 29] [3, 4, 5])
 (.cond (.t 29) (.seq (.region none (.op (some 30) none (.q (.mov (.t 7)))
  (.op (some 6) none (.q (.mov (.t 30)))
  .nil)) [6] [3, 4, 5])
 .ret)
 .skip))
 (.seq (.region none (.op (some 32) none (.q (.load 2 true (.t 3)))
  (.op (some 33) none (.q (.load 2 true (.t 4)))
  (.op (some 34) none (.call (.c (.one (.p (.fn fi_elem_Two [] [])))) [(.c (.one (.p (.int .i64 10)))), (.t 32), (.t 33)])
  (.op (some 31) none (.q (.mov (.t 34)))
  (.op (some 35) none (.q (.extr (.t 31) 0))
  (.op (some 36) none (.q (.extr (.t 31) 1))
  (.op (some 8) none (.n (.alloc [.nils, .nils]))
  (.op none none (.s (.store 2 (.t 8) (.t 35)))
  (.op (some 9) none (.q (.mov (.t 36)))
  .nil))))))))) [3, 4, 5, 7, 8, 9] [3, 4, 5, 8])
 (.seq (.region none (.op (some 38) none (.q (.load 2 true (.t 8)))
  (.op (some 39) none (.q (.load 2 true (.t 5)))
  (.op (some 40) none (.call (.c (.one (.p (.fn fi_elem_Two [] [])))) [(.c (.one (.p (.int .i64 10)))), (.t 38), (.t 39)])
  (.op (some 37) none (.q (.mov (.t 40)))
  (.op (some 41) none (.q (.extr (.t 37) 0))
  (.op (some 42) none (.q (.extr (.t 37) 1))
  (.op (some 10) none (.n (.alloc [.nils, .nils]))
  (.op none none (.s (.store 2 (.t 10) (.t 41)))
  (.op (some 11) none (.q (.mov (.t 42)))
  .nil))))))))) [3, 4, 5, 7, 9, 10, 11] [3, 4, 5, 8, 10])
 (.seq (.region none (.op (some 44) none (.q (.load 2 true (.t 4)))
  (.op (some 45) none (.q (.load 2 true (.t 5)))
  (.op (some 46) none (.call (.c (.one (.p (.fn fi_elem_Two [] [])))) [(.c (.one (.p (.int .i64 10)))), (.t 44), (.t 45)])
  (.op (some 43) none (.q (.mov (.t 46)))
  (.op (some 47) none (.q (.extr (.t 43) 0))
  (.op (some 48) none (.q (.extr (.t 43) 1))
  (.op (some 12) none (.n (.alloc [.nils, .nils]))
  (.op none none (.s (.store 2 (.t 12) (.t 47)))
  (.op (some 13) none (.q (.mov (.t 48)))
  .nil))))))))) [3, 7, 9, 10, 11, 12, 13] [3, 4, 5, 8, 10, 12])
 (.seq (.region none (.op (some 50) none (.q (.load 2 true (.t 3)))
  (.op (some 51) none (.q (.load 2 true (.t 12)))
  (.op (some 52) none (.call (.c (.one (.p (.fn fi_elem_Two [] [])))) [(.c (.one (.p (.int .i64 10)))), (.t 50), (.t 51)])
  (.op (some 49) none (.q (.mov (.t 52)))
  (.op (some 53) none (.q (.extr (.t 49) 0))
  (.op (some 54) none (.q (.extr (.t 49) 1))
  (.op (some 14) none (.n (.alloc [.nils, .nils]))
  (.op none none (.s (.store 2 (.t 14) (.t 53)))
  (.op (some 15) none (.q (.mov (.t 54)))
  .nil))))))))) [7, 9, 10, 11, 13, 14, 15] [3, 4, 5, 8, 10, 12, 14])
 (.seq (.seq (.region none (.op (some 55) none (.q (.mov (.t 9)))
  (.op (some 56) none (.q (.bin .neq (.t 55) (.c (.one (.p (.int .i64 0))))))
  (.op (some 57) none (.q (.mov (.t 56)))
  (.sc 60 57 false 59 none
  (.op (some 58) (some (57, false)) (.q (.mov (.t 11)))
  (.op (some 59) (some (57, false)) (.q (.bin .neq (.t 58) (.c (.one (.p (.int .i64 0))))))
  .nil))
  (.op (some 61) none (.q (.mov (.t 60)))
  (.sc 64 61 false 63 none
  (.op (some 62) (some (61, false)) (.q (.mov (.t 13)))
  (.op (some 63) (some (61, false)) (.q (.bin .neq (.t 62) (.c (.one (.p (.int .i64 0))))))
  .nil))
  (.op (some 65) none (.q (.mov (.t 64)))
  (.sc 68 65 false 67 none
  (.op (some 66) (some (65, false)) (.q (.mov (.t 15)))
  (.op (some 67) (some (65, false)) (.q (.bin .neq (.t 66) (.c (.one (.p (.int .i64 0))))))
  .nil))
  .nil)))))))) [7, 10, 14, 68] [3, 4, 5, 8, 10, 12, 14])
 (.cond (.t 68) (.seq (.region none (.op (some 69) none (.q (.mov (.t 7)))
  (.op (some 6) none (.q (.mov (.t 69)))
  .nil)) [6] [3, 4, 5, 8, 10, 12, 14])
 .ret)
 .skip))
 (.seq (.region none (.op (some 70) none (.q (.mov (.t 7)))
  (.op (some 71) none (.q (.mov (.t 70)))
  (.sc 75 71 true 74 none
  (.op (some 72) (some (71, true)) (.q (.load 2 true (.t 10)))
  (.op (some 73) (some (71, true)) (.q (.load 2 true (.t 14)))
  (.op (some 74) (some (71, true)) (.call (.c (.one (.p (.fn fi_fullerref03_Same [] [])))) [(.t 72), (.t 73)])
  .nil)))
  (.op (some 76) none (.q (.mov (.t 75)))
  (.sc 79 76 true 78 none
  (.op (some 77) (some (76, true)) (.q (.load 2 true (.t 10)))
  (.op (some 78) (some (76, true)) (.call (.c (.one (.p (.fn fi_tensor_Check [] [])))) [(.t 77)])
  .nil))
  (.op (some 6) none (.q (.mov (.t 79)))
  .nil)))))) [6] [3, 4, 5, 8, 10, 12, 14])
 .ret)))))))))
theorem is_fullerlaw04_ElemThree : compC Try.prog (Try.f15.body.getD .skip) = some a_fullerlaw04_ElemThree.erase := by kernel_rfl
theorem ok_fullerlaw04_ElemThree : a_fullerlaw04_ElemThree.ok 80 = true := by kernel_rfl
theorem rv_fullerlaw04_ElemThree : compRV Try.prog Try.f15.results.toList = some [.tmp 6] := by kernel_rfl
theorem pure_fullerlaw04_ElemThree {ds : List DV} {r : DV} (hn : ds.length ≤ 80) (h : ∀ (G : AM.Ground), G.P = Try.prog → G.nt = 80 → T G Fence.wide 0 a_fullerlaw04_ElemThree (AM.Ends [.tmp 6] r) { env := initE 0 ds, σ := [] }) : PureC Try.prog fi_fullerlaw04_ElemThree ds r :=
  pureC_of Try.call15 Try.func15 (by rfl) is_fullerlaw04_ElemThree ok_fullerlaw04_ElemThree rv_fullerlaw04_ElemThree hn h

def a_fullerref03_Few : ACode := (.seq (.region none (.op (some 1) none (.n (.box 2 (.t 0)))
  (.op (some 2) none (.q (.mov (.c (.one (.p (.bool false))))))
  .nil)) [1] [1])
 (.seq (.region none (.op (some 3) none (.q (.faddr 0 (.t 1)))
  (.op (some 4) none (.q (.load 1 false (.t 3)))
  (.op (some 5) none (.q (.len (.t 4)))
  (.op (some 6) none (.q (.bin .leq (.t 5) (.c (.one (.p (.int .i64 100))))))
  (.op (some 7) none (.q (.mov (.t 6)))
  (.sc 12 7 true 11 none
  (.op (some 8) (some (7, true)) (.q (.faddr 1 (.t 1)))
  (.op (some 9) (some (7, true)) (.q (.load 1 false (.t 8)))
  (.op (some 10) (some (7, true)) (.q (.len (.t 9)))
  (.op (some 11) (some (7, true)) (.q (.bin .leq (.t 10) (.c (.one (.p (.int .i64 100))))))
  .nil))))
  (.op (some 2) none (.q (.mov (.t 12)))
  .nil))))))) [2] [1])
 .ret))
theorem is_fullerref03_Few : compC Try.prog (Try.f20.body.getD .skip) = some a_fullerref03_Few.erase := by kernel_rfl
theorem ok_fullerref03_Few : a_fullerref03_Few.ok 13 = true := by kernel_rfl
theorem rv_fullerref03_Few : compRV Try.prog Try.f20.results.toList = some [.tmp 2] := by kernel_rfl
theorem pure_fullerref03_Few {ds : List DV} {r : DV} (hn : ds.length ≤ 13) (h : ∀ (G : AM.Ground), G.P = Try.prog → G.nt = 13 → T G Fence.wide 0 a_fullerref03_Few (AM.Ends [.tmp 2] r) { env := initE 0 ds, σ := [] }) : PureC Try.prog fi_fullerref03_Few ds r :=
  pureC_of Try.call20 Try.func20 (by rfl) is_fullerref03_Few ok_fullerref03_Few rv_fullerref03_Few hn h

def a_fullerref03_Same : ACode := (.seq (.region none (.op (some 2) none (.n (.box 2 (.t 0)))
  (.op (some 3) none (.n (.box 2 (.t 1)))
  (.op (some 4) none (.q (.mov (.c (.one (.p (.bool false))))))
  .nil))) [2, 3] [2, 3])
 (.seq (.region none (.op (some 6) none (.q (.faddr 0 (.t 2)))
  (.op (some 7) none (.q (.load 1 false (.t 6)))
  (.op (some 8) none (.q (.faddr 0 (.t 3)))
  (.op (some 9) none (.q (.load 1 false (.t 8)))
  (.op (some 10) none (.call (.c (.one (.p (.fn fi_fullerref02_Same [] [])))) [(.t 7), (.t 9)])
  (.op (some 5) none (.q (.mov (.t 10)))
  .nil)))))) [2, 3, 5] [2, 3])
 (.seq (.region none (.op (some 11) none (.q (.mov (.t 5)))
  (.op (some 12) none (.q (.mov (.t 11)))
  (.sc 18 12 true 17 none
  (.op (some 13) (some (12, true)) (.q (.faddr 1 (.t 2)))
  (.op (some 14) (some (12, true)) (.q (.load 1 false (.t 13)))
  (.op (some 15) (some (12, true)) (.q (.faddr 1 (.t 3)))
  (.op (some 16) (some (12, true)) (.q (.load 1 false (.t 15)))
  (.op (some 17) (some (12, true)) (.call (.c (.one (.p (.fn fi_fullerref02_Same [] [])))) [(.t 14), (.t 16)])
  .nil)))))
  (.op (some 4) none (.q (.mov (.t 18)))
  .nil)))) [4] [2, 3])
 .ret)))
theorem is_fullerref03_Same : compC Try.prog (Try.f23.body.getD .skip) = some a_fullerref03_Same.erase := by kernel_rfl
theorem ok_fullerref03_Same : a_fullerref03_Same.ok 19 = true := by kernel_rfl
theorem rv_fullerref03_Same : compRV Try.prog Try.f23.results.toList = some [.tmp 4] := by kernel_rfl
theorem pure_fullerref03_Same {ds : List DV} {r : DV} (hn : ds.length ≤ 19) (h : ∀ (G : AM.Ground), G.P = Try.prog → G.nt = 19 → T G Fence.wide 0 a_fullerref03_Same (AM.Ends [.tmp 4] r) { env := initE 0 ds, σ := [] }) : PureC Try.prog fi_fullerref03_Same ds r :=
  pureC_of Try.call23 Try.func23 (by rfl) is_fullerref03_Same ok_fullerref03_Same rv_fullerref03_Same hn h

def a_tensor_Check : ACode := (.seq (.region none (.op (some 1) none (.n (.box 2 (.t 0)))
  (.op (some 2) none (.q (.mov (.c (.one (.p (.bool false))))))
  .nil)) [1] [1])
 (.seq (.region (some [[], [], [], [], [], [], [], [4, 5, 6], [4, 5, 6], [4, 5, 6], [], [], []]) (.op (some 3) none (.q (.faddr 0 (.t 1)))
  (.op (some 4) none (.q (.load 1 false (.t 3)))
  (.op (some 5) none (.call (.c (.one (.p (.fn fi_shape_Check [] [])))) [(.t 4)])
  (.op (some 6) none (.q (.mov (.t 5)))
  (.sc 14 6 true 13 none
  (.op (some 7) (some (6, true)) (.q (.faddr 1 (.t 1)))
  (.op (some 8) (some (6, true)) (.q (.load 1 false (.t 7)))
  (.op (some 9) (some (6, true)) (.q (.len (.t 8)))
  (.op (some 10) (some (6, true)) (.q (.faddr 0 (.t 1)))
  (.op (some 11) (some (6, true)) (.q (.load 1 false (.t 10)))
  (.op (some 12) (some (6, true)) (.call (.c (.one (.p (.fn fi_shape_Size [] [])))) [(.t 11)])
  (.op (some 13) (some (6, true)) (.q (.bin .eql (.t 9) (.t 12)))
  .nil)))))))
  (.op (some 2) none (.q (.mov (.t 14)))
  .nil)))))) [2] [1])
 .ret))
theorem is_tensor_Check : compC Try.prog (Try.f28.body.getD .skip) = some a_tensor_Check.erase := by kernel_rfl
theorem ok_tensor_Check : a_tensor_Check.ok 15 = true := by kernel_rfl
theorem rv_tensor_Check : compRV Try.prog Try.f28.results.toList = some [.tmp 2] := by kernel_rfl
theorem pure_tensor_Check {ds : List DV} {r : DV} (hn : ds.length ≤ 15) (h : ∀ (G : AM.Ground), G.P = Try.prog → G.nt = 15 → T G Fence.wide 0 a_tensor_Check (AM.Ends [.tmp 2] r) { env := initE 0 ds, σ := [] }) : PureC Try.prog fi_tensor_Check ds r :=
  pureC_of Try.call28 Try.func28 (by rfl) is_tensor_Check ok_tensor_Check rv_tensor_Check hn h

def a_tensor_Full : ACode := (.seq (.region none (.op (some 4) none (.n (.alloc [.nils, .nils]))
  (.op (some 5) none (.q (.mov (.c (.one (.p (.int .i64 0))))))
  .nil)) [0, 1, 4] [4])
 (.seq (.seq (.region none (.op (some 6) none (.q (.mov (.t 0)))
  (.op (some 7) none (.call (.c (.one (.p (.fn fi_shape_Check [] [])))) [(.t 6)])
  (.op (some 8) none (.q (.un .not (.t 7)))
  .nil))) [0, 1, 4, 8] [4])
 (.cond (.t 8) (.seq (.region none (.op (some 9) none (.q (.build [.nils, .nils] []))
  (.op none none (.s (.store 2 (.t 4) (.t 9)))
  (.op (some 5) none (.q (.mov (.c (.one (.p (.int .i64 20))))))
  .nil))) [4, 5] [4])
 .ret)
 .skip))
 (.seq (.region none (.op (some 10) none (.q (.mov (.t 0)))
  (.op (some 11) none (.call (.c (.one (.p (.fn fi_slices_Clone_int_int [] [])))) [(.t 10)])
  (.op (some 12) none (.q (.mov (.t 1)))
  (.op (some 13) none (.n (.lit 1 1 [(.int .i64 0)] [(0, (.t 12))]))
  (.op (some 14) none (.q (.mov (.t 0)))
  (.op (some 15) none (.call (.c (.one (.p (.fn fi_shape_Size [] [])))) [(.t 14)])
  (.op (some 16) none (.call (.c (.one (.p (.fn fi_slices_Repeat_int_int [] [])))) [(.t 13), (.t 15)])
  (.op (some 17) none (.q (.build [.nils, .nils] [(0, 1, (.t 11)), (1, 1, (.t 16))]))
  (.op none none (.s (.store 2 (.t 4) (.t 17)))
  (.op (some 5) none (.q (.mov (.c (.one (.p (.int .i64 0))))))
  .nil)))))))))) [4, 5] [4, 13])
 .ret)))
theorem is_tensor_Full : compC Try.prog (Try.f31.body.getD .skip) = some a_tensor_Full.erase := by kernel_rfl
theorem ok_tensor_Full : a_tensor_Full.ok 18 = true := by kernel_rfl
theorem rv_tensor_Full : compRV Try.prog Try.f31.results.toList = some [.cell 2 true 4, .tmp 5] := by kernel_rfl
theorem pure_tensor_Full {ds : List DV} {r : DV} (hn : ds.length ≤ 18) (h : ∀ (G : AM.Ground), G.P = Try.prog → G.nt = 18 → T G Fence.wide 0 a_tensor_Full (AM.Ends [.cell 2 true 4, .tmp 5] r) { env := initE 0 ds, σ := [] }) : PureC Try.prog fi_tensor_Full ds r :=
  pureC_of Try.call31 Try.func31 (by rfl) is_tensor_Full ok_tensor_Full rv_tensor_Full hn h

theorem mut_tensor_Full {vs : List AV} {σ σ' : Sto} {r : AV} {fr : List Nat} (hn : vs.length ≤ 18) (h : ∀ (G : AM.Ground) (ex : List AV), G.P = Try.prog → G.nt = 18 → (∀ d ∈ fr, ex.all (fun v => !v.has d) = true) → T G Fence.wide 0 a_tensor_Full (EndsM [.cell 2 true 4, .tmp 5] r σ' ex) { env := initV 0 vs, σ := σ, ex := ex }) : MutC Try.prog fi_tensor_Full vs σ r σ' fr :=
  mutC_of Try.call31 Try.func31 (by rfl) is_tensor_Full ok_tensor_Full rv_tensor_Full hn h

def a_fix_Mul : ACode := (.seq (.region none (.op (some 4) none (.q (.mov (.c (.one (.p (.int .i64 0))))))
  (.op (some 5) none (.q (.mov (.c (.one (.p (.int .i64 0))))))
  .nil)) [0, 1] [])
 (.seq (.region none (.op (some 9) none (.q (.mov (.t 0)))
  (.op (some 10) none (.call (.c (.one (.p (.fn fi_fix_size [] [])))) [(.t 9)])
  (.op (some 11) none (.q (.mov (.t 1)))
  (.op (some 12) none (.call (.c (.one (.p (.fn fi_fix_size [] [])))) [(.t 11)])
  (.op (some 13) none (.call (.c (.one (.p (.fn fi_math_bits_Mul64 [] [])))) [(.t 10), (.t 12)])
  (.op (some 8) none (.q (.mov (.t 13)))
  (.op (some 14) none (.q (.extr (.t 8) 0))
  (.op (some 15) none (.q (.extr (.t 8) 1))
  (.op (some 6) none (.q (.mov (.t 14)))
  (.op (some 7) none (.q (.mov (.t 15)))
  .nil)))))))))) [0, 1, 6, 7] [])
 (.seq (.region none (.op (some 16) none (.q (.mov (.t 6)))
  (.op (some 17) none (.q (.bin .shr (.t 16) (.c (.one (.p (.int .u64 32))))))
  (.op (some 18) none (.q (.mov (.t 6)))
  (.op (some 19) none (.q (.bin .shl (.t 18) (.c (.one (.p (.int .u64 32))))))
  (.op (some 20) none (.q (.mov (.t 7)))
  (.op (some 21) none (.q (.bin .shr (.t 20) (.c (.one (.p (.int .u64 32))))))
  (.op (some 22) none (.q (.bin .or (.t 19) (.t 21)))
  (.op (some 23) none (.q (.build [(.p (.int .u64 0)), (.p (.int .u64 0))] [(0, 1, (.t 17)), (1, 1, (.t 22))]))
  (.op (some 24) none (.q (.mov (.t 7)))
  (.op (some 25) none (.q (.bin .and (.t 24) (.c (.one (.p (.int .u64 4294967295))))))
  (.op (some 26) none (.q (.bin .neq (.t 25) (.c (.one (.p (.int .u64 0))))))
  (.op (some 27) none (.q (.mov (.t 0)))
  (.op (some 28) none (.q (.mov (.t 1)))
  (.op (some 29) none (.call (.c (.one (.p (.fn fi_fix_apart [] [])))) [(.t 27), (.t 28)])
  (.op (some 30) none (.call (.c (.one (.p (.fn fi_fix_wide_signed [] [])))) [(.t 23), (.t 26), (.t 29)])
  (.op (some 31) none (.q (.extr (.t 30) 0))
  (.op (some 32) none (.q (.extr (.t 30) 1))
  (.op (some 4) none (.q (.mov (.t 31)))
  (.op (some 5) none (.q (.mov (.t 32)))
  .nil))))))))))))))))))) [4, 5] [])
 .ret)))
theorem is_fix_Mul : compC Try.prog (Try.f32.body.getD .skip) = some a_fix_Mul.erase := by kernel_rfl
theorem ok_fix_Mul : a_fix_Mul.ok 33 = true := by kernel_rfl
theorem rv_fix_Mul : compRV Try.prog Try.f32.results.toList = some [.tmp 4, .tmp 5] := by kernel_rfl
theorem pure_fix_Mul {ds : List DV} {r : DV} (hn : ds.length ≤ 33) (h : ∀ (G : AM.Ground), G.P = Try.prog → G.nt = 33 → T G Fence.wide 0 a_fix_Mul (AM.Ends [.tmp 4, .tmp 5] r) { env := initE 0 ds, σ := [] }) : PureC Try.prog fi_fix_Mul ds r :=
  pureC_of Try.call32 Try.func32 (by rfl) is_fix_Mul ok_fix_Mul rv_fix_Mul hn h

def a_fullerref02_Same : ACode := (.seq (.region none (.op (some 4) none (.q (.mov (.c (.one (.p (.bool false))))))
  .nil) [0, 1] [])
 (.seq (.seq (.region none (.op (some 6) none (.q (.mov (.t 0)))
  (.op (some 7) none (.q (.len (.t 6)))
  (.op (some 8) none (.q (.mov (.t 1)))
  (.op (some 9) none (.q (.len (.t 8)))
  (.op (some 10) none (.q (.bin .neq (.t 7) (.t 9)))
  .nil))))) [0, 1, 10] [])
 (.cond (.t 10) (.seq (.region none (.op (some 4) none (.q (.mov (.c (.one (.p (.bool false))))))
  .nil) [4] [])
 .ret)
 .skip))
 (.seq (.seq (.region none (.op (some 5) none (.q (.mov (.c (.one (.p (.int .i64 0))))))
  .nil) [0, 1, 5] [])
 (.block 0 (.loop (.seq (.seq (.region none (.op (some 11) none (.q (.mov (.t 5)))
  (.op (some 12) none (.q (.mov (.t 0)))
  (.op (some 13) none (.q (.len (.t 12)))
  (.op (some 14) none (.q (.bin .lss (.t 11) (.t 13)))
  .nil)))) [0, 1, 5, 14] [])
 (.cond (.t 14) .skip
 (.exit 0)))
 (.seq (.block 1 (.seq (.region (some [[], [0], [], [], [0, 1, 2, 3], [0, 1, 2, 3, 4], [0, 1, 2, 3], [0, 1, 2, 3], []]) (.op (some 17) none (.q (.mov (.t 0)))
  (.op (some 18) none (.q (.mov (.t 5)))
  (.op (some 19) none (.q (.iaddr 1 (.t 17) (.t 18)))
  (.op (some 20) none (.q (.load 1 false (.t 19)))
  (.op (some 21) none (.q (.mov (.t 1)))
  (.op (some 22) none (.q (.mov (.t 5)))
  (.op (some 23) none (.q (.iaddr 1 (.t 21) (.t 22)))
  (.op (some 24) none (.q (.load 1 false (.t 23)))
  (.op (some 25) none (.q (.bin .neq (.t 20) (.t 24)))
  .nil))))))))) [0, 1, 5, 25] [])
 (.cond (.t 25) (.seq (.region none (.op (some 4) none (.q (.mov (.c (.one (.p (.bool false))))))
  .nil) [4] [])
 .ret)
 .skip)))
 (.region none (.op (some 15) none (.q (.mov (.t 5)))
  (.op (some 16) none (.q (.bin .add (.t 15) (.c (.one (.p (.int .i64 1))))))
  (.op (some 5) none (.q (.mov (.t 16)))
  .nil))) [0, 1, 5] []))))))
 (.seq (.region none (.op (some 4) none (.q (.mov (.c (.one (.p (.bool true))))))
  .nil) [4] [])
 .ret))))
theorem is_fullerref02_Same : compC Try.prog (Try.f36.body.getD .skip) = some a_fullerref02_Same.erase := by kernel_rfl
theorem ok_fullerref02_Same : a_fullerref02_Same.ok 26 = true := by kernel_rfl
theorem rv_fullerref02_Same : compRV Try.prog Try.f36.results.toList = some [.tmp 4] := by kernel_rfl
theorem pure_fullerref02_Same {ds : List DV} {r : DV} (hn : ds.length ≤ 26) (h : ∀ (G : AM.Ground), G.P = Try.prog → G.nt = 26 → T G Fence.wide 0 a_fullerref02_Same (AM.Ends [.tmp 4] r) { env := initE 0 ds, σ := [] }) : PureC Try.prog fi_fullerref02_Same ds r :=
  pureC_of Try.call36 Try.func36 (by rfl) is_fullerref02_Same ok_fullerref02_Same rv_fullerref02_Same hn h

def a_fullerlaw04_awake : ACode := (.seq (.region none (.op (some 0) none (.q (.mov (.c (.one (.p (.bool false))))))
  .nil) [] [])
 (.seq (.region none (.op (some 15) none (.n (.lit 1 1 [(.int .i64 0)] [(0, (.c (.one (.p (.int .i64 2)))))]))
  (.op (some 16) none (.n (.lit 1 2 [(.int .i64 0)] [(0, (.c (.one (.p (.int .i64 5))))), (1, (.c (.one (.p (.int .i64 1)))))]))
  (.op (some 17) none (.q (.build [.nils, .nils] [(0, 1, (.t 15)), (1, 1, (.t 16))]))
  (.op (some 1) none (.n (.alloc [.nils, .nils]))
  (.op none none (.s (.store 2 (.t 1) (.t 17)))
  .nil))))) [1] [1, 15, 16])
 (.seq (.region none (.op (some 18) none (.n (.lit 1 1 [(.int .i64 0)] [(0, (.c (.one (.p (.int .i64 2)))))]))
  (.op (some 19) none (.q (.build [.nils, .nils] [(1, 1, (.t 18))]))
  (.op (some 2) none (.n (.alloc [.nils, .nils]))
  (.op none none (.s (.store 2 (.t 2) (.t 19)))
  .nil)))) [1, 2] [1, 2, 15, 16, 18])
 (.seq (.region none (.op (some 21) none (.q (.load 2 true (.t 1)))
  (.op (some 22) none (.q (.load 2 true (.t 2)))
  (.op (some 23) none (.call (.c (.one (.p (.fn fi_elem_Two [] [])))) [(.c (.one (.p (.int .i64 11)))), (.t 21), (.t 22)])
  (.op (some 20) none (.q (.mov (.t 23)))
  (.op (some 24) none (.q (.extr (.t 20) 0))
  (.op (some 25) none (.q (.extr (.t 20) 1))
  (.op (some 3) none (.n (.alloc [.nils, .nils]))
  (.op none none (.s (.store 2 (.t 3) (.t 24)))
  (.op (some 4) none (.q (.mov (.t 25)))
  .nil))))))))) [1, 2, 3, 4] [1, 2, 3, 15, 16, 18])
 (.seq (.region none (.op (some 27) none (.q (.load 2 true (.t 1)))
  (.op (some 28) none (.call (.c (.one (.p (.fn fi_elem_One [] [])))) [(.c (.one (.p (.int .i64 20)))), (.t 27)])
  (.op (some 26) none (.q (.mov (.t 28)))
  (.op (some 29) none (.q (.extr (.t 26) 0))
  (.op (some 30) none (.q (.extr (.t 26) 1))
  (.op (some 5) none (.n (.alloc [.nils, .nils]))
  (.op none none (.s (.store 2 (.t 5) (.t 29)))
  (.op (some 6) none (.q (.mov (.t 30)))
  .nil)))))))) [1, 2, 3, 4, 5, 6] [1, 2, 3, 5, 15, 16, 18])
 (.seq (.region none (.op (some 32) none (.q (.load 2 true (.t 1)))
  (.op (some 33) none (.call (.c (.one (.p (.fn fi_elem_One [] [])))) [(.c (.one (.p (.int .i64 10)))), (.t 32)])
  (.op (some 31) none (.q (.mov (.t 33)))
  (.op (some 34) none (.q (.extr (.t 31) 0))
  (.op (some 35) none (.q (.extr (.t 31) 1))
  (.op (some 7) none (.n (.alloc [.nils, .nils]))
  (.op none none (.s (.store 2 (.t 7) (.t 34)))
  (.op (some 8) none (.q (.mov (.t 35)))
  .nil)))))))) [1, 2, 3, 4, 5, 6, 8] [1, 2, 3, 5, 7, 15, 16, 18])
 (.seq (.region none (.op (some 37) none (.q (.load 2 true (.t 1)))
  (.op (some 38) none (.q (.load 2 true (.t 2)))
  (.op (some 39) none (.call (.c (.one (.p (.fn fi_elem_Two [] [])))) [(.c (.one (.p (.int .i64 20)))), (.t 37), (.t 38)])
  (.op (some 36) none (.q (.mov (.t 39)))
  (.op (some 40) none (.q (.extr (.t 36) 0))
  (.op (some 41) none (.q (.extr (.t 36) 1))
  (.op (some 9) none (.n (.alloc [.nils, .nils]))
  (.op none none (.s (.store 2 (.t 9) (.t 40)))
  (.op (some 10) none (.q (.mov (.t 41)))
  .nil))))))))) [1, 3, 4, 5, 6, 8, 10] [1, 2, 3, 5, 7, 9, 15, 16, 18])
 (.seq (.region none (.op (some 43) none (.q (.load 2 true (.t 1)))
  (.op (some 44) none (.n (.lit 1 1 [(.int .i64 0)] [(0, (.c (.one (.p (.int .i64 0)))))]))
  (.op (some 45) none (.q (.build [.nils, .nils] [(1, 1, (.t 44))]))
  (.op (some 46) none (.call (.c (.one (.p (.fn fi_elem_Two [] [])))) [(.c (.one (.p (.int .i64 13)))), (.t 43), (.t 45)])
  (.op (some 42) none (.q (.mov (.t 46)))
  (.op (some 47) none (.q (.extr (.t 42) 0))
  (.op (some 48) none (.q (.extr (.t 42) 1))
  (.op (some 11) none (.n (.alloc [.nils, .nils]))
  (.op none none (.s (.store 2 (.t 11) (.t 47)))
  (.op (some 12) none (.q (.mov (.t 48)))
  .nil)))))))))) [3, 4, 5, 6, 8, 10, 12] [1, 2, 3, 5, 7, 9, 11, 15, 16, 18, 44])
 (.seq (.region none (.op (some 50) none (.q (.load 2 true (.t 5)))
  (.op (some 51) none (.call (.c (.one (.p (.fn fi_elem_One [] [])))) [(.c (.one (.p (.int .i64 21)))), (.t 50)])
  (.op (some 49) none (.q (.mov (.t 51)))
  (.op (some 52) none (.q (.extr (.t 49) 0))
  (.op (some 53) none (.q (.extr (.t 49) 1))
  (.op (some 13) none (.n (.alloc [.nils, .nils]))
  (.op none none (.s (.store 2 (.t 13) (.t 52)))
  (.op (some 14) none (.q (.mov (.t 53)))
  .nil)))))))) [3, 4, 5, 6, 8, 10, 12, 13, 14] [1, 2, 3, 5, 7, 9, 11, 13, 15, 16, 18, 44])
 (.seq (.region none (.op (some 54) none (.q (.faddr 1 (.t 3)))
  (.op (some 55) none (.q (.load 1 false (.t 54)))
  (.op (some 56) none (.n (.lit 1 2 [(.int .i64 0)] [(0, (.c (.one (.p (.int .i64 3))))), (1, (.c (.one (.p (.int .i64 (-1))))))]))
  (.op (some 57) none (.call (.c (.one (.p (.fn fi_fullerref02_Same [] [])))) [(.t 55), (.t 56)])
  (.op (some 58) none (.q (.mov (.t 57)))
  (.sc 61 58 true 60 none
  (.op (some 59) (some (58, true)) (.q (.mov (.t 4)))
  (.op (some 60) (some (58, true)) (.q (.bin .eql (.t 59) (.c (.one (.p (.int .i64 0))))))
  .nil))
  (.op (some 62) none (.q (.mov (.t 61)))
  (.sc 67 62 true 66 none
  (.op (some 63) (some (62, true)) (.q (.faddr 1 (.t 5)))
  (.op (some 64) (some (62, true)) (.q (.load 1 false (.t 63)))
  (.op (some 65) (some (62, true)) (.n (.lit 1 2 [(.int .i64 0)] [(0, (.c (.one (.p (.int .i64 (-5)))))), (1, (.c (.one (.p (.int .i64 (-1))))))]))
  (.op (some 66) (some (62, true)) (.call (.c (.one (.p (.fn fi_fullerref02_Same [] [])))) [(.t 64), (.t 65)])
  .nil))))
  (.op (some 68) none (.q (.mov (.t 67)))
  (.sc 71 68 true 70 none
  (.op (some 69) (some (68, true)) (.q (.mov (.t 6)))
  (.op (some 70) (some (68, true)) (.q (.bin .eql (.t 69) (.c (.one (.p (.int .i64 0))))))
  .nil))
  (.op (some 72) none (.q (.mov (.t 71)))
  (.sc 75 72 true 74 none
  (.op (some 73) (some (72, true)) (.q (.mov (.t 8)))
  (.op (some 74) (some (72, true)) (.q (.bin .eql (.t 73) (.c (.one (.p (.int .i64 1))))))
  .nil))
  (.op (some 76) none (.q (.mov (.t 75)))
  (.sc 79 76 true 78 none
  (.op (some 77) (some (76, true)) (.q (.mov (.t 10)))
  (.op (some 78) (some (76, true)) (.q (.bin .eql (.t 77) (.c (.one (.p (.int .i64 1))))))
  .nil))
  (.op (some 80) none (.q (.mov (.t 79)))
  (.sc 83 80 true 82 none
  (.op (some 81) (some (80, true)) (.q (.mov (.t 12)))
  (.op (some 82) (some (80, true)) (.q (.bin .eql (.t 81) (.c (.one (.p (.int .i64 11))))))
  .nil))
  (.op (some 84) none (.q (.mov (.t 83)))
  (.sc 89 84 true 88 none
  (.op (some 85) (some (84, true)) (.q (.faddr 1 (.t 13)))
  (.op (some 86) (some (84, true)) (.q (.load 1 false (.t 85)))
  (.op (some 87) (some (84, true)) (.n (.lit 1 2 [(.int .i64 0)] [(0, (.c (.one (.p (.int .i64 0))))), (1, (.c (.one (.p (.int .i64 0)))))]))
  (.op (some 88) (some (84, true)) (.call (.c (.one (.p (.fn fi_fullerref02_Same [] [])))) [(.t 86), (.t 87)])
  .nil))))
  (.op (some 90) none (.q (.mov (.t 89)))
  (.sc 93 90 true 92 none
  (.op (some 91) (some (90, true)) (.q (.mov (.t 14)))
  (.op (some 92) (some (90, true)) (.q (.bin .eql (.t 91) (.c (.one (.p (.int .i64 0))))))
  .nil))
  (.op (some 94) none (.q (.mov (.t 93)))
  (.op (some 95) none (.q (.pick (.t 94) (.c (.one (.p (.bool true)))) (.c (.one (.p (.bool false))))))
  (.op (some 96) none (.q (.mov (.t 95)))
  (.op (some 97) none (.q (.pick (.t 96) (.c (.one (.p (.bool true)))) (.c (.one (.p (.bool false))))))
  (.op (some 0) none (.q (.mov (.t 97)))
  .nil))))))))))))))))))))))))) [0] [1, 2, 3, 5, 7, 9, 11, 13, 15, 16, 18, 44, 56, 65, 87])
 .ret))))))))))
theorem is_fullerlaw04_awake : compC Try.prog (Try.f37.body.getD .skip) = some a_fullerlaw04_awake.erase := by kernel_rfl
theorem ok_fullerlaw04_awake : a_fullerlaw04_awake.ok 98 = true := by kernel_rfl
theorem rv_fullerlaw04_awake : compRV Try.prog Try.f37.results.toList = some [.tmp 0] := by kernel_rfl
theorem pure_fullerlaw04_awake {ds : List DV} {r : DV} (hn : ds.length ≤ 98) (h : ∀ (G : AM.Ground), G.P = Try.prog → G.nt = 98 → T G Fence.wide 0 a_fullerlaw04_awake (AM.Ends [.tmp 0] r) { env := initE 0 ds, σ := [] }) : PureC Try.prog fi_fullerlaw04_awake ds r :=
  pureC_of Try.call37 Try.func37 (by rfl) is_fullerlaw04_awake ok_fullerlaw04_awake rv_fullerlaw04_awake hn h

def a_elem_One : ACode := (.seq (.region none (.op (some 3) none (.n (.box 2 (.t 1)))
  (.op (some 4) none (.n (.alloc [.nils, .nils]))
  (.op (some 5) none (.q (.mov (.c (.one (.p (.int .i64 0))))))
  .nil))) [0, 3, 4] [3, 4])
 (.seq (.region none (.op (some 7) none (.call (.c (.one (.p (.fn fi_elem_kinds [] [])))) [])
  (.op (some 8) none (.q (.mov (.t 0)))
  (.op (some 9) none (.q (.mget (.agg [(.p .nilF), (.p .nilF)]) false (.t 7) (.t 8)))
  (.op (some 6) none (.n (.alloc [(.p .nilF), (.p .nilF)]))
  (.op none none (.s (.store 2 (.t 6) (.t 9)))
  .nil))))) [3, 4, 6] [3, 4, 6])
 (.seq (.block 0 (.seq (.region none (.op (some 11) none (.q (.faddr 0 (.t 6)))
  (.op (some 12) none (.q (.load 1 false (.t 11)))
  (.op (some 13) none (.q (.eqN 1 false (.t 12) (.c (.one (.p .nilF)))))
  (.op (some 10) none (.q (.mov (.t 13)))
  .nil)))) [3, 4, 6, 10] [3, 4, 6])
 (.cond (.t 10) (.seq (.region none (.op (some 14) none (.q (.build [.nils, .nils] []))
  (.op none none (.s (.store 2 (.t 4) (.t 14)))
  (.op (some 5) none (.q (.mov (.c (.one (.p (.int .i64 1))))))
  .nil))) [4, 5] [3, 4, 6])
 .ret)
 (.seq (.region none (.op (some 16) none (.q (.load 2 true (.t 3)))
  (.op (some 17) none (.call (.c (.one (.p (.fn fi_tensor_Check [] [])))) [(.t 16)])
  (.op (some 18) none (.q (.un .not (.t 17)))
  (.op (some 15) none (.q (.mov (.t 18)))
  .nil)))) [3, 4, 6, 15] [3, 4, 6])
 (.cond (.t 15) (.seq (.region none (.op (some 19) none (.q (.build [.nils, .nils] []))
  (.op none none (.s (.store 2 (.t 4) (.t 19)))
  (.op (some 5) none (.q (.mov (.c (.one (.p (.int .i64 30))))))
  .nil))) [4, 5] [3, 4, 6])
 .ret)
 .skip)))))
 (.seq (.region none (.op (some 20) none (.q (.faddr 0 (.t 3)))
  (.op (some 21) none (.q (.load 1 false (.t 20)))
  (.op (some 22) none (.q (.mkF fi_elem_One_1 [] [(.t 6), (.t 3)]))
  (.op (some 23) none (.call (.c (.one (.p (.fn fi_elem_each [] [])))) [(.t 21), (.t 22)])
  (.op (some 24) none (.q (.extr (.t 23) 0))
  (.op (some 25) none (.q (.extr (.t 23) 1))
  (.op none none (.s (.store 2 (.t 4) (.t 24)))
  (.op (some 5) none (.q (.mov (.t 25)))
  .nil)))))))) [4, 5] [3, 4, 6])
 .ret))))
theorem is_elem_One : compC Try.prog (Try.f38.body.getD .skip) = some a_elem_One.erase := by kernel_rfl
theorem ok_elem_One : a_elem_One.ok 26 = true := by kernel_rfl
theorem rv_elem_One : compRV Try.prog Try.f38.results.toList = some [.cell 2 true 4, .tmp 5] := by kernel_rfl
theorem pure_elem_One {ds : List DV} {r : DV} (hn : ds.length ≤ 26) (h : ∀ (G : AM.Ground), G.P = Try.prog → G.nt = 26 → T G Fence.wide 0 a_elem_One (AM.Ends [.cell 2 true 4, .tmp 5] r) { env := initE 0 ds, σ := [] }) : PureC Try.prog fi_elem_One ds r :=
  pureC_of Try.call38 Try.func38 (by rfl) is_elem_One ok_elem_One rv_elem_One hn h

def a_elem_Two : ACode := (.seq (.region none (.op (some 4) none (.n (.box 2 (.t 1)))
  (.op (some 5) none (.n (.box 2 (.t 2)))
  (.op (some 6) none (.n (.alloc [.nils, .nils]))
  (.op (some 7) none (.q (.mov (.c (.one (.p (.int .i64 0))))))
  .nil)))) [0, 4, 5, 6] [4, 5, 6])
 (.seq (.region none (.op (some 15) none (.call (.c (.one (.p (.fn fi_elem_kinds [] [])))) [])
  (.op (some 16) none (.q (.mov (.t 0)))
  (.op (some 17) none (.q (.mget (.agg [(.p .nilF), (.p .nilF)]) false (.t 15) (.t 16)))
  (.op (some 8) none (.n (.alloc [(.p .nilF), (.p .nilF)]))
  (.op none none (.s (.store 2 (.t 8) (.t 17)))
  .nil))))) [4, 5, 6, 8] [4, 5, 6, 8])
 (.seq (.block 0 (.seq (.region none (.op (some 19) none (.q (.faddr 1 (.t 8)))
  (.op (some 20) none (.q (.load 1 false (.t 19)))
  (.op (some 21) none (.q (.eqN 1 false (.t 20) (.c (.one (.p .nilF)))))
  (.op (some 18) none (.q (.mov (.t 21)))
  .nil)))) [4, 5, 6, 8, 18] [4, 5, 6, 8])
 (.cond (.t 18) (.seq (.region none (.op (some 22) none (.q (.build [.nils, .nils] []))
  (.op none none (.s (.store 2 (.t 6) (.t 22)))
  (.op (some 7) none (.q (.mov (.c (.one (.p (.int .i64 1))))))
  .nil))) [6, 7] [4, 5, 6, 8])
 .ret)
 (.seq (.region none (.op (some 24) none (.q (.load 2 true (.t 4)))
  (.op (some 25) none (.call (.c (.one (.p (.fn fi_tensor_Check [] [])))) [(.t 24)])
  (.op (some 26) none (.q (.un .not (.t 25)))
  (.op (some 27) none (.q (.mov (.t 26)))
  (.sc 31 27 false 30 none
  (.op (some 28) (some (27, false)) (.q (.load 2 true (.t 5)))
  (.op (some 29) (some (27, false)) (.call (.c (.one (.p (.fn fi_tensor_Check [] [])))) [(.t 28)])
  (.op (some 30) (some (27, false)) (.q (.un .not (.t 29)))
  .nil)))
  (.op (some 23) none (.q (.mov (.t 31)))
  .nil)))))) [4, 5, 6, 8, 23] [4, 5, 6, 8])
 (.cond (.t 23) (.seq (.region none (.op (some 32) none (.q (.build [.nils, .nils] []))
  (.op none none (.s (.store 2 (.t 6) (.t 32)))
  (.op (some 7) none (.q (.mov (.c (.one (.p (.int .i64 30))))))
  .nil))) [6, 7] [4, 5, 6, 8])
 .ret)
 .skip)))))
 (.seq (.region none (.op (some 34) none (.q (.faddr 0 (.t 4)))
  (.op (some 35) none (.q (.load 1 false (.t 34)))
  (.op (some 36) none (.q (.faddr 0 (.t 5)))
  (.op (some 37) none (.q (.load 1 false (.t 36)))
  (.op (some 38) none (.call (.c (.one (.p (.fn fi_shape_Join [] [])))) [(.t 35), (.t 37)])
  (.op (some 33) none (.q (.mov (.t 38)))
  (.op (some 39) none (.q (.extr (.t 33) 0))
  (.op (some 40) none (.q (.extr (.t 33) 1))
  (.op (some 9) none (.q (.mov (.t 39)))
  (.op (some 10) none (.q (.mov (.t 40)))
  .nil)))))))))) [4, 5, 6, 8, 9, 10] [4, 5, 6, 8])
 (.seq (.seq (.region none (.op (some 41) none (.q (.mov (.t 10)))
  (.op (some 42) none (.q (.bin .neq (.t 41) (.c (.one (.p (.int .i64 0))))))
  .nil)) [4, 5, 6, 8, 9, 10, 42] [4, 5, 6, 8])
 (.cond (.t 42) (.seq (.region none (.op (some 43) none (.q (.build [.nils, .nils] []))
  (.op (some 44) none (.q (.mov (.t 10)))
  (.op none none (.s (.store 2 (.t 6) (.t 43)))
  (.op (some 7) none (.q (.mov (.t 44)))
  .nil)))) [6, 7] [4, 5, 6, 8])
 .ret)
 .skip))
 (.seq (.region none (.op (some 46) none (.q (.load 2 true (.t 4)))
  (.op (some 47) none (.q (.mov (.t 9)))
  (.op (some 48) none (.call (.c (.one (.p (.fn fi_tensor_Spread [] [])))) [(.t 46), (.t 47)])
  (.op (some 45) none (.q (.mov (.t 48)))
  (.op (some 49) none (.q (.extr (.t 45) 0))
  (.op (some 50) none (.q (.extr (.t 45) 1))
  (.op (some 11) none (.n (.alloc [.nils, .nils]))
  (.op none none (.s (.store 2 (.t 11) (.t 49)))
  (.op (some 12) none (.q (.mov (.t 50)))
  .nil))))))))) [5, 6, 8, 9, 11] [4, 5, 6, 8, 11])
 (.seq (.region none (.op (some 52) none (.q (.load 2 true (.t 5)))
  (.op (some 53) none (.q (.mov (.t 9)))
  (.op (some 54) none (.call (.c (.one (.p (.fn fi_tensor_Spread [] [])))) [(.t 52), (.t 53)])
  (.op (some 51) none (.q (.mov (.t 54)))
  (.op (some 55) none (.q (.extr (.t 51) 0))
  (.op (some 56) none (.q (.extr (.t 51) 1))
  (.op (some 13) none (.n (.alloc [.nils, .nils]))
  (.op none none (.s (.store 2 (.t 13) (.t 55)))
  (.op (some 14) none (.q (.mov (.t 56)))
  .nil))))))))) [6, 8, 9, 11, 13] [4, 5, 6, 8, 11, 13])
 (.seq (.region none (.op (some 57) none (.q (.mov (.t 9)))
  (.op (some 58) none (.q (.mkF fi_elem_Two_1 [] [(.t 8), (.t 11), (.t 13)]))
  (.op (some 59) none (.call (.c (.one (.p (.fn fi_elem_each [] [])))) [(.t 57), (.t 58)])
  (.op (some 60) none (.q (.extr (.t 59) 0))
  (.op (some 61) none (.q (.extr (.t 59) 1))
  (.op none none (.s (.store 2 (.t 6) (.t 60)))
  (.op (some 7) none (.q (.mov (.t 61)))
  .nil))))))) [6, 7] [4, 5, 6, 8, 11, 13])
 .ret))))))))
theorem is_elem_Two : compC Try.prog (Try.f40.body.getD .skip) = some a_elem_Two.erase := by kernel_rfl
theorem ok_elem_Two : a_elem_Two.ok 62 = true := by kernel_rfl
theorem rv_elem_Two : compRV Try.prog Try.f40.results.toList = some [.cell 2 true 6, .tmp 7] := by kernel_rfl
theorem pure_elem_Two {ds : List DV} {r : DV} (hn : ds.length ≤ 62) (h : ∀ (G : AM.Ground), G.P = Try.prog → G.nt = 62 → T G Fence.wide 0 a_elem_Two (AM.Ends [.cell 2 true 6, .tmp 7] r) { env := initE 0 ds, σ := [] }) : PureC Try.prog fi_elem_Two ds r :=
  pureC_of Try.call40 Try.func40 (by rfl) is_elem_Two ok_elem_Two rv_elem_Two hn h

def a_tensor_Spread : ACode := (.seq (.region none (.op (some 2) none (.n (.box 2 (.t 0)))
  (.op (some 4) none (.n (.alloc [.nils, .nils]))
  (.op (some 5) none (.q (.mov (.c (.one (.p (.int .i64 0))))))
  .nil))) [1, 2, 4] [2, 4])
 (.seq (.block 0 (.seq (.region none (.op (some 11) none (.q (.load 2 true (.t 2)))
  (.op (some 12) none (.call (.c (.one (.p (.fn fi_tensor_Check [] [])))) [(.t 11)])
  (.op (some 13) none (.q (.un .not (.t 12)))
  (.op (some 10) none (.q (.mov (.t 13)))
  .nil)))) [1, 2, 4, 10] [2, 4])
 (.cond (.t 10) (.seq (.region none (.op (some 14) none (.q (.build [.nils, .nils] []))
  (.op none none (.s (.store 2 (.t 4) (.t 14)))
  (.op (some 5) none (.q (.mov (.c (.one (.p (.int .i64 30))))))
  .nil))) [4, 5] [2, 4])
 .ret)
 (.seq (.region none (.op (some 16) none (.q (.faddr 0 (.t 2)))
  (.op (some 17) none (.q (.load 1 false (.t 16)))
  (.op (some 18) none (.q (.mov (.t 1)))
  (.op (some 19) none (.call (.c (.one (.p (.fn fi_shape_Fits [] [])))) [(.t 17), (.t 18)])
  (.op (some 20) none (.q (.un .not (.t 19)))
  (.op (some 15) none (.q (.mov (.t 20)))
  .nil)))))) [1, 2, 4, 15] [2, 4])
 (.cond (.t 15) (.seq (.region none (.op (some 21) none (.q (.build [.nils, .nils] []))
  (.op none none (.s (.store 2 (.t 4) (.t 21)))
  (.op (some 5) none (.q (.mov (.c (.one (.p (.int .i64 20))))))
  .nil))) [4, 5] [2, 4])
 .ret)
 .skip)))))
 (.seq (.region none (.op (some 23) none (.q (.mov (.t 1)))
  (.op (some 24) none (.call (.c (.one (.p (.fn fi_tensor_Full [] [])))) [(.t 23), (.c (.one (.p (.int .i64 0))))])
  (.op (some 22) none (.q (.mov (.t 24)))
  (.op (some 25) none (.q (.extr (.t 22) 0))
  (.op (some 26) none (.q (.extr (.t 22) 1))
  (.op (some 6) none (.n (.alloc [.nils, .nils]))
  (.op none none (.s (.store 2 (.t 6) (.t 25)))
  (.op (some 7) none (.q (.mov (.t 26)))
  .nil)))))))) [1, 2, 4, 6] [2, 4, 6])
 (.seq (.seq (.region none (.op (some 27) none (.q (.faddr 0 (.t 2)))
  (.op (some 28) none (.q (.load 1 false (.t 27)))
  (.op (some 29) none (.q (.mov (.t 1)))
  (.op (some 30) none (.call (.c (.one (.p (.fn fi_tensor_from [] [])))) [(.t 28), (.t 29)])
  .nil)))) [2, 4, 6, 30] [2, 4, 6])
 (.block 1 (.range (.t 30) [31, 32] (.seq (.region none (.op (some 8) none (.q (.mov (.t 31)))
  .nil) [2, 4, 6, 8, 30, 32] [2, 4, 6])
 (.region none (.op (some 9) none (.q (.mov (.t 32)))
  .nil) [2, 4, 6, 8, 9, 30] [2, 4, 6]))
 (.block 2 (.region (some [[], [], [0, 1], [0, 1, 2], [0, 1, 2], [0, 1, 2, 3, 4], [0, 1, 2], [0, 1, 2], [], []]) (.op (some 33) none (.q (.faddr 1 (.t 6)))
  (.op (some 34) none (.q (.load 1 false (.t 33)))
  (.op (some 35) none (.q (.mov (.t 8)))
  (.op (some 36) none (.q (.faddr 1 (.t 2)))
  (.op (some 37) none (.q (.load 1 false (.t 36)))
  (.op (some 38) none (.q (.mov (.t 9)))
  (.op (some 39) none (.q (.iaddr 1 (.t 37) (.t 38)))
  (.op (some 40) none (.q (.load 1 false (.t 39)))
  (.op (some 41) none (.q (.iaddr 1 (.t 34) (.t 35)))
  (.op none none (.s (.store 1 (.t 41) (.t 40)))
  .nil)))))))))) [2, 4, 6, 30] [2, 4, 6])))))
 (.seq (.region none (.op (some 42) none (.q (.load 2 true (.t 6)))
  (.op none none (.s (.store 2 (.t 4) (.t 42)))
  (.op (some 5) none (.q (.mov (.c (.one (.p (.int .i64 0))))))
  .nil))) [4, 5] [2, 4, 6])
 .ret)))))
theorem is_tensor_Spread : compC Try.prog (Try.f42.body.getD .skip) = some a_tensor_Spread.erase := by kernel_rfl
theorem ok_tensor_Spread : a_tensor_Spread.ok 43 = true := by kernel_rfl
theorem rv_tensor_Spread : compRV Try.prog Try.f42.results.toList = some [.cell 2 true 4, .tmp 5] := by kernel_rfl
theorem pure_tensor_Spread {ds : List DV} {r : DV} (hn : ds.length ≤ 43) (h : ∀ (G : AM.Ground), G.P = Try.prog → G.nt = 43 → T G Fence.wide 0 a_tensor_Spread (AM.Ends [.cell 2 true 4, .tmp 5] r) { env := initE 0 ds, σ := [] }) : PureC Try.prog fi_tensor_Spread ds r :=
  pureC_of Try.call42 Try.func42 (by rfl) is_tensor_Spread ok_tensor_Spread rv_tensor_Spread hn h

def a_shape_Join : ACode := (.seq (.region none (.op (some 4) none (.q (.mov (.c (.one .nils))))
  (.op (some 5) none (.q (.mov (.c (.one (.p (.int .i64 0))))))
  .nil)) [0, 1] [])
 (.seq (.seq (.region none (.op (some 10) none (.q (.mov (.t 0)))
  (.op (some 11) none (.call (.c (.one (.p (.fn fi_shape_Check [] [])))) [(.t 10)])
  (.op (some 12) none (.q (.un .not (.t 11)))
  (.op (some 13) none (.q (.mov (.t 12)))
  (.sc 17 13 false 16 none
  (.op (some 14) (some (13, false)) (.q (.mov (.t 1)))
  (.op (some 15) (some (13, false)) (.call (.c (.one (.p (.fn fi_shape_Check [] [])))) [(.t 14)])
  (.op (some 16) (some (13, false)) (.q (.un .not (.t 15)))
  .nil)))
  .nil))))) [0, 1, 17] [])
 (.cond (.t 17) (.seq (.region none (.op (some 4) none (.q (.mov (.c (.one .nils))))
  (.op (some 5) none (.q (.mov (.c (.one (.p (.int .i64 20))))))
  .nil)) [4, 5] [])
 .ret)
 .skip))
 (.seq (.region none (.op (some 18) none (.q (.mov (.t 0)))
  (.op (some 19) none (.q (.len (.t 18)))
  (.op (some 20) none (.q (.mov (.t 1)))
  (.op (some 21) none (.q (.len (.t 20)))
  (.op (some 22) none (.q (.mm true (.t 19) (.t 21)))
  (.op (some 23) none (.n (.mkS 1 8 [(.int .i64 0)] (.t 22) (.t 22)))
  (.op (some 6) none (.q (.mov (.t 23)))
  .nil))))))) [0, 1, 6] [23])
 (.seq (.seq (.region none (.op (some 24) none (.q (.mov (.t 6)))
  (.op (some 25) none (.q (.len (.t 24)))
  (.op (some 26) none (.q (.mov (.c (.one (.p (.int .i64 0))))))
  .nil))) [0, 1, 6, 25, 26] [23])
 (.block 0 (.loop (.seq (.region none (.op (some 27) none (.q (.bin .lss (.t 26) (.t 25)))
  .nil) [0, 1, 6, 25, 26, 27] [23])
 (.seq (.cond (.t 27) .skip
 (.exit 0))
 (.seq (.block 1 (.seq (.region none (.op (some 28) none (.q (.mov (.t 26)))
  (.op (some 7) none (.q (.mov (.t 28)))
  .nil)) [0, 1, 6, 7, 25, 26] [23])
 (.seq (.region none (.op (some 29) none (.q (.mov (.t 0)))
  (.op (some 30) none (.q (.mov (.t 7)))
  (.op (some 31) none (.call (.c (.one (.p (.fn fi_shape_side [] [])))) [(.t 29), (.t 30)])
  (.op (some 32) none (.q (.mov (.t 1)))
  (.op (some 33) none (.q (.mov (.t 7)))
  (.op (some 34) none (.call (.c (.one (.p (.fn fi_shape_side [] [])))) [(.t 32), (.t 33)])
  (.op (some 8) none (.q (.mov (.t 31)))
  (.op (some 9) none (.q (.mov (.t 34)))
  .nil)))))))) [0, 1, 6, 7, 8, 9, 25, 26] [23])
 (.seq (.seq (.region none (.op (some 35) none (.q (.mov (.t 8)))
  (.op (some 36) none (.q (.mov (.t 9)))
  (.op (some 37) none (.q (.bin .neq (.t 35) (.t 36)))
  (.op (some 38) none (.q (.mov (.t 37)))
  (.sc 41 38 true 40 none
  (.op (some 39) (some (38, true)) (.q (.mov (.t 8)))
  (.op (some 40) (some (38, true)) (.q (.bin .neq (.t 39) (.c (.one (.p (.int .i64 1))))))
  .nil))
  (.op (some 42) none (.q (.mov (.t 41)))
  (.sc 45 42 true 44 none
  (.op (some 43) (some (42, true)) (.q (.mov (.t 9)))
  (.op (some 44) (some (42, true)) (.q (.bin .neq (.t 43) (.c (.one (.p (.int .i64 1))))))
  .nil))
  .nil))))))) [0, 1, 6, 7, 8, 9, 25, 26, 45] [23])
 (.cond (.t 45) (.seq (.region none (.op (some 4) none (.q (.mov (.c (.one .nils))))
  (.op (some 5) none (.q (.mov (.c (.one (.p (.int .i64 20))))))
  .nil)) [4, 5] [23])
 .ret)
 .skip))
 (.region none (.op (some 46) none (.q (.mov (.t 6)))
  (.op (some 47) none (.q (.mov (.t 6)))
  (.op (some 48) none (.q (.len (.t 47)))
  (.op (some 49) none (.q (.bin .sub (.t 48) (.c (.one (.p (.int .i64 1))))))
  (.op (some 50) none (.q (.mov (.t 7)))
  (.op (some 51) none (.q (.bin .sub (.t 49) (.t 50)))
  (.op (some 52) none (.q (.mov (.t 8)))
  (.op (some 53) none (.q (.mov (.t 9)))
  (.op (some 54) none (.q (.mm true (.t 52) (.t 53)))
  (.op (some 55) none (.q (.iaddr 1 (.t 46) (.t 51)))
  (.op none none (.s (.store 1 (.t 55) (.t 54)))
  .nil))))))))))) [0, 1, 6, 25, 26] [23])))))
 (.region none (.op (some 56) none (.q (.bin .add (.t 26) (.c (.one (.p (.int .i64 1))))))
  (.op (some 26) none (.q (.mov (.t 56)))
  .nil)) [0, 1, 6, 25, 26] [23])))))))
 (.seq (.seq (.region none (.op (some 57) none (.q (.mov (.t 6)))
  (.op (some 58) none (.call (.c (.one (.p (.fn fi_shape_Check [] [])))) [(.t 57)])
  (.op (some 59) none (.q (.un .not (.t 58)))
  .nil))) [6, 59] [23])
 (.cond (.t 59) (.seq (.region none (.op (some 4) none (.q (.mov (.c (.one .nils))))
  (.op (some 5) none (.q (.mov (.c (.one (.p (.int .i64 20))))))
  .nil)) [4, 5] [23])
 .ret)
 .skip))
 (.seq (.region none (.op (some 60) none (.q (.mov (.t 6)))
  (.op (some 4) none (.q (.mov (.t 60)))
  (.op (some 5) none (.q (.mov (.c (.one (.p (.int .i64 0))))))
  .nil))) [4, 5] [23])
 .ret))))))
theorem is_shape_Join : compC Try.prog (Try.f43.body.getD .skip) = some a_shape_Join.erase := by kernel_rfl
theorem ok_shape_Join : a_shape_Join.ok 61 = true := by kernel_rfl
theorem rv_shape_Join : compRV Try.prog Try.f43.results.toList = some [.tmp 4, .tmp 5] := by kernel_rfl
theorem pure_shape_Join {ds : List DV} {r : DV} (hn : ds.length ≤ 61) (h : ∀ (G : AM.Ground), G.P = Try.prog → G.nt = 61 → T G Fence.wide 0 a_shape_Join (AM.Ends [.tmp 4, .tmp 5] r) { env := initE 0 ds, σ := [] }) : PureC Try.prog fi_shape_Join ds r :=
  pureC_of Try.call43 Try.func43 (by rfl) is_shape_Join ok_shape_Join rv_shape_Join hn h

def a_shape_Check : ACode := (.seq (.region none (.op (some 2) none (.q (.mov (.c (.one (.p (.bool false))))))
  .nil) [0] [])
 (.scope (.seq (.region none (.op (some 3) none (.q (.mov (.c (.one (.p (.int .i64 1))))))
  .nil) [0, 3] [])
 (.seq (.seq (.region none (.op (some 6) none (.q (.mov (.t 0)))
  (.op (some 7) none (.q (.len (.t 6)))
  (.op (some 8) none (.q (.bin .gtr (.t 7) (.c (.one (.p (.int .i64 3))))))
  .nil))) [0, 3, 8] [])
 (.cond (.t 8) (.seq (.region none (.op (some 2) none (.q (.mov (.c (.one (.p (.bool false))))))
  .nil) [2] [])
 .ret)
 .skip))
 (.seq (.label 0)
 (.seq (.seq (.region none (.op (some 9) none (.q (.mov (.t 0)))
  (.op (some 10) none (.q (.len (.t 9)))
  (.op (some 11) none (.q (.mov (.c (.one (.p (.int .i64 0))))))
  .nil))) [3, 9, 10, 11] [])
 (.block 0 (.loop (.seq (.region none (.op (some 12) none (.q (.bin .lss (.t 11) (.t 10)))
  .nil) [3, 9, 10, 11, 12] [])
 (.seq (.cond (.t 12) .skip
 (.exit 0))
 (.seq (.block 1 (.seq (.region none (.op (some 13) none (.q (.iaddr 1 (.t 9) (.t 11)))
  (.op (some 14) none (.q (.load 1 false (.t 13)))
  (.op (some 5) none (.q (.mov (.t 14)))
  .nil))) [3, 5, 9, 10, 11] [])
 (.seq (.seq (.region none (.op (some 15) none (.q (.mov (.t 5)))
  (.op (some 16) none (.q (.bin .lss (.t 15) (.c (.one (.p (.int .i64 1))))))
  (.op (some 17) none (.q (.mov (.t 16)))
  (.sc 20 17 false 19 none
  (.op (some 18) (some (17, false)) (.q (.mov (.t 5)))
  (.op (some 19) (some (17, false)) (.q (.bin .gtr (.t 18) (.c (.one (.p (.int .i64 16))))))
  .nil))
  .nil)))) [3, 5, 9, 10, 11, 20] [])
 (.cond (.t 20) (.seq (.region none (.op (some 3) none (.q (.mov (.c (.one (.p (.int .i64 0))))))
  .nil) [3] [])
 (.exit 0))
 .skip))
 (.region none (.op (some 21) none (.q (.mov (.t 3)))
  (.op (some 22) none (.q (.mov (.t 5)))
  (.op (some 23) none (.q (.bin .mul (.t 21) (.t 22)))
  (.op (some 3) none (.q (.mov (.t 23)))
  .nil)))) [3, 9, 10, 11] []))))
 (.region none (.op (some 24) none (.q (.bin .add (.t 11) (.c (.one (.p (.int .i64 1))))))
  (.op (some 11) none (.q (.mov (.t 24)))
  .nil)) [3, 9, 10, 11] [])))))))
 (.seq (.region none (.op (some 25) none (.q (.mov (.t 3)))
  (.op (some 26) none (.q (.bin .gtr (.t 25) (.c (.one (.p (.int .i64 0))))))
  (.op (some 27) none (.q (.mov (.t 26)))
  (.sc 30 27 true 29 none
  (.op (some 28) (some (27, true)) (.q (.mov (.t 3)))
  (.op (some 29) (some (27, true)) (.q (.bin .leq (.t 28) (.c (.one (.p (.int .i64 64))))))
  .nil))
  (.op (some 2) none (.q (.mov (.t 30)))
  .nil))))) [2] [])
 .ret)))))))
theorem is_shape_Check : compC Try.prog (Try.f55.body.getD .skip) = some a_shape_Check.erase := by kernel_rfl
theorem ok_shape_Check : a_shape_Check.ok 31 = true := by kernel_rfl
theorem rv_shape_Check : compRV Try.prog Try.f55.results.toList = some [.tmp 2] := by kernel_rfl
theorem pure_shape_Check {ds : List DV} {r : DV} (hn : ds.length ≤ 31) (h : ∀ (G : AM.Ground), G.P = Try.prog → G.nt = 31 → T G Fence.wide 0 a_shape_Check (AM.Ends [.tmp 2] r) { env := initE 0 ds, σ := [] }) : PureC Try.prog fi_shape_Check ds r :=
  pureC_of Try.call55 Try.func55 (by rfl) is_shape_Check ok_shape_Check rv_shape_Check hn h

def a_fix_Add : ACode := (.seq (.region none (.op (some 4) none (.q (.mov (.c (.one (.p (.int .i64 0))))))
  (.op (some 5) none (.q (.mov (.c (.one (.p (.int .i64 0))))))
  .nil)) [0, 1] [])
 (.seq (.region none (.op (some 7) none (.q (.mov (.t 0)))
  (.op (some 8) none (.q (.mov (.t 1)))
  (.op (some 9) none (.q (.bin .add (.t 7) (.t 8)))
  (.op (some 6) none (.q (.mov (.t 9)))
  .nil)))) [0, 1, 6] [])
 (.seq (.region none (.op (some 10) none (.q (.mov (.t 6)))
  (.op (some 11) none (.q (.mov (.t 0)))
  (.op (some 12) none (.q (.bin .lss (.t 11) (.c (.one (.p (.int .i64 0))))))
  (.op (some 13) none (.q (.mov (.t 1)))
  (.op (some 14) none (.q (.bin .lss (.t 13) (.c (.one (.p (.int .i64 0))))))
  (.op (some 15) none (.q (.eqB true (.t 12) (.t 14)))
  (.op (some 16) none (.q (.mov (.t 15)))
  (.sc 22 16 false 21 none
  (.op (some 17) (some (16, false)) (.q (.mov (.t 6)))
  (.op (some 18) (some (16, false)) (.q (.bin .lss (.t 17) (.c (.one (.p (.int .i64 0))))))
  (.op (some 19) (some (16, false)) (.q (.mov (.t 0)))
  (.op (some 20) (some (16, false)) (.q (.bin .lss (.t 19) (.c (.one (.p (.int .i64 0))))))
  (.op (some 21) (some (16, false)) (.q (.eqB false (.t 18) (.t 20)))
  .nil)))))
  (.op (some 23) none (.call (.c (.one (.p (.fn fi_fix_told [] [])))) [(.t 10), (.t 22)])
  (.op (some 24) none (.q (.extr (.t 23) 0))
  (.op (some 25) none (.q (.extr (.t 23) 1))
  (.op (some 4) none (.q (.mov (.t 24)))
  (.op (some 5) none (.q (.mov (.t 25)))
  .nil))))))))))))) [4, 5] [])
 .ret)))
theorem is_fix_Add : compC Try.prog (Try.f58.body.getD .skip) = some a_fix_Add.erase := by kernel_rfl
theorem ok_fix_Add : a_fix_Add.ok 26 = true := by kernel_rfl
theorem rv_fix_Add : compRV Try.prog Try.f58.results.toList = some [.tmp 4, .tmp 5] := by kernel_rfl
theorem pure_fix_Add {ds : List DV} {r : DV} (hn : ds.length ≤ 26) (h : ∀ (G : AM.Ground), G.P = Try.prog → G.nt = 26 → T G Fence.wide 0 a_fix_Add (AM.Ends [.tmp 4, .tmp 5] r) { env := initE 0 ds, σ := [] }) : PureC Try.prog fi_fix_Add ds r :=
  pureC_of Try.call58 Try.func58 (by rfl) is_fix_Add ok_fix_Add rv_fix_Add hn h

def a_shape_Size : ACode := (.seq (.region none (.op (some 2) none (.q (.mov (.c (.one (.p (.int .i64 0))))))
  .nil) [0] [])
 (.seq (.seq (.region none (.op (some 6) none (.q (.mov (.t 0)))
  (.op (some 7) none (.call (.c (.one (.p (.fn fi_shape_Check [] [])))) [(.t 6)])
  (.op (some 8) none (.q (.un .not (.t 7)))
  .nil))) [0, 8] [])
 (.cond (.t 8) (.seq (.region none (.op (some 2) none (.q (.mov (.c (.one (.p (.int .i64 0))))))
  .nil) [2] [])
 .ret)
 .skip))
 (.seq (.region none (.op (some 3) none (.q (.mov (.c (.one (.p (.int .i64 1))))))
  .nil) [0, 3] [])
 (.seq (.seq (.region none (.op (some 9) none (.q (.mov (.t 0)))
  (.op (some 10) none (.q (.len (.t 9)))
  (.op (some 11) none (.q (.mov (.c (.one (.p (.int .i64 0))))))
  .nil))) [3, 9, 10, 11] [])
 (.block 0 (.loop (.seq (.region none (.op (some 12) none (.q (.bin .lss (.t 11) (.t 10)))
  .nil) [3, 9, 10, 11, 12] [])
 (.seq (.cond (.t 12) .skip
 (.exit 0))
 (.seq (.block 1 (.seq (.region none (.op (some 13) none (.q (.iaddr 1 (.t 9) (.t 11)))
  (.op (some 14) none (.q (.load 1 false (.t 13)))
  (.op (some 5) none (.q (.mov (.t 14)))
  .nil))) [3, 5, 9, 10, 11] [])
 (.region none (.op (some 15) none (.q (.mov (.t 3)))
  (.op (some 16) none (.q (.mov (.t 5)))
  (.op (some 17) none (.q (.bin .mul (.t 15) (.t 16)))
  (.op (some 3) none (.q (.mov (.t 17)))
  .nil)))) [3, 9, 10, 11] [])))
 (.region none (.op (some 18) none (.q (.bin .add (.t 11) (.c (.one (.p (.int .i64 1))))))
  (.op (some 11) none (.q (.mov (.t 18)))
  .nil)) [3, 9, 10, 11] [])))))))
 (.seq (.region none (.op (some 19) none (.q (.mov (.t 3)))
  (.op (some 2) none (.q (.mov (.t 19)))
  .nil)) [2] [])
 .ret)))))
theorem is_shape_Size : compC Try.prog (Try.f64.body.getD .skip) = some a_shape_Size.erase := by kernel_rfl
theorem ok_shape_Size : a_shape_Size.ok 20 = true := by kernel_rfl
theorem rv_shape_Size : compRV Try.prog Try.f64.results.toList = some [.tmp 2] := by kernel_rfl
theorem pure_shape_Size {ds : List DV} {r : DV} (hn : ds.length ≤ 20) (h : ∀ (G : AM.Ground), G.P = Try.prog → G.nt = 20 → T G Fence.wide 0 a_shape_Size (AM.Ends [.tmp 2] r) { env := initE 0 ds, σ := [] }) : PureC Try.prog fi_shape_Size ds r :=
  pureC_of Try.call64 Try.func64 (by rfl) is_shape_Size ok_shape_Size rv_shape_Size hn h

def a_slices_Clone_int_int : ACode := (.seq (.region none (.op (some 2) none (.q (.mov (.c (.one .nils))))
  .nil) [0] [])
 (.seq (.seq (.region none (.op (some 3) none (.q (.mov (.t 0)))
  (.op (some 4) none (.q (.eqN 0 false (.t 3) (.c (.one .nils))))
  .nil)) [0, 4] [])
 (.cond (.t 4) (.seq (.region none (.op (some 2) none (.q (.mov (.c (.one .nils))))
  .nil) [2] [])
 .ret)
 .skip))
 (.seq (.region none (.op (some 5) none (.n (.lit 1 0 [(.int .i64 0)] []))
  (.op (some 6) none (.q (.mov (.t 0)))
  (.op (some 7) none (.s (.app 1 8 (.t 5) (.t 6)))
  (.op (some 2) none (.q (.mov (.t 7)))
  .nil)))) [2] [5, 7])
 .ret)))
theorem is_slices_Clone_int_int : compC Try.prog (Try.f69.body.getD .skip) = some a_slices_Clone_int_int.erase := by kernel_rfl
theorem ok_slices_Clone_int_int : a_slices_Clone_int_int.ok 8 = true := by kernel_rfl
theorem rv_slices_Clone_int_int : compRV Try.prog Try.f69.results.toList = some [.tmp 2] := by kernel_rfl
theorem mut_slices_Clone_int_int {vs : List AV} {σ σ' : Sto} {r : AV} {fr : List Nat} (hn : vs.length ≤ 8) (h : ∀ (G : AM.Ground) (ex : List AV), G.P = Try.prog → G.nt = 8 → (∀ d ∈ fr, ex.all (fun v => !v.has d) = true) → T G Fence.wide 0 a_slices_Clone_int_int (EndsM [.tmp 2] r σ' ex) { env := initV 0 vs, σ := σ, ex := ex }) : MutC Try.prog fi_slices_Clone_int_int vs σ r σ' fr :=
  mutC_of Try.call69 Try.func69 (by rfl) is_slices_Clone_int_int ok_slices_Clone_int_int rv_slices_Clone_int_int hn h

def a_slices_Repeat_int_int : ACode := (.seq (.region none (.op (some 4) none (.q (.mov (.c (.one .nils))))
  .nil) [0, 1] [])
 (.seq (.seq (.region none (.op (some 9) none (.q (.mov (.t 1)))
  (.op (some 10) none (.q (.bin .lss (.t 9) (.c (.one (.p (.int .i64 0))))))
  .nil)) [0, 1, 10] [])
 (.cond (.t 10) (.region none (.op (some 11) none .bad
  (.op none none .bad
  .nil)) [0, 1] [])
 .skip))
 (.seq (.region none (.op (some 13) none (.q (.mov (.t 0)))
  (.op (some 14) none (.q (.len (.t 13)))
  (.op (some 15) none (.q (.conv .u64 (.t 14)))
  (.op (some 16) none (.q (.mov (.t 1)))
  (.op (some 17) none (.q (.conv .u64 (.t 16)))
  (.op (some 18) none (.call (.c (.one (.p (.fn fi_math_bits_Mul [] [])))) [(.t 15), (.t 17)])
  (.op (some 12) none (.q (.mov (.t 18)))
  (.op (some 19) none (.q (.extr (.t 12) 0))
  (.op (some 20) none (.q (.extr (.t 12) 1))
  (.op (some 5) none (.q (.mov (.t 19)))
  (.op (some 6) none (.q (.mov (.t 20)))
  .nil))))))))))) [0, 5, 6] [])
 (.seq (.seq (.region none (.op (some 21) none (.q (.mov (.t 5)))
  (.op (some 22) none (.q (.bin .gtr (.t 21) (.c (.one (.p (.int .u64 0))))))
  (.op (some 23) none (.q (.mov (.t 22)))
  (.sc 26 23 false 25 none
  (.op (some 24) (some (23, false)) (.q (.mov (.t 6)))
  (.op (some 25) (some (23, false)) (.q (.bin .gtr (.t 24) (.c (.one (.p (.int .u64 9223372036854775807))))))
  .nil))
  .nil)))) [0, 6, 26] [])
 (.cond (.t 26) (.region none (.op (some 27) none .bad
  (.op none none .bad
  .nil)) [0, 6] [])
 .skip))
 (.seq (.region none (.op (some 28) none (.q (.mov (.t 6)))
  (.op (some 29) none (.q (.conv .i64 (.t 28)))
  (.op (some 30) none (.n (.mkS 1 8 [(.int .i64 0)] (.t 29) (.t 29)))
  (.op (some 7) none (.q (.mov (.t 30)))
  .nil)))) [0, 7] [30])
 (.seq (.region none (.op (some 31) none (.q (.mov (.t 7)))
  (.op (some 32) none (.q (.mov (.t 0)))
  (.op (some 33) none (.s (.copy 1 (.t 31) (.t 32)))
  (.op (some 8) none (.q (.mov (.t 33)))
  .nil)))) [7, 8] [30])
 (.seq (.block 0 (.loop (.seq (.seq (.region none (.op (some 34) none (.q (.mov (.t 8)))
  (.op (some 35) none (.q (.mov (.t 7)))
  (.op (some 36) none (.q (.len (.t 35)))
  (.op (some 37) none (.q (.bin .lss (.t 34) (.t 36)))
  .nil)))) [7, 8, 37] [30])
 (.cond (.t 37) .skip
 (.exit 0)))
 (.block 1 (.region (some [[], [0], [0, 1], [0], [0, 1, 2, 3], [0, 1, 2, 3, 4], [0, 1, 2, 3], [0], [], []]) (.op (some 38) none (.q (.mov (.t 8)))
  (.op (some 39) none (.q (.mov (.t 7)))
  (.op (some 40) none (.q (.mov (.t 8)))
  (.op (some 41) none (.q (.slc 1 (.t 39) (some (.t 40)) none none))
  (.op (some 42) none (.q (.mov (.t 7)))
  (.op (some 43) none (.q (.mov (.t 8)))
  (.op (some 44) none (.q (.slc 1 (.t 42) none (some (.t 43)) none))
  (.op (some 45) none (.s (.copy 1 (.t 41) (.t 44)))
  (.op (some 46) none (.q (.bin .add (.t 38) (.t 45)))
  (.op (some 8) none (.q (.mov (.t 46)))
  .nil)))))))))) [7, 8] [30])))))
 (.seq (.region none (.op (some 47) none (.q (.mov (.t 7)))
  (.op (some 4) none (.q (.mov (.t 47)))
  .nil)) [4] [30])
 .ret))))))))
theorem is_slices_Repeat_int_int : compC Try.prog (Try.f70.body.getD .skip) = some a_slices_Repeat_int_int.erase := by kernel_rfl
theorem ok_slices_Repeat_int_int : a_slices_Repeat_int_int.ok 48 = true := by kernel_rfl
theorem rv_slices_Repeat_int_int : compRV Try.prog Try.f70.results.toList = some [.tmp 4] := by kernel_rfl
theorem mut_slices_Repeat_int_int {vs : List AV} {σ σ' : Sto} {r : AV} {fr : List Nat} (hn : vs.length ≤ 48) (h : ∀ (G : AM.Ground) (ex : List AV), G.P = Try.prog → G.nt = 48 → (∀ d ∈ fr, ex.all (fun v => !v.has d) = true) → T G Fence.wide 0 a_slices_Repeat_int_int (EndsM [.tmp 4] r σ' ex) { env := initV 0 vs, σ := σ, ex := ex }) : MutC Try.prog fi_slices_Repeat_int_int vs σ r σ' fr :=
  mutC_of Try.call70 Try.func70 (by rfl) is_slices_Repeat_int_int ok_slices_Repeat_int_int rv_slices_Repeat_int_int hn h

def a_math_bits_Mul64 : ACode := (.seq (.region none (.op (some 4) none (.q (.mov (.c (.one (.p (.int .u64 0))))))
  (.op (some 5) none (.q (.mov (.c (.one (.p (.int .u64 0))))))
  .nil)) [0, 1] [])
 (.seq (.region none (.op (some 14) none (.q (.mov (.t 0)))
  (.op (some 15) none (.q (.bin .and (.t 14) (.c (.one (.p (.int .u64 4294967295))))))
  (.op (some 6) none (.q (.mov (.t 15)))
  .nil))) [0, 1, 6] [])
 (.seq (.region none (.op (some 16) none (.q (.mov (.t 0)))
  (.op (some 17) none (.q (.bin .shr (.t 16) (.c (.one (.p (.int .u64 32))))))
  (.op (some 7) none (.q (.mov (.t 17)))
  .nil))) [0, 1, 6, 7] [])
 (.seq (.region none (.op (some 18) none (.q (.mov (.t 1)))
  (.op (some 19) none (.q (.bin .and (.t 18) (.c (.one (.p (.int .u64 4294967295))))))
  (.op (some 8) none (.q (.mov (.t 19)))
  .nil))) [0, 1, 6, 7, 8] [])
 (.seq (.region none (.op (some 20) none (.q (.mov (.t 1)))
  (.op (some 21) none (.q (.bin .shr (.t 20) (.c (.one (.p (.int .u64 32))))))
  (.op (some 9) none (.q (.mov (.t 21)))
  .nil))) [0, 1, 6, 7, 8, 9] [])
 (.seq (.region none (.op (some 22) none (.q (.mov (.t 6)))
  (.op (some 23) none (.q (.mov (.t 8)))
  (.op (some 24) none (.q (.bin .mul (.t 22) (.t 23)))
  (.op (some 10) none (.q (.mov (.t 24)))
  .nil)))) [0, 1, 6, 7, 8, 9, 10] [])
 (.seq (.region none (.op (some 25) none (.q (.mov (.t 7)))
  (.op (some 26) none (.q (.mov (.t 8)))
  (.op (some 27) none (.q (.bin .mul (.t 25) (.t 26)))
  (.op (some 28) none (.q (.mov (.t 10)))
  (.op (some 29) none (.q (.bin .shr (.t 28) (.c (.one (.p (.int .u64 32))))))
  (.op (some 30) none (.q (.bin .add (.t 27) (.t 29)))
  (.op (some 11) none (.q (.mov (.t 30)))
  .nil))))))) [0, 1, 6, 7, 9, 11] [])
 (.seq (.region none (.op (some 31) none (.q (.mov (.t 11)))
  (.op (some 32) none (.q (.bin .and (.t 31) (.c (.one (.p (.int .u64 4294967295))))))
  (.op (some 12) none (.q (.mov (.t 32)))
  .nil))) [0, 1, 6, 7, 9, 11, 12] [])
 (.seq (.region none (.op (some 33) none (.q (.mov (.t 11)))
  (.op (some 34) none (.q (.bin .shr (.t 33) (.c (.one (.p (.int .u64 32))))))
  (.op (some 13) none (.q (.mov (.t 34)))
  .nil))) [0, 1, 6, 7, 9, 12, 13] [])
 (.seq (.region none (.op (some 35) none (.q (.mov (.t 12)))
  (.op (some 36) none (.q (.mov (.t 6)))
  (.op (some 37) none (.q (.mov (.t 9)))
  (.op (some 38) none (.q (.bin .mul (.t 36) (.t 37)))
  (.op (some 39) none (.q (.bin .add (.t 35) (.t 38)))
  (.op (some 12) none (.q (.mov (.t 39)))
  .nil)))))) [0, 1, 7, 9, 12, 13] [])
 (.seq (.region none (.op (some 40) none (.q (.mov (.t 7)))
  (.op (some 41) none (.q (.mov (.t 9)))
  (.op (some 42) none (.q (.bin .mul (.t 40) (.t 41)))
  (.op (some 43) none (.q (.mov (.t 13)))
  (.op (some 44) none (.q (.bin .add (.t 42) (.t 43)))
  (.op (some 45) none (.q (.mov (.t 12)))
  (.op (some 46) none (.q (.bin .shr (.t 45) (.c (.one (.p (.int .u64 32))))))
  (.op (some 47) none (.q (.bin .add (.t 44) (.t 46)))
  (.op (some 4) none (.q (.mov (.t 47)))
  .nil))))))))) [0, 1, 4] [])
 (.seq (.region none (.op (some 48) none (.q (.mov (.t 0)))
  (.op (some 49) none (.q (.mov (.t 1)))
  (.op (some 50) none (.q (.bin .mul (.t 48) (.t 49)))
  (.op (some 5) none (.q (.mov (.t 50)))
  .nil)))) [4, 5] [])
 .ret))))))))))))
theorem is_math_bits_Mul64 : compC Try.prog (Try.f71.body.getD .skip) = some a_math_bits_Mul64.erase := by kernel_rfl
theorem ok_math_bits_Mul64 : a_math_bits_Mul64.ok 51 = true := by kernel_rfl
theorem rv_math_bits_Mul64 : compRV Try.prog Try.f71.results.toList = some [.tmp 4, .tmp 5] := by kernel_rfl
theorem pure_math_bits_Mul64 {ds : List DV} {r : DV} (hn : ds.length ≤ 51) (h : ∀ (G : AM.Ground), G.P = Try.prog → G.nt = 51 → T G Fence.wide 0 a_math_bits_Mul64 (AM.Ends [.tmp 4, .tmp 5] r) { env := initE 0 ds, σ := [] }) : PureC Try.prog fi_math_bits_Mul64 ds r :=
  pureC_of Try.call71 Try.func71 (by rfl) is_math_bits_Mul64 ok_math_bits_Mul64 rv_math_bits_Mul64 hn h

def a_fix_size : ACode := (.seq (.region none (.op (some 2) none (.q (.mov (.c (.one (.p (.int .u64 0))))))
  .nil) [0] [])
 (.seq (.seq (.region none (.op (some 3) none (.q (.mov (.t 0)))
  (.op (some 4) none (.q (.bin .lss (.t 3) (.c (.one (.p (.int .i64 0))))))
  .nil)) [0, 4] [])
 (.cond (.t 4) (.seq (.region none (.op (some 5) none (.q (.mov (.t 0)))
  (.op (some 6) none (.q (.conv .u64 (.t 5)))
  (.op (some 7) none (.q (.un .neg (.t 6)))
  (.op (some 2) none (.q (.mov (.t 7)))
  .nil)))) [2] [])
 .ret)
 .skip))
 (.seq (.region none (.op (some 8) none (.q (.mov (.t 0)))
  (.op (some 9) none (.q (.conv .u64 (.t 8)))
  (.op (some 2) none (.q (.mov (.t 9)))
  .nil))) [2] [])
 .ret)))
theorem is_fix_size : compC Try.prog (Try.f72.body.getD .skip) = some a_fix_size.erase := by kernel_rfl
theorem ok_fix_size : a_fix_size.ok 10 = true := by kernel_rfl
theorem rv_fix_size : compRV Try.prog Try.f72.results.toList = some [.tmp 2] := by kernel_rfl
theorem pure_fix_size {ds : List DV} {r : DV} (hn : ds.length ≤ 10) (h : ∀ (G : AM.Ground), G.P = Try.prog → G.nt = 10 → T G Fence.wide 0 a_fix_size (AM.Ends [.tmp 2] r) { env := initE 0 ds, σ := [] }) : PureC Try.prog fi_fix_size ds r :=
  pureC_of Try.call72 Try.func72 (by rfl) is_fix_size ok_fix_size rv_fix_size hn h

def a_fix_wide_signed : ACode := (.seq (.region none (.op (some 3) none (.n (.boxA 1 2 (.t 0)))
  (.op (some 6) none (.q (.mov (.c (.one (.p (.int .i64 0))))))
  (.op (some 7) none (.q (.mov (.c (.one (.p (.int .i64 0))))))
  .nil))) [1, 2, 3] [3])
 (.seq (.region none (.op (some 8) none (.q (.mov (.c (.one (.p (.int .u64 9223372036854775807))))))
  .nil) [1, 2, 3, 8] [3])
 (.seq (.region none (.op (some 10) none (.q (.mkF fi_fix_wide_signed_1 [] [(.t 3)]))
  (.op (some 9) none (.q (.mov (.t 10)))
  .nil)) [1, 2, 3, 8, 9] [3])
 (.seq (.seq (.region none (.op (some 11) none (.q (.mov (.t 2)))
  .nil) [1, 2, 3, 8, 9, 11] [3])
 (.cond (.t 11) (.seq (.region none (.op (some 12) none (.q (.mov (.t 8)))
  (.op (some 13) none (.q (.bin .add (.t 12) (.c (.one (.p (.int .u64 1))))))
  (.op (some 8) none (.q (.mov (.t 13)))
  .nil))) [1, 2, 3, 8, 9] [3])
 (.seq (.region none (.op (some 14) none (.q (.mov (.t 1)))
  .nil) [2, 3, 8, 9, 14] [3])
 (.cond (.t 14) (.region none (.op (some 15) none (.q (.mov (.t 9)))
  (.op (some 16) none (.call (.t 15) [])
  .nil)) [2, 3, 8] [3])
 .skip)))
 .skip))
 (.seq (.seq (.region none (.op (some 17) none (.q (.iaddrA 2 1 (.t 3) (.c (.one (.p (.int .i64 0))))))
  (.op (some 18) none (.q (.load 1 false (.t 17)))
  (.op (some 19) none (.q (.bin .gtr (.t 18) (.c (.one (.p (.int .u64 0))))))
  (.op (some 20) none (.q (.mov (.t 19)))
  (.sc 25 20 false 24 none
  (.op (some 21) (some (20, false)) (.q (.iaddrA 2 1 (.t 3) (.c (.one (.p (.int .i64 1))))))
  (.op (some 22) (some (20, false)) (.q (.load 1 false (.t 21)))
  (.op (some 23) (some (20, false)) (.q (.mov (.t 8)))
  (.op (some 24) (some (20, false)) (.q (.bin .gtr (.t 22) (.t 23)))
  .nil))))
  .nil))))) [2, 3, 25] [3])
 (.cond (.t 25) (.seq (.region none (.op (some 6) none (.q (.mov (.c (.one (.p (.int .i64 0))))))
  (.op (some 7) none (.q (.mov (.c (.one (.p (.int .i64 10))))))
  .nil)) [6, 7] [3])
 .ret)
 .skip))
 (.seq (.seq (.region none (.op (some 26) none (.q (.mov (.t 2)))
  .nil) [3, 26] [3])
 (.cond (.t 26) (.seq (.region none (.op (some 27) none (.q (.iaddrA 2 1 (.t 3) (.c (.one (.p (.int .i64 1))))))
  (.op (some 28) none (.q (.load 1 false (.t 27)))
  (.op (some 29) none (.q (.un .neg (.t 28)))
  (.op (some 30) none (.q (.conv .i64 (.t 29)))
  (.op (some 6) none (.q (.mov (.t 30)))
  (.op (some 7) none (.q (.mov (.c (.one (.p (.int .i64 0))))))
  .nil)))))) [6, 7] [3])
 .ret)
 .skip))
 (.seq (.region none (.op (some 31) none (.q (.iaddrA 2 1 (.t 3) (.c (.one (.p (.int .i64 1))))))
  (.op (some 32) none (.q (.load 1 false (.t 31)))
  (.op (some 33) none (.q (.conv .i64 (.t 32)))
  (.op (some 6) none (.q (.mov (.t 33)))
  (.op (some 7) none (.q (.mov (.c (.one (.p (.int .i64 0))))))
  .nil))))) [6, 7] [3])
 .ret)))))))
theorem is_fix_wide_signed : compC Try.prog (Try.f73.body.getD .skip) = some a_fix_wide_signed.erase := by kernel_rfl
theorem ok_fix_wide_signed : a_fix_wide_signed.ok 34 = true := by kernel_rfl
theorem rv_fix_wide_signed : compRV Try.prog Try.f73.results.toList = some [.tmp 6, .tmp 7] := by kernel_rfl
theorem pure_fix_wide_signed {ds : List DV} {r : DV} (hn : ds.length ≤ 34) (h : ∀ (G : AM.Ground), G.P = Try.prog → G.nt = 34 → T G Fence.wide 0 a_fix_wide_signed (AM.Ends [.tmp 6, .tmp 7] r) { env := initE 0 ds, σ := [] }) : PureC Try.prog fi_fix_wide_signed ds r :=
  pureC_of Try.call73 Try.func73 (by rfl) is_fix_wide_signed ok_fix_wide_signed rv_fix_wide_signed hn h

def a_fix_apart : ACode := (.seq (.region none (.op (some 4) none (.q (.mov (.c (.one (.p (.bool false))))))
  .nil) [0, 1] [])
 (.seq (.region none (.op (some 5) none (.q (.mov (.t 0)))
  (.op (some 6) none (.q (.bin .neq (.t 5) (.c (.one (.p (.int .i64 0))))))
  (.op (some 7) none (.q (.mov (.t 6)))
  (.sc 10 7 true 9 none
  (.op (some 8) (some (7, true)) (.q (.mov (.t 1)))
  (.op (some 9) (some (7, true)) (.q (.bin .neq (.t 8) (.c (.one (.p (.int .i64 0))))))
  .nil))
  (.op (some 11) none (.q (.mov (.t 10)))
  (.sc 17 11 true 16 none
  (.op (some 12) (some (11, true)) (.q (.mov (.t 0)))
  (.op (some 13) (some (11, true)) (.q (.bin .lss (.t 12) (.c (.one (.p (.int .i64 0))))))
  (.op (some 14) (some (11, true)) (.q (.mov (.t 1)))
  (.op (some 15) (some (11, true)) (.q (.bin .lss (.t 14) (.c (.one (.p (.int .i64 0))))))
  (.op (some 16) (some (11, true)) (.q (.eqB true (.t 13) (.t 15)))
  .nil)))))
  (.op (some 4) none (.q (.mov (.t 17)))
  .nil))))))) [4] [])
 .ret))
theorem is_fix_apart : compC Try.prog (Try.f74.body.getD .skip) = some a_fix_apart.erase := by kernel_rfl
theorem ok_fix_apart : a_fix_apart.ok 18 = true := by kernel_rfl
theorem rv_fix_apart : compRV Try.prog Try.f74.results.toList = some [.tmp 4] := by kernel_rfl
theorem pure_fix_apart {ds : List DV} {r : DV} (hn : ds.length ≤ 18) (h : ∀ (G : AM.Ground), G.P = Try.prog → G.nt = 18 → T G Fence.wide 0 a_fix_apart (AM.Ends [.tmp 4] r) { env := initE 0 ds, σ := [] }) : PureC Try.prog fi_fix_apart ds r :=
  pureC_of Try.call74 Try.func74 (by rfl) is_fix_apart ok_fix_apart rv_fix_apart hn h

def a_slices_Equal_int_int : ACode := (.seq (.region none (.op (some 4) none (.q (.mov (.c (.one (.p (.bool false))))))
  .nil) [0, 1] [])
 (.seq (.seq (.region none (.op (some 6) none (.q (.mov (.t 0)))
  (.op (some 7) none (.q (.len (.t 6)))
  (.op (some 8) none (.q (.mov (.t 1)))
  (.op (some 9) none (.q (.len (.t 8)))
  (.op (some 10) none (.q (.bin .neq (.t 7) (.t 9)))
  .nil))))) [0, 1, 10] [])
 (.cond (.t 10) (.seq (.region none (.op (some 4) none (.q (.mov (.c (.one (.p (.bool false))))))
  .nil) [4] [])
 .ret)
 .skip))
 (.seq (.seq (.region none (.op (some 11) none (.q (.mov (.t 0)))
  (.op (some 12) none (.q (.len (.t 11)))
  (.op (some 13) none (.q (.mov (.c (.one (.p (.int .i64 0))))))
  .nil))) [0, 1, 12, 13] [])
 (.block 0 (.loop (.seq (.region none (.op (some 14) none (.q (.bin .lss (.t 13) (.t 12)))
  .nil) [0, 1, 12, 13, 14] [])
 (.seq (.cond (.t 14) .skip
 (.exit 0))
 (.seq (.block 1 (.seq (.region none (.op (some 15) none (.q (.mov (.t 13)))
  (.op (some 5) none (.q (.mov (.t 15)))
  .nil)) [0, 1, 5, 12, 13] [])
 (.seq (.region (some [[], [0], [], [], [0, 1, 2, 3], [0, 1, 2, 3, 4], [0, 1, 2, 3], [0, 1, 2, 3], []]) (.op (some 16) none (.q (.mov (.t 0)))
  (.op (some 17) none (.q (.mov (.t 5)))
  (.op (some 18) none (.q (.iaddr 1 (.t 16) (.t 17)))
  (.op (some 19) none (.q (.load 1 false (.t 18)))
  (.op (some 20) none (.q (.mov (.t 1)))
  (.op (some 21) none (.q (.mov (.t 5)))
  (.op (some 22) none (.q (.iaddr 1 (.t 20) (.t 21)))
  (.op (some 23) none (.q (.load 1 false (.t 22)))
  (.op (some 24) none (.q (.bin .neq (.t 19) (.t 23)))
  .nil))))))))) [0, 1, 12, 13, 24] [])
 (.cond (.t 24) (.seq (.region none (.op (some 4) none (.q (.mov (.c (.one (.p (.bool false))))))
  .nil) [4] [])
 .ret)
 .skip))))
 (.region none (.op (some 25) none (.q (.bin .add (.t 13) (.c (.one (.p (.int .i64 1))))))
  (.op (some 13) none (.q (.mov (.t 25)))
  .nil)) [0, 1, 12, 13] [])))))))
 (.seq (.region none (.op (some 4) none (.q (.mov (.c (.one (.p (.bool true))))))
  .nil) [4] [])
 .ret))))
theorem is_slices_Equal_int_int : compC Try.prog (Try.f75.body.getD .skip) = some a_slices_Equal_int_int.erase := by kernel_rfl
theorem ok_slices_Equal_int_int : a_slices_Equal_int_int.ok 26 = true := by kernel_rfl
theorem rv_slices_Equal_int_int : compRV Try.prog Try.f75.results.toList = some [.tmp 4] := by kernel_rfl
theorem pure_slices_Equal_int_int {ds : List DV} {r : DV} (hn : ds.length ≤ 26) (h : ∀ (G : AM.Ground), G.P = Try.prog → G.nt = 26 → T G Fence.wide 0 a_slices_Equal_int_int (AM.Ends [.tmp 4] r) { env := initE 0 ds, σ := [] }) : PureC Try.prog fi_slices_Equal_int_int ds r :=
  pureC_of Try.call75 Try.func75 (by rfl) is_slices_Equal_int_int ok_slices_Equal_int_int rv_slices_Equal_int_int hn h

def a_elem_kinds : ACode := (.seq (.region none (.op (some 0) none (.q (.mov (.c (.one (.raw (.map none))))))
  .nil) [] [])
 (.seq (.region none (.op (some 1) none (.q (.mov (.c (.one (.p (.fn fi_elem_kinds_1 [] []))))))
  .nil) [1] [])
 (.seq (.region none (.op (some 2) none (.n .mkM)
  (.op (some 3) none (.q (.build [(.p .nilF), (.p .nilF)] [(1, 1, (.c (.one (.p (.fn fi_fix_Add [] [])))))]))
  (.op none none (.s (.mput (.t 2) (.c (.one (.p (.int .i64 10)))) (.t 3)))
  (.op (some 4) none (.q (.build [(.p .nilF), (.p .nilF)] [(1, 1, (.c (.one (.p (.fn fi_fix_Sub [] [])))))]))
  (.op none none (.s (.mput (.t 2) (.c (.one (.p (.int .i64 11)))) (.t 4)))
  (.op (some 5) none (.q (.build [(.p .nilF), (.p .nilF)] [(1, 1, (.c (.one (.p (.fn fi_fix_Mul [] [])))))]))
  (.op none none (.s (.mput (.t 2) (.c (.one (.p (.int .i64 12)))) (.t 5)))
  (.op (some 6) none (.q (.build [(.p .nilF), (.p .nilF)] [(1, 1, (.c (.one (.p (.fn fi_fix_Div [] [])))))]))
  (.op none none (.s (.mput (.t 2) (.c (.one (.p (.int .i64 13)))) (.t 6)))
  (.op (some 7) none (.q (.build [(.p .nilF), (.p .nilF)] [(0, 1, (.c (.one (.p (.fn fi_fix_Neg [] [])))))]))
  (.op none none (.s (.mput (.t 2) (.c (.one (.p (.int .i64 20)))) (.t 7)))
  (.op (some 8) none (.q (.mov (.t 1)))
  (.op (some 9) none (.q (.build [(.p .nilF), (.p .nilF)] [(0, 1, (.t 8))]))
  (.op none none (.s (.mput (.t 2) (.c (.one (.p (.int .i64 21)))) (.t 9)))
  (.op (some 10) none (.q (.build [(.p .nilF), (.p .nilF)] [(0, 1, (.c (.one (.p (.fn fi_fix_Pow [] [])))))]))
  (.op none none (.s (.mput (.t 2) (.c (.one (.p (.int .i64 22)))) (.t 10)))
  (.op (some 11) none (.q (.build [(.p .nilF), (.p .nilF)] [(0, 1, (.c (.one (.p (.fn fi_fix_Sqrt [] [])))))]))
  (.op none none (.s (.mput (.t 2) (.c (.one (.p (.int .i64 23)))) (.t 11)))
  (.op (some 12) none (.q (.mov (.t 2)))
  (.op (some 0) none (.q (.mov (.t 12)))
  .nil)))))))))))))))))))) [0] [2])
 .ret)))
theorem is_elem_kinds : compC Try.prog (Try.f83.body.getD .skip) = some a_elem_kinds.erase := by kernel_rfl
theorem ok_elem_kinds : a_elem_kinds.ok 13 = true := by kernel_rfl
theorem rv_elem_kinds : compRV Try.prog Try.f83.results.toList = some [.tmp 0] := by kernel_rfl
theorem pure_elem_kinds {ds : List DV} {r : DV} (hn : ds.length ≤ 13) (h : ∀ (G : AM.Ground), G.P = Try.prog → G.nt = 13 → T G Fence.wide 0 a_elem_kinds (AM.Ends [.tmp 0] r) { env := initE 0 ds, σ := [] }) : PureC Try.prog fi_elem_kinds ds r :=
  pureC_of Try.call83 Try.func83 (by rfl) is_elem_kinds ok_elem_kinds rv_elem_kinds hn h

def a_elem_each : ACode := (.seq (.region none (.op (some 4) none (.n (.alloc [.nils, .nils]))
  (.op (some 5) none (.q (.mov (.c (.one (.p (.int .i64 0))))))
  .nil)) [0, 1, 4] [4])
 (.seq (.region none (.op (some 10) none (.q (.mov (.t 0)))
  (.op (some 11) none (.call (.c (.one (.p (.fn fi_slices_Clone_int_int [] [])))) [(.t 10)])
  (.op (some 12) none (.q (.build [.nils, .nils] [(0, 1, (.t 11))]))
  (.op (some 6) none (.n (.alloc [.nils, .nils]))
  (.op none none (.s (.store 2 (.t 6) (.t 12)))
  .nil))))) [0, 1, 4, 6] [4, 6])
 (.seq (.seq (.region none (.op (some 13) none (.q (.mov (.t 0)))
  (.op (some 14) none (.call (.c (.one (.p (.fn fi_shape_Size [] [])))) [(.t 13)])
  (.op (some 15) none (.q (.mov (.c (.one (.p (.int .i64 0))))))
  .nil))) [1, 4, 6, 14, 15] [4, 6])
 (.block 0 (.loop (.seq (.region none (.op (some 16) none (.q (.bin .lss (.t 15) (.t 14)))
  .nil) [1, 4, 6, 14, 15, 16] [4, 6])
 (.seq (.cond (.t 16) .skip
 (.exit 0))
 (.seq (.block 1 (.seq (.region none (.op (some 17) none (.q (.mov (.t 15)))
  (.op (some 7) none (.q (.mov (.t 17)))
  .nil)) [1, 4, 6, 7, 14, 15] [4, 6])
 (.seq (.region none (.op (some 19) none (.q (.mov (.t 1)))
  (.op (some 20) none (.q (.mov (.t 7)))
  (.op (some 21) none (.call (.t 19) [(.t 20)])
  (.op (some 18) none (.q (.mov (.t 21)))
  (.op (some 22) none (.q (.extr (.t 18) 0))
  (.op (some 23) none (.q (.extr (.t 18) 1))
  (.op (some 8) none (.q (.mov (.t 22)))
  (.op (some 9) none (.q (.mov (.t 23)))
  .nil)))))))) [1, 4, 6, 8, 9, 14, 15] [4, 6])
 (.seq (.seq (.region none (.op (some 24) none (.q (.mov (.t 9)))
  (.op (some 25) none (.q (.bin .neq (.t 24) (.c (.one (.p (.int .i64 0))))))
  .nil)) [1, 4, 6, 8, 9, 14, 15, 25] [4, 6])
 (.cond (.t 25) (.seq (.region none (.op (some 26) none (.q (.build [.nils, .nils] []))
  (.op (some 27) none (.q (.mov (.t 9)))
  (.op none none (.s (.store 2 (.t 4) (.t 26)))
  (.op (some 5) none (.q (.mov (.t 27)))
  .nil)))) [4, 5] [4, 6])
 .ret)
 .skip))
 (.region none (.op (some 28) none (.q (.faddr 1 (.t 6)))
  (.op (some 29) none (.q (.load 1 false (.t 28)))
  (.op (some 30) none (.q (.mov (.t 8)))
  (.op (some 31) none (.n (.lit 1 1 [(.int .i64 0)] [(0, (.t 30))]))
  (.op (some 32) none (.s (.app 1 8 (.t 29) (.t 31)))
  (.op (some 33) none (.q (.faddr 1 (.t 6)))
  (.op none none (.s (.store 1 (.t 33) (.t 32)))
  .nil))))))) [1, 4, 6, 14, 15] [4, 6, 31, 32])))))
 (.region none (.op (some 34) none (.q (.bin .add (.t 15) (.c (.one (.p (.int .i64 1))))))
  (.op (some 15) none (.q (.mov (.t 34)))
  .nil)) [1, 4, 6, 14, 15] [4, 6, 31, 32])))))))
 (.seq (.region none (.op (some 35) none (.q (.load 2 true (.t 6)))
  (.op none none (.s (.store 2 (.t 4) (.t 35)))
  (.op (some 5) none (.q (.mov (.c (.one (.p (.int .i64 0))))))
  .nil))) [4, 5] [4, 6, 31, 32])
 .ret))))
theorem is_elem_each : compC Try.prog (Try.f84.body.getD .skip) = some a_elem_each.erase := by kernel_rfl
theorem ok_elem_each : a_elem_each.ok 36 = true := by kernel_rfl
theorem rv_elem_each : compRV Try.prog Try.f84.results.toList = some [.cell 2 true 4, .tmp 5] := by kernel_rfl
theorem pure_elem_each {ds : List DV} {r : DV} (hn : ds.length ≤ 36) (h : ∀ (G : AM.Ground), G.P = Try.prog → G.nt = 36 → T G Fence.wide 0 a_elem_each (AM.Ends [.cell 2 true 4, .tmp 5] r) { env := initE 0 ds, σ := [] }) : PureC Try.prog fi_elem_each ds r :=
  pureC_of Try.call84 Try.func84 (by rfl) is_elem_each ok_elem_each rv_elem_each hn h

def a_elem_One_1 : ACode := (.seq (.region none (.op (some 4) none (.q (.mov (.c (.one (.p (.int .i64 0))))))
  (.op (some 5) none (.q (.mov (.c (.one (.p (.int .i64 0))))))
  .nil)) [0, 1, 2] [])
 (.seq (.region (some [[], [], [0, 1], [0, 1], [0, 1, 2, 3], [0, 1], [0, 1], [], [], [8], [], []]) (.op (some 6) none (.q (.faddr 0 (.t 1)))
  (.op (some 7) none (.q (.load 1 false (.t 6)))
  (.op (some 8) none (.q (.faddr 1 (.t 2)))
  (.op (some 9) none (.q (.load 1 false (.t 8)))
  (.op (some 10) none (.q (.mov (.t 0)))
  (.op (some 11) none (.q (.iaddr 1 (.t 9) (.t 10)))
  (.op (some 12) none (.q (.load 1 false (.t 11)))
  (.op (some 13) none (.call (.t 7) [(.t 12)])
  (.op (some 14) none (.q (.extr (.t 13) 0))
  (.op (some 15) none (.q (.extr (.t 13) 1))
  (.op (some 4) none (.q (.mov (.t 14)))
  (.op (some 5) none (.q (.mov (.t 15)))
  .nil)))))))))))) [4, 5] [])
 .ret))
theorem is_elem_One_1 : compC Try.prog (Try.f85.body.getD .skip) = some a_elem_One_1.erase := by kernel_rfl
theorem ok_elem_One_1 : a_elem_One_1.ok 16 = true := by kernel_rfl
theorem rv_elem_One_1 : compRV Try.prog Try.f85.results.toList = some [.tmp 4, .tmp 5] := by kernel_rfl
theorem pure_elem_One_1 {ds : List DV} {r : DV} (hn : ds.length ≤ 16) (h : ∀ (G : AM.Ground), G.P = Try.prog → G.nt = 16 → T G Fence.wide 0 a_elem_One_1 (AM.Ends [.tmp 4, .tmp 5] r) { env := initE 0 ds, σ := [] }) : PureC Try.prog fi_elem_One_1 ds r :=
  pureC_of Try.call85 Try.func85 (by rfl) is_elem_One_1 ok_elem_One_1 rv_elem_One_1 hn h

def a_elem_Two_1 : ACode := (.seq (.region none (.op (some 5) none (.q (.mov (.c (.one (.p (.int .i64 0))))))
  (.op (some 6) none (.q (.mov (.c (.one (.p (.int .i64 0))))))
  .nil)) [0, 1, 2, 3] [])
 (.seq (.region (some [[], [], [0, 1], [0, 1], [0, 1, 2, 3], [0, 1], [0, 1], [0, 1, 2, 3, 4, 5, 6], [0, 1, 2, 3, 4, 5, 6], [0, 1, 2, 3, 4, 5, 6, 7, 8], [0, 1, 2, 3, 4, 5, 6], [0, 1, 2, 3, 4, 5, 6], [], [], [13], [], []]) (.op (some 7) none (.q (.faddr 1 (.t 1)))
  (.op (some 8) none (.q (.load 1 false (.t 7)))
  (.op (some 9) none (.q (.faddr 1 (.t 2)))
  (.op (some 10) none (.q (.load 1 false (.t 9)))
  (.op (some 11) none (.q (.mov (.t 0)))
  (.op (some 12) none (.q (.iaddr 1 (.t 10) (.t 11)))
  (.op (some 13) none (.q (.load 1 false (.t 12)))
  (.op (some 14) none (.q (.faddr 1 (.t 3)))
  (.op (some 15) none (.q (.load 1 false (.t 14)))
  (.op (some 16) none (.q (.mov (.t 0)))
  (.op (some 17) none (.q (.iaddr 1 (.t 15) (.t 16)))
  (.op (some 18) none (.q (.load 1 false (.t 17)))
  (.op (some 19) none (.call (.t 8) [(.t 13), (.t 18)])
  (.op (some 20) none (.q (.extr (.t 19) 0))
  (.op (some 21) none (.q (.extr (.t 19) 1))
  (.op (some 5) none (.q (.mov (.t 20)))
  (.op (some 6) none (.q (.mov (.t 21)))
  .nil))))))))))))))))) [5, 6] [])
 .ret))
theorem is_elem_Two_1 : compC Try.prog (Try.f87.body.getD .skip) = some a_elem_Two_1.erase := by kernel_rfl
theorem ok_elem_Two_1 : a_elem_Two_1.ok 22 = true := by kernel_rfl
theorem rv_elem_Two_1 : compRV Try.prog Try.f87.results.toList = some [.tmp 5, .tmp 6] := by kernel_rfl
theorem pure_elem_Two_1 {ds : List DV} {r : DV} (hn : ds.length ≤ 22) (h : ∀ (G : AM.Ground), G.P = Try.prog → G.nt = 22 → T G Fence.wide 0 a_elem_Two_1 (AM.Ends [.tmp 5, .tmp 6] r) { env := initE 0 ds, σ := [] }) : PureC Try.prog fi_elem_Two_1 ds r :=
  pureC_of Try.call87 Try.func87 (by rfl) is_elem_Two_1 ok_elem_Two_1 rv_elem_Two_1 hn h

def a_shape_Fits : ACode := (.seq (.region none (.op (some 4) none (.q (.mov (.c (.one (.p (.bool false))))))
  .nil) [0, 1] [])
 (.seq (.region none (.op (some 8) none (.q (.mov (.t 0)))
  (.op (some 9) none (.q (.mov (.t 1)))
  (.op (some 10) none (.call (.c (.one (.p (.fn fi_shape_Join [] [])))) [(.t 8), (.t 9)])
  (.op (some 7) none (.q (.mov (.t 10)))
  (.op (some 11) none (.q (.extr (.t 7) 0))
  (.op (some 12) none (.q (.extr (.t 7) 1))
  (.op (some 5) none (.q (.mov (.t 11)))
  (.op (some 6) none (.q (.mov (.t 12)))
  .nil)))))))) [1, 5, 6] [])
 (.seq (.region none (.op (some 13) none (.q (.mov (.t 6)))
  (.op (some 14) none (.q (.bin .eql (.t 13) (.c (.one (.p (.int .i64 0))))))
  (.op (some 15) none (.q (.mov (.t 14)))
  (.sc 19 15 true 18 none
  (.op (some 16) (some (15, true)) (.q (.mov (.t 5)))
  (.op (some 17) (some (15, true)) (.q (.mov (.t 1)))
  (.op (some 18) (some (15, true)) (.call (.c (.one (.p (.fn fi_slices_Equal_int_int [] [])))) [(.t 16), (.t 17)])
  .nil)))
  (.op (some 4) none (.q (.mov (.t 19)))
  .nil))))) [4] [])
 .ret)))
theorem is_shape_Fits : compC Try.prog (Try.f91.body.getD .skip) = some a_shape_Fits.erase := by kernel_rfl
theorem ok_shape_Fits : a_shape_Fits.ok 20 = true := by kernel_rfl
theorem rv_shape_Fits : compRV Try.prog Try.f91.results.toList = some [.tmp 4] := by kernel_rfl
theorem pure_shape_Fits {ds : List DV} {r : DV} (hn : ds.length ≤ 20) (h : ∀ (G : AM.Ground), G.P = Try.prog → G.nt = 20 → T G Fence.wide 0 a_shape_Fits (AM.Ends [.tmp 4] r) { env := initE 0 ds, σ := [] }) : PureC Try.prog fi_shape_Fits ds r :=
  pureC_of Try.call91 Try.func91 (by rfl) is_shape_Fits ok_shape_Fits rv_shape_Fits hn h

def a_tensor_from : ACode := (.seq (.region none (.op (some 2) none (.n (.box 1 (.t 0)))
  (.op (some 3) none (.n (.box 1 (.t 1)))
  (.op (some 4) none (.q (.mov (.c (.one (.p .nilF)))))
  .nil))) [2, 3] [2, 3])
 (.seq (.region none (.op (some 5) none (.q (.mkF fi_tensor_from_1 [] [(.t 3), (.t 2)]))
  (.op (some 4) none (.q (.mov (.t 5)))
  .nil)) [4] [2, 3])
 .ret))
theorem is_tensor_from : compC Try.prog (Try.f92.body.getD .skip) = some a_tensor_from.erase := by kernel_rfl
theorem ok_tensor_from : a_tensor_from.ok 6 = true := by kernel_rfl
theorem rv_tensor_from : compRV Try.prog Try.f92.results.toList = some [.tmp 4] := by kernel_rfl
theorem pure_tensor_from {ds : List DV} {r : DV} (hn : ds.length ≤ 6) (h : ∀ (G : AM.Ground), G.P = Try.prog → G.nt = 6 → T G Fence.wide 0 a_tensor_from (AM.Ends [.tmp 4] r) { env := initE 0 ds, σ := [] }) : PureC Try.prog fi_tensor_from ds r :=
  pureC_of Try.call92 Try.func92 (by rfl) is_tensor_from ok_tensor_from rv_tensor_from hn h

def a_shape_side : ACode := (.seq (.region none (.op (some 4) none (.q (.mov (.c (.one (.p (.int .i64 0))))))
  .nil) [0, 1] [])
 (.seq (.seq (.region none (.op (some 5) none (.q (.mov (.t 1)))
  (.op (some 6) none (.q (.mov (.t 0)))
  (.op (some 7) none (.q (.len (.t 6)))
  (.op (some 8) none (.q (.bin .geq (.t 5) (.t 7)))
  .nil)))) [0, 1, 8] [])
 (.cond (.t 8) (.seq (.region none (.op (some 4) none (.q (.mov (.c (.one (.p (.int .i64 1))))))
  .nil) [4] [])
 .ret)
 .skip))
 (.seq (.region none (.op (some 9) none (.q (.mov (.t 0)))
  (.op (some 10) none (.q (.mov (.t 0)))
  (.op (some 11) none (.q (.len (.t 10)))
  (.op (some 12) none (.q (.bin .sub (.t 11) (.c (.one (.p (.int .i64 1))))))
  (.op (some 13) none (.q (.mov (.t 1)))
  (.op (some 14) none (.q (.bin .sub (.t 12) (.t 13)))
  (.op (some 15) none (.q (.iaddr 1 (.t 9) (.t 14)))
  (.op (some 16) none (.q (.load 1 false (.t 15)))
  (.op (some 4) none (.q (.mov (.t 16)))
  .nil))))))))) [4] [])
 .ret)))
theorem is_shape_side : compC Try.prog (Try.f93.body.getD .skip) = some a_shape_side.erase := by kernel_rfl
theorem ok_shape_side : a_shape_side.ok 17 = true := by kernel_rfl
theorem rv_shape_side : compRV Try.prog Try.f93.results.toList = some [.tmp 4] := by kernel_rfl
theorem pure_shape_side {ds : List DV} {r : DV} (hn : ds.length ≤ 17) (h : ∀ (G : AM.Ground), G.P = Try.prog → G.nt = 17 → T G Fence.wide 0 a_shape_side (AM.Ends [.tmp 4] r) { env := initE 0 ds, σ := [] }) : PureC Try.prog fi_shape_side ds r :=
  pureC_of Try.call93 Try.func93 (by rfl) is_shape_side ok_shape_side rv_shape_side hn h

def a_fix_told : ACode := (.seq (.region none (.op (some 4) none (.q (.mov (.c (.one (.p (.int .i64 0))))))
  (.op (some 5) none (.q (.mov (.c (.one (.p (.int .i64 0))))))
  .nil)) [0, 1] [])
 (.seq (.seq (.region none (.op (some 6) none (.q (.mov (.t 1)))
  (.op (some 7) none (.q (.un .not (.t 6)))
  .nil)) [0, 7] [])
 (.cond (.t 7) (.seq (.region none (.op (some 4) none (.q (.mov (.c (.one (.p (.int .i64 0))))))
  (.op (some 5) none (.q (.mov (.c (.one (.p (.int .i64 10))))))
  .nil)) [4, 5] [])
 .ret)
 .skip))
 (.seq (.region none (.op (some 8) none (.q (.mov (.t 0)))
  (.op (some 4) none (.q (.mov (.t 8)))
  (.op (some 5) none (.q (.mov (.c (.one (.p (.int .i64 0))))))
  .nil))) [4, 5] [])
 .ret)))
theorem is_fix_told : compC Try.prog (Try.f111.body.getD .skip) = some a_fix_told.erase := by kernel_rfl
theorem ok_fix_told : a_fix_told.ok 9 = true := by kernel_rfl
theorem rv_fix_told : compRV Try.prog Try.f111.results.toList = some [.tmp 4, .tmp 5] := by kernel_rfl
theorem pure_fix_told {ds : List DV} {r : DV} (hn : ds.length ≤ 9) (h : ∀ (G : AM.Ground), G.P = Try.prog → G.nt = 9 → T G Fence.wide 0 a_fix_told (AM.Ends [.tmp 4, .tmp 5] r) { env := initE 0 ds, σ := [] }) : PureC Try.prog fi_fix_told ds r :=
  pureC_of Try.call111 Try.func111 (by rfl) is_fix_told ok_fix_told rv_fix_told hn h

def a_math_bits_Mul : ACode := (.seq (.region none (.op (some 4) none (.q (.mov (.c (.one (.p (.int .u64 0))))))
  (.op (some 5) none (.q (.mov (.c (.one (.p (.int .u64 0))))))
  .nil)) [0, 1] [])
 (.seq (.cond (.c (.one (.p (.bool false)))) (.seq (.region none (.op (some 11) none (.q (.mov (.t 0)))
  (.op (some 12) none (.q (.conv .u32 (.t 11)))
  (.op (some 13) none (.q (.mov (.t 1)))
  (.op (some 14) none (.q (.conv .u32 (.t 13)))
  (.op (some 15) none (.call (.c (.one (.p (.fn fi_math_bits_Mul32 [] [])))) [(.t 12), (.t 14)])
  (.op (some 10) none (.q (.mov (.t 15)))
  (.op (some 16) none (.q (.extr (.t 10) 0))
  (.op (some 17) none (.q (.extr (.t 10) 1))
  (.op (some 6) none (.q (.mov (.t 16)))
  (.op (some 7) none (.q (.mov (.t 17)))
  .nil)))))))))) [6, 7] [])
 (.seq (.region none (.op (some 18) none (.q (.mov (.t 6)))
  (.op (some 19) none (.q (.conv .u64 (.t 18)))
  (.op (some 20) none (.q (.mov (.t 7)))
  (.op (some 21) none (.q (.conv .u64 (.t 20)))
  (.op (some 4) none (.q (.mov (.t 19)))
  (.op (some 5) none (.q (.mov (.t 21)))
  .nil)))))) [4, 5] [])
 .ret))
 .skip)
 (.seq (.region none (.op (some 23) none (.q (.mov (.t 0)))
  (.op (some 24) none (.q (.mov (.t 1)))
  (.op (some 25) none (.call (.c (.one (.p (.fn fi_math_bits_Mul64 [] [])))) [(.t 23), (.t 24)])
  (.op (some 22) none (.q (.mov (.t 25)))
  (.op (some 26) none (.q (.extr (.t 22) 0))
  (.op (some 27) none (.q (.extr (.t 22) 1))
  (.op (some 8) none (.q (.mov (.t 26)))
  (.op (some 9) none (.q (.mov (.t 27)))
  .nil)))))))) [8, 9] [])
 (.seq (.region none (.op (some 28) none (.q (.mov (.t 8)))
  (.op (some 29) none (.q (.mov (.t 9)))
  (.op (some 4) none (.q (.mov (.t 28)))
  (.op (some 5) none (.q (.mov (.t 29)))
  .nil)))) [4, 5] [])
 .ret))))
theorem is_math_bits_Mul : compC Try.prog (Try.f119.body.getD .skip) = some a_math_bits_Mul.erase := by kernel_rfl
theorem ok_math_bits_Mul : a_math_bits_Mul.ok 30 = true := by kernel_rfl
theorem rv_math_bits_Mul : compRV Try.prog Try.f119.results.toList = some [.tmp 4, .tmp 5] := by kernel_rfl
theorem pure_math_bits_Mul {ds : List DV} {r : DV} (hn : ds.length ≤ 30) (h : ∀ (G : AM.Ground), G.P = Try.prog → G.nt = 30 → T G Fence.wide 0 a_math_bits_Mul (AM.Ends [.tmp 4, .tmp 5] r) { env := initE 0 ds, σ := [] }) : PureC Try.prog fi_math_bits_Mul ds r :=
  pureC_of Try.call119 Try.func119 (by rfl) is_math_bits_Mul ok_math_bits_Mul rv_math_bits_Mul hn h

def a_fix_wide_signed_1 : ACode := (.seq (.region none (.op (some 1) none (.q (.mov (.c (.one (.p (.int .u64 0))))))
  .nil) [0] [])
 (.seq (.region none (.op (some 3) none (.q (.iaddrA 2 1 (.t 0) (.c (.one (.p (.int .i64 1))))))
  (.op (some 4) none (.q (.load 1 false (.t 3)))
  (.op (some 5) none (.q (.carry false (.t 4) (.c (.one (.p (.int .u64 1)))) (.c (.one (.p (.int .u64 0))))))
  (.op (some 2) none (.q (.mov (.t 5)))
  (.op (some 6) none (.q (.extr (.t 2) 0))
  (.op (some 7) none (.q (.extr (.t 2) 1))
  (.op (some 8) none (.q (.iaddrA 2 1 (.t 0) (.c (.one (.p (.int .i64 1))))))
  (.op none none (.s (.store 1 (.t 8) (.t 6)))
  (.op (some 1) none (.q (.mov (.t 7)))
  .nil))))))))) [0, 1] [])
 (.region none (.op (some 9) none (.q (.iaddrA 2 1 (.t 0) (.c (.one (.p (.int .i64 0))))))
  (.op (some 10) none (.q (.load 1 false (.t 9)))
  (.op (some 11) none (.q (.mov (.t 1)))
  (.op (some 12) none (.q (.bin .add (.t 10) (.t 11)))
  (.op (some 13) none (.q (.iaddrA 2 1 (.t 0) (.c (.one (.p (.int .i64 0))))))
  (.op none none (.s (.store 1 (.t 13) (.t 12)))
  .nil)))))) [] [])))
theorem is_fix_wide_signed_1 : compC Try.prog (Try.f120.body.getD .skip) = some a_fix_wide_signed_1.erase := by kernel_rfl
theorem ok_fix_wide_signed_1 : a_fix_wide_signed_1.ok 14 = true := by kernel_rfl
theorem rv_fix_wide_signed_1 : compRV Try.prog Try.f120.results.toList = some [] := by kernel_rfl
theorem mut_fix_wide_signed_1 {vs : List AV} {σ σ' : Sto} {r : AV} {fr : List Nat} (hn : vs.length ≤ 14) (h : ∀ (G : AM.Ground) (ex : List AV), G.P = Try.prog → G.nt = 14 → (∀ d ∈ fr, ex.all (fun v => !v.has d) = true) → T G Fence.wide 0 a_fix_wide_signed_1 (EndsM [] r σ' ex) { env := initV 0 vs, σ := σ, ex := ex }) : MutC Try.prog fi_fix_wide_signed_1 vs σ r σ' fr :=
  mutC_of Try.call120 Try.func120 (by rfl) is_fix_wide_signed_1 ok_fix_wide_signed_1 rv_fix_wide_signed_1 hn h

def a_elem_kinds_1 : ACode := (.seq (.region none (.op (some 2) none (.q (.mov (.c (.one (.p (.int .i64 0))))))
  (.op (some 3) none (.q (.mov (.c (.one (.p (.int .i64 0))))))
  .nil)) [0] [])
 (.seq (.region none (.op (some 4) none (.q (.mov (.t 0)))
  (.op (some 5) none (.q (.mm true (.t 4) (.c (.one (.p (.int .i64 0))))))
  (.op (some 2) none (.q (.mov (.t 5)))
  (.op (some 3) none (.q (.mov (.c (.one (.p (.int .i64 0))))))
  .nil)))) [2, 3] [])
 .ret))
theorem is_elem_kinds_1 : compC Try.prog (Try.f123.body.getD .skip) = some a_elem_kinds_1.erase := by kernel_rfl
theorem ok_elem_kinds_1 : a_elem_kinds_1.ok 6 = true := by kernel_rfl
theorem rv_elem_kinds_1 : compRV Try.prog Try.f123.results.toList = some [.tmp 2, .tmp 3] := by kernel_rfl
theorem pure_elem_kinds_1 {ds : List DV} {r : DV} (hn : ds.length ≤ 6) (h : ∀ (G : AM.Ground), G.P = Try.prog → G.nt = 6 → T G Fence.wide 0 a_elem_kinds_1 (AM.Ends [.tmp 2, .tmp 3] r) { env := initE 0 ds, σ := [] }) : PureC Try.prog fi_elem_kinds_1 ds r :=
  pureC_of Try.call123 Try.func123 (by rfl) is_elem_kinds_1 ok_elem_kinds_1 rv_elem_kinds_1 hn h

def a_fix_Sub : ACode := (.seq (.region none (.op (some 4) none (.q (.mov (.c (.one (.p (.int .i64 0))))))
  (.op (some 5) none (.q (.mov (.c (.one (.p (.int .i64 0))))))
  .nil)) [0, 1] [])
 (.seq (.region none (.op (some 7) none (.q (.mov (.t 0)))
  (.op (some 8) none (.q (.mov (.t 1)))
  (.op (some 9) none (.q (.bin .sub (.t 7) (.t 8)))
  (.op (some 6) none (.q (.mov (.t 9)))
  .nil)))) [0, 1, 6] [])
 (.seq (.region none (.op (some 10) none (.q (.mov (.t 6)))
  (.op (some 11) none (.q (.mov (.t 0)))
  (.op (some 12) none (.q (.bin .lss (.t 11) (.c (.one (.p (.int .i64 0))))))
  (.op (some 13) none (.q (.mov (.t 1)))
  (.op (some 14) none (.q (.bin .lss (.t 13) (.c (.one (.p (.int .i64 0))))))
  (.op (some 15) none (.q (.eqB false (.t 12) (.t 14)))
  (.op (some 16) none (.q (.mov (.t 15)))
  (.sc 22 16 false 21 none
  (.op (some 17) (some (16, false)) (.q (.mov (.t 6)))
  (.op (some 18) (some (16, false)) (.q (.bin .lss (.t 17) (.c (.one (.p (.int .i64 0))))))
  (.op (some 19) (some (16, false)) (.q (.mov (.t 0)))
  (.op (some 20) (some (16, false)) (.q (.bin .lss (.t 19) (.c (.one (.p (.int .i64 0))))))
  (.op (some 21) (some (16, false)) (.q (.eqB false (.t 18) (.t 20)))
  .nil)))))
  (.op (some 23) none (.call (.c (.one (.p (.fn fi_fix_told [] [])))) [(.t 10), (.t 22)])
  (.op (some 24) none (.q (.extr (.t 23) 0))
  (.op (some 25) none (.q (.extr (.t 23) 1))
  (.op (some 4) none (.q (.mov (.t 24)))
  (.op (some 5) none (.q (.mov (.t 25)))
  .nil))))))))))))) [4, 5] [])
 .ret)))
theorem is_fix_Sub : compC Try.prog (Try.f124.body.getD .skip) = some a_fix_Sub.erase := by kernel_rfl
theorem ok_fix_Sub : a_fix_Sub.ok 26 = true := by kernel_rfl
theorem rv_fix_Sub : compRV Try.prog Try.f124.results.toList = some [.tmp 4, .tmp 5] := by kernel_rfl
theorem pure_fix_Sub {ds : List DV} {r : DV} (hn : ds.length ≤ 26) (h : ∀ (G : AM.Ground), G.P = Try.prog → G.nt = 26 → T G Fence.wide 0 a_fix_Sub (AM.Ends [.tmp 4, .tmp 5] r) { env := initE 0 ds, σ := [] }) : PureC Try.prog fi_fix_Sub ds r :=
  pureC_of Try.call124 Try.func124 (by rfl) is_fix_Sub ok_fix_Sub rv_fix_Sub hn h

def a_fix_Div : ACode := (.seq (.region none (.op (some 4) none (.q (.mov (.c (.one (.p (.int .i64 0))))))
  (.op (some 5) none (.q (.mov (.c (.one (.p (.int .i64 0))))))
  .nil)) [0, 1] [])
 (.seq (.seq (.region none (.op (some 12) none (.q (.mov (.t 1)))
  (.op (some 13) none (.q (.bin .eql (.t 12) (.c (.one (.p (.int .i64 0))))))
  .nil)) [0, 1, 13] [])
 (.cond (.t 13) (.seq (.region none (.op (some 4) none (.q (.mov (.c (.one (.p (.int .i64 0))))))
  (.op (some 5) none (.q (.mov (.c (.one (.p (.int .i64 11))))))
  .nil)) [4, 5] [])
 .ret)
 .skip))
 (.seq (.region none (.op (some 14) none (.q (.mov (.t 0)))
  (.op (some 15) none (.call (.c (.one (.p (.fn fi_fix_size [] [])))) [(.t 14)])
  (.op (some 16) none (.q (.mov (.t 1)))
  (.op (some 17) none (.call (.c (.one (.p (.fn fi_fix_size [] [])))) [(.t 16)])
  (.op (some 6) none (.q (.mov (.t 15)))
  (.op (some 7) none (.q (.mov (.t 17)))
  .nil)))))) [0, 1, 6, 7] [])
 (.seq (.region none (.op (some 8) none (.n (.allocA 1 [[(.int .u64 0)], [(.int .u64 0)]]))
  .nil) [0, 1, 6, 7, 8] [8])
 (.seq (.region none (.op (some 18) none (.q (.mov (.t 6)))
  (.op (some 19) none (.q (.bin .shr (.t 18) (.c (.one (.p (.int .u64 32))))))
  (.op (some 20) none (.q (.mov (.t 6)))
  (.op (some 21) none (.q (.bin .shl (.t 20) (.c (.one (.p (.int .u64 32))))))
  (.op (some 9) none (.q (.mov (.t 19)))
  (.op (some 10) none (.q (.mov (.t 21)))
  .nil)))))) [0, 1, 7, 8, 9, 10] [8])
 (.seq (.region (some [[], [0], [], [0, 1, 2], [0, 1, 2, 3], [0, 1, 2], [3, 4, 5], [3, 4, 5], []]) (.op (some 22) none (.q (.mov (.t 9)))
  (.op (some 23) none (.q (.mov (.t 7)))
  (.op (some 24) none (.q (.bin .quo (.t 22) (.t 23)))
  (.op (some 25) none (.q (.mov (.t 9)))
  (.op (some 26) none (.q (.mov (.t 7)))
  (.op (some 27) none (.q (.bin .rem (.t 25) (.t 26)))
  (.op (some 28) none (.q (.iaddrA 2 1 (.t 8) (.c (.one (.p (.int .i64 0))))))
  (.op none none (.s (.store 1 (.t 28) (.t 24)))
  (.op (some 9) none (.q (.mov (.t 27)))
  .nil))))))))) [0, 1, 7, 8, 9, 10] [8])
 (.seq (.region none (.op (some 11) none (.q (.mov (.c (.one (.p (.int .u64 0))))))
  .nil) [0, 1, 7, 8, 9, 10] [8])
 (.seq (.region none (.op (some 30) none (.q (.mov (.t 9)))
  (.op (some 31) none (.q (.mov (.t 10)))
  (.op (some 32) none (.q (.mov (.t 7)))
  (.op (some 33) none (.call (.c (.one (.p (.fn fi_math_bits_Div64 [] [])))) [(.t 30), (.t 31), (.t 32)])
  (.op (some 29) none (.q (.mov (.t 33)))
  (.op (some 34) none (.q (.extr (.t 29) 0))
  (.op (some 35) none (.q (.extr (.t 29) 1))
  (.op (some 36) none (.q (.iaddrA 2 1 (.t 8) (.c (.one (.p (.int .i64 1))))))
  (.op none none (.s (.store 1 (.t 36) (.t 34)))
  (.op (some 11) none (.q (.mov (.t 35)))
  .nil)))))))))) [0, 1, 8, 11] [8])
 (.seq (.region (some [[], [0], [0], [0, 1, 2], [0, 1, 2, 3], [0, 1, 2], [], [], [7], [], []]) (.op (some 37) none (.q (.load 2 true (.t 8)))
  (.op (some 38) none (.q (.mov (.t 11)))
  (.op (some 39) none (.q (.bin .neq (.t 38) (.c (.one (.p (.int .u64 0))))))
  (.op (some 40) none (.q (.mov (.t 0)))
  (.op (some 41) none (.q (.mov (.t 1)))
  (.op (some 42) none (.call (.c (.one (.p (.fn fi_fix_apart [] [])))) [(.t 40), (.t 41)])
  (.op (some 43) none (.call (.c (.one (.p (.fn fi_fix_wide_signed [] [])))) [(.t 37), (.t 39), (.t 42)])
  (.op (some 44) none (.q (.extr (.t 43) 0))
  (.op (some 45) none (.q (.extr (.t 43) 1))
  (.op (some 4) none (.q (.mov (.t 44)))
  (.op (some 5) none (.q (.mov (.t 45)))
  .nil))))))))))) [4, 5] [8])
 .ret)))))))))
theorem is_fix_Div : compC Try.prog (Try.f125.body.getD .skip) = some a_fix_Div.erase := by kernel_rfl
theorem ok_fix_Div : a_fix_Div.ok 46 = true := by kernel_rfl
theorem rv_fix_Div : compRV Try.prog Try.f125.results.toList = some [.tmp 4, .tmp 5] := by kernel_rfl
theorem pure_fix_Div {ds : List DV} {r : DV} (hn : ds.length ≤ 46) (h : ∀ (G : AM.Ground), G.P = Try.prog → G.nt = 46 → T G Fence.wide 0 a_fix_Div (AM.Ends [.tmp 4, .tmp 5] r) { env := initE 0 ds, σ := [] }) : PureC Try.prog fi_fix_Div ds r :=
  pureC_of Try.call125 Try.func125 (by rfl) is_fix_Div ok_fix_Div rv_fix_Div hn h

def a_fix_Neg : ACode := (.seq (.region none (.op (some 2) none (.q (.mov (.c (.one (.p (.int .i64 0))))))
  (.op (some 3) none (.q (.mov (.c (.one (.p (.int .i64 0))))))
  .nil)) [0] [])
 (.seq (.region none (.op (some 4) none (.q (.mov (.t 0)))
  (.op (some 5) none (.q (.un .neg (.t 4)))
  (.op (some 6) none (.q (.mov (.t 0)))
  (.op (some 7) none (.q (.bin .neq (.t 6) (.c (.one (.p (.int .i64 (-9223372036854775808)))))))
  (.op (some 8) none (.call (.c (.one (.p (.fn fi_fix_told [] [])))) [(.t 5), (.t 7)])
  (.op (some 9) none (.q (.extr (.t 8) 0))
  (.op (some 10) none (.q (.extr (.t 8) 1))
  (.op (some 2) none (.q (.mov (.t 9)))
  (.op (some 3) none (.q (.mov (.t 10)))
  .nil))))))))) [2, 3] [])
 .ret))
theorem is_fix_Neg : compC Try.prog (Try.f126.body.getD .skip) = some a_fix_Neg.erase := by kernel_rfl
theorem ok_fix_Neg : a_fix_Neg.ok 11 = true := by kernel_rfl
theorem rv_fix_Neg : compRV Try.prog Try.f126.results.toList = some [.tmp 2, .tmp 3] := by kernel_rfl
theorem pure_fix_Neg {ds : List DV} {r : DV} (hn : ds.length ≤ 11) (h : ∀ (G : AM.Ground), G.P = Try.prog → G.nt = 11 → T G Fence.wide 0 a_fix_Neg (AM.Ends [.tmp 2, .tmp 3] r) { env := initE 0 ds, σ := [] }) : PureC Try.prog fi_fix_Neg ds r :=
  pureC_of Try.call126 Try.func126 (by rfl) is_fix_Neg ok_fix_Neg rv_fix_Neg hn h

def a_tensor_from_1 : ACode := (.seq (.region none (.op (some 13) none (.q (.load 1 false (.t 1)))
  (.op (some 14) none (.q (.len (.t 13)))
  (.op (some 15) none (.n (.mkS 1 8 [(.int .i64 0)] (.t 14) (.t 14)))
  (.op (some 4) none (.q (.mov (.t 15)))
  .nil)))) [0, 1, 2, 4] [15])
 (.seq (.seq (.region none (.op (some 16) none (.q (.load 1 false (.t 2)))
  (.op (some 17) none (.q (.len (.t 16)))
  (.op (some 18) none (.q (.bin .sub (.t 17) (.c (.one (.p (.int .i64 1))))))
  (.op (some 5) none (.q (.mov (.t 18)))
  (.op (some 6) none (.q (.mov (.c (.one (.p (.int .i64 1))))))
  .nil))))) [0, 1, 2, 4, 5, 6] [15])
 (.block 0 (.loop (.seq (.seq (.region none (.op (some 19) none (.q (.mov (.t 5)))
  (.op (some 20) none (.q (.bin .geq (.t 19) (.c (.one (.p (.int .i64 0))))))
  .nil)) [0, 1, 2, 4, 5, 6, 20] [15])
 (.cond (.t 20) .skip
 (.exit 0)))
 (.seq (.block 1 (.seq (.seq (.region none (.op (some 23) none (.q (.load 1 false (.t 2)))
  (.op (some 24) none (.q (.mov (.t 5)))
  (.op (some 25) none (.q (.iaddr 1 (.t 23) (.t 24)))
  (.op (some 26) none (.q (.load 1 false (.t 25)))
  (.op (some 27) none (.q (.bin .gtr (.t 26) (.c (.one (.p (.int .i64 1))))))
  .nil))))) [0, 1, 2, 4, 5, 6, 27] [15])
 (.cond (.t 27) (.region none (.op (some 28) none (.q (.mov (.t 4)))
  (.op (some 29) none (.q (.load 1 false (.t 1)))
  (.op (some 30) none (.q (.len (.t 29)))
  (.op (some 31) none (.q (.load 1 false (.t 2)))
  (.op (some 32) none (.q (.len (.t 31)))
  (.op (some 33) none (.q (.bin .sub (.t 30) (.t 32)))
  (.op (some 34) none (.q (.mov (.t 5)))
  (.op (some 35) none (.q (.bin .add (.t 33) (.t 34)))
  (.op (some 36) none (.q (.mov (.t 6)))
  (.op (some 37) none (.q (.iaddr 1 (.t 28) (.t 35)))
  (.op none none (.s (.store 1 (.t 37) (.t 36)))
  .nil))))))))))) [0, 1, 2, 4, 5, 6] [15])
 .skip))
 (.region none (.op (some 38) none (.q (.mov (.t 6)))
  (.op (some 39) none (.q (.load 1 false (.t 2)))
  (.op (some 40) none (.q (.mov (.t 5)))
  (.op (some 41) none (.q (.iaddr 1 (.t 39) (.t 40)))
  (.op (some 42) none (.q (.load 1 false (.t 41)))
  (.op (some 43) none (.q (.bin .mul (.t 38) (.t 42)))
  (.op (some 6) none (.q (.mov (.t 43)))
  .nil))))))) [0, 1, 2, 4, 5, 6] [15])))
 (.region none (.op (some 21) none (.q (.mov (.t 5)))
  (.op (some 22) none (.q (.bin .sub (.t 21) (.c (.one (.p (.int .i64 1))))))
  (.op (some 5) none (.q (.mov (.t 22)))
  .nil))) [0, 1, 2, 4, 5, 6] [15]))))))
 (.seq (.region none (.op (some 44) none (.q (.load 1 false (.t 1)))
  (.op (some 45) none (.call (.c (.one (.p (.fn fi_shape_Size [] [])))) [(.t 44)])
  (.op (some 46) none (.q (.mov (.c (.one (.p (.int .i64 0))))))
  .nil))) [0, 1, 4, 45, 46] [15])
 (.block 2 (.loop (.seq (.region none (.op (some 47) none (.q (.bin .lss (.t 46) (.t 45)))
  .nil) [0, 1, 4, 45, 46, 47] [15])
 (.seq (.cond (.t 47) .skip
 (.exit 2))
 (.seq (.block 3 (.seq (.region none (.op (some 48) none (.q (.mov (.t 46)))
  (.op (some 7) none (.q (.mov (.t 48)))
  .nil)) [0, 1, 4, 7, 45, 46] [15])
 (.seq (.region none (.op (some 50) none (.q (.load 1 false (.t 1)))
  (.op (some 51) none (.q (.mov (.t 7)))
  (.op (some 52) none (.call (.c (.one (.p (.fn fi_shape_Index [] [])))) [(.t 50), (.t 51)])
  (.op (some 49) none (.q (.mov (.t 52)))
  (.op (some 53) none (.q (.extr (.t 49) 0))
  (.op (some 54) none (.q (.extr (.t 49) 1))
  (.op (some 8) none (.q (.mov (.t 53)))
  (.op (some 9) none (.q (.mov (.t 54)))
  .nil)))))))) [0, 1, 4, 7, 8, 45, 46] [15])
 (.seq (.region none (.op (some 10) none (.q (.mov (.c (.one (.p (.int .i64 0))))))
  .nil) [0, 1, 4, 7, 8, 10, 45, 46] [15])
 (.seq (.seq (.region none (.op (some 55) none (.q (.mov (.t 8)))
  (.op (some 56) none (.q (.len (.t 55)))
  (.op (some 57) none (.q (.mov (.c (.one (.p (.int .i64 0))))))
  .nil))) [0, 1, 4, 7, 10, 45, 46, 55, 56, 57] [15])
 (.block 4 (.loop (.seq (.region none (.op (some 58) none (.q (.bin .lss (.t 57) (.t 56)))
  .nil) [0, 1, 4, 7, 10, 45, 46, 55, 56, 57, 58] [15])
 (.seq (.cond (.t 58) .skip
 (.exit 4))
 (.seq (.block 5 (.seq (.region none (.op (some 59) none (.q (.mov (.t 57)))
  (.op (some 60) none (.q (.iaddr 1 (.t 55) (.t 57)))
  (.op (some 61) none (.q (.load 1 false (.t 60)))
  (.op (some 11) none (.q (.mov (.t 59)))
  (.op (some 12) none (.q (.mov (.t 61)))
  .nil))))) [0, 1, 4, 7, 10, 11, 12, 45, 46, 55, 56, 57] [15])
 (.region none (.op (some 62) none (.q (.mov (.t 10)))
  (.op (some 63) none (.q (.mov (.t 12)))
  (.op (some 64) none (.q (.mov (.t 4)))
  (.op (some 65) none (.q (.mov (.t 11)))
  (.op (some 66) none (.q (.iaddr 1 (.t 64) (.t 65)))
  (.op (some 67) none (.q (.load 1 false (.t 66)))
  (.op (some 68) none (.q (.bin .mul (.t 63) (.t 67)))
  (.op (some 69) none (.q (.bin .add (.t 62) (.t 68)))
  (.op (some 10) none (.q (.mov (.t 69)))
  .nil))))))))) [0, 1, 4, 7, 10, 45, 46, 55, 56, 57] [15])))
 (.region none (.op (some 70) none (.q (.bin .add (.t 57) (.c (.one (.p (.int .i64 1))))))
  (.op (some 57) none (.q (.mov (.t 70)))
  .nil)) [0, 1, 4, 7, 10, 45, 46, 55, 56, 57] [15])))))))
 (.seq (.region none (.op (some 71) none (.q (.mov (.t 0)))
  (.op (some 72) none (.q (.mov (.t 7)))
  (.op (some 73) none (.q (.mov (.t 10)))
  (.op (some 74) none (.call (.t 71) [(.t 72), (.t 73)])
  (.op (some 75) none (.q (.un .not (.t 74)))
  .nil))))) [0, 1, 4, 45, 46, 75] [15])
 (.cond (.t 75) .ret
 .skip)))))))
 (.region none (.op (some 76) none (.q (.bin .add (.t 46) (.c (.one (.p (.int .i64 1))))))
  (.op (some 46) none (.q (.mov (.t 76)))
  .nil)) [0, 1, 4, 45, 46] [15])))))))))
theorem is_tensor_from_1 : compC Try.prog (Try.f136.body.getD .skip) = some a_tensor_from_1.erase := by kernel_rfl
theorem ok_tensor_from_1 : a_tensor_from_1.ok 77 = true := by kernel_rfl
theorem rv_tensor_from_1 : compRV Try.prog Try.f136.results.toList = some [] := by kernel_rfl
theorem call_tensor_from_1 (args : Array Value) (w : World) : (callFunc fi_tensor_from_1 args).run Try.prog w = .ok (.enter fi_tensor_from_1 args) w := Try.call136 args w
theorem func_tensor_from_1 : Try.prog.funcs[fi_tensor_from_1]? = some Try.f136 := Try.func136
def a_shape_Index : ACode := (.seq (.region none (.op (some 4) none (.q (.mov (.c (.one .nils))))
  (.op (some 5) none (.q (.mov (.c (.one (.p (.int .i64 0))))))
  .nil)) [0, 1] [])
 (.seq (.seq (.region none (.op (some 9) none (.q (.mov (.t 1)))
  (.op (some 10) none (.q (.bin .lss (.t 9) (.c (.one (.p (.int .i64 0))))))
  (.op (some 11) none (.q (.mov (.t 10)))
  (.sc 16 11 false 15 none
  (.op (some 12) (some (11, false)) (.q (.mov (.t 1)))
  (.op (some 13) (some (11, false)) (.q (.mov (.t 0)))
  (.op (some 14) (some (11, false)) (.call (.c (.one (.p (.fn fi_shape_Size [] [])))) [(.t 13)])
  (.op (some 15) (some (11, false)) (.q (.bin .geq (.t 12) (.t 14)))
  .nil))))
  .nil)))) [0, 1, 16] [])
 (.cond (.t 16) (.seq (.region none (.op (some 4) none (.q (.mov (.c (.one .nils))))
  (.op (some 5) none (.q (.mov (.c (.one (.p (.int .i64 20))))))
  .nil)) [4, 5] [])
 .ret)
 .skip))
 (.seq (.region none (.op (some 17) none (.q (.mov (.t 0)))
  (.op (some 18) none (.q (.len (.t 17)))
  (.op (some 19) none (.n (.mkS 1 8 [(.int .i64 0)] (.t 18) (.t 18)))
  (.op (some 6) none (.q (.mov (.t 19)))
  .nil)))) [0, 1, 6] [19])
 (.seq (.seq (.region none (.op (some 20) none (.q (.mov (.t 0)))
  (.op (some 21) none (.q (.len (.t 20)))
  (.op (some 22) none (.q (.mov (.c (.one (.p (.int .i64 0))))))
  .nil))) [0, 1, 6, 21, 22] [19])
 (.block 0 (.loop (.seq (.region none (.op (some 23) none (.q (.bin .lss (.t 22) (.t 21)))
  .nil) [0, 1, 6, 21, 22, 23] [19])
 (.seq (.cond (.t 23) .skip
 (.exit 0))
 (.seq (.block 1 (.seq (.region none (.op (some 24) none (.q (.mov (.t 22)))
  (.op (some 7) none (.q (.mov (.t 24)))
  .nil)) [0, 1, 6, 7, 21, 22] [19])
 (.seq (.region none (.op (some 25) none (.q (.mov (.t 0)))
  (.op (some 26) none (.q (.len (.t 25)))
  (.op (some 27) none (.q (.bin .sub (.t 26) (.c (.one (.p (.int .i64 1))))))
  (.op (some 28) none (.q (.mov (.t 7)))
  (.op (some 29) none (.q (.bin .sub (.t 27) (.t 28)))
  (.op (some 8) none (.q (.mov (.t 29)))
  .nil)))))) [0, 1, 6, 8, 21, 22] [19])
 (.region (some [[], [0], [0, 1], [0, 1, 2], [0, 1, 2, 3], [0, 1, 2], [0, 1, 2], [0, 1], [0, 1, 2, 3, 4, 5, 6, 7], [0, 1, 2, 3, 4, 5, 6, 7, 8], [0, 1, 2, 3, 4, 5, 6, 7, 8, 9], [0, 1, 2, 3, 4, 5, 6, 7, 8], [0, 1, 2, 3, 4, 5, 6, 7, 8], [0, 1, 2, 3, 4, 5, 6, 7], [8, 13], [8, 13], []]) (.op (some 30) none (.q (.mov (.t 6)))
  (.op (some 31) none (.q (.mov (.t 8)))
  (.op (some 32) none (.q (.mov (.t 1)))
  (.op (some 33) none (.q (.mov (.t 0)))
  (.op (some 34) none (.q (.mov (.t 8)))
  (.op (some 35) none (.q (.iaddr 1 (.t 33) (.t 34)))
  (.op (some 36) none (.q (.load 1 false (.t 35)))
  (.op (some 37) none (.q (.bin .rem (.t 32) (.t 36)))
  (.op (some 38) none (.q (.mov (.t 1)))
  (.op (some 39) none (.q (.mov (.t 0)))
  (.op (some 40) none (.q (.mov (.t 8)))
  (.op (some 41) none (.q (.iaddr 1 (.t 39) (.t 40)))
  (.op (some 42) none (.q (.load 1 false (.t 41)))
  (.op (some 43) none (.q (.bin .quo (.t 38) (.t 42)))
  (.op (some 44) none (.q (.iaddr 1 (.t 30) (.t 31)))
  (.op none none (.s (.store 1 (.t 44) (.t 37)))
  (.op (some 1) none (.q (.mov (.t 43)))
  .nil))))))))))))))))) [0, 1, 6, 21, 22] [19]))))
 (.region none (.op (some 45) none (.q (.bin .add (.t 22) (.c (.one (.p (.int .i64 1))))))
  (.op (some 22) none (.q (.mov (.t 45)))
  .nil)) [0, 1, 6, 21, 22] [19])))))))
 (.seq (.region none (.op (some 46) none (.q (.mov (.t 6)))
  (.op (some 4) none (.q (.mov (.t 46)))
  (.op (some 5) none (.q (.mov (.c (.one (.p (.int .i64 0))))))
  .nil))) [4, 5] [19])
 .ret)))))
theorem is_shape_Index : compC Try.prog (Try.f137.body.getD .skip) = some a_shape_Index.erase := by kernel_rfl
theorem ok_shape_Index : a_shape_Index.ok 47 = true := by kernel_rfl
theorem rv_shape_Index : compRV Try.prog Try.f137.results.toList = some [.tmp 4, .tmp 5] := by kernel_rfl
theorem pure_shape_Index {ds : List DV} {r : DV} (hn : ds.length ≤ 47) (h : ∀ (G : AM.Ground), G.P = Try.prog → G.nt = 47 → T G Fence.wide 0 a_shape_Index (AM.Ends [.tmp 4, .tmp 5] r) { env := initE 0 ds, σ := [] }) : PureC Try.prog fi_shape_Index ds r :=
  pureC_of Try.call137 Try.func137 (by rfl) is_shape_Index ok_shape_Index rv_shape_Index hn h

end Go.AM

namespace Go.AM
open Go.RowKit (Below)
set_option linter.unusedSimpArgs false
set_option linter.unusedVariables false

theorem obj_not {M A : Nat → Prop} {τ : Tau} {w : World} {t b : Nat} {o : AO} {x : Obj} (h : ORel M A τ w t o) (hn : o ≠ .none) (hb : τ t = some b) (hx : w.heap[b]? = some x) : (∃ cs e, x = .cells cs e (0, 0)) ∨ ∃ ces c, x = .map ces c := by
  cases o with
  | none => exact absurd rfl hn
  | cells m cs =>
    obtain ⟨b', xs, e, h1, h2, _⟩ := h
    rw [hb] at h1; cases h1; rw [hx] at h2; cases h2
    exact .inl ⟨_, _, rfl⟩
  | arr m s rows =>
    obtain ⟨_, _, ⟨h1, _⟩ | ⟨b', xs, e, h1, h2, _⟩⟩ := h
    · rw [hb] at h1; cases h1
    · rw [hb] at h1; cases h1; rw [hx] at h2; cases h2
      exact .inl ⟨_, _, rfl⟩
  | map m es =>
    obtain ⟨b', ces, c, h1, h2, _⟩ := h
    rw [hb] at h1; cases h1; rw [hx] at h2; cases h2
    exact .inr ⟨_, _, rfl⟩

theorem ow_not {M A : Nat → Prop} {τ : Tau} {w : World} {σ : Sto} {l : Nat} {x : Obj} (h : ∀ t, ORel M A τ w t (lo σ t)) (hx : w.heap[l]? = some x) (h1 : ∀ cs e, x ≠ .cells cs e (0, 0)) (h2 : ∀ ces c, x ≠ .map ces c) : ¬ owOf σ τ l := by
  rintro ⟨t, hm, hb⟩
  rcases obj_not (h t) (fun e => by rw [e] at hm; cases hm) hb hx with ⟨cs, e, rfl⟩ | ⟨ces, c, rfl⟩
  · exact h1 _ _ rfl
  · exact h2 _ _ rfl

theorem WStep.loop {w : World} {l : Nat} {R R' : Loop} (h : w.heap[l]? = some (.loop R)) : WStep (· = l) w (w.putObj l (.loop R')) := by
  refine ⟨rfl, rfl, rfl, by simp [World.putObj], fun b _ hb => World.putObj_heap_other hb, fun b cs e hb => ⟨cs, ?_, rfl⟩⟩
  rw [World.putObj_heap_other (fun e' => by subst e'; rw [h] at hb; cases hb)]
  exact hb

theorem KeepD.loop {w : World} {l : Nat} {R R' : Loop} (h : w.heap[l]? = some (.loop R)) : KeepD w (w.putObj l (.loop R')) := fun b ds hb => by
  rw [World.putObj_heap_other (fun e' => by subst e'; rw [h] at hb; cases hb)]; exact hb

section
variable {G : Ground} {F : Fence} {n : Nat} {Q : Exit → AS → Prop} {s : AS}

theorem T_steps (hF : FOk F) {t : TOps} {k ids : List Nat} {S : AS} (h : Steps G.P G t.flat s S) (hq : Q .normal S) : T G F n (.region none t k ids) Q s := by
  refine ⟨fun code hc => ?_⟩
  intro hok a w hs
  obtain ⟨id, ops, l, rfl, hz, hfl⟩ := inv_region hc
  have hl := flatT_inj hfl
  subst hl
  refine wpIn_region ?_
  have := steps_ops (F := F) (n := n) (Q := fun e a w => ∃ s', Q e s' ∧ SimS G s' a w) hF h 0 ops.toList hz (fun i o hi => by simpa using hi) (fun a w hs' => ⟨_, hq, hs'⟩) a w hs
  rw [compR_len hz] at this
  simpa [List.range_eq_range'] using this

theorem Steps.q {d : Option Nat} {q : QOp} {v : AV} {l : List FOp} {S : AS} (hd : ∀ t, d = some t → t < G.nt) (h : evQ q s.env s.σ = some v) (t : Steps G.P G l (putd d v s) S) : Steps G.P G (⟨d, none, .q q⟩ :: l) s S :=
  .cons (.run rfl hd (.q h)) t

theorem SimAt.reput {a : Act} {w : World} {A : Nat → Prop} {τ : Tau} {l : Nat} {R R' : Loop} (h : SimAt G s a w A τ) (hl : l < G.N) (hno : ¬ G.ow l) (hA : ¬ A l) (ho : w.heap[l]? = some (.loop R)) :
    SimAt { G with w0 := G.w0.putObj l (.loop R') } s a (w.putObj l (.loop R')) A τ := by
  have hw := WStep.loop (R' := R') ho
  have hst : Still A w (w.putObj l (.loop R')) := hw.still h.alt (fun b hb e => hA (e ▸ hb))
  have hN : ({ G with w0 := G.w0.putObj l (.loop R') } : Ground).N = G.N := by simp [Ground.N, World.putObj]
  have hM : ∀ b, G.M b → ({ G with w0 := G.w0.putObj l (.loop R') } : Ground).M b := fun b hb => hb.imp (fun h => by rw [hN]; exact h) id
  have hMe : ({ G with w0 := G.w0.putObj l (.loop R') } : Ground).M = G.M := by
    funext b; simp only [Ground.M, hN]
  refine ⟨⟨h.below.os, h.below.tape, h.below.output, ?_, fun k hk hn => ?_⟩, h.a0, fun b hb => (h.a1 b hb).imp id (hM b), fun b hb => Nat.lt_of_lt_of_le (h.alt b hb) hw.size, h.size, fun i => (h.env i).step hw (fun _ hb => hb) hst (fun _ _ => rfl),
    fun t => ?_, h.sep, h.ex.mono fun _ _ hv => hv.step hw (fun _ hb => hb) hst (fun _ _ => rfl), ?_⟩
  · rw [hN]; exact Nat.le_trans h.below.size hw.size
  · rw [hN] at hk
    show (w.putObj l (.loop R')).heap[k]? = (G.w0.putObj l (.loop R')).heap[k]?
    by_cases hkl : k = l
    · subst hkl
      rw [World.putObj_heap_same (heap_lt ho), World.putObj_heap_same hk]
    · rw [World.putObj_heap_other hkl, World.putObj_heap_other hkl]
      exact h.below.block k hk hn
  · rw [hMe]
    refine (h.obj t).step hw (fun _ hb => hb) hst (fun _ hb => .inl hb) (fun b hne hb hlt => hw.same b hlt fun e => ?_) rfl (fun _ _ => rfl)
    subst e
    rcases obj_not (h.obj t) hne hb ho with ⟨_, _, h⟩ | ⟨_, _, h⟩ <;> cases h
  · rw [hN]
    exact h.marks.step (KeepD.loop ho) (fun _ hb => .inl hb)

def putE : List Nat → List AV → Env → Env
  | p :: ps, v :: vs, e => putE ps vs ((p, v) :: e)
  | _, _, e => e

theorem put_rel {A : Nat → Prop} {τ : Tau} {w : World} : ∀ {ps : List Nat} {vs : List AV} {xs : List Value} {e : Env} {tmps : Array Value}, All2 (VRel A τ w) vs xs → (∀ i, VRel A τ w (lk e i) (tmps.getD i undef)) → ps.all (· < tmps.size) = true →
    (∀ i, VRel A τ w (lk (putE ps vs e) i) (((ps.zip xs).foldl (fun t (p, v) => t.setIfInBounds p v) tmps).getD i undef)) ∧ ((ps.zip xs).foldl (fun t (p, v) => t.setIfInBounds p v) tmps).size = tmps.size
  | [], _, _, e, tmps, _, h, _ => ⟨by simpa [putE] using h, by simp⟩
  | p :: ps, _, _, e, tmps, .nil, h, _ => ⟨by simpa [putE] using h, by simp⟩
  | p :: ps, _, _, e, tmps, .cons (a := v) (b := x) hv ht, h, hp => by
    simp only [List.all_cons, Bool.and_eq_true, decide_eq_true_eq] at hp
    have := put_rel (ps := ps) (e := (p, v) :: e) (tmps := tmps.setIfInBounds p x) ht (fun i => by
      rw [lk_put]
      by_cases hi : i = p
      · subst hi
        rw [if_pos rfl]
        have : (tmps.setIfInBounds i x).getD i undef = x := by simp [Array.getD_eq_getD_getElem?, hp.1]
        rw [this]; exact hv
      · rw [if_neg hi]
        have : (tmps.setIfInBounds p x).getD i undef = tmps.getD i undef := by
          simp [Array.getD_eq_getD_getElem?, Array.getElem?_setIfInBounds_ne (Ne.symm hi)]
        rw [this]; exact h i) (by simpa using hp.2)
    simpa [putE] using this

/-- what the assignments ahead of a round come to -/
structure AsgEnd (K : AS → Prop) (e : Exit) (s : AS) : Prop where
  norm : e = .normal
  k : K s

/-- what a round comes to -/
structure RoundEnd (σ' : Sto) (ex : List AV) (e : Exit) (s : AS) : Prop where
  norm : e = .normal
  sto : ∀ p ∈ σ', lo s.σ p.1 = p.2
  ex : s.ex = ex

/-- how the objects come along with the rounds -/
structure Fam (σ : Nat → Sto) (fr : List Nat) : Prop where
  once : ∀ k, ∀ p ∈ σ k, lo (σ k) p.1 = p.2
  keys : ∀ k t, lo (σ k) t ≠ .none → t ∈ (σ (k + 1)).map (·.1)
  out : ∀ k d, d ∈ fr → lo (σ k) d = .none ∨ d ∈ (σ (k + 1)).map (·.1)
  obj : ∀ k t d, d ∈ fr → t ∉ (σ (k + 1)).map (·.1) → (lo (σ k) t).nr d = true

/-- a function that goes through these, and lets go on with each -/
structure SeqC (P : Program) (f : FuncId) (caps : List PV) (xs : List (List DV)) : Prop where
  enters : ∀ args w, (callFunc f args).run P w = .ok (.enter f args) w
  calls : ∀ (R : Loop) (l : Nat) (σ : Nat → Sto) (fr : List Nat) (cA : List AV) (cV : List Value),
    (∀ k x, xs[k]? = some x → YieldC P R l (x.map DV.av) (σ k) (σ (k + 1)) fr cA cV) → Fam σ fr →
    ∀ (A : Nat → Prop) (τ : Tau) (w : World) (vb : List Value) (ex : List AV) (exs : List Value), (∀ b, A b → b < w.heap.size) → PRels A w caps vb → All2 (VRel A τ w) (cA ++ ex) (cV ++ exs) →
    (∀ d ∈ fr, ∀ v ∈ cA ++ ex, v.has d = false) → (∀ t, ORel (fun _ => True) A τ w t (lo (σ 0) t)) → SepS (σ 0) τ → w.heap[l]? = some (.loop R) → ¬ A l →
    Calls P f ⟨Value.func (.yield l) #[] #[] :: vb⟩ w fun e w' => ∃ x A' τ', e = .returned x ∧ Frame A (owOf (σ 0) τ) w w' A' ∧ (∀ t, ORel (fun b => w.heap.size ≤ b ∨ owOf (σ 0) τ b) A' τ' w' t (lo (σ xs.length) t)) ∧
      SepS (σ xs.length) τ' ∧ All2 (VRel A' τ' w') (cA ++ ex) (cV ++ exs)

theorem inv_range {P : Program} {code : Code} {f : Opd} {ps : List Nat} {x y : ACode} (h : compC P code = some (.range f ps x y)) :
    ∃ fo pa cx cy, code = .rangeFunc fo pa cx cy ∧ opd fo = some f ∧ pa.toList = ps ∧ compC P cx = some x ∧ compC P cy = some y := by
  cases code <;> simp [compC, Option.bind_eq_some_iff, Option.map_eq_some_iff] at h
  obtain ⟨f', h1, x', h2, y', h3, rfl, rfl, rfl, rfl⟩ := h
  exact ⟨_, _, _, _, rfl, h1, rfl, h2, h3⟩

/-- one round -/
theorem yield_of {a : Act} {fn : FuncId} {pa : Array Tmp} {ps : List Nat} {cx cy : Code} {x y : ACode} {D : Nat} {l : Nat} {vs : List AV} {σ σ' : Sto} {fr : List Nat} {env : Env} {P : Program} {nt : Nat}
    (hpa : pa.toList = ps) (hps : ps.all (· < nt) = true) (hlen : vs.length = ps.length) (hcx : compC P cx = some x.erase) (hcy : compC P cy = some y.erase) (hokx : x.ok nt = true) (hoky : y.ok nt = true) (hnt : a.tmps.size = nt)
    (round : ∀ (F : Fence) (n : Nat) (G' G'' : Ground) (ex : List AV), FOk F → G'.P = P → G'.nt = nt → G''.P = P → G''.nt = nt → (∀ d ∈ fr, ex.all (fun v => !v.has d) = true) →
      T G' F n x (AsgEnd fun s1 => T G'' F n y (RoundEnd σ' ex) s1) { env := putE ps vs env, σ := σ, ex := ex }) :
    YieldC P { state := .ready, pending := none, fn := fn, tmps := a.tmps, params := pa, assign := cx, body := cy, defers := D } l vs σ σ' fr (env.map fun p => lk env p.1) (env.map fun p => a.tmps.getD p.1 undef) := by
  intro F n A τ w xs ex exs hF hA hx he hfr ho hs hl hAl
  have hF' : FOk (F.inRound l) := by
    rcases hF with rfl | ⟨l', rfl⟩
    · exact .inr ⟨l, rfl⟩
    · exact .inr ⟨l, rfl⟩
  have hxl := hx.length
  have hpl : pa.size = ps.length := by rw [← hpa]; simp
  refine ⟨fn, _, cx, cy, run_yield hl (by simp; omega), roundIn_of_wpIn (hF.fn fn) ?_⟩
  generalize hRd : ({ state := .ready, pending := none, fn := fn, tmps := a.tmps, params := pa, assign := cx, body := cy, defers := D } : Loop) = R at hl
  have hRs : R.state = .ready := by rw [← hRd]
  have hRp : R.pending = none := by rw [← hRd]
  have htm : (pa.zip ⟨xs⟩).foldl (fun tmps (t, a) => tmps.setIfInBounds t a) a.tmps = (ps.zip xs).foldl (fun t (p, v) => t.setIfInBounds p v) a.tmps := by
    rw [← hpa, ← Array.foldl_toList]
    simp
  have henv : ∀ i, VRel A τ w (lk env i) (a.tmps.getD i undef) := by
    intro i
    by_cases hi : i ∈ env.map (·.1)
    · obtain ⟨p, hp, rfl⟩ := List.mem_map.1 hi
      have : All2 (VRel A τ w) (env.map fun p => lk env p.1) (env.map fun p => a.tmps.getD p.1 undef) := by
        have h2 : ∀ {α β : Type} {R : α → β → Prop} {az az' : List α} {b1 b2 : List β}, All2 R (az ++ az') (b1 ++ b2) → az.length = b1.length → All2 R az b1 := by
          intro α β R az
          induction az with
          | nil => intro az' b1 b2 _ hl; cases b1 with | nil => exact .nil | cons => simp at hl
          | cons a az ih =>
            intro az' b1 b2 h hl
            cases b1 with
            | nil => simp at hl
            | cons b b1 => cases h with | cons h t => exact .cons h (ih t (by simpa using hl))
        exact h2 he (by simp)
      exact All2.map_inv this p hp
    · rw [lk_none hi]; exact .v1 (.top _)
  have hput := put_rel (ps := ps) hx henv (by rw [hnt]; exact hps)
  let G : Ground := { P := P, w0 := w, A0 := A, nt := nt, exv := (env.map fun p => a.tmps.getD p.1 undef) ++ exs, ow := owOf σ τ }
  have hno : ¬ G.ow l := ow_not ho hl (fun _ _ h => by cases h) (fun _ _ h => by cases h)
  have hlN : l < G.N := heap_lt hl
  have hs0 : SimAt G { env := putE ps vs env, σ := σ, ex := (env.map fun p => lk env p.1) ++ ex } { tmps := (ps.zip xs).foldl (fun t (p, v) => t.setIfInBounds p v) a.tmps, defers := [] } w A τ := by
    refine ⟨⟨rfl, rfl, rfl, Nat.le_refl _, fun _ _ _ => rfl⟩, fun _ hb => hb, fun _ hb => .inl hb, hA, by rw [hput.2]; exact hnt, hput.1, fun t => ?_, hs, he, trivial⟩
    exact (ho t).monoM fun b hm hb _ => .inr ⟨t, hm, hb⟩
  let G2 : Ground := { G with w0 := G.w0.putObj l (.loop { R with state := .busy }) }
  have hr := round (F.inRound l) n G G2 ((env.map fun p => lk env p.1) ++ ex) hF' rfl rfl rfl rfl (fun d hd => by
    rw [List.all_eq_true]; intro v hv; simp [hfr d hd v hv])
  have ht : ({ tmps := (R.params.zip ⟨xs⟩).foldl (fun tmps (t, a) => tmps.setIfInBounds t a) R.tmps, defers := [] } : Act) = { tmps := (ps.zip xs).foldl (fun t (p, v) => t.setIfInBounds p v) a.tmps, defers := [] } := by
    rw [show R.params = pa from by rw [← hRd], show R.tmps = a.tmps from by rw [← hRd], htm]
  rw [ht]
  have notA : ∀ {G : Ground} {s : AS} {a : Act} {w : World} {A1 : Nat → Prop} {τ1 : Tau}, SimAt G s a w A1 τ1 → l < G.N → ¬ G.ow l → ¬ G.A0 l → ¬ A1 l := by
    intro G s a w A1 τ1 hs h1 h2 h3 h
    rcases hs.a1 l h with h4 | h4 | h4
    · exact h3 h4
    · omega
    · exact h2 h4
  refine wpIn_mono (hr.of cx hcx hokx _ _ ⟨A, τ, hs0⟩) ?_
  rintro e a1 w1 ⟨s1, ⟨rfl, hbody⟩, A1, τ1, hs1⟩
  have hl1 : w1.heap[l]? = some (.loop R) := (hs1.below.block l hlN hno).trans hl
  have hA1 := notA hs1 hlN hno hAl
  refine ⟨_, run_beginRound hl1 hRs, ?_⟩
  have hs2 := hs1.reput (R' := { R with state := .busy }) hlN hno hA1 hl1
  refine wpIn_mono (hbody.of cy hcy hoky _ _ ⟨A1, τ1, hs2⟩) ?_
  rintro e a3 w3 ⟨s3, ⟨rfl, hsto, hex3⟩, A3, τ3, hs3⟩
  have hN2 : G2.N = G.N := by simp [G2, Ground.N, World.putObj]
  have hl2 : G2.w0.heap[l]? = some (.loop { R with state := .busy }) := World.putObj_heap_same hlN
  have hl3 : w3.heap[l]? = some (.loop { R with state := .busy }) := (hs3.below.block l (by rw [hN2]; exact hlN) hno).trans hl2
  have hA3 := notA hs3 (by rw [hN2]; exact hlN) hno hAl
  have hs4 := hs3.reput (R' := R) (by rw [hN2]; exact hlN) hno hA3 hl3
  have hend := run_endRound (P := P) none hl3
  have hRR : ({ ({ R with state := .busy } : Loop) with state := if (none : Option Code).isNone then .ready else .done, pending := none } : Loop) = R := by
    cases R; simp only at hRs hRp; subst hRs hRp; rfl
  rw [hRR] at hend
  refine ⟨_, _, hend, .bool true, A3, τ3, rfl, ?_, fun t => ?_, ?_, .v1 (.one (.c0 (.p _ _ (.bool true)))), ?_⟩
  · have hsz : w.heap.size ≤ (w3.putObj l (.loop R)).heap.size := by
      have := hs4.below.size
      simpa [Ground.N, G2, G, World.putObj] using this
    refine ⟨hs4.below.os, hs4.below.tape, hs4.below.output, hsz, fun k hk hn => ?_, hs3.a0, fun b hb => ?_, hs4.alt⟩
    · have := hs4.below.block k (by simpa [Ground.N, G2, G, World.putObj] using hk) hn
      rw [this]
      show ((w.putObj l (.loop { R with state := .busy })).putObj l (.loop R)).heap[k]? = w.heap[k]?
      by_cases hkl : k = l
      · rw [hkl, World.putObj_heap_same (by simpa [World.putObj, Ground.N, G] using hlN), hl]
      · rw [World.putObj_heap_other hkl, World.putObj_heap_other hkl]
    · rcases hs3.a1 b hb with h | h | h
      · exact .inl h
      · rw [hN2] at h; exact .inr (.inr h)
      · exact .inr (.inl h)
  · have hobj := hs4.obj t
    rcases lo_of_mem hsto t with e1 | e1
    · rw [e1]
      refine hobj.monoM fun b _ _ hb => hb.imp (fun h => ?_) id
      simpa [Ground.N, G2, G, World.putObj] using h
    · rw [e1]; trivial
  · intro t t' b n1 n2 hne hmu hb
    rcases lo_of_mem hsto t with e1 | e1
    · rcases lo_of_mem hsto t' with e2 | e2
      · rw [e1] at n1 hmu; rw [e2] at n2
        exact hs4.sep t t' b n1 n2 hne hmu hb
      · exact absurd e2 n2
    · exact absurd e1 n1
  · have := hs4.ex
    rw [hex3] at this
    exact this

/-- A RANGE OVER A FUNCTION. -/
theorem T_range {f : Opd} {ps : List Nat} {x y : ACode} {id : FuncId} {caps : List PV} {xs : List (List DV)} (hf : get s.env f = .one (.p (.fn id [] caps))) (hseq : SeqC G.P id caps xs) (σ : Nat → Sto) (fr : List Nat)
    (hps : ps.all (· < G.nt) = true) (hlen : ∀ x ∈ xs, x.length = ps.length) (h0 : ∀ t, lo (σ 0) t = lo s.σ t ∨ lo (σ 0) t = .none) (fam : Fam σ fr) (hk : ∀ t, lo (σ 0) t ≠ .none → t ∈ (σ xs.length).map (·.1)) (hfr : ∀ d ∈ fr, FrOk s (σ xs.length) d)
    (round : ∀ k v, xs[k]? = some v → ∀ (F : Fence) (n : Nat) (G' G'' : Ground) (ex : List AV), FOk F → G'.P = G.P → G'.nt = G.nt → G''.P = G.P → G''.nt = G.nt → (∀ d ∈ fr, ex.all (fun v => !v.has d) = true) →
      T G' F n x (AsgEnd fun s1 => T G'' F n y (RoundEnd (σ (k + 1)) ex) s1) { env := putE ps (v.map DV.av) s.env, σ := σ k, ex := ex })
    (done : Q .normal { s with σ := σ xs.length ++ s.σ }) : T G Fence.wide n (.range f ps x y) Q s := by
  refine ⟨fun code hc => ?_⟩
  intro hok a w hs
  obtain ⟨fo, pa, cx, cy, rfl, hfo, hpa, hcx, hcy⟩ := inv_range hc
  simp only [ACode.ok, Bool.and_eq_true] at hok
  obtain ⟨A, τ, hs⟩ := hs
  have hfv := opd_sound hs hfo
  rw [hf] at hfv
  have hfv := p_inv hfv
  generalize hz : a.eval fo = z at hfv
  cases hfv with
  | fn _ _ _ vf vc hp1 hp2 =>
  cases hp1
  refine wpIn_rangeFunc fun fn _ => ?_
  obtain ⟨R, hR⟩ : ∃ R : Loop, R = { state := .ready, pending := none, fn := fn, tmps := a.tmps, params := pa, assign := cx, body := cy, defers := w.heap.size } := ⟨_, rfl⟩
  obtain ⟨w1, hw1⟩ : ∃ w1, w1 = (w.alloc (.deferred (some []))).alloc (.loop R) := ⟨_, rfl⟩
  have ws : WStep (fun _ => False) w w1 := by
    rw [hw1]
    exact ((WStep.push w _).trans (WStep.push _ _)).weak fun _ h => h.elim (fun h => h) (fun h => h)
  have hs1 : SimAt G s a w1 A τ := hs.world ws (fun _ hb => hb) (fun _ hb => .inl hb) (fun _ hf => hf.elim) (fun _ _ _ _ hf => hf) ws.dfr0
  have hl : w1.heap[w.heap.size + 1]? = some (.loop R) := by
    rw [hw1]; have := World.alloc_heap_new (w.alloc (.deferred (some []))) (.loop R); rwa [World.size_alloc] at this
  have hD : w1.heap[w.heap.size]? = some (.deferred (some [])) := by
    rw [hw1]; exact (Below.heap_alloc _ _ _ (by simp)).trans (World.alloc_heap_new w _)
  have hAl : ¬ A (w.heap.size + 1) := fun h => by have := hs.alt _ h; omega
  have hAD : ¬ A w.heap.size := fun h => by have := hs.alt _ h; omega
  have hrun := callC_run (C := fun R' => Calls G.P id ⟨Value.func (.yield (w.heap.size + 1)) #[] #[] :: vc⟩ w1 R') (r := .top) (fr := fr) (σ0 := σ 0) (σ1 := σ xs.length) (fun h k => h.mono k)
    (fun ex exs h1 h2 h3 h4 => by
      have r1 : All2 (VRel A τ w1) (s.env.map fun p => lk s.env p.1) (s.env.map fun p => a.tmps.getD p.1 undef) := All2.map fun p _ => hs1.env p.1
      have := hseq.calls R (w.heap.size + 1) σ fr _ _ (fun k v hv => by
          rw [hR]
          exact yield_of (a := a) (fn := fn) (cx := cx) (cy := cy) (D := w.heap.size) hpa hps (by simpa using hlen v (List.mem_of_getElem? hv)) hcx hcy hok.1 hok.2 hs.size (round k v hv)) fam
        A τ w1 vc (s.ex ++ ex) (G.exv ++ exs) hs1.alt (hp2.mono (fun _ hb => hb) (ws.still hs.alt fun _ _ h => h)) (r1.append h1) (fun d hd v hv => by
          rcases List.mem_append.1 hv with hv | hv
          · obtain ⟨p, _, rfl⟩ := List.mem_map.1 hv
            exact (hfr d hd).env p.1
          · exact h2 d hd v hv) h3 h4 hl hAl
      refine this.mono ?_
      rintro e w' ⟨x, A', τ', rfl, q1, q2, q3, q4⟩
      exact ⟨x, A', τ', rfl, q1, q2, q3, .v1 (.top _), (q4.split2 r1).2⟩)
    hs1 h0 hk hfr
  refine ⟨w.heap.size + 1, [{ target := .collected w.heap.size, args := #[] }], w1, { target := .fn (.func id) ⟨vc⟩, args := #[.func (.yield (w.heap.size + 1)) #[] #[]] }, w1, id,
    ⟨Value.func (.yield (w.heap.size + 1)) #[] #[] :: vc⟩, w1, ?_, ?_, ?_, ?_, (fun h => by cases h), ?_⟩
  · rw [hw1, hR]; exact run_enterLoop_outer _ _ _ _ _
  · simp only [resolve, hz]
    simp [go_sem]
  · intro f' hf'; trivial
  · simp only [invoke, hseq.enters]
    congr 2
    apply Array.ext'; simp
  · refine callsIn_wide.2 (hrun.mono ?_)
    rintro e w2 ⟨v, A2, τ2, rfl, fr2, hs2, _⟩
    have hob : ∀ t, ORel (fun _ => True) A τ w1 t (lo (σ 0) t) := fun t => by
      rcases h0 t with h | h
      · rw [h]; exact (hs1.obj t).monoM fun _ _ _ _ => trivial
      · rw [h]; trivial
    have hol : ¬ owOf (σ 0) τ (w.heap.size + 1) := ow_not hob hl (fun _ _ h => by cases h) (fun _ _ h => by cases h)
    have hoD : ¬ owOf (σ 0) τ w.heap.size := ow_not hob hD (fun _ _ h => by cases h) (fun _ _ h => by cases h)
    have hl2 : w2.heap[w.heap.size + 1]? = some (.loop R) := (fr2.block _ (heap_lt hl) hol).trans hl
    have hD2 : w2.heap[w.heap.size]? = some (.deferred (some [])) := (fr2.block _ (heap_lt hD) hoD).trans hD
    have hA2l : ¬ A2 (w.heap.size + 1) := fun h => by
      rcases fr2.new _ h with h | h | h
      · exact hAl h
      · exact hol h
      · have := heap_lt hl; omega
    have hA2D : ¬ A2 w.heap.size := fun h => by
      rcases fr2.new _ h with h | h | h
      · exact hAD h
      · exact hoD h
      · have := heap_lt hD; omega
    have hN : G.N ≤ w.heap.size := hs.below.size
    have hend := run_endLoop (P := G.P) hl2 (by rw [hR]; simp)
    have hpend : R.pending = none := by rw [hR]
    refine ⟨none, _, hend.trans (congrArg (fun j => Result.ok j _) hpend), _, done, A2, τ2, ?_⟩
    have hs3 := hs2.world (WStep.loop (R' := { R with state := .exhausted }) hl2) (fun _ hb => hb) (fun _ hb => .inl hb) (fun b hb => by subst hb; exact ⟨hA2l, .inl (by omega)⟩) (fun t b hne hb e => by
      subst e
      rcases obj_not (hs2.obj t) hne hb hl2 with ⟨_, _, h⟩ | ⟨_, _, h⟩ <;> cases h) (KeepD.loop hl2)
    refine ⟨hs3.below, hs3.a0, hs3.a1, hs3.alt, hs3.size, hs3.env, hs3.obj, hs3.sep, hs3.ex, ?_⟩
    show Marks G.N A2 _ ({ target := .collected w.heap.size, args := #[] } :: a.defers)
    refine ⟨⟨w.heap.size, rfl, hN, hA2D, ?_, fun hm => ?_⟩, hs3.marks⟩
    · rw [World.putObj_heap_other (by omega)]; exact hD2
    · have key : ∀ {ds : List Deferred}, Marks G.N A w ds → ({ target := .collected w.heap.size, args := #[] } : Deferred) ∉ ds := by
        intro ds
        induction ds with
        | nil => intro _ h; cases h
        | cons d ds ih =>
          rintro ⟨⟨r, rfl, _, _, h4, _⟩, ht⟩ h
          rcases List.mem_cons.1 h with h | h
          · simp at h
            have := heap_lt h4; omega
          · exact ih ht h
      exact key hs.marks hm

/-- a round of an iterator: the state ahead, and behind -/
theorem yStep {f : Opd} {az : List Opd} {R : Loop} {l : Nat} {σ : Nat → Sto} {fr : List Nat} {k : Nat} {vs : List AV} {env : Env} {ex : List AV} (fam : Fam σ fr) (hr : G.w0.heap[l]? = some (.loop R)) (hno : ¬ G.ow l) (hA : ¬ G.A0 l)
    (hy : YieldC G.P R l vs (σ k) (σ (k + 1)) fr ex G.exv) (hex : ∀ d ∈ fr, ∀ v ∈ ex, v.has d = false) (hg : get env f = .one (.raw (.func (.yield l) #[] #[]))) (hv : gets env az = vs) (henv : ∀ d i, (lk env i).has d = false) :
    YStep G f az { env := env, σ := σ k, ex := ex } (σ (k + 1)) R l (σ k) fr :=
  ⟨hg, hr, hno, hA, fun _ => .inl rfl, fam.keys k, fun d hd => ⟨henv d, hex d hd, fun t ht => fam.obj k t d hd ht, fam.out k d hd⟩, by rw [hv]; exact hy⟩

theorem Weak.drop {σ1 : Sto} {e : Env} {σ : Sto} {ex : List AV} : Weak G { env := e, σ := σ1 ++ σ, ex := ex } { env := e, σ := σ1, ex := ex } :=
  Weak.sto (s := { env := e, σ := σ1 ++ σ, ex := ex }) fun t => by
    rw [lo_app]
    split
    · exact .inl rfl
    · rename_i h; exact .inr (lo_none h)

theorem seqC_of {P : Program} {f : FuncId} {fn : Func} {c : Code} {ac : ACode} {caps : List PV} {xs : List (List DV)}
    (henter : ∀ args w, (callFunc f args).run P w = .ok (.enter f args) w) (hf : P.funcs[f]? = some fn) (hb : fn.body = some c) (hc : compC P c = some ac.erase) (hok : ac.ok fn.ntmps = true)
    (hr : compRV P fn.results.toList = some []) (hn : caps.length + 1 ≤ fn.ntmps)
    (h : ∀ (R : Loop) (l : Nat) (σ : Nat → Sto) (fr : List Nat) (G : Ground) (ex : List AV), G.P = P → G.nt = fn.ntmps → G.w0.heap[l]? = some (.loop R) → ¬ G.ow l → ¬ G.A0 l → Fam σ fr → (∀ d ∈ fr, ∀ v ∈ ex, v.has d = false) →
      (∀ k x, xs[k]? = some x → YieldC G.P R l (x.map DV.av) (σ k) (σ (k + 1)) fr ex G.exv) →
      T G Fence.wide 0 ac (fun e s => (e = .normal ∨ e = .ret) ∧ s.σ = σ xs.length ∧ s.ex = ex) { env := initV 0 (.one (.raw (.func (.yield l) #[] #[])) :: caps.map fun v => .one (.p v)), σ := σ 0, ex := ex }) : SeqC P f caps xs := by
  refine ⟨henter, fun R l σ fr cA cV hy fam A τ w vb ex exs hA hcaps hex hfr hob hsp hl hAl => ?_⟩
  have hvs : All2 (VRel A τ w) (.one (.raw (.func (.yield l) #[] #[])) :: caps.map fun v => .one (.p v)) (.func (.yield l) #[] #[] :: vb) :=
    .cons (.v1 (.one (.c0 (.raw _ rfl)))) ((PRels.all2.1 hcaps).mapL fun v x hr => .v1 (.one (.c0 (.p _ _ hr))))
  have hrun := mutW_of (r := .tup []) (σ' := σ xs.length) hf hb hc hok hr (by simpa using hn) hA hvs hex hob hsp (T_mono
    (h R l σ fr _ (cA ++ ex) rfl rfl hl (ow_not hob hl (fun _ _ h => by cases h) (fun _ _ h => by cases h)) hAl fam hfr (fun k x hx => (hy k x hx).more ex exs)) fun e s' ⟨h1, h2, h3⟩ =>
      ⟨h1, [], rfl, rfl, rfl, fun p hp => by rw [h2]; exact fam.once _ p hp, h3⟩)
  refine hrun.mono ?_
  rintro e w' ⟨x, A', τ', rfl, q1, q2, q3, _, q5⟩
  exact ⟨x, A', τ', rfl, q1, q2, q3, q5⟩
end

def AS.keepE (k : List Nat) (s : AS) : AS := { s with env := k.map fun i => (i, lk s.env i) }

section
variable {G : Ground} {F : Fence} {n : Nat} {Q : Exit → AS → Prop} {s : AS}
theorem keepE_weak (G : Ground) (k : List Nat) (s : AS) : Weak G s (s.keepE k) := by
  refine Weak.env fun i => ?_
  induction k with
  | nil => exact .inr rfl
  | cons j k ih =>
    simp only [List.map_cons, lk_put]
    by_cases h : i = j
    · left; rw [if_pos h, h]
    · rw [if_neg h]; exact ih

theorem T_regE (hF : FOk F) {t : TOps} {kp ids : List Nat} {S : AS} (h : Run G.P t (fun s' => s'.keepE kp = S) s) (k : Q .normal S) : T G F n (.region none t kp ids) Q s := by
  refine ⟨fun code hc => ?_⟩
  intro hok a w hs
  obtain ⟨id, ops, l, rfl, hz, hfl⟩ := inv_region hc
  have hl := flatT_inj hfl
  subst hl
  simp only [ACode.ok, Bool.and_eq_true] at hok
  obtain ⟨s', hst, hq⟩ := run_sound (G := G) hok.1 hok.2 h
  refine wpIn_region ?_
  have := steps_ops (F := F) (n := n) (Q := fun e a w => ∃ s', Q e s' ∧ SimS G s' a w) hF hst 0 ops.toList hz (fun i o hi => by simpa using hi) (fun a w hs' => ⟨S, k, by rw [← hq]; exact keepE_weak G kp s' a w hs'⟩) a w hs
  rw [compR_len hz] at this
  simpa [List.range_eq_range'] using this

theorem T_srE (hF : FOk F) {t : TOps} {kp ids : List Nat} {S : AS} {b : ACode} (h : Run G.P t (fun s' => s'.keepE kp = S) s) (k : T G F n b Q S) : T G F n (.seq (.region none t kp ids) b) Q s :=
  T_seq (T_regE hF h ⟨k⟩)
end

theorem lk_has {d : Nat} {e : Env} (h : e.all (fun p => !p.2.has d) = true) (i : Nat) : (lk e i).has d = false := by
  induction e with
  | nil => rfl
  | cons p e ih =>
    obtain ⟨j, v⟩ := p
    simp only [List.all_cons, Bool.and_eq_true, Bool.not_eq_true'] at h
    simp only [lk]
    split
    · exact h.1
    · exact ih (by simpa using h.2)

/-- slots sorted out -/
theorem Weak.pick {G : Ground} {s : AS} (k : List Nat) : Weak G s { s with env := k.map fun i => (i, lk s.env i) } := keepE_weak G k s

/-- a nil slice in an object is a list of nothing -/
theorem Weak.nilC {G : Ground} {s : AS} (o d i k : Nat) {cs : List AC} (ho : lo s.σ o = .cells true cs) (hi : cs[i]? = some .nils) (hd : s.nr d = true) (hn : lo s.σ d = .none) :
    Weak G s { s with σ := (o, .cells true (cs.set i (.msl d 0 k 0 none))) :: (d, .arr true k []) :: s.σ } := by
  rintro a w ⟨A, τ, hs⟩
  have h1 := hs.newNone (AS.nr_Nr hd) hn true k
  have hod : o ≠ d := fun e => by rw [e, hn] at ho; cases ho
  have hlo : lo ((d, .arr true k []) :: s.σ) o = .cells true cs := by rw [lo_put, if_neg hod]; exact ho
  refine ⟨A, _, h1.below, h1.a0, h1.a1, h1.alt, h1.size, h1.env, fun t => ?_, fun t t' b n1 n2 hne hmu hb => ?_, h1.ex, h1.marks⟩
  · rw [lo_put]
    by_cases ht : t = o
    · subst ht
      rw [if_pos rfl]
      have := h1.obj t
      simp only [hlo] at this
      obtain ⟨b, xs, e, q1, q2, q3, q4⟩ := this
      refine ⟨b, xs, e, q1, q2, All2.of_get (by rw [List.length_set]; exact q3.length) fun j c x hc hx => ?_, q4⟩
      by_cases hj : j = i
      · subst hj
        rw [List.getElem?_set_self (by have := (List.getElem?_eq_some_iff.1 hi).1; exact this)] at hc
        cases hc
        obtain ⟨y, hy, hr⟩ := q3.get j _ hi
        rw [hy] at hx; cases hx
        cases hr with | c0 hr => cases hr with
          | nils => exact .c0 (.mslN d 0 k none none (if_pos rfl) (fun n hn => by cases hn))
      · rw [List.getElem?_set_ne (Ne.symm hj)] at hc
        obtain ⟨y, hy, hr⟩ := q3.get j _ hc
        rw [hy] at hx; cases hx
        exact hr
    · rw [if_neg ht]; exact h1.obj t
  · have key : ∀ t, lo ((o, .cells true (cs.set i (.msl d 0 k 0 none))) :: (d, .arr true k []) :: s.σ) t ≠ .none → lo ((d, .arr true k []) :: s.σ) t ≠ .none := by
      intro t h
      rw [lo_put] at h
      split at h
      · rename_i e; subst e; rw [hlo]; simp
      · exact h
    refine h1.sep t t' b (key t n1) (key t' n2) hne ?_ hb
    rw [lo_put] at hmu
    split at hmu
    · rename_i e; subst e; rw [hlo]; rfl
    · exact hmu

theorem FrOk.of {s : AS} {σ1 : Sto} {d : Nat} (ks : List Nat) (hks : σ1.map (·.1) = ks) (he : s.env.all (fun p => !p.2.has d) = true) (hx : s.ex.all (fun v => !v.has d) = true) (hk : s.σ.all (fun p => ks.contains p.1) = true)
    (ho : lo s.σ d = .none ∨ ks.contains d = true) : FrOk s σ1 d := by
  refine ⟨lk_has he, fun v hv => by simpa using (List.all_eq_true.1 hx) v hv, fun t ht => ?_, ?_⟩
  · have : lo s.σ t = .none := lo_none fun hc => by
      obtain ⟨p, hp, rfl⟩ := List.mem_map.1 hc
      have := (List.all_eq_true.1 hk) p hp
      rw [hks] at ht
      exact ht (by simpa using this)
    rw [this]; rfl
  · rw [hks]
    exact ho.imp id fun h => by simpa using h

end Go.AM

namespace Go.AM
open Go.RowKit (Below)
set_option linter.unusedSimpArgs false
set_option linter.unusedVariables false

def quietOp : AOp → Bool
  | .q _ | .call _ _ => true
  | _ => false
def okT (oj oi : FOp) : Bool := (match oj.d with | some d => !oi.us.contains d && oi.d != some d | none => true) && (match oi.d with | some d => !oj.us.contains d | none => true)

def quietG : Nat → List (List Nat) → List FOp → List (Nat × FOp) → Bool
  | _, [], [], _ => true
  | i, un :: uns, o :: os, acc => quietOp o.op && acc.all (fun a => !un.contains a.1 || okT a.2 o) && quietG (i + 1) uns os ((i, o) :: acc)
  | _, _, _, _ => false

def RunF (P : Program) : List FOp → (AS → Prop) → AS → Prop
  | [], K, s => K s
  | o :: os, K, s => match gmet s.env o.g with
    | some false => RunF P os K (putd o.d .und s)
    | some true => match o.op with
      | .q q => match evQ q s.env s.σ with
        | some v => RunF P os K (putd o.d v s)
        | none => False
      | .call f xs => (gets s.env (f :: xs)).all AVp = true ∧ ∃ r, CallR P f xs s.env s.σ s.σ r ∧ RunF P os K (putd o.d r.av s)
      | _ => False
    | none => False

theorem runF_D {P : Program} {s0 : AS} {K : AS → Prop} : ∀ (os : List FOp) (uns : List (List Nat)) (i : Nat) (acc : List It) (s : AS), (∀ t ∈ acc, t.f.wr = none ∧ t.f.nw = false) →
    quietG i uns os (acc.map fun t => (t.1, t.o)) = true → RunF P os K s → RunD P s0 i uns os acc K s
  | [], [], i, acc, s, ha, hq, h => by simp only [RunF] at h; simp only [RunD]; exact h
  | [], _ :: _, i, acc, s, ha, hq, h => by simp [quietG] at hq
  | _ :: _, [], i, acc, s, ha, hq, h => by simp [quietG] at hq
  | o :: os, un :: uns, i, acc, s, ha, hq, h => by
    simp only [quietG, Bool.and_eq_true, List.all_map] at hq
    obtain ⟨⟨h1, h2⟩, h3⟩ := hq
    have pair : ∀ (v : AV) (rd : List Nat), acc.all (fun t => okPair un t (i, o, { v := v, rd := rd })) = true := by
      intro v rd
      rw [List.all_eq_true] at h2 ⊢
      intro t ht
      obtain ⟨q1, q2⟩ := ha t ht
      have := h2 t ht
      simp only [Function.comp, Bool.or_eq_true] at this
      unfold okPair
      have e1 : okN t.f ({ v := v, rd := rd } : FP) = true := rfl
      have e2 : okN ({ v := v, rd := rd } : FP) t.f = true := by unfold okN; rw [q2]; rfl
      show (okN t.f ({ v := v, rd := rd } : FP) && (!un.contains t.1 || (okN ({ v := v, rd := rd } : FP) t.f && okInd t.o t.f o { v := v, rd := rd }))) = true
      rw [e1, e2, Bool.true_and, Bool.true_and]
      rcases this with h | h
      · rw [h]; rfl
      · have : okInd t.o t.f o { v := v, rd := rd } = true := by
          unfold okT at h
          simp only [Bool.and_eq_true] at h
          have hsc : t.f.scO = none := by unfold FP.scO; rw [q1]; split <;> rfl
          unfold okInd okCl
          rw [q1, hsc]
          simp only [Bool.and_true]
          rw [show (({ v := v, rd := rd } : FP).scO) = none from rfl]
          simp only [Bool.and_true, Bool.and_eq_true]
          exact ⟨h, rfl⟩
        rw [this]; simp
    have next : ∀ (v : AV) (rd : List Nat) (s' : AS), RunF P os K s' → RunD P s0 (i + 1) uns os ((i, o, { v := v, rd := rd }) :: acc) K s' := by
      intro v rd s' hr
      refine runF_D os uns (i + 1) _ s' (fun t ht => ?_) (by simpa [It.o] using h3) hr
      rcases List.mem_cons.1 ht with rfl | ht
      · exact ⟨rfl, rfl⟩
      · exact ha t ht
    simp only [RunF] at h
    simp only [RunD]
    split at h
    · rename_i hg
      try simp only [hg]
      exact ⟨pair _ _, next _ _ _ h⟩
    · rename_i hg
      try simp only [hg]
      split at h
      · rename_i q ho
        split at h
        · rename_i v hv
          try simp only [ho, hv]
          exact ⟨pair _ _, next _ _ _ h⟩
        · exact h.elim
      · rename_i f xs ho
        try simp only [ho]
        obtain ⟨q1, r, q2, q3⟩ := h
        exact ⟨q1, r, q2, pair _ _, next _ _ _ q3⟩
      · exact h.elim
    · exact h.elim

section
variable {G : Ground} {F : Fence} {n : Nat} {Q : Exit → AS → Prop} {s : AS}
theorem T_drF (hF : FOk F) {un : List (List Nat)} {t : TOps} {kp ids : List Nat} {S : AS} (hm : G.P.follows .mixedOrders = true) (hq : quietG 0 un t.flat [] = true) (h : RunF G.P t.flat (fun s' => s'.keep kp ids = S) s) (k : Q .normal S) :
    T G F n (.region (some un) t kp ids) Q s := T_dr hF hm (runF_D _ _ _ [] _ (fun t ht => by simp at ht) hq h) k
theorem T_sdF (hF : FOk F) {un : List (List Nat)} {t : TOps} {kp ids : List Nat} {S : AS} {b : ACode} (hm : G.P.follows .mixedOrders = true) (hq : quietG 0 un t.flat [] = true) (h : RunF G.P t.flat (fun s' => s'.keep kp ids = S) s) (k : T G F n b Q S) :
    T G F n (.seq (.region (some un) t kp ids) b) Q s := T_seq (T_drF hF hm hq h ⟨k⟩)
end

section
variable {P : Program} {os : List FOp} {K : AS → Prop} {d : Nat} {g : Option (Nat × Bool)} {e : Env} {σ : Sto} {ex : List AV}
theorem RunF_q {q : QOp} {v : AV} (hg : gmet e g = some true) (h : evQ q e σ = some v) (k : RunF P os K { env := (d, v) :: e, σ := σ, ex := ex }) : RunF P (⟨some d, g, .q q⟩ :: os) K { env := e, σ := σ, ex := ex } := by
  simp only [RunF, hg, h]; exact k
theorem RunF_skip {op : AOp} (hg : gmet e g = some false) (k : RunF P os K { env := (d, .und) :: e, σ := σ, ex := ex }) : RunF P (⟨some d, g, op⟩ :: os) K { env := e, σ := σ, ex := ex } := by
  simp only [RunF, hg]; exact k
theorem RunF_call {f : Opd} {xs : List Opd} {r : DV} (hg : gmet e g = some true) (hp : (gets e (f :: xs)).all AVp = true) (hc : CallR P f xs e σ σ r) (k : RunF P os K { env := (d, r.av) :: e, σ := σ, ex := ex }) :
    RunF P (⟨some d, g, .call f xs⟩ :: os) K { env := e, σ := σ, ex := ex } := by
  simp only [RunF, hg]; exact ⟨hp, r, hc, k⟩
theorem RunF_nil {S : AS} {kp ids : List Nat} (h : AS.keep kp ids { env := e, σ := σ, ex := ex } = S) : RunF P [] (fun s' => s'.keep kp ids = S) { env := e, σ := σ, ex := ex } := by
  simp only [RunF]; exact h
end
end Go.AM

namespace Go.AM
open Go.RowKit (Below)
set_option linter.unusedSimpArgs false
set_option linter.unusedVariables false

def SK (G : Ground) (os : List FOp) (K : AS → Prop) (s : AS) : Prop := ∃ S, Steps G.P G os s S ∧ K S

section
variable {G : Ground} {os : List FOp} {K : AS → Prop} {d : Nat} {g : Option (Nat × Bool)} {e : Env} {σ : Sto} {ex : List AV}
theorem S_q {q : QOp} {v : AV} (hd : d < G.nt) (hg : gmet e g = some true) (h : evQ q e σ = some v) (k : SK G os K { env := (d, v) :: e, σ := σ, ex := ex }) : SK G (⟨some d, g, .q q⟩ :: os) K { env := e, σ := σ, ex := ex } :=
  let ⟨S, h', k'⟩ := k; ⟨S, .cons (.run hg (fun t ht => by cases ht; exact hd) (.q h)) h', k'⟩
theorem S_skip {op : AOp} (hd : d < G.nt) (hg : gmet e g = some false) (k : SK G os K { env := (d, .und) :: e, σ := σ, ex := ex }) : SK G (⟨some d, g, op⟩ :: os) K { env := e, σ := σ, ex := ex } :=
  let ⟨S, h', k'⟩ := k; ⟨S, .cons (.skip hg (fun t ht => by cases ht; exact hd)) h', k'⟩
theorem S_skipN {op : AOp} (hg : gmet e g = some false) (k : SK G os K { env := e, σ := σ, ex := ex }) : SK G (⟨none, g, op⟩ :: os) K { env := e, σ := σ, ex := ex } :=
  let ⟨S, h', k'⟩ := k; ⟨S, .cons (.skip hg (fun t ht => by cases ht)) h', k'⟩
theorem S_n {q : NOp} {ob : AO} {v : AV} (hd : d < G.nt) (hg : gmet e g = some true) (hn : lo σ d = .none) (hr : AS.nr d { env := e, σ := σ, ex := ex } = true) (h : evN q e d = some (ob, v))
    (k : SK G os K { env := (d, v) :: e, σ := (d, ob) :: σ, ex := ex }) : SK G (⟨some d, g, .n q⟩ :: os) K { env := e, σ := σ, ex := ex } :=
  let ⟨S, h', k'⟩ := k; ⟨S, .cons (.run hg (fun t ht => by cases ht; exact hd) (.n rfl hn (AS.nr_Nr hr) h)) h', k'⟩
/-- a store -/
theorem S_st {q : SOp} {u : Nat} {ob : AO} {v : AV} (hg : gmet e g = some true) (h : evS q e σ 0 = some (u, ob, v, 0)) (k : SK G os K { env := e, σ := (u, ob) :: σ, ex := ex }) : SK G (⟨none, g, .s q⟩ :: os) K { env := e, σ := σ, ex := ex } :=
  let ⟨S, h', k'⟩ := k; ⟨S, .cons (.run (o := ⟨none, g, .s q⟩) hg (fun t ht => by cases ht) (.s (t := 0) (.inr rfl) h (fun hk => by cases hk))) h', k'⟩
/-- append, to nil -/
theorem S_ap1 {q : SOp} {ob : AO} {v : AV} (hd : d < G.nt) (hg : gmet e g = some true) (h : evS q e σ d = some (d, ob, v, 1)) (hn : lo σ d = .none) (hr : AS.nr d { env := e, σ := σ, ex := ex } = true)
    (k : SK G os K { env := (d, v) :: e, σ := (d, ob) :: σ, ex := ex }) : SK G (⟨some d, g, .s q⟩ :: os) K { env := e, σ := σ, ex := ex } :=
  let ⟨S, h', k'⟩ := k; ⟨S, .cons (.run (o := ⟨some d, g, .s q⟩) hg (fun t ht => by cases ht; exact hd) (.s (.inl rfl) h (fun _ => ⟨rfl, AS.nr_Nr hr, hn⟩))) h', k'⟩
/-- append, to what there is -/
theorem S_ap2 {q : SOp} {u : Nat} {ob : AO} {v : AV} {e1 : Env} {σ1 : Sto} {ex1 : List AV} (hd : d < G.nt) (hg : gmet e g = some true) (h : evS q e σ d = some (u, ob, v, 2)) (hs : AS.scr u { env := e, σ := σ, ex := ex } = { env := e1, σ := σ1, ex := ex1 })
    (k : SK G os K { env := (d, v) :: e1, σ := (u, ob) :: σ1, ex := ex1 }) : SK G (⟨some d, g, .s q⟩ :: os) K { env := e, σ := σ, ex := ex } := by
  obtain ⟨S, h', k'⟩ := k
  refine ⟨S, .cons (.run (o := ⟨some d, g, .s q⟩) hg (fun t ht => by cases ht; exact hd) (.s (.inl rfl) h (fun hk => by cases hk))) ?_, k'⟩
  simp only [newSt, if_true, hs, putd]
  exact h'
theorem S_call {f : Opd} {xs : List Opd} {r : DV} {σ' : Sto} (hd : d < G.nt) (hg : gmet e g = some true) (hc : CallR G.P f xs e σ σ' r) (k : SK G os K { env := (d, r.av) :: e, σ := σ', ex := ex }) :
    SK G (⟨some d, g, .call f xs⟩ :: os) K { env := e, σ := σ, ex := ex } :=
  let ⟨S, h', k'⟩ := k; ⟨S, .cons (.run hg (fun t ht => by cases ht; exact hd) (.call (s := { env := e, σ := σ, ex := ex }) hc)) h', k'⟩
theorem S_callM {f : Opd} {xs : List Opd} {r : AV} {σ1 : Sto} (hd : d < G.nt) (hg : gmet e g = some true) (hc : CallM G.P f xs { env := e, σ := σ, ex := ex } r σ1) (k : SK G os K { env := (d, r) :: e, σ := σ1 ++ σ, ex := ex }) :
    SK G (⟨some d, g, .call f xs⟩ :: os) K { env := e, σ := σ, ex := ex } :=
  let ⟨S, h', k'⟩ := k; ⟨S, .cons (.run hg (fun t ht => by cases ht; exact hd) (.callM (s := { env := e, σ := σ, ex := ex }) hc)) h', k'⟩
theorem S_keep {kp ids : List Nat} {s S : AS} (h : s.keep kp ids = S) : SK G [] (fun s' => s'.keep kp ids = S) s := ⟨s, .nil, h⟩

variable {F : Fence} {n : Nat} {Q : Exit → AS → Prop} {s S : AS}
theorem T_regK (hF : FOk F) {t : TOps} {kp ids : List Nat} (h : SK G t.flat (fun s' => s'.keep kp ids = S) s) (k : Q .normal S) : T G F n (.region none t kp ids) Q s := by
  obtain ⟨S', h1, h2⟩ := h
  refine T_mono (T_steps (Q := fun e s' => e = .normal ∧ s' = S) hF (h1.append (l := t.flat) (m := []) (.weak (h2 ▸ keep_weak G kp ids S') .nil) |> (by simpa using ·)) ⟨rfl, rfl⟩) ?_
  rintro e s' ⟨rfl, rfl⟩
  exact k
theorem T_srK (hF : FOk F) {t : TOps} {kp ids : List Nat} {b : ACode} (h : SK G t.flat (fun s' => s'.keep kp ids = S) s) (k : T G F n b Q S) : T G F n (.seq (.region none t kp ids) b) Q s := T_seq (T_regK hF h ⟨k⟩)
end

theorem Weak.sub {G : Ground} {e : Env} {σ σ' : Sto} {ex : List AV} (h : ∀ p ∈ σ', lo σ p.1 = p.2) : Weak G { env := e, σ := σ, ex := ex } { env := e, σ := σ', ex := ex } :=
  Weak.sto (s := { env := e, σ := σ, ex := ex }) (lo_of_mem h)

structure SKt (G : Ground) (o : FOp) (os : List FOp) (K : AS → Prop) (s : AS) : Prop where
  of : gmet s.env o.g = some true → SK G (o :: os) K s
structure SKf (G : Ground) (o : FOp) (os : List FOp) (K : AS → Prop) (s : AS) : Prop where
  of : gmet s.env o.g = some false → SK G (o :: os) K s
def SKb (G : Ground) (b : Bool) (o : FOp) (os : List FOp) (K : AS → Prop) (s : AS) : Prop := match b with
  | true => SKt G o os K s
  | false => SKf G o os K s

section
variable {G : Ground} {os : List FOp} {K : AS → Prop} {d : Nat} {g : Option (Nat × Bool)} {e : Env} {σ : Sto} {ex : List AV}
theorem X_g {o : FOp} {b : Bool} {s : AS} (hg : gmet s.env o.g = some b) (k : SKb G b o os K s) : SK G (o :: os) K s := by
  cases b
  · exact SKf.of k hg
  · exact SKt.of k hg
theorem X_g0 {d : Option Nat} {op : AOp} {s : AS} (k : SKb G true ⟨d, none, op⟩ os K s) : SK G (⟨d, none, op⟩ :: os) K s := X_g (o := ⟨d, none, op⟩) rfl k
theorem X_q {q : QOp} {v : AV} (hd : d < G.nt) (h : evQ q e σ = some v) (k : SK G os K { env := (d, v) :: e, σ := σ, ex := ex }) : SKb G true ⟨some d, g, .q q⟩ os K { env := e, σ := σ, ex := ex } :=
  SKt.mk fun hg => S_q hd hg h k
theorem X_skip {op : AOp} (hd : d < G.nt) (k : SK G os K { env := (d, .und) :: e, σ := σ, ex := ex }) : SKb G false ⟨some d, g, op⟩ os K { env := e, σ := σ, ex := ex } :=
  SKf.mk fun hg => S_skip hd hg k
theorem X_skipN {op : AOp} (k : SK G os K { env := e, σ := σ, ex := ex }) : SKb G false ⟨none, g, op⟩ os K { env := e, σ := σ, ex := ex } :=
  SKf.mk fun hg => S_skipN hg k
theorem X_n {q : NOp} {ob : AO} {v : AV} (hd : d < G.nt) (h : evN q e d = some (ob, v))
    (k : (lo σ d = .none ∧ AS.nr d { env := e, σ := σ, ex := ex } = true) ∧ SK G os K { env := (d, v) :: e, σ := (d, ob) :: σ, ex := ex }) : SKb G true ⟨some d, g, .n q⟩ os K { env := e, σ := σ, ex := ex } := SKt.mk fun hg => S_n hd hg k.1.1 k.1.2 h k.2
theorem X_st {q : SOp} {u : Nat} {ob : AO} {v : AV} (h : evS q e σ 0 = some (u, ob, v, 0)) (k : SK G os K { env := e, σ := (u, ob) :: σ, ex := ex }) : SKb G true ⟨none, g, .s q⟩ os K { env := e, σ := σ, ex := ex } :=
  SKt.mk fun hg => S_st hg h k
theorem X_ap1 {q : SOp} {ob : AO} {v : AV} (hd : d < G.nt) (h : evS q e σ d = some (d, ob, v, 1))
    (k : (lo σ d = .none ∧ AS.nr d { env := e, σ := σ, ex := ex } = true) ∧ SK G os K { env := (d, v) :: e, σ := (d, ob) :: σ, ex := ex }) : SKb G true ⟨some d, g, .s q⟩ os K { env := e, σ := σ, ex := ex } := SKt.mk fun hg => S_ap1 hd hg h k.1.1 k.1.2 k.2
theorem X_ap2 {q : SOp} {u : Nat} {ob : AO} {v : AV} {e1 : Env} {σ1 : Sto} {ex1 : List AV} (hd : d < G.nt) (h : evS q e σ d = some (u, ob, v, 2))
    (k : AS.scr u { env := e, σ := σ, ex := ex } = { env := e1, σ := σ1, ex := ex1 } ∧ SK G os K { env := (d, v) :: e1, σ := (u, ob) :: σ1, ex := ex1 }) : SKb G true ⟨some d, g, .s q⟩ os K { env := e, σ := σ, ex := ex } := SKt.mk fun hg => S_ap2 hd hg h k.1 k.2
theorem X_call {f : Opd} {xs : List Opd} {r : DV} {σ' : Sto} (hd : d < G.nt) (hc : CallR G.P f xs e σ σ' r) (k : SK G os K { env := (d, r.av) :: e, σ := σ', ex := ex }) :
    SKb G true ⟨some d, g, .call f xs⟩ os K { env := e, σ := σ, ex := ex } := SKt.mk fun hg => S_call hd hg hc k
theorem X_callM {f : Opd} {xs : List Opd} {r : AV} {σ1 : Sto} (hd : d < G.nt) (hc : CallM G.P f xs { env := e, σ := σ, ex := ex } r σ1) (k : SK G os K { env := (d, r) :: e, σ := σ1 ++ σ, ex := ex }) :
    SKb G true ⟨some d, g, .call f xs⟩ os K { env := e, σ := σ, ex := ex } := SKt.mk fun hg => S_callM hd hg hc k
end

structure RFt (P : Program) (o : FOp) (os : List FOp) (K : AS → Prop) (s : AS) : Prop where
  of : gmet s.env o.g = some true → RunF P (o :: os) K s
structure RFf (P : Program) (o : FOp) (os : List FOp) (K : AS → Prop) (s : AS) : Prop where
  of : gmet s.env o.g = some false → RunF P (o :: os) K s
def RFb (P : Program) (b : Bool) (o : FOp) (os : List FOp) (K : AS → Prop) (s : AS) : Prop := match b with
  | true => RFt P o os K s
  | false => RFf P o os K s
section
variable {P : Program} {os : List FOp} {K : AS → Prop} {d : Nat} {g : Option (Nat × Bool)} {e : Env} {σ : Sto} {ex : List AV}
theorem Y_g {o : FOp} {b : Bool} {s : AS} (hg : gmet s.env o.g = some b) (k : RFb P b o os K s) : RunF P (o :: os) K s := by
  cases b
  · exact RFf.of k hg
  · exact RFt.of k hg
theorem Y_g0 {d : Option Nat} {op : AOp} {s : AS} (k : RFb P true ⟨d, none, op⟩ os K s) : RunF P (⟨d, none, op⟩ :: os) K s := Y_g (o := ⟨d, none, op⟩) rfl k
theorem Y_q {q : QOp} {v : AV} (h : evQ q e σ = some v) (k : RunF P os K { env := (d, v) :: e, σ := σ, ex := ex }) : RFb P true ⟨some d, g, .q q⟩ os K { env := e, σ := σ, ex := ex } := RFt.mk fun hg => RunF_q hg h k
theorem Y_skip {op : AOp} (k : RunF P os K { env := (d, .und) :: e, σ := σ, ex := ex }) : RFb P false ⟨some d, g, op⟩ os K { env := e, σ := σ, ex := ex } := RFf.mk fun hg => RunF_skip hg k
theorem Y_call {f : Opd} {xs : List Opd} {r : DV} (hc : CallR P f xs e σ σ r) (hp : (gets e (f :: xs)).all AVp = true) (k : RunF P os K { env := (d, r.av) :: e, σ := σ, ex := ex }) :
    RFb P true ⟨some d, g, .call f xs⟩ os K { env := e, σ := σ, ex := ex } := RFt.mk fun hg => RunF_call hg hp hc k
end
end Go.AM

namespace Go.AM
attribute [go_sem] Run RunI evQ evN evS evBinV evBin evNil isNilK isNilC isNeq ldP ldC ldO get gets acs pvs C0ok parts asCells fillC srcOf partsP setRows putd newSt AS.keep AS.keepE pint pbool List.map List.length lk lo initE DV.av DV.av1 TOps.dsts if_true if_false ite_true ite_false Option.getD Option.toList List.cons_append List.nil_append List.append_nil decide_true decide_false Bool.not_true Bool.not_false cond_true cond_false List.length_map List.getElem?_map Option.map Int.toNat_natCast Int.natCast_nonneg Int.ofNat_lt true_and and_true List.take List.drop Bool.false_eq_true List.getElem?_cons_zero List.getElem?_cons_succ Nat.add_zero Nat.zero_add Bool.and_true Bool.true_and Bool.or_false Bool.false_or Bool.and_false Bool.or_true Bool.true_or Bool.false_and AS.scr AV.scr AC.scr AO.scr AS.nr List.all_cons List.all_nil AV.has AV.has.hasV AC.has AC.has.hasL AO.nr decide_eq_true_eq false_and and_false List.set List.replicate ne_eq not_true not_false_eq_true Nat.zero_mul Int.mul_one List.length_set Option.bind Nat.zero_le max1 max2 max3 max4 max5 max6 max7 max8 Nat.le_refl List.length_append List.length_cons List.length_nil List.length_replicate ddS restS List.filter_cons List.filter_nil List.contains_cons List.contains_nil beq_self_eq_true initV bne_self_eq_false false_implies true_implies imp_self implies_true
attribute [go_sem] RunD TOps.flat okPair okN okInd okCl okFr rdOf AV.id1 FOp.us usG AOp.opds QOp.opds NOp.opds SOp.opds Opd.us FP.scO gmet AVp ACp dtOf dobOf It.o It.f List.flatMap_cons List.flatMap_nil Option.isNone List.filter List.filterMap Option.some_beq_some Option.some_beq_none Option.none_beq_some Option.map_none Option.map_some Bool.or_self Bool.and_self List.filterMap_cons List.filterMap_nil Option.isNone_none Option.isNone_some RunF
attribute [go_sem] bndI roomOf slcC findE entV entriesOf putM carryN chunk isTop oleB Int.cast_ofNat_Int Int.natCast_zero Int.natCast_one TOps.flat Nat.sub_zero Nat.sub_self List.flatten_cons List.flatten_nil true_or or_true Option.some.injEq
end Go.AM

namespace Go.AM
set_option linter.unusedVariables false
section
variable {G : Ground} {F : Fence} {n : Nat} {Q : Exit → AS → Prop} {s : AS}

theorem callM_mk {P : Program} {f : Opd} {az : List Opd} {s : AS} {r : AV} {σ1 σ0 : Sto} {c : AC} {id : FuncId} {first caps : List AV} {fr : List Nat} (h1 : get s.env f = .one c) (h2 : fnOf c = some (id, first, caps))
    (h6 : MutC P id (first ++ gets s.env az ++ caps) σ0 r σ1 fr) (h3 : ∀ p ∈ σ0, lo s.σ p.1 = p.2) (h4 : ∀ p ∈ σ0, p.1 ∈ σ1.map (·.1)) (h5 : ∀ d ∈ fr, s.nr d = true ∧ lo s.σ d = .none) : CallM P f az s r σ1 :=
  ⟨c, id, first, caps, σ0, fr, h1, h2, h3, h4, h5, h6⟩
theorem S_st1 {os : List FOp} {K : AS → Prop} {d : Nat} {g : Option (Nat × Bool)} {e : Env} {σ : Sto} {ex : List AV} {q : SOp} {u : Nat} {ob : AO} {v : AV} (hd : d < G.nt) (hg : gmet e g = some true) (h : evS q e σ d = some (u, ob, v, 0)) (k : SK G os K { env := (d, v) :: e, σ := (u, ob) :: σ, ex := ex }) :
    SK G (⟨some d, g, .s q⟩ :: os) K { env := e, σ := σ, ex := ex } :=
  let ⟨S, h', k'⟩ := k; ⟨S, .cons (.run (o := ⟨some d, g, .s q⟩) hg (fun t ht => by cases ht; exact hd) (.s (t := d) (.inl rfl) h (fun hk => by cases hk))) h', k'⟩
theorem X_st1 {os : List FOp} {K : AS → Prop} {d : Nat} {g : Option (Nat × Bool)} {e : Env} {σ : Sto} {ex : List AV} {q : SOp} {u : Nat} {ob : AO} {v : AV} (hd : d < G.nt) (h : evS q e σ d = some (u, ob, v, 0)) (k : SK G os K { env := (d, v) :: e, σ := (u, ob) :: σ, ex := ex }) :
    SKb G true ⟨some d, g, .s q⟩ os K { env := e, σ := σ, ex := ex } := SKt.mk fun hg => S_st1 hd hg h k

/-- an operation that turns an object: 0: in place; 1: a new one; 2: it is laid anew -/
structure SKs (G : Ground) (os : List FOp) (K : AS → Prop) (d : Nat) (e : Env) (σ : Sto) (ex : List AV) (k u : Nat) (ob : AO) (v : AV) : Prop where
  of : match k with
    | 0 => SK G os K { env := (d, v) :: e, σ := (u, ob) :: σ, ex := ex }
    | 1 => u = d ∧ (lo σ d = .none ∧ AS.nr d { env := e, σ := σ, ex := ex } = true) ∧ SK G os K { env := (d, v) :: e, σ := (d, ob) :: σ, ex := ex }
    | 2 => ∃ e1 σ1 ex1, AS.scr u { env := e, σ := σ, ex := ex } = { env := e1, σ := σ1, ex := ex1 } ∧ SK G os K { env := (d, v) :: e1, σ := (u, ob) :: σ1, ex := ex1 }
    | _ => False
section
variable {G : Ground} {os : List FOp} {K : AS → Prop} {d u : Nat} {g : Option (Nat × Bool)} {e : Env} {σ : Sto} {ex : List AV} {ob : AO} {v : AV}
theorem SKs0 (h : SK G os K { env := (d, v) :: e, σ := (u, ob) :: σ, ex := ex }) : SKs G os K d e σ ex 0 u ob v := ⟨h⟩
theorem SKs1 (h : (lo σ d = .none ∧ AS.nr d { env := e, σ := σ, ex := ex } = true) ∧ SK G os K { env := (d, v) :: e, σ := (d, ob) :: σ, ex := ex }) : SKs G os K d e σ ex 1 d ob v := ⟨⟨rfl, h⟩⟩
theorem SKs2 {e1 : Env} {σ1 : Sto} {ex1 : List AV} (h : AS.scr u { env := e, σ := σ, ex := ex } = { env := e1, σ := σ1, ex := ex1 } ∧ SK G os K { env := (d, v) :: e1, σ := (u, ob) :: σ1, ex := ex1 }) : SKs G os K d e σ ex 2 u ob v := ⟨⟨_, _, _, h⟩⟩
theorem X_s {q : SOp} {k : Nat} (hd : d < G.nt) (h : evS q e σ d = some (u, ob, v, k)) (hk : SKs G os K d e σ ex k u ob v) : SKb G true ⟨some d, g, .s q⟩ os K { env := e, σ := σ, ex := ex } := by
  obtain ⟨hk⟩ := hk
  match k, hk with
  | 0, hk => exact X_st1 hd h hk
  | 1, hk => obtain ⟨rfl, hk⟩ := hk; exact X_ap1 hd h hk
  | 2, hk => obtain ⟨e1, σ1, ex1, hk⟩ := hk; exact X_ap2 hd h hk
  | k + 3, hk => exact hk.elim
end

def RunE (P : Program) (s0 : AS) : Nat → List (List Nat) → List FOp → List It → (AS → Prop) → AS → Prop
  | _, [], [], _, K, s => K s
  | i, un :: uns, o :: os, acc, K, s =>
    match gmet s.env o.g with
    | some false => acc.all (fun t => okPair un t (i, o, { v := .und })) = true ∧ RunE P s0 (i + 1) uns os ((i, o, { v := .und }) :: acc) K (putd o.d .und s)
    | some true => match o.op with
      | .q q => match evQ q s.env s.σ with
        | some v => acc.all (fun t => okPair un t (i, o, { v := v, rd := rdOf (.q q) s.env })) = true ∧ RunE P s0 (i + 1) uns os ((i, o, { v := v, rd := rdOf (.q q) s.env }) :: acc) K (putd o.d v s)
        | none => False
      | .s q => match evS q s.env s.σ (o.d.getD 0) with
        | some (u, ob, v, k) => (k = 0 ∧ oleB ob (lo s.σ u) = true) ∧ acc.all (fun t => okPair un t (i, o, { v := v, rd := u :: rdOf (.s q) s.env })) = true ∧
            RunE P s0 (i + 1) uns os ((i, o, { v := v, rd := u :: rdOf (.s q) s.env }) :: acc) K (putd o.d v s)
        | none => False
      | _ => False
    | none => False
  | _, _, _, _, _, _ => False

def findL : ACode → Nat → Option ACode
  | .seq a b, l => match findL a l with
    | some r => some (.seq r b)
    | none => findL b l
  | .label l', l => if l' == l then some .skip else none
  | _, _ => none

theorem findL_sound {P : Program} {nt l : Nat} : ∀ {c : ACode} {cc : Code}, compC P cc = some c.erase → c.ok nt = true →
    match findL c l with
    | some r => ∃ rc, findLabel cc l = some rc ∧ compC P rc = some r.erase ∧ r.ok nt = true
    | none => findLabel cc l = none := by
  intro c
  induction c with
  | seq a b iha ihb =>
    intro cc hc hok
    obtain ⟨ca, cb, rfl, h1, h2⟩ := inv_seq hc
    simp only [ACode.ok, Bool.and_eq_true] at hok
    have ka := iha h1 hok.1
    have kb := ihb h2 hok.2
    simp only [findL, findLabel]
    cases hf : findL a l with
    | some r =>
      rw [hf] at ka
      obtain ⟨rc, q1, q2, q3⟩ := ka
      refine ⟨.seq rc cb, by rw [q1], ?_, by simp [ACode.ok, q3, hok.2]⟩
      simp only [compC, q2, h2, ACode.erase]; rfl
    | none =>
      rw [hf] at ka
      simp only at ka
      simp only [ka]
      exact kb
  | label l' =>
    intro cc hc hok
    have := inv_label hc
    subst this
    simp only [findL, findLabel]
    split
    · rename_i r hr
      split at hr
      · cases hr; rename_i hl; exact ⟨.skip, by rw [if_pos hl], rfl, rfl⟩
      · cases hr
    · rename_i hr
      split at hr
      · cases hr
      · rename_i hl; rw [if_neg hl]
  | skip => intro cc hc _; have := inv_skip hc; subst this; rfl
  | region un t k i =>
    intro cc hc _
    simp only [ACode.erase] at hc
    obtain ⟨id, ops, d, l0, rfl, _⟩ := inv_region0 hc
    rfl
  | cond c x y _ _ => intro cc hc _; obtain ⟨_, _, _, rfl, _⟩ := inv_cond hc; rfl
  | block i c _ => intro cc hc _; obtain ⟨_, rfl, _⟩ := inv_block hc; rfl
  | loop c _ => intro cc hc _; obtain ⟨_, rfl, _⟩ := inv_loop hc; rfl
  | scope c _ => intro cc hc _; obtain ⟨_, rfl, _⟩ := inv_scope hc; rfl
  | exit i => intro cc hc _; have := inv_exit hc; subst this; rfl
  | goto i => intro cc hc _; have := inv_goto hc; subst this; rfl
  | ret => intro cc hc _; have := inv_ret hc; subst this; rfl
  | range f ps x y _ _ => intro cc hc _; obtain ⟨_, _, _, _, rfl, _⟩ := inv_range hc; rfl

/-- as Q; by a jump to the label: on with what stands behind it -/
structure jmp (G : Ground) (n l : Nat) (rest : ACode) (Q : Exit → AS → Prop) (e : Exit) (s : AS) : Prop where
  of : match e with
    | .goto l' => l' = l ∧ T G Fence.wide n rest (noGo Q) s
    | e => Q e s

theorem T_scopeJ (l : Nat) {c rest : ACode} (hf : findL c l = some rest) (h : T G Fence.wide n c (jmp G n l rest Q) s) : T G Fence.wide n (.scope c) Q s := by
  refine ⟨fun code hc hok a w hs => ?_⟩
  obtain ⟨cc, rfl, hc'⟩ := inv_scope hc
  have hok' : c.ok G.nt = true := hok
  have hfs := findL_sound (l := l) hc' hok'
  rw [hf] at hfs
  obtain ⟨rc, q1, q2, q3⟩ := hfs
  refine wpIn_wide.2 (wp_scope_jumps l (fun a w => ∃ s', SimS G s' a w ∧ T G Fence.wide n rest (noGo Q) s') (fun _ _ => 0) q1 (wpIn_wide.1 (wpIn_mono (h.of cc hc' hok' a w hs) ?_)) ?_)
  · rintro e a w ⟨s', hq, hs'⟩
    obtain ⟨hq⟩ := hq
    cases e with
    | goto l' => exact ⟨hq.1, s', hs', hq.2⟩
    | _ => exact ⟨s', hq, hs'⟩
  · rintro a w ⟨s', hs', hT⟩
    refine wpIn_wide.1 (wpIn_mono (hT.of rc q2 q3 a w hs') ?_)
    rintro e a w ⟨s', hq, hs'⟩
    obtain ⟨hq⟩ := hq
    cases e <;> first | exact hq.elim | exact ⟨s', hq, hs'⟩

variable {l id : Nat} {rest : ACode}
theorem jmp_normal (h : Q .normal s) : jmp G n l rest Q .normal s := ⟨h⟩
theorem jmp_ret (h : Q .ret s) : jmp G n l rest Q .ret s := ⟨h⟩
theorem jmp_exit (h : Q (.exit id) s) : jmp G n l rest Q (.exit id) s := ⟨h⟩
theorem jmp_goto (h : T G Fence.wide n rest (noGo Q) s) : jmp G n l rest Q (.goto l) s := ⟨rfl, h⟩
end
end Go.AM
namespace Go.AM
attribute [go_sem] RunE
end Go.AM

