import Derived.Test.YtcmbjbmghoopcaaMe5
import Derived.Test.YtcmbjbmghoopcaaProg
import Derived.KernelRfl
import Derived.Test.YtcmbjbmghoopcaaRows
set_option linter.unusedVariables false
set_option linter.unusedSimpArgs false
namespace Go.AM
open Go Go.Proofs
set_option maxRecDepth 100000
abbrev fi_fullerlaw04_ElemSpreads : Nat := 14
abbrev fi_fix_shifted : Nat := 147
abbrev fi_math_bits_LeadingZeros64 : Nat := 152
abbrev fi_math_bits_Len64 : Nat := 153
def a_fullerlaw04_ElemSpreads : ACode := (.seq (.region none (.op (some 4) none (.n (.box 2 (.t 1)))
  (.op (some 5) none (.n (.box 2 (.t 2)))
  (.op (some 6) none (.q (.mov (.c (.one (.p (.bool false))))))
  .nil))) [0, 4, 5] [4, 5])
 (.seq (.region none (.op (some 24) none (.call (.c (.one (.p (.fn fi_fullerlaw04_awake [] [])))) [])
  (.op (some 7) none (.q (.mov (.t 24)))
  .nil)) [0, 4, 5, 7] [4, 5])
 (.seq (.seq (.region none (.op (some 25) none (.q (.load 2 true (.t 4)))
  (.op (some 26) none (.call (.c (.one (.p (.fn fi_fullerref03_Few [] [])))) [(.t 25)])
  (.op (some 27) none (.q (.un .not (.t 26)))
  (.op (some 28) none (.q (.mov (.t 27)))
  (.sc 32 28 false 31 none
  (.op (some 29) (some (28, false)) (.q (.load 2 true (.t 5)))
  (.op (some 30) (some (28, false)) (.call (.c (.one (.p (.fn fi_fullerref03_Few [] [])))) [(.t 29)])
  (.op (some 31) (some (28, false)) (.q (.un .not (.t 30)))
  .nil)))
  .nil))))) [0, 4, 5, 7, 32] [4, 5])
 (.cond (.t 32) (.seq (.region none (.op (some 33) none (.q (.mov (.t 7)))
  (.op (some 6) none (.q (.mov (.t 33)))
  .nil)) [6] [4, 5])
 .ret)
 .skip))
 (.seq (.region none (.op (some 35) none (.q (.faddr 0 (.t 4)))
  (.op (some 36) none (.q (.load 1 false (.t 35)))
  (.op (some 37) none (.q (.faddr 0 (.t 5)))
  (.op (some 38) none (.q (.load 1 false (.t 37)))
  (.op (some 39) none (.call (.c (.one (.p (.fn fi_shape_Join [] [])))) [(.t 36), (.t 38)])
  (.op (some 34) none (.q (.mov (.t 39)))
  (.op (some 40) none (.q (.extr (.t 34) 0))
  (.op (some 41) none (.q (.extr (.t 34) 1))
  (.op (some 8) none (.q (.mov (.t 40)))
  (.op (some 9) none (.q (.mov (.t 41)))
  .nil)))))))))) [0, 4, 5, 7, 8, 9] [4, 5])
 (.seq (.region none (.op (some 43) none (.q (.load 2 true (.t 4)))
  (.op (some 44) none (.q (.mov (.t 8)))
  (.op (some 45) none (.call (.c (.one (.p (.fn fi_tensor_Spread [] [])))) [(.t 43), (.t 44)])
  (.op (some 42) none (.q (.mov (.t 45)))
  (.op (some 46) none (.q (.extr (.t 42) 0))
  (.op (some 47) none (.q (.extr (.t 42) 1))
  (.op (some 10) none (.n (.alloc [.nils, .nils]))
  (.op none none (.s (.store 2 (.t 10) (.t 46)))
  (.op (some 11) none (.q (.mov (.t 47)))
  .nil))))))))) [0, 4, 5, 7, 8, 9, 10, 11] [4, 5, 10])
 (.seq (.region none (.op (some 49) none (.q (.load 2 true (.t 5)))
  (.op (some 50) none (.q (.mov (.t 8)))
  (.op (some 51) none (.call (.c (.one (.p (.fn fi_tensor_Spread [] [])))) [(.t 49), (.t 50)])
  (.op (some 48) none (.q (.mov (.t 51)))
  (.op (some 52) none (.q (.extr (.t 48) 0))
  (.op (some 53) none (.q (.extr (.t 48) 1))
  (.op (some 12) none (.n (.alloc [.nils, .nils]))
  (.op none none (.s (.store 2 (.t 12) (.t 52)))
  (.op (some 13) none (.q (.mov (.t 53)))
  .nil))))))))) [0, 4, 5, 7, 8, 9, 10, 11, 12, 13] [4, 5, 10, 12])
 (.seq (.seq (.region none (.op (some 54) none (.q (.mov (.t 9)))
  (.op (some 55) none (.q (.bin .neq (.t 54) (.c (.one (.p (.int .i64 0))))))
  (.op (some 56) none (.q (.mov (.t 55)))
  (.sc 59 56 false 58 none
  (.op (some 57) (some (56, false)) (.q (.mov (.t 11)))
  (.op (some 58) (some (56, false)) (.q (.bin .neq (.t 57) (.c (.one (.p (.int .i64 0))))))
  .nil))
  (.op (some 60) none (.q (.mov (.t 59)))
  (.sc 63 60 false 62 none
  (.op (some 61) (some (60, false)) (.q (.mov (.t 13)))
  (.op (some 62) (some (60, false)) (.q (.bin .neq (.t 61) (.c (.one (.p (.int .i64 0))))))
  .nil))
  .nil)))))) [0, 4, 5, 7, 8, 10, 12, 63] [4, 5, 10, 12])
 (.cond (.t 63) (.seq (.region none (.op (some 64) none (.q (.mov (.t 7)))
  (.op (some 6) none (.q (.mov (.t 64)))
  .nil)) [6] [4, 5, 10, 12])
 .ret)
 .skip))
 (.seq (.region none (.op (some 66) none (.q (.mov (.t 0)))
  (.op (some 67) none (.q (.load 2 true (.t 4)))
  (.op (some 68) none (.q (.load 2 true (.t 5)))
  (.op (some 69) none (.call (.c (.one (.p (.fn fi_elem_Two [] [])))) [(.t 66), (.t 67), (.t 68)])
  (.op (some 65) none (.q (.mov (.t 69)))
  (.op (some 70) none (.q (.extr (.t 65) 0))
  (.op (some 71) none (.q (.extr (.t 65) 1))
  (.op (some 14) none (.n (.alloc [.nils, .nils]))
  (.op none none (.s (.store 2 (.t 14) (.t 70)))
  (.op (some 15) none (.q (.mov (.t 71)))
  .nil)))))))))) [0, 4, 7, 8, 10, 12, 14, 15] [4, 5, 10, 12, 14])
 (.seq (.region none (.op (some 73) none (.q (.mov (.t 0)))
  (.op (some 74) none (.q (.load 2 true (.t 10)))
  (.op (some 75) none (.q (.load 2 true (.t 12)))
  (.op (some 76) none (.call (.c (.one (.p (.fn fi_elem_Two [] [])))) [(.t 73), (.t 74), (.t 75)])
  (.op (some 72) none (.q (.mov (.t 76)))
  (.op (some 77) none (.q (.extr (.t 72) 0))
  (.op (some 78) none (.q (.extr (.t 72) 1))
  (.op (some 16) none (.n (.alloc [.nils, .nils]))
  (.op none none (.s (.store 2 (.t 16) (.t 77)))
  (.op (some 17) none (.q (.mov (.t 78)))
  .nil)))))))))) [0, 4, 7, 8, 10, 14, 15, 16, 17] [4, 5, 10, 12, 14, 16])
 (.seq (.region none (.op (some 80) none (.q (.mov (.t 0)))
  (.op (some 81) none (.q (.load 2 true (.t 4)))
  (.op (some 82) none (.call (.c (.one (.p (.fn fi_elem_One [] [])))) [(.t 80), (.t 81)])
  (.op (some 79) none (.q (.mov (.t 82)))
  (.op (some 83) none (.q (.extr (.t 79) 0))
  (.op (some 84) none (.q (.extr (.t 79) 1))
  (.op (some 18) none (.n (.alloc [.nils, .nils]))
  (.op none none (.s (.store 2 (.t 18) (.t 83)))
  (.op (some 19) none (.q (.mov (.t 84)))
  .nil))))))))) [0, 7, 8, 10, 14, 15, 16, 17, 18, 19] [4, 5, 10, 12, 14, 16, 18])
 (.seq (.region none (.op (some 86) none (.q (.mov (.t 0)))
  (.op (some 87) none (.q (.load 2 true (.t 10)))
  (.op (some 88) none (.call (.c (.one (.p (.fn fi_elem_One [] [])))) [(.t 86), (.t 87)])
  (.op (some 85) none (.q (.mov (.t 88)))
  (.op (some 89) none (.q (.extr (.t 85) 0))
  (.op (some 90) none (.q (.extr (.t 85) 1))
  (.op (some 20) none (.n (.alloc [.nils, .nils]))
  (.op none none (.s (.store 2 (.t 20) (.t 89)))
  (.op (some 21) none (.q (.mov (.t 90)))
  .nil))))))))) [7, 8, 14, 15, 16, 17, 18, 19, 20, 21] [4, 5, 10, 12, 14, 16, 18, 20])
 (.seq (.region none (.op (some 92) none (.q (.load 2 true (.t 18)))
  (.op (some 93) none (.q (.mov (.t 8)))
  (.op (some 94) none (.call (.c (.one (.p (.fn fi_tensor_Spread [] [])))) [(.t 92), (.t 93)])
  (.op (some 91) none (.q (.mov (.t 94)))
  (.op (some 95) none (.q (.extr (.t 91) 0))
  (.op (some 96) none (.q (.extr (.t 91) 1))
  (.op (some 22) none (.n (.alloc [.nils, .nils]))
  (.op none none (.s (.store 2 (.t 22) (.t 95)))
  (.op (some 23) none (.q (.mov (.t 96)))
  .nil))))))))) [7, 14, 15, 16, 17, 19, 20, 21, 22, 23] [4, 5, 10, 12, 14, 16, 18, 20, 22])
 (.seq (.region none (.op (some 97) none (.q (.mov (.t 7)))
  (.op (some 98) none (.q (.mov (.t 97)))
  (.sc 102 98 true 101 none
  (.op (some 99) (some (98, true)) (.q (.mov (.t 15)))
  (.op (some 100) (some (98, true)) (.q (.mov (.t 17)))
  (.op (some 101) (some (98, true)) (.q (.bin .eql (.t 99) (.t 100)))
  .nil)))
  (.op (some 103) none (.q (.mov (.t 102)))
  (.sc 107 103 true 106 none
  (.op (some 104) (some (103, true)) (.q (.load 2 true (.t 14)))
  (.op (some 105) (some (103, true)) (.q (.load 2 true (.t 16)))
  (.op (some 106) (some (103, true)) (.call (.c (.one (.p (.fn fi_fullerref03_Same [] [])))) [(.t 104), (.t 105)])
  .nil)))
  (.op (some 108) none (.q (.mov (.t 107)))
  (.sc 112 108 true 111 none
  (.op (some 109) (some (108, true)) (.q (.mov (.t 19)))
  (.op (some 110) (some (108, true)) (.q (.mov (.t 21)))
  (.op (some 111) (some (108, true)) (.q (.bin .eql (.t 109) (.t 110)))
  .nil)))
  (.op (some 113) none (.q (.mov (.t 112)))
  (.sc 125 113 true 124 none
  (.op (some 114) (some (113, true)) (.q (.mov (.t 19)))
  (.op (some 115) (some (113, true)) (.q (.bin .neq (.t 114) (.c (.one (.p (.int .i64 0))))))
  (.op (some 116) (some (113, true)) (.q (.mov (.t 115)))
  (.sc 124 116 false 123 (some (113, true))
  (.op (some 117) (some (116, false)) (.q (.mov (.t 23)))
  (.op (some 118) (some (116, false)) (.q (.bin .eql (.t 117) (.c (.one (.p (.int .i64 0))))))
  (.op (some 119) (some (116, false)) (.q (.mov (.t 118)))
  (.sc 123 119 true 122 (some (116, false))
  (.op (some 120) (some (119, true)) (.q (.load 2 true (.t 20)))
  (.op (some 121) (some (119, true)) (.q (.load 2 true (.t 22)))
  (.op (some 122) (some (119, true)) (.call (.c (.one (.p (.fn fi_fullerref03_Same [] [])))) [(.t 120), (.t 121)])
  .nil)))
  .nil))))
  .nil))))
  (.op (some 6) none (.q (.mov (.t 125)))
  .nil)))))))))) [6] [4, 5, 10, 12, 14, 16, 18, 20, 22])
 .ret)))))))))))))
theorem is_fullerlaw04_ElemSpreads : compC Try.prog (Try.f14.body.getD .skip) = some a_fullerlaw04_ElemSpreads.erase := by kernel_rfl
theorem ok_fullerlaw04_ElemSpreads : a_fullerlaw04_ElemSpreads.ok 126 = true := by kernel_rfl
theorem rv_fullerlaw04_ElemSpreads : compRV Try.prog Try.f14.results.toList = some [.tmp 6] := by kernel_rfl
theorem pure_fullerlaw04_ElemSpreads {ds : List DV} {r : DV} (hn : ds.length ≤ 126) (h : ∀ (G : AM.Ground), G.P = Try.prog → G.nt = 126 → T G Fence.wide 0 a_fullerlaw04_ElemSpreads (AM.Ends [.tmp 6] r) { env := initE 0 ds, σ := [] }) : PureC Try.prog fi_fullerlaw04_ElemSpreads ds r :=
  pureC_of Try.call14 Try.func14 (by rfl) is_fullerlaw04_ElemSpreads ok_fullerlaw04_ElemSpreads rv_fullerlaw04_ElemSpreads hn h

def a_fix_Pow : ACode := (.seq (.region none (.op (some 2) none (.q (.mov (.c (.one (.p (.int .i64 0))))))
  (.op (some 3) none (.q (.mov (.c (.one (.p (.int .i64 0))))))
  .nil)) [0] [])
 (.seq (.region none (.op (some 4) none (.q (.mov (.t 0)))
  (.op (some 5) none (.q (.bin .and (.t 4) (.c (.one (.p (.int .i64 4294967295))))))
  (.op (some 6) none (.q (.bin .add (.c (.one (.p (.int .i64 4294967296)))) (.t 5)))
  (.op (some 7) none (.q (.conv .u64 (.t 6)))
  (.op (some 8) none (.q (.mov (.t 0)))
  (.op (some 9) none (.q (.bin .shr (.t 8) (.c (.one (.p (.int .u64 32))))))
  (.op (some 10) none (.call (.c (.one (.p (.fn fi_fix_shifted [] [])))) [(.t 7), (.t 9)])
  (.op (some 11) none (.q (.extr (.t 10) 0))
  (.op (some 12) none (.q (.extr (.t 10) 1))
  (.op (some 2) none (.q (.mov (.t 11)))
  (.op (some 3) none (.q (.mov (.t 12)))
  .nil))))))))))) [2, 3] [])
 .ret))
theorem is_fix_Pow : compC Try.prog (Try.f127.body.getD .skip) = some a_fix_Pow.erase := by kernel_rfl
theorem ok_fix_Pow : a_fix_Pow.ok 13 = true := by kernel_rfl
theorem rv_fix_Pow : compRV Try.prog Try.f127.results.toList = some [.tmp 2, .tmp 3] := by kernel_rfl
theorem pure_fix_Pow {ds : List DV} {r : DV} (hn : ds.length ≤ 13) (h : ∀ (G : AM.Ground), G.P = Try.prog → G.nt = 13 → T G Fence.wide 0 a_fix_Pow (AM.Ends [.tmp 2, .tmp 3] r) { env := initE 0 ds, σ := [] }) : PureC Try.prog fi_fix_Pow ds r :=
  pureC_of Try.call127 Try.func127 (by rfl) is_fix_Pow ok_fix_Pow rv_fix_Pow hn h

def a_fix_Sqrt : ACode := (.seq (.region none (.op (some 2) none (.q (.mov (.c (.one (.p (.int .i64 0))))))
  (.op (some 3) none (.q (.mov (.c (.one (.p (.int .i64 0))))))
  .nil)) [0] [])
 (.seq (.seq (.region none (.op (some 11) none (.q (.mov (.t 0)))
  (.op (some 12) none (.q (.bin .lss (.t 11) (.c (.one (.p (.int .i64 0))))))
  .nil)) [0, 12] [])
 (.cond (.t 12) (.seq (.region none (.op (some 2) none (.q (.mov (.c (.one (.p (.int .i64 0))))))
  (.op (some 3) none (.q (.mov (.c (.one (.p (.int .i64 12))))))
  .nil)) [2, 3] [])
 .ret)
 .skip))
 (.seq (.region none (.op (some 4) none (.q (.mov (.c (.one (.p (.int .u64 0))))))
  (.op (some 5) none (.q (.mov (.c (.one (.p (.int .u64 281474976710656))))))
  .nil)) [0, 4, 5] [])
 (.seq (.block 0 (.loop (.seq (.seq (.region none (.op (some 13) none (.q (.mov (.t 5)))
  (.op (some 14) none (.q (.mov (.t 4)))
  (.op (some 15) none (.q (.bin .sub (.t 13) (.t 14)))
  (.op (some 16) none (.q (.bin .gtr (.t 15) (.c (.one (.p (.int .u64 1))))))
  .nil)))) [0, 4, 5, 16] [])
 (.cond (.t 16) .skip
 (.exit 0)))
 (.block 1 (.seq (.region none (.op (some 17) none (.q (.mov (.t 4)))
  (.op (some 18) none (.q (.mov (.t 5)))
  (.op (some 19) none (.q (.bin .add (.t 17) (.t 18)))
  (.op (some 20) none (.q (.bin .quo (.t 19) (.c (.one (.p (.int .u64 2))))))
  (.op (some 6) none (.q (.mov (.t 20)))
  .nil))))) [0, 4, 5, 6] [])
 (.seq (.region none (.op (some 22) none (.q (.mov (.t 6)))
  (.op (some 23) none (.q (.mov (.t 6)))
  (.op (some 24) none (.call (.c (.one (.p (.fn fi_math_bits_Mul64 [] [])))) [(.t 22), (.t 23)])
  (.op (some 21) none (.q (.mov (.t 24)))
  (.op (some 25) none (.q (.extr (.t 21) 0))
  (.op (some 26) none (.q (.extr (.t 21) 1))
  (.op (some 7) none (.q (.mov (.t 25)))
  (.op (some 8) none (.q (.mov (.t 26)))
  .nil)))))))) [0, 4, 5, 6, 7, 8] [])
 (.seq (.region none (.op (some 28) none (.q (.mov (.t 0)))
  (.op (some 29) none (.q (.conv .u64 (.t 28)))
  (.op (some 30) none (.q (.bin .shl (.t 29) (.c (.one (.p (.int .u64 32))))))
  (.op (some 31) none (.q (.mov (.t 8)))
  (.op (some 32) none (.q (.carry true (.t 30) (.t 31) (.c (.one (.p (.int .u64 0))))))
  (.op (some 27) none (.q (.mov (.t 32)))
  (.op (some 33) none (.q (.extr (.t 27) 0))
  (.op (some 34) none (.q (.extr (.t 27) 1))
  (.op (some 9) none (.q (.mov (.t 33)))
  (.op (some 10) none (.q (.mov (.t 34)))
  .nil)))))))))) [0, 4, 5, 6, 7, 10] [])
 (.seq (.region none (.op (some 36) none (.q (.mov (.t 0)))
  (.op (some 37) none (.q (.conv .u64 (.t 36)))
  (.op (some 38) none (.q (.bin .shr (.t 37) (.c (.one (.p (.int .u64 32))))))
  (.op (some 39) none (.q (.mov (.t 7)))
  (.op (some 40) none (.q (.mov (.t 10)))
  (.op (some 41) none (.q (.carry true (.t 38) (.t 39) (.t 40)))
  (.op (some 35) none (.q (.mov (.t 41)))
  (.op (some 42) none (.q (.extr (.t 35) 0))
  (.op (some 43) none (.q (.extr (.t 35) 1))
  (.op (some 10) none (.q (.mov (.t 43)))
  .nil)))))))))) [0, 4, 5, 6, 10] [])
 (.seq (.region none (.op (some 44) none (.q (.mov (.t 10)))
  (.op (some 45) none (.q (.bin .gtr (.t 44) (.c (.one (.p (.int .u64 0))))))
  .nil)) [0, 4, 5, 6, 45] [])
 (.cond (.t 45) (.region none (.op (some 46) none (.q (.mov (.t 6)))
  (.op (some 5) none (.q (.mov (.t 46)))
  .nil)) [0, 4, 5] [])
 (.region none (.op (some 47) none (.q (.mov (.t 6)))
  (.op (some 4) none (.q (.mov (.t 47)))
  .nil)) [0, 4, 5] [])))))))))))
 (.seq (.region none (.op (some 48) none (.q (.mov (.t 4)))
  (.op (some 49) none (.q (.conv .i64 (.t 48)))
  (.op (some 2) none (.q (.mov (.t 49)))
  (.op (some 3) none (.q (.mov (.c (.one (.p (.int .i64 0))))))
  .nil)))) [2, 3] [])
 .ret)))))
theorem is_fix_Sqrt : compC Try.prog (Try.f128.body.getD .skip) = some a_fix_Sqrt.erase := by kernel_rfl
theorem ok_fix_Sqrt : a_fix_Sqrt.ok 50 = true := by kernel_rfl
theorem rv_fix_Sqrt : compRV Try.prog Try.f128.results.toList = some [.tmp 2, .tmp 3] := by kernel_rfl
theorem pure_fix_Sqrt {ds : List DV} {r : DV} (hn : ds.length ≤ 50) (h : ∀ (G : AM.Ground), G.P = Try.prog → G.nt = 50 → T G Fence.wide 0 a_fix_Sqrt (AM.Ends [.tmp 2, .tmp 3] r) { env := initE 0 ds, σ := [] }) : PureC Try.prog fi_fix_Sqrt ds r :=
  pureC_of Try.call128 Try.func128 (by rfl) is_fix_Sqrt ok_fix_Sqrt rv_fix_Sqrt hn h

def a_math_bits_Div64 : ACode := (.seq (.region none (.op (some 6) none (.q (.mov (.c (.one (.p (.int .u64 0))))))
  (.op (some 7) none (.q (.mov (.c (.one (.p (.int .u64 0))))))
  .nil)) [0, 1, 2] [])
 (.seq (.seq (.region none (.op (some 19) none (.q (.mov (.t 2)))
  (.op (some 20) none (.q (.bin .eql (.t 19) (.c (.one (.p (.int .u64 0))))))
  .nil)) [0, 1, 2, 20] [])
 (.cond (.t 20) (.region none (.op (some 21) none .bad
  (.op none none .bad
  .nil)) [0, 1, 2] [])
 .skip))
 (.seq (.seq (.region none (.op (some 22) none (.q (.mov (.t 2)))
  (.op (some 23) none (.q (.mov (.t 0)))
  (.op (some 24) none (.q (.bin .leq (.t 22) (.t 23)))
  .nil))) [0, 1, 2, 24] [])
 (.cond (.t 24) (.region none (.op (some 25) none .bad
  (.op none none .bad
  .nil)) [0, 1, 2] [])
 .skip))
 (.seq (.seq (.region none (.op (some 26) none (.q (.mov (.t 0)))
  (.op (some 27) none (.q (.bin .eql (.t 26) (.c (.one (.p (.int .u64 0))))))
  .nil)) [0, 1, 2, 27] [])
 (.cond (.t 27) (.seq (.region (some [[], [0], [], [0, 1, 2], [0, 1, 2, 3], [0, 1, 2], [3, 4, 5], []]) (.op (some 28) none (.q (.mov (.t 1)))
  (.op (some 29) none (.q (.mov (.t 2)))
  (.op (some 30) none (.q (.bin .quo (.t 28) (.t 29)))
  (.op (some 31) none (.q (.mov (.t 1)))
  (.op (some 32) none (.q (.mov (.t 2)))
  (.op (some 33) none (.q (.bin .rem (.t 31) (.t 32)))
  (.op (some 6) none (.q (.mov (.t 30)))
  (.op (some 7) none (.q (.mov (.t 33)))
  .nil)))))))) [6, 7] [])
 .ret)
 .skip))
 (.seq (.region none (.op (some 34) none (.q (.mov (.t 2)))
  (.op (some 35) none (.call (.c (.one (.p (.fn fi_math_bits_LeadingZeros64 [] [])))) [(.t 34)])
  (.op (some 36) none (.q (.conv .u64 (.t 35)))
  (.op (some 8) none (.q (.mov (.t 36)))
  .nil)))) [0, 1, 2, 8] [])
 (.seq (.region none (.op (some 37) none (.q (.mov (.t 2)))
  (.op (some 38) none (.q (.mov (.t 8)))
  (.op (some 39) none (.q (.bin .shl (.t 37) (.t 38)))
  (.op (some 2) none (.q (.mov (.t 39)))
  .nil)))) [0, 1, 2, 8] [])
 (.seq (.region none (.op (some 40) none (.q (.mov (.t 2)))
  (.op (some 41) none (.q (.bin .shr (.t 40) (.c (.one (.p (.int .u64 32))))))
  (.op (some 9) none (.q (.mov (.t 41)))
  .nil))) [0, 1, 2, 8, 9] [])
 (.seq (.region none (.op (some 42) none (.q (.mov (.t 2)))
  (.op (some 43) none (.q (.bin .and (.t 42) (.c (.one (.p (.int .u64 4294967295))))))
  (.op (some 10) none (.q (.mov (.t 43)))
  .nil))) [0, 1, 2, 8, 9, 10] [])
 (.seq (.region none (.op (some 44) none (.q (.mov (.t 0)))
  (.op (some 45) none (.q (.mov (.t 8)))
  (.op (some 46) none (.q (.bin .shl (.t 44) (.t 45)))
  (.op (some 47) none (.q (.mov (.t 1)))
  (.op (some 48) none (.q (.mov (.t 8)))
  (.op (some 49) none (.q (.bin .sub (.c (.one (.p (.int .u64 64)))) (.t 48)))
  (.op (some 50) none (.q (.bin .shr (.t 47) (.t 49)))
  (.op (some 51) none (.q (.bin .or (.t 46) (.t 50)))
  (.op (some 11) none (.q (.mov (.t 51)))
  .nil))))))))) [1, 2, 8, 9, 10, 11] [])
 (.seq (.region none (.op (some 52) none (.q (.mov (.t 1)))
  (.op (some 53) none (.q (.mov (.t 8)))
  (.op (some 54) none (.q (.bin .shl (.t 52) (.t 53)))
  (.op (some 12) none (.q (.mov (.t 54)))
  .nil)))) [2, 8, 9, 10, 11, 12] [])
 (.seq (.region none (.op (some 55) none (.q (.mov (.t 12)))
  (.op (some 56) none (.q (.bin .shr (.t 55) (.c (.one (.p (.int .u64 32))))))
  (.op (some 13) none (.q (.mov (.t 56)))
  .nil))) [2, 8, 9, 10, 11, 12, 13] [])
 (.seq (.region none (.op (some 57) none (.q (.mov (.t 12)))
  (.op (some 58) none (.q (.bin .and (.t 57) (.c (.one (.p (.int .u64 4294967295))))))
  (.op (some 14) none (.q (.mov (.t 58)))
  .nil))) [2, 8, 9, 10, 11, 13, 14] [])
 (.seq (.region none (.op (some 59) none (.q (.mov (.t 11)))
  (.op (some 60) none (.q (.mov (.t 9)))
  (.op (some 61) none (.q (.bin .quo (.t 59) (.t 60)))
  (.op (some 15) none (.q (.mov (.t 61)))
  .nil)))) [2, 8, 9, 10, 11, 13, 14, 15] [])
 (.seq (.region none (.op (some 62) none (.q (.mov (.t 11)))
  (.op (some 63) none (.q (.mov (.t 15)))
  (.op (some 64) none (.q (.mov (.t 9)))
  (.op (some 65) none (.q (.bin .mul (.t 63) (.t 64)))
  (.op (some 66) none (.q (.bin .sub (.t 62) (.t 65)))
  (.op (some 16) none (.q (.mov (.t 66)))
  .nil)))))) [2, 8, 9, 10, 11, 13, 14, 15, 16] [])
 (.seq (.block 0 (.loop (.seq (.seq (.region none (.op (some 67) none (.q (.mov (.t 15)))
  (.op (some 68) none (.q (.bin .geq (.t 67) (.c (.one (.p (.int .u64 4294967296))))))
  (.op (some 69) none (.q (.mov (.t 68)))
  (.sc 78 69 false 77 none
  (.op (some 70) (some (69, false)) (.q (.mov (.t 15)))
  (.op (some 71) (some (69, false)) (.q (.mov (.t 10)))
  (.op (some 72) (some (69, false)) (.q (.bin .mul (.t 70) (.t 71)))
  (.op (some 73) (some (69, false)) (.q (.mov (.t 16)))
  (.op (some 74) (some (69, false)) (.q (.bin .mul (.c (.one (.p (.int .u64 4294967296)))) (.t 73)))
  (.op (some 75) (some (69, false)) (.q (.mov (.t 13)))
  (.op (some 76) (some (69, false)) (.q (.bin .add (.t 74) (.t 75)))
  (.op (some 77) (some (69, false)) (.q (.bin .gtr (.t 72) (.t 76)))
  .nil))))))))
  .nil)))) [2, 8, 9, 10, 11, 13, 14, 15, 16, 78] [])
 (.cond (.t 78) .skip
 (.exit 0)))
 (.block 1 (.seq (.region none (.op (some 79) none (.q (.mov (.t 15)))
  (.op (some 80) none (.q (.bin .sub (.t 79) (.c (.one (.p (.int .u64 1))))))
  (.op (some 15) none (.q (.mov (.t 80)))
  .nil))) [2, 8, 9, 10, 11, 13, 14, 15, 16] [])
 (.seq (.region none (.op (some 81) none (.q (.mov (.t 16)))
  (.op (some 82) none (.q (.mov (.t 9)))
  (.op (some 83) none (.q (.bin .add (.t 81) (.t 82)))
  (.op (some 16) none (.q (.mov (.t 83)))
  .nil)))) [2, 8, 9, 10, 11, 13, 14, 15, 16] [])
 (.seq (.region none (.op (some 84) none (.q (.mov (.t 16)))
  (.op (some 85) none (.q (.bin .geq (.t 84) (.c (.one (.p (.int .u64 4294967296))))))
  .nil)) [2, 8, 9, 10, 11, 13, 14, 15, 16, 85] [])
 (.cond (.t 85) (.exit 0)
 .skip))))))))
 (.seq (.region none (.op (some 86) none (.q (.mov (.t 11)))
  (.op (some 87) none (.q (.bin .mul (.t 86) (.c (.one (.p (.int .u64 4294967296))))))
  (.op (some 88) none (.q (.mov (.t 13)))
  (.op (some 89) none (.q (.bin .add (.t 87) (.t 88)))
  (.op (some 90) none (.q (.mov (.t 15)))
  (.op (some 91) none (.q (.mov (.t 2)))
  (.op (some 92) none (.q (.bin .mul (.t 90) (.t 91)))
  (.op (some 93) none (.q (.bin .sub (.t 89) (.t 92)))
  (.op (some 17) none (.q (.mov (.t 93)))
  .nil))))))))) [2, 8, 9, 10, 14, 15, 17] [])
 (.seq (.region none (.op (some 94) none (.q (.mov (.t 17)))
  (.op (some 95) none (.q (.mov (.t 9)))
  (.op (some 96) none (.q (.bin .quo (.t 94) (.t 95)))
  (.op (some 18) none (.q (.mov (.t 96)))
  .nil)))) [2, 8, 9, 10, 14, 15, 17, 18] [])
 (.seq (.region none (.op (some 97) none (.q (.mov (.t 17)))
  (.op (some 98) none (.q (.mov (.t 18)))
  (.op (some 99) none (.q (.mov (.t 9)))
  (.op (some 100) none (.q (.bin .mul (.t 98) (.t 99)))
  (.op (some 101) none (.q (.bin .sub (.t 97) (.t 100)))
  (.op (some 16) none (.q (.mov (.t 101)))
  .nil)))))) [2, 8, 9, 10, 14, 15, 16, 17, 18] [])
 (.seq (.block 2 (.loop (.seq (.seq (.region none (.op (some 102) none (.q (.mov (.t 18)))
  (.op (some 103) none (.q (.bin .geq (.t 102) (.c (.one (.p (.int .u64 4294967296))))))
  (.op (some 104) none (.q (.mov (.t 103)))
  (.sc 113 104 false 112 none
  (.op (some 105) (some (104, false)) (.q (.mov (.t 18)))
  (.op (some 106) (some (104, false)) (.q (.mov (.t 10)))
  (.op (some 107) (some (104, false)) (.q (.bin .mul (.t 105) (.t 106)))
  (.op (some 108) (some (104, false)) (.q (.mov (.t 16)))
  (.op (some 109) (some (104, false)) (.q (.bin .mul (.c (.one (.p (.int .u64 4294967296)))) (.t 108)))
  (.op (some 110) (some (104, false)) (.q (.mov (.t 14)))
  (.op (some 111) (some (104, false)) (.q (.bin .add (.t 109) (.t 110)))
  (.op (some 112) (some (104, false)) (.q (.bin .gtr (.t 107) (.t 111)))
  .nil))))))))
  .nil)))) [2, 8, 9, 10, 14, 15, 16, 17, 18, 113] [])
 (.cond (.t 113) .skip
 (.exit 2)))
 (.block 3 (.seq (.region none (.op (some 114) none (.q (.mov (.t 18)))
  (.op (some 115) none (.q (.bin .sub (.t 114) (.c (.one (.p (.int .u64 1))))))
  (.op (some 18) none (.q (.mov (.t 115)))
  .nil))) [2, 8, 9, 10, 14, 15, 16, 17, 18] [])
 (.seq (.region none (.op (some 116) none (.q (.mov (.t 16)))
  (.op (some 117) none (.q (.mov (.t 9)))
  (.op (some 118) none (.q (.bin .add (.t 116) (.t 117)))
  (.op (some 16) none (.q (.mov (.t 118)))
  .nil)))) [2, 8, 9, 10, 14, 15, 16, 17, 18] [])
 (.seq (.region none (.op (some 119) none (.q (.mov (.t 16)))
  (.op (some 120) none (.q (.bin .geq (.t 119) (.c (.one (.p (.int .u64 4294967296))))))
  .nil)) [2, 8, 9, 10, 14, 15, 16, 17, 18, 120] [])
 (.cond (.t 120) (.exit 2)
 .skip))))))))
 (.seq (.region none (.op (some 121) none (.q (.mov (.t 15)))
  (.op (some 122) none (.q (.bin .mul (.t 121) (.c (.one (.p (.int .u64 4294967296))))))
  (.op (some 123) none (.q (.mov (.t 18)))
  (.op (some 124) none (.q (.bin .add (.t 122) (.t 123)))
  (.op (some 125) none (.q (.mov (.t 17)))
  (.op (some 126) none (.q (.bin .mul (.t 125) (.c (.one (.p (.int .u64 4294967296))))))
  (.op (some 127) none (.q (.mov (.t 14)))
  (.op (some 128) none (.q (.bin .add (.t 126) (.t 127)))
  (.op (some 129) none (.q (.mov (.t 18)))
  (.op (some 130) none (.q (.mov (.t 2)))
  (.op (some 131) none (.q (.bin .mul (.t 129) (.t 130)))
  (.op (some 132) none (.q (.bin .sub (.t 128) (.t 131)))
  (.op (some 133) none (.q (.mov (.t 8)))
  (.op (some 134) none (.q (.bin .shr (.t 132) (.t 133)))
  (.op (some 6) none (.q (.mov (.t 124)))
  (.op (some 7) none (.q (.mov (.t 134)))
  .nil)))))))))))))))) [6, 7] [])
 .ret))))))))))))))))))))
theorem is_math_bits_Div64 : compC Try.prog (Try.f146.body.getD .skip) = some a_math_bits_Div64.erase := by kernel_rfl
theorem ok_math_bits_Div64 : a_math_bits_Div64.ok 135 = true := by kernel_rfl
theorem rv_math_bits_Div64 : compRV Try.prog Try.f146.results.toList = some [.tmp 6, .tmp 7] := by kernel_rfl
theorem pure_math_bits_Div64 {ds : List DV} {r : DV} (hn : ds.length ≤ 135) (h : ∀ (G : AM.Ground), G.P = Try.prog → G.nt = 135 → T G Fence.wide 0 a_math_bits_Div64 (AM.Ends [.tmp 6, .tmp 7] r) { env := initE 0 ds, σ := [] }) : PureC Try.prog fi_math_bits_Div64 ds r :=
  pureC_of Try.call146 Try.func146 (by rfl) is_math_bits_Div64 ok_math_bits_Div64 rv_math_bits_Div64 hn h

def a_fix_shifted : ACode := (.seq (.region none (.op (some 4) none (.q (.mov (.c (.one (.p (.int .i64 0))))))
  (.op (some 5) none (.q (.mov (.c (.one (.p (.int .i64 0))))))
  .nil)) [0, 1] [])
 (.seq (.seq (.region none (.op (some 6) none (.q (.mov (.t 1)))
  (.op (some 7) none (.q (.bin .lss (.t 6) (.c (.one (.p (.int .i64 0))))))
  .nil)) [0, 1, 7] [])
 (.cond (.t 7) (.seq (.region none (.op (some 8) none (.q (.mov (.t 0)))
  (.op (some 9) none (.q (.mov (.t 1)))
  (.op (some 10) none (.q (.un .neg (.t 9)))
  (.op (some 11) none (.q (.conv .u64 (.t 10)))
  (.op (some 12) none (.q (.mm false (.t 11) (.c (.one (.p (.int .u64 63))))))
  (.op (some 13) none (.q (.bin .shr (.t 8) (.t 12)))
  (.op (some 14) none (.q (.conv .i64 (.t 13)))
  (.op (some 4) none (.q (.mov (.t 14)))
  (.op (some 5) none (.q (.mov (.c (.one (.p (.int .i64 0))))))
  .nil))))))))) [4, 5] [])
 .ret)
 .skip))
 (.seq (.region (some [[], [0], [0], [], [], [0, 1, 2, 3, 4], [0, 1, 2, 3, 4], [0, 1, 2, 3, 4, 5, 6], [0, 1, 2, 3, 4], [0, 1, 2, 3, 4], [], [], [11], [], []]) (.op (some 15) none (.q (.mov (.t 0)))
  (.op (some 16) none (.q (.mov (.t 1)))
  (.op (some 17) none (.q (.mm false (.t 16) (.c (.one (.p (.int .i64 63))))))
  (.op (some 18) none (.q (.bin .shl (.t 15) (.t 17)))
  (.op (some 19) none (.q (.conv .i64 (.t 18)))
  (.op (some 20) none (.q (.mov (.t 0)))
  (.op (some 21) none (.call (.c (.one (.p (.fn fi_math_bits_Len64 [] [])))) [(.t 20)])
  (.op (some 22) none (.q (.mov (.t 1)))
  (.op (some 23) none (.q (.bin .add (.t 21) (.t 22)))
  (.op (some 24) none (.q (.bin .lss (.t 23) (.c (.one (.p (.int .i64 64))))))
  (.op (some 25) none (.call (.c (.one (.p (.fn fi_fix_told [] [])))) [(.t 19), (.t 24)])
  (.op (some 26) none (.q (.extr (.t 25) 0))
  (.op (some 27) none (.q (.extr (.t 25) 1))
  (.op (some 4) none (.q (.mov (.t 26)))
  (.op (some 5) none (.q (.mov (.t 27)))
  .nil))))))))))))))) [4, 5] [])
 .ret)))
theorem is_fix_shifted : compC Try.prog (Try.f147.body.getD .skip) = some a_fix_shifted.erase := by kernel_rfl
theorem ok_fix_shifted : a_fix_shifted.ok 28 = true := by kernel_rfl
theorem rv_fix_shifted : compRV Try.prog Try.f147.results.toList = some [.tmp 4, .tmp 5] := by kernel_rfl
theorem pure_fix_shifted {ds : List DV} {r : DV} (hn : ds.length ≤ 28) (h : ∀ (G : AM.Ground), G.P = Try.prog → G.nt = 28 → T G Fence.wide 0 a_fix_shifted (AM.Ends [.tmp 4, .tmp 5] r) { env := initE 0 ds, σ := [] }) : PureC Try.prog fi_fix_shifted ds r :=
  pureC_of Try.call147 Try.func147 (by rfl) is_fix_shifted ok_fix_shifted rv_fix_shifted hn h

def a_math_bits_LeadingZeros64 : ACode := (.seq (.region none (.op (some 2) none (.q (.mov (.c (.one (.p (.int .i64 0))))))
  .nil) [0] [])
 (.seq (.region none (.op (some 3) none (.q (.mov (.t 0)))
  (.op (some 4) none (.call (.c (.one (.p (.fn fi_math_bits_Len64 [] [])))) [(.t 3)])
  (.op (some 5) none (.q (.bin .sub (.c (.one (.p (.int .i64 64)))) (.t 4)))
  (.op (some 2) none (.q (.mov (.t 5)))
  .nil)))) [2] [])
 .ret))
theorem is_math_bits_LeadingZeros64 : compC Try.prog (Try.f152.body.getD .skip) = some a_math_bits_LeadingZeros64.erase := by kernel_rfl
theorem ok_math_bits_LeadingZeros64 : a_math_bits_LeadingZeros64.ok 6 = true := by kernel_rfl
theorem rv_math_bits_LeadingZeros64 : compRV Try.prog Try.f152.results.toList = some [.tmp 2] := by kernel_rfl
theorem pure_math_bits_LeadingZeros64 {ds : List DV} {r : DV} (hn : ds.length ≤ 6) (h : ∀ (G : AM.Ground), G.P = Try.prog → G.nt = 6 → T G Fence.wide 0 a_math_bits_LeadingZeros64 (AM.Ends [.tmp 2] r) { env := initE 0 ds, σ := [] }) : PureC Try.prog fi_math_bits_LeadingZeros64 ds r :=
  pureC_of Try.call152 Try.func152 (by rfl) is_math_bits_LeadingZeros64 ok_math_bits_LeadingZeros64 rv_math_bits_LeadingZeros64 hn h

def a_math_bits_Len64 : ACode := (.seq (.region none (.op (some 2) none (.q (.mov (.c (.one (.p (.int .i64 0))))))
  .nil) [0, 2] [])
 (.seq (.seq (.region none (.op (some 3) none (.q (.mov (.t 0)))
  (.op (some 4) none (.q (.bin .geq (.t 3) (.c (.one (.p (.int .u64 4294967296))))))
  .nil)) [0, 2, 4] [])
 (.cond (.t 4) (.seq (.region none (.op (some 5) none (.q (.mov (.t 0)))
  (.op (some 6) none (.q (.bin .shr (.t 5) (.c (.one (.p (.int .u64 32))))))
  (.op (some 0) none (.q (.mov (.t 6)))
  .nil))) [0] [])
 (.region none (.op (some 2) none (.q (.mov (.c (.one (.p (.int .i64 32))))))
  .nil) [0, 2] []))
 .skip))
 (.seq (.seq (.region none (.op (some 7) none (.q (.mov (.t 0)))
  (.op (some 8) none (.q (.bin .geq (.t 7) (.c (.one (.p (.int .u64 65536))))))
  .nil)) [0, 2, 8] [])
 (.cond (.t 8) (.seq (.region none (.op (some 9) none (.q (.mov (.t 0)))
  (.op (some 10) none (.q (.bin .shr (.t 9) (.c (.one (.p (.int .u64 16))))))
  (.op (some 0) none (.q (.mov (.t 10)))
  .nil))) [0, 2] [])
 (.region none (.op (some 11) none (.q (.mov (.t 2)))
  (.op (some 12) none (.q (.bin .add (.t 11) (.c (.one (.p (.int .i64 16))))))
  (.op (some 2) none (.q (.mov (.t 12)))
  .nil))) [0, 2] []))
 .skip))
 (.seq (.seq (.region none (.op (some 13) none (.q (.mov (.t 0)))
  (.op (some 14) none (.q (.bin .geq (.t 13) (.c (.one (.p (.int .u64 256))))))
  .nil)) [0, 2, 14] [])
 (.cond (.t 14) (.seq (.region none (.op (some 15) none (.q (.mov (.t 0)))
  (.op (some 16) none (.q (.bin .shr (.t 15) (.c (.one (.p (.int .u64 8))))))
  (.op (some 0) none (.q (.mov (.t 16)))
  .nil))) [0, 2] [])
 (.region none (.op (some 17) none (.q (.mov (.t 2)))
  (.op (some 18) none (.q (.bin .add (.t 17) (.c (.one (.p (.int .i64 8))))))
  (.op (some 2) none (.q (.mov (.t 18)))
  .nil))) [0, 2] []))
 .skip))
 (.seq (.region none (.op (some 19) none (.q (.mov (.t 2)))
  (.op (some 20) none (.q (.mov (.t 0)))
  (.op (some 21) none (.q (.conv .u8 (.t 20)))
  (.op (some 22) none (.q (.sidx (.c (.one (.p (.str ⟨#[0, 1, 2, 2, 3, 3, 3, 3, 4, 4, 4, 4, 4, 4, 4, 4, 5, 5, 5, 5, 5, 5, 5, 5, 5, 5, 5, 5, 5, 5, 5, 5, 6, 6, 6, 6, 6, 6, 6, 6, 6, 6, 6, 6, 6, 6, 6, 6, 6, 6, 6, 6, 6, 6, 6, 6, 6, 6, 6, 6, 6, 6, 6, 6, 7, 7, 7, 7, 7, 7, 7, 7, 7, 7, 7, 7, 7, 7, 7, 7, 7, 7, 7, 7, 7, 7, 7, 7, 7, 7, 7, 7, 7, 7, 7, 7, 7, 7, 7, 7, 7, 7, 7, 7, 7, 7, 7, 7, 7, 7, 7, 7, 7, 7, 7, 7, 7, 7, 7, 7, 7, 7, 7, 7, 7, 7, 7, 7, 8, 8, 8, 8, 8, 8, 8, 8, 8, 8, 8, 8, 8, 8, 8, 8, 8, 8, 8, 8, 8, 8, 8, 8, 8, 8, 8, 8, 8, 8, 8, 8, 8, 8, 8, 8, 8, 8, 8, 8, 8, 8, 8, 8, 8, 8, 8, 8, 8, 8, 8, 8, 8, 8, 8, 8, 8, 8, 8, 8, 8, 8, 8, 8, 8, 8, 8, 8, 8, 8, 8, 8, 8, 8, 8, 8, 8, 8, 8, 8, 8, 8, 8, 8, 8, 8, 8, 8, 8, 8, 8, 8, 8, 8, 8, 8, 8, 8, 8, 8, 8, 8, 8, 8, 8, 8, 8, 8, 8, 8, 8, 8, 8, 8, 8, 8, 8, 8, 8, 8, 8, 8, 8, 8, 8, 8, 8, 8]⟩)))) (.t 21)))
  (.op (some 23) none (.q (.conv .i64 (.t 22)))
  (.op (some 24) none (.q (.bin .add (.t 19) (.t 23)))
  (.op (some 2) none (.q (.mov (.t 24)))
  .nil))))))) [2] [])
 .ret)))))
theorem is_math_bits_Len64 : compC Try.prog (Try.f153.body.getD .skip) = some a_math_bits_Len64.erase := by kernel_rfl
theorem ok_math_bits_Len64 : a_math_bits_Len64.ok 25 = true := by kernel_rfl
theorem rv_math_bits_Len64 : compRV Try.prog Try.f153.results.toList = some [.tmp 2] := by kernel_rfl
theorem pure_math_bits_Len64 {ds : List DV} {r : DV} (hn : ds.length ≤ 25) (h : ∀ (G : AM.Ground), G.P = Try.prog → G.nt = 25 → T G Fence.wide 0 a_math_bits_Len64 (AM.Ends [.tmp 2] r) { env := initE 0 ds, σ := [] }) : PureC Try.prog fi_math_bits_Len64 ds r :=
  pureC_of Try.call153 Try.func153 (by rfl) is_math_bits_Len64 ok_math_bits_Len64 rv_math_bits_Len64 hn h

end Go.AM

namespace Go.AM
open Go Go.Proofs
set_option linter.unusedSimpArgs false
set_option linter.unusedVariables false

theorem emod_split (p b m : Int) (hb : 0 < b) (hm : 0 < m) : p % (m * b) = (p / b) % m * b + p % b := by
  have h1 := Int.mul_ediv_add_emod p b
  have h2 := Int.mul_ediv_add_emod (p / b) m
  have h3 := Int.emod_nonneg p (b := b) (by omega)
  have h4 := Int.emod_lt_of_pos p hb
  have h5 := Int.emod_nonneg (p / b) (b := m) (by omega)
  have h6 := Int.emod_lt_of_pos (p / b) hm
  generalize p / b / m = q at h2
  generalize (p / b) % m = r at h2 h5 h6 ⊢
  generalize p % b = t at h1 h3 h4 ⊢
  rw [← h2] at h1
  have e : p = (m * b) * q + (r * b + t) := by
    rw [← h1, Int.mul_add, Int.mul_comm b (m * q), Int.mul_assoc, Int.mul_comm q b, Int.mul_comm b r, ← Int.mul_assoc, Int.add_assoc]
  rw [e, Int.mul_add_emod_self_left]
  have h7 : 0 ≤ r * b := Int.mul_nonneg h5 (by omega)
  have h8 : (r + 1) * b ≤ m * b := Int.mul_le_mul_of_nonneg_right (by omega) (by omega)
  rw [Int.add_mul] at h8
  exact Int.emod_eq_of_lt (by omega) (by omega)

theorem pl_ix : ∀ {s : List Int} {p : Int}, Sides s → pl s (ix s p) 0 = p % prd s
  | [], p, _ => by simp [pl, prd, Int.emod_one]
  | m :: s, p, h => by
    have hm := h.head
    have hp := prd_pos h.tail
    simp only [pl, ix, prd]
    rw [pl_add (ix_in h.tail), pl_ix h.tail, emod_split p (prd s) m (by omega) (by omega)]
    simp

theorem pl_ix_lt {s : List Int} {p : Int} (h : Sides s) (h0 : 0 ≤ p) (h1 : p < prd s) : pl s (ix s p) 0 = p := by
  rw [pl_ix h, Int.emod_eq_of_lt h0 h1]
end Go.AM

namespace Go.AM
open Go Go.Proofs
set_option linter.unusedSimpArgs false
set_option linter.unusedVariables false

theorem mk_self {s d : List Int} (h : checkT s d = true) : mk s (fun x => (atF s d x).1) = d := by
  have hs := (checkT_iff.1 h).1
  have hd := (checkT_iff.1 h).2
  apply List.ext_getElem?
  intro p
  by_cases hp : (p : Int) < prd s
  · rw [mk_get hs _ hp, atF_ok h (ix_in hs.2.1), pl_ix_lt hs.2.1 (by omega) hp]
    simp only [Int.toNat_natCast]
    rw [List.getElem?_eq_getElem (by omega)]
    rfl
  · have h1 := mk_len hs fun x => (atF s d x).1
    rw [List.getElem?_eq_none (by omega), List.getElem?_eq_none (by omega)]

end Go.AM

namespace Go.AM
open Go Go.Proofs
set_option maxRecDepth 100000
set_option maxHeartbeats 4000000
set_option linter.unusedSimpArgs false
set_option linter.unusedVariables false

theorem rng_err (n : Int) : (rng n).2 = 0 ∨ (rng n).2 = 10 := by unfold rng; split <;> simp
end Go.AM

namespace Go.AM
open Go Go.Proofs
set_option maxRecDepth 100000
set_option maxHeartbeats 4000000
set_option linter.unusedSimpArgs false
set_option linter.unusedVariables false

theorem spread_check {s d g : List Int} (h : ShapeOk g) : checkT g (spreadD s d g) = true := mk_check h _
theorem spread_at {s d g x : List Int} (h : ShapeOk g) (hx : InIdx g x) : atF g (spreadD s d g) x = ((atF s d (fromX s x)).1, 0) := mk_at h hx _
theorem spread_self {s d : List Int} (h : checkT s d = true) : spreadD s d s = d := by
  have hs := (checkT_iff.1 h).1
  unfold spreadD
  rw [mk_congr hs (g' := fun x => (atF s d x).1) fun x hx => by
    have hxl := hx.length
    unfold fromX
    rw [← hxl, Nat.sub_self, List.drop_zero, clip_self hx]]
  exact mk_self h
end Go.AM

namespace Go.AM
open Go Go.Proofs
set_option maxRecDepth 100000
set_option maxHeartbeats 4000000
set_option linter.unusedSimpArgs false
set_option linter.unusedVariables false

theorem coll_bad {f : Nat → Int × Int} {n : Nat} (h : (coll f n 0 []).2 ≠ 0) : ∃ k, k < n ∧ (∀ j, j < k → (f j).2 = 0) ∧ (f k).2 ≠ 0 ∧ coll f n 0 [] = ([], (f k).2) := by
  rcases coll_cases f n with c | ⟨j, hj, c1, c2⟩
  · rw [coll_ok (fun p hp => by rw [Nat.zero_add]; exact c p hp)] at h; exact absurd rfl h
  · have := coll_err (f := f) (n := n) (a := 0) (acc := []) hj (fun i hi => by rw [Nat.zero_add]; exact c1 i hi) (by rw [Nat.zero_add]; exact c2)
    rw [Nat.zero_add] at this
    exact ⟨j, hj, c1, c2, this⟩
theorem eachF_bad {s : List Int} {h : Nat → Int × Int} (k : (eachF s h).2 ≠ 0) : ∃ p, p < (sizeS s).toNat ∧ (h p).2 ≠ 0 ∧ eachF s h = bad (h p).2 := by
  by_cases c : (coll h (sizeS s).toNat 0 []).2 = 0
  · unfold eachF at k; rw [if_pos c] at k; exact absurd rfl k
  · obtain ⟨p, hp, _, h2, h3⟩ := coll_bad c
    refine ⟨p, hp, h2, ?_⟩
    unfold eachF; rw [h3, if_neg h2]

theorem self_gt {s d : List Int} (h : checkT s d = true) {p : Nat} (hp : p < (sizeS s).toNat) : gt d p = val s d (ix s p) := by
  obtain ⟨h1, h2⟩ := checkT_iff.1 h
  have hsz := sizeS_ok h1
  unfold val
  rw [atF_ok h (ix_in h1.2.1), pl_ix_lt h1.2.1 (by omega) (by omega)]
  rfl
end Go.AM

namespace Go.AM
open Go Go.Proofs Go.Proofs.Ytcmbjbmghoopcaa
set_option maxRecDepth 100000
set_option linter.unusedSimpArgs false
set_option linter.unusedVariables false

theorem arg_N {d : DV} (h : ArgOk Try.prog 3 d) : ∃ n : Int, d = dN n ∧ -9223372036854775808 ≤ n ∧ n < 9223372036854775808 := by
  unfold ArgOk at h
  rw [Try.underlying3] at h
  obtain ⟨v, rfl, h⟩ := h
  obtain ⟨s, e, hs⟩ := conf_int h
  cases e
  exact ⟨s, rfl, hs⟩

end Go.AM

namespace Go.AM
open Go Go.Proofs
set_option maxRecDepth 100000
set_option maxHeartbeats 4000000
set_option linter.unusedSimpArgs false
set_option linter.unusedVariables false

def lenN (x : Nat) : Nat := if x = 0 then 0 else x.log2 + 1
theorem lenN_step {x k : Nat} (h : 2 ^ k ≤ x) : lenN x = lenN (x / 2 ^ k) + k := by
  have h0 : 0 < 2 ^ k := Nat.two_pow_pos k
  have hx : x ≠ 0 := by omega
  have hq : x / 2 ^ k ≠ 0 := by
    have := Nat.div_pos h h0
    omega
  unfold lenN
  rw [if_neg hx, if_neg hq]
  have h1 := (Nat.log2_eq_iff hq).1 rfl
  generalize (x / 2 ^ k).log2 = m at *
  have h2 : 2 ^ m * 2 ^ k ≤ x := Nat.le_trans (Nat.mul_le_mul_right _ h1.1) (Nat.div_mul_le_self x _)
  have h3 : x < 2 ^ (m + 1) * 2 ^ k := by
    rw [← Nat.div_lt_iff_lt_mul h0]; exact h1.2
  rw [← Nat.pow_add] at h2 h3
  have : x.log2 = m + k := (Nat.log2_eq_iff hx).2 ⟨h2, by rw [show m + k + 1 = m + 1 + k from by omega]; exact h3⟩
  omega
theorem lenN_lt {x : Nat} {n : Nat} (h : x < 2 ^ n) : lenN x ≤ n := by
  unfold lenN
  split
  · omega
  · rename_i hx
    have := (Nat.log2_eq_iff hx).1 rfl
    have h2 : 2 ^ x.log2 < 2 ^ n := Nat.lt_of_le_of_lt this.1 h
    have := (Nat.pow_lt_pow_iff_right (by decide : 1 < 2)).1 h2
    omega
theorem lenN_pow {x : Nat} (h : x ≠ 0) (hx : x < 18446744073709551616) : lenN x ≤ 64 ∧ 1 ≤ lenN x ∧ 9223372036854775808 ≤ x * 2 ^ (64 - lenN x) ∧ x * 2 ^ (64 - lenN x) < 18446744073709551616 := by
  have h1 := lenN_lt (n := 64) (x := x) (by omega)
  have h2 : lenN x = x.log2 + 1 := if_neg h
  have h3 := (Nat.log2_eq_iff h).1 rfl
  refine ⟨h1, by omega, ?_, ?_⟩
  · have : 2 ^ x.log2 * 2 ^ (64 - lenN x) ≤ x * 2 ^ (64 - lenN x) := Nat.mul_le_mul_right _ h3.1
    rw [← Nat.pow_add, show x.log2 + (64 - lenN x) = 63 from by omega] at this
    omega
  · have : x * 2 ^ (64 - lenN x) < 2 ^ (x.log2 + 1) * 2 ^ (64 - lenN x) := Nat.mul_lt_mul_of_pos_right h3.2 (Nat.two_pow_pos _)
    rw [← Nat.pow_add, show x.log2 + 1 + (64 - lenN x) = 64 from by omega] at this
    omega

/-- what is tried, and what is left: v1, v0: the divisor's halves; u: what there is, u1: the next half -/
structure Knuth (v1 v0 u u1 : Nat) : Prop where
  h1 : 2147483648 ≤ v1
  h2 : v1 < 4294967296
  h3 : v0 < 4294967296
  h4 : u < v1 * 4294967296 + v0
  h5 : u1 < 4294967296
def Knuth.q {v1 v0 u u1 : Nat} (_ : Knuth v1 v0 u u1) : Nat := (u * 4294967296 + u1) / (v1 * 4294967296 + v0)
theorem Knuth.q_lt {v1 v0 u u1 : Nat} (h : Knuth v1 v0 u u1) : h.q < 4294967296 := by
  have := h.h1; have := h.h4; have := h.h5
  unfold Knuth.q
  rw [Nat.div_lt_iff_lt_mul (by omega)]
  omega
theorem Knuth.lt_iff {v1 v0 u u1 : Nat} (h : Knuth v1 v0 u u1) {q r : Nat} (hq : q * v1 + r = u) : h.q < q ↔ q * v0 > 4294967296 * r + u1 := by
  have := h.h1
  unfold Knuth.q
  rw [Nat.div_lt_iff_lt_mul (by omega), Nat.mul_add, ← Nat.mul_assoc, ← hq]
  generalize q * v1 = P
  generalize q * v0 = A
  omega
theorem Knuth.start {v1 v0 u u1 : Nat} (h : Knuth v1 v0 u u1) : u / v1 * v1 + u % v1 = u ∧ h.q ≤ u / v1 ∧ u % v1 < 4294967296 := by
  have h1 := h.h1
  refine ⟨by rw [Nat.mul_comm]; exact Nat.div_add_mod u v1, ?_, by have := Nat.mod_lt u (y := v1) (by omega); have := h.h2; omega⟩
  rw [Nat.le_div_iff_mul_le (by omega)]
  have h2 : h.q * (v1 * 4294967296 + v0) ≤ u * 4294967296 + u1 := Nat.div_mul_le_self _ _
  rw [Nat.mul_add, ← Nat.mul_assoc] at h2
  have := h.h5
  generalize h.q * v1 = P at *
  generalize h.q * v0 = A at *
  omega
theorem Knuth.small {v1 v0 u u1 : Nat} (h : Knuth v1 v0 u u1) {q r : Nat} (hq : q * v1 + r = u) (hr : 4294967296 ≤ r) : q < 4294967296 ∧ q ≤ h.q := by
  have h1 := h.h1; have h2 := h.h2; have h3 := h.h3; have h4 := h.h4
  have hlt : q * v1 < 4294967296 * v1 := by
    rw [Nat.mul_comm 4294967296 v1]
    omega
  have hqb : q < 4294967296 := Nat.lt_of_mul_lt_mul_right hlt
  refine ⟨hqb, ?_⟩
  have : ¬ h.q < q := by
    rw [h.lt_iff hq]
    have hA : q * v0 ≤ 4294967296 * v0 := Nat.mul_le_mul_right v0 (by omega)
    omega
  omega
/-- what is left behind a digit -/
theorem Knuth.rest {v1 v0 u u1 : Nat} (h : Knuth v1 v0 u u1) : u * 4294967296 + u1 = h.q * (v1 * 4294967296 + v0) + (u * 4294967296 + u1) % (v1 * 4294967296 + v0) ∧ (u * 4294967296 + u1) % (v1 * 4294967296 + v0) < v1 * 4294967296 + v0 := by
  have h1 := h.h1
  refine ⟨?_, Nat.mod_lt _ (by omega)⟩
  unfold Knuth.q
  have := Nat.div_add_mod (u * 4294967296 + u1) (v1 * 4294967296 + v0)
  rw [Nat.mul_comm] at this
  exact this.symm

def tabL : Array UInt8 := #[0, 1, 2, 2, 3, 3, 3, 3, 4, 4, 4, 4, 4, 4, 4, 4, 5, 5, 5, 5, 5, 5, 5, 5, 5, 5, 5, 5, 5, 5, 5, 5, 6, 6, 6, 6, 6, 6, 6, 6, 6, 6, 6, 6, 6, 6, 6, 6, 6, 6, 6, 6, 6, 6, 6, 6, 6, 6, 6, 6, 6, 6, 6, 6, 7, 7, 7, 7, 7, 7, 7, 7, 7, 7, 7, 7, 7, 7, 7, 7, 7, 7, 7, 7, 7, 7, 7, 7, 7, 7, 7, 7, 7, 7, 7, 7, 7, 7, 7, 7, 7, 7, 7, 7, 7, 7, 7, 7, 7, 7, 7, 7, 7, 7, 7, 7, 7, 7, 7, 7, 7, 7, 7, 7, 7, 7, 7, 7, 8, 8, 8, 8, 8, 8, 8, 8, 8, 8, 8, 8, 8, 8, 8, 8, 8, 8, 8, 8, 8, 8, 8, 8, 8, 8, 8, 8, 8, 8, 8, 8, 8, 8, 8, 8, 8, 8, 8, 8, 8, 8, 8, 8, 8, 8, 8, 8, 8, 8, 8, 8, 8, 8, 8, 8, 8, 8, 8, 8, 8, 8, 8, 8, 8, 8, 8, 8, 8, 8, 8, 8, 8, 8, 8, 8, 8, 8, 8, 8, 8, 8, 8, 8, 8, 8, 8, 8, 8, 8, 8, 8, 8, 8, 8, 8, 8, 8, 8, 8, 8, 8, 8, 8, 8, 8, 8, 8, 8, 8, 8, 8, 8, 8, 8, 8, 8, 8, 8, 8, 8, 8, 8, 8, 8, 8, 8, 8]
theorem tab_lenN : ∀ x : Nat, x < 256 → tabL[x]? = some (UInt8.ofNat (lenN x)) := by decide +kernel
end Go.AM

namespace Go.AM
open Go Go.Proofs
set_option maxRecDepth 100000
set_option maxHeartbeats 4000000
set_option linter.unusedSimpArgs false
set_option linter.unusedVariables false

theorem tab_get (x : Nat) (h : x < 256) : (⟨#[0, 1, 2, 2, 3, 3, 3, 3, 4, 4, 4, 4, 4, 4, 4, 4, 5, 5, 5, 5, 5, 5, 5, 5, 5, 5, 5, 5, 5, 5, 5, 5, 6, 6, 6, 6, 6, 6, 6, 6, 6, 6, 6, 6, 6, 6, 6, 6, 6, 6, 6, 6, 6, 6, 6, 6, 6, 6, 6, 6, 6, 6, 6, 6, 7, 7, 7, 7, 7, 7, 7, 7, 7, 7, 7, 7, 7, 7, 7, 7, 7, 7, 7, 7, 7, 7, 7, 7, 7, 7, 7, 7, 7, 7, 7, 7, 7, 7, 7, 7, 7, 7, 7, 7, 7, 7, 7, 7, 7, 7, 7, 7, 7, 7, 7, 7, 7, 7, 7, 7, 7, 7, 7, 7, 7, 7, 7, 7, 8, 8, 8, 8, 8, 8, 8, 8, 8, 8, 8, 8, 8, 8, 8, 8, 8, 8, 8, 8, 8, 8, 8, 8, 8, 8, 8, 8, 8, 8, 8, 8, 8, 8, 8, 8, 8, 8, 8, 8, 8, 8, 8, 8, 8, 8, 8, 8, 8, 8, 8, 8, 8, 8, 8, 8, 8, 8, 8, 8, 8, 8, 8, 8, 8, 8, 8, 8, 8, 8, 8, 8, 8, 8, 8, 8, 8, 8, 8, 8, 8, 8, 8, 8, 8, 8, 8, 8, 8, 8, 8, 8, 8, 8, 8, 8, 8, 8, 8, 8, 8, 8, 8, 8, 8, 8, 8, 8, 8, 8, 8, 8, 8, 8, 8, 8, 8, 8, 8, 8, 8, 8, 8, 8, 8, 8, 8, 8]⟩ : ByteArray)[x]? = some (UInt8.ofNat (lenN x)) := by
  have := tab_lenN x h
  rw [Array.getElem?_eq_getElem (by rw [show tabL.size = 256 from rfl]; exact h)] at this
  rw [← this]
  exact getElem?_pos _ _ _

theorem u8_len {x : Nat} (h : x < 256) : (UInt8.ofNat (lenN x)).toNat = lenN x ∧ lenN x ≤ 8 := by
  have := lenN_lt (n := 8) (x := x) h
  refine ⟨?_, this⟩
  rw [UInt8.toNat_ofNat']
  omega

theorem u8_eq (n : Int) : IntKind.u8.wrap n = n % 256 := by
  simp [IntKind.wrap, IntKind.bits, IntKind.signed]
theorem p_Len64 {x : Nat} (hx : x < 18446744073709551616) : PureC Try.prog fi_math_bits_Len64 [dU x] (dN (lenN x)) := by
  refine pure_math_bits_Len64 (by simp) fun G hP hn => ?_
  unfold a_math_bits_Len64
  have fin : ∀ (y : Nat) (n : Int), y < 256 → (lenN x : Int) = lenN y + n → 0 ≤ n → n ≤ 56 → IntKind.u8.wrap (y : Int) = (y : Int) ∧ (⟨#[0, 1, 2, 2, 3, 3, 3, 3, 4, 4, 4, 4, 4, 4, 4, 4, 5, 5, 5, 5, 5, 5, 5, 5, 5, 5, 5, 5, 5, 5, 5, 5, 6, 6, 6, 6, 6, 6, 6, 6, 6, 6, 6, 6, 6, 6, 6, 6, 6, 6, 6, 6, 6, 6, 6, 6, 6, 6, 6, 6, 6, 6, 6, 6, 7, 7, 7, 7, 7, 7, 7, 7, 7, 7, 7, 7, 7, 7, 7, 7, 7, 7, 7, 7, 7, 7, 7, 7, 7, 7, 7, 7, 7, 7, 7, 7, 7, 7, 7, 7, 7, 7, 7, 7, 7, 7, 7, 7, 7, 7, 7, 7, 7, 7, 7, 7, 7, 7, 7, 7, 7, 7, 7, 7, 7, 7, 7, 7, 8, 8, 8, 8, 8, 8, 8, 8, 8, 8, 8, 8, 8, 8, 8, 8, 8, 8, 8, 8, 8, 8, 8, 8, 8, 8, 8, 8, 8, 8, 8, 8, 8, 8, 8, 8, 8, 8, 8, 8, 8, 8, 8, 8, 8, 8, 8, 8, 8, 8, 8, 8, 8, 8, 8, 8, 8, 8, 8, 8, 8, 8, 8, 8, 8, 8, 8, 8, 8, 8, 8, 8, 8, 8, 8, 8, 8, 8, 8, 8, 8, 8, 8, 8, 8, 8, 8, 8, 8, 8, 8, 8, 8, 8, 8, 8, 8, 8, 8, 8, 8, 8, 8, 8, 8, 8, 8, 8, 8, 8, 8, 8, 8, 8, 8, 8, 8, 8, 8, 8, 8, 8, 8, 8, 8, 8, 8, 8]⟩ : ByteArray)[y]? = some (UInt8.ofNat (lenN y)) ∧ IntKind.i64.wrap ((((UInt8.ofNat (lenN y)).toNat : Nat)) : Int) = (lenN y : Int) ∧ IntKind.i64.wrap (n + (lenN y : Int)) = (lenN x : Int) := fun y n h h2 h0 h3 => by
    have h4 := u8_len h
    refine ⟨by rw [u8_eq]; omega, tab_get y h, ?_, ?_⟩
    · rw [h4.1]; exact wrap_in (by omega) (by omega)
    · rw [wrap_in (by omega) (by omega), h2]; omega
  have s32 : shrZ .u64 (x : Int) 32 = ((x / 2 ^ 32 : Nat) : Int) := shr32 x
  have shr : ∀ (y k : Nat), k ≤ 64 → shrZ .u64 (y : Int) (k : Int) = ((y / 2 ^ k : Nat) : Int) := fun y k hk => by
    unfold shrZ
    rw [Int.toNat_natCast, show min k (IntKind.u64.bits) = k from by show min k 64 = k; omega, Int.fdiv_eq_ediv_of_nonneg _ (Int.pow_nonneg (by decide))]
    push_cast; rfl
  have shr16 : ∀ y : Nat, shrZ .u64 (y : Int) 16 = ((y / 2 ^ 16 : Nat) : Int) := fun y => shr y 16 (by decide)
  have shr8 : ∀ y : Nat, shrZ .u64 (y : Int) 8 = ((y / 2 ^ 8 : Nat) : Int) := fun y => shr y 8 (by decide)
  obtain ⟨x1, n1, e1, b1, h1⟩ : ∃ (x1 : Nat) (n1 : Int), (lenN x : Int) = lenN x1 + n1 ∧ x1 < 2 ^ 32 ∧ ((¬ (x : Int) ≥ 4294967296 ∧ x = x1 ∧ 0 = n1) ∨ ((x : Int) ≥ 4294967296 ∧ x / 2 ^ 32 = x1 ∧ 32 = n1)) := by
    by_cases h : x < 2 ^ 32
    · exact ⟨x, 0, by omega, h, .inl ⟨by omega, rfl, rfl⟩⟩
    · exact ⟨x / 2 ^ 32, 32, by have := lenN_step (x := x) (k := 32) (by omega); omega, by omega, .inr ⟨by omega, rfl, rfl⟩⟩
  obtain ⟨x2, n2, e2, b2, h2⟩ : ∃ (x2 : Nat) (n2 : Int), (lenN x1 : Int) = lenN x2 + n2 ∧ x2 < 2 ^ 16 ∧ ((¬ (x1 : Int) ≥ 65536 ∧ x1 = x2 ∧ 0 = n2) ∨ ((x1 : Int) ≥ 65536 ∧ x1 / 2 ^ 16 = x2 ∧ 16 = n2)) := by
    by_cases h : x1 < 2 ^ 16
    · exact ⟨x1, 0, by omega, h, .inl ⟨by omega, rfl, rfl⟩⟩
    · exact ⟨x1 / 2 ^ 16, 16, by have := lenN_step (x := x1) (k := 16) (by omega); omega, by omega, .inr ⟨by omega, rfl, rfl⟩⟩
  obtain ⟨x3, n3, e3, b3, h3⟩ : ∃ (x3 : Nat) (n3 : Int), (lenN x2 : Int) = lenN x3 + n3 ∧ x3 < 2 ^ 8 ∧ ((¬ (x2 : Int) ≥ 256 ∧ x2 = x3 ∧ 0 = n3) ∨ ((x2 : Int) ≥ 256 ∧ x2 / 2 ^ 8 = x3 ∧ 8 = n3)) := by
    by_cases h : x2 < 2 ^ 8
    · exact ⟨x2, 0, by omega, h, .inl ⟨by omega, rfl, rfl⟩⟩
    · exact ⟨x2 / 2 ^ 8, 8, by have := lenN_step (x := x2) (k := 8) (by omega); omega, by omega, .inr ⟨by omega, rfl, rfl⟩⟩
  have hnn : 0 ≤ n1 + n2 + n3 ∧ n1 + n2 + n3 ≤ 56 := by omega
  obtain ⟨g1, g2, g3, g4⟩ := fin x3 (n1 + n2 + n3) b3 (by omega) (by omega) (by omega)
  have w1 : IntKind.i64.wrap 8 = 8 := by decide
  have w2 : IntKind.i64.wrap 16 = 16 := by decide
  have w3 : IntKind.i64.wrap 24 = 24 := by decide
  have w4 : IntKind.i64.wrap 40 = 40 := by decide
  have w5 : IntKind.i64.wrap 48 = 48 := by decide
  have w6 : IntKind.i64.wrap 56 = 56 := by decide
  clear e1 e2 e3 fin shr
  rcases h1 with ⟨c1, rfl, rfl⟩ | ⟨c1, rfl, rfl⟩
  all_goals
    rcases h2 with ⟨c2, rfl, rfl⟩ | ⟨c2, rfl, rfl⟩
    all_goals
      rcases h3 with ⟨c3, rfl, rfl⟩ | ⟨c3, rfl, rfl⟩
      all_goals
        simp only [Int.add_zero, Int.zero_add, Int.reduceAdd] at g4
        repeat' (first | apply T_then | apply then_ret | apply then_exit | apply then_goto | apply rnd_exit | apply rnd_ret | apply rnd_goto | apply noGo_normal | apply noGo_ret | apply noGo_exit | apply jmp_normal | apply jmp_ret | apply jmp_exit | apply jmp_goto | apply inB_normal | apply inB_ret | apply inB_goto | apply inB_exit | refine inB_exit_ne rfl ?_ | ((first | apply T_srK fw | apply T_regK fw); · ((try simp only [TOps.flat, List.cons_append, List.nil_append]); repeat (first | apply X_g0 | apply X_g | apply S_keep | apply X_skip | apply X_skipN | apply X_q | apply X_st | apply X_n | apply X_s | apply SKs0 | apply SKs2 | apply SKs1 | refine ⟨⟨rfl, rfl⟩, ?_⟩ | refine ⟨⟨rfl, ?_⟩, ?_⟩ | refine ⟨?_, ?_⟩ | (· (try simp only [go_sem, seval, reduceIte, ↓reduceIte, Bool.not_eq_true, reduceCtorEq, beq_false, beq_true, hn, hP, c1, c2, c3, s32, shr16, shr8, w1, w2, w3, w4, w5, w6, g1, g2, g3, g4]); first | done | rfl)))) | apply T_seq | apply T_block | refine T_scopeJ 0 rfl ?_ | apply T_scope | apply T_goto | apply T_ret | apply T_skip | apply T_exit | apply T_label | refine T_condT rfl ?_ | refine T_condF rfl ?_ | refine T_condD rfl (fun _ => ?_) (fun _ => ?_) | refine T_cond rfl (fun _ => ?_) (fun _ => ?_))
        exact ends_ret rfl rfl rfl (by first | rfl | (simp only [Int.zero_add]; rw [g4]; rfl))

def lzN (x : Nat) : Nat := 64 - lenN x
theorem p_LZ64 {x : Nat} (hx : x < 18446744073709551616) : PureC Try.prog fi_math_bits_LeadingZeros64 [dU x] (dN (lzN x)) := by
  refine pure_math_bits_LeadingZeros64 (by simp) fun G hP hn => ?_
  unfold a_math_bits_LeadingZeros64
  have k := p_Len64 hx
  have hl := lenN_lt (n := 64) (x := x) (by omega)
  have w : IntKind.i64.wrap (64 - (lenN x : Int)) = (lzN x : Int) := by unfold lzN; rw [wrap_in (by omega) (by omega)]; omega
  repeat' (first | apply T_then | apply then_ret | apply then_exit | apply then_goto | apply rnd_exit | apply rnd_ret | apply rnd_goto | apply noGo_normal | apply noGo_ret | apply noGo_exit | apply jmp_normal | apply jmp_ret | apply jmp_exit | apply jmp_goto | apply inB_normal | apply inB_ret | apply inB_goto | apply inB_exit | refine inB_exit_ne rfl ?_ | ((first | apply T_srK fw | apply T_regK fw); · ((try simp only [TOps.flat, List.cons_append, List.nil_append]); repeat (first | apply X_g0 | apply X_g | apply S_keep | apply X_skip | apply X_skipN | refine X_call ?_ ⟨_, _, _, _, _, _, rfl, rfl, rfl, by rw [hP]; exact k⟩ ?_ | apply X_q | apply X_st | apply X_n | apply X_s | apply SKs0 | apply SKs2 | apply SKs1 | refine ⟨⟨rfl, rfl⟩, ?_⟩ | refine ⟨⟨rfl, ?_⟩, ?_⟩ | refine ⟨?_, ?_⟩ | (· (try simp only [go_sem, seval, reduceIte, ↓reduceIte, Bool.not_eq_true, reduceCtorEq, beq_false, beq_true, hn, hP, w]); first | done | rfl)))) | apply T_seq | apply T_block | refine T_scopeJ 0 rfl ?_ | apply T_scope | apply T_goto | apply T_ret | apply T_skip | apply T_exit | apply T_label | refine T_condT rfl ?_ | refine T_condF rfl ?_ | refine T_condD rfl (fun _ => ?_) (fun _ => ?_) | refine T_cond rfl (fun _ => ?_) (fun _ => ?_))
  exact ends_ret rfl rfl rfl rfl
end Go.AM

namespace Go.AM
open Go Go.Proofs
set_option maxRecDepth 100000
set_option maxHeartbeats 4000000
set_option linter.unusedSimpArgs false
set_option linter.unusedVariables false

theorem shlN {x k : Nat} (hk : k ≤ 64) (h : x * 2 ^ k < 18446744073709551616) : shlZ .u64 (x : Int) (k : Int) = ((x * 2 ^ k : Nat) : Int) := by
  unfold shlZ
  rw [Int.toNat_natCast, show min k (IntKind.u64.bits) = k from by show min k 64 = k; omega]
  have : (x : Int) * 2 ^ k = ((x * 2 ^ k : Nat) : Int) := by push_cast; rfl
  rw [this]; exact u64_nat h
theorem shlM {x k : Nat} (hk : k ≤ 64) : shlZ .u64 (x : Int) (k : Int) = ((x * 2 ^ k % 18446744073709551616 : Nat) : Int) := by
  unfold shlZ
  rw [Int.toNat_natCast, show min k (IntKind.u64.bits) = k from by show min k 64 = k; omega]
  have : (x : Int) * 2 ^ k = ((x * 2 ^ k : Nat) : Int) := by push_cast; rfl
  rw [this, u64_eq]
  generalize x * 2 ^ k = m
  omega
theorem shrN {y k : Nat} (hk : k ≤ 64) : shrZ .u64 (y : Int) (k : Int) = ((y / 2 ^ k : Nat) : Int) := by
  unfold shrZ
  rw [Int.toNat_natCast, show min k (IntKind.u64.bits) = k from by show min k 64 = k; omega, Int.fdiv_eq_ediv_of_nonneg _ (Int.pow_nonneg (by decide))]
  push_cast; rfl
theorem orN {x y k : Nat} (hk : k ≤ 64) (hx : x * 2 ^ k < 18446744073709551616) (hy : y < 2 ^ k) : orZ .u64 ((x * 2 ^ k : Nat) : Int) (y : Int) = ((x * 2 ^ k + y : Nat) : Int) := by
  have hy2 : y < 18446744073709551616 := by
    have : 2 ^ k ≤ 2 ^ 64 := Nat.pow_le_pow_right (by decide) hk
    omega
  have e : x * 2 ^ k ||| y = x * 2 ^ k + y := by
    rw [← Nat.shiftLeft_eq, Nat.shiftLeft_add_eq_or_of_lt hy]
  have hs : x * 2 ^ k + y < 18446744073709551616 := by
    rw [← e]
    exact Nat.or_lt_two_pow (n := 64) hx hy2
  unfold orZ
  have h1 : (BitVec.ofInt IntKind.u64.bits ((x * 2 ^ k : Nat) : Int)).toNat = x * 2 ^ k := by
    rw [BitVec.toNat_ofInt]
    show (((x * 2 ^ k : Nat) : Int) % (18446744073709551616 : Int)).toNat = _
    omega
  have h2 : (BitVec.ofInt IntKind.u64.bits (y : Int)).toNat = y := by
    rw [BitVec.toNat_ofInt]
    show ((y : Int) % (18446744073709551616 : Int)).toNat = _
    omega
  rw [BitVec.toNat_or, h1, h2, e]
  exact u64_nat hs

theorem p_Div64_0 {lo y : Nat} (hl : lo < 18446744073709551616) (hy : y < 18446744073709551616) (h0 : 0 < y) : PureC Try.prog fi_math_bits_Div64 [dU 0, dU lo, dU y] (dUU (lo / y) (lo % y)) := by
  refine pure_math_bits_Div64 (by simp) fun G hP hn => ?_
  unfold a_math_bits_Div64
  have c1 : ((y : Int) == 0) = false := by simp; omega
  have c1' : ((y : Int) = 0) = False := by simp; omega
  have c2 : ¬ (y : Int) ≤ 0 := by omega
  have hq := Nat.div_le_self lo y
  have hr := Nat.mod_lt lo h0
  have qd : IntKind.u64.wrap ((lo : Int).tdiv (y : Int)) = ((lo / y : Nat) : Int) := by
    rw [Int.tdiv_eq_ediv_of_nonneg (by omega), ← Int.natCast_ediv]
    exact u64_nat (by omega)
  have qm : (lo : Int).tmod (y : Int) = ((lo % y : Nat) : Int) := by rw [Int.tmod_eq_emod_of_nonneg (by omega)]; omega
  repeat' (first | apply T_then | apply then_ret | apply then_exit | apply then_goto | apply rnd_exit | apply rnd_ret | apply rnd_goto | apply noGo_normal | apply noGo_ret | apply noGo_exit | apply jmp_normal | apply jmp_ret | apply jmp_exit | apply jmp_goto | apply inB_normal | apply inB_ret | apply inB_goto | apply inB_exit | refine inB_exit_ne rfl ?_ | ((first | apply T_srK fw | apply T_regK fw); · ((try simp only [TOps.flat, List.cons_append, List.nil_append]); repeat (first | apply X_g0 | apply X_g | apply S_keep | apply X_skip | apply X_skipN | apply X_q | apply X_st | apply X_n | apply X_s | apply SKs0 | apply SKs2 | apply SKs1 | refine ⟨⟨rfl, rfl⟩, ?_⟩ | refine ⟨⟨rfl, ?_⟩, ?_⟩ | refine ⟨?_, ?_⟩ | (· (try simp only [go_sem, seval, reduceIte, ↓reduceIte, Bool.not_eq_true, reduceCtorEq, beq_false, beq_true, hn, hP, c1, c1', c2, qd, qm]); first | done | rfl)))) | ((first | apply T_sdF fw (by rw [hP]; rfl) (by decide +kernel) | apply T_drF fw (by rw [hP]; rfl) (by decide +kernel)); · ((try simp only [TOps.flat, List.cons_append, List.nil_append]); repeat (first | apply Y_g0 | apply Y_g | apply Y_skip | apply Y_q | refine RunF_nil (P := G.P) ?_ | (· (try simp only [go_sem, seval, reduceIte, ↓reduceIte, Bool.not_eq_true, reduceCtorEq, beq_false, beq_true, hn, hP, c1, c1', c2, qd, qm]); first | done | rfl)))) | apply T_seq | apply T_block | refine T_scopeJ 0 rfl ?_ | apply T_scope | apply T_goto | apply T_ret | apply T_skip | apply T_exit | apply T_label | refine T_condT rfl ?_ | refine T_condF rfl ?_ | refine T_condD rfl (fun _ => ?_) (fun _ => ?_) | refine T_cond rfl (fun _ => ?_) (fun _ => ?_))
  exact ends_ret rfl rfl rfl rfl
end Go.AM

namespace Go.AM
open Go Go.Proofs
set_option maxRecDepth 100000
set_option maxHeartbeats 8000000
set_option linter.unusedSimpArgs false
set_option linter.unusedVariables false

theorem T_cutX {G : Ground} {F : Fence} {n id : Nat} {Q : Exit → AS → Prop} {s S : AS} {c b : ACode} (h : T G F n c (fun e s' => e = .exit id ∧ Weak G s' S) s) (k : T G F n b Q S) : T G F n c (inB id (Then G F n b Q)) s :=
  T_mono h fun e s' ⟨h1, h2⟩ => by subst h1; exact inB_exit (T_then (T_weak h2 k))

theorem div_lin {b H Lh L U U1 U0 U2 A B R2 : Nat} (hU : U = H + Lh) (hL : L = U1 * b + U0) (h1 : U * b + U1 = A + U2) (h2 : U2 * b + U0 = B + R2) :
    H * (b * b) + (Lh * (b * b) + L) = A * b + B + R2 := by
  have e : H * (b * b) + (Lh * (b * b) + L) = (U * b + U1) * b + U0 := by
    rw [hU, hL]; simp only [Nat.add_mul, Nat.mul_assoc, Nat.add_assoc]
  rw [e, h1, Nat.add_mul, Nat.add_assoc, h2, Nat.add_assoc]
theorem kn_next {i r v : Nat} (h : i * 2147483648 ≤ r) (hv : 2147483648 ≤ v) : (i + 1) * 2147483648 ≤ r + v := by
  rw [Nat.add_mul, Nat.one_mul]; exact Nat.add_le_add h hv
theorem kn_lt {i r : Nat} (h : i * 2147483648 ≤ r) (h2 : r < 4294967296) : i < 2 :=
  Nat.lt_of_mul_lt_mul_right (Nat.lt_of_le_of_lt h h2 : i * 2147483648 < 2 * 2147483648)
theorem div_tail {T q y s Y R2 : Nat} (hY : Y = y * 2 ^ s) (e1 : T * 2 ^ s = (q * y) * 2 ^ s + R2) (h3 : R2 < Y) (hy : 0 < y) : T / y = q ∧ T % y = R2 / 2 ^ s := by
  have hp : 0 < 2 ^ s := Nat.two_pow_pos s
  have e2 : R2 = (T - q * y) * 2 ^ s := by rw [Nat.sub_mul]; omega
  have hle : q * y ≤ T := Nat.le_of_mul_le_mul_right (by omega : (q * y) * 2 ^ s ≤ T * 2 ^ s) hp
  have e3 : R2 / 2 ^ s = T - q * y := by rw [e2, Nat.mul_div_cancel _ hp]
  have e4 : T - q * y < y := by
    rw [e2, hY] at h3
    exact Nat.lt_of_mul_lt_mul_right h3
  have e5 : T = y * q + (T - q * y) := by rw [Nat.mul_comm y q]; omega
  rw [e3]
  generalize T - q * y = r at *
  subst e5
  exact ⟨by rw [Nat.mul_add_div hy, Nat.div_eq_of_lt e4]; rfl, by rw [Nat.mul_add_mod, Nat.mod_eq_of_lt e4]⟩
/-- the whole of it, from its two digits -/
theorem div_parts {hi lo y s Y U L Lh U1 U0 U2 R2 q1 q0 : Nat} (hY : Y = y * 2 ^ s) (hU : U = hi * 2 ^ s + Lh) (hl : lo * 2 ^ s = Lh * 18446744073709551616 + L) (hL : L = U1 * 4294967296 + U0)
    (h1 : U * 4294967296 + U1 = q1 * Y + U2) (h2 : U2 * 4294967296 + U0 = q0 * Y + R2) (h3 : R2 < Y) (hy : 0 < y) :
    (hi * 18446744073709551616 + lo) / y = q1 * 4294967296 + q0 ∧ (hi * 18446744073709551616 + lo) % y = R2 / 2 ^ s := by
  refine div_tail hY ?_ h3 hy
  have a1 : (hi * 18446744073709551616 + lo) * 2 ^ s = (hi * 2 ^ s) * 18446744073709551616 + lo * 2 ^ s := by
    rw [Nat.add_mul, Nat.mul_right_comm]
  have a2 : ((q1 * 4294967296 + q0) * y) * 2 ^ s = (q1 * Y) * 4294967296 + q0 * Y := by
    rw [hY, Nat.mul_assoc, Nat.add_mul, Nat.mul_right_comm q1]
  rw [a1, a2, hl]
  exact div_lin (b := 4294967296) hU hL h1 h2

theorem wrap_sub {N P R : Nat} (h : N = P + R) (hR : R < 18446744073709551616) : IntKind.u64.wrap (((N % 18446744073709551616 : Nat) : Int) - ((P % 18446744073709551616 : Nat) : Int)) = (R : Int) := by
  rw [u64_eq]; omega
theorem wrap_mulB (a : Nat) : IntKind.u64.wrap ((a : Int) * 4294967296) = ((a * 4294967296 % 18446744073709551616 : Nat) : Int) := by
  rw [u64_eq]; omega
theorem wrap_mulN (a b : Nat) : IntKind.u64.wrap ((a : Int) * (b : Int)) = ((a * b % 18446744073709551616 : Nat) : Int) := by
  rw [u64_eq, ← Int.natCast_mul]
  generalize a * b = m
  omega
theorem wrap_addM (a b : Nat) : IntKind.u64.wrap (((a % 18446744073709551616 : Nat) : Int) + (b : Int)) = (((a + b) % 18446744073709551616 : Nat) : Int) := by
  rw [u64_eq]; omega
theorem low_B {q : Nat} (h : q < 4294967296) : q * 4294967296 % 18446744073709551616 = q * 4294967296 := by omega
theorem low_BB {q r : Nat} (h : q < 4294967296) (h2 : r < 4294967296) : IntKind.u64.wrap (((q * 4294967296 : Nat) : Int) + (r : Int)) = ((q * 4294967296 + r : Nat) : Int) := by
  rw [← Int.natCast_add]; exact u64_nat (by omega)

theorem p_Div64_1 {hi lo y : Nat} (hl : lo < 18446744073709551616) (hy : y < 18446744073709551616) (h0 : 0 < hi) (h1 : hi < y) :
    PureC Try.prog fi_math_bits_Div64 [dU hi, dU lo, dU y] (dUU ((hi * 18446744073709551616 + lo) / y) ((hi * 18446744073709551616 + lo) % y)) := by
  refine pure_math_bits_Div64 (by simp) fun G hP hn => ?_
  unfold a_math_bits_Div64
  have c1 : ((y : Int) == 0) = false := by simp; omega
  have c2 : ¬ (y : Int) ≤ hi := by omega
  have c3 : ((hi : Int) == 0) = false := by simp; omega
  have kl := p_LZ64 hy
  obtain ⟨p1, p2, p3, p4⟩ := lenN_pow (x := y) (by omega) hy
  obtain ⟨s, hs⟩ : ∃ s, s = lzN y := ⟨_, rfl⟩
  have hs64 : s ≤ 63 := by rw [hs]; unfold lzN; omega
  rw [show 64 - lenN y = s from by rw [hs]; rfl] at p3 p4
  rw [← hs] at kl
  have es : IntKind.u64.wrap (s : Int) = (s : Int) := u64_nat (by omega)
  have hp : 0 < 2 ^ s := Nat.two_pow_pos s
  obtain ⟨Y, hY⟩ : ∃ Y, Y = y * 2 ^ s := ⟨_, rfl⟩
  have f1 : shlZ .u64 (y : Int) (s : Int) = (Y : Int) := by rw [hY]; exact shlN (by omega) p4
  rw [← hY] at p3 p4
  obtain ⟨V1, hV1⟩ : ∃ V1, V1 = Y / 4294967296 := ⟨_, rfl⟩
  obtain ⟨V0, hV0⟩ : ∃ V0, V0 = Y % 4294967296 := ⟨_, rfl⟩
  have f2 : shrZ .u64 (Y : Int) 32 = (V1 : Int) := by rw [hV1]; exact shr32 Y
  have f3 : andZ .u64 (Y : Int) 4294967295 = (V0 : Int) := by rw [hV0]; exact u64_and p4
  have hYV : Y = V1 * 4294967296 + V0 := by omega
  obtain ⟨Lh, hLh⟩ : ∃ Lh, Lh = lo / 2 ^ (64 - s) := ⟨_, rfl⟩
  have hpp : 2 ^ (64 - s) * 2 ^ s = 18446744073709551616 := by rw [← Nat.pow_add, show 64 - s + s = 64 from by omega]
  have hLhs : Lh < 2 ^ s := by
    rw [hLh, Nat.div_lt_iff_lt_mul (Nat.two_pow_pos _), Nat.mul_comm, hpp]; exact hl
  have hHy : hi * 2 ^ s + 2 ^ s ≤ Y := by
    have := Nat.mul_le_mul_right (2 ^ s) (show hi + 1 ≤ y from h1)
    rw [Nat.add_mul, Nat.one_mul] at this
    rw [hY]; exact this
  have f4 : shlZ .u64 (hi : Int) (s : Int) = ((hi * 2 ^ s : Nat) : Int) := shlN (by omega) (by omega)
  have f5 : IntKind.u64.wrap (64 - (s : Int)) = ((64 - s : Nat) : Int) := by
    rw [show (64 : Int) - (s : Int) = ((64 - s : Nat) : Int) from by omega]; exact u64_nat (by omega)
  have f6 : shrZ .u64 (lo : Int) ((64 - s : Nat) : Int) = (Lh : Int) := by rw [hLh]; exact shrN (by omega)
  obtain ⟨U, hU⟩ : ∃ U, U = hi * 2 ^ s + Lh := ⟨_, rfl⟩
  have f7 : orZ .u64 ((hi * 2 ^ s : Nat) : Int) (Lh : Int) = (U : Int) := by rw [hU]; exact orN (by omega) (by omega) hLhs
  obtain ⟨L, hL⟩ : ∃ L, L = lo * 2 ^ s % 18446744073709551616 := ⟨_, rfl⟩
  have f8 : shlZ .u64 (lo : Int) (s : Int) = (L : Int) := by rw [hL]; exact shlM (by omega)
  have hlo : lo * 2 ^ s = Lh * 18446744073709551616 + L := by
    have : lo * 2 ^ s / 18446744073709551616 = Lh := by
      rw [hLh, ← hpp, Nat.mul_div_mul_right _ _ hp]
    have := Nat.div_add_mod (lo * 2 ^ s) 18446744073709551616
    omega
  have hL64 : L < 18446744073709551616 := by rw [hL]; exact Nat.mod_lt _ (by decide)
  obtain ⟨U1, hU1⟩ : ∃ U1, U1 = L / 4294967296 := ⟨_, rfl⟩
  obtain ⟨U0, hU0⟩ : ∃ U0, U0 = L % 4294967296 := ⟨_, rfl⟩
  have f9 : shrZ .u64 (L : Int) 32 = (U1 : Int) := by rw [hU1]; exact shr32 L
  have f10 : andZ .u64 (L : Int) 4294967295 = (U0 : Int) := by rw [hU0]; exact u64_and hL64
  have hLU : L = U1 * 4294967296 + U0 := by omega
  have K : Knuth V1 V0 U U1 := ⟨by omega, by omega, by omega, by omega, by omega⟩
  have hU0b : U0 < 4294967296 := by omega
  clear hLh hL hV1 hV0 hU1 hU0 hs p1 p2
  have v0 : ((V1 : Int) = 0) = False := by have := K.h1; simp; omega
  have K1 := K.start
  have hQ0 := Nat.div_le_self U V1
  obtain ⟨Q0, hQ⟩ : ∃ Q0, Q0 = U / V1 := ⟨_, rfl⟩
  obtain ⟨R0, hR⟩ : ∃ R0, R0 = U % V1 := ⟨_, rfl⟩
  rw [← hQ, ← hR] at K1
  have hU64 : U < 18446744073709551616 := by omega
  have f11 : IntKind.u64.wrap ((U : Int).tdiv (V1 : Int)) = (Q0 : Int) := by
    rw [Int.tdiv_eq_ediv_of_nonneg (by omega), ← Int.natCast_ediv, ← hQ]
    exact u64_nat (by omega)
  have f12 : IntKind.u64.wrap ((Q0 : Int) * (V1 : Int)) = ((Q0 * V1 : Nat) : Int) := by rw [← Int.natCast_mul]; exact u64_nat (by omega)
  have f13 : IntKind.u64.wrap ((U : Int) - ((Q0 * V1 : Nat) : Int)) = (R0 : Int) := by
    rw [show (U : Int) - ((Q0 * V1 : Nat) : Int) = (R0 : Int) from by omega]; exact u64_nat (by omega)
  repeat' (first | apply T_then | apply then_ret | apply then_exit | apply then_goto | apply rnd_exit | apply rnd_ret | apply rnd_goto | apply noGo_normal | apply noGo_ret | apply noGo_exit | apply jmp_normal | apply jmp_ret | apply jmp_exit | apply jmp_goto | apply inB_normal | apply inB_ret | apply inB_goto | apply inB_exit | refine inB_exit_ne rfl ?_ | ((first | apply T_srK fw | apply T_regK fw); · ((try simp only [TOps.flat, List.cons_append, List.nil_append]); repeat (first | apply X_g0 | apply X_g | apply S_keep | apply X_skip | apply X_skipN | refine X_call ?_ ⟨_, _, _, _, _, _, rfl, rfl, rfl, by rw [hP]; exact kl⟩ ?_ | apply X_q | apply X_st | apply X_n | apply X_s | apply SKs0 | apply SKs2 | apply SKs1 | refine ⟨⟨rfl, rfl⟩, ?_⟩ | refine ⟨⟨rfl, ?_⟩, ?_⟩ | refine ⟨?_, ?_⟩ | (· (try simp only [go_sem, seval, reduceIte, ↓reduceIte, Bool.not_eq_true, reduceCtorEq, beq_false, beq_true, hn, hP, c1, c2, c3, es, f1, f2, f3, f4, f5, f6, f7, f8, f9, f10, v0, f11, f12, f13]); first | done | rfl)))) | apply T_seq | apply T_block | refine T_scopeJ 0 rfl ?_ | apply T_scope | apply T_goto | apply T_ret | apply T_skip | apply T_exit | apply T_label | refine T_condT rfl ?_ | refine T_condF rfl ?_ | refine T_condD rfl (fun _ => ?_) (fun _ => ?_) | refine T_cond rfl (fun _ => ?_) (fun _ => ?_))
  refine T_cutX (S := { env := [(2, .one (.p (.int .u64 Y))), (8, .one (.p (.int .u64 s))), (9, .one (.p (.int .u64 V1))), (10, .one (.p (.int .u64 V0))), (11, .one (.p (.int .u64 U))), (13, .one (.p (.int .u64 U1))), (14, .one (.p (.int .u64 U0))), (15, .one (.p (.int .u64 K.q))), (16, .one (.p (.int .u64 ((U - K.q * V1 : Nat) : Int))))], σ := [] }) ?_ ?_
  · refine T_for 2 (fun _ (a : Nat × Nat) => { env := [(2, .one (.p (.int .u64 Y))), (8, .one (.p (.int .u64 s))), (9, .one (.p (.int .u64 V1))), (10, .one (.p (.int .u64 V0))), (11, .one (.p (.int .u64 U))), (13, .one (.p (.int .u64 U1))), (14, .one (.p (.int .u64 U0))), (15, .one (.p (.int .u64 a.1))), (16, .one (.p (.int .u64 a.2)))], σ := [] })
      (fun i a => a.1 * V1 + a.2 = U ∧ K.q ≤ a.1 ∧ a.2 < 4294967296 ∧ i * 2147483648 ≤ a.2 ∧ a.1 ≤ Q0) (Q0, R0) ⟨K1.1, K1.2.1, K1.2.2, by rw [Nat.zero_mul]; exact Nat.zero_le _, Nat.le_refl _⟩ (.refl _ _) fun i a hi ha => ?_
    obtain ⟨q, r⟩ := a
    obtain ⟨a1, a2, a3, a4, a5⟩ := ha
    simp only at a1 a2 a3 a4 a5
    have hv := K.h1
    have hv2 := K.h2
    have hv0 := K.h3
    have hK := K.q_lt
    have hiff := K.lt_iff a1
    have dec : K.q < q → (q - 1) * V1 + (r + V1) = U := fun h => by
      have : q * V1 = (q - 1) * V1 + V1 := by
        conv => lhs; rw [show q = (q - 1) + 1 from by omega, Nat.add_mul, Nat.one_mul]
      omega
    have w1 : 1 ≤ q → IntKind.u64.wrap ((q : Int) - 1) = ((q - 1 : Nat) : Int) := fun h => by
      rw [show (q : Int) - 1 = ((q - 1 : Nat) : Int) from by omega]; exact u64_nat (by omega)
    have w2 : IntKind.u64.wrap ((r : Int) + (V1 : Int)) = ((r + V1 : Nat) : Int) := by rw [← Int.natCast_add]; exact u64_nat (by omega)
    have stop : ∀ q' r' : Nat, q' * V1 + r' = U → q' = K.q → r' = U - K.q * V1 := fun q' r' h1 h2 => by subst h2; omega
    by_cases b1 : 4294967296 ≤ q
    · have b1' : (q : Int) ≥ 4294967296 := by omega
      have hlt : K.q < q := by omega
      have hd := dec hlt
      have w1' := w1 (by omega)
      by_cases b2 : 4294967296 ≤ r + V1
      · have b2' : ((r + V1 : Nat) : Int) ≥ 4294967296 := by omega
        have hsm := K.small hd b2
        repeat' (first | apply T_then | apply then_ret | apply then_exit | apply then_goto | apply rnd_exit | apply rnd_ret | apply rnd_goto | apply noGo_normal | apply noGo_ret | apply noGo_exit | apply jmp_normal | apply jmp_ret | apply jmp_exit | apply jmp_goto | apply inB_normal | apply inB_ret | apply inB_goto | apply inB_exit | refine inB_exit_ne rfl ?_ | ((first | apply T_srK fw | apply T_regK fw); · ((try simp only [TOps.flat, List.cons_append, List.nil_append]); repeat (first | apply X_g0 | apply X_g | apply S_keep | apply X_skip | apply X_skipN | apply X_q | apply X_st | apply X_n | apply X_s | apply SKs0 | apply SKs2 | apply SKs1 | refine ⟨⟨rfl, rfl⟩, ?_⟩ | refine ⟨⟨rfl, ?_⟩, ?_⟩ | refine ⟨?_, ?_⟩ | (· (try simp only [go_sem, seval, reduceIte, ↓reduceIte, Bool.not_eq_true, reduceCtorEq, beq_false, beq_true, hn, hP, b1', w1', w2, b2']); first | done | rfl)))) | apply T_seq | apply T_block | refine T_scopeJ 0 rfl ?_ | apply T_scope | apply T_goto | apply T_ret | apply T_skip | apply T_exit | apply T_label | refine T_condT rfl ?_ | refine T_condF rfl ?_ | refine T_condD rfl (fun _ => ?_) (fun _ => ?_) | refine T_cond rfl (fun _ => ?_) (fun _ => ?_))
        refine ⟨rfl, ?_⟩
        rw [← stop _ _ hd (by omega), show K.q = q - 1 from by omega]
        exact Weak.pick [2, 8, 9, 10, 11, 13, 14, 15, 16]
      · have b2' : ¬ ((r + V1 : Nat) : Int) ≥ 4294967296 := by omega
        repeat' (first | apply T_then | apply then_ret | apply then_exit | apply then_goto | apply rnd_exit | apply rnd_ret | apply rnd_goto | apply noGo_normal | apply noGo_ret | apply noGo_exit | apply jmp_normal | apply jmp_ret | apply jmp_exit | apply jmp_goto | apply inB_normal | apply inB_ret | apply inB_goto | apply inB_exit | refine inB_exit_ne rfl ?_ | ((first | apply T_srK fw | apply T_regK fw); · ((try simp only [TOps.flat, List.cons_append, List.nil_append]); repeat (first | apply X_g0 | apply X_g | apply S_keep | apply X_skip | apply X_skipN | apply X_q | apply X_st | apply X_n | apply X_s | apply SKs0 | apply SKs2 | apply SKs1 | refine ⟨⟨rfl, rfl⟩, ?_⟩ | refine ⟨⟨rfl, ?_⟩, ?_⟩ | refine ⟨?_, ?_⟩ | (· (try simp only [go_sem, seval, reduceIte, ↓reduceIte, Bool.not_eq_true, reduceCtorEq, beq_false, beq_true, hn, hP, b1', w1', w2, b2']); first | done | rfl)))) | apply T_seq | apply T_block | refine T_scopeJ 0 rfl ?_ | apply T_scope | apply T_goto | apply T_ret | apply T_skip | apply T_exit | apply T_label | refine T_condT rfl ?_ | refine T_condF rfl ?_ | refine T_condD rfl (fun _ => ?_) (fun _ => ?_) | refine T_cond rfl (fun _ => ?_) (fun _ => ?_))
        exact rnd_next (kn_lt a4 a3) (q - 1, r + V1) ⟨hd, Nat.le_sub_one_of_lt hlt, Nat.lt_of_not_le b2, kn_next a4 hv, Nat.le_trans (Nat.sub_le _ _) a5⟩ (Weak.pick [2, 8, 9, 10, 11, 13, 14, 15, 16])
    · have b1' : ¬ (q : Int) ≥ 4294967296 := by omega
      have hA : q * V0 ≤ 4294967295 * V0 := Nat.mul_le_mul_right V0 (by omega)
      have w3 : IntKind.u64.wrap ((q : Int) * (V0 : Int)) = ((q * V0 : Nat) : Int) := by rw [← Int.natCast_mul]; exact u64_nat (by omega)
      have w4 : IntKind.u64.wrap (4294967296 * (r : Int)) = ((4294967296 * r : Nat) : Int) := by
        rw [show 4294967296 * (r : Int) = ((4294967296 * r : Nat) : Int) from by omega]; exact u64_nat (by omega)
      have w5 : IntKind.u64.wrap (((4294967296 * r : Nat) : Int) + (U1 : Int)) = ((4294967296 * r + U1 : Nat) : Int) := by
        have := K.h5
        rw [← Int.natCast_add]; exact u64_nat (by omega)
      by_cases b3 : q * V0 > 4294967296 * r + U1
      · have b3' : ((q * V0 : Nat) : Int) > ((4294967296 * r + U1 : Nat) : Int) := by omega
        have hlt : K.q < q := hiff.2 b3
        have hd := dec hlt
        have w1' := w1 (by omega)
        by_cases b2 : 4294967296 ≤ r + V1
        · have b2' : ((r + V1 : Nat) : Int) ≥ 4294967296 := by omega
          have hsm := K.small hd b2
          repeat' (first | apply T_then | apply then_ret | apply then_exit | apply then_goto | apply rnd_exit | apply rnd_ret | apply rnd_goto | apply noGo_normal | apply noGo_ret | apply noGo_exit | apply jmp_normal | apply jmp_ret | apply jmp_exit | apply jmp_goto | apply inB_normal | apply inB_ret | apply inB_goto | apply inB_exit | refine inB_exit_ne rfl ?_ | ((first | apply T_srK fw | apply T_regK fw); · ((try simp only [TOps.flat, List.cons_append, List.nil_append]); repeat (first | apply X_g0 | apply X_g | apply S_keep | apply X_skip | apply X_skipN | apply X_q | apply X_st | apply X_n | apply X_s | apply SKs0 | apply SKs2 | apply SKs1 | refine ⟨⟨rfl, rfl⟩, ?_⟩ | refine ⟨⟨rfl, ?_⟩, ?_⟩ | refine ⟨?_, ?_⟩ | (· (try simp only [go_sem, seval, reduceIte, ↓reduceIte, Bool.not_eq_true, reduceCtorEq, beq_false, beq_true, hn, hP, b1', w1', w2, w3, w4, w5, b2', b3']); first | done | rfl)))) | apply T_seq | apply T_block | refine T_scopeJ 0 rfl ?_ | apply T_scope | apply T_goto | apply T_ret | apply T_skip | apply T_exit | apply T_label | refine T_condT rfl ?_ | refine T_condF rfl ?_ | refine T_condD rfl (fun _ => ?_) (fun _ => ?_) | refine T_cond rfl (fun _ => ?_) (fun _ => ?_))
          refine ⟨rfl, ?_⟩
          rw [← stop _ _ hd (by omega), show K.q = q - 1 from by omega]
          exact Weak.pick [2, 8, 9, 10, 11, 13, 14, 15, 16]
        · have b2' : ¬ ((r + V1 : Nat) : Int) ≥ 4294967296 := by omega
          repeat' (first | apply T_then | apply then_ret | apply then_exit | apply then_goto | apply rnd_exit | apply rnd_ret | apply rnd_goto | apply noGo_normal | apply noGo_ret | apply noGo_exit | apply jmp_normal | apply jmp_ret | apply jmp_exit | apply jmp_goto | apply inB_normal | apply inB_ret | apply inB_goto | apply inB_exit | refine inB_exit_ne rfl ?_ | ((first | apply T_srK fw | apply T_regK fw); · ((try simp only [TOps.flat, List.cons_append, List.nil_append]); repeat (first | apply X_g0 | apply X_g | apply S_keep | apply X_skip | apply X_skipN | apply X_q | apply X_st | apply X_n | apply X_s | apply SKs0 | apply SKs2 | apply SKs1 | refine ⟨⟨rfl, rfl⟩, ?_⟩ | refine ⟨⟨rfl, ?_⟩, ?_⟩ | refine ⟨?_, ?_⟩ | (· (try simp only [go_sem, seval, reduceIte, ↓reduceIte, Bool.not_eq_true, reduceCtorEq, beq_false, beq_true, hn, hP, b1', w1', w2, w3, w4, w5, b2', b3']); first | done | rfl)))) | apply T_seq | apply T_block | refine T_scopeJ 0 rfl ?_ | apply T_scope | apply T_goto | apply T_ret | apply T_skip | apply T_exit | apply T_label | refine T_condT rfl ?_ | refine T_condF rfl ?_ | refine T_condD rfl (fun _ => ?_) (fun _ => ?_) | refine T_cond rfl (fun _ => ?_) (fun _ => ?_))
          exact rnd_next (kn_lt a4 a3) (q - 1, r + V1) ⟨hd, Nat.le_sub_one_of_lt hlt, Nat.lt_of_not_le b2, kn_next a4 hv, Nat.le_trans (Nat.sub_le _ _) a5⟩ (Weak.pick [2, 8, 9, 10, 11, 13, 14, 15, 16])
      · have b3' : ¬ ((q * V0 : Nat) : Int) > ((4294967296 * r + U1 : Nat) : Int) := by omega
        have hle : ¬ K.q < q := fun h => b3 (hiff.1 h)
        repeat' (first | apply T_then | apply then_ret | apply then_exit | apply then_goto | apply rnd_exit | apply rnd_ret | apply rnd_goto | apply noGo_normal | apply noGo_ret | apply noGo_exit | apply jmp_normal | apply jmp_ret | apply jmp_exit | apply jmp_goto | apply inB_normal | apply inB_ret | apply inB_goto | apply inB_exit | refine inB_exit_ne rfl ?_ | ((first | apply T_srK fw | apply T_regK fw); · ((try simp only [TOps.flat, List.cons_append, List.nil_append]); repeat (first | apply X_g0 | apply X_g | apply S_keep | apply X_skip | apply X_skipN | apply X_q | apply X_st | apply X_n | apply X_s | apply SKs0 | apply SKs2 | apply SKs1 | refine ⟨⟨rfl, rfl⟩, ?_⟩ | refine ⟨⟨rfl, ?_⟩, ?_⟩ | refine ⟨?_, ?_⟩ | (· (try simp only [go_sem, seval, reduceIte, ↓reduceIte, Bool.not_eq_true, reduceCtorEq, beq_false, beq_true, hn, hP, b1', w3, w4, w5, b3']); first | done | rfl)))) | apply T_seq | apply T_block | refine T_scopeJ 0 rfl ?_ | apply T_scope | apply T_goto | apply T_ret | apply T_skip | apply T_exit | apply T_label | refine T_condT rfl ?_ | refine T_condF rfl ?_ | refine T_condD rfl (fun _ => ?_) (fun _ => ?_) | refine T_cond rfl (fun _ => ?_) (fun _ => ?_))
        refine ⟨rfl, ?_⟩
        rw [← stop _ _ a1 (by omega), show K.q = q from by omega]
        exact Weak.pick [2, 8, 9, 10, 11, 13, 14, 15, 16]
  have hq1b := K.q_lt
  obtain ⟨q1, hq1⟩ : ∃ q1, q1 = K.q := ⟨_, rfl⟩
  have KR := K.rest
  rw [← hYV, ← hq1] at KR
  rw [← hq1] at hq1b
  obtain ⟨U2, hU2⟩ : ∃ U2, U2 = (U * 4294967296 + U1) % Y := ⟨_, rfl⟩
  rw [← hU2] at KR
  rw [← hq1]
  have t1 := wrap_mulB U
  have t2 := wrap_addM (U * 4294967296) U1
  have t3 := wrap_mulN q1 Y
  have t4 := wrap_sub KR.1 (Nat.lt_trans KR.2 p4)
  have K2 : Knuth V1 V0 U2 U0 := ⟨K.h1, K.h2, K.h3, by rw [← hYV]; exact KR.2, hU0b⟩
  have K21 := K2.start
  have hQ2' := Nat.div_le_self U2 V1
  have hU264 : U2 < 18446744073709551616 := Nat.lt_trans KR.2 p4
  obtain ⟨Q2, hQ2⟩ : ∃ Q2, Q2 = U2 / V1 := ⟨_, rfl⟩
  obtain ⟨R2, hR2⟩ : ∃ R2, R2 = U2 % V1 := ⟨_, rfl⟩
  rw [← hQ2, ← hR2] at K21
  have g11 : IntKind.u64.wrap ((U2 : Int).tdiv (V1 : Int)) = (Q2 : Int) := by
    rw [Int.tdiv_eq_ediv_of_nonneg (by omega), ← Int.natCast_ediv, ← hQ2]
    exact u64_nat (by omega)
  have g12 : IntKind.u64.wrap ((Q2 : Int) * (V1 : Int)) = ((Q2 * V1 : Nat) : Int) := by rw [← Int.natCast_mul]; exact u64_nat (by omega)
  have g13 : IntKind.u64.wrap ((U2 : Int) - ((Q2 * V1 : Nat) : Int)) = (R2 : Int) := by
    rw [show (U2 : Int) - ((Q2 * V1 : Nat) : Int) = (R2 : Int) from by omega]; exact u64_nat (by omega)
  repeat' (first | apply T_then | apply then_ret | apply then_exit | apply then_goto | apply rnd_exit | apply rnd_ret | apply rnd_goto | apply noGo_normal | apply noGo_ret | apply noGo_exit | apply jmp_normal | apply jmp_ret | apply jmp_exit | apply jmp_goto | apply inB_normal | apply inB_ret | apply inB_goto | apply inB_exit | refine inB_exit_ne rfl ?_ | ((first | apply T_srK fw | apply T_regK fw); · ((try simp only [TOps.flat, List.cons_append, List.nil_append]); repeat (first | apply X_g0 | apply X_g | apply S_keep | apply X_skip | apply X_skipN | apply X_q | apply X_st | apply X_n | apply X_s | apply SKs0 | apply SKs2 | apply SKs1 | refine ⟨⟨rfl, rfl⟩, ?_⟩ | refine ⟨⟨rfl, ?_⟩, ?_⟩ | refine ⟨?_, ?_⟩ | (· (try simp only [go_sem, seval, reduceIte, ↓reduceIte, Bool.not_eq_true, reduceCtorEq, beq_false, beq_true, hn, hP, t1, t2, t3, t4, v0, g11, g12, g13]); first | done | rfl)))) | apply T_seq | apply T_block | refine T_scopeJ 0 rfl ?_ | apply T_scope | apply T_goto | apply T_ret | apply T_skip | apply T_exit | apply T_label | refine T_condT rfl ?_ | refine T_condF rfl ?_ | refine T_condD rfl (fun _ => ?_) (fun _ => ?_) | refine T_cond rfl (fun _ => ?_) (fun _ => ?_))
  refine T_cutX (S := { env := [(2, .one (.p (.int .u64 Y))), (8, .one (.p (.int .u64 s))), (9, .one (.p (.int .u64 V1))), (10, .one (.p (.int .u64 V0))), (14, .one (.p (.int .u64 U0))), (15, .one (.p (.int .u64 q1))), (17, .one (.p (.int .u64 U2))), (18, .one (.p (.int .u64 K2.q))), (16, .one (.p (.int .u64 ((U2 - K2.q * V1 : Nat) : Int))))], σ := [] }) ?_ ?_
  · refine T_for 2 (fun _ (a : Nat × Nat) => { env := [(2, .one (.p (.int .u64 Y))), (8, .one (.p (.int .u64 s))), (9, .one (.p (.int .u64 V1))), (10, .one (.p (.int .u64 V0))), (14, .one (.p (.int .u64 U0))), (15, .one (.p (.int .u64 q1))), (17, .one (.p (.int .u64 U2))), (18, .one (.p (.int .u64 a.1))), (16, .one (.p (.int .u64 a.2)))], σ := [] })
      (fun i a => a.1 * V1 + a.2 = U2 ∧ K2.q ≤ a.1 ∧ a.2 < 4294967296 ∧ i * 2147483648 ≤ a.2 ∧ a.1 ≤ Q2) (Q2, R2) ⟨K21.1, K21.2.1, K21.2.2, by rw [Nat.zero_mul]; exact Nat.zero_le _, Nat.le_refl _⟩ (Weak.pick [2, 8, 9, 10, 14, 15, 17, 18, 16]) fun i a hi ha => ?_
    obtain ⟨q, r⟩ := a
    obtain ⟨a1, a2, a3, a4, a5⟩ := ha
    simp only at a1 a2 a3 a4 a5
    have hv := K2.h1
    have hv2 := K2.h2
    have hv0 := K2.h3
    have hK := K2.q_lt
    have hiff := K2.lt_iff a1
    have dec : K2.q < q → (q - 1) * V1 + (r + V1) = U2 := fun h => by
      have : q * V1 = (q - 1) * V1 + V1 := by
        conv => lhs; rw [show q = (q - 1) + 1 from by omega, Nat.add_mul, Nat.one_mul]
      omega
    have w1 : 1 ≤ q → IntKind.u64.wrap ((q : Int) - 1) = ((q - 1 : Nat) : Int) := fun h => by
      rw [show (q : Int) - 1 = ((q - 1 : Nat) : Int) from by omega]; exact u64_nat (by omega)
    have w2 : IntKind.u64.wrap ((r : Int) + (V1 : Int)) = ((r + V1 : Nat) : Int) := by rw [← Int.natCast_add]; exact u64_nat (by omega)
    have stop : ∀ q' r' : Nat, q' * V1 + r' = U2 → q' = K2.q → r' = U2 - K2.q * V1 := fun q' r' h1 h2 => by subst h2; omega
    by_cases b1 : 4294967296 ≤ q
    · have b1' : (q : Int) ≥ 4294967296 := by omega
      have hlt : K2.q < q := by omega
      have hd := dec hlt
      have w1' := w1 (by omega)
      by_cases b2 : 4294967296 ≤ r + V1
      · have b2' : ((r + V1 : Nat) : Int) ≥ 4294967296 := by omega
        have hsm := K2.small hd b2
        repeat' (first | apply T_then | apply then_ret | apply then_exit | apply then_goto | apply rnd_exit | apply rnd_ret | apply rnd_goto | apply noGo_normal | apply noGo_ret | apply noGo_exit | apply jmp_normal | apply jmp_ret | apply jmp_exit | apply jmp_goto | apply inB_normal | apply inB_ret | apply inB_goto | apply inB_exit | refine inB_exit_ne rfl ?_ | ((first | apply T_srK fw | apply T_regK fw); · ((try simp only [TOps.flat, List.cons_append, List.nil_append]); repeat (first | apply X_g0 | apply X_g | apply S_keep | apply X_skip | apply X_skipN | apply X_q | apply X_st | apply X_n | apply X_s | apply SKs0 | apply SKs2 | apply SKs1 | refine ⟨⟨rfl, rfl⟩, ?_⟩ | refine ⟨⟨rfl, ?_⟩, ?_⟩ | refine ⟨?_, ?_⟩ | (· (try simp only [go_sem, seval, reduceIte, ↓reduceIte, Bool.not_eq_true, reduceCtorEq, beq_false, beq_true, hn, hP, b1', w1', w2, b2']); first | done | rfl)))) | apply T_seq | apply T_block | refine T_scopeJ 0 rfl ?_ | apply T_scope | apply T_goto | apply T_ret | apply T_skip | apply T_exit | apply T_label | refine T_condT rfl ?_ | refine T_condF rfl ?_ | refine T_condD rfl (fun _ => ?_) (fun _ => ?_) | refine T_cond rfl (fun _ => ?_) (fun _ => ?_))
        refine ⟨rfl, ?_⟩
        rw [← stop _ _ hd (by omega), show K2.q = q - 1 from by omega]
        exact Weak.pick [2, 8, 9, 10, 14, 15, 17, 18, 16]
      · have b2' : ¬ ((r + V1 : Nat) : Int) ≥ 4294967296 := by omega
        repeat' (first | apply T_then | apply then_ret | apply then_exit | apply then_goto | apply rnd_exit | apply rnd_ret | apply rnd_goto | apply noGo_normal | apply noGo_ret | apply noGo_exit | apply jmp_normal | apply jmp_ret | apply jmp_exit | apply jmp_goto | apply inB_normal | apply inB_ret | apply inB_goto | apply inB_exit | refine inB_exit_ne rfl ?_ | ((first | apply T_srK fw | apply T_regK fw); · ((try simp only [TOps.flat, List.cons_append, List.nil_append]); repeat (first | apply X_g0 | apply X_g | apply S_keep | apply X_skip | apply X_skipN | apply X_q | apply X_st | apply X_n | apply X_s | apply SKs0 | apply SKs2 | apply SKs1 | refine ⟨⟨rfl, rfl⟩, ?_⟩ | refine ⟨⟨rfl, ?_⟩, ?_⟩ | refine ⟨?_, ?_⟩ | (· (try simp only [go_sem, seval, reduceIte, ↓reduceIte, Bool.not_eq_true, reduceCtorEq, beq_false, beq_true, hn, hP, b1', w1', w2, b2']); first | done | rfl)))) | apply T_seq | apply T_block | refine T_scopeJ 0 rfl ?_ | apply T_scope | apply T_goto | apply T_ret | apply T_skip | apply T_exit | apply T_label | refine T_condT rfl ?_ | refine T_condF rfl ?_ | refine T_condD rfl (fun _ => ?_) (fun _ => ?_) | refine T_cond rfl (fun _ => ?_) (fun _ => ?_))
        exact rnd_next (kn_lt a4 a3) (q - 1, r + V1) ⟨hd, Nat.le_sub_one_of_lt hlt, Nat.lt_of_not_le b2, kn_next a4 hv, Nat.le_trans (Nat.sub_le _ _) a5⟩ (Weak.pick [2, 8, 9, 10, 14, 15, 17, 18, 16])
    · have b1' : ¬ (q : Int) ≥ 4294967296 := by omega
      have hA : q * V0 ≤ 4294967295 * V0 := Nat.mul_le_mul_right V0 (by omega)
      have w3 : IntKind.u64.wrap ((q : Int) * (V0 : Int)) = ((q * V0 : Nat) : Int) := by rw [← Int.natCast_mul]; exact u64_nat (by omega)
      have w4 : IntKind.u64.wrap (4294967296 * (r : Int)) = ((4294967296 * r : Nat) : Int) := by
        rw [show 4294967296 * (r : Int) = ((4294967296 * r : Nat) : Int) from by omega]; exact u64_nat (by omega)
      have w5 : IntKind.u64.wrap (((4294967296 * r : Nat) : Int) + (U0 : Int)) = ((4294967296 * r + U0 : Nat) : Int) := by
        have := K2.h5
        rw [← Int.natCast_add]; exact u64_nat (by omega)
      by_cases b3 : q * V0 > 4294967296 * r + U0
      · have b3' : ((q * V0 : Nat) : Int) > ((4294967296 * r + U0 : Nat) : Int) := by omega
        have hlt : K2.q < q := hiff.2 b3
        have hd := dec hlt
        have w1' := w1 (by omega)
        by_cases b2 : 4294967296 ≤ r + V1
        · have b2' : ((r + V1 : Nat) : Int) ≥ 4294967296 := by omega
          have hsm := K2.small hd b2
          repeat' (first | apply T_then | apply then_ret | apply then_exit | apply then_goto | apply rnd_exit | apply rnd_ret | apply rnd_goto | apply noGo_normal | apply noGo_ret | apply noGo_exit | apply jmp_normal | apply jmp_ret | apply jmp_exit | apply jmp_goto | apply inB_normal | apply inB_ret | apply inB_goto | apply inB_exit | refine inB_exit_ne rfl ?_ | ((first | apply T_srK fw | apply T_regK fw); · ((try simp only [TOps.flat, List.cons_append, List.nil_append]); repeat (first | apply X_g0 | apply X_g | apply S_keep | apply X_skip | apply X_skipN | apply X_q | apply X_st | apply X_n | apply X_s | apply SKs0 | apply SKs2 | apply SKs1 | refine ⟨⟨rfl, rfl⟩, ?_⟩ | refine ⟨⟨rfl, ?_⟩, ?_⟩ | refine ⟨?_, ?_⟩ | (· (try simp only [go_sem, seval, reduceIte, ↓reduceIte, Bool.not_eq_true, reduceCtorEq, beq_false, beq_true, hn, hP, b1', w1', w2, w3, w4, w5, b2', b3']); first | done | rfl)))) | apply T_seq | apply T_block | refine T_scopeJ 0 rfl ?_ | apply T_scope | apply T_goto | apply T_ret | apply T_skip | apply T_exit | apply T_label | refine T_condT rfl ?_ | refine T_condF rfl ?_ | refine T_condD rfl (fun _ => ?_) (fun _ => ?_) | refine T_cond rfl (fun _ => ?_) (fun _ => ?_))
          refine ⟨rfl, ?_⟩
          rw [← stop _ _ hd (by omega), show K2.q = q - 1 from by omega]
          exact Weak.pick [2, 8, 9, 10, 14, 15, 17, 18, 16]
        · have b2' : ¬ ((r + V1 : Nat) : Int) ≥ 4294967296 := by omega
          repeat' (first | apply T_then | apply then_ret | apply then_exit | apply then_goto | apply rnd_exit | apply rnd_ret | apply rnd_goto | apply noGo_normal | apply noGo_ret | apply noGo_exit | apply jmp_normal | apply jmp_ret | apply jmp_exit | apply jmp_goto | apply inB_normal | apply inB_ret | apply inB_goto | apply inB_exit | refine inB_exit_ne rfl ?_ | ((first | apply T_srK fw | apply T_regK fw); · ((try simp only [TOps.flat, List.cons_append, List.nil_append]); repeat (first | apply X_g0 | apply X_g | apply S_keep | apply X_skip | apply X_skipN | apply X_q | apply X_st | apply X_n | apply X_s | apply SKs0 | apply SKs2 | apply SKs1 | refine ⟨⟨rfl, rfl⟩, ?_⟩ | refine ⟨⟨rfl, ?_⟩, ?_⟩ | refine ⟨?_, ?_⟩ | (· (try simp only [go_sem, seval, reduceIte, ↓reduceIte, Bool.not_eq_true, reduceCtorEq, beq_false, beq_true, hn, hP, b1', w1', w2, w3, w4, w5, b2', b3']); first | done | rfl)))) | apply T_seq | apply T_block | refine T_scopeJ 0 rfl ?_ | apply T_scope | apply T_goto | apply T_ret | apply T_skip | apply T_exit | apply T_label | refine T_condT rfl ?_ | refine T_condF rfl ?_ | refine T_condD rfl (fun _ => ?_) (fun _ => ?_) | refine T_cond rfl (fun _ => ?_) (fun _ => ?_))
          exact rnd_next (kn_lt a4 a3) (q - 1, r + V1) ⟨hd, Nat.le_sub_one_of_lt hlt, Nat.lt_of_not_le b2, kn_next a4 hv, Nat.le_trans (Nat.sub_le _ _) a5⟩ (Weak.pick [2, 8, 9, 10, 14, 15, 17, 18, 16])
      · have b3' : ¬ ((q * V0 : Nat) : Int) > ((4294967296 * r + U0 : Nat) : Int) := by omega
        have hle : ¬ K2.q < q := fun h => b3 (hiff.1 h)
        repeat' (first | apply T_then | apply then_ret | apply then_exit | apply then_goto | apply rnd_exit | apply rnd_ret | apply rnd_goto | apply noGo_normal | apply noGo_ret | apply noGo_exit | apply jmp_normal | apply jmp_ret | apply jmp_exit | apply jmp_goto | apply inB_normal | apply inB_ret | apply inB_goto | apply inB_exit | refine inB_exit_ne rfl ?_ | ((first | apply T_srK fw | apply T_regK fw); · ((try simp only [TOps.flat, List.cons_append, List.nil_append]); repeat (first | apply X_g0 | apply X_g | apply S_keep | apply X_skip | apply X_skipN | apply X_q | apply X_st | apply X_n | apply X_s | apply SKs0 | apply SKs2 | apply SKs1 | refine ⟨⟨rfl, rfl⟩, ?_⟩ | refine ⟨⟨rfl, ?_⟩, ?_⟩ | refine ⟨?_, ?_⟩ | (· (try simp only [go_sem, seval, reduceIte, ↓reduceIte, Bool.not_eq_true, reduceCtorEq, beq_false, beq_true, hn, hP, b1', w3, w4, w5, b3']); first | done | rfl)))) | apply T_seq | apply T_block | refine T_scopeJ 0 rfl ?_ | apply T_scope | apply T_goto | apply T_ret | apply T_skip | apply T_exit | apply T_label | refine T_condT rfl ?_ | refine T_condF rfl ?_ | refine T_condD rfl (fun _ => ?_) (fun _ => ?_) | refine T_cond rfl (fun _ => ?_) (fun _ => ?_))
        refine ⟨rfl, ?_⟩
        rw [← stop _ _ a1 (by omega), show K2.q = q from by omega]
        exact Weak.pick [2, 8, 9, 10, 14, 15, 17, 18, 16]
  have hq0b := K2.q_lt
  obtain ⟨q0, hq0⟩ : ∃ q0, q0 = K2.q := ⟨_, rfl⟩
  have KR2 := K2.rest
  rw [← hYV, ← hq0] at KR2
  rw [← hq0] at hq0b
  obtain ⟨X2, hX2⟩ : ∃ X2, X2 = (U2 * 4294967296 + U0) % Y := ⟨_, rfl⟩
  rw [← hX2] at KR2
  rw [← hq0]
  obtain ⟨r1, r2⟩ := div_parts hY hU hlo hLU KR.1 KR2.1 KR2.2 (by omega)
  have s1 := wrap_mulB q1
  rw [low_B hq1b] at s1
  have s2 := low_BB hq1b hq0b
  have s3 := wrap_mulB U2
  have s4 := wrap_addM (U2 * 4294967296) U0
  have s5 := wrap_mulN q0 Y
  have s6 := wrap_sub KR2.1 (Nat.lt_trans KR2.2 p4)
  have s7 : shrZ .u64 (X2 : Int) (s : Int) = ((X2 / 2 ^ s : Nat) : Int) := shrN (by omega)
  rw [r1, r2]
  repeat' (first | apply T_then | apply then_ret | apply then_exit | apply then_goto | apply rnd_exit | apply rnd_ret | apply rnd_goto | apply noGo_normal | apply noGo_ret | apply noGo_exit | apply jmp_normal | apply jmp_ret | apply jmp_exit | apply jmp_goto | apply inB_normal | apply inB_ret | apply inB_goto | apply inB_exit | refine inB_exit_ne rfl ?_ | ((first | apply T_srK fw | apply T_regK fw); · ((try simp only [TOps.flat, List.cons_append, List.nil_append]); repeat (first | apply X_g0 | apply X_g | apply S_keep | apply X_skip | apply X_skipN | apply X_q | apply X_st | apply X_n | apply X_s | apply SKs0 | apply SKs2 | apply SKs1 | refine ⟨⟨rfl, rfl⟩, ?_⟩ | refine ⟨⟨rfl, ?_⟩, ?_⟩ | refine ⟨?_, ?_⟩ | (· (try simp only [go_sem, seval, reduceIte, ↓reduceIte, Bool.not_eq_true, reduceCtorEq, beq_false, beq_true, hn, hP, s1, s2, s3, s4, s5, s6, s7]); first | done | rfl)))) | apply T_seq | apply T_block | refine T_scopeJ 0 rfl ?_ | apply T_scope | apply T_goto | apply T_ret | apply T_skip | apply T_exit | apply T_label | refine T_condT rfl ?_ | refine T_condF rfl ?_ | refine T_condD rfl (fun _ => ?_) (fun _ => ?_) | refine T_cond rfl (fun _ => ?_) (fun _ => ?_))
  exact ends_ret rfl rfl rfl rfl
end Go.AM

namespace Go.AM
open Go Go.Proofs
set_option maxRecDepth 100000
set_option maxHeartbeats 4000000
set_option linter.unusedSimpArgs false
set_option linter.unusedVariables false

theorem p_Div64 {hi lo y : Nat} (hl : lo < 18446744073709551616) (hy : y < 18446744073709551616) (h1 : hi < y) :
    PureC Try.prog fi_math_bits_Div64 [dU hi, dU lo, dU y] (dUU ((hi * 18446744073709551616 + lo) / y) ((hi * 18446744073709551616 + lo) % y)) := by
  by_cases h0 : hi = 0
  · subst h0
    rw [Nat.zero_mul, Nat.zero_add]
    exact p_Div64_0 hl hy h1
  · exact p_Div64_1 hl hy (by omega) h1

def fDiv (a b : Int) : Int × Int := if b = 0 then (0, 11) else rng (sgn (a.natAbs * 4294967296 / b.natAbs) (decide (a.natAbs * 4294967296 % b.natAbs ≠ 0)) (apart a b))
theorem div_words {A B : Nat} (hB : 0 < B) : A / 4294967296 / B * 18446744073709551616 + (A / 4294967296 % B * 18446744073709551616 + A % 4294967296 * 4294967296) / B = A * 4294967296 / B ∧
    (A / 4294967296 % B * 18446744073709551616 + A % 4294967296 * 4294967296) % B = A * 4294967296 % B := by
  have e1 := Nat.div_add_mod (A / 4294967296) B
  have e2 : A * 4294967296 = (A / 4294967296) * 18446744073709551616 + A % 4294967296 * 4294967296 := by omega
  have e3 : A * 4294967296 = B * ((A / 4294967296 / B) * 18446744073709551616) + (A / 4294967296 % B * 18446744073709551616 + A % 4294967296 * 4294967296) := by
    rw [e2, ← Nat.mul_assoc, ← Nat.add_assoc, ← Nat.add_mul, e1]
  rw [e3, Nat.mul_add_div hB, Nat.mul_add_mod]
  exact ⟨rfl, rfl⟩
theorem div_word {A B : Nat} (hB : 0 < B) : (A / 4294967296 % B * 18446744073709551616 + A % 4294967296 * 4294967296) / B < 18446744073709551616 := by
  have h1 := Nat.mod_lt (A / 4294967296) hB
  rw [Nat.div_lt_iff_lt_mul hB]
  generalize A / 4294967296 % B = h at *
  omega

theorem div_plan {A B : Nat} (hB : 0 < B) (hA : A ≤ 9223372036854775808) (hB2 : B ≤ 9223372036854775808) : ∃ hi lo w0 hm w1 rs : Nat, shrZ .u64 (A : Int) 32 = (hi : Int) ∧ shlZ .u64 (A : Int) 32 = (lo : Int) ∧ IntKind.u64.wrap ((hi : Int).tdiv (B : Int)) = (w0 : Int) ∧ (hi : Int).tmod (B : Int) = (hm : Int) ∧
    PureC Try.prog fi_math_bits_Div64 [dU hm, dU lo, dU B] (dUU w1 rs) ∧ w1 < 18446744073709551616 ∧ w0 < 18446744073709551615 ∧ w0 * 18446744073709551616 + w1 = A * 4294967296 / B ∧ rs = A * 4294967296 % B := by
  have hm := Nat.mod_lt (A / 4294967296) hB
  have hq := Nat.div_le_self (A / 4294967296) B
  have hA2 : A / 4294967296 < 4294967296 := by omega
  refine ⟨_, _, A / 4294967296 / B, A / 4294967296 % B, _, _, shr32 A, shl32 A, ?_, ?_, p_Div64 (by omega) (by omega) hm, div_word hB, by omega, (div_words hB).1, (div_words hB).2⟩
  · rw [Int.tdiv_eq_ediv_of_nonneg (by omega), ← Int.natCast_ediv]
    exact u64_nat (by omega)
  · rw [Int.tmod_eq_emod_of_nonneg (by omega)]; exact (Int.natCast_emod _ _).symm

theorem p_fix_Div {a b : Int} (ha : I64 a) (hb : I64 b) : PureC Try.prog fi_fix_Div [dN a, dN b] (dNE (fDiv a b)) := by
  refine pure_fix_Div (by simp) fun G hP hn => ?_
  unfold a_fix_Div
  by_cases hb0 : b = 0
  · subst hb0
    repeat' (first | apply T_then | apply then_ret | apply then_exit | apply then_goto | apply rnd_exit | apply rnd_ret | apply rnd_goto | apply noGo_normal | apply noGo_ret | apply noGo_exit | apply jmp_normal | apply jmp_ret | apply jmp_exit | apply jmp_goto | apply inB_normal | apply inB_ret | apply inB_goto | apply inB_exit | refine inB_exit_ne rfl ?_ | ((first | apply T_srK fw | apply T_regK fw); · ((try simp only [TOps.flat, List.cons_append, List.nil_append]); repeat (first | apply X_g0 | apply X_g | apply S_keep | apply X_skip | apply X_skipN | apply X_q | apply X_st | apply X_n | apply X_s | apply SKs0 | apply SKs2 | apply SKs1 | refine ⟨⟨rfl, rfl⟩, ?_⟩ | refine ⟨⟨rfl, ?_⟩, ?_⟩ | refine ⟨?_, ?_⟩ | (· (try simp only [go_sem, seval, reduceIte, ↓reduceIte, Bool.not_eq_true, reduceCtorEq, beq_false, beq_true, hn, hP]); first | done | rfl)))) | apply T_seq | apply T_block | refine T_scopeJ 0 rfl ?_ | apply T_scope | apply T_goto | apply T_ret | apply T_skip | apply T_exit | apply T_label | refine T_condT rfl ?_ | refine T_condF rfl ?_ | refine T_condD rfl (fun _ => ?_) (fun _ => ?_) | refine T_cond rfl (fun _ => ?_) (fun _ => ?_))
    exact ends_ret rfl rfl rfl rfl
  have c1 : (b == 0) = false := by simpa using hb0
  have la := abs_lt ha
  have lb := abs_lt hb
  have hB : 0 < b.natAbs := by omega
  have ka := p_fix_size ha
  have kb := p_fix_size hb
  have kp := p_fix_apart a b
  have hf : fDiv a b = rng (sgn (a.natAbs * 4294967296 / b.natAbs) (decide (a.natAbs * 4294967296 % b.natAbs ≠ 0)) (apart a b)) := if_neg hb0
  generalize apart a b = ap at *
  generalize a.natAbs = A at *
  generalize b.natAbs = B at *
  obtain ⟨hi, lo, w0, hm, w1, rs, e1, e2, e3, e4, kd, e5, e6, e7, e8⟩ := div_plan hB la lb
  rw [← e7, ← e8] at hf
  have b0 : ((B : Int) = 0) = False := by simp; omega
  have e9 : decide (rs ≠ 0) = ((rs : Int) != 0) := by rw [Bool.eq_iff_iff]; simp
  rw [e9] at hf
  have ks := p_fix_signed e5 e6 ((rs : Int) != 0) ap
  rw [← hf] at ks
  repeat' (first | apply T_then | apply then_ret | apply then_exit | apply then_goto | apply rnd_exit | apply rnd_ret | apply rnd_goto | apply noGo_normal | apply noGo_ret | apply noGo_exit | apply jmp_normal | apply jmp_ret | apply jmp_exit | apply jmp_goto | apply inB_normal | apply inB_ret | apply inB_goto | apply inB_exit | refine inB_exit_ne rfl ?_ | ((first | apply T_srK fw | apply T_regK fw); · ((try simp only [TOps.flat, List.cons_append, List.nil_append]); repeat (first | apply X_g0 | apply X_g | apply S_keep | apply X_skip | apply X_skipN | refine X_call ?_ ⟨_, _, _, _, _, _, rfl, rfl, rfl, by rw [hP]; exact ka⟩ ?_ | refine X_call ?_ ⟨_, _, _, _, _, _, rfl, rfl, rfl, by rw [hP]; exact kb⟩ ?_ | refine X_call ?_ ⟨_, _, _, _, _, _, rfl, rfl, rfl, by rw [hP]; exact kd⟩ ?_ | refine X_call ?_ ⟨_, _, _, _, _, _, rfl, rfl, rfl, by rw [hP]; exact kp⟩ ?_ | refine X_call ?_ ⟨_, _, _, _, _, _, rfl, rfl, rfl, by rw [hP]; exact ks⟩ ?_ | apply X_q | apply X_st | apply X_n | apply X_s | apply SKs0 | apply SKs2 | apply SKs1 | refine ⟨⟨rfl, rfl⟩, ?_⟩ | refine ⟨⟨rfl, ?_⟩, ?_⟩ | refine ⟨?_, ?_⟩ | (· (try simp only [go_sem, seval, reduceIte, ↓reduceIte, Bool.not_eq_true, reduceCtorEq, beq_false, beq_true, hn, hP, c1, b0, e1, e2, e3, e4]); first | done | rfl)))) | ((first | apply T_sdF fw (by rw [hP]; rfl) (by decide +kernel) | apply T_drF fw (by rw [hP]; rfl) (by decide +kernel)); · ((try simp only [TOps.flat, List.cons_append, List.nil_append]); repeat (first | apply Y_g0 | apply Y_g | apply Y_skip | apply Y_q | refine Y_call ⟨_, _, _, _, _, _, rfl, rfl, rfl, by rw [hP]; exact ka⟩ ?_ ?_ | refine Y_call ⟨_, _, _, _, _, _, rfl, rfl, rfl, by rw [hP]; exact kb⟩ ?_ ?_ | refine Y_call ⟨_, _, _, _, _, _, rfl, rfl, rfl, by rw [hP]; exact kd⟩ ?_ ?_ | refine Y_call ⟨_, _, _, _, _, _, rfl, rfl, rfl, by rw [hP]; exact kp⟩ ?_ ?_ | refine Y_call ⟨_, _, _, _, _, _, rfl, rfl, rfl, by rw [hP]; exact ks⟩ ?_ ?_ | refine RunF_nil (P := G.P) ?_ | (· (try simp only [go_sem, seval, reduceIte, ↓reduceIte, Bool.not_eq_true, reduceCtorEq, beq_false, beq_true, hn, hP, c1, b0, e1, e2, e3, e4]); first | done | rfl)))) | ((first | apply T_sd fw (by rw [hP]; rfl) | apply T_dr fw (by rw [hP]; rfl)); · ((try simp only [go_sem, seval, reduceIte, ↓reduceIte, bne, beq_false, beq_true, Bool.not_eq_true, Bool.if_true_right, decide_not, reduceCtorEq, hP, c1, b0, e1, e2, e3, e4]); (repeat ((first       | (refine ⟨_, ⟨_, _, _, _, _, _, rfl, rfl, rfl, ka⟩, ?_⟩)       | (refine ⟨_, ⟨_, _, _, _, _, _, rfl, rfl, rfl, kb⟩, ?_⟩)       | (refine ⟨_, ⟨_, _, _, _, _, _, rfl, rfl, rfl, kd⟩, ?_⟩)       | (refine ⟨_, ⟨_, _, _, _, _, _, rfl, rfl, rfl, kp⟩, ?_⟩)       | (refine ⟨_, ⟨_, _, _, _, _, _, rfl, rfl, rfl, ks⟩, ?_⟩)); (try simp only [go_sem, seval, reduceIte, ↓reduceIte, bne, beq_false, beq_true, Bool.not_eq_true, Bool.if_true_right, decide_not, reduceCtorEq, hP, c1, b0, e1, e2, e3, e4]))); (first | done | exact rfl))) | apply T_seq | apply T_block | refine T_scopeJ 0 rfl ?_ | apply T_scope | apply T_goto | apply T_ret | apply T_skip | apply T_exit | apply T_label | refine T_condT rfl ?_ | refine T_condF rfl ?_ | refine T_condD rfl (fun _ => ?_) (fun _ => ?_) | refine T_cond rfl (fun _ => ?_) (fun _ => ?_))
  exact ends_ret rfl rfl rfl rfl
end Go.AM

namespace Go.AM
open Go Go.Proofs
set_option maxRecDepth 100000
set_option maxHeartbeats 4000000
set_option linter.unusedSimpArgs false
set_option linter.unusedVariables false

theorem k_Div {s d t e : List Int} (hd : I64s d) (he : I64s e) : PureC Try.prog fi_elem_Two [dN 13, dT s d, dT t e] (dTE (twoF fDiv s d t e)) := p_elem_Two (.inr (.inr (.inr ⟨rfl, rfl⟩))) (fun _ _ ha hb => p_fix_Div ha hb) s d t e hd he

theorem map_gt {d : List Int} {n : Nat} (h : d.length = n) (f : Int → Int) : ((List.range n).map fun p => f (gt d p)) = d.map f := by
  subst h
  apply List.ext_getElem?
  intro i
  by_cases hi : i < d.length
  · rw [List.getElem?_map, List.getElem?_map, List.getElem?_range hi, List.getElem?_eq_getElem hi]
    simp only [Option.map_some]
    congr 1
    unfold gt
    rw [List.getElem?_eq_getElem hi]; rfl
  · rw [List.getElem?_eq_none (by simp; omega), List.getElem?_eq_none (by simp; omega)]
theorem check_size {s d : List Int} (h : checkT s d = true) : d.length = (sizeS s).toNat := by
  obtain ⟨h1, h2⟩ := checkT_iff.1 h
  have := sizeS_ok h1
  omega
theorem gt_mem {d : List Int} {p : Nat} (h : p < d.length) : gt d p ∈ d := List.mem_of_getElem? (gt_some h)
theorem one_map {W : Int → Int × Int} {s d : List Int} (h : checkT s d = true) (hW : ∀ v ∈ d, (W v).2 = 0) : oneF W s d = ((s, d.map fun v => (W v).1), 0) := by
  have hl := check_size h
  unfold oneF
  rw [if_pos h, eachF_ok (fun p hp => hW _ (gt_mem (by omega))), map_gt hl fun v => (W v).1]
theorem op1_inv {W : Int → Int × Int} {s d : List Int} (h : (oneF W s d).2 = 0) : checkT s d = true ∧ (∀ v ∈ d, (W v).2 = 0) := by
  by_cases hc : checkT s d = true
  · refine ⟨hc, fun v hv => ?_⟩
    have hl := check_size hc
    unfold oneF at h
    rw [if_pos hc] at h
    obtain ⟨p, hp, e⟩ := List.getElem_of_mem hv
    have := eachF_inv h p (by omega)
    have e2 : gt d p = v := by unfold gt; rw [List.getElem?_eq_getElem hp, e]; rfl
    rwa [e2] at this
  · unfold oneF at h; rw [if_neg hc] at h; simp [bad] at h
theorem one_bad {W : Int → Int × Int} {s d : List Int} (h : (oneF W s d).2 ≠ 0) : oneF W s d = bad (oneF W s d).2 := by
  unfold oneF at h ⊢
  split
  · rename_i hc
    rw [if_pos hc] at h
    obtain ⟨p, _, _, hp⟩ := eachF_bad h
    rw [hp]; rfl
  · rfl
theorem check_map {s d : List Int} (h : checkT s d = true) (f : Int → Int) : checkT s (d.map f) = true := by
  obtain ⟨h1, h2⟩ := checkT_iff.1 h
  exact checkT_iff.2 ⟨h1, by simpa using h2⟩

end Go.AM

namespace Go.AM
open Go Go.Proofs
set_option maxRecDepth 100000
set_option maxHeartbeats 4000000
set_option linter.unusedSimpArgs false
set_option linter.unusedVariables false

/-- a root, bit by bit -/
def sq (N : Nat) : Nat → Nat → Nat
  | 0, r => r
  | k + 1, r => if (r + 2 ^ k) * (r + 2 ^ k) ≤ N then sq N k (r + 2 ^ k) else sq N k r
def rootN (a : Int) : Nat := sq (a.toNat * 4294967296) 48 0
def fSqrt (a : Int) : Int × Int := if a < 0 then (0, 12) else ((rootN a : Int), 0)
theorem sq_bound {N : Nat} : ∀ {k r : Nat}, sq N k r < r + 2 ^ k
  | 0, r => by simp [sq]
  | k + 1, r => by
    have hp : 2 ^ (k + 1) = 2 ^ k + 2 ^ k := by rw [Nat.pow_succ]; omega
    simp only [sq]
    split
    · have := sq_bound (N := N) (k := k) (r := r + 2 ^ k); omega
    · have := sq_bound (N := N) (k := k) (r := r)
      have hp2 := Nat.two_pow_pos k
      omega
theorem rootN_lt (a : Int) : rootN a < 281474976710656 := by
  have := sq_bound (N := a.toNat * 4294967296) (k := 48) (r := 0)
  simpa [rootN] using this
/-- below, word by word -/
theorem cmp_words {A m : Nat} : ∃ h l Nh Nl : Nat, h = m * m / 18446744073709551616 ∧ l = m * m % 18446744073709551616 ∧ Nh = A / 4294967296 ∧ Nl = A % 4294967296 * 4294967296 ∧
    ((Nl < l → (Nh < h + 1 ↔ A * 4294967296 < m * m)) ∧ (¬ Nl < l → (Nh < h ↔ A * 4294967296 < m * m))) := by
  refine ⟨_, _, _, _, rfl, rfl, rfl, rfl, ?_⟩
  generalize m * m = M
  omega

theorem p_fix_Sqrt {a : Int} (ha : I64 a) : PureC Try.prog fi_fix_Sqrt [dN a] (dNE (fSqrt a)) := by
  refine pure_fix_Sqrt (by simp) fun G hP hn => ?_
  unfold a_fix_Sqrt
  by_cases h0 : a < 0
  · have hf : fSqrt a = (0, 12) := if_pos h0
    repeat' (first | apply T_then | apply then_ret | apply then_exit | apply then_goto | apply rnd_exit | apply rnd_ret | apply rnd_goto | apply noGo_normal | apply noGo_ret | apply noGo_exit | apply jmp_normal | apply jmp_ret | apply jmp_exit | apply jmp_goto | apply inB_normal | apply inB_ret | apply inB_goto | apply inB_exit | refine inB_exit_ne rfl ?_ | ((first | apply T_srK fw | apply T_regK fw); · ((try simp only [TOps.flat, List.cons_append, List.nil_append]); repeat (first | apply X_g0 | apply X_g | apply S_keep | apply X_skip | apply X_skipN | apply X_q | apply X_st | apply X_n | apply X_s | apply SKs0 | apply SKs2 | apply SKs1 | refine ⟨⟨rfl, rfl⟩, ?_⟩ | refine ⟨⟨rfl, ?_⟩, ?_⟩ | refine ⟨?_, ?_⟩ | (· (try simp only [go_sem, seval, reduceIte, ↓reduceIte, Bool.not_eq_true, reduceCtorEq, beq_false, beq_true, hn, hP, h0]); first | done | rfl)))) | apply T_seq | apply T_block | refine T_scopeJ 0 rfl ?_ | apply T_scope | apply T_goto | apply T_ret | apply T_skip | apply T_exit | apply T_label | refine T_condT rfl ?_ | refine T_condF rfl ?_ | refine T_condD rfl (fun _ => ?_) (fun _ => ?_) | refine T_cond rfl (fun _ => ?_) (fun _ => ?_))
    exact ends_ret rfl rfl rfl (by rw [hf]; rfl)
  have hf : fSqrt a = ((rootN a : Int), 0) := if_neg h0
  have hrt := rootN_lt a
  unfold rootN at hf hrt
  obtain ⟨A, rfl⟩ := Int.eq_ofNat_of_zero_le (by omega : 0 ≤ a)
  rw [Int.toNat_natCast] at hf hrt
  have hA : A < 9223372036854775808 := by unfold I64 at ha; omega
  have wa : IntKind.u64.wrap (A : Int) = (A : Int) := u64_nat (by omega)
  have sh := shl32 A
  have sr := shr32 A
  obtain ⟨Tv, hT⟩ : ∃ Tv, Tv = sq (A * 4294967296) 48 0 := ⟨_, rfl⟩
  rw [← hT] at hf hrt
  repeat' (first | apply T_then | apply then_ret | apply then_exit | apply then_goto | apply rnd_exit | apply rnd_ret | apply rnd_goto | apply noGo_normal | apply noGo_ret | apply noGo_exit | apply jmp_normal | apply jmp_ret | apply jmp_exit | apply jmp_goto | apply inB_normal | apply inB_ret | apply inB_goto | apply inB_exit | refine inB_exit_ne rfl ?_ | ((first | apply T_srK fw | apply T_regK fw); · ((try simp only [TOps.flat, List.cons_append, List.nil_append]); repeat (first | apply X_g0 | apply X_g | apply S_keep | apply X_skip | apply X_skipN | apply X_q | apply X_st | apply X_n | apply X_s | apply SKs0 | apply SKs2 | apply SKs1 | refine ⟨⟨rfl, rfl⟩, ?_⟩ | refine ⟨⟨rfl, ?_⟩, ?_⟩ | refine ⟨?_, ?_⟩ | (· (try simp only [go_sem, seval, reduceIte, ↓reduceIte, Bool.not_eq_true, reduceCtorEq, beq_false, beq_true, hn, hP, h0]); first | done | rfl)))) | apply T_seq | apply T_block | refine T_scopeJ 0 rfl ?_ | apply T_scope | apply T_goto | apply T_ret | apply T_skip | apply T_exit | apply T_label | refine T_condT rfl ?_ | refine T_condF rfl ?_ | refine T_condD rfl (fun _ => ?_) (fun _ => ?_) | refine T_cond rfl (fun _ => ?_) (fun _ => ?_))
  refine T_for 48 (fun i (r : Nat) => { env := [(0, .one (.p (.int .i64 A))), (4, .one (.p (.int .u64 r))), (5, .one (.p (.int .u64 ((r + 2 ^ (48 - i) : Nat) : Int))))], σ := [] })
    (fun i r => r + 2 ^ (48 - i) ≤ 281474976710656 ∧ sq (A * 4294967296) (48 - i) r = Tv) 0 ⟨by decide, by rw [hT]⟩ (.refl _ _) fun i r hi hr => ?_
  obtain ⟨hb, hsq⟩ := hr
  clear hT
  by_cases hlt : i < 48
  · obtain ⟨w, hw⟩ : ∃ w, w = 2 ^ (48 - (i + 1)) := ⟨_, rfl⟩
    have hp : 2 ^ (48 - i) = 2 * w := by rw [hw, show 48 - i = (48 - (i + 1)) + 1 from by omega, Nat.pow_succ]; omega
    have hw1 : 1 ≤ w := by rw [hw]; exact Nat.two_pow_pos _
    rw [show 48 - i = (48 - (i + 1)) + 1 from by omega] at hsq
    simp only [sq] at hsq
    rw [← hw] at hsq
    rw [hp] at hb ⊢
    have s1 : IntKind.u64.wrap (((r + 2 * w : Nat) : Int) - (r : Int)) = ((2 * w : Nat) : Int) := by
      rw [show ((r + 2 * w : Nat) : Int) - (r : Int) = ((2 * w : Nat) : Int) from by omega]; exact u64_nat (by omega)
    have c1 : ((2 * w : Nat) : Int) > 1 := by omega
    have s2 : IntKind.u64.wrap ((r : Int) + ((r + 2 * w : Nat) : Int)) = ((2 * (r + w) : Nat) : Int) := by
      rw [show (r : Int) + ((r + 2 * w : Nat) : Int) = ((2 * (r + w) : Nat) : Int) from by omega]; exact u64_nat (by omega)
    have s3 : IntKind.u64.wrap (((2 * (r + w) : Nat) : Int).tdiv 2) = ((r + w : Nat) : Int) := by
      rw [Int.tdiv_eq_ediv_of_nonneg (by omega), show ((2 * (r + w) : Nat) : Int) / 2 = ((r + w : Nat) : Int) from by omega]
      exact u64_nat (by omega)
    have km := p_bits_Mul64 (x := r + w) (y := r + w) (by omega) (by omega)
    obtain ⟨h, l, Nh, Nl, e1, e2, e3, e4, e5, e6⟩ := cmp_words (A := A) (m := r + w)
    rw [← e1, ← e2] at km
    rw [← e4] at sh
    rw [← e3] at sr
    have nx1 : r + w + 2 ^ (48 - (i + 1)) = r + 2 * w := by rw [← hw]; omega
    have nx0 : r + 2 ^ (48 - (i + 1)) = r + w := by rw [← hw]
    have lo0 : A * 4294967296 < (r + w) * (r + w) → sq (A * 4294967296) (48 - (i + 1)) r = Tv := fun q => by rw [if_neg (Nat.not_le_of_lt q)] at hsq; exact hsq
    have lo1 : ¬ A * 4294967296 < (r + w) * (r + w) → sq (A * 4294967296) (48 - (i + 1)) (r + w) = Tv := fun q => by rw [if_pos (Nat.le_of_not_lt q)] at hsq; exact hsq
    clear e1 e2 e3 e4 hsq
    generalize (A * 4294967296 < (r + w) * (r + w)) = below at *
    by_cases b0 : Nl < l
    · have e5 := e5 b0
      by_cases b1 : Nh < h + 1
      · repeat' (first | apply T_then | apply then_ret | apply then_exit | apply then_goto | apply rnd_exit | apply rnd_ret | apply rnd_goto | apply noGo_normal | apply noGo_ret | apply noGo_exit | apply jmp_normal | apply jmp_ret | apply jmp_exit | apply jmp_goto | apply inB_normal | apply inB_ret | apply inB_goto | apply inB_exit | refine inB_exit_ne rfl ?_ | ((first | apply T_srK fw | apply T_regK fw); · ((try simp only [TOps.flat, List.cons_append, List.nil_append]); repeat (first | apply X_g0 | apply X_g | apply S_keep | apply X_skip | apply X_skipN | refine X_call ?_ ⟨_, _, _, _, _, _, rfl, rfl, rfl, by rw [hP]; exact km⟩ ?_ | apply X_q | apply X_st | apply X_n | apply X_s | apply SKs0 | apply SKs2 | apply SKs1 | refine ⟨⟨rfl, rfl⟩, ?_⟩ | refine ⟨⟨rfl, ?_⟩, ?_⟩ | refine ⟨?_, ?_⟩ | (· (try simp only [go_sem, seval, reduceIte, ↓reduceIte, Bool.not_eq_true, reduceCtorEq, beq_false, beq_true, hn, hP, wa, sh, sr, s1, c1, s2, s3, b0, b1]); first | done | rfl)))) | apply T_seq | apply T_block | refine T_scopeJ 0 rfl ?_ | apply T_scope | apply T_goto | apply T_ret | apply T_skip | apply T_exit | apply T_label | refine T_condT rfl ?_ | refine T_condF rfl ?_ | refine T_condD rfl (fun _ => ?_) (fun _ => ?_) | refine T_cond rfl (fun _ => ?_) (fun _ => ?_))
        exact rnd_next hlt r ⟨by rw [nx0]; omega, lo0 (e5.1 b1)⟩ (by rw [nx0]; exact .refl _ _)
      · repeat' (first | apply T_then | apply then_ret | apply then_exit | apply then_goto | apply rnd_exit | apply rnd_ret | apply rnd_goto | apply noGo_normal | apply noGo_ret | apply noGo_exit | apply jmp_normal | apply jmp_ret | apply jmp_exit | apply jmp_goto | apply inB_normal | apply inB_ret | apply inB_goto | apply inB_exit | refine inB_exit_ne rfl ?_ | ((first | apply T_srK fw | apply T_regK fw); · ((try simp only [TOps.flat, List.cons_append, List.nil_append]); repeat (first | apply X_g0 | apply X_g | apply S_keep | apply X_skip | apply X_skipN | refine X_call ?_ ⟨_, _, _, _, _, _, rfl, rfl, rfl, by rw [hP]; exact km⟩ ?_ | apply X_q | apply X_st | apply X_n | apply X_s | apply SKs0 | apply SKs2 | apply SKs1 | refine ⟨⟨rfl, rfl⟩, ?_⟩ | refine ⟨⟨rfl, ?_⟩, ?_⟩ | refine ⟨?_, ?_⟩ | (· (try simp only [go_sem, seval, reduceIte, ↓reduceIte, Bool.not_eq_true, reduceCtorEq, beq_false, beq_true, hn, hP, wa, sh, sr, s1, c1, s2, s3, b0, b1]); first | done | rfl)))) | apply T_seq | apply T_block | refine T_scopeJ 0 rfl ?_ | apply T_scope | apply T_goto | apply T_ret | apply T_skip | apply T_exit | apply T_label | refine T_condT rfl ?_ | refine T_condF rfl ?_ | refine T_condD rfl (fun _ => ?_) (fun _ => ?_) | refine T_cond rfl (fun _ => ?_) (fun _ => ?_))
        exact rnd_next hlt (r + w) ⟨by rw [nx1]; omega, lo1 (fun q => b1 (e5.2 q))⟩ (by rw [nx1]; exact .refl _ _)
    · have e6 := e6 b0
      by_cases b1 : Nh < h
      · repeat' (first | apply T_then | apply then_ret | apply then_exit | apply then_goto | apply rnd_exit | apply rnd_ret | apply rnd_goto | apply noGo_normal | apply noGo_ret | apply noGo_exit | apply jmp_normal | apply jmp_ret | apply jmp_exit | apply jmp_goto | apply inB_normal | apply inB_ret | apply inB_goto | apply inB_exit | refine inB_exit_ne rfl ?_ | ((first | apply T_srK fw | apply T_regK fw); · ((try simp only [TOps.flat, List.cons_append, List.nil_append]); repeat (first | apply X_g0 | apply X_g | apply S_keep | apply X_skip | apply X_skipN | refine X_call ?_ ⟨_, _, _, _, _, _, rfl, rfl, rfl, by rw [hP]; exact km⟩ ?_ | apply X_q | apply X_st | apply X_n | apply X_s | apply SKs0 | apply SKs2 | apply SKs1 | refine ⟨⟨rfl, rfl⟩, ?_⟩ | refine ⟨⟨rfl, ?_⟩, ?_⟩ | refine ⟨?_, ?_⟩ | (· (try simp only [go_sem, seval, reduceIte, ↓reduceIte, Bool.not_eq_true, reduceCtorEq, beq_false, beq_true, hn, hP, wa, sh, sr, s1, c1, s2, s3, b0, b1]); first | done | rfl)))) | apply T_seq | apply T_block | refine T_scopeJ 0 rfl ?_ | apply T_scope | apply T_goto | apply T_ret | apply T_skip | apply T_exit | apply T_label | refine T_condT rfl ?_ | refine T_condF rfl ?_ | refine T_condD rfl (fun _ => ?_) (fun _ => ?_) | refine T_cond rfl (fun _ => ?_) (fun _ => ?_))
        exact rnd_next hlt r ⟨by rw [nx0]; omega, lo0 (e6.1 b1)⟩ (by rw [nx0]; exact .refl _ _)
      · repeat' (first | apply T_then | apply then_ret | apply then_exit | apply then_goto | apply rnd_exit | apply rnd_ret | apply rnd_goto | apply noGo_normal | apply noGo_ret | apply noGo_exit | apply jmp_normal | apply jmp_ret | apply jmp_exit | apply jmp_goto | apply inB_normal | apply inB_ret | apply inB_goto | apply inB_exit | refine inB_exit_ne rfl ?_ | ((first | apply T_srK fw | apply T_regK fw); · ((try simp only [TOps.flat, List.cons_append, List.nil_append]); repeat (first | apply X_g0 | apply X_g | apply S_keep | apply X_skip | apply X_skipN | refine X_call ?_ ⟨_, _, _, _, _, _, rfl, rfl, rfl, by rw [hP]; exact km⟩ ?_ | apply X_q | apply X_st | apply X_n | apply X_s | apply SKs0 | apply SKs2 | apply SKs1 | refine ⟨⟨rfl, rfl⟩, ?_⟩ | refine ⟨⟨rfl, ?_⟩, ?_⟩ | refine ⟨?_, ?_⟩ | (· (try simp only [go_sem, seval, reduceIte, ↓reduceIte, Bool.not_eq_true, reduceCtorEq, beq_false, beq_true, hn, hP, wa, sh, sr, s1, c1, s2, s3, b0, b1]); first | done | rfl)))) | apply T_seq | apply T_block | refine T_scopeJ 0 rfl ?_ | apply T_scope | apply T_goto | apply T_ret | apply T_skip | apply T_exit | apply T_label | refine T_condT rfl ?_ | refine T_condF rfl ?_ | refine T_condD rfl (fun _ => ?_) (fun _ => ?_) | refine T_cond rfl (fun _ => ?_) (fun _ => ?_))
        exact rnd_next hlt (r + w) ⟨by rw [nx1]; omega, lo1 (fun q => b1 (e6.2 q))⟩ (by rw [nx1]; exact .refl _ _)
  · have hie : i = 48 := by omega
    subst hie
    simp only [Nat.sub_self, sq] at hsq
    rw [← hsq] at hf hrt
    have s1 : IntKind.u64.wrap (((r + 2 ^ (48 - 48) : Nat) : Int) - (r : Int)) = 1 := by
      rw [show ((r + 2 ^ (48 - 48) : Nat) : Int) - (r : Int) = ((1 : Nat) : Int) from by omega]; exact u64_nat (by omega)
    have s2 : IntKind.i64.wrap (r : Int) = (r : Int) := wrap_in (by omega) (by omega)
    repeat' (first | apply T_then | apply then_ret | apply then_exit | apply then_goto | apply rnd_exit | apply rnd_ret | apply rnd_goto | apply noGo_normal | apply noGo_ret | apply noGo_exit | apply jmp_normal | apply jmp_ret | apply jmp_exit | apply jmp_goto | apply inB_normal | apply inB_ret | apply inB_goto | apply inB_exit | refine inB_exit_ne rfl ?_ | ((first | apply T_srK fw | apply T_regK fw); · ((try simp only [TOps.flat, List.cons_append, List.nil_append]); repeat (first | apply X_g0 | apply X_g | apply S_keep | apply X_skip | apply X_skipN | apply X_q | apply X_st | apply X_n | apply X_s | apply SKs0 | apply SKs2 | apply SKs1 | refine ⟨⟨rfl, rfl⟩, ?_⟩ | refine ⟨⟨rfl, ?_⟩, ?_⟩ | refine ⟨?_, ?_⟩ | (· (try simp only [go_sem, seval, reduceIte, ↓reduceIte, Bool.not_eq_true, reduceCtorEq, beq_false, beq_true, hn, hP, s1, s2]); first | done | rfl)))) | apply T_seq | apply T_block | refine T_scopeJ 0 rfl ?_ | apply T_scope | apply T_goto | apply T_ret | apply T_skip | apply T_exit | apply T_label | refine T_condT rfl ?_ | refine T_condF rfl ?_ | refine T_condD rfl (fun _ => ?_) (fun _ => ?_) | refine T_cond rfl (fun _ => ?_) (fun _ => ?_))
    exact ends_ret rfl rfl rfl (by rw [hf]; rfl)
end Go.AM

namespace Go.AM
open Go Go.Proofs
set_option maxRecDepth 100000
set_option maxHeartbeats 4000000
set_option linter.unusedSimpArgs false
set_option linter.unusedVariables false

theorem k_Sqrt {s d : List Int} (hd : I64s d) : PureC Try.prog fi_elem_One [dN 23, dT s d] (dTE (oneF fSqrt s d)) := p_elem_One (.inr (.inr (.inr ⟨rfl, rfl⟩))) (fun _ ha => p_fix_Sqrt ha) s d hd

theorem mk_map {r : List Int} (g : List Int → Int) (f : Int → Int) : (mk r g).map f = mk r fun x => f (g x) := by
  unfold mk; rw [List.map_map]; rfl
end Go.AM

namespace Go.AM
open Go Go.Proofs
set_option maxRecDepth 100000
set_option maxHeartbeats 4000000
set_option linter.unusedSimpArgs false
set_option linter.unusedVariables false

/-- a number above 0, times 2 to a power, floored -/
def shF (n : Nat) (k : Int) : Int × Int :=
  if k < 0 then (((n / 2 ^ (min (-k).toNat 63) : Nat) : Int), 0) else rng ((n * 2 ^ (min k.toNat 63) : Nat) : Int)

theorem sh_over {n : Nat} (h0 : 1 ≤ n) {k : Nat} : (lenN n : Int) + k < 64 ↔ n * 2 ^ (min k 63) < 9223372036854775808 := by
  have h2 : lenN n = n.log2 + 1 := if_neg (by omega)
  have h3 := (Nat.log2_eq_iff (n := n) (by omega)).1 rfl
  have hp := Nat.two_pow_pos (min k 63)
  constructor
  · intro h
    have hk : min k 63 = k := by omega
    rw [hk]
    have : n * 2 ^ k < 2 ^ (n.log2 + 1) * 2 ^ k := Nat.mul_lt_mul_of_pos_right h3.2 (Nat.two_pow_pos k)
    rw [← Nat.pow_add] at this
    have h4 : 2 ^ (n.log2 + 1 + k) ≤ 2 ^ 63 := Nat.pow_le_pow_right (by decide) (by omega)
    omega
  · intro h
    have h4 : 2 ^ n.log2 * 2 ^ (min k 63) ≤ n * 2 ^ (min k 63) := Nat.mul_le_mul_right _ h3.1
    rw [← Nat.pow_add] at h4
    have h5 : 2 ^ (n.log2 + min k 63) < 2 ^ 63 := by omega
    have := (Nat.pow_lt_pow_iff_right (by decide : 1 < 2)).1 h5
    omega

theorem p_fix_shifted {n : Nat} {k : Int} (h0 : 1 ≤ n) (hn : n < 8589934592) (hk : -2147483648 ≤ k ∧ k ≤ 2147483647) : PureC Try.prog fi_fix_shifted [dU n, dN k] (dNE (shF n k)) := by
  refine pure_fix_shifted (by simp) fun G hP hnt => ?_
  unfold a_fix_shifted
  have hn := hnt
  by_cases c : k < 0
  · obtain ⟨m, hm⟩ : ∃ m : Nat, m = min (-k).toNat 63 := ⟨_, rfl⟩
    have hf : shF n k = (((n / 2 ^ m : Nat) : Int), 0) := by unfold shF; rw [if_pos c, hm]
    have hd := Nat.div_le_self n (2 ^ m)
    have w1 : IntKind.i64.wrap (-k) = -k := wrap_in (by omega) (by omega)
    have w1' : IntKind.i64.wrap (0 - k) = -k := by rw [Int.zero_sub]; exact w1
    have w2 : IntKind.u64.wrap (-k) = -k := u64_in (by omega) (by omega)
    have w3 : min (-k) 63 = (m : Int) := by omega
    have w4 : shrZ .u64 (n : Int) (m : Int) = ((n / 2 ^ m : Nat) : Int) := shrN (by omega)
    generalize n / 2 ^ m = z at *
    have w5 : IntKind.i64.wrap (z : Int) = (z : Int) := wrap_in (by omega) (by omega)
    repeat' (first | apply T_then | apply then_ret | apply then_exit | apply then_goto | apply rnd_exit | apply rnd_ret | apply rnd_goto | apply noGo_normal | apply noGo_ret | apply noGo_exit | apply jmp_normal | apply jmp_ret | apply jmp_exit | apply jmp_goto | apply inB_normal | apply inB_ret | apply inB_goto | apply inB_exit | refine inB_exit_ne rfl ?_ | ((first | apply T_srK fw | apply T_regK fw); · ((try simp only [TOps.flat, List.cons_append, List.nil_append]); repeat (first | apply X_g0 | apply X_g | apply S_keep | apply X_skip | apply X_skipN | apply X_q | apply X_st | apply X_n | apply X_s | apply SKs0 | apply SKs2 | apply SKs1 | refine ⟨⟨rfl, rfl⟩, ?_⟩ | refine ⟨⟨rfl, ?_⟩, ?_⟩ | refine ⟨?_, ?_⟩ | (· (try simp only [go_sem, seval, reduceIte, ↓reduceIte, Bool.not_eq_true, reduceCtorEq, beq_false, beq_true, hn, hP, c, w1, w1', w2, w3, w4, w5]); first | done | rfl)))) | apply T_seq | apply T_block | refine T_scopeJ 0 rfl ?_ | apply T_scope | apply T_goto | apply T_ret | apply T_skip | apply T_exit | apply T_label | refine T_condT rfl ?_ | refine T_condF rfl ?_ | refine T_condD rfl (fun _ => ?_) (fun _ => ?_) | refine T_cond rfl (fun _ => ?_) (fun _ => ?_))
    exact ends_ret rfl rfl rfl (by rw [hf]; rfl)
  · obtain ⟨K, rfl⟩ := Int.eq_ofNat_of_zero_le (by omega : 0 ≤ k)
    obtain ⟨m, hm⟩ : ∃ m : Nat, m = min K 63 := ⟨_, rfl⟩
    have hf : shF n K = rng ((n * 2 ^ m : Nat) : Int) := by unfold shF; rw [if_neg c, Int.toNat_natCast, hm]
    have w3 : min (K : Int) 63 = (m : Int) := by omega
    have w4 : shlZ .u64 (n : Int) (m : Int) = ((n * 2 ^ m % 18446744073709551616 : Nat) : Int) := shlM (by omega)
    have kl := p_Len64 (x := n) (by omega)
    have hl := lenN_lt (n := 64) (x := n) (by omega)
    have w6 : IntKind.i64.wrap ((lenN n : Int) + (K : Int)) = (lenN n : Int) + K := wrap_in (by omega) (by omega)
    have hov := sh_over h0 (k := K)
    rw [← hm] at hov
    have kt := fun v b => p_fix_told v b
    by_cases c2 : (lenN n : Int) + K < 64
    · have hlt := hov.1 c2
      have w5 : IntKind.i64.wrap ((n * 2 ^ m % 18446744073709551616 : Nat) : Int) = ((n * 2 ^ m : Nat) : Int) := by
        rw [Nat.mod_eq_of_lt (by omega)]; exact wrap_in (by omega) (by omega)
      rw [rng_in (by unfold I64; omega)] at hf
      repeat' (first | apply T_then | apply then_ret | apply then_exit | apply then_goto | apply rnd_exit | apply rnd_ret | apply rnd_goto | apply noGo_normal | apply noGo_ret | apply noGo_exit | apply jmp_normal | apply jmp_ret | apply jmp_exit | apply jmp_goto | apply inB_normal | apply inB_ret | apply inB_goto | apply inB_exit | refine inB_exit_ne rfl ?_ | ((first | apply T_srK fw | apply T_regK fw); · ((try simp only [TOps.flat, List.cons_append, List.nil_append]); repeat (first | apply X_g0 | apply X_g | apply S_keep | apply X_skip | apply X_skipN | refine X_call ?_ ⟨_, _, _, _, _, _, rfl, rfl, rfl, by rw [hP]; exact kl⟩ ?_ | refine X_call ?_ ⟨_, _, _, _, _, _, rfl, rfl, rfl, by rw [hP]; exact p_fix_told _ _⟩ ?_ | apply X_q | apply X_st | apply X_n | apply X_s | apply SKs0 | apply SKs2 | apply SKs1 | refine ⟨⟨rfl, rfl⟩, ?_⟩ | refine ⟨⟨rfl, ?_⟩, ?_⟩ | refine ⟨?_, ?_⟩ | (· (try simp only [go_sem, seval, reduceIte, ↓reduceIte, Bool.not_eq_true, reduceCtorEq, beq_false, beq_true, hn, hP, c, w3, w4, w5, w6, c2]); first | done | rfl)))) | ((first | apply T_sdF fw (by rw [hP]; rfl) (by decide +kernel) | apply T_drF fw (by rw [hP]; rfl) (by decide +kernel)); · ((try simp only [TOps.flat, List.cons_append, List.nil_append]); repeat (first | apply Y_g0 | apply Y_g | apply Y_skip | apply Y_q | refine Y_call ⟨_, _, _, _, _, _, rfl, rfl, rfl, by rw [hP]; exact kl⟩ ?_ ?_ | refine Y_call ⟨_, _, _, _, _, _, rfl, rfl, rfl, by rw [hP]; exact p_fix_told _ _⟩ ?_ ?_ | refine RunF_nil (P := G.P) ?_ | (· (try simp only [go_sem, seval, reduceIte, ↓reduceIte, Bool.not_eq_true, reduceCtorEq, beq_false, beq_true, hn, hP, c, w3, w4, w5, w6, c2]); first | done | rfl)))) | apply T_seq | apply T_block | refine T_scopeJ 0 rfl ?_ | apply T_scope | apply T_goto | apply T_ret | apply T_skip | apply T_exit | apply T_label | refine T_condT rfl ?_ | refine T_condF rfl ?_ | refine T_condD rfl (fun _ => ?_) (fun _ => ?_) | refine T_cond rfl (fun _ => ?_) (fun _ => ?_))
      exact ends_ret rfl rfl rfl (by rw [hf]; rfl)
    · have hge : ¬ n * 2 ^ m < 9223372036854775808 := fun q => c2 (hov.2 q)
      rw [rng_out (by unfold I64; omega)] at hf
      repeat' (first | apply T_then | apply then_ret | apply then_exit | apply then_goto | apply rnd_exit | apply rnd_ret | apply rnd_goto | apply noGo_normal | apply noGo_ret | apply noGo_exit | apply jmp_normal | apply jmp_ret | apply jmp_exit | apply jmp_goto | apply inB_normal | apply inB_ret | apply inB_goto | apply inB_exit | refine inB_exit_ne rfl ?_ | ((first | apply T_srK fw | apply T_regK fw); · ((try simp only [TOps.flat, List.cons_append, List.nil_append]); repeat (first | apply X_g0 | apply X_g | apply S_keep | apply X_skip | apply X_skipN | refine X_call ?_ ⟨_, _, _, _, _, _, rfl, rfl, rfl, by rw [hP]; exact kl⟩ ?_ | refine X_call ?_ ⟨_, _, _, _, _, _, rfl, rfl, rfl, by rw [hP]; exact p_fix_told _ _⟩ ?_ | apply X_q | apply X_st | apply X_n | apply X_s | apply SKs0 | apply SKs2 | apply SKs1 | refine ⟨⟨rfl, rfl⟩, ?_⟩ | refine ⟨⟨rfl, ?_⟩, ?_⟩ | refine ⟨?_, ?_⟩ | (· (try simp only [go_sem, seval, reduceIte, ↓reduceIte, Bool.not_eq_true, reduceCtorEq, beq_false, beq_true, hn, hP, c, w3, w4, w6, c2]); first | done | rfl)))) | ((first | apply T_sdF fw (by rw [hP]; rfl) (by decide +kernel) | apply T_drF fw (by rw [hP]; rfl) (by decide +kernel)); · ((try simp only [TOps.flat, List.cons_append, List.nil_append]); repeat (first | apply Y_g0 | apply Y_g | apply Y_skip | apply Y_q | refine Y_call ⟨_, _, _, _, _, _, rfl, rfl, rfl, by rw [hP]; exact kl⟩ ?_ ?_ | refine Y_call ⟨_, _, _, _, _, _, rfl, rfl, rfl, by rw [hP]; exact p_fix_told _ _⟩ ?_ ?_ | refine RunF_nil (P := G.P) ?_ | (· (try simp only [go_sem, seval, reduceIte, ↓reduceIte, Bool.not_eq_true, reduceCtorEq, beq_false, beq_true, hn, hP, c, w3, w4, w6, c2]); first | done | rfl)))) | apply T_seq | apply T_block | refine T_scopeJ 0 rfl ?_ | apply T_scope | apply T_goto | apply T_ret | apply T_skip | apply T_exit | apply T_label | refine T_condT rfl ?_ | refine T_condF rfl ?_ | refine T_condD rfl (fun _ => ?_) (fun _ => ?_) | refine T_cond rfl (fun _ => ?_) (fun _ => ?_))
      exact ends_ret rfl rfl rfl (by rw [hf]; rfl)

def fPow (a : Int) : Int × Int := shF ((4294967296 + a % 4294967296).toNat) (a / 4294967296)
theorem i64_and (a : Int) (ha : I64 a) : andZ .i64 a 4294967295 = a % 4294967296 := by
  unfold andZ
  have h1 : (BitVec.ofInt IntKind.i64.bits a).toNat = (a % 18446744073709551616).toNat := by
    rw [BitVec.toNat_ofInt]; rfl
  have h2 : (BitVec.ofInt IntKind.i64.bits 4294967295).toNat = 2 ^ 32 - 1 := by
    rw [BitVec.toNat_ofInt]; rfl
  rw [BitVec.toNat_and, h1, h2, Nat.and_two_pow_sub_one_eq_mod]
  have : (((a % 18446744073709551616).toNat % 2 ^ 32 : Nat) : Int) = a % 4294967296 := by omega
  rw [this]
  exact wrap_in (by omega) (by omega)
theorem p_fix_Pow {a : Int} (ha : I64 a) : PureC Try.prog fi_fix_Pow [dN a] (dNE (fPow a)) := by
  refine pure_fix_Pow (by simp) fun G hP hn => ?_
  unfold a_fix_Pow
  have w1 := i64_and a ha
  obtain ⟨f, hf⟩ := Int.eq_ofNat_of_zero_le (by omega : 0 ≤ a % 4294967296)
  rw [hf] at w1
  have w2 : IntKind.i64.wrap (4294967296 + (f : Int)) = ((4294967296 + f : Nat) : Int) := by rw [wrap_in (by omega) (by omega)]; omega
  have w3 : IntKind.u64.wrap ((4294967296 + f : Nat) : Int) = ((4294967296 + f : Nat) : Int) := u64_nat (by omega)
  have w4 : shrZ .i64 a 32 = a / 4294967296 := by
    unfold shrZ
    have : (2 : Int) ^ (min (32 : Int).toNat IntKind.i64.bits) = 4294967296 := by decide
    rw [this, Int.fdiv_eq_ediv_of_nonneg _ (by decide)]
  have k := p_fix_shifted (n := 4294967296 + f) (k := a / 4294967296) (by omega) (by omega) (by unfold I64 at ha; omega)
  have e : fPow a = shF (4294967296 + f) (a / 4294967296) := by
    unfold fPow
    congr 1
    omega
  rw [← e] at k
  repeat' (first | apply T_then | apply then_ret | apply then_exit | apply then_goto | apply rnd_exit | apply rnd_ret | apply rnd_goto | apply noGo_normal | apply noGo_ret | apply noGo_exit | apply jmp_normal | apply jmp_ret | apply jmp_exit | apply jmp_goto | apply inB_normal | apply inB_ret | apply inB_goto | apply inB_exit | refine inB_exit_ne rfl ?_ | ((first | apply T_srK fw | apply T_regK fw); · ((try simp only [TOps.flat, List.cons_append, List.nil_append]); repeat (first | apply X_g0 | apply X_g | apply S_keep | apply X_skip | apply X_skipN | refine X_call ?_ ⟨_, _, _, _, _, _, rfl, rfl, rfl, by rw [hP]; exact k⟩ ?_ | apply X_q | apply X_st | apply X_n | apply X_s | apply SKs0 | apply SKs2 | apply SKs1 | refine ⟨⟨rfl, rfl⟩, ?_⟩ | refine ⟨⟨rfl, ?_⟩, ?_⟩ | refine ⟨?_, ?_⟩ | (· (try simp only [go_sem, seval, reduceIte, ↓reduceIte, Bool.not_eq_true, reduceCtorEq, beq_false, beq_true, hn, hP, w1, w2, w3, w4]); first | done | rfl)))) | apply T_seq | apply T_block | refine T_scopeJ 0 rfl ?_ | apply T_scope | apply T_goto | apply T_ret | apply T_skip | apply T_exit | apply T_label | refine T_condT rfl ?_ | refine T_condF rfl ?_ | refine T_condD rfl (fun _ => ?_) (fun _ => ?_) | refine T_cond rfl (fun _ => ?_) (fun _ => ?_))
  exact ends_ret rfl rfl rfl rfl
end Go.AM

namespace Go.AM
open Go Go.Proofs
set_option maxRecDepth 100000
set_option maxHeartbeats 4000000
set_option linter.unusedSimpArgs false
set_option linter.unusedVariables false

theorem k_Pow {s d : List Int} (hd : I64s d) : PureC Try.prog fi_elem_One [dN 22, dT s d] (dTE (oneF fPow s d)) := p_elem_One (.inr (.inr (.inl ⟨rfl, rfl⟩))) (fun _ ha => p_fix_Pow ha) s d hd

/-- of each index there is one that comes of it -/
theorem fit_in : ∀ {s g y : List Int}, Sides g → FitR s g → InIdx s y → InIdx g y ∧ clip s y = y
  | [], _, _, _, h, hy => by cases h; cases hy; exact ⟨.nil, rfl⟩
  | m :: s, _, _, hg, h, hy => by
    cases h with
    | cons h t => cases hy with
      | @cons _ k _ _ k0 k1 hy =>
        have := hg.head
        obtain ⟨q1, q2⟩ := fit_in hg.tail t hy
        refine ⟨.cons k0 (by omega) q1, ?_⟩
        simp only [clip, q2]
        congr 1
        split <;> omega
theorem InIdx.zeros : ∀ {s : List Int}, Sides s → InIdx s (List.replicate s.length 0)
  | [], _ => .nil
  | m :: s, h => .cons (by omega) (by have := h.head; omega) (InIdx.zeros h.tail)
theorem fromX_onto {s g y : List Int} (h : JoinOk s g g) (hy : InIdx s y) : ∃ x, InIdx g x ∧ fromX s x = y := by
  have hf := h.fitR
  have hg2 : Sides (g.drop (g.length - s.length)) := fun m hm => h.hb.2.1 m (List.mem_of_mem_drop hm)
  have hg1 : Sides (g.take (g.length - s.length)) := fun m hm => h.hb.2.1 m (List.mem_of_mem_take hm)
  obtain ⟨q1, q2⟩ := fit_in hg2 hf.2 hy
  have hyl := hy.length
  refine ⟨List.replicate (g.take (g.length - s.length)).length 0 ++ y, ?_, ?_⟩
  · have := (InIdx.zeros hg1).append q1
    rwa [List.take_append_drop] at this
  · unfold fromX
    rw [List.drop_append, List.drop_of_length_le (by simp; omega), List.nil_append]
    have : (List.replicate (g.take (g.length - s.length)).length (0 : Int) ++ y).length - s.length - (List.replicate (g.take (g.length - s.length)).length (0 : Int)).length = 0 := by simp; omega
    rw [this, List.drop_zero, q2]
theorem gt_val {s d : List Int} (h : checkT s d = true) {v : Int} (hv : v ∈ d) : ∃ y, InIdx s y ∧ val s d y = v := by
  obtain ⟨p, hp, e⟩ := List.getElem_of_mem hv
  have hl := check_size h
  have hs := (checkT_iff.1 h).1
  refine ⟨ix s p, ix_in hs.2.1, ?_⟩
  rw [← self_gt h (by omega)]
  unfold gt
  rw [List.getElem?_eq_getElem hp, e]; rfl
theorem val_mem {s d y : List Int} (h : checkT s d = true) (hy : InIdx s y) : val s d y ∈ d := by
  obtain ⟨p, hp, e⟩ := place_of (checkT_iff.1 h).1 hy
  have hl := check_size h
  rw [← e, ← self_gt h hp]
  exact gt_mem (by omega)
theorem spread_mem {s d r : List Int} (h : checkT s d = true) (hj : JoinOk s r r) {v : Int} : v ∈ spreadD s d r ↔ v ∈ d := by
  constructor
  · intro hv
    unfold spreadD mk at hv
    obtain ⟨p, hp, rfl⟩ := List.mem_map.1 hv
    have hp := List.mem_range.1 hp
    have hsz := sizeS_ok hj.hr
    have h64 := hj.hr.2.2
    exact val_mem h (fromX_in hj (by rw [idxF_eq hj.hr.2.1 (by omega) (by omega)]; exact ix_in hj.hr.2.1))
  · intro hv
    obtain ⟨y, hy, e⟩ := gt_val h hv
    obtain ⟨x, hx, e2⟩ := fromX_onto hj hy
    have := val_mem (spread_check (s := s) (d := d) hj.hr) hx
    unfold val at this
    rw [spread_at hj.hr hx, e2] at this
    rwa [show (atF s d y).1 = v from e] at this
theorem spread_map {s d r : List Int} (h : checkT s d = true) (hj : JoinOk s r r) (f : Int → Int) : spreadD s (d.map f) r = (spreadD s d r).map f := by
  unfold spreadD
  rw [mk_map]
  refine mk_congr hj.hr fun x hx => ?_
  have hin := fromX_in hj hx
  have hs := (checkT_iff.1 h).1
  rw [atF_ok (check_map h f) hin, atF_ok h hin]
  have hlt := pl_lt hin
  have hl := (checkT_iff.1 h).2
  simp only [List.getElem?_map]
  rw [List.getElem?_eq_getElem (by omega)]
  rfl

theorem two_spread {W : Int → Int → Int × Int} {s d t e r : List Int} (h1 : checkT s d = true) (h2 : checkT t e = true) (hj : JoinOk s t r) : twoF W r (spreadD s d r) r (spreadD t e r) = twoF W s d t e := by
  have c1 := spread_check (s := s) (d := d) hj.hr
  have c2 := spread_check (s := t) (d := e) hj.hr
  unfold twoF
  rw [if_pos ⟨c1, c2⟩, (JoinOk.self hj.hr).eq, if_pos rfl, if_pos ⟨h1, h2⟩, hj.eq, if_pos rfl]
  simp only [spread_self c1, spread_self c2]

/-- one that is stretched, and reckoned, is what it is reckoned, and then stretched -/
theorem one_spread {W : Int → Int × Int} {c : Int} (hW : ∀ v, (W v).2 = 0 ∨ (W v).2 = c) {s d r : List Int} (h : checkT s d = true) (hj : JoinOk s r r) :
    (∃ f : Int → Int, oneF W s d = ((s, d.map f), 0) ∧ oneF W r (spreadD s d r) = ((r, (spreadD s d r).map f), 0)) ∨ ((c != 0) = true ∧ oneF W s d = bad c ∧ oneF W r (spreadD s d r) = bad c) := by
  have hc := spread_check (s := s) (d := d) hj.hr
  by_cases hall : ∀ v ∈ d, (W v).2 = 0
  · exact .inl ⟨fun v => (W v).1, one_map h hall, one_map hc fun v hv => hall v ((spread_mem h hj).1 hv)⟩
  · right
    have hex : ∃ v, v ∈ d ∧ (W v).2 ≠ 0 := by
      apply Classical.byContradiction
      intro hno
      exact hall fun v hv => Classical.byContradiction fun hq => hno ⟨v, hv, hq⟩
    obtain ⟨v, hv, hne⟩ := hex
    have hcv : (W v).2 = c := (hW v).resolve_left hne
    have key : ∀ {s' d' : List Int}, checkT s' d' = true → v ∈ d' → oneF W s' d' = bad c := fun {s' d'} hc' hv' => by
      have hno : (oneF W s' d').2 ≠ 0 := fun q => hne ((op1_inv q).2 v hv')
      have hb := one_bad hno
      have h3 : (oneF W s' d').2 = c := by
        unfold oneF at hno ⊢
        rw [if_pos hc'] at hno ⊢
        obtain ⟨p, _, q1, q2⟩ := eachF_bad hno
        rw [q2]
        exact (hW _).resolve_left q1
      rw [hb, h3]
    exact ⟨by simpa using (hcv ▸ hne), key h hv, key hc ((spread_mem h hj).2 hv)⟩
theorem fNeg_err (v : Int) : (fNeg v).2 = 0 ∨ (fNeg v).2 = 10 := rng_err _
theorem fRelu_err (v : Int) : (fRelu v).2 = 0 ∨ (fRelu v).2 = 10 := .inl rfl
theorem fPow_err (v : Int) : (fPow v).2 = 0 ∨ (fPow v).2 = 10 := by
  unfold fPow shF
  split
  · exact .inl rfl
  · exact rng_err _
theorem fSqrt_err (v : Int) : (fSqrt v).2 = 0 ∨ (fSqrt v).2 = 12 := by
  unfold fSqrt
  split <;> simp

theorem p_ElemSpreads (op : Int) (s d t e : List Int) (hd : I64s d) (he : I64s e) : PureC Try.prog fi_fullerlaw04_ElemSpreads [dN op, dT s d, dT t e] (dB true) := by
  refine pure_fullerlaw04_ElemSpreads (by simp) fun G hP hn => ?_
  unfold a_fullerlaw04_ElemSpreads
  cases f1 : fewT s d
  · repeat' (first | apply T_then | apply then_ret | apply then_exit | apply then_goto | apply rnd_exit | apply rnd_ret | apply rnd_goto | apply noGo_normal | apply noGo_ret | apply noGo_exit | apply jmp_normal | apply jmp_ret | apply jmp_exit | apply jmp_goto | apply inB_normal | apply inB_ret | apply inB_goto | apply inB_exit | refine inB_exit_ne rfl ?_ | ((first | apply T_srK fw | apply T_regK fw); · ((try simp only [TOps.flat, List.cons_append, List.nil_append]); repeat (first | apply X_g0 | apply X_g | apply S_keep | apply X_skip | apply X_skipN | refine X_call ?_ ⟨_, _, _, _, _, _, rfl, rfl, rfl, by rw [hP]; exact p_awake4⟩ ?_ | refine X_call ?_ ⟨_, _, _, _, _, _, rfl, rfl, rfl, by rw [hP]; exact p_ref03_Few _ _⟩ ?_ | apply X_q | apply X_st | apply X_n | apply X_s | apply SKs0 | apply SKs2 | apply SKs1 | refine ⟨⟨rfl, rfl⟩, ?_⟩ | refine ⟨⟨rfl, ?_⟩, ?_⟩ | refine ⟨?_, ?_⟩ | (· (try simp only [go_sem, seval, reduceIte, ↓reduceIte, Bool.not_eq_true, reduceCtorEq, beq_false, beq_true, hn, hP, f1]); first | done | rfl)))) | apply T_seq | apply T_block | refine T_scopeJ 0 rfl ?_ | apply T_scope | apply T_goto | apply T_ret | apply T_skip | apply T_exit | apply T_label | refine T_condT rfl ?_ | refine T_condF rfl ?_ | refine T_condD rfl (fun _ => ?_) (fun _ => ?_) | refine T_cond rfl (fun _ => ?_) (fun _ => ?_))
    exact ends_ret rfl rfl rfl rfl
  cases f2 : fewT t e
  · repeat' (first | apply T_then | apply then_ret | apply then_exit | apply then_goto | apply rnd_exit | apply rnd_ret | apply rnd_goto | apply noGo_normal | apply noGo_ret | apply noGo_exit | apply jmp_normal | apply jmp_ret | apply jmp_exit | apply jmp_goto | apply inB_normal | apply inB_ret | apply inB_goto | apply inB_exit | refine inB_exit_ne rfl ?_ | ((first | apply T_srK fw | apply T_regK fw); · ((try simp only [TOps.flat, List.cons_append, List.nil_append]); repeat (first | apply X_g0 | apply X_g | apply S_keep | apply X_skip | apply X_skipN | refine X_call ?_ ⟨_, _, _, _, _, _, rfl, rfl, rfl, by rw [hP]; exact p_awake4⟩ ?_ | refine X_call ?_ ⟨_, _, _, _, _, _, rfl, rfl, rfl, by rw [hP]; exact p_ref03_Few _ _⟩ ?_ | apply X_q | apply X_st | apply X_n | apply X_s | apply SKs0 | apply SKs2 | apply SKs1 | refine ⟨⟨rfl, rfl⟩, ?_⟩ | refine ⟨⟨rfl, ?_⟩, ?_⟩ | refine ⟨?_, ?_⟩ | (· (try simp only [go_sem, seval, reduceIte, ↓reduceIte, Bool.not_eq_true, reduceCtorEq, beq_false, beq_true, hn, hP, f1, f2]); first | done | rfl)))) | apply T_seq | apply T_block | refine T_scopeJ 0 rfl ?_ | apply T_scope | apply T_goto | apply T_ret | apply T_skip | apply T_exit | apply T_label | refine T_condT rfl ?_ | refine T_condF rfl ?_ | refine T_condD rfl (fun _ => ?_) (fun _ => ?_) | refine T_cond rfl (fun _ => ?_) (fun _ => ?_))
    exact ends_ret rfl rfl rfl rfl
  have kj := p_shape_Join s t
  have kx := p_tensor_Spread s d (joinSF s t).1
  have ky := p_tensor_Spread t e (joinSF s t).1
  cases g1 : ((joinSF s t).2 != 0)
  rotate_left
  · repeat' (first | apply T_then | apply then_ret | apply then_exit | apply then_goto | apply rnd_exit | apply rnd_ret | apply rnd_goto | apply noGo_normal | apply noGo_ret | apply noGo_exit | apply jmp_normal | apply jmp_ret | apply jmp_exit | apply jmp_goto | apply inB_normal | apply inB_ret | apply inB_goto | apply inB_exit | refine inB_exit_ne rfl ?_ | ((first | apply T_srK fw | apply T_regK fw); · ((try simp only [TOps.flat, List.cons_append, List.nil_append]); repeat (first | apply X_g0 | apply X_g | apply S_keep | apply X_skip | apply X_skipN | refine X_call ?_ ⟨_, _, _, _, _, _, rfl, rfl, rfl, by rw [hP]; exact p_awake4⟩ ?_ | refine X_call ?_ ⟨_, _, _, _, _, _, rfl, rfl, rfl, by rw [hP]; exact p_ref03_Few _ _⟩ ?_ | refine X_call ?_ ⟨_, _, _, _, _, _, rfl, rfl, rfl, by rw [hP]; exact kj⟩ ?_ | refine X_call ?_ ⟨_, _, _, _, _, _, rfl, rfl, rfl, by rw [hP]; exact kx⟩ ?_ | refine X_call ?_ ⟨_, _, _, _, _, _, rfl, rfl, rfl, by rw [hP]; exact ky⟩ ?_ | apply X_q | apply X_st | apply X_n | apply X_s | apply SKs0 | apply SKs2 | apply SKs1 | refine ⟨⟨rfl, rfl⟩, ?_⟩ | refine ⟨⟨rfl, ?_⟩, ?_⟩ | refine ⟨?_, ?_⟩ | (· (try simp only [go_sem, seval, reduceIte, ↓reduceIte, Bool.not_eq_true, reduceCtorEq, beq_false, beq_true, hn, hP, f1, f2, g1]); first | done | rfl)))) | apply T_seq | apply T_block | refine T_scopeJ 0 rfl ?_ | apply T_scope | apply T_goto | apply T_ret | apply T_skip | apply T_exit | apply T_label | refine T_condT rfl ?_ | refine T_condF rfl ?_ | refine T_condD rfl (fun _ => ?_) (fun _ => ?_) | refine T_cond rfl (fun _ => ?_) (fun _ => ?_))
    exact ends_ret rfl rfl rfl rfl
  cases g2 : ((spreadF s d (joinSF s t).1).2 != 0)
  rotate_left
  · repeat' (first | apply T_then | apply then_ret | apply then_exit | apply then_goto | apply rnd_exit | apply rnd_ret | apply rnd_goto | apply noGo_normal | apply noGo_ret | apply noGo_exit | apply jmp_normal | apply jmp_ret | apply jmp_exit | apply jmp_goto | apply inB_normal | apply inB_ret | apply inB_goto | apply inB_exit | refine inB_exit_ne rfl ?_ | ((first | apply T_srK fw | apply T_regK fw); · ((try simp only [TOps.flat, List.cons_append, List.nil_append]); repeat (first | apply X_g0 | apply X_g | apply S_keep | apply X_skip | apply X_skipN | refine X_call ?_ ⟨_, _, _, _, _, _, rfl, rfl, rfl, by rw [hP]; exact p_awake4⟩ ?_ | refine X_call ?_ ⟨_, _, _, _, _, _, rfl, rfl, rfl, by rw [hP]; exact p_ref03_Few _ _⟩ ?_ | refine X_call ?_ ⟨_, _, _, _, _, _, rfl, rfl, rfl, by rw [hP]; exact kj⟩ ?_ | refine X_call ?_ ⟨_, _, _, _, _, _, rfl, rfl, rfl, by rw [hP]; exact kx⟩ ?_ | refine X_call ?_ ⟨_, _, _, _, _, _, rfl, rfl, rfl, by rw [hP]; exact ky⟩ ?_ | apply X_q | apply X_st | apply X_n | apply X_s | apply SKs0 | apply SKs2 | apply SKs1 | refine ⟨⟨rfl, rfl⟩, ?_⟩ | refine ⟨⟨rfl, ?_⟩, ?_⟩ | refine ⟨?_, ?_⟩ | (· (try simp only [go_sem, seval, reduceIte, ↓reduceIte, Bool.not_eq_true, reduceCtorEq, beq_false, beq_true, hn, hP, f1, f2, g1, g2]); first | done | rfl)))) | apply T_seq | apply T_block | refine T_scopeJ 0 rfl ?_ | apply T_scope | apply T_goto | apply T_ret | apply T_skip | apply T_exit | apply T_label | refine T_condT rfl ?_ | refine T_condF rfl ?_ | refine T_condD rfl (fun _ => ?_) (fun _ => ?_) | refine T_cond rfl (fun _ => ?_) (fun _ => ?_))
    exact ends_ret rfl rfl rfl rfl
  cases g3 : ((spreadF t e (joinSF s t).1).2 != 0)
  rotate_left
  · repeat' (first | apply T_then | apply then_ret | apply then_exit | apply then_goto | apply rnd_exit | apply rnd_ret | apply rnd_goto | apply noGo_normal | apply noGo_ret | apply noGo_exit | apply jmp_normal | apply jmp_ret | apply jmp_exit | apply jmp_goto | apply inB_normal | apply inB_ret | apply inB_goto | apply inB_exit | refine inB_exit_ne rfl ?_ | ((first | apply T_srK fw | apply T_regK fw); · ((try simp only [TOps.flat, List.cons_append, List.nil_append]); repeat (first | apply X_g0 | apply X_g | apply S_keep | apply X_skip | apply X_skipN | refine X_call ?_ ⟨_, _, _, _, _, _, rfl, rfl, rfl, by rw [hP]; exact p_awake4⟩ ?_ | refine X_call ?_ ⟨_, _, _, _, _, _, rfl, rfl, rfl, by rw [hP]; exact p_ref03_Few _ _⟩ ?_ | refine X_call ?_ ⟨_, _, _, _, _, _, rfl, rfl, rfl, by rw [hP]; exact kj⟩ ?_ | refine X_call ?_ ⟨_, _, _, _, _, _, rfl, rfl, rfl, by rw [hP]; exact kx⟩ ?_ | refine X_call ?_ ⟨_, _, _, _, _, _, rfl, rfl, rfl, by rw [hP]; exact ky⟩ ?_ | apply X_q | apply X_st | apply X_n | apply X_s | apply SKs0 | apply SKs2 | apply SKs1 | refine ⟨⟨rfl, rfl⟩, ?_⟩ | refine ⟨⟨rfl, ?_⟩, ?_⟩ | refine ⟨?_, ?_⟩ | (· (try simp only [go_sem, seval, reduceIte, ↓reduceIte, Bool.not_eq_true, reduceCtorEq, beq_false, beq_true, hn, hP, f1, f2, g1, g2, g3]); first | done | rfl)))) | apply T_seq | apply T_block | refine T_scopeJ 0 rfl ?_ | apply T_scope | apply T_goto | apply T_ret | apply T_skip | apply T_exit | apply T_label | refine T_condT rfl ?_ | refine T_condF rfl ?_ | refine T_condD rfl (fun _ => ?_) (fun _ => ?_) | refine T_cond rfl (fun _ => ?_) (fun _ => ?_))
    exact ends_ret rfl rfl rfl rfl
  simp only [bne_eq_false_iff_eq] at g1 g2 g3
  rcases join_or s t with ⟨r, hj, hr⟩ | ⟨_, hr⟩
  rotate_left
  · rw [hr] at g1; simp at g1
  rw [hr] at g2 g3 kj kx ky
  have h1 : checkT s d = true := by
    apply Classical.byContradiction; intro h; unfold spreadF at g2; rw [if_neg h] at g2; simp [bad] at g2
  have h2 : checkT t e = true := by
    apply Classical.byContradiction; intro h; unfold spreadF at g3; rw [if_neg h] at g3; simp [bad] at g3
  have hx : spreadF s d r = ((r, spreadD s d r), 0) := by unfold spreadF; rw [if_pos h1, if_pos (fits_of hj.left)]
  have hy : spreadF t e r = ((r, spreadD t e r), 0) := by unfold spreadF; rw [if_pos h2, if_pos (fits_of hj.right)]
  rw [hx] at kx
  rw [hy] at ky
  have ix := spread_I64 (s := s) (g := r) hd
  have iy := spread_I64 (s := t) (g := r) he
  -- two
  obtain ⟨P, m1, m2⟩ : ∃ P : (List Int × List Int) × Int, PureC Try.prog fi_elem_Two [dN op, dT s d, dT t e] (dTE P) ∧ PureC Try.prog fi_elem_Two [dN op, dT r (spreadD s d r), dT r (spreadD t e r)] (dTE P) := by
    by_cases c1 : op = 10
    · subst c1
      exact ⟨_, k_Add hd he, by have := k_Add (s := r) (t := r) ix iy; rwa [two_spread h1 h2 hj] at this⟩
    by_cases c2 : op = 11
    · subst c2
      exact ⟨_, k_Sub hd he, by have := k_Sub (s := r) (t := r) ix iy; rwa [two_spread h1 h2 hj] at this⟩
    by_cases c3 : op = 12
    · subst c3
      exact ⟨_, k_Mul hd he, by have := k_Mul (s := r) (t := r) ix iy; rwa [two_spread h1 h2 hj] at this⟩
    by_cases c4 : op = 13
    · subst c4
      exact ⟨_, k_Div hd he, by have := k_Div (s := r) (t := r) ix iy; rwa [two_spread h1 h2 hj] at this⟩
    exact ⟨bad 1, p_elem_Two_no c1 c2 c3 c4 s d t e, p_elem_Two_no c1 c2 c3 c4 _ _ _ _⟩
  -- one
  have hone : ∀ {W : Int → Int × Int} {c : Int}, (∀ v, (W v).2 = 0 ∨ (W v).2 = c) → (∀ {s' d' : List Int}, I64s d' → PureC Try.prog fi_elem_One [dN op, dT s' d'] (dTE (oneF W s' d'))) →
      ∃ (us ud : List Int) (j : Int) (vs vd : List Int) (ws wd : List Int) (l : Int), PureC Try.prog fi_elem_One [dN op, dT s d] (dTE ((us, ud), j)) ∧ PureC Try.prog fi_elem_One [dN op, dT r (spreadD s d r)] (dTE ((vs, vd), j)) ∧ PureC Try.prog fi_tensor_Spread [dT us ud, dI r] (dTE ((ws, wd), l)) ∧ ((j != 0) = true ∨ (j = 0 ∧ l = 0 ∧ vs = ws ∧ vd = wd)) := fun {W c} hW k => by
    have z1 := k (s' := s) hd
    have z2 := k (s' := r) ix
    rcases one_spread hW h1 hj.left with ⟨f, q1, q2⟩ | ⟨q0, q1, q2⟩
    · rw [q1] at z1
      rw [q2] at z2
      have z3 := p_tensor_Spread s (d.map f) r
      have : spreadF s (d.map f) r = ((r, (spreadD s d r).map f), 0) := by unfold spreadF; rw [if_pos (check_map h1 f), if_pos (fits_of hj.left), spread_map h1 hj.left]
      rw [this] at z3
      exact ⟨_, _, _, _, _, _, _, _, z1, z2, z3, .inr ⟨rfl, rfl, rfl, rfl⟩⟩
    · rw [q1] at z1
      rw [q2] at z2
      have z3 := p_tensor_Spread [] [] r
      have : spreadF [] [] r = bad 30 := by unfold spreadF; rw [if_neg (by decide)]
      rw [this] at z3
      exact ⟨[], [], c, [], [], [], [], 30, z1, z2, z3, .inl q0⟩
  obtain ⟨us, ud, j, vs, vd, ws, wd, l, n1, n2, n3, hjv⟩ : ∃ (us ud : List Int) (j : Int) (vs vd : List Int) (ws wd : List Int) (l : Int), PureC Try.prog fi_elem_One [dN op, dT s d] (dTE ((us, ud), j)) ∧ PureC Try.prog fi_elem_One [dN op, dT r (spreadD s d r)] (dTE ((vs, vd), j)) ∧ PureC Try.prog fi_tensor_Spread [dT us ud, dI r] (dTE ((ws, wd), l)) ∧ ((j != 0) = true ∨ (j = 0 ∧ l = 0 ∧ vs = ws ∧ vd = wd)) := by
    by_cases c1 : op = 20
    · subst c1; exact hone fNeg_err fun h => k_Neg h
    by_cases c2 : op = 21
    · subst c2; exact hone fRelu_err fun h => k_Relu h
    by_cases c3 : op = 22
    · subst c3; exact hone fPow_err fun h => k_Pow h
    by_cases c4 : op = 23
    · subst c4; exact hone fSqrt_err fun h => k_Sqrt h
    have z3 := p_tensor_Spread [] [] r
    have : spreadF [] [] r = bad 30 := by unfold spreadF; rw [if_neg (by decide)]
    rw [this] at z3
    exact ⟨[], [], 1, [], [], [], [], 30, p_elem_One_no c1 c2 c3 c4 s d, p_elem_One_no c1 c2 c3 c4 _ _, z3, .inl rfl⟩
  clear hone
  generalize spreadD s d r = xd at *
  generalize spreadD t e r = yd at *
  obtain ⟨⟨ps, pd⟩, h⟩ := P
  rcases hjv with z | ⟨rfl, rfl, rfl, rfl⟩
  · repeat' (first | apply T_then | apply then_ret | apply then_exit | apply then_goto | apply rnd_exit | apply rnd_ret | apply rnd_goto | apply noGo_normal | apply noGo_ret | apply noGo_exit | apply jmp_normal | apply jmp_ret | apply jmp_exit | apply jmp_goto | apply inB_normal | apply inB_ret | apply inB_goto | apply inB_exit | refine inB_exit_ne rfl ?_ | ((first | apply T_srK fw | apply T_regK fw); · ((try simp only [TOps.flat, List.cons_append, List.nil_append]); repeat (first | apply X_g0 | apply X_g | apply S_keep | apply X_skip | apply X_skipN | refine X_call ?_ ⟨_, _, _, _, _, _, rfl, rfl, rfl, by rw [hP]; exact p_awake4⟩ ?_ | refine X_call ?_ ⟨_, _, _, _, _, _, rfl, rfl, rfl, by rw [hP]; exact p_ref03_Few _ _⟩ ?_ | refine X_call ?_ ⟨_, _, _, _, _, _, rfl, rfl, rfl, by rw [hP]; exact kj⟩ ?_ | refine X_call ?_ ⟨_, _, _, _, _, _, rfl, rfl, rfl, by rw [hP]; exact kx⟩ ?_ | refine X_call ?_ ⟨_, _, _, _, _, _, rfl, rfl, rfl, by rw [hP]; exact ky⟩ ?_ | refine X_call ?_ ⟨_, _, _, _, _, _, rfl, rfl, rfl, by rw [hP]; exact m1⟩ ?_ | refine X_call ?_ ⟨_, _, _, _, _, _, rfl, rfl, rfl, by rw [hP]; exact m2⟩ ?_ | refine X_call ?_ ⟨_, _, _, _, _, _, rfl, rfl, rfl, by rw [hP]; exact n1⟩ ?_ | refine X_call ?_ ⟨_, _, _, _, _, _, rfl, rfl, rfl, by rw [hP]; exact n2⟩ ?_ | refine X_call ?_ ⟨_, _, _, _, _, _, rfl, rfl, rfl, by rw [hP]; exact n3⟩ ?_ | refine X_call ?_ ⟨_, _, _, _, _, _, rfl, rfl, rfl, by rw [hP]; exact c_sameT _ _⟩ ?_ | apply X_q | apply X_st | apply X_n | apply X_s | apply SKs0 | apply SKs2 | apply SKs1 | refine ⟨⟨rfl, rfl⟩, ?_⟩ | refine ⟨⟨rfl, ?_⟩, ?_⟩ | refine ⟨?_, ?_⟩ | (· (try simp only [go_sem, seval, reduceIte, ↓reduceIte, Bool.not_eq_true, reduceCtorEq, beq_false, beq_true, hn, hP, f1, f2, z]); first | done | rfl)))) | apply T_seq | apply T_block | refine T_scopeJ 0 rfl ?_ | apply T_scope | apply T_goto | apply T_ret | apply T_skip | apply T_exit | apply T_label | refine T_condT rfl ?_ | refine T_condF rfl ?_ | refine T_condD rfl (fun _ => ?_) (fun _ => ?_) | refine T_cond rfl (fun _ => ?_) (fun _ => ?_))
    exact ends_ret rfl rfl rfl rfl
  · repeat' (first | apply T_then | apply then_ret | apply then_exit | apply then_goto | apply rnd_exit | apply rnd_ret | apply rnd_goto | apply noGo_normal | apply noGo_ret | apply noGo_exit | apply jmp_normal | apply jmp_ret | apply jmp_exit | apply jmp_goto | apply inB_normal | apply inB_ret | apply inB_goto | apply inB_exit | refine inB_exit_ne rfl ?_ | ((first | apply T_srK fw | apply T_regK fw); · ((try simp only [TOps.flat, List.cons_append, List.nil_append]); repeat (first | apply X_g0 | apply X_g | apply S_keep | apply X_skip | apply X_skipN | refine X_call ?_ ⟨_, _, _, _, _, _, rfl, rfl, rfl, by rw [hP]; exact p_awake4⟩ ?_ | refine X_call ?_ ⟨_, _, _, _, _, _, rfl, rfl, rfl, by rw [hP]; exact p_ref03_Few _ _⟩ ?_ | refine X_call ?_ ⟨_, _, _, _, _, _, rfl, rfl, rfl, by rw [hP]; exact kj⟩ ?_ | refine X_call ?_ ⟨_, _, _, _, _, _, rfl, rfl, rfl, by rw [hP]; exact kx⟩ ?_ | refine X_call ?_ ⟨_, _, _, _, _, _, rfl, rfl, rfl, by rw [hP]; exact ky⟩ ?_ | refine X_call ?_ ⟨_, _, _, _, _, _, rfl, rfl, rfl, by rw [hP]; exact m1⟩ ?_ | refine X_call ?_ ⟨_, _, _, _, _, _, rfl, rfl, rfl, by rw [hP]; exact m2⟩ ?_ | refine X_call ?_ ⟨_, _, _, _, _, _, rfl, rfl, rfl, by rw [hP]; exact n1⟩ ?_ | refine X_call ?_ ⟨_, _, _, _, _, _, rfl, rfl, rfl, by rw [hP]; exact n2⟩ ?_ | refine X_call ?_ ⟨_, _, _, _, _, _, rfl, rfl, rfl, by rw [hP]; exact n3⟩ ?_ | refine X_call ?_ ⟨_, _, _, _, _, _, rfl, rfl, rfl, by rw [hP]; exact c_sameT _ _⟩ ?_ | apply X_q | apply X_st | apply X_n | apply X_s | apply SKs0 | apply SKs2 | apply SKs1 | refine ⟨⟨rfl, rfl⟩, ?_⟩ | refine ⟨⟨rfl, ?_⟩, ?_⟩ | refine ⟨?_, ?_⟩ | (· (try simp only [go_sem, seval, reduceIte, ↓reduceIte, Bool.not_eq_true, reduceCtorEq, beq_false, beq_true, hn, hP, f1, f2]); first | done | rfl)))) | apply T_seq | apply T_block | refine T_scopeJ 0 rfl ?_ | apply T_scope | apply T_goto | apply T_ret | apply T_skip | apply T_exit | apply T_label | refine T_condT rfl ?_ | refine T_condF rfl ?_ | refine T_condD rfl (fun _ => ?_) (fun _ => ?_) | refine T_cond rfl (fun _ => ?_) (fun _ => ?_))
    exact ends_ret rfl rfl rfl rfl
end Go.AM

