import Derived.Test.YtcmbjbmghoopcaaMq5
import Derived.Test.YtcmbjbmghoopcaaProg
import Derived.KernelRfl
import Derived.Lib.Mul64
import Derived.Test.YtcmbjbmghoopcaaRows
set_option linter.unusedVariables false
set_option linter.unusedSimpArgs false
namespace Go.AM
open Go Go.Proofs
set_option maxRecDepth 100000
abbrev fi_fullerlaw07_MatmulRows : Nat := 8
abbrev fi_tensor_Full : Nat := 31
abbrev fi_move_Slice : Nat := 34
abbrev fi_reduce_Sum : Nat := 35
abbrev fi_slices_Repeat_int_int : Nat := 70
abbrev fi_move_Slice_1 : Nat := 79
abbrev fi_reduce_together : Nat := 80
abbrev fi_reduce_done : Nat := 81
abbrev fi_reduce_none : Nat := 82
abbrev fi_reduce_lanes : Nat := 104
abbrev fi_reduce_lane_at : Nat := 105
abbrev fi_math_bits_Mul : Nat := 119
abbrev fi_slices_Delete_int_int : Nat := 122
abbrev fi_math_bits_Mul32 : Nat := 145
def a_fullerlaw07_MatmulRows : ACode := (.seq (.region none (.op (some 3) none (.n (.box 2 (.t 0)))
  (.op (some 4) none (.n (.box 2 (.t 1)))
  (.op (some 6) none (.q (.mov (.c (.one (.p (.bool false))))))
  .nil))) [2, 3, 4] [3, 4])
 (.seq (.region none (.op (some 22) none (.call (.c (.one (.p (.fn fi_fullerlaw07_awake [] [])))) [])
  (.op (some 7) none (.q (.mov (.t 22)))
  .nil)) [2, 3, 4, 7] [3, 4])
 (.seq (.seq (.region none (.op (some 23) none (.q (.load 2 true (.t 3)))
  (.op (some 24) none (.call (.c (.one (.p (.fn fi_fullerref03_Few [] [])))) [(.t 23)])
  (.op (some 25) none (.q (.un .not (.t 24)))
  (.op (some 26) none (.q (.mov (.t 25)))
  (.sc 30 26 false 29 none
  (.op (some 27) (some (26, false)) (.q (.load 2 true (.t 4)))
  (.op (some 28) (some (26, false)) (.call (.c (.one (.p (.fn fi_fullerref03_Few [] [])))) [(.t 27)])
  (.op (some 29) (some (26, false)) (.q (.un .not (.t 28)))
  .nil)))
  .nil))))) [2, 3, 4, 7, 30] [3, 4])
 (.cond (.t 30) (.seq (.region none (.op (some 31) none (.q (.mov (.t 7)))
  (.op (some 6) none (.q (.mov (.t 31)))
  .nil)) [6] [3, 4])
 .ret)
 .skip))
 (.seq (.region none (.op (some 33) none (.q (.load 2 true (.t 3)))
  (.op (some 34) none (.q (.load 2 true (.t 4)))
  (.op (some 35) none (.call (.c (.one (.p (.fn fi_matmul_Mul [] [])))) [(.t 33), (.t 34)])
  (.op (some 32) none (.q (.mov (.t 35)))
  (.op (some 36) none (.q (.extr (.t 32) 0))
  (.op (some 37) none (.q (.extr (.t 32) 1))
  (.op (some 8) none (.n (.alloc [.nils, .nils]))
  (.op none none (.s (.store 2 (.t 8) (.t 36)))
  (.op (some 9) none (.q (.mov (.t 37)))
  .nil))))))))) [2, 3, 4, 7, 8, 9] [3, 4, 8])
 (.seq (.seq (.region none (.op (some 38) none (.q (.mov (.t 9)))
  (.op (some 39) none (.q (.bin .neq (.t 38) (.c (.one (.p (.int .i64 0))))))
  (.op (some 40) none (.q (.mov (.t 39)))
  (.sc 45 40 false 44 none
  (.op (some 41) (some (40, false)) (.q (.faddr 0 (.t 3)))
  (.op (some 42) (some (40, false)) (.q (.load 1 false (.t 41)))
  (.op (some 43) (some (40, false)) (.q (.len (.t 42)))
  (.op (some 44) (some (40, false)) (.q (.bin .neq (.t 43) (.c (.one (.p (.int .i64 2))))))
  .nil))))
  (.op (some 46) none (.q (.mov (.t 45)))
  (.sc 51 46 false 50 none
  (.op (some 47) (some (46, false)) (.q (.faddr 0 (.t 4)))
  (.op (some 48) (some (46, false)) (.q (.load 1 false (.t 47)))
  (.op (some 49) (some (46, false)) (.q (.len (.t 48)))
  (.op (some 50) (some (46, false)) (.q (.bin .neq (.t 49) (.c (.one (.p (.int .i64 2))))))
  .nil))))
  .nil)))))) [2, 3, 4, 7, 8, 9, 51] [3, 4, 8])
 (.cond (.t 51) (.seq (.region none (.op (some 52) none (.q (.mov (.t 7)))
  (.op (some 53) none (.q (.mov (.t 52)))
  (.sc 56 53 true 55 none
  (.op (some 54) (some (53, true)) (.q (.mov (.t 9)))
  (.op (some 55) (some (53, true)) (.q (.bin .neq (.t 54) (.c (.one (.p (.int .i64 0))))))
  .nil))
  (.op (some 6) none (.q (.mov (.t 56)))
  .nil)))) [6] [3, 4, 8])
 .ret)
 .skip))
 (.seq (.region none (.op (some 58) none (.q (.load 2 true (.t 3)))
  (.op (some 59) none (.q (.mov (.t 2)))
  (.op (some 60) none (.q (.mov (.t 2)))
  (.op (some 61) none (.q (.bin .add (.t 60) (.c (.one (.p (.int .i64 1))))))
  (.op (some 62) none (.call (.c (.one (.p (.fn fi_move_Slice [] [])))) [(.t 58), (.c (.one (.p (.int .i64 0)))), (.t 59), (.t 61)])
  (.op (some 57) none (.q (.mov (.t 62)))
  (.op (some 63) none (.q (.extr (.t 57) 0))
  (.op (some 64) none (.q (.extr (.t 57) 1))
  (.op (some 10) none (.n (.alloc [.nils, .nils]))
  (.op none none (.s (.store 2 (.t 10) (.t 63)))
  (.op (some 11) none (.q (.mov (.t 64)))
  .nil))))))))))) [2, 3, 4, 7, 8, 10, 11] [3, 4, 8, 10])
 (.seq (.seq (.region none (.op (some 65) none (.q (.mov (.t 2)))
  (.op (some 66) none (.q (.bin .lss (.t 65) (.c (.one (.p (.int .i64 0))))))
  (.op (some 67) none (.q (.mov (.t 66)))
  (.sc 74 67 false 73 none
  (.op (some 68) (some (67, false)) (.q (.mov (.t 2)))
  (.op (some 69) (some (67, false)) (.q (.faddr 0 (.t 3)))
  (.op (some 70) (some (67, false)) (.q (.load 1 false (.t 69)))
  (.op (some 71) (some (67, false)) (.q (.iaddr 1 (.t 70) (.c (.one (.p (.int .i64 0))))))
  (.op (some 72) (some (67, false)) (.q (.load 1 false (.t 71)))
  (.op (some 73) (some (67, false)) (.q (.bin .geq (.t 68) (.t 72)))
  .nil))))))
  .nil)))) [2, 4, 7, 8, 10, 11, 74] [3, 4, 8, 10])
 (.cond (.t 74) (.seq (.region none (.op (some 75) none (.q (.mov (.t 7)))
  (.op (some 76) none (.q (.mov (.t 75)))
  (.sc 79 76 true 78 none
  (.op (some 77) (some (76, true)) (.q (.mov (.t 11)))
  (.op (some 78) (some (76, true)) (.q (.bin .eql (.t 77) (.c (.one (.p (.int .i64 20))))))
  .nil))
  (.op (some 6) none (.q (.mov (.t 79)))
  .nil)))) [6] [3, 4, 8, 10])
 .ret)
 .skip))
 (.seq (.region none (.op (some 81) none (.q (.load 2 true (.t 10)))
  (.op (some 82) none (.q (.load 2 true (.t 4)))
  (.op (some 83) none (.call (.c (.one (.p (.fn fi_matmul_Mul [] [])))) [(.t 81), (.t 82)])
  (.op (some 80) none (.q (.mov (.t 83)))
  (.op (some 84) none (.q (.extr (.t 80) 0))
  (.op (some 85) none (.q (.extr (.t 80) 1))
  (.op (some 12) none (.n (.alloc [.nils, .nils]))
  (.op none none (.s (.store 2 (.t 12) (.t 84)))
  (.op (some 13) none (.q (.mov (.t 85)))
  .nil))))))))) [2, 4, 7, 8, 11, 12, 13] [3, 4, 8, 10, 12])
 (.seq (.region none (.op (some 87) none (.q (.load 2 true (.t 8)))
  (.op (some 88) none (.q (.mov (.t 2)))
  (.op (some 89) none (.q (.mov (.t 2)))
  (.op (some 90) none (.q (.bin .add (.t 89) (.c (.one (.p (.int .i64 1))))))
  (.op (some 91) none (.call (.c (.one (.p (.fn fi_move_Slice [] [])))) [(.t 87), (.c (.one (.p (.int .i64 0)))), (.t 88), (.t 90)])
  (.op (some 86) none (.q (.mov (.t 91)))
  (.op (some 92) none (.q (.extr (.t 86) 0))
  (.op (some 93) none (.q (.extr (.t 86) 1))
  (.op (some 14) none (.n (.alloc [.nils, .nils]))
  (.op none none (.s (.store 2 (.t 14) (.t 92)))
  (.op (some 15) none (.q (.mov (.t 93)))
  .nil))))))))))) [4, 7, 11, 12, 13, 14, 15] [3, 4, 8, 10, 12, 14])
 (.seq (.region none (.op (some 95) none (.q (.faddr 0 (.t 4)))
  (.op (some 96) none (.q (.load 1 false (.t 95)))
  (.op (some 97) none (.q (.iaddr 1 (.t 96) (.c (.one (.p (.int .i64 0))))))
  (.op (some 98) none (.q (.load 1 false (.t 97)))
  (.op (some 99) none (.n (.lit 1 2 [(.int .i64 0)] [(0, (.c (.one (.p (.int .i64 1))))), (1, (.t 98))]))
  (.op (some 100) none (.call (.c (.one (.p (.fn fi_tensor_Full [] [])))) [(.t 99), (.c (.one (.p (.int .i64 4294967296))))])
  (.op (some 94) none (.q (.mov (.t 100)))
  (.op (some 101) none (.q (.extr (.t 94) 0))
  (.op (some 102) none (.q (.extr (.t 94) 1))
  (.op (some 16) none (.n (.alloc [.nils, .nils]))
  (.op none none (.s (.store 2 (.t 16) (.t 101)))
  (.op (some 17) none (.q (.mov (.t 102)))
  .nil)))))))))))) [4, 7, 11, 12, 13, 14, 15, 16, 17] [3, 4, 8, 10, 12, 14, 16, 99])
 (.seq (.region none (.op (some 104) none (.q (.load 2 true (.t 16)))
  (.op (some 105) none (.q (.load 2 true (.t 4)))
  (.op (some 106) none (.call (.c (.one (.p (.fn fi_matmul_Mul [] [])))) [(.t 104), (.t 105)])
  (.op (some 103) none (.q (.mov (.t 106)))
  (.op (some 107) none (.q (.extr (.t 103) 0))
  (.op (some 108) none (.q (.extr (.t 103) 1))
  (.op (some 18) none (.n (.alloc [.nils, .nils]))
  (.op none none (.s (.store 2 (.t 18) (.t 107)))
  (.op (some 19) none (.q (.mov (.t 108)))
  .nil))))))))) [4, 7, 11, 12, 13, 14, 15, 17, 18, 19] [3, 4, 8, 10, 12, 14, 16, 18, 99])
 (.seq (.region none (.op (some 110) none (.q (.load 2 true (.t 4)))
  (.op (some 111) none (.call (.c (.one (.p (.fn fi_reduce_Sum [] [])))) [(.t 110), (.c (.one (.p (.int .i64 0))))])
  (.op (some 109) none (.q (.mov (.t 111)))
  (.op (some 112) none (.q (.extr (.t 109) 0))
  (.op (some 113) none (.q (.extr (.t 109) 1))
  (.op (some 20) none (.n (.alloc [.nils, .nils]))
  (.op none none (.s (.store 2 (.t 20) (.t 112)))
  (.op (some 21) none (.q (.mov (.t 113)))
  .nil)))))))) [7, 11, 12, 13, 14, 15, 17, 18, 19, 20, 21] [3, 4, 8, 10, 12, 14, 16, 18, 20, 99])
 (.seq (.region none (.op (some 114) none (.q (.mov (.t 7)))
  (.op (some 115) none (.q (.mov (.t 114)))
  (.sc 118 115 true 117 none
  (.op (some 116) (some (115, true)) (.q (.mov (.t 11)))
  (.op (some 117) (some (115, true)) (.q (.bin .eql (.t 116) (.c (.one (.p (.int .i64 0))))))
  .nil))
  (.op (some 119) none (.q (.mov (.t 118)))
  (.sc 122 119 true 121 none
  (.op (some 120) (some (119, true)) (.q (.mov (.t 13)))
  (.op (some 121) (some (119, true)) (.q (.bin .eql (.t 120) (.c (.one (.p (.int .i64 0))))))
  .nil))
  (.op (some 123) none (.q (.mov (.t 122)))
  (.sc 126 123 true 125 none
  (.op (some 124) (some (123, true)) (.q (.mov (.t 15)))
  (.op (some 125) (some (123, true)) (.q (.bin .eql (.t 124) (.c (.one (.p (.int .i64 0))))))
  .nil))
  (.op (some 127) none (.q (.mov (.t 126)))
  (.sc 130 127 true 129 none
  (.op (some 128) (some (127, true)) (.q (.mov (.t 17)))
  (.op (some 129) (some (127, true)) (.q (.bin .eql (.t 128) (.c (.one (.p (.int .i64 0))))))
  .nil))
  (.op (some 131) none (.q (.mov (.t 130)))
  (.sc 135 131 true 134 none
  (.op (some 132) (some (131, true)) (.q (.load 2 true (.t 12)))
  (.op (some 133) (some (131, true)) (.q (.load 2 true (.t 14)))
  (.op (some 134) (some (131, true)) (.call (.c (.one (.p (.fn fi_fullerref03_Same [] [])))) [(.t 132), (.t 133)])
  .nil)))
  (.op (some 136) none (.q (.mov (.t 135)))
  (.sc 140 136 true 139 none
  (.op (some 137) (some (136, true)) (.q (.mov (.t 19)))
  (.op (some 138) (some (136, true)) (.q (.mov (.t 21)))
  (.op (some 139) (some (136, true)) (.q (.bin .eql (.t 137) (.t 138)))
  .nil)))
  (.op (some 141) none (.q (.mov (.t 140)))
  (.sc 147 141 true 146 none
  (.op (some 142) (some (141, true)) (.q (.faddr 1 (.t 18)))
  (.op (some 143) (some (141, true)) (.q (.load 1 false (.t 142)))
  (.op (some 144) (some (141, true)) (.q (.faddr 1 (.t 20)))
  (.op (some 145) (some (141, true)) (.q (.load 1 false (.t 144)))
  (.op (some 146) (some (141, true)) (.call (.c (.one (.p (.fn fi_fullerref02_Same [] [])))) [(.t 143), (.t 145)])
  .nil)))))
  (.op (some 6) none (.q (.mov (.t 147)))
  .nil)))))))))))))))) [6] [3, 4, 8, 10, 12, 14, 16, 18, 20, 99])
 .ret)))))))))))))
theorem is_fullerlaw07_MatmulRows : compC Try.prog (Try.f8.body.getD .skip) = some a_fullerlaw07_MatmulRows.erase := by kernel_rfl
theorem ok_fullerlaw07_MatmulRows : a_fullerlaw07_MatmulRows.ok 148 = true := by kernel_rfl
theorem rv_fullerlaw07_MatmulRows : compRV Try.prog Try.f8.results.toList = some [.tmp 6] := by kernel_rfl
theorem pure_fullerlaw07_MatmulRows {ds : List DV} {r : DV} (hn : ds.length ≤ 148) (h : ∀ (G : AM.Ground), G.P = Try.prog → G.nt = 148 → T G Fence.wide 0 a_fullerlaw07_MatmulRows (AM.Ends [.tmp 6] r) { env := initE 0 ds, σ := [] }) : PureC Try.prog fi_fullerlaw07_MatmulRows ds r :=
  pureC_of Try.call8 Try.func8 (by rfl) is_fullerlaw07_MatmulRows ok_fullerlaw07_MatmulRows rv_fullerlaw07_MatmulRows hn h

def a_tensor_Full : ACode := (.seq (.region none (.op (some 4) none (.n (.alloc [.nils, .nils]))
  (.op (some 5) none (.q (.mov (.c (.one (.p (.int .i64 0))))))
  .nil)) [0, 1, 4] [4])
 (.seq (.seq (.region none (.op (some 6) none (.q (.mov (.t 0)))
  (.op (some 7) none (.call (.c (.one (.p (.fn fi_shape_Check [] [])))) [(.t 6)])
  (.op (some 8) none (.q (.un .not (.t 7)))
  .nil))) [0, 1, 4, 8] [4])
 (.cond (.t 8) (.seq (.region none (.op (some 9) none (.q (.build [.nils, .nils] []))
  (.op none none (.s (.store 2 (.t 4) (.t 9)))
  (.op (some 5) none (.q (.mov (.c (.one (.p (.int .i64 20))))))
  .nil))) [4, 5] [4])
 .ret)
 .skip))
 (.seq (.region none (.op (some 10) none (.q (.mov (.t 0)))
  (.op (some 11) none (.call (.c (.one (.p (.fn fi_slices_Clone_int_int [] [])))) [(.t 10)])
  (.op (some 12) none (.q (.mov (.t 1)))
  (.op (some 13) none (.n (.lit 1 1 [(.int .i64 0)] [(0, (.t 12))]))
  (.op (some 14) none (.q (.mov (.t 0)))
  (.op (some 15) none (.call (.c (.one (.p (.fn fi_shape_Size [] [])))) [(.t 14)])
  (.op (some 16) none (.call (.c (.one (.p (.fn fi_slices_Repeat_int_int [] [])))) [(.t 13), (.t 15)])
  (.op (some 17) none (.q (.build [.nils, .nils] [(0, 1, (.t 11)), (1, 1, (.t 16))]))
  (.op none none (.s (.store 2 (.t 4) (.t 17)))
  (.op (some 5) none (.q (.mov (.c (.one (.p (.int .i64 0))))))
  .nil)))))))))) [4, 5] [4, 13])
 .ret)))
theorem is_tensor_Full : compC Try.prog (Try.f31.body.getD .skip) = some a_tensor_Full.erase := by kernel_rfl
theorem ok_tensor_Full : a_tensor_Full.ok 18 = true := by kernel_rfl
theorem rv_tensor_Full : compRV Try.prog Try.f31.results.toList = some [.cell 2 true 4, .tmp 5] := by kernel_rfl
theorem pure_tensor_Full {ds : List DV} {r : DV} (hn : ds.length ≤ 18) (h : ∀ (G : AM.Ground), G.P = Try.prog → G.nt = 18 → T G Fence.wide 0 a_tensor_Full (AM.Ends [.cell 2 true 4, .tmp 5] r) { env := initE 0 ds, σ := [] }) : PureC Try.prog fi_tensor_Full ds r :=
  pureC_of Try.call31 Try.func31 (by rfl) is_tensor_Full ok_tensor_Full rv_tensor_Full hn h

def a_move_Slice : ACode := (.seq (.region none (.op (some 4) none (.n (.box 2 (.t 0)))
  (.op (some 5) none (.n (.box 1 (.t 1)))
  (.op (some 6) none (.n (.box 1 (.t 2)))
  (.op (some 8) none (.n (.alloc [.nils, .nils]))
  (.op (some 9) none (.q (.mov (.c (.one (.p (.int .i64 0))))))
  .nil))))) [3, 4, 5, 6, 8] [4, 5, 6, 8])
 (.seq (.block 0 (.seq (.region none (.op (some 11) none (.q (.load 2 true (.t 4)))
  (.op (some 12) none (.call (.c (.one (.p (.fn fi_tensor_Check [] [])))) [(.t 11)])
  (.op (some 13) none (.q (.un .not (.t 12)))
  (.op (some 10) none (.q (.mov (.t 13)))
  .nil)))) [3, 4, 5, 6, 8, 10] [4, 5, 6, 8])
 (.cond (.t 10) (.seq (.region none (.op (some 14) none (.q (.build [.nils, .nils] []))
  (.op none none (.s (.store 2 (.t 8) (.t 14)))
  (.op (some 9) none (.q (.mov (.c (.one (.p (.int .i64 30))))))
  .nil))) [8, 9] [4, 5, 6, 8])
 .ret)
 (.seq (.region none (.op (some 16) none (.q (.load 1 false (.t 5)))
  (.op (some 17) none (.q (.bin .lss (.t 16) (.c (.one (.p (.int .i64 0))))))
  (.op (some 18) none (.q (.mov (.t 17)))
  (.sc 24 18 false 23 none
  (.op (some 19) (some (18, false)) (.q (.load 1 false (.t 5)))
  (.op (some 20) (some (18, false)) (.q (.faddr 0 (.t 4)))
  (.op (some 21) (some (18, false)) (.q (.load 1 false (.t 20)))
  (.op (some 22) (some (18, false)) (.q (.len (.t 21)))
  (.op (some 23) (some (18, false)) (.q (.bin .geq (.t 19) (.t 22)))
  .nil)))))
  (.op (some 25) none (.q (.mov (.t 24)))
  (.sc 28 25 false 27 none
  (.op (some 26) (some (25, false)) (.q (.load 1 false (.t 6)))
  (.op (some 27) (some (25, false)) (.q (.bin .lss (.t 26) (.c (.one (.p (.int .i64 0))))))
  .nil))
  (.op (some 29) none (.q (.mov (.t 28)))
  (.sc 33 29 false 32 none
  (.op (some 30) (some (29, false)) (.q (.load 1 false (.t 6)))
  (.op (some 31) (some (29, false)) (.q (.mov (.t 3)))
  (.op (some 32) (some (29, false)) (.q (.bin .geq (.t 30) (.t 31)))
  .nil)))
  (.op (some 34) none (.q (.mov (.t 33)))
  (.sc 42 34 false 41 none
  (.op (some 35) (some (34, false)) (.q (.mov (.t 3)))
  (.op (some 36) (some (34, false)) (.q (.faddr 0 (.t 4)))
  (.op (some 37) (some (34, false)) (.q (.load 1 false (.t 36)))
  (.op (some 38) (some (34, false)) (.q (.load 1 false (.t 5)))
  (.op (some 39) (some (34, false)) (.q (.iaddr 1 (.t 37) (.t 38)))
  (.op (some 40) (some (34, false)) (.q (.load 1 false (.t 39)))
  (.op (some 41) (some (34, false)) (.q (.bin .gtr (.t 35) (.t 40)))
  .nil)))))))
  (.op (some 15) none (.q (.mov (.t 42)))
  .nil))))))))))) [3, 4, 5, 6, 8, 15] [4, 5, 6, 8])
 (.cond (.t 15) (.seq (.region none (.op (some 43) none (.q (.build [.nils, .nils] []))
  (.op none none (.s (.store 2 (.t 8) (.t 43)))
  (.op (some 9) none (.q (.mov (.c (.one (.p (.int .i64 20))))))
  .nil))) [8, 9] [4, 5, 6, 8])
 .ret)
 .skip)))))
 (.seq (.region none (.op (some 44) none (.q (.faddr 0 (.t 4)))
  (.op (some 45) none (.q (.load 1 false (.t 44)))
  (.op (some 46) none (.q (.load 1 false (.t 5)))
  (.op (some 47) none (.q (.mov (.t 3)))
  (.op (some 48) none (.q (.load 1 false (.t 6)))
  (.op (some 49) none (.q (.bin .sub (.t 47) (.t 48)))
  (.op (some 50) none (.call (.c (.one (.p (.fn fi_move_sided [] [])))) [(.t 45), (.t 46), (.t 49)])
  (.op (some 51) none (.q (.mkF fi_move_Slice_1 [] [(.t 4), (.t 5), (.t 6)]))
  (.op (some 52) none (.call (.c (.one (.p (.fn fi_move_made [] [])))) [(.t 50), (.t 51)])
  (.op (some 53) none (.q (.extr (.t 52) 0))
  (.op (some 54) none (.q (.extr (.t 52) 1))
  (.op none none (.s (.store 2 (.t 8) (.t 53)))
  (.op (some 9) none (.q (.mov (.t 54)))
  .nil))))))))))))) [8, 9] [4, 5, 6, 8])
 .ret)))
theorem is_move_Slice : compC Try.prog (Try.f34.body.getD .skip) = some a_move_Slice.erase := by kernel_rfl
theorem ok_move_Slice : a_move_Slice.ok 55 = true := by kernel_rfl
theorem rv_move_Slice : compRV Try.prog Try.f34.results.toList = some [.cell 2 true 8, .tmp 9] := by kernel_rfl
theorem pure_move_Slice {ds : List DV} {r : DV} (hn : ds.length ≤ 55) (h : ∀ (G : AM.Ground), G.P = Try.prog → G.nt = 55 → T G Fence.wide 0 a_move_Slice (AM.Ends [.cell 2 true 8, .tmp 9] r) { env := initE 0 ds, σ := [] }) : PureC Try.prog fi_move_Slice ds r :=
  pureC_of Try.call34 Try.func34 (by rfl) is_move_Slice ok_move_Slice rv_move_Slice hn h

def a_reduce_Sum : ACode := (.seq (.region none (.op (some 2) none (.n (.box 2 (.t 0)))
  (.op (some 4) none (.n (.alloc [.nils, .nils]))
  (.op (some 5) none (.q (.mov (.c (.one (.p (.int .i64 0))))))
  .nil))) [1, 2, 4] [2, 4])
 (.seq (.region none (.op (some 6) none (.q (.load 2 true (.t 2)))
  (.op (some 7) none (.q (.mov (.t 1)))
  (.op (some 8) none (.q (.build [(.p .nilF), (.p .nilF)] [(0, 1, (.c (.one (.p (.fn fi_fix_Add [] []))))), (1, 1, (.c (.one (.p (.fn fi_reduce_done [] [])))))]))
  (.op (some 9) none (.call (.c (.one (.p (.fn fi_reduce_together [] [])))) [(.t 6), (.t 7), (.t 8), (.c (.one (.p (.fn fi_reduce_none [] []))))])
  (.op (some 10) none (.q (.extr (.t 9) 0))
  (.op (some 11) none (.q (.extr (.t 9) 1))
  (.op none none (.s (.store 2 (.t 4) (.t 10)))
  (.op (some 5) none (.q (.mov (.t 11)))
  .nil)))))))) [4, 5] [2, 4])
 .ret))
theorem is_reduce_Sum : compC Try.prog (Try.f35.body.getD .skip) = some a_reduce_Sum.erase := by kernel_rfl
theorem ok_reduce_Sum : a_reduce_Sum.ok 12 = true := by kernel_rfl
theorem rv_reduce_Sum : compRV Try.prog Try.f35.results.toList = some [.cell 2 true 4, .tmp 5] := by kernel_rfl
theorem pure_reduce_Sum {ds : List DV} {r : DV} (hn : ds.length ≤ 12) (h : ∀ (G : AM.Ground), G.P = Try.prog → G.nt = 12 → T G Fence.wide 0 a_reduce_Sum (AM.Ends [.cell 2 true 4, .tmp 5] r) { env := initE 0 ds, σ := [] }) : PureC Try.prog fi_reduce_Sum ds r :=
  pureC_of Try.call35 Try.func35 (by rfl) is_reduce_Sum ok_reduce_Sum rv_reduce_Sum hn h

def a_slices_Repeat_int_int : ACode := (.seq (.region none (.op (some 4) none (.q (.mov (.c (.one .nils))))
  .nil) [0, 1] [])
 (.seq (.seq (.region none (.op (some 9) none (.q (.mov (.t 1)))
  (.op (some 10) none (.q (.bin .lss (.t 9) (.c (.one (.p (.int .i64 0))))))
  .nil)) [0, 1, 10] [])
 (.cond (.t 10) (.region none (.op (some 11) none .bad
  (.op none none .bad
  .nil)) [0, 1] [])
 .skip))
 (.seq (.region none (.op (some 13) none (.q (.mov (.t 0)))
  (.op (some 14) none (.q (.len (.t 13)))
  (.op (some 15) none (.q (.conv .u64 (.t 14)))
  (.op (some 16) none (.q (.mov (.t 1)))
  (.op (some 17) none (.q (.conv .u64 (.t 16)))
  (.op (some 18) none (.call (.c (.one (.p (.fn fi_math_bits_Mul [] [])))) [(.t 15), (.t 17)])
  (.op (some 12) none (.q (.mov (.t 18)))
  (.op (some 19) none (.q (.extr (.t 12) 0))
  (.op (some 20) none (.q (.extr (.t 12) 1))
  (.op (some 5) none (.q (.mov (.t 19)))
  (.op (some 6) none (.q (.mov (.t 20)))
  .nil))))))))))) [0, 5, 6] [])
 (.seq (.seq (.region none (.op (some 21) none (.q (.mov (.t 5)))
  (.op (some 22) none (.q (.bin .gtr (.t 21) (.c (.one (.p (.int .u64 0))))))
  (.op (some 23) none (.q (.mov (.t 22)))
  (.sc 26 23 false 25 none
  (.op (some 24) (some (23, false)) (.q (.mov (.t 6)))
  (.op (some 25) (some (23, false)) (.q (.bin .gtr (.t 24) (.c (.one (.p (.int .u64 9223372036854775807))))))
  .nil))
  .nil)))) [0, 6, 26] [])
 (.cond (.t 26) (.region none (.op (some 27) none .bad
  (.op none none .bad
  .nil)) [0, 6] [])
 .skip))
 (.seq (.region none (.op (some 28) none (.q (.mov (.t 6)))
  (.op (some 29) none (.q (.conv .i64 (.t 28)))
  (.op (some 30) none (.n (.mkS 1 8 [(.int .i64 0)] (.t 29) (.t 29)))
  (.op (some 7) none (.q (.mov (.t 30)))
  .nil)))) [0, 7] [30])
 (.seq (.region none (.op (some 31) none (.q (.mov (.t 7)))
  (.op (some 32) none (.q (.mov (.t 0)))
  (.op (some 33) none (.s (.copy 1 (.t 31) (.t 32)))
  (.op (some 8) none (.q (.mov (.t 33)))
  .nil)))) [7, 8] [30])
 (.seq (.block 0 (.loop (.seq (.seq (.region none (.op (some 34) none (.q (.mov (.t 8)))
  (.op (some 35) none (.q (.mov (.t 7)))
  (.op (some 36) none (.q (.len (.t 35)))
  (.op (some 37) none (.q (.bin .lss (.t 34) (.t 36)))
  .nil)))) [7, 8, 37] [30])
 (.cond (.t 37) .skip
 (.exit 0)))
 (.block 1 (.region (some [[], [0], [0, 1], [0], [0, 1, 2, 3], [0, 1, 2, 3, 4], [0, 1, 2, 3], [0], [], []]) (.op (some 38) none (.q (.mov (.t 8)))
  (.op (some 39) none (.q (.mov (.t 7)))
  (.op (some 40) none (.q (.mov (.t 8)))
  (.op (some 41) none (.q (.slc 1 (.t 39) (some (.t 40)) none none))
  (.op (some 42) none (.q (.mov (.t 7)))
  (.op (some 43) none (.q (.mov (.t 8)))
  (.op (some 44) none (.q (.slc 1 (.t 42) none (some (.t 43)) none))
  (.op (some 45) none (.s (.copy 1 (.t 41) (.t 44)))
  (.op (some 46) none (.q (.bin .add (.t 38) (.t 45)))
  (.op (some 8) none (.q (.mov (.t 46)))
  .nil)))))))))) [7, 8] [30])))))
 (.seq (.region none (.op (some 47) none (.q (.mov (.t 7)))
  (.op (some 4) none (.q (.mov (.t 47)))
  .nil)) [4] [30])
 .ret))))))))
theorem is_slices_Repeat_int_int : compC Try.prog (Try.f70.body.getD .skip) = some a_slices_Repeat_int_int.erase := by kernel_rfl
theorem ok_slices_Repeat_int_int : a_slices_Repeat_int_int.ok 48 = true := by kernel_rfl
theorem rv_slices_Repeat_int_int : compRV Try.prog Try.f70.results.toList = some [.tmp 4] := by kernel_rfl
theorem mut_slices_Repeat_int_int {vs : List AV} {σ σ' : Sto} {r : AV} {fr : List Nat} (hn : vs.length ≤ 48) (h : ∀ (G : AM.Ground) (ex : List AV), G.P = Try.prog → G.nt = 48 → (∀ d ∈ fr, ex.all (fun v => !v.has d) = true) → T G Fence.wide 0 a_slices_Repeat_int_int (EndsM [.tmp 4] r σ' ex) { env := initV 0 vs, σ := σ, ex := ex }) : MutC Try.prog fi_slices_Repeat_int_int vs σ r σ' fr :=
  mutC_of Try.call70 Try.func70 (by rfl) is_slices_Repeat_int_int ok_slices_Repeat_int_int rv_slices_Repeat_int_int hn h

def a_move_Slice_1 : ACode := (.seq (.region none (.op (some 5) none (.q (.mov (.c (.one (.p (.int .i64 0))))))
  .nil) [0, 1, 2, 3] [])
 (.seq (.region none (.op (some 6) none (.q (.load 2 true (.t 1)))
  (.op (some 7) none (.q (.mov (.t 0)))
  (.op (some 8) none (.q (.load 1 false (.t 2)))
  (.op (some 9) none (.q (.load 1 false (.t 3)))
  (.op (some 10) none (.call (.c (.one (.p (.fn fi_move_shifted [] [])))) [(.t 6), (.t 7), (.t 8), (.t 9)])
  (.op (some 5) none (.q (.mov (.t 10)))
  .nil)))))) [5] [])
 .ret))
theorem is_move_Slice_1 : compC Try.prog (Try.f79.body.getD .skip) = some a_move_Slice_1.erase := by kernel_rfl
theorem ok_move_Slice_1 : a_move_Slice_1.ok 11 = true := by kernel_rfl
theorem rv_move_Slice_1 : compRV Try.prog Try.f79.results.toList = some [.tmp 5] := by kernel_rfl
theorem pure_move_Slice_1 {ds : List DV} {r : DV} (hn : ds.length ≤ 11) (h : ∀ (G : AM.Ground), G.P = Try.prog → G.nt = 11 → T G Fence.wide 0 a_move_Slice_1 (AM.Ends [.tmp 5] r) { env := initE 0 ds, σ := [] }) : PureC Try.prog fi_move_Slice_1 ds r :=
  pureC_of Try.call79 Try.func79 (by rfl) is_move_Slice_1 ok_move_Slice_1 rv_move_Slice_1 hn h

def a_reduce_together : ACode := (.seq (.region none (.op (some 4) none (.n (.box 2 (.t 0)))
  (.op (some 6) none (.n (.box 2 (.t 2)))
  (.op (some 8) none (.n (.alloc [.nils, .nils]))
  (.op (some 9) none (.q (.mov (.c (.one (.p (.int .i64 0))))))
  .nil)))) [1, 3, 4, 6, 8] [4, 6, 8])
 (.seq (.region none (.op (some 17) none (.q (.load 2 true (.t 4)))
  (.op (some 18) none (.q (.mov (.t 1)))
  (.op (some 19) none (.call (.c (.one (.p (.fn fi_reduce_lanes [] [])))) [(.t 17), (.t 18)])
  (.op (some 16) none (.q (.mov (.t 19)))
  (.op (some 20) none (.q (.extr (.t 16) 0))
  (.op (some 21) none (.q (.extr (.t 16) 1))
  (.op (some 10) none (.n (.alloc [(.p (.int .i64 0)), (.p (.int .i64 0)), (.p (.int .i64 0))]))
  (.op none none (.s (.store 3 (.t 10) (.t 20)))
  (.op (some 11) none (.q (.mov (.t 21)))
  .nil))))))))) [1, 3, 4, 6, 8, 10, 11] [4, 6, 8, 10])
 (.seq (.seq (.region none (.op (some 22) none (.q (.mov (.t 11)))
  (.op (some 23) none (.q (.bin .neq (.t 22) (.c (.one (.p (.int .i64 0))))))
  .nil)) [1, 3, 4, 6, 8, 10, 11, 23] [4, 6, 8, 10])
 (.cond (.t 23) (.seq (.region none (.op (some 24) none (.q (.build [.nils, .nils] []))
  (.op (some 25) none (.q (.mov (.t 11)))
  (.op none none (.s (.store 2 (.t 8) (.t 24)))
  (.op (some 9) none (.q (.mov (.t 25)))
  .nil)))) [8, 9] [4, 6, 8, 10])
 .ret)
 .skip))
 (.seq (.region none (.op (some 26) none (.q (.faddr 0 (.t 4)))
  (.op (some 27) none (.q (.load 1 false (.t 26)))
  (.op (some 28) none (.call (.c (.one (.p (.fn fi_slices_Clone_int_int [] [])))) [(.t 27)])
  (.op (some 29) none (.q (.mov (.t 1)))
  (.op (some 30) none (.q (.mov (.t 1)))
  (.op (some 31) none (.q (.bin .add (.t 30) (.c (.one (.p (.int .i64 1))))))
  (.op (some 32) none (.call (.c (.one (.p (.fn fi_slices_Delete_int_int [] [])))) [(.t 28), (.t 29), (.t 31)])
  (.op (some 33) none (.q (.build [.nils, .nils] [(0, 1, (.t 32))]))
  (.op (some 12) none (.n (.alloc [.nils, .nils]))
  (.op none none (.s (.store 2 (.t 12) (.t 33)))
  .nil)))))))))) [3, 4, 6, 8, 10, 12] [4, 6, 8, 10, 12])
 (.seq (.seq (.region none (.op (some 34) none (.q (.faddr 0 (.t 10)))
  (.op (some 35) none (.q (.load 1 false (.t 34)))
  (.op (some 36) none (.q (.faddr 2 (.t 10)))
  (.op (some 37) none (.q (.load 1 false (.t 36)))
  (.op (some 38) none (.q (.bin .mul (.t 35) (.t 37)))
  (.op (some 39) none (.q (.mov (.c (.one (.p (.int .i64 0))))))
  .nil)))))) [3, 4, 6, 8, 10, 12, 38, 39] [4, 6, 8, 10, 12])
 (.block 0 (.loop (.seq (.region none (.op (some 40) none (.q (.bin .lss (.t 39) (.t 38)))
  .nil) [3, 4, 6, 8, 10, 12, 38, 39, 40] [4, 6, 8, 10, 12])
 (.seq (.cond (.t 40) .skip
 (.exit 0))
 (.seq (.block 1 (.seq (.region none (.op (some 41) none (.q (.mov (.t 39)))
  (.op (some 13) none (.q (.mov (.t 41)))
  .nil)) [3, 4, 6, 8, 10, 12, 13, 38, 39] [4, 6, 8, 10, 12])
 (.seq (.region (some [[], [0], [0], [0, 1, 2], [0, 1, 2, 3], [0, 1, 2], [0], [0], [], []]) (.op (some 42) none (.q (.mov (.t 3)))
  (.op (some 43) none (.q (.faddr 1 (.t 4)))
  (.op (some 44) none (.q (.load 1 false (.t 43)))
  (.op (some 45) none (.q (.load 3 true (.t 10)))
  (.op (some 46) none (.q (.mov (.t 13)))
  (.op (some 47) none (.call (.c (.one (.p (.fn fi_reduce_lane_at [] [])))) [(.t 45), (.t 46), (.c (.one (.p (.int .i64 0))))])
  (.op (some 48) none (.q (.iaddr 1 (.t 44) (.t 47)))
  (.op (some 49) none (.q (.load 1 false (.t 48)))
  (.op (some 50) none (.call (.t 42) [(.t 49)])
  (.op (some 14) none (.q (.mov (.t 50)))
  .nil)))))))))) [3, 4, 6, 8, 10, 12, 13, 14, 38, 39] [4, 6, 8, 10, 12])
 (.seq (.seq (.region none (.op (some 51) none (.q (.faddr 1 (.t 10)))
  (.op (some 52) none (.q (.load 1 false (.t 51)))
  (.op (some 53) none (.q (.mov (.c (.one (.p (.int .i64 0))))))
  .nil))) [3, 4, 6, 8, 10, 12, 13, 14, 38, 39, 52, 53] [4, 6, 8, 10, 12])
 (.block 2 (.loop (.seq (.region none (.op (some 54) none (.q (.bin .lss (.t 53) (.t 52)))
  .nil) [3, 4, 6, 8, 10, 12, 13, 14, 38, 39, 52, 53, 54] [4, 6, 8, 10, 12])
 (.seq (.cond (.t 54) .skip
 (.exit 2))
 (.seq (.block 3 (.seq (.region none (.op (some 55) none (.q (.mov (.t 53)))
  (.op (some 15) none (.q (.mov (.t 55)))
  .nil)) [3, 4, 6, 8, 10, 12, 13, 14, 15, 38, 39, 52, 53] [4, 6, 8, 10, 12])
 (.seq (.region (some [[], [], [0, 1], [0, 1, 2], [0, 1, 2], [0, 1, 2, 3, 4], [0, 1, 2, 3, 4, 5], [0, 1, 2, 3, 4, 5, 6], [0, 1, 2, 3, 4], [0, 1, 2], [0, 1, 2], [], [], [], [13], [14], []]) (.op (some 57) none (.q (.faddr 0 (.t 6)))
  (.op (some 58) none (.q (.load 1 false (.t 57)))
  (.op (some 59) none (.q (.mov (.t 14)))
  (.op (some 60) none (.q (.faddr 1 (.t 4)))
  (.op (some 61) none (.q (.load 1 false (.t 60)))
  (.op (some 62) none (.q (.load 3 true (.t 10)))
  (.op (some 63) none (.q (.mov (.t 13)))
  (.op (some 64) none (.q (.mov (.t 15)))
  (.op (some 65) none (.call (.c (.one (.p (.fn fi_reduce_lane_at [] [])))) [(.t 62), (.t 63), (.t 64)])
  (.op (some 66) none (.q (.iaddr 1 (.t 61) (.t 65)))
  (.op (some 67) none (.q (.load 1 false (.t 66)))
  (.op (some 68) none (.call (.t 58) [(.t 59), (.t 67)])
  (.op (some 56) none (.q (.mov (.t 68)))
  (.op (some 69) none (.q (.extr (.t 56) 0))
  (.op (some 70) none (.q (.extr (.t 56) 1))
  (.op (some 14) none (.q (.mov (.t 69)))
  (.op (some 11) none (.q (.mov (.t 70)))
  .nil))))))))))))))))) [3, 4, 6, 8, 10, 11, 12, 13, 14, 38, 39, 52, 53] [4, 6, 8, 10, 12])
 (.seq (.region none (.op (some 71) none (.q (.mov (.t 11)))
  (.op (some 72) none (.q (.bin .neq (.t 71) (.c (.one (.p (.int .i64 0))))))
  .nil)) [3, 4, 6, 8, 10, 11, 12, 13, 14, 38, 39, 52, 53, 72] [4, 6, 8, 10, 12])
 (.cond (.t 72) (.seq (.region none (.op (some 73) none (.q (.build [.nils, .nils] []))
  (.op (some 74) none (.q (.mov (.t 11)))
  (.op none none (.s (.store 2 (.t 8) (.t 73)))
  (.op (some 9) none (.q (.mov (.t 74)))
  .nil)))) [8, 9] [4, 6, 8, 10, 12])
 .ret)
 .skip)))))
 (.region none (.op (some 75) none (.q (.bin .add (.t 53) (.c (.one (.p (.int .i64 1))))))
  (.op (some 53) none (.q (.mov (.t 75)))
  .nil)) [3, 4, 6, 8, 10, 12, 13, 14, 38, 39, 52, 53] [4, 6, 8, 10, 12])))))))
 (.seq (.seq (.region none (.op (some 77) none (.q (.faddr 1 (.t 6)))
  (.op (some 78) none (.q (.load 1 false (.t 77)))
  (.op (some 79) none (.q (.mov (.t 14)))
  (.op (some 80) none (.q (.faddr 1 (.t 10)))
  (.op (some 81) none (.q (.load 1 false (.t 80)))
  (.op (some 82) none (.call (.t 78) [(.t 79), (.t 81)])
  (.op (some 76) none (.q (.mov (.t 82)))
  (.op (some 83) none (.q (.extr (.t 76) 0))
  (.op (some 84) none (.q (.extr (.t 76) 1))
  (.op (some 14) none (.q (.mov (.t 83)))
  (.op (some 11) none (.q (.mov (.t 84)))
  .nil))))))))))) [3, 4, 6, 8, 10, 11, 12, 14, 38, 39] [4, 6, 8, 10, 12])
 (.seq (.region none (.op (some 85) none (.q (.mov (.t 11)))
  (.op (some 86) none (.q (.bin .neq (.t 85) (.c (.one (.p (.int .i64 0))))))
  .nil)) [3, 4, 6, 8, 10, 11, 12, 14, 38, 39, 86] [4, 6, 8, 10, 12])
 (.cond (.t 86) (.seq (.region none (.op (some 87) none (.q (.build [.nils, .nils] []))
  (.op (some 88) none (.q (.mov (.t 11)))
  (.op none none (.s (.store 2 (.t 8) (.t 87)))
  (.op (some 9) none (.q (.mov (.t 88)))
  .nil)))) [8, 9] [4, 6, 8, 10, 12])
 .ret)
 .skip)))
 (.region none (.op (some 89) none (.q (.faddr 1 (.t 12)))
  (.op (some 90) none (.q (.load 1 false (.t 89)))
  (.op (some 91) none (.q (.mov (.t 14)))
  (.op (some 92) none (.n (.lit 1 1 [(.int .i64 0)] [(0, (.t 91))]))
  (.op (some 93) none (.s (.app 1 8 (.t 90) (.t 92)))
  (.op (some 94) none (.q (.faddr 1 (.t 12)))
  (.op none none (.s (.store 1 (.t 94) (.t 93)))
  .nil))))))) [3, 4, 6, 8, 10, 12, 38, 39] [4, 6, 8, 10, 12, 92, 93]))))))
 (.region none (.op (some 95) none (.q (.bin .add (.t 39) (.c (.one (.p (.int .i64 1))))))
  (.op (some 39) none (.q (.mov (.t 95)))
  .nil)) [3, 4, 6, 8, 10, 12, 38, 39] [4, 6, 8, 10, 12, 92, 93])))))))
 (.seq (.region none (.op (some 96) none (.q (.load 2 true (.t 12)))
  (.op none none (.s (.store 2 (.t 8) (.t 96)))
  (.op (some 9) none (.q (.mov (.c (.one (.p (.int .i64 0))))))
  .nil))) [8, 9] [4, 6, 8, 10, 12, 92, 93])
 .ret))))))
theorem is_reduce_together : compC Try.prog (Try.f80.body.getD .skip) = some a_reduce_together.erase := by kernel_rfl
theorem ok_reduce_together : a_reduce_together.ok 97 = true := by kernel_rfl
theorem rv_reduce_together : compRV Try.prog Try.f80.results.toList = some [.cell 2 true 8, .tmp 9] := by kernel_rfl
theorem pure_reduce_together {ds : List DV} {r : DV} (hn : ds.length ≤ 97) (h : ∀ (G : AM.Ground), G.P = Try.prog → G.nt = 97 → T G Fence.wide 0 a_reduce_together (AM.Ends [.cell 2 true 8, .tmp 9] r) { env := initE 0 ds, σ := [] }) : PureC Try.prog fi_reduce_together ds r :=
  pureC_of Try.call80 Try.func80 (by rfl) is_reduce_together ok_reduce_together rv_reduce_together hn h

def a_reduce_done : ACode := (.seq (.region none (.op (some 4) none (.q (.mov (.c (.one (.p (.int .i64 0))))))
  (.op (some 5) none (.q (.mov (.c (.one (.p (.int .i64 0))))))
  .nil)) [0] [])
 (.seq (.region none (.op (some 6) none (.q (.mov (.t 0)))
  (.op (some 4) none (.q (.mov (.t 6)))
  (.op (some 5) none (.q (.mov (.c (.one (.p (.int .i64 0))))))
  .nil))) [4, 5] [])
 .ret))
theorem is_reduce_done : compC Try.prog (Try.f81.body.getD .skip) = some a_reduce_done.erase := by kernel_rfl
theorem ok_reduce_done : a_reduce_done.ok 7 = true := by kernel_rfl
theorem rv_reduce_done : compRV Try.prog Try.f81.results.toList = some [.tmp 4, .tmp 5] := by kernel_rfl
theorem pure_reduce_done {ds : List DV} {r : DV} (hn : ds.length ≤ 7) (h : ∀ (G : AM.Ground), G.P = Try.prog → G.nt = 7 → T G Fence.wide 0 a_reduce_done (AM.Ends [.tmp 4, .tmp 5] r) { env := initE 0 ds, σ := [] }) : PureC Try.prog fi_reduce_done ds r :=
  pureC_of Try.call81 Try.func81 (by rfl) is_reduce_done ok_reduce_done rv_reduce_done hn h

def a_reduce_none : ACode := (.seq (.region none (.op (some 2) none (.q (.mov (.c (.one (.p (.int .i64 0))))))
  .nil) [] [])
 (.seq (.region none (.op (some 2) none (.q (.mov (.c (.one (.p (.int .i64 0))))))
  .nil) [2] [])
 .ret))
theorem is_reduce_none : compC Try.prog (Try.f82.body.getD .skip) = some a_reduce_none.erase := by kernel_rfl
theorem ok_reduce_none : a_reduce_none.ok 3 = true := by kernel_rfl
theorem rv_reduce_none : compRV Try.prog Try.f82.results.toList = some [.tmp 2] := by kernel_rfl
theorem pure_reduce_none {ds : List DV} {r : DV} (hn : ds.length ≤ 3) (h : ∀ (G : AM.Ground), G.P = Try.prog → G.nt = 3 → T G Fence.wide 0 a_reduce_none (AM.Ends [.tmp 2] r) { env := initE 0 ds, σ := [] }) : PureC Try.prog fi_reduce_none ds r :=
  pureC_of Try.call82 Try.func82 (by rfl) is_reduce_none ok_reduce_none rv_reduce_none hn h

def a_reduce_lanes : ACode := (.seq (.region none (.op (some 2) none (.n (.box 2 (.t 0)))
  (.op (some 4) none (.n (.alloc [(.p (.int .i64 0)), (.p (.int .i64 0)), (.p (.int .i64 0))]))
  (.op (some 5) none (.q (.mov (.c (.one (.p (.int .i64 0))))))
  .nil))) [1, 2, 4] [2, 4])
 (.seq (.block 0 (.seq (.region none (.op (some 7) none (.q (.load 2 true (.t 2)))
  (.op (some 8) none (.call (.c (.one (.p (.fn fi_tensor_Check [] [])))) [(.t 7)])
  (.op (some 9) none (.q (.un .not (.t 8)))
  (.op (some 6) none (.q (.mov (.t 9)))
  .nil)))) [1, 2, 4, 6] [2, 4])
 (.cond (.t 6) (.seq (.region none (.op (some 10) none (.q (.build [(.p (.int .i64 0)), (.p (.int .i64 0)), (.p (.int .i64 0))] []))
  (.op none none (.s (.store 3 (.t 4) (.t 10)))
  (.op (some 5) none (.q (.mov (.c (.one (.p (.int .i64 30))))))
  .nil))) [4, 5] [2, 4])
 .ret)
 (.seq (.region none (.op (some 12) none (.q (.mov (.t 1)))
  (.op (some 13) none (.q (.bin .lss (.t 12) (.c (.one (.p (.int .i64 0))))))
  (.op (some 14) none (.q (.mov (.t 13)))
  (.sc 20 14 false 19 none
  (.op (some 15) (some (14, false)) (.q (.mov (.t 1)))
  (.op (some 16) (some (14, false)) (.q (.faddr 0 (.t 2)))
  (.op (some 17) (some (14, false)) (.q (.load 1 false (.t 16)))
  (.op (some 18) (some (14, false)) (.q (.len (.t 17)))
  (.op (some 19) (some (14, false)) (.q (.bin .geq (.t 15) (.t 18)))
  .nil)))))
  (.op (some 11) none (.q (.mov (.t 20)))
  .nil))))) [1, 2, 4, 11] [2, 4])
 (.cond (.t 11) (.seq (.region none (.op (some 21) none (.q (.build [(.p (.int .i64 0)), (.p (.int .i64 0)), (.p (.int .i64 0))] []))
  (.op none none (.s (.store 3 (.t 4) (.t 21)))
  (.op (some 5) none (.q (.mov (.c (.one (.p (.int .i64 20))))))
  .nil))) [4, 5] [2, 4])
 .ret)
 .skip)))))
 (.seq (.region (some [[], [], [0, 1], [], [], [0, 1, 2, 3, 4], [0, 1, 2, 3, 4], [0, 1, 2, 3, 4, 5, 6], [0, 1, 2, 3, 4], [0, 1, 2, 3, 4], [0, 1, 2, 3, 4, 5, 6, 7, 8, 9], [0, 1, 2, 3, 4, 5, 6, 7, 8, 9], [0, 1, 2, 3, 4, 5, 6, 7, 8, 9, 10, 11], [0, 1, 2, 3, 4, 5, 6, 7, 8, 9, 10, 11], [0, 1, 2, 3, 4, 5, 6, 7, 8, 9], [5, 6, 7, 8, 9], [], [], []]) (.op (some 22) none (.q (.faddr 0 (.t 2)))
  (.op (some 23) none (.q (.load 1 false (.t 22)))
  (.op (some 24) none (.q (.mov (.t 1)))
  (.op (some 25) none (.q (.slc 1 (.t 23) none (some (.t 24)) none))
  (.op (some 26) none (.call (.c (.one (.p (.fn fi_shape_Size [] [])))) [(.t 25)])
  (.op (some 27) none (.q (.faddr 0 (.t 2)))
  (.op (some 28) none (.q (.load 1 false (.t 27)))
  (.op (some 29) none (.q (.mov (.t 1)))
  (.op (some 30) none (.q (.iaddr 1 (.t 28) (.t 29)))
  (.op (some 31) none (.q (.load 1 false (.t 30)))
  (.op (some 32) none (.q (.faddr 0 (.t 2)))
  (.op (some 33) none (.q (.load 1 false (.t 32)))
  (.op (some 34) none (.q (.mov (.t 1)))
  (.op (some 35) none (.q (.bin .add (.t 34) (.c (.one (.p (.int .i64 1))))))
  (.op (some 36) none (.q (.slc 1 (.t 33) (some (.t 35)) none none))
  (.op (some 37) none (.call (.c (.one (.p (.fn fi_shape_Size [] [])))) [(.t 36)])
  (.op (some 38) none (.q (.build [(.p (.int .i64 0)), (.p (.int .i64 0)), (.p (.int .i64 0))] [(0, 1, (.t 26)), (1, 1, (.t 31)), (2, 1, (.t 37))]))
  (.op none none (.s (.store 3 (.t 4) (.t 38)))
  (.op (some 5) none (.q (.mov (.c (.one (.p (.int .i64 0))))))
  .nil))))))))))))))))))) [4, 5] [2, 4])
 .ret)))
theorem is_reduce_lanes : compC Try.prog (Try.f104.body.getD .skip) = some a_reduce_lanes.erase := by kernel_rfl
theorem ok_reduce_lanes : a_reduce_lanes.ok 39 = true := by kernel_rfl
theorem rv_reduce_lanes : compRV Try.prog Try.f104.results.toList = some [.cell 3 true 4, .tmp 5] := by kernel_rfl
theorem pure_reduce_lanes {ds : List DV} {r : DV} (hn : ds.length ≤ 39) (h : ∀ (G : AM.Ground), G.P = Try.prog → G.nt = 39 → T G Fence.wide 0 a_reduce_lanes (AM.Ends [.cell 3 true 4, .tmp 5] r) { env := initE 0 ds, σ := [] }) : PureC Try.prog fi_reduce_lanes ds r :=
  pureC_of Try.call104 Try.func104 (by rfl) is_reduce_lanes ok_reduce_lanes rv_reduce_lanes hn h

def a_reduce_lane_at : ACode := (.seq (.region none (.op (some 3) none (.n (.box 3 (.t 0)))
  (.op (some 6) none (.q (.mov (.c (.one (.p (.int .i64 0))))))
  .nil)) [1, 2, 3] [3])
 (.seq (.region (some [[], [0], [0], [], [0, 1, 2, 3], [0, 1, 2, 3], [], [0, 1, 2, 3, 4, 5, 6], [], [0, 1, 2, 3, 4, 5, 6, 7, 8], [0, 1, 2, 3, 4, 5, 6, 7, 8], [], [0, 1, 2, 3, 4, 5, 6, 7, 8, 9, 10, 11], [0, 1, 2, 3, 4, 5, 6, 7, 8, 9, 10, 11, 12], [0, 1, 2, 3, 4, 5, 6, 7, 8, 9, 10, 11, 12], [0, 1, 2, 3, 4, 5, 6, 7, 8, 9, 10, 11], [], []]) (.op (some 7) none (.q (.mov (.t 1)))
  (.op (some 8) none (.q (.faddr 2 (.t 3)))
  (.op (some 9) none (.q (.load 1 false (.t 8)))
  (.op (some 10) none (.q (.bin .quo (.t 7) (.t 9)))
  (.op (some 11) none (.q (.faddr 1 (.t 3)))
  (.op (some 12) none (.q (.load 1 false (.t 11)))
  (.op (some 13) none (.q (.bin .mul (.t 10) (.t 12)))
  (.op (some 14) none (.q (.mov (.t 2)))
  (.op (some 15) none (.q (.bin .add (.t 13) (.t 14)))
  (.op (some 16) none (.q (.faddr 2 (.t 3)))
  (.op (some 17) none (.q (.load 1 false (.t 16)))
  (.op (some 18) none (.q (.bin .mul (.t 15) (.t 17)))
  (.op (some 19) none (.q (.mov (.t 1)))
  (.op (some 20) none (.q (.faddr 2 (.t 3)))
  (.op (some 21) none (.q (.load 1 false (.t 20)))
  (.op (some 22) none (.q (.bin .rem (.t 19) (.t 21)))
  (.op (some 23) none (.q (.bin .add (.t 18) (.t 22)))
  (.op (some 6) none (.q (.mov (.t 23)))
  .nil)))))))))))))))))) [6] [3])
 .ret))
theorem is_reduce_lane_at : compC Try.prog (Try.f105.body.getD .skip) = some a_reduce_lane_at.erase := by kernel_rfl
theorem ok_reduce_lane_at : a_reduce_lane_at.ok 24 = true := by kernel_rfl
theorem rv_reduce_lane_at : compRV Try.prog Try.f105.results.toList = some [.tmp 6] := by kernel_rfl
theorem pure_reduce_lane_at {ds : List DV} {r : DV} (hn : ds.length ≤ 24) (h : ∀ (G : AM.Ground), G.P = Try.prog → G.nt = 24 → T G Fence.wide 0 a_reduce_lane_at (AM.Ends [.tmp 6] r) { env := initE 0 ds, σ := [] }) : PureC Try.prog fi_reduce_lane_at ds r :=
  pureC_of Try.call105 Try.func105 (by rfl) is_reduce_lane_at ok_reduce_lane_at rv_reduce_lane_at hn h

def a_math_bits_Mul : ACode := (.seq (.region none (.op (some 4) none (.q (.mov (.c (.one (.p (.int .u64 0))))))
  (.op (some 5) none (.q (.mov (.c (.one (.p (.int .u64 0))))))
  .nil)) [0, 1] [])
 (.seq (.cond (.c (.one (.p (.bool false)))) (.seq (.region none (.op (some 11) none (.q (.mov (.t 0)))
  (.op (some 12) none (.q (.conv .u32 (.t 11)))
  (.op (some 13) none (.q (.mov (.t 1)))
  (.op (some 14) none (.q (.conv .u32 (.t 13)))
  (.op (some 15) none (.call (.c (.one (.p (.fn fi_math_bits_Mul32 [] [])))) [(.t 12), (.t 14)])
  (.op (some 10) none (.q (.mov (.t 15)))
  (.op (some 16) none (.q (.extr (.t 10) 0))
  (.op (some 17) none (.q (.extr (.t 10) 1))
  (.op (some 6) none (.q (.mov (.t 16)))
  (.op (some 7) none (.q (.mov (.t 17)))
  .nil)))))))))) [6, 7] [])
 (.seq (.region none (.op (some 18) none (.q (.mov (.t 6)))
  (.op (some 19) none (.q (.conv .u64 (.t 18)))
  (.op (some 20) none (.q (.mov (.t 7)))
  (.op (some 21) none (.q (.conv .u64 (.t 20)))
  (.op (some 4) none (.q (.mov (.t 19)))
  (.op (some 5) none (.q (.mov (.t 21)))
  .nil)))))) [4, 5] [])
 .ret))
 .skip)
 (.seq (.region none (.op (some 23) none (.q (.mov (.t 0)))
  (.op (some 24) none (.q (.mov (.t 1)))
  (.op (some 25) none (.call (.c (.one (.p (.fn fi_math_bits_Mul64 [] [])))) [(.t 23), (.t 24)])
  (.op (some 22) none (.q (.mov (.t 25)))
  (.op (some 26) none (.q (.extr (.t 22) 0))
  (.op (some 27) none (.q (.extr (.t 22) 1))
  (.op (some 8) none (.q (.mov (.t 26)))
  (.op (some 9) none (.q (.mov (.t 27)))
  .nil)))))))) [8, 9] [])
 (.seq (.region none (.op (some 28) none (.q (.mov (.t 8)))
  (.op (some 29) none (.q (.mov (.t 9)))
  (.op (some 4) none (.q (.mov (.t 28)))
  (.op (some 5) none (.q (.mov (.t 29)))
  .nil)))) [4, 5] [])
 .ret))))
theorem is_math_bits_Mul : compC Try.prog (Try.f119.body.getD .skip) = some a_math_bits_Mul.erase := by kernel_rfl
theorem ok_math_bits_Mul : a_math_bits_Mul.ok 30 = true := by kernel_rfl
theorem rv_math_bits_Mul : compRV Try.prog Try.f119.results.toList = some [.tmp 4, .tmp 5] := by kernel_rfl
theorem pure_math_bits_Mul {ds : List DV} {r : DV} (hn : ds.length ≤ 30) (h : ∀ (G : AM.Ground), G.P = Try.prog → G.nt = 30 → T G Fence.wide 0 a_math_bits_Mul (AM.Ends [.tmp 4, .tmp 5] r) { env := initE 0 ds, σ := [] }) : PureC Try.prog fi_math_bits_Mul ds r :=
  pureC_of Try.call119 Try.func119 (by rfl) is_math_bits_Mul ok_math_bits_Mul rv_math_bits_Mul hn h

def a_slices_Delete_int_int : ACode := (.seq (.region none (.op (some 6) none (.q (.mov (.c (.one .nils))))
  .nil) [0, 1, 2] [])
 (.seq (.region none (.op (some 8) none (.q (.mov (.t 0)))
  (.op (some 9) none (.q (.mov (.t 1)))
  (.op (some 10) none (.q (.mov (.t 2)))
  (.op (some 11) none (.q (.mov (.t 0)))
  (.op (some 12) none (.q (.len (.t 11)))
  (.op (some 13) none (.q (.slc 1 (.t 8) (some (.t 9)) (some (.t 10)) (some (.t 12))))
  .nil)))))) [0, 1, 2] [])
 (.seq (.seq (.region none (.op (some 14) none (.q (.mov (.t 1)))
  (.op (some 15) none (.q (.mov (.t 2)))
  (.op (some 16) none (.q (.bin .eql (.t 14) (.t 15)))
  .nil))) [0, 1, 2, 16] [])
 (.cond (.t 16) (.seq (.region none (.op (some 17) none (.q (.mov (.t 0)))
  (.op (some 6) none (.q (.mov (.t 17)))
  .nil)) [6] [])
 .ret)
 .skip))
 (.seq (.region none (.op (some 18) none (.q (.mov (.t 0)))
  (.op (some 19) none (.q (.len (.t 18)))
  (.op (some 7) none (.q (.mov (.t 19)))
  .nil))) [0, 1, 2, 7] [])
 (.seq (.region (some [[], [0], [], [0, 1, 2], [0, 1, 2, 3], [0, 1, 2], [], []]) (.op (some 20) none (.q (.mov (.t 0)))
  (.op (some 21) none (.q (.mov (.t 1)))
  (.op (some 22) none (.q (.slc 1 (.t 20) none (some (.t 21)) none))
  (.op (some 23) none (.q (.mov (.t 0)))
  (.op (some 24) none (.q (.mov (.t 2)))
  (.op (some 25) none (.q (.slc 1 (.t 23) (some (.t 24)) none none))
  (.op (some 26) none (.s (.app 1 8 (.t 22) (.t 25)))
  (.op (some 0) none (.q (.mov (.t 26)))
  .nil)))))))) [0, 7] [26])
 (.seq (.region none (.op (some 27) none (.q (.mov (.t 0)))
  (.op (some 28) none (.q (.mov (.t 0)))
  (.op (some 29) none (.q (.len (.t 28)))
  (.op (some 30) none (.q (.mov (.t 7)))
  (.op (some 31) none (.q (.slc 1 (.t 27) (some (.t 29)) (some (.t 30)) none))
  (.op none none (.s (.clr 1 [(.int .i64 0)] (.t 31)))
  .nil)))))) [0] [26])
 (.seq (.region none (.op (some 32) none (.q (.mov (.t 0)))
  (.op (some 6) none (.q (.mov (.t 32)))
  .nil)) [6] [26])
 .ret)))))))
theorem is_slices_Delete_int_int : compC Try.prog (Try.f122.body.getD .skip) = some a_slices_Delete_int_int.erase := by kernel_rfl
theorem ok_slices_Delete_int_int : a_slices_Delete_int_int.ok 33 = true := by kernel_rfl
theorem rv_slices_Delete_int_int : compRV Try.prog Try.f122.results.toList = some [.tmp 6] := by kernel_rfl
theorem mut_slices_Delete_int_int {vs : List AV} {σ σ' : Sto} {r : AV} {fr : List Nat} (hn : vs.length ≤ 33) (h : ∀ (G : AM.Ground) (ex : List AV), G.P = Try.prog → G.nt = 33 → (∀ d ∈ fr, ex.all (fun v => !v.has d) = true) → T G Fence.wide 0 a_slices_Delete_int_int (EndsM [.tmp 6] r σ' ex) { env := initV 0 vs, σ := σ, ex := ex }) : MutC Try.prog fi_slices_Delete_int_int vs σ r σ' fr :=
  mutC_of Try.call122 Try.func122 (by rfl) is_slices_Delete_int_int ok_slices_Delete_int_int rv_slices_Delete_int_int hn h

end Go.AM

namespace Go.AM
open Go Go.Proofs
set_option maxRecDepth 100000
set_option linter.unusedSimpArgs false
set_option linter.unusedVariables false

theorem p_move_Slice_1 (s d x : List Int) (a : Nat) (k m : Int) (hx : x.length ≤ 2 ^ 36) (ha : x[a]? = some k) : PureC Try.prog fi_move_Slice_1 [dI x, bxT s d, bxN a, bxN m] (dN (atF s d (x.set a (w64 (k + m)))).1) := by
  refine pure_move_Slice_1 (by simp) fun G hP hn => ?_
  unfold a_move_Slice_1
  repeat' (first     | refine T_then ?_ | refine then_ret ?_ | refine then_exit ?_ | refine then_goto ?_     | refine rnd_exit ?_ | refine rnd_ret ?_ | refine rnd_goto ?_     | refine noGo_normal ?_ | refine noGo_ret ?_ | refine noGo_exit ?_ | refine jmp_normal ?_ | refine jmp_ret ?_ | refine jmp_exit ?_ | refine jmp_goto ?_     | refine inB_normal ?_ | refine inB_ret ?_ | refine inB_goto ?_ | refine inB_exit ?_ | refine inB_exit_ne rfl ?_     | ((first | apply T_sr fw | apply T_reg fw); · ((try simp only [go_sem, seval, reduceIte, ↓reduceIte, hP]); (repeat ((first       | (refine ⟨true, false, rfl, fun h => absurd h (by decide), ?_⟩) | (refine ⟨false, false, rfl, fun h => absurd h (by decide), ?_⟩) | refine ⟨_, _, rfl, fun _ => rfl, ?_⟩       | (refine .inl ⟨_, _, ⟨_, _, _, _, _, _, rfl, rfl, rfl, p_move_shifted _ _ _ _ _ _ hx ha⟩, ?_⟩)       | (refine ⟨_, ?_, rfl, fun _ => ⟨_, ⟨_, _, _, _, _, _, rfl, rfl, rfl, p_move_shifted _ _ _ _ _ _ hx ha⟩, ?_⟩, ?_⟩; rotate_left; (· (simp only [go_sem, seval, reduceIte, ↓reduceIte, hP]; first | done | exact rfl)))); (try simp only [go_sem, seval, reduceIte, ↓reduceIte, hP]))); (first | done | exact rfl)))     | ((first | apply T_sdF fw (by rw [hP]; rfl) (by decide +kernel) | apply T_drF fw (by rw [hP]; rfl) (by decide +kernel)); · ((try simp only [TOps.flat, List.cons_append, List.nil_append]); (repeat ((first | refine Y_g0 ?_ | refine Y_g (by (try simp only [go_sem, seval, reduceIte, ↓reduceIte, Bool.not_eq_true, reduceCtorEq, beq_false, beq_true, hP]); (first | done | exact rfl)) ?_); (first | refine Y_skip ?_ | ((first | apply Y_q | (refine Y_call ⟨_, _, _, _, _, _, rfl, rfl, rfl, (by rw [hP]; exact p_move_shifted _ _ _ _ _ _ hx ha)⟩ ?_ ?_)); (· ((try simp only [go_sem, seval, reduceIte, ↓reduceIte, Bool.not_eq_true, reduceCtorEq, beq_false, beq_true, hP]); (first | done | exact rfl))))))); apply RunF_nil; (try simp only [go_sem, seval, reduceIte, ↓reduceIte, Bool.not_eq_true, reduceCtorEq, beq_false, beq_true, hP]); (first | done | exact rfl)))     | ((first | apply T_sd fw (by rw [hP]; rfl) | apply T_dr fw (by rw [hP]; rfl)); · ((try simp only [go_sem, seval, reduceIte, ↓reduceIte, bne, beq_false, beq_true, Bool.not_eq_true, Bool.if_true_right, decide_not, reduceCtorEq, hP]); (repeat ((first       | (refine ⟨_, ⟨_, _, _, _, _, _, rfl, rfl, rfl, p_move_shifted _ _ _ _ _ _ hx ha⟩, ?_⟩)); (try simp only [go_sem, seval, reduceIte, ↓reduceIte, bne, beq_false, beq_true, Bool.not_eq_true, Bool.if_true_right, decide_not, reduceCtorEq, hP]))); (first | done | exact rfl)))     | refine T_seq ?_ | refine T_block ?_ | refine T_scopeJ 0 rfl ?_ | refine T_scope ?_ | refine T_goto ?_ | refine T_ret ?_ | refine T_skip ?_ | refine T_exit ?_ | refine T_label ?_     | refine T_condT rfl ?_ | refine T_condF rfl ?_     | refine T_condD rfl (fun _ => ?_) (fun _ => ?_)     | refine T_cond rfl (fun _ => ?_) (fun _ => ?_))
  exact ends_ret rfl rfl rfl rfl

end Go.AM

namespace Go.AM
open Go Go.Proofs
set_option maxRecDepth 100000
set_option linter.unusedSimpArgs false
set_option linter.unusedVariables false

def gS (s d : List Int) (a m : Int) (x : List Int) : Int := (atF s d (x.set a.toNat (w64 ((x[a.toNat]?).getD 0 + m)))).1
def sliceF (s d : List Int) (a f t : Int) : (List Int × List Int) × Int :=
  if checkT s d = true then
    if a < 0 ∨ a ≥ s.length ∨ f < 0 ∨ f ≥ t ∨ t > (s[a.toNat]?).getD 0 then bad 20
    else ((s.set a.toNat (w64 (t - f)), mk (s.set a.toNat (w64 (t - f))) (gS s d a f)), 0)
  else bad 30

theorem made_shifted (s d s' : List Int) (n : Nat) (m : Int) (hn : n < s'.length) (p : Nat) (hp : p < (sizeS s').toNat) :
    PureC Try.prog fi_move_Slice_1 ([dI (idxF s' p)] ++ [PV.box [eI s, eI d], .box [.int .i64 n], .box [.int .i64 m]].map .one) (dN (gS s d n m (idxF s' p))) := by
  have h1 := idxF_len hp
  have h2 : (idxF s' (p : Int))[n]? = some (idxF s' (p : Int))[n] := List.getElem?_eq_getElem (by omega)
  have := p_move_Slice_1 s d (idxF s' p) n _ m (by omega) h2
  simp only [gS, Int.toNat_natCast, h2, Option.getD_some]
  exact this

theorem p_move_Slice (s d : List Int) (a f t : Int) : PureC Try.prog fi_move_Slice [dT s d, dN a, dN f, dN t] (dTE (sliceF s d a f t)) := by
  refine pure_move_Slice (by simp) fun G hP hn => ?_
  unfold a_move_Slice
  cases hc : checkT s d
  · repeat' (first     | refine T_then ?_ | refine then_ret ?_ | refine then_exit ?_ | refine then_goto ?_     | refine rnd_exit ?_ | refine rnd_ret ?_ | refine rnd_goto ?_     | refine noGo_normal ?_ | refine noGo_ret ?_ | refine noGo_exit ?_ | refine jmp_normal ?_ | refine jmp_ret ?_ | refine jmp_exit ?_ | refine jmp_goto ?_     | refine inB_normal ?_ | refine inB_ret ?_ | refine inB_goto ?_ | refine inB_exit ?_ | refine inB_exit_ne rfl ?_     | ((first | apply T_sr fw | apply T_reg fw); · ((try simp only [go_sem, seval, reduceIte, ↓reduceIte, hP, hc]); (repeat ((first       | (refine ⟨true, false, rfl, fun h => absurd h (by decide), ?_⟩) | (refine ⟨false, false, rfl, fun h => absurd h (by decide), ?_⟩) | refine ⟨_, _, rfl, fun _ => rfl, ?_⟩       | (refine .inl ⟨_, _, ⟨_, _, _, _, _, _, rfl, rfl, rfl, p_tensor_Check _ _⟩, ?_⟩)       | (refine ⟨_, ?_, rfl, fun _ => ⟨_, ⟨_, _, _, _, _, _, rfl, rfl, rfl, p_tensor_Check _ _⟩, ?_⟩, ?_⟩; rotate_left; (· (simp only [go_sem, seval, reduceIte, ↓reduceIte, hP, hc]; first | done | exact rfl)))); (try simp only [go_sem, seval, reduceIte, ↓reduceIte, hP, hc]))); (first | done | exact rfl)))     | ((first | apply T_sdF fw (by rw [hP]; rfl) (by decide +kernel) | apply T_drF fw (by rw [hP]; rfl) (by decide +kernel)); · ((try simp only [TOps.flat, List.cons_append, List.nil_append]); (repeat ((first | refine Y_g0 ?_ | refine Y_g (by (try simp only [go_sem, seval, reduceIte, ↓reduceIte, Bool.not_eq_true, reduceCtorEq, beq_false, beq_true, hP, hc]); (first | done | exact rfl)) ?_); (first | refine Y_skip ?_ | ((first | apply Y_q | (refine Y_call ⟨_, _, _, _, _, _, rfl, rfl, rfl, (by rw [hP]; exact p_tensor_Check _ _)⟩ ?_ ?_)); (· ((try simp only [go_sem, seval, reduceIte, ↓reduceIte, Bool.not_eq_true, reduceCtorEq, beq_false, beq_true, hP, hc]); (first | done | exact rfl))))))); apply RunF_nil; (try simp only [go_sem, seval, reduceIte, ↓reduceIte, Bool.not_eq_true, reduceCtorEq, beq_false, beq_true, hP, hc]); (first | done | exact rfl)))     | ((first | apply T_sd fw (by rw [hP]; rfl) | apply T_dr fw (by rw [hP]; rfl)); · ((try simp only [go_sem, seval, reduceIte, ↓reduceIte, bne, beq_false, beq_true, Bool.not_eq_true, Bool.if_true_right, decide_not, reduceCtorEq, hP, hc]); (repeat ((first       | (refine ⟨_, ⟨_, _, _, _, _, _, rfl, rfl, rfl, p_tensor_Check _ _⟩, ?_⟩)); (try simp only [go_sem, seval, reduceIte, ↓reduceIte, bne, beq_false, beq_true, Bool.not_eq_true, Bool.if_true_right, decide_not, reduceCtorEq, hP, hc]))); (first | done | exact rfl)))     | refine T_seq ?_ | refine T_block ?_ | refine T_scopeJ 0 rfl ?_ | refine T_scope ?_ | refine T_goto ?_ | refine T_ret ?_ | refine T_skip ?_ | refine T_exit ?_ | refine T_label ?_     | refine T_condT rfl ?_ | refine T_condF rfl ?_     | refine T_condD rfl (fun _ => ?_) (fun _ => ?_)     | refine T_cond rfl (fun _ => ?_) (fun _ => ?_))
    exact ends_ret rfl rfl rfl (by simp [sliceF, hc, bad, resD])
  · have hl := (checkT_iff.1 hc).1.1
    have hl2 : s.length ≤ 2 ^ 36 := by omega
    by_cases h1 : a < 0
    · repeat' (first     | refine T_then ?_ | refine then_ret ?_ | refine then_exit ?_ | refine then_goto ?_     | refine rnd_exit ?_ | refine rnd_ret ?_ | refine rnd_goto ?_     | refine noGo_normal ?_ | refine noGo_ret ?_ | refine noGo_exit ?_ | refine jmp_normal ?_ | refine jmp_ret ?_ | refine jmp_exit ?_ | refine jmp_goto ?_     | refine inB_normal ?_ | refine inB_ret ?_ | refine inB_goto ?_ | refine inB_exit ?_ | refine inB_exit_ne rfl ?_     | ((first | apply T_sr fw | apply T_reg fw); · ((try simp only [go_sem, seval, reduceIte, ↓reduceIte, hP, hc, h1]); (repeat ((first       | (refine ⟨true, false, rfl, fun h => absurd h (by decide), ?_⟩) | (refine ⟨false, false, rfl, fun h => absurd h (by decide), ?_⟩) | refine ⟨_, _, rfl, fun _ => rfl, ?_⟩       | (refine .inl ⟨_, _, ⟨_, _, _, _, _, _, rfl, rfl, rfl, p_tensor_Check _ _⟩, ?_⟩)       | (refine ⟨_, ?_, rfl, fun _ => ⟨_, ⟨_, _, _, _, _, _, rfl, rfl, rfl, p_tensor_Check _ _⟩, ?_⟩, ?_⟩; rotate_left; (· (simp only [go_sem, seval, reduceIte, ↓reduceIte, hP, hc, h1]; first | done | exact rfl)))); (try simp only [go_sem, seval, reduceIte, ↓reduceIte, hP, hc, h1]))); (first | done | exact rfl)))     | ((first | apply T_sdF fw (by rw [hP]; rfl) (by decide +kernel) | apply T_drF fw (by rw [hP]; rfl) (by decide +kernel)); · ((try simp only [TOps.flat, List.cons_append, List.nil_append]); (repeat ((first | refine Y_g0 ?_ | refine Y_g (by (try simp only [go_sem, seval, reduceIte, ↓reduceIte, Bool.not_eq_true, reduceCtorEq, beq_false, beq_true, hP, hc, h1]); (first | done | exact rfl)) ?_); (first | refine Y_skip ?_ | ((first | apply Y_q | (refine Y_call ⟨_, _, _, _, _, _, rfl, rfl, rfl, (by rw [hP]; exact p_tensor_Check _ _)⟩ ?_ ?_)); (· ((try simp only [go_sem, seval, reduceIte, ↓reduceIte, Bool.not_eq_true, reduceCtorEq, beq_false, beq_true, hP, hc, h1]); (first | done | exact rfl))))))); apply RunF_nil; (try simp only [go_sem, seval, reduceIte, ↓reduceIte, Bool.not_eq_true, reduceCtorEq, beq_false, beq_true, hP, hc, h1]); (first | done | exact rfl)))     | ((first | apply T_sd fw (by rw [hP]; rfl) | apply T_dr fw (by rw [hP]; rfl)); · ((try simp only [go_sem, seval, reduceIte, ↓reduceIte, bne, beq_false, beq_true, Bool.not_eq_true, Bool.if_true_right, decide_not, reduceCtorEq, hP, hc, h1]); (repeat ((first       | (refine ⟨_, ⟨_, _, _, _, _, _, rfl, rfl, rfl, p_tensor_Check _ _⟩, ?_⟩)); (try simp only [go_sem, seval, reduceIte, ↓reduceIte, bne, beq_false, beq_true, Bool.not_eq_true, Bool.if_true_right, decide_not, reduceCtorEq, hP, hc, h1]))); (first | done | exact rfl)))     | refine T_seq ?_ | refine T_block ?_ | refine T_scopeJ 0 rfl ?_ | refine T_scope ?_ | refine T_goto ?_ | refine T_ret ?_ | refine T_skip ?_ | refine T_exit ?_ | refine T_label ?_     | refine T_condT rfl ?_ | refine T_condF rfl ?_     | refine T_condD rfl (fun _ => ?_) (fun _ => ?_)     | refine T_cond rfl (fun _ => ?_) (fun _ => ?_))
      exact ends_ret rfl rfl rfl (by simp [sliceF, hc, bad, resD, h1])
    · obtain ⟨n, rfl⟩ := Int.eq_ofNat_of_zero_le (by omega : 0 ≤ a)
      by_cases h2 : n < s.length
      · have h2' : ¬ s.length ≤ n := by omega
        have hx : s[n]? = some s[n] := List.getElem?_eq_getElem h2
        by_cases h3 : f < 0
        · repeat' (first     | refine T_then ?_ | refine then_ret ?_ | refine then_exit ?_ | refine then_goto ?_     | refine rnd_exit ?_ | refine rnd_ret ?_ | refine rnd_goto ?_     | refine noGo_normal ?_ | refine noGo_ret ?_ | refine noGo_exit ?_ | refine jmp_normal ?_ | refine jmp_ret ?_ | refine jmp_exit ?_ | refine jmp_goto ?_     | refine inB_normal ?_ | refine inB_ret ?_ | refine inB_goto ?_ | refine inB_exit ?_ | refine inB_exit_ne rfl ?_     | ((first | apply T_sr fw | apply T_reg fw); · ((try simp only [go_sem, seval, reduceIte, ↓reduceIte, hP, hc, h1, h2, h2', h3, ge_iff_le, Int.ofNat_le]); (repeat ((first       | (refine ⟨true, false, rfl, fun h => absurd h (by decide), ?_⟩) | (refine ⟨false, false, rfl, fun h => absurd h (by decide), ?_⟩) | refine ⟨_, _, rfl, fun _ => rfl, ?_⟩       | (refine .inl ⟨_, _, ⟨_, _, _, _, _, _, rfl, rfl, rfl, p_tensor_Check _ _⟩, ?_⟩)       | (refine ⟨_, ?_, rfl, fun _ => ⟨_, ⟨_, _, _, _, _, _, rfl, rfl, rfl, p_tensor_Check _ _⟩, ?_⟩, ?_⟩; rotate_left; (· (simp only [go_sem, seval, reduceIte, ↓reduceIte, hP, hc, h1, h2, h2', h3, ge_iff_le, Int.ofNat_le]; first | done | exact rfl)))); (try simp only [go_sem, seval, reduceIte, ↓reduceIte, hP, hc, h1, h2, h2', h3, ge_iff_le, Int.ofNat_le]))); (first | done | exact rfl)))     | ((first | apply T_sdF fw (by rw [hP]; rfl) (by decide +kernel) | apply T_drF fw (by rw [hP]; rfl) (by decide +kernel)); · ((try simp only [TOps.flat, List.cons_append, List.nil_append]); (repeat ((first | refine Y_g0 ?_ | refine Y_g (by (try simp only [go_sem, seval, reduceIte, ↓reduceIte, Bool.not_eq_true, reduceCtorEq, beq_false, beq_true, hP, hc, h1, h2, h2', h3, ge_iff_le, Int.ofNat_le]); (first | done | exact rfl)) ?_); (first | refine Y_skip ?_ | ((first | apply Y_q | (refine Y_call ⟨_, _, _, _, _, _, rfl, rfl, rfl, (by rw [hP]; exact p_tensor_Check _ _)⟩ ?_ ?_)); (· ((try simp only [go_sem, seval, reduceIte, ↓reduceIte, Bool.not_eq_true, reduceCtorEq, beq_false, beq_true, hP, hc, h1, h2, h2', h3, ge_iff_le, Int.ofNat_le]); (first | done | exact rfl))))))); apply RunF_nil; (try simp only [go_sem, seval, reduceIte, ↓reduceIte, Bool.not_eq_true, reduceCtorEq, beq_false, beq_true, hP, hc, h1, h2, h2', h3, ge_iff_le, Int.ofNat_le]); (first | done | exact rfl)))     | ((first | apply T_sd fw (by rw [hP]; rfl) | apply T_dr fw (by rw [hP]; rfl)); · ((try simp only [go_sem, seval, reduceIte, ↓reduceIte, bne, beq_false, beq_true, Bool.not_eq_true, Bool.if_true_right, decide_not, reduceCtorEq, hP, hc, h1, h2, h2', h3, ge_iff_le, Int.ofNat_le]); (repeat ((first       | (refine ⟨_, ⟨_, _, _, _, _, _, rfl, rfl, rfl, p_tensor_Check _ _⟩, ?_⟩)); (try simp only [go_sem, seval, reduceIte, ↓reduceIte, bne, beq_false, beq_true, Bool.not_eq_true, Bool.if_true_right, decide_not, reduceCtorEq, hP, hc, h1, h2, h2', h3, ge_iff_le, Int.ofNat_le]))); (first | done | exact rfl)))     | refine T_seq ?_ | refine T_block ?_ | refine T_scopeJ 0 rfl ?_ | refine T_scope ?_ | refine T_goto ?_ | refine T_ret ?_ | refine T_skip ?_ | refine T_exit ?_ | refine T_label ?_     | refine T_condT rfl ?_ | refine T_condF rfl ?_     | refine T_condD rfl (fun _ => ?_) (fun _ => ?_)     | refine T_cond rfl (fun _ => ?_) (fun _ => ?_))
          exact ends_ret rfl rfl rfl (by simp [sliceF, hc, bad, resD, h3])
        · by_cases h4 : t ≤ f
          · repeat' (first     | refine T_then ?_ | refine then_ret ?_ | refine then_exit ?_ | refine then_goto ?_     | refine rnd_exit ?_ | refine rnd_ret ?_ | refine rnd_goto ?_     | refine noGo_normal ?_ | refine noGo_ret ?_ | refine noGo_exit ?_ | refine jmp_normal ?_ | refine jmp_ret ?_ | refine jmp_exit ?_ | refine jmp_goto ?_     | refine inB_normal ?_ | refine inB_ret ?_ | refine inB_goto ?_ | refine inB_exit ?_ | refine inB_exit_ne rfl ?_     | ((first | apply T_sr fw | apply T_reg fw); · ((try simp only [go_sem, seval, reduceIte, ↓reduceIte, hP, hc, h1, h2, h2', h3, h4, ge_iff_le, Int.ofNat_le]); (repeat ((first       | (refine ⟨true, false, rfl, fun h => absurd h (by decide), ?_⟩) | (refine ⟨false, false, rfl, fun h => absurd h (by decide), ?_⟩) | refine ⟨_, _, rfl, fun _ => rfl, ?_⟩       | (refine .inl ⟨_, _, ⟨_, _, _, _, _, _, rfl, rfl, rfl, p_tensor_Check _ _⟩, ?_⟩)       | (refine ⟨_, ?_, rfl, fun _ => ⟨_, ⟨_, _, _, _, _, _, rfl, rfl, rfl, p_tensor_Check _ _⟩, ?_⟩, ?_⟩; rotate_left; (· (simp only [go_sem, seval, reduceIte, ↓reduceIte, hP, hc, h1, h2, h2', h3, h4, ge_iff_le, Int.ofNat_le]; first | done | exact rfl)))); (try simp only [go_sem, seval, reduceIte, ↓reduceIte, hP, hc, h1, h2, h2', h3, h4, ge_iff_le, Int.ofNat_le]))); (first | done | exact rfl)))     | ((first | apply T_sdF fw (by rw [hP]; rfl) (by decide +kernel) | apply T_drF fw (by rw [hP]; rfl) (by decide +kernel)); · ((try simp only [TOps.flat, List.cons_append, List.nil_append]); (repeat ((first | refine Y_g0 ?_ | refine Y_g (by (try simp only [go_sem, seval, reduceIte, ↓reduceIte, Bool.not_eq_true, reduceCtorEq, beq_false, beq_true, hP, hc, h1, h2, h2', h3, h4, ge_iff_le, Int.ofNat_le]); (first | done | exact rfl)) ?_); (first | refine Y_skip ?_ | ((first | apply Y_q | (refine Y_call ⟨_, _, _, _, _, _, rfl, rfl, rfl, (by rw [hP]; exact p_tensor_Check _ _)⟩ ?_ ?_)); (· ((try simp only [go_sem, seval, reduceIte, ↓reduceIte, Bool.not_eq_true, reduceCtorEq, beq_false, beq_true, hP, hc, h1, h2, h2', h3, h4, ge_iff_le, Int.ofNat_le]); (first | done | exact rfl))))))); apply RunF_nil; (try simp only [go_sem, seval, reduceIte, ↓reduceIte, Bool.not_eq_true, reduceCtorEq, beq_false, beq_true, hP, hc, h1, h2, h2', h3, h4, ge_iff_le, Int.ofNat_le]); (first | done | exact rfl)))     | ((first | apply T_sd fw (by rw [hP]; rfl) | apply T_dr fw (by rw [hP]; rfl)); · ((try simp only [go_sem, seval, reduceIte, ↓reduceIte, bne, beq_false, beq_true, Bool.not_eq_true, Bool.if_true_right, decide_not, reduceCtorEq, hP, hc, h1, h2, h2', h3, h4, ge_iff_le, Int.ofNat_le]); (repeat ((first       | (refine ⟨_, ⟨_, _, _, _, _, _, rfl, rfl, rfl, p_tensor_Check _ _⟩, ?_⟩)); (try simp only [go_sem, seval, reduceIte, ↓reduceIte, bne, beq_false, beq_true, Bool.not_eq_true, Bool.if_true_right, decide_not, reduceCtorEq, hP, hc, h1, h2, h2', h3, h4, ge_iff_le, Int.ofNat_le]))); (first | done | exact rfl)))     | refine T_seq ?_ | refine T_block ?_ | refine T_scopeJ 0 rfl ?_ | refine T_scope ?_ | refine T_goto ?_ | refine T_ret ?_ | refine T_skip ?_ | refine T_exit ?_ | refine T_label ?_     | refine T_condT rfl ?_ | refine T_condF rfl ?_     | refine T_condD rfl (fun _ => ?_) (fun _ => ?_)     | refine T_cond rfl (fun _ => ?_) (fun _ => ?_))
            exact ends_ret rfl rfl rfl (by simp [sliceF, hc, bad, resD, h4])
          · by_cases h5 : t > s[n]
            · repeat' (first     | refine T_then ?_ | refine then_ret ?_ | refine then_exit ?_ | refine then_goto ?_     | refine rnd_exit ?_ | refine rnd_ret ?_ | refine rnd_goto ?_     | refine noGo_normal ?_ | refine noGo_ret ?_ | refine noGo_exit ?_ | refine jmp_normal ?_ | refine jmp_ret ?_ | refine jmp_exit ?_ | refine jmp_goto ?_     | refine inB_normal ?_ | refine inB_ret ?_ | refine inB_goto ?_ | refine inB_exit ?_ | refine inB_exit_ne rfl ?_     | ((first | apply T_sr fw | apply T_reg fw); · ((try simp only [go_sem, seval, reduceIte, ↓reduceIte, hP, hc, h1, h2, h2', h3, h4, hx, h5, ge_iff_le, Int.ofNat_le]); (repeat ((first       | (refine ⟨true, false, rfl, fun h => absurd h (by decide), ?_⟩) | (refine ⟨false, false, rfl, fun h => absurd h (by decide), ?_⟩) | refine ⟨_, _, rfl, fun _ => rfl, ?_⟩       | (refine .inl ⟨_, _, ⟨_, _, _, _, _, _, rfl, rfl, rfl, p_tensor_Check _ _⟩, ?_⟩)       | (refine ⟨_, ?_, rfl, fun _ => ⟨_, ⟨_, _, _, _, _, _, rfl, rfl, rfl, p_tensor_Check _ _⟩, ?_⟩, ?_⟩; rotate_left; (· (simp only [go_sem, seval, reduceIte, ↓reduceIte, hP, hc, h1, h2, h2', h3, h4, hx, h5, ge_iff_le, Int.ofNat_le]; first | done | exact rfl)))); (try simp only [go_sem, seval, reduceIte, ↓reduceIte, hP, hc, h1, h2, h2', h3, h4, hx, h5, ge_iff_le, Int.ofNat_le]))); (first | done | exact rfl)))     | ((first | apply T_sdF fw (by rw [hP]; rfl) (by decide +kernel) | apply T_drF fw (by rw [hP]; rfl) (by decide +kernel)); · ((try simp only [TOps.flat, List.cons_append, List.nil_append]); (repeat ((first | refine Y_g0 ?_ | refine Y_g (by (try simp only [go_sem, seval, reduceIte, ↓reduceIte, Bool.not_eq_true, reduceCtorEq, beq_false, beq_true, hP, hc, h1, h2, h2', h3, h4, hx, h5, ge_iff_le, Int.ofNat_le]); (first | done | exact rfl)) ?_); (first | refine Y_skip ?_ | ((first | apply Y_q | (refine Y_call ⟨_, _, _, _, _, _, rfl, rfl, rfl, (by rw [hP]; exact p_tensor_Check _ _)⟩ ?_ ?_)); (· ((try simp only [go_sem, seval, reduceIte, ↓reduceIte, Bool.not_eq_true, reduceCtorEq, beq_false, beq_true, hP, hc, h1, h2, h2', h3, h4, hx, h5, ge_iff_le, Int.ofNat_le]); (first | done | exact rfl))))))); apply RunF_nil; (try simp only [go_sem, seval, reduceIte, ↓reduceIte, Bool.not_eq_true, reduceCtorEq, beq_false, beq_true, hP, hc, h1, h2, h2', h3, h4, hx, h5, ge_iff_le, Int.ofNat_le]); (first | done | exact rfl)))     | ((first | apply T_sd fw (by rw [hP]; rfl) | apply T_dr fw (by rw [hP]; rfl)); · ((try simp only [go_sem, seval, reduceIte, ↓reduceIte, bne, beq_false, beq_true, Bool.not_eq_true, Bool.if_true_right, decide_not, reduceCtorEq, hP, hc, h1, h2, h2', h3, h4, hx, h5, ge_iff_le, Int.ofNat_le]); (repeat ((first       | (refine ⟨_, ⟨_, _, _, _, _, _, rfl, rfl, rfl, p_tensor_Check _ _⟩, ?_⟩)); (try simp only [go_sem, seval, reduceIte, ↓reduceIte, bne, beq_false, beq_true, Bool.not_eq_true, Bool.if_true_right, decide_not, reduceCtorEq, hP, hc, h1, h2, h2', h3, h4, hx, h5, ge_iff_le, Int.ofNat_le]))); (first | done | exact rfl)))     | refine T_seq ?_ | refine T_block ?_ | refine T_scopeJ 0 rfl ?_ | refine T_scope ?_ | refine T_goto ?_ | refine T_ret ?_ | refine T_skip ?_ | refine T_exit ?_ | refine T_label ?_     | refine T_condT rfl ?_ | refine T_condF rfl ?_     | refine T_condD rfl (fun _ => ?_) (fun _ => ?_)     | refine T_cond rfl (fun _ => ?_) (fun _ => ?_))
              exact ends_ret rfl rfl rfl (by simp [sliceF, hc, bad, resD, hx, h5])
            · have hm := p_move_made (s.set n (w64 (t - f))) fi_move_Slice_1 [.box [eI s, eI d], .box [.int .i64 n], .box [.int .i64 f]] _ (made_shifted s d _ n f (by simpa using h2))
              repeat' (first     | refine T_then ?_ | refine then_ret ?_ | refine then_exit ?_ | refine then_goto ?_     | refine rnd_exit ?_ | refine rnd_ret ?_ | refine rnd_goto ?_     | refine noGo_normal ?_ | refine noGo_ret ?_ | refine noGo_exit ?_ | refine jmp_normal ?_ | refine jmp_ret ?_ | refine jmp_exit ?_ | refine jmp_goto ?_     | refine inB_normal ?_ | refine inB_ret ?_ | refine inB_goto ?_ | refine inB_exit ?_ | refine inB_exit_ne rfl ?_     | ((first | apply T_sr fw | apply T_reg fw); · ((try simp only [go_sem, seval, reduceIte, ↓reduceIte, hP, hc, h1, h2, h2', h3, h4, hx, h5, ge_iff_le, Int.ofNat_le]); (repeat ((first       | (refine ⟨true, false, rfl, fun h => absurd h (by decide), ?_⟩) | (refine ⟨false, false, rfl, fun h => absurd h (by decide), ?_⟩) | refine ⟨_, _, rfl, fun _ => rfl, ?_⟩       | (refine .inl ⟨_, _, ⟨_, _, _, _, _, _, rfl, rfl, rfl, p_tensor_Check _ _⟩, ?_⟩)       | (refine .inl ⟨_, _, ⟨_, _, _, _, _, _, rfl, rfl, rfl, p_move_sided s n (w64 (t - f)) hl2 h2⟩, ?_⟩)       | (refine .inl ⟨_, _, ⟨_, _, _, _, _, _, rfl, rfl, rfl, hm⟩, ?_⟩)       | (refine ⟨_, ?_, rfl, fun _ => ⟨_, ⟨_, _, _, _, _, _, rfl, rfl, rfl, p_tensor_Check _ _⟩, ?_⟩, ?_⟩; rotate_left; (· (simp only [go_sem, seval, reduceIte, ↓reduceIte, hP, hc, h1, h2, h2', h3, h4, hx, h5, ge_iff_le, Int.ofNat_le]; first | done | exact rfl)))       | (refine ⟨_, ?_, rfl, fun _ => ⟨_, ⟨_, _, _, _, _, _, rfl, rfl, rfl, p_move_sided s n (w64 (t - f)) hl2 h2⟩, ?_⟩, ?_⟩; rotate_left; (· (simp only [go_sem, seval, reduceIte, ↓reduceIte, hP, hc, h1, h2, h2', h3, h4, hx, h5, ge_iff_le, Int.ofNat_le]; first | done | exact rfl)))       | (refine ⟨_, ?_, rfl, fun _ => ⟨_, ⟨_, _, _, _, _, _, rfl, rfl, rfl, hm⟩, ?_⟩, ?_⟩; rotate_left; (· (simp only [go_sem, seval, reduceIte, ↓reduceIte, hP, hc, h1, h2, h2', h3, h4, hx, h5, ge_iff_le, Int.ofNat_le]; first | done | exact rfl)))); (try simp only [go_sem, seval, reduceIte, ↓reduceIte, hP, hc, h1, h2, h2', h3, h4, hx, h5, ge_iff_le, Int.ofNat_le]))); (first | done | exact rfl)))     | ((first | apply T_sdF fw (by rw [hP]; rfl) (by decide +kernel) | apply T_drF fw (by rw [hP]; rfl) (by decide +kernel)); · ((try simp only [TOps.flat, List.cons_append, List.nil_append]); (repeat ((first | refine Y_g0 ?_ | refine Y_g (by (try simp only [go_sem, seval, reduceIte, ↓reduceIte, Bool.not_eq_true, reduceCtorEq, beq_false, beq_true, hP, hc, h1, h2, h2', h3, h4, hx, h5, ge_iff_le, Int.ofNat_le]); (first | done | exact rfl)) ?_); (first | refine Y_skip ?_ | ((first | apply Y_q | (refine Y_call ⟨_, _, _, _, _, _, rfl, rfl, rfl, (by rw [hP]; exact p_tensor_Check _ _)⟩ ?_ ?_) | (refine Y_call ⟨_, _, _, _, _, _, rfl, rfl, rfl, (by rw [hP]; exact p_move_sided s n (w64 (t - f)) hl2 h2)⟩ ?_ ?_) | (refine Y_call ⟨_, _, _, _, _, _, rfl, rfl, rfl, (by rw [hP]; exact hm)⟩ ?_ ?_)); (· ((try simp only [go_sem, seval, reduceIte, ↓reduceIte, Bool.not_eq_true, reduceCtorEq, beq_false, beq_true, hP, hc, h1, h2, h2', h3, h4, hx, h5, ge_iff_le, Int.ofNat_le]); (first | done | exact rfl))))))); apply RunF_nil; (try simp only [go_sem, seval, reduceIte, ↓reduceIte, Bool.not_eq_true, reduceCtorEq, beq_false, beq_true, hP, hc, h1, h2, h2', h3, h4, hx, h5, ge_iff_le, Int.ofNat_le]); (first | done | exact rfl)))     | ((first | apply T_sd fw (by rw [hP]; rfl) | apply T_dr fw (by rw [hP]; rfl)); · ((try simp only [go_sem, seval, reduceIte, ↓reduceIte, bne, beq_false, beq_true, Bool.not_eq_true, Bool.if_true_right, decide_not, reduceCtorEq, hP, hc, h1, h2, h2', h3, h4, hx, h5, ge_iff_le, Int.ofNat_le]); (repeat ((first       | (refine ⟨_, ⟨_, _, _, _, _, _, rfl, rfl, rfl, p_tensor_Check _ _⟩, ?_⟩)       | (refine ⟨_, ⟨_, _, _, _, _, _, rfl, rfl, rfl, p_move_sided s n (w64 (t - f)) hl2 h2⟩, ?_⟩)       | (refine ⟨_, ⟨_, _, _, _, _, _, rfl, rfl, rfl, hm⟩, ?_⟩)); (try simp only [go_sem, seval, reduceIte, ↓reduceIte, bne, beq_false, beq_true, Bool.not_eq_true, Bool.if_true_right, decide_not, reduceCtorEq, hP, hc, h1, h2, h2', h3, h4, hx, h5, ge_iff_le, Int.ofNat_le]))); (first | done | exact rfl)))     | refine T_seq ?_ | refine T_block ?_ | refine T_scopeJ 0 rfl ?_ | refine T_scope ?_ | refine T_goto ?_ | refine T_ret ?_ | refine T_skip ?_ | refine T_exit ?_ | refine T_label ?_     | refine T_condT rfl ?_ | refine T_condF rfl ?_     | refine T_condD rfl (fun _ => ?_) (fun _ => ?_)     | refine T_cond rfl (fun _ => ?_) (fun _ => ?_))
              exact ends_ret rfl rfl rfl (by simp [sliceF, hc, resD, h1, h2', h3, h4, hx, h5])
      · have h2' : s.length ≤ n := by omega
        repeat' (first     | refine T_then ?_ | refine then_ret ?_ | refine then_exit ?_ | refine then_goto ?_     | refine rnd_exit ?_ | refine rnd_ret ?_ | refine rnd_goto ?_     | refine noGo_normal ?_ | refine noGo_ret ?_ | refine noGo_exit ?_ | refine jmp_normal ?_ | refine jmp_ret ?_ | refine jmp_exit ?_ | refine jmp_goto ?_     | refine inB_normal ?_ | refine inB_ret ?_ | refine inB_goto ?_ | refine inB_exit ?_ | refine inB_exit_ne rfl ?_     | ((first | apply T_sr fw | apply T_reg fw); · ((try simp only [go_sem, seval, reduceIte, ↓reduceIte, hP, hc, h1, h2, h2', ge_iff_le, Int.ofNat_le]); (repeat ((first       | (refine ⟨true, false, rfl, fun h => absurd h (by decide), ?_⟩) | (refine ⟨false, false, rfl, fun h => absurd h (by decide), ?_⟩) | refine ⟨_, _, rfl, fun _ => rfl, ?_⟩       | (refine .inl ⟨_, _, ⟨_, _, _, _, _, _, rfl, rfl, rfl, p_tensor_Check _ _⟩, ?_⟩)       | (refine ⟨_, ?_, rfl, fun _ => ⟨_, ⟨_, _, _, _, _, _, rfl, rfl, rfl, p_tensor_Check _ _⟩, ?_⟩, ?_⟩; rotate_left; (· (simp only [go_sem, seval, reduceIte, ↓reduceIte, hP, hc, h1, h2, h2', ge_iff_le, Int.ofNat_le]; first | done | exact rfl)))); (try simp only [go_sem, seval, reduceIte, ↓reduceIte, hP, hc, h1, h2, h2', ge_iff_le, Int.ofNat_le]))); (first | done | exact rfl)))     | ((first | apply T_sdF fw (by rw [hP]; rfl) (by decide +kernel) | apply T_drF fw (by rw [hP]; rfl) (by decide +kernel)); · ((try simp only [TOps.flat, List.cons_append, List.nil_append]); (repeat ((first | refine Y_g0 ?_ | refine Y_g (by (try simp only [go_sem, seval, reduceIte, ↓reduceIte, Bool.not_eq_true, reduceCtorEq, beq_false, beq_true, hP, hc, h1, h2, h2', ge_iff_le, Int.ofNat_le]); (first | done | exact rfl)) ?_); (first | refine Y_skip ?_ | ((first | apply Y_q | (refine Y_call ⟨_, _, _, _, _, _, rfl, rfl, rfl, (by rw [hP]; exact p_tensor_Check _ _)⟩ ?_ ?_)); (· ((try simp only [go_sem, seval, reduceIte, ↓reduceIte, Bool.not_eq_true, reduceCtorEq, beq_false, beq_true, hP, hc, h1, h2, h2', ge_iff_le, Int.ofNat_le]); (first | done | exact rfl))))))); apply RunF_nil; (try simp only [go_sem, seval, reduceIte, ↓reduceIte, Bool.not_eq_true, reduceCtorEq, beq_false, beq_true, hP, hc, h1, h2, h2', ge_iff_le, Int.ofNat_le]); (first | done | exact rfl)))     | ((first | apply T_sd fw (by rw [hP]; rfl) | apply T_dr fw (by rw [hP]; rfl)); · ((try simp only [go_sem, seval, reduceIte, ↓reduceIte, bne, beq_false, beq_true, Bool.not_eq_true, Bool.if_true_right, decide_not, reduceCtorEq, hP, hc, h1, h2, h2', ge_iff_le, Int.ofNat_le]); (repeat ((first       | (refine ⟨_, ⟨_, _, _, _, _, _, rfl, rfl, rfl, p_tensor_Check _ _⟩, ?_⟩)); (try simp only [go_sem, seval, reduceIte, ↓reduceIte, bne, beq_false, beq_true, Bool.not_eq_true, Bool.if_true_right, decide_not, reduceCtorEq, hP, hc, h1, h2, h2', ge_iff_le, Int.ofNat_le]))); (first | done | exact rfl)))     | refine T_seq ?_ | refine T_block ?_ | refine T_scopeJ 0 rfl ?_ | refine T_scope ?_ | refine T_goto ?_ | refine T_ret ?_ | refine T_skip ?_ | refine T_exit ?_ | refine T_label ?_     | refine T_condT rfl ?_ | refine T_condF rfl ?_     | refine T_condD rfl (fun _ => ?_) (fun _ => ?_)     | refine T_cond rfl (fun _ => ?_) (fun _ => ?_))
        exact ends_ret rfl rfl rfl (by simp [sliceF, hc, bad, resD, h2'])
end Go.AM

namespace Go.AM
open Go Go.Proofs
set_option linter.unusedSimpArgs false
set_option linter.unusedVariables false

/-- a part -/
def cutD (s d : List Int) (n : Nat) (k f : Int) : List Int := mk (s.set n k) (gS s d n f)

theorem sliceF_bad {s d : List Int} {n : Nat} {m f t : Int} (hc : checkT s d = true) (hm : s[n]? = some m) (h : ¬ (0 ≤ f ∧ f < t ∧ t ≤ m)) : sliceF s d n f t = bad 20 := by
  unfold sliceF
  rw [if_pos hc, if_pos (by simp [hm]; omega)]

theorem sliceF_ok {s d : List Int} {n : Nat} {m f t : Int} (hc : checkT s d = true) (hm : s[n]? = some m) (h : 0 ≤ f ∧ f < t ∧ t ≤ m) :
    sliceF s d n f t = ((s.set n (t - f), cutD s d n (t - f) f), 0) := by
  have hb := (checkT_iff.1 hc).1.2.1 m (List.mem_of_getElem? hm)
  have hn := (List.getElem?_eq_some_iff.1 hm).1
  unfold sliceF
  have hw : w64 (t - f) = t - f := wrap_in (by omega) (by omega)
  rw [if_pos hc, if_neg (by simp [hm]; omega), hw]
  simp [cutD]

theorem gS_in {s d x : List Int} {n : Nat} {k f : Int} (hk : x[n]? = some k) (h0 : -9223372036854775808 ≤ k + f) (h1 : k + f < 9223372036854775808) : gS s d n f x = (atF s d (x.set n (k + f))).1 := by
  have hw : w64 (k + f) = k + f := wrap_in h0 h1
  simp [gS, hk, hw]

end Go.AM

namespace Go.AM
open Go Go.Proofs
set_option maxRecDepth 100000
set_option maxHeartbeats 4000000
set_option linter.unusedSimpArgs false
set_option linter.unusedVariables false

instance (n : Int) : Decidable (I64 n) := by unfold I64; exact inferInstance
theorem w64_in {n : Int} (h : I64 n) : w64 n = n := wrap_in h.1 h.2
end Go.AM

namespace Go.AM
open Go Go.Proofs
set_option maxRecDepth 100000
set_option maxHeartbeats 4000000
set_option linter.unusedSimpArgs false
set_option linter.unusedVariables false

theorem ends_twoM {rv : List RV} {s : AS} {t1 t2 k1 k2 l1 l2 : Nat} {cap1 cap2 : Option Nat} {rows1 rows2 : List (List PV)} {tl : List AV} {ds : List DV} {r : DV} (hne : t1 ≠ t2)
    (h1 : evRV rv s.env s.σ = some (.agg [.msl t1 0 k1 l1 cap1, .msl t2 0 k2 l2 cap2] :: tl)) (h2 : lo s.σ t1 = .arr true k1 rows1) (h3 : lo s.σ t2 = .arr true k2 rows2) (hl1 : l1 = rows1.length) (hl2 : l2 = rows2.length)
    (ht : (tl = [] ∧ ds = []) ∨ ∃ v, tl = [.one (.p v)] ∧ ds = [.one v]) (hr : r = resD (.agg [.sl rows1, .sl rows2] :: ds)) :
    Ends rv r .ret s := by
  have h4 : foldP (toP 6) [.msl t1 0 k1 l1 cap1, .msl t2 0 k2 l2 cap2] s.σ = some ([.sl rows1, .sl rows2], (t2, .arr false k2 rows2) :: (t1, .arr false k1 rows1) :: s.σ) := by
    have e1 := toD_list (n := 5) (cap := cap1) h2 hl1
    have e2 := toD_list (n := 5) (cap := cap2) (σ := (t1, .arr false k1 rows1) :: s.σ) (t := t2) (k := k2) (rows := rows2) (m := true) (by rw [← h3]; simp [lo, hne.symm]) hl2
    simp only [if_true] at e1 e2
    simp only [foldP, e1, e2]
  rcases ht with ⟨rfl, rfl⟩ | ⟨v, rfl, rfl⟩
  · exact ends_ret (ds := [.agg [.sl rows1, .sl rows2]]) (σ' := (t2, .arr false k2 rows2) :: (t1, .arr false k1 rows1) :: s.σ) h1 (by simp only [toDs, toD, h4]) rfl hr.symm
  · exact ends_ret (ds := [.agg [.sl rows1, .sl rows2], .one v]) (σ' := (t2, .arr false k2 rows2) :: (t1, .arr false k1 rows1) :: s.σ) h1 (by simp only [toDs, toD, h4]; rfl) rfl hr.symm

end Go.AM

namespace Go.AM
open Go Go.Proofs
set_option maxRecDepth 100000
set_option maxHeartbeats 4000000
set_option linter.unusedSimpArgs false
set_option linter.unusedVariables false

theorem tab_const (n p : Nat) (v : Int) : tab n p (fun _ _ => v) = List.replicate (n * p) v := by
  unfold tab
  rw [List.map_const']; simp

end Go.AM

namespace Go.AM
open Go Go.Proofs
set_option maxRecDepth 100000
set_option maxHeartbeats 4000000
set_option linter.unusedSimpArgs false
set_option linter.unusedVariables false

theorem slice_row {m n row : Nat} {d : List Int} (hc : checkT [(m : Int), (n : Int)] d = true) (hr : row < m) :
    sliceF [(m : Int), (n : Int)] d 0 (row : Int) ((row : Int) + 1) = (([((1 : Nat) : Int), (n : Int)], tab 1 n fun _ k => gt d (row * n + k)), 0) := by
  have hk := ok2 (checkT2.1 hc).1
  show sliceF [(m : Int), (n : Int)] d ((0 : Nat) : Int) (row : Int) ((row : Int) + 1) = _
  rw [sliceF_ok hc (n := 0) (m := (m : Int)) rfl (by omega)]
  have e1 : (row : Int) + 1 - (row : Int) = ((1 : Nat) : Int) := by omega
  rw [e1]
  have e2 : [(m : Int), (n : Int)].set 0 ((1 : Nat) : Int) = [((1 : Nat) : Int), (n : Int)] := rfl
  have h1 : ShapeOk [((1 : Nat) : Int), (n : Int)] := ok2_iff.2 (by omega)
  unfold cutD
  rw [e2, mk2 h1]
  have : (tab 1 n fun i j => gS [(m : Int), (n : Int)] d ((0 : Nat) : Int) (row : Int) [(i : Int), (j : Int)]) = tab 1 n fun _ k => gt d (row * n + k) := by
    refine tab_congr fun i j hi hj => ?_
    obtain rfl : i = 0 := by omega
    rw [gS_in (k := 0) rfl (by omega) (by omega)]
    show (atF [(m : Int), (n : Int)] d [(0 : Int) + (row : Int), (j : Int)]).1 = _
    rw [Int.zero_add, at_tab hc hr hj]
  rw [this]

theorem slice_none {m n : Nat} {d : List Int} (hc : checkT [(m : Int), (n : Int)] d = true) {row : Int} (hi : I64 row) (hr : row < 0 ∨ row ≥ m) :
    sliceF [(m : Int), (n : Int)] d 0 row (w64 (row + 1)) = bad 20 := by
  have hk := ok2 (checkT2.1 hc).1
  refine sliceF_bad hc (n := 0) (m := (m : Int)) rfl fun h => ?_
  have h1 : row + 1 ≤ 9223372036854775807 ∨ row = 9223372036854775807 := by unfold I64 at hi; omega
  rcases h1 with h1 | h1
  · have : w64 (row + 1) = row + 1 := w64_in (by unfold I64 at hi ⊢; omega)
    rw [this] at h; omega
  · subst h1
    have : w64 (9223372036854775807 + 1) = -9223372036854775808 := by decide
    rw [this] at h; omega

theorem mul_row {m n p row : Nat} {d e : List Int} (h1 : checkT [(m : Int), (n : Int)] d = true) (h2 : checkT [(n : Int), (p : Int)] e = true) (h3 : checkS [(m : Int), (p : Int)] = true) (hg : Goes m n p d e) (hr : row < m) :
    mulF [((1 : Nat) : Int), (n : Int)] (tab 1 n fun _ k => gt d (row * n + k)) [(n : Int), (p : Int)] e = (([((1 : Nat) : Int), (p : Int)], tab 1 p fun _ j => gt (prod m n p d e) (row * p + j)), 0) := by
  have b1 := ok2 (checkS_iff.1 h3)
  have b2 := ok2 (checkT2.1 h1).1
  have q1 : checkT [((1 : Nat) : Int), (n : Int)] (tab 1 n fun _ k => gt d (row * n + k)) = true := tab_check (checkS_iff.2 (ok2_iff.2 (by omega)))
  have hc : ∀ i j, i < 1 → j < p → cel n p (tab 1 n fun _ k => gt d (row * n + k)) e i j = cel n p d e row j := fun i j hi hj => by
    unfold cel
    refine dot_congr fun k hk => ?_
    rw [Nat.zero_add, gt_tab hi hk]; exact ⟨rfl, rfl⟩
  rw [mul_go q1 h2 (checkS_iff.2 (ok2_iff.2 (by omega))) (fun i j hi hj => by rw [hc i j hi hj]; exact hg row j hr hj)]
  have : prod 1 n p (tab 1 n fun _ k => gt d (row * n + k)) e = tab 1 p fun _ j => gt (prod m n p d e) (row * p + j) := by
    unfold prod
    refine tab_congr fun i j hi hj => ?_
    rw [hc i j hi hj, gt_tab hr hj]
  rw [this]

/-- numbers, added in order -/
def sumF (y : Nat → Int) : Nat → Nat → Int → Int × Int
  | 0, _, s => (s, 0)
  | n + 1, k, s => if (fAdd s (y k)).2 = 0 then sumF y n (k + 1) (fAdd s (y k)).1 else (0, (fAdd s (y k)).2)
theorem dot_ones {x y : Nat → Int} : ∀ {n k : Nat} {s : Int}, (∀ j, j < n → I64 (y (k + j))) → (∀ j, j < n → x (k + j) = 4294967296) → dot x y n k s = sumF y n k s
  | 0, _, _, _, _ => rfl
  | n + 1, k, s, hy, hx => by
    have h0 := hx 0 (by omega)
    have hy0 := hy 0 (by omega)
    rw [Nat.add_zero] at h0 hy0
    have ih : ∀ s, dot x y n (k + 1) s = sumF y n (k + 1) s := fun s =>
      dot_ones (fun j hj => by have := hy (j + 1) (by omega); rwa [show k + (j + 1) = k + 1 + j from by omega] at this)
        (fun j hj => by have := hx (j + 1) (by omega); rwa [show k + (j + 1) = k + 1 + j from by omega] at this)
    simp only [dot, sumF, h0, fMul_one hy0, if_true, ih]
end Go.AM

namespace Go.AM
open Go Go.Proofs Go.Proofs.Ytcmbjbmghoopcaa
set_option maxRecDepth 100000
set_option linter.unusedSimpArgs false
set_option linter.unusedVariables false

theorem arg_N {d : DV} (h : ArgOk Try.prog 3 d) : ∃ n : Int, d = dN n ∧ -9223372036854775808 ≤ n ∧ n < 9223372036854775808 := by
  unfold ArgOk at h
  rw [Try.underlying3] at h
  obtain ⟨v, rfl, h⟩ := h
  obtain ⟨s, e, hs⟩ := conf_int h
  cases e
  exact ⟨s, rfl, hs⟩

end Go.AM

namespace Go.AM
open Go Go.Proofs
set_option maxRecDepth 100000
set_option maxHeartbeats 4000000
set_option linter.unusedSimpArgs false
set_option linter.unusedVariables false

theorem p_bits_Mul {x y : Nat} (hx : x < 18446744073709551616) (hy : y < 18446744073709551616) : PureC Try.prog fi_math_bits_Mul [dU x, dU y] (dUU (x * y / 18446744073709551616) (x * y % 18446744073709551616)) := by
  refine pure_math_bits_Mul (by simp) fun G hP hn => ?_
  unfold a_math_bits_Mul
  have k := p_bits_Mul64 hx hy
  have w1 := u64_nat hx
  have w2 := u64_nat hy
  have w3 : IntKind.u64.wrap ((x * y / 18446744073709551616 : Nat) : Int) = ((x * y / 18446744073709551616 : Nat) : Int) := u64_nat (by
    have : x * y < 18446744073709551616 * 18446744073709551616 := Nat.mul_lt_mul'' hx hy
    omega)
  have w4 : IntKind.u64.wrap ((x * y % 18446744073709551616 : Nat) : Int) = ((x * y % 18446744073709551616 : Nat) : Int) := u64_nat (by omega)
  generalize x * y / 18446744073709551616 = h at *
  generalize x * y % 18446744073709551616 = l at *
  repeat' (first | apply T_then | apply then_ret | apply then_exit | apply then_goto | apply rnd_exit | apply rnd_ret | apply rnd_goto | apply noGo_normal | apply noGo_ret | apply noGo_exit | apply jmp_normal | apply jmp_ret | apply jmp_exit | apply jmp_goto | apply inB_normal | apply inB_ret | apply inB_goto | apply inB_exit | refine inB_exit_ne rfl ?_ | ((first | apply T_srK fw | apply T_regK fw); · ((try simp only [TOps.flat, List.cons_append, List.nil_append]); repeat (first | apply X_g0 | apply X_g | apply S_keep | apply X_skip | apply X_skipN | refine X_call ?_ ⟨_, _, _, _, _, _, rfl, rfl, rfl, by rw [hP]; exact k⟩ ?_ | apply X_q | apply X_st | apply X_n | apply X_s | apply SKs0 | apply SKs2 | apply SKs1 | refine ⟨⟨rfl, rfl⟩, ?_⟩ | refine ⟨⟨rfl, ?_⟩, ?_⟩ | refine ⟨?_, ?_⟩ | (· (try simp only [go_sem, seval, reduceIte, ↓reduceIte, Bool.not_eq_true, reduceCtorEq, beq_false, beq_true, hn, hP, w1, w2, w3, w4]); first | done | rfl)))) | apply T_seq | apply T_block | refine T_scopeJ 0 rfl ?_ | apply T_scope | apply T_goto | apply T_ret | apply T_skip | apply T_exit | apply T_label | refine T_condT rfl ?_ | refine T_condF rfl ?_ | refine T_condD rfl (fun _ => ?_) (fun _ => ?_) | refine T_cond rfl (fun _ => ?_) (fun _ => ?_))
  exact ends_ret rfl rfl rfl rfl

def repL (v : Int) (k n : Nat) : List Int := List.replicate n v ++ List.replicate (k - n) 0

theorem m_slices_Repeat (v : Int) (k : Nat) (h1 : 1 ≤ k) (h2 : k ≤ 64) : MutC Try.prog fi_slices_Repeat_int_int [.one (.msl 13 0 1 1 none), .one (.p (.int .i64 k))] [(13, .arr true 1 (rI [v]))]
    (.one (.msl 30 0 1 k (some k))) [(13, .arr true 1 (rI [v])), (30, .arr true 1 (rI (List.replicate k v)))] [30] := by
  refine mut_slices_Repeat_int_int (by simp) fun G ex hP hn hfr => ?_
  unfold a_slices_Repeat_int_int
  have hfr := hfr 30 (by simp)
  have kb := p_bits_Mul (x := 1) (y := k) (by omega) (by omega)
  rw [Nat.one_mul, show k / 18446744073709551616 = 0 from by omega, show k % 18446744073709551616 = k from by omega] at kb
  have w1 : IntKind.u64.wrap (1 : Int) = 1 := by decide
  have w2 := u64_nat (n := k) (by omega)
  have w3 : IntKind.i64.wrap (k : Int) = (k : Int) := wrap_in (by omega) (by omega)
  have c0 : ¬ (k : Int) < 0 := by omega
  have c1 : ¬ (k : Int) > 9223372036854775807 := by omega
  have hM : MaxN = 140737488355328 := rfl
  have q1 : (k : Int) * 8 ≤ MaxN := by omega
  have q2 : (k : Int) ≤ MaxN := by omega
  have m1 : min (1 : Int) (k : Int) = 1 := by omega
  repeat' (first | apply T_then | apply then_ret | apply then_exit | apply then_goto | apply rnd_exit | apply rnd_ret | apply rnd_goto | apply noGo_normal | apply noGo_ret | apply noGo_exit | apply jmp_normal | apply jmp_ret | apply jmp_exit | apply jmp_goto | apply inB_normal | apply inB_ret | apply inB_goto | apply inB_exit | refine inB_exit_ne rfl ?_ | ((first | apply T_srK fw | apply T_regK fw); · ((try simp only [TOps.flat, List.cons_append, List.nil_append]); repeat (first | apply X_g0 | apply X_g | apply S_keep | apply X_skip | apply X_skipN | refine X_call ?_ ⟨_, _, _, _, _, _, rfl, rfl, rfl, by rw [hP]; exact kb⟩ ?_ | apply X_q | apply X_st | apply X_n | apply X_s | apply SKs0 | apply SKs2 | apply SKs1 | refine ⟨⟨rfl, rfl⟩, ?_⟩ | refine ⟨⟨rfl, ?_⟩, ?_⟩ | refine ⟨?_, ?_⟩ | (· (try simp only [go_sem, seval, reduceIte, ↓reduceIte, Bool.not_eq_true, reduceCtorEq, beq_false, beq_true, hn, hP, w1, w2, w3, c0, c1, m1, q1, q2, hfr, scr_ex hfr, Int.le_refl]); first | done | rfl)))) | apply T_seq | apply T_block | refine T_scopeJ 0 rfl ?_ | apply T_scope | apply T_goto | apply T_ret | apply T_skip | apply T_exit | apply T_label | refine T_condT rfl ?_ | refine T_condF rfl ?_ | refine T_condD rfl (fun _ => ?_) (fun _ => ?_) | refine T_cond rfl (fun _ => ?_) (fun _ => ?_))
  have e0 : List.take k [[PV.int IntKind.i64 v]] = [[PV.int IntKind.i64 v]] := List.take_of_length_le (by simpa using h1)
  refine T_for k (fun i (n : Nat) => { env := [(7, .one (.msl 30 0 1 k (some k))), (8, .one (.p (.int .i64 n)))], σ := [(30, .arr true 1 (rI (repL v k n))), (13, .arr true 1 (rI [v]))], ex := ex })
    (fun i n => i < n ∧ n ≤ k) 1 ⟨by omega, h1⟩ ?_ fun i n hi hc => ?_
  · refine Weak.sub fun p hp => ?_
    simp only [List.mem_cons, List.not_mem_nil, or_false] at hp
    rcases hp with rfl | rfl
    · simp [lo, e0, repL, rI]
    · rfl
  obtain ⟨c1, c2⟩ := hc
  by_cases hlt : n < k
  · have c3 : (n : Int) < k := by omega
    have c4 : (n : Int) ≤ k := by omega
    repeat' (first | apply T_then | apply then_ret | apply then_exit | apply then_goto | apply rnd_exit | apply rnd_ret | apply rnd_goto | apply noGo_normal | apply noGo_ret | apply noGo_exit | apply jmp_normal | apply jmp_ret | apply jmp_exit | apply jmp_goto | apply inB_normal | apply inB_ret | apply inB_goto | apply inB_exit | refine inB_exit_ne rfl ?_ | ((first | apply T_srK fw | apply T_regK fw); · ((try simp only [TOps.flat, List.cons_append, List.nil_append]); repeat (first | apply X_g0 | apply X_g | apply S_keep | apply X_skip | apply X_skipN | apply X_q | apply X_st | apply X_n | apply X_s | apply SKs0 | apply SKs2 | apply SKs1 | refine ⟨⟨rfl, rfl⟩, ?_⟩ | refine ⟨⟨rfl, ?_⟩, ?_⟩ | refine ⟨?_, ?_⟩ | (· (try simp only [go_sem, seval, reduceIte, ↓reduceIte, Bool.not_eq_true, reduceCtorEq, beq_false, beq_true, hn, hP, c3, c4, c2, Int.le_refl]); first | done | rfl)))) | apply T_seq | apply T_block | refine T_scopeJ 0 rfl ?_ | apply T_scope | apply T_goto | apply T_ret | apply T_skip | apply T_exit | apply T_label | refine T_condT rfl ?_ | refine T_condF rfl ?_ | refine T_condD rfl (fun _ => ?_) (fun _ => ?_) | refine T_cond rfl (fun _ => ?_) (fun _ => ?_))
    have n0 : ¬ n = 0 := by omega
    have n1 : ¬ n = k := by omega
    have hl : (repL v k n).length = k := by simp [repL]; omega
    have c5 : n + (k - n) = k := by omega
    have e1 : (List.take (k - n) (List.take n (rI (repL v k n)))) = rI (List.replicate (min n (k - n)) v) := by
      simp [repL, rI, List.take_append_of_le_length, List.take_replicate, Nat.min_comm]
    have e2 : (List.take n (rI (repL v k n))).length = n := by simp [hl]; omega
    have w4 : IntKind.i64.wrap ((n : Int) + min (n : Int) ((k - n : Nat) : Int)) = ((n + min n (k - n) : Nat) : Int) := by rw [wrap_in (by omega) (by omega)]; omega
    have e3 : List.take n (rI (repL v k n)) ++ rI (List.replicate (min n (k - n)) v) ++ List.drop (n + min n (k - n)) (rI (repL v k n)) = rI (repL v k (n + min n (k - n))) := by
      rw [← List.map_take, ← List.map_drop, ← List.map_append, ← List.map_append]
      congr 1
      unfold repL
      rw [List.take_append_of_le_length (by simp), List.take_of_length_le (by simp), List.drop_append, List.drop_of_length_le (by simp), List.nil_append, List.length_replicate, List.drop_replicate, List.replicate_append_replicate]
      congr 2
      omega
    apply T_dr fw (by rw [hP]; rfl)
    · simp only [go_sem, seval, reduceIte, ↓reduceIte, bne, beq_false, beq_true, Bool.not_eq_true, Bool.if_true_right, decide_not, reduceCtorEq, hP, all1, n0, n1, hlt, hl, c3, c4, c2, c5, e1, e2, w4, Nat.le_refl, Int.le_refl]
      exact rfl
    repeat' (first | apply T_then | apply then_ret | apply then_exit | apply then_goto | apply rnd_exit | apply rnd_ret | apply rnd_goto | apply noGo_normal | apply noGo_ret | apply noGo_exit | apply jmp_normal | apply jmp_ret | apply jmp_exit | apply jmp_goto | apply inB_normal | apply inB_ret | apply inB_goto | apply inB_exit | refine inB_exit_ne rfl ?_ | ((first | apply T_srK fw | apply T_regK fw); · ((try simp only [TOps.flat, List.cons_append, List.nil_append]); repeat (first | apply X_g0 | apply X_g | apply S_keep | apply X_skip | apply X_skipN | apply X_q | apply X_st | apply X_n | apply X_s | apply SKs0 | apply SKs2 | apply SKs1 | refine ⟨⟨rfl, rfl⟩, ?_⟩ | refine ⟨⟨rfl, ?_⟩, ?_⟩ | refine ⟨?_, ?_⟩ | (· (try simp only [go_sem, seval, reduceIte, ↓reduceIte, Bool.not_eq_true, reduceCtorEq, beq_false, beq_true, hn, hP]); first | done | rfl)))) | apply T_seq | apply T_block | refine T_scopeJ 0 rfl ?_ | apply T_scope | apply T_goto | apply T_ret | apply T_skip | apply T_exit | apply T_label | refine T_condT rfl ?_ | refine T_condF rfl ?_ | refine T_condD rfl (fun _ => ?_) (fun _ => ?_) | refine T_cond rfl (fun _ => ?_) (fun _ => ?_))
    refine rnd_next (by omega) (n + min n (k - n)) ⟨by omega, by omega⟩ (Weak.sub fun p hp => ?_)
    simp only [List.mem_cons, List.not_mem_nil, or_false] at hp
    rcases hp with rfl | rfl
    · rw [← e3]; simp [lo]
    · rfl
  · have c3 : ¬ (n : Int) < k := by omega
    have hnk : n = k := by omega
    repeat' (first | apply T_then | apply then_ret | apply then_exit | apply then_goto | apply rnd_exit | apply rnd_ret | apply rnd_goto | apply noGo_normal | apply noGo_ret | apply noGo_exit | apply jmp_normal | apply jmp_ret | apply jmp_exit | apply jmp_goto | apply inB_normal | apply inB_ret | apply inB_goto | apply inB_exit | refine inB_exit_ne rfl ?_ | ((first | apply T_srK fw | apply T_regK fw); · ((try simp only [TOps.flat, List.cons_append, List.nil_append]); repeat (first | apply X_g0 | apply X_g | apply S_keep | apply X_skip | apply X_skipN | apply X_q | apply X_st | apply X_n | apply X_s | apply SKs0 | apply SKs2 | apply SKs1 | refine ⟨⟨rfl, rfl⟩, ?_⟩ | refine ⟨⟨rfl, ?_⟩, ?_⟩ | refine ⟨?_, ?_⟩ | (· (try simp only [go_sem, seval, reduceIte, ↓reduceIte, Bool.not_eq_true, reduceCtorEq, beq_false, beq_true, hn, hP, c3]); first | done | rfl)))) | apply T_seq | apply T_block | refine T_scopeJ 0 rfl ?_ | apply T_scope | apply T_goto | apply T_ret | apply T_skip | apply T_exit | apply T_label | refine T_condT rfl ?_ | refine T_condF rfl ?_ | refine T_condD rfl (fun _ => ?_) (fun _ => ?_) | refine T_cond rfl (fun _ => ?_) (fun _ => ?_))
    refine endsM_ret rfl rfl rfl (fun p hp => ?_) rfl
    simp only [List.mem_cons, List.not_mem_nil, or_false] at hp
    rcases hp with rfl | rfl
    · rfl
    · simp [lo, hnk, repL]
end Go.AM

namespace Go.AM
open Go.RowKit (Below)
set_option linter.unusedSimpArgs false
set_option linter.unusedVariables false

section
variable {A : Nat → Prop} {τ τ2 : Tau} {w : World} {ρ : Nat → Nat}

end

/-- a number that is not spoken of -/
def Bnd (f : Nat → Bool) : Prop := ∃ b, ∀ t, b ≤ t → f t = false
theorem Bnd.or {f g : Nat → Bool} (h : Bnd f) (k : Bnd g) : Bnd (fun t => f t || g t) :=
  let ⟨b, hb⟩ := h; let ⟨c, hc⟩ := k; ⟨max b c, fun t ht => by show (f t || g t) = false; rw [hb t (by omega), hc t (by omega)]; rfl⟩
def AO.has (d : Nat) : AO → Bool
  | .cells _ cs => AC.has.hasL d cs
  | _ => false
theorem ORel.retau {M A : Nat → Prop} {τ τ' : Tau} {w : World} {t : Nat} {o : AO} (h : ORel M A τ w t o) (ht : o ≠ .none → τ' t = τ t) (hτ : ∀ u, o.has u = true → τ' u = τ u) : ORel M A τ' w t o := by
  cases o with
  | none => trivial
  | cells m cs =>
    obtain ⟨b, xs, e, h1, h2, h3, h4⟩ := h
    exact ⟨b, xs, e, (ht (by simp)).trans h1, h2, h3.stepL (p := fun c => ∀ t, c.has t = true → τ' t = τ t) (fun c hc t ht => hτ t (hasL_mem hc ht)) (fun _ _ hp h => h.step (WStep.refl w) (fun _ h => h) (fun _ _ => rfl) hp), h4⟩
  | arr m s rows =>
    obtain ⟨h0, hl, h⟩ := h
    refine ⟨h0, hl, ?_⟩
    rcases h with ⟨h1, h2⟩ | ⟨b, xs, e, h1, h2⟩
    · exact .inl ⟨(ht (by simp)).trans h1, h2⟩
    · exact .inr ⟨b, xs, e, (ht (by simp)).trans h1, h2⟩
  | map m es =>
    obtain ⟨b, ces, clock, h1, h2⟩ := h
    exact ⟨b, ces, clock, (ht (by simp)).trans h1, h2⟩

end Go.AM

namespace Go.AM
open Go Go.Proofs
set_option maxRecDepth 100000
set_option maxHeartbeats 4000000
set_option linter.unusedSimpArgs false
set_option linter.unusedVariables false

def fullF (s : List Int) (n : Int) : (List Int × List Int) × Int := if checkS s = true then ((s, List.replicate (sizeS s).toNat n), 0) else bad 20
theorem sizeS_nat (s : List Int) : sizeS s = (((sizeS s).toNat : Nat) : Int) := by have := sizeS_nn s; omega
theorem sizeS_one {s : List Int} (h : checkS s = true) : 1 ≤ (sizeS s).toNat ∧ (sizeS s).toNat ≤ 64 := by
  have h1 := checkS_iff.1 h
  have h2 := sizeS_ok h1
  have h3 := prd_pos h1.2.1
  have h4 := h1.2.2
  omega
theorem c_size {s : List Int} : PureC Try.prog fi_shape_Size [dI s] (dN (((sizeS s).toNat : Nat) : Int)) := by
  have := p_shape_Size s
  rw [sizeS_nat s] at this; exact this

theorem p_tensor_Full (s : List Int) (n : Int) : PureC Try.prog fi_tensor_Full [dI s, dN n] (dTE (fullF s n)) := by
  refine pure_tensor_Full (by simp) fun G hP hn => ?_
  unfold a_tensor_Full
  have kc := p_shape_Check s
  cases h : checkS s
  · repeat' (first | apply T_then | apply then_ret | apply then_exit | apply then_goto | apply rnd_exit | apply rnd_ret | apply rnd_goto | apply noGo_normal | apply noGo_ret | apply noGo_exit | apply jmp_normal | apply jmp_ret | apply jmp_exit | apply jmp_goto | apply inB_normal | apply inB_ret | apply inB_goto | apply inB_exit | refine inB_exit_ne rfl ?_ | ((first | apply T_srK fw | apply T_regK fw); · ((try simp only [TOps.flat, List.cons_append, List.nil_append]); repeat (first | apply X_g0 | apply X_g | apply S_keep | apply X_skip | apply X_skipN | refine X_call ?_ ⟨_, _, _, _, _, _, rfl, rfl, rfl, by rw [hP]; exact kc⟩ ?_ | apply X_q | apply X_st | apply X_n | apply X_s | apply SKs0 | apply SKs2 | apply SKs1 | refine ⟨⟨rfl, rfl⟩, ?_⟩ | refine ⟨⟨rfl, ?_⟩, ?_⟩ | refine ⟨?_, ?_⟩ | (· (try simp only [go_sem, seval, reduceIte, ↓reduceIte, Bool.not_eq_true, reduceCtorEq, beq_false, beq_true, hn, hP, h]); first | done | rfl)))) | apply T_seq | apply T_block | refine T_scopeJ 0 rfl ?_ | apply T_scope | apply T_goto | apply T_ret | apply T_skip | apply T_exit | apply T_label | refine T_condT rfl ?_ | refine T_condF rfl ?_ | refine T_condD rfl (fun _ => ?_) (fun _ => ?_) | refine T_cond rfl (fun _ => ?_) (fun _ => ?_))
    exact ends_ret rfl rfl rfl (by simp [fullF, h, bad, resD])
  · rw [h] at kc
    have hs := check_len h
    have kl := m_slices_Clone s (by omega)
    have ks := c_size (s := s)
    have hk := sizeS_one h
    have hf : fullF s n = ((s, List.replicate (sizeS s).toNat n), 0) := by unfold fullF; rw [if_pos h]
    have kr := m_slices_Repeat n (sizeS s).toNat hk.1 hk.2
    generalize (sizeS s).toNat = k at *
    repeat' (first | apply T_then | apply then_ret | apply then_exit | apply then_goto | apply rnd_exit | apply rnd_ret | apply rnd_goto | apply noGo_normal | apply noGo_ret | apply noGo_exit | apply jmp_normal | apply jmp_ret | apply jmp_exit | apply jmp_goto | apply inB_normal | apply inB_ret | apply inB_goto | apply inB_exit | refine inB_exit_ne rfl ?_ | ((first | apply T_srK fw | apply T_regK fw); · ((try simp only [TOps.flat, List.cons_append, List.nil_append]); repeat (first | apply X_g0 | apply X_g | apply S_keep | apply X_skip | apply X_skipN | refine X_call ?_ ⟨_, _, _, _, _, _, rfl, rfl, rfl, by rw [hP]; exact kc⟩ ?_ | refine X_call ?_ ⟨_, _, _, _, _, _, rfl, rfl, rfl, by rw [hP]; exact ks⟩ ?_ | refine X_callM ?_ (callM_mk rfl rfl (by rw [hP]; exact kl) (by simp [lo]) (by simp) (by simp [AS.nr, AV.has, AC.has, AC.has.hasL, AO.nr, lo, DV.av] <;> assumption)) ?_ | refine X_callM ?_ (callM_mk rfl rfl (by rw [hP]; exact kr) (by simp [lo]) (by simp) (by simp [AS.nr, AV.has, AC.has, AC.has.hasL, AO.nr, lo, DV.av] <;> assumption)) ?_ | apply X_q | apply X_st | apply X_n | apply X_s | apply SKs0 | apply SKs2 | apply SKs1 | refine ⟨⟨rfl, rfl⟩, ?_⟩ | refine ⟨⟨rfl, ?_⟩, ?_⟩ | refine ⟨?_, ?_⟩ | (· (try simp only [go_sem, seval, reduceIte, ↓reduceIte, Bool.not_eq_true, reduceCtorEq, beq_false, beq_true, hn, hP]); first | done | rfl)))) | apply T_seq | apply T_block | refine T_scopeJ 0 rfl ?_ | apply T_scope | apply T_goto | apply T_ret | apply T_skip | apply T_exit | apply T_label | refine T_condT rfl ?_ | refine T_condF rfl ?_ | refine T_condD rfl (fun _ => ?_) (fun _ => ?_) | refine T_cond rfl (fun _ => ?_) (fun _ => ?_))
    exact ends_twoM (t1 := 5) (t2 := 30) (by decide) rfl rfl rfl (by simp) (by simp) (.inr ⟨_, rfl, rfl⟩) (by rw [hf]; rfl)
end Go.AM

namespace Go.AM
open Go Go.Proofs
set_option maxRecDepth 100000
set_option maxHeartbeats 4000000
set_option linter.unusedSimpArgs false
set_option linter.unusedVariables false

abbrev dL (A S B : Int) : DV := .agg [.int .i64 A, .int .i64 S, .int .i64 B]
def lanesF (s d : List Int) (a : Int) : (Int × Int × Int) × Int :=
  if checkT s d = true then (if a < 0 ∨ a ≥ s.length then ((0, 0, 0), 20) else ((sizeS (s.take a.toNat), (s[a.toNat]?).getD 0, sizeS (s.drop (a.toNat + 1))), 0)) else ((0, 0, 0), 30)

theorem rI_take (s : List Int) (n : Nat) : (rI s).take n = rI (s.take n) := by simp [List.map_take]
theorem rI_drop (s : List Int) (n : Nat) : (rI s).drop n = rI (s.drop n) := by simp [List.map_drop]

theorem p_reduce_lanes (s d : List Int) (a : Int) : PureC Try.prog fi_reduce_lanes [dT s d, dN a] (.tup [dL (lanesF s d a).1.1 (lanesF s d a).1.2.1 (lanesF s d a).1.2.2, dN (lanesF s d a).2]) := by
  refine pure_reduce_lanes (by simp) fun G hP hn => ?_
  unfold a_reduce_lanes
  have kc := p_tensor_Check s d
  cases hc : checkT s d
  · rw [hc] at kc
    repeat' (first | apply T_then | apply then_ret | apply then_exit | apply then_goto | apply rnd_exit | apply rnd_ret | apply rnd_goto | apply noGo_normal | apply noGo_ret | apply noGo_exit | apply jmp_normal | apply jmp_ret | apply jmp_exit | apply jmp_goto | apply inB_normal | apply inB_ret | apply inB_goto | apply inB_exit | refine inB_exit_ne rfl ?_ | ((first | apply T_srK fw | apply T_regK fw); · ((try simp only [TOps.flat, List.cons_append, List.nil_append]); repeat (first | apply X_g0 | apply X_g | apply S_keep | apply X_skip | apply X_skipN | refine X_call ?_ ⟨_, _, _, _, _, _, rfl, rfl, rfl, by rw [hP]; exact kc⟩ ?_ | apply X_q | apply X_st | apply X_n | apply X_s | apply SKs0 | apply SKs2 | apply SKs1 | refine ⟨⟨rfl, rfl⟩, ?_⟩ | refine ⟨⟨rfl, ?_⟩, ?_⟩ | refine ⟨?_, ?_⟩ | (· (try simp only [go_sem, seval, reduceIte, ↓reduceIte, Bool.not_eq_true, reduceCtorEq, beq_false, beq_true, hn, hP]); first | done | rfl)))) | apply T_seq | apply T_block | refine T_scopeJ 0 rfl ?_ | apply T_scope | apply T_goto | apply T_ret | apply T_skip | apply T_exit | apply T_label | refine T_condT rfl ?_ | refine T_condF rfl ?_ | refine T_condD rfl (fun _ => ?_) (fun _ => ?_) | refine T_cond rfl (fun _ => ?_) (fun _ => ?_))
    exact ends_ret rfl rfl rfl (by simp [lanesF, hc, resD])
  rw [hc] at kc
  by_cases h1 : a < 0
  · repeat' (first | apply T_then | apply then_ret | apply then_exit | apply then_goto | apply rnd_exit | apply rnd_ret | apply rnd_goto | apply noGo_normal | apply noGo_ret | apply noGo_exit | apply jmp_normal | apply jmp_ret | apply jmp_exit | apply jmp_goto | apply inB_normal | apply inB_ret | apply inB_goto | apply inB_exit | refine inB_exit_ne rfl ?_ | ((first | apply T_srK fw | apply T_regK fw); · ((try simp only [TOps.flat, List.cons_append, List.nil_append]); repeat (first | apply X_g0 | apply X_g | apply S_keep | apply X_skip | apply X_skipN | refine X_call ?_ ⟨_, _, _, _, _, _, rfl, rfl, rfl, by rw [hP]; exact kc⟩ ?_ | apply X_q | apply X_st | apply X_n | apply X_s | apply SKs0 | apply SKs2 | apply SKs1 | refine ⟨⟨rfl, rfl⟩, ?_⟩ | refine ⟨⟨rfl, ?_⟩, ?_⟩ | refine ⟨?_, ?_⟩ | (· (try simp only [go_sem, seval, reduceIte, ↓reduceIte, Bool.not_eq_true, reduceCtorEq, beq_false, beq_true, hn, hP, h1]); first | done | rfl)))) | apply T_seq | apply T_block | refine T_scopeJ 0 rfl ?_ | apply T_scope | apply T_goto | apply T_ret | apply T_skip | apply T_exit | apply T_label | refine T_condT rfl ?_ | refine T_condF rfl ?_ | refine T_condD rfl (fun _ => ?_) (fun _ => ?_) | refine T_cond rfl (fun _ => ?_) (fun _ => ?_))
    exact ends_ret rfl rfl rfl (by simp [lanesF, hc, h1, resD])
  by_cases h2 : a ≥ s.length
  · repeat' (first | apply T_then | apply then_ret | apply then_exit | apply then_goto | apply rnd_exit | apply rnd_ret | apply rnd_goto | apply noGo_normal | apply noGo_ret | apply noGo_exit | apply jmp_normal | apply jmp_ret | apply jmp_exit | apply jmp_goto | apply inB_normal | apply inB_ret | apply inB_goto | apply inB_exit | refine inB_exit_ne rfl ?_ | ((first | apply T_srK fw | apply T_regK fw); · ((try simp only [TOps.flat, List.cons_append, List.nil_append]); repeat (first | apply X_g0 | apply X_g | apply S_keep | apply X_skip | apply X_skipN | refine X_call ?_ ⟨_, _, _, _, _, _, rfl, rfl, rfl, by rw [hP]; exact kc⟩ ?_ | apply X_q | apply X_st | apply X_n | apply X_s | apply SKs0 | apply SKs2 | apply SKs1 | refine ⟨⟨rfl, rfl⟩, ?_⟩ | refine ⟨⟨rfl, ?_⟩, ?_⟩ | refine ⟨?_, ?_⟩ | (· (try simp only [go_sem, seval, reduceIte, ↓reduceIte, Bool.not_eq_true, reduceCtorEq, beq_false, beq_true, hn, hP, h1, h2]); first | done | rfl)))) | apply T_seq | apply T_block | refine T_scopeJ 0 rfl ?_ | apply T_scope | apply T_goto | apply T_ret | apply T_skip | apply T_exit | apply T_label | refine T_condT rfl ?_ | refine T_condF rfl ?_ | refine T_condD rfl (fun _ => ?_) (fun _ => ?_) | refine T_cond rfl (fun _ => ?_) (fun _ => ?_))
    exact ends_ret rfl rfl rfl (by simp [lanesF, hc, h1, h2, resD])
  obtain ⟨n, rfl⟩ := Int.eq_ofNat_of_zero_le (by omega : 0 ≤ a)
  have hlt : n < s.length := by omega
  have hx : s[n]? = some s[n] := List.getElem?_eq_getElem hlt
  have hl := check_len (checkS_iff.2 (checkT_iff.1 hc).1)
  have w1 : IntKind.i64.wrap ((n : Int) + 1) = ((n + 1 : Nat) : Int) := by rw [wrap_in (by omega) (by omega)]; rfl
  have c1 : (n : Int) ≤ s.length := by omega
  have c2 : ((n + 1 : Nat) : Int) ≤ s.length := by omega
  have t1 := rI_take s n
  have t2 := rI_drop s (n + 1)
  have t3 : (s.length : Int).toNat = s.length := rfl
  have t4 : (rI s).take s.length = rI s := by rw [List.take_of_length_le (by simp)]
  repeat' (first | apply T_then | apply then_ret | apply then_exit | apply then_goto | apply rnd_exit | apply rnd_ret | apply rnd_goto | apply noGo_normal | apply noGo_ret | apply noGo_exit | apply jmp_normal | apply jmp_ret | apply jmp_exit | apply jmp_goto | apply inB_normal | apply inB_ret | apply inB_goto | apply inB_exit | refine inB_exit_ne rfl ?_ | ((first | apply T_srK fw | apply T_regK fw); · ((try simp only [TOps.flat, List.cons_append, List.nil_append]); repeat (first | apply X_g0 | apply X_g | apply S_keep | apply X_skip | apply X_skipN | refine X_call ?_ ⟨_, _, _, _, _, _, rfl, rfl, rfl, by rw [hP]; exact kc⟩ ?_ | refine X_call ?_ ⟨_, _, _, _, _, _, rfl, rfl, rfl, by rw [hP]; exact p_shape_Size _⟩ ?_ | apply X_q | apply X_st | apply X_n | apply X_s | apply SKs0 | apply SKs2 | apply SKs1 | refine ⟨⟨rfl, rfl⟩, ?_⟩ | refine ⟨⟨rfl, ?_⟩, ?_⟩ | refine ⟨?_, ?_⟩ | (· (try simp only [go_sem, seval, reduceIte, ↓reduceIte, Bool.not_eq_true, reduceCtorEq, beq_false, beq_true, hn, hP, h1, h2, w1, c1, c2, t1, t2, t3, t4, hx, hlt, Int.le_refl]); first | done | rfl)))) | ((first | apply T_sdF fw (by rw [hP]; rfl) (by decide +kernel) | apply T_drF fw (by rw [hP]; rfl) (by decide +kernel)); · ((try simp only [TOps.flat, List.cons_append, List.nil_append]); repeat (first | apply Y_g0 | apply Y_g | apply Y_skip | apply Y_q | refine Y_call ⟨_, _, _, _, _, _, rfl, rfl, rfl, by rw [hP]; exact kc⟩ ?_ ?_ | refine Y_call ⟨_, _, _, _, _, _, rfl, rfl, rfl, by rw [hP]; exact p_shape_Size _⟩ ?_ ?_ | refine RunF_nil (P := G.P) ?_ | (· (try simp only [go_sem, seval, reduceIte, ↓reduceIte, Bool.not_eq_true, reduceCtorEq, beq_false, beq_true, hn, hP, h1, h2, w1, c1, c2, t1, t2, t3, t4, hx, hlt, Int.le_refl]); first | done | rfl)))) | ((first | apply T_sd fw (by rw [hP]; rfl) | apply T_dr fw (by rw [hP]; rfl)); · ((try simp only [go_sem, seval, reduceIte, ↓reduceIte, bne, beq_false, beq_true, Bool.not_eq_true, Bool.if_true_right, decide_not, reduceCtorEq, hP, h1, h2, w1, c1, c2, t1, t2, t3, t4, hx, hlt, Int.le_refl]); (repeat ((first       | (refine ⟨_, ⟨_, _, _, _, _, _, rfl, rfl, rfl, kc⟩, ?_⟩)       | (refine ⟨_, ⟨_, _, _, _, _, _, rfl, rfl, rfl, p_shape_Size _⟩, ?_⟩)); (try simp only [go_sem, seval, reduceIte, ↓reduceIte, bne, beq_false, beq_true, Bool.not_eq_true, Bool.if_true_right, decide_not, reduceCtorEq, hP, h1, h2, w1, c1, c2, t1, t2, t3, t4, hx, hlt, Int.le_refl]))); (first | done | exact rfl))) | apply T_seq | apply T_block | refine T_scopeJ 0 rfl ?_ | apply T_scope | apply T_goto | apply T_ret | apply T_skip | apply T_exit | apply T_label | refine T_condT rfl ?_ | refine T_condF rfl ?_ | refine T_condD rfl (fun _ => ?_) (fun _ => ?_) | refine T_cond rfl (fun _ => ?_) (fun _ => ?_))
  have t5 : List.take (s.length - (n + 1)) (rI (List.drop (n + 1) s)) = rI (List.drop (n + 1) s) := List.take_of_length_le (by simp)
  repeat' (first | apply T_then | apply then_ret | apply then_exit | apply then_goto | apply rnd_exit | apply rnd_ret | apply rnd_goto | apply noGo_normal | apply noGo_ret | apply noGo_exit | apply jmp_normal | apply jmp_ret | apply jmp_exit | apply jmp_goto | apply inB_normal | apply inB_ret | apply inB_goto | apply inB_exit | refine inB_exit_ne rfl ?_ | ((first | apply T_srK fw | apply T_regK fw); · ((try simp only [TOps.flat, List.cons_append, List.nil_append]); repeat (first | apply X_g0 | apply X_g | apply S_keep | apply X_skip | apply X_skipN | refine X_call ?_ ⟨_, _, _, _, _, _, rfl, rfl, rfl, by rw [hP]; exact kc⟩ ?_ | apply X_q | apply X_st | apply X_n | apply X_s | apply SKs0 | apply SKs2 | apply SKs1 | refine ⟨⟨rfl, rfl⟩, ?_⟩ | refine ⟨⟨rfl, ?_⟩, ?_⟩ | refine ⟨?_, ?_⟩ | (· (try simp only [go_sem, seval, reduceIte, ↓reduceIte, Bool.not_eq_true, reduceCtorEq, beq_false, beq_true, hn, hP, h1, h2]); first | done | rfl)))) | apply T_seq | apply T_block | refine T_scopeJ 0 rfl ?_ | apply T_scope | apply T_goto | apply T_ret | apply T_skip | apply T_exit | apply T_label | refine T_condT rfl ?_ | refine T_condF rfl ?_ | refine T_condD rfl (fun _ => ?_) (fun _ => ?_) | refine T_cond rfl (fun _ => ?_) (fun _ => ?_))
  apply T_dr fw (by rw [hP]; rfl)
  · simp only [go_sem, seval, reduceIte, ↓reduceIte, bne, beq_false, beq_true, Bool.not_eq_true, Bool.if_true_right, decide_not, reduceCtorEq, hP, all1, h1, h2, w1, c1, c2, t1, t2, t3, t4, t5, hx, hlt, Int.le_refl]
    refine ⟨_, ⟨_, _, _, _, _, _, rfl, rfl, rfl, p_shape_Size _⟩, ?_⟩
    simp only [go_sem, seval, reduceIte, ↓reduceIte, bne, beq_false, beq_true, Bool.not_eq_true, Bool.if_true_right, decide_not, reduceCtorEq, hP, all1, h1, h2, w1, c1, c2, t1, t2, t3, t4, t5, hx, hlt, Int.le_refl]
    refine ⟨_, ⟨_, _, _, _, _, _, rfl, rfl, rfl, p_shape_Size _⟩, ?_⟩
    simp only [go_sem, seval, reduceIte, ↓reduceIte, bne, beq_false, beq_true, Bool.not_eq_true, Bool.if_true_right, decide_not, reduceCtorEq, hP, all1, h1, h2, w1, c1, c2, t1, t2, t3, t4, t5, hx, hlt, Int.le_refl]
    exact rfl
  repeat' (first | apply T_then | apply then_ret | apply then_exit | apply then_goto | apply rnd_exit | apply rnd_ret | apply rnd_goto | apply noGo_normal | apply noGo_ret | apply noGo_exit | apply jmp_normal | apply jmp_ret | apply jmp_exit | apply jmp_goto | apply inB_normal | apply inB_ret | apply inB_goto | apply inB_exit | refine inB_exit_ne rfl ?_ | ((first | apply T_srK fw | apply T_regK fw); · ((try simp only [TOps.flat, List.cons_append, List.nil_append]); repeat (first | apply X_g0 | apply X_g | apply S_keep | apply X_skip | apply X_skipN | apply X_q | apply X_st | apply X_n | apply X_s | apply SKs0 | apply SKs2 | apply SKs1 | refine ⟨⟨rfl, rfl⟩, ?_⟩ | refine ⟨⟨rfl, ?_⟩, ?_⟩ | refine ⟨?_, ?_⟩ | (· (try simp only [go_sem, seval, reduceIte, ↓reduceIte, Bool.not_eq_true, reduceCtorEq, beq_false, beq_true, hn, hP]); first | done | rfl)))) | apply T_seq | apply T_block | refine T_scopeJ 0 rfl ?_ | apply T_scope | apply T_goto | apply T_ret | apply T_skip | apply T_exit | apply T_label | refine T_condT rfl ?_ | refine T_condF rfl ?_ | refine T_condD rfl (fun _ => ?_) (fun _ => ?_) | refine T_cond rfl (fun _ => ?_) (fun _ => ?_))
  exact ends_ret rfl rfl rfl (by simp [lanesF, hc, h1, hx, resD, hlt, show ¬ s.length ≤ n from by omega])

/-- where a lane's number stands -/
def laneAt (S B p i : Nat) : Nat := (p / B * S + i) * B + p % B
theorem p_reduce_lane_at (A S B p i : Nat) (hS : S ≤ 16) (hB : B ≤ 64) (hB0 : 0 < B) (hp : p ≤ 4096) (hi : i ≤ 64) : PureC Try.prog fi_reduce_lane_at [dL A S B, dN p, dN i] (dN (laneAt S B p i)) := by
  refine pure_reduce_lane_at (by simp) fun G hP hn => ?_
  unfold a_reduce_lane_at
  have b0 : ((B : Int) = 0) = False := by simp; omega
  have hq := Nat.div_le_self p B
  have hr : p % B < B := Nat.mod_lt _ hB0
  have qd : IntKind.i64.wrap ((p : Int).tdiv (B : Int)) = ((p / B : Nat) : Int) := by
    rw [Int.tdiv_eq_ediv_of_nonneg (by omega), ← Int.natCast_ediv]
    generalize p / B = q at hq ⊢
    exact wrap_in (by omega) (by omega)
  have qm : (p : Int).tmod (B : Int) = ((p % B : Nat) : Int) := by rw [Int.tmod_eq_emod_of_nonneg (by omega)]; omega
  unfold laneAt
  generalize p / B = q at *
  generalize p % B = r at *
  have m1 : q * S ≤ 4096 * 16 := Nat.mul_le_mul (by omega) hS
  have w1 : IntKind.i64.wrap ((q : Int) * (S : Int)) = ((q * S : Nat) : Int) := by rw [← Int.natCast_mul]; exact wrap_in (by omega) (by omega)
  have w2 : IntKind.i64.wrap (((q * S : Nat) : Int) + (i : Int)) = ((q * S + i : Nat) : Int) := by rw [← Int.natCast_add]; exact wrap_in (by omega) (by omega)
  have m2 : (q * S + i) * B ≤ (4096 * 16 + 64) * 64 := Nat.mul_le_mul (by omega) hB
  have w3 : IntKind.i64.wrap (((q * S + i : Nat) : Int) * (B : Int)) = (((q * S + i) * B : Nat) : Int) := by rw [← Int.natCast_mul]; exact wrap_in (by omega) (by omega)
  have w4 : IntKind.i64.wrap ((((q * S + i) * B : Nat) : Int) + (r : Int)) = (((q * S + i) * B + r : Nat) : Int) := by rw [← Int.natCast_add]; exact wrap_in (by omega) (by omega)
  repeat' (first | apply T_then | apply then_ret | apply then_exit | apply then_goto | apply rnd_exit | apply rnd_ret | apply rnd_goto | apply noGo_normal | apply noGo_ret | apply noGo_exit | apply jmp_normal | apply jmp_ret | apply jmp_exit | apply jmp_goto | apply inB_normal | apply inB_ret | apply inB_goto | apply inB_exit | refine inB_exit_ne rfl ?_ | ((first | apply T_srK fw | apply T_regK fw); · ((try simp only [TOps.flat, List.cons_append, List.nil_append]); repeat (first | apply X_g0 | apply X_g | apply S_keep | apply X_skip | apply X_skipN | apply X_q | apply X_st | apply X_n | apply X_s | apply SKs0 | apply SKs2 | apply SKs1 | refine ⟨⟨rfl, rfl⟩, ?_⟩ | refine ⟨⟨rfl, ?_⟩, ?_⟩ | refine ⟨?_, ?_⟩ | (· (try simp only [go_sem, seval, reduceIte, ↓reduceIte, Bool.not_eq_true, reduceCtorEq, beq_false, beq_true, hn, hP, b0, qd, qm, w1, w2, w3, w4]); first | done | rfl)))) | ((first | apply T_sdF fw (by rw [hP]; rfl) (by decide +kernel) | apply T_drF fw (by rw [hP]; rfl) (by decide +kernel)); · ((try simp only [TOps.flat, List.cons_append, List.nil_append]); repeat (first | apply Y_g0 | apply Y_g | apply Y_skip | apply Y_q | refine RunF_nil (P := G.P) ?_ | (· (try simp only [go_sem, seval, reduceIte, ↓reduceIte, Bool.not_eq_true, reduceCtorEq, beq_false, beq_true, hn, hP, b0, qd, qm, w1, w2, w3, w4]); first | done | rfl)))) | apply T_seq | apply T_block | refine T_scopeJ 0 rfl ?_ | apply T_scope | apply T_goto | apply T_ret | apply T_skip | apply T_exit | apply T_label | refine T_condT rfl ?_ | refine T_condF rfl ?_ | refine T_condD rfl (fun _ => ?_) (fun _ => ?_) | refine T_cond rfl (fun _ => ?_) (fun _ => ?_))
  exact ends_ret rfl rfl rfl rfl

theorem p_reduce_none (n : Int) : PureC Try.prog fi_reduce_none [dN n] (dN 0) := by
  refine pure_reduce_none (by simp) fun G hP hn => ?_
  unfold a_reduce_none
  repeat' (first | apply T_then | apply then_ret | apply then_exit | apply then_goto | apply rnd_exit | apply rnd_ret | apply rnd_goto | apply noGo_normal | apply noGo_ret | apply noGo_exit | apply jmp_normal | apply jmp_ret | apply jmp_exit | apply jmp_goto | apply inB_normal | apply inB_ret | apply inB_goto | apply inB_exit | refine inB_exit_ne rfl ?_ | ((first | apply T_srK fw | apply T_regK fw); · ((try simp only [TOps.flat, List.cons_append, List.nil_append]); repeat (first | apply X_g0 | apply X_g | apply S_keep | apply X_skip | apply X_skipN | apply X_q | apply X_st | apply X_n | apply X_s | apply SKs0 | apply SKs2 | apply SKs1 | refine ⟨⟨rfl, rfl⟩, ?_⟩ | refine ⟨⟨rfl, ?_⟩, ?_⟩ | refine ⟨?_, ?_⟩ | (· (try simp only [go_sem, seval, reduceIte, ↓reduceIte, Bool.not_eq_true, reduceCtorEq, beq_false, beq_true, hn, hP]); first | done | rfl)))) | apply T_seq | apply T_block | refine T_scopeJ 0 rfl ?_ | apply T_scope | apply T_goto | apply T_ret | apply T_skip | apply T_exit | apply T_label | refine T_condT rfl ?_ | refine T_condF rfl ?_ | refine T_condD rfl (fun _ => ?_) (fun _ => ?_) | refine T_cond rfl (fun _ => ?_) (fun _ => ?_))
  exact ends_ret rfl rfl rfl rfl
theorem p_reduce_done (n k : Int) : PureC Try.prog fi_reduce_done [dN n, dN k] (dNE (n, 0)) := by
  refine pure_reduce_done (by simp) fun G hP hn => ?_
  unfold a_reduce_done
  repeat' (first | apply T_then | apply then_ret | apply then_exit | apply then_goto | apply rnd_exit | apply rnd_ret | apply rnd_goto | apply noGo_normal | apply noGo_ret | apply noGo_exit | apply jmp_normal | apply jmp_ret | apply jmp_exit | apply jmp_goto | apply inB_normal | apply inB_ret | apply inB_goto | apply inB_exit | refine inB_exit_ne rfl ?_ | ((first | apply T_srK fw | apply T_regK fw); · ((try simp only [TOps.flat, List.cons_append, List.nil_append]); repeat (first | apply X_g0 | apply X_g | apply S_keep | apply X_skip | apply X_skipN | apply X_q | apply X_st | apply X_n | apply X_s | apply SKs0 | apply SKs2 | apply SKs1 | refine ⟨⟨rfl, rfl⟩, ?_⟩ | refine ⟨⟨rfl, ?_⟩, ?_⟩ | refine ⟨?_, ?_⟩ | (· (try simp only [go_sem, seval, reduceIte, ↓reduceIte, Bool.not_eq_true, reduceCtorEq, beq_false, beq_true, hn, hP]); first | done | rfl)))) | apply T_seq | apply T_block | refine T_scopeJ 0 rfl ?_ | apply T_scope | apply T_goto | apply T_ret | apply T_skip | apply T_exit | apply T_label | refine T_condT rfl ?_ | refine T_condF rfl ?_ | refine T_condD rfl (fun _ => ?_) (fun _ => ?_) | refine T_cond rfl (fun _ => ?_) (fun _ => ?_))
  exact ends_ret rfl rfl rfl rfl
end Go.AM

namespace Go.AM
open Go Go.Proofs
set_option maxRecDepth 100000
set_option maxHeartbeats 4000000
set_option linter.unusedSimpArgs false
set_option linter.unusedVariables false

theorem m_slices_Delete {s : List Int} {n : Nat} (h : n < s.length) (hs : s.length ≤ 64) : MutC Try.prog fi_slices_Delete_int_int [.one (.msl 5 0 1 s.length none), .one (.p (.int .i64 n)), .one (.p (.int .i64 ((n + 1 : Nat) : Int)))] [(5, .arr true 1 (rI s))]
    (.one (.msl 5 0 1 (s.length - 1) none)) [(5, .arr true 1 (rI (s.eraseIdx n ++ [0])))] [] := by
  refine mut_slices_Delete_int_int (by simp) fun G ex hP hn hfr => ?_
  unfold a_slices_Delete_int_int
  by_cases h1 : s.length = 1
  · obtain ⟨x, rfl⟩ : ∃ x, s = [x] := match s, h1 with | [x], _ => ⟨x, rfl⟩
    obtain rfl : n = 0 := by simpa using h
    have hM : (0 : Nat) ≤ MaxN := Nat.zero_le _
    have e0 : ((0 : Int) == 1) = false := rfl
    repeat' (first | apply T_then | apply then_ret | apply then_exit | apply then_goto | apply rnd_exit | apply rnd_ret | apply rnd_goto | apply noGo_normal | apply noGo_ret | apply noGo_exit | apply jmp_normal | apply jmp_ret | apply jmp_exit | apply jmp_goto | apply inB_normal | apply inB_ret | apply inB_goto | apply inB_exit | refine inB_exit_ne rfl ?_ | ((first | apply T_srK fw | apply T_regK fw); · ((try simp only [TOps.flat, List.cons_append, List.nil_append]); repeat (first | apply X_g0 | apply X_g | apply S_keep | apply X_skip | apply X_skipN | apply X_q | apply X_st | apply X_n | apply X_s | apply SKs0 | apply SKs2 | apply SKs1 | refine ⟨⟨rfl, rfl⟩, ?_⟩ | refine ⟨⟨rfl, ?_⟩, ?_⟩ | refine ⟨?_, ?_⟩ | (· (try simp only [go_sem, seval, reduceIte, ↓reduceIte, Bool.not_eq_true, reduceCtorEq, beq_false, beq_true, hn, hP, e0, hM, Nat.le_refl, Int.le_refl]); first | done | rfl)))) | apply T_seq | apply T_block | refine T_scopeJ 0 rfl ?_ | apply T_scope | apply T_goto | apply T_ret | apply T_skip | apply T_exit | apply T_label | refine T_condT rfl ?_ | refine T_condF rfl ?_ | refine T_condD rfl (fun _ => ?_) (fun _ => ?_) | refine T_cond rfl (fun _ => ?_) (fun _ => ?_))
    apply T_dr fw (by rw [hP]; rfl)
    · simp only [go_sem, seval, reduceIte, ↓reduceIte, bne, beq_false, beq_true, Bool.not_eq_true, Bool.if_true_right, decide_not, reduceCtorEq, hP, e0, hM, all1, Nat.le_refl, Int.le_refl]
      exact rfl
    repeat' (first | apply T_then | apply then_ret | apply then_exit | apply then_goto | apply rnd_exit | apply rnd_ret | apply rnd_goto | apply noGo_normal | apply noGo_ret | apply noGo_exit | apply jmp_normal | apply jmp_ret | apply jmp_exit | apply jmp_goto | apply inB_normal | apply inB_ret | apply inB_goto | apply inB_exit | refine inB_exit_ne rfl ?_ | ((first | apply T_srK fw | apply T_regK fw); · ((try simp only [TOps.flat, List.cons_append, List.nil_append]); repeat (first | apply X_g0 | apply X_g | apply S_keep | apply X_skip | apply X_skipN | apply X_q | apply X_st | apply X_n | apply X_s | apply SKs0 | apply SKs2 | apply SKs1 | refine ⟨⟨rfl, rfl⟩, ?_⟩ | refine ⟨⟨rfl, ?_⟩, ?_⟩ | refine ⟨?_, ?_⟩ | (· (try simp only [go_sem, seval, reduceIte, ↓reduceIte, Bool.not_eq_true, reduceCtorEq, beq_false, beq_true, hn, hP, e0, hM, Nat.le_refl, Int.le_refl]); first | done | rfl)))) | apply T_seq | apply T_block | refine T_scopeJ 0 rfl ?_ | apply T_scope | apply T_goto | apply T_ret | apply T_skip | apply T_exit | apply T_label | refine T_condT rfl ?_ | refine T_condF rfl ?_ | refine T_condD rfl (fun _ => ?_) (fun _ => ?_) | refine T_cond rfl (fun _ => ?_) (fun _ => ?_))
    refine endsM_ret rfl rfl rfl (fun p hp => ?_) rfl
    simp only [List.mem_cons, List.not_mem_nil, or_false] at hp
    rcases hp with rfl
    rfl
  have c13 : ¬ s.length - 1 = 0 := by omega
  have c14 : s.length - 1 < s.length := by omega
  have c1 : (n : Int) ≤ ((n + 1 : Nat) : Int) := by omega
  have c2 : ((n + 1 : Nat) : Int) ≤ s.length := by omega
  have c2' : n + 1 ≤ s.length := by omega
  have c3 : (n : Int) ≤ s.length := by omega
  have c3' : n ≤ s.length := by omega
  have e0 : ((n : Int) == ((n + 1 : Nat) : Int)) = false := by simp; omega
  have t0 : (s.length : Int).toNat = s.length := rfl
  have t1 := rI_take s n
  have t2 := rI_drop s (n + 1)
  have t5 : List.take (s.length - (n + 1)) (rI (List.drop (n + 1) s)) = rI (List.drop (n + 1) s) := List.take_of_length_le (by simp)
  have c4 : ¬ n = s.length := by omega
  have c5 : n + 1 + (s.length - (n + 1)) = s.length := by omega
  have c6 : n + (s.length - (n + 1)) ≤ s.length := by omega
  repeat' (first | apply T_then | apply then_ret | apply then_exit | apply then_goto | apply rnd_exit | apply rnd_ret | apply rnd_goto | apply noGo_normal | apply noGo_ret | apply noGo_exit | apply jmp_normal | apply jmp_ret | apply jmp_exit | apply jmp_goto | apply inB_normal | apply inB_ret | apply inB_goto | apply inB_exit | refine inB_exit_ne rfl ?_ | ((first | apply T_srK fw | apply T_regK fw); · ((try simp only [TOps.flat, List.cons_append, List.nil_append]); repeat (first | apply X_g0 | apply X_g | apply S_keep | apply X_skip | apply X_skipN | apply X_q | apply X_st | apply X_n | apply X_s | apply SKs0 | apply SKs2 | apply SKs1 | refine ⟨⟨rfl, rfl⟩, ?_⟩ | refine ⟨⟨rfl, ?_⟩, ?_⟩ | refine ⟨?_, ?_⟩ | (· (try simp only [go_sem, seval, reduceIte, ↓reduceIte, Bool.not_eq_true, reduceCtorEq, beq_false, beq_true, hn, hP, c1, c2, c3, e0, t0, Nat.le_refl, Int.le_refl]); first | done | rfl)))) | apply T_seq | apply T_block | refine T_scopeJ 0 rfl ?_ | apply T_scope | apply T_goto | apply T_ret | apply T_skip | apply T_exit | apply T_label | refine T_condT rfl ?_ | refine T_condF rfl ?_ | refine T_condD rfl (fun _ => ?_) (fun _ => ?_) | refine T_cond rfl (fun _ => ?_) (fun _ => ?_))
  have hM : MaxN = 140737488355328 := rfl
  have c8 : s.length - 1 ≤ MaxN := by omega
  have c8' : n ≤ MaxN := by omega
  have c9 : n + (s.length - (n + 1)) = s.length - 1 := by omega
  have c10 : s.length - 1 ≤ s.length := by omega
  have e3 : rI (List.take n s) ++ rI (List.drop (n + 1) s) ++ List.drop (s.length - 1) (rI s) = rI (s.eraseIdx n ++ s.drop (s.length - 1)) := by
    rw [rI_drop, List.eraseIdx_eq_take_drop_succ]; simp
  have g1 : (s.eraseIdx n ++ s.drop (s.length - 1)).length = s.length := by rw [List.length_append, List.length_eraseIdx_of_lt h, List.length_drop]; omega
  have g2 : s.length - (s.length - 1) = 1 := by omega
  have g3 : s.length - 1 + 1 = s.length := by omega
  have c11 : ((s.length - 1 : Nat) : Int) ≤ s.length := by omega
  have c12 : ¬ s.length - 1 = s.length := by omega
  have e4 : List.take (s.length - 1) (rI (s.eraseIdx n ++ s.drop (s.length - 1))) ++ [[PV.int .i64 0]] ++ List.drop (s.length - 1 + 1) (rI (s.eraseIdx n ++ s.drop (s.length - 1))) = rI (s.eraseIdx n ++ [0]) := by
    have d1 : List.drop (s.length - 1 + 1) (rI (s.eraseIdx n ++ s.drop (s.length - 1))) = [] := List.drop_of_length_le (by rw [List.length_map, g1]; omega)
    rw [d1, List.append_nil, rI_take, List.take_append_of_le_length (by rw [List.length_eraseIdx_of_lt h]; omega), List.take_of_length_le (by rw [List.length_eraseIdx_of_lt h]; omega)]
    simp
  generalize hR : s.eraseIdx n ++ s.drop (s.length - 1) = R at *
  by_cases c7 : n + 1 < s.length
  · apply T_dr fw (by rw [hP]; rfl)
    · simp only [go_sem, seval, reduceIte, ↓reduceIte, bne, beq_false, beq_true, Bool.not_eq_true, Bool.if_true_right, decide_not, reduceCtorEq, hP, all1, c1, c2, c2', c3, c3', c4, c5, c7, c8, c8', c9, c10, List.length_drop, e0, t0, t1, t2, t5, Nat.le_refl, Int.le_refl]
      exact rfl
    apply T_then
    refine T_weak (s' := { env := [(0, .one (.msl 5 0 1 (s.length - 1) none)), (7, .one (.p (.int .i64 s.length)))], σ := [(5, .arr true 1 (rI R))], ex := ex }) ?_ ?_
    · exact Weak.sub fun p hp => by
        simp only [List.mem_cons, List.not_mem_nil, or_false] at hp
        rcases hp with rfl
        rw [← e3]; rfl
    repeat' (first | apply T_then | apply then_ret | apply then_exit | apply then_goto | apply rnd_exit | apply rnd_ret | apply rnd_goto | apply noGo_normal | apply noGo_ret | apply noGo_exit | apply jmp_normal | apply jmp_ret | apply jmp_exit | apply jmp_goto | apply inB_normal | apply inB_ret | apply inB_goto | apply inB_exit | refine inB_exit_ne rfl ?_ | ((first | apply T_srK fw | apply T_regK fw); · ((try simp only [TOps.flat, List.cons_append, List.nil_append]); repeat (first | apply X_g0 | apply X_g | apply S_keep | apply X_skip | apply X_skipN | apply X_q | apply X_st | apply X_n | apply X_s | apply SKs0 | apply SKs2 | apply SKs1 | refine ⟨⟨rfl, rfl⟩, ?_⟩ | refine ⟨⟨rfl, ?_⟩, ?_⟩ | refine ⟨?_, ?_⟩ | (· (try simp only [go_sem, seval, reduceIte, ↓reduceIte, Bool.not_eq_true, reduceCtorEq, beq_false, beq_true, hn, hP, c8, c10, c11, c12, c13, c14, g1, g2, g3, t0, Nat.le_refl, Int.le_refl]); first | done | rfl)))) | apply T_seq | apply T_block | refine T_scopeJ 0 rfl ?_ | apply T_scope | apply T_goto | apply T_ret | apply T_skip | apply T_exit | apply T_label | refine T_condT rfl ?_ | refine T_condF rfl ?_ | refine T_condD rfl (fun _ => ?_) (fun _ => ?_) | refine T_cond rfl (fun _ => ?_) (fun _ => ?_))
    refine endsM_ret rfl rfl rfl (fun p hp => ?_) rfl
    simp only [List.mem_cons, List.not_mem_nil, or_false] at hp
    rcases hp with rfl
    rw [g3] at e4
    exact congrArg (AO.arr true 1) e4
  · apply T_dr fw (by rw [hP]; rfl)
    · simp only [go_sem, seval, reduceIte, ↓reduceIte, bne, beq_false, beq_true, Bool.not_eq_true, Bool.if_true_right, decide_not, reduceCtorEq, hP, all1, c1, c2, c2', c3, c3', c4, c5, c7, c8, c8', c9, c10, List.length_drop, e0, t0, t1, t2, t5, Nat.le_refl, Int.le_refl]
      exact rfl
    apply T_then
    refine T_weak (s' := { env := [(0, .one (.msl 5 0 1 (s.length - 1) none)), (7, .one (.p (.int .i64 s.length)))], σ := [(5, .arr true 1 (rI R))], ex := ex }) ?_ ?_
    · have hn1 : n = s.length - 1 := by omega
      rw [← e3, ← hn1, List.drop_of_length_le (l := s) (by omega)]
      exact Weak.sub fun p hp => by
        simp only [List.mem_cons, List.not_mem_nil, or_false] at hp
        rcases hp with rfl
        simp [lo]
    repeat' (first | apply T_then | apply then_ret | apply then_exit | apply then_goto | apply rnd_exit | apply rnd_ret | apply rnd_goto | apply noGo_normal | apply noGo_ret | apply noGo_exit | apply jmp_normal | apply jmp_ret | apply jmp_exit | apply jmp_goto | apply inB_normal | apply inB_ret | apply inB_goto | apply inB_exit | refine inB_exit_ne rfl ?_ | ((first | apply T_srK fw | apply T_regK fw); · ((try simp only [TOps.flat, List.cons_append, List.nil_append]); repeat (first | apply X_g0 | apply X_g | apply S_keep | apply X_skip | apply X_skipN | apply X_q | apply X_st | apply X_n | apply X_s | apply SKs0 | apply SKs2 | apply SKs1 | refine ⟨⟨rfl, rfl⟩, ?_⟩ | refine ⟨⟨rfl, ?_⟩, ?_⟩ | refine ⟨?_, ?_⟩ | (· (try simp only [go_sem, seval, reduceIte, ↓reduceIte, Bool.not_eq_true, reduceCtorEq, beq_false, beq_true, hn, hP, c8, c10, c11, c12, c13, c14, g1, g2, g3, t0, Nat.le_refl, Int.le_refl]); first | done | rfl)))) | apply T_seq | apply T_block | refine T_scopeJ 0 rfl ?_ | apply T_scope | apply T_goto | apply T_ret | apply T_skip | apply T_exit | apply T_label | refine T_condT rfl ?_ | refine T_condF rfl ?_ | refine T_condD rfl (fun _ => ?_) (fun _ => ?_) | refine T_cond rfl (fun _ => ?_) (fun _ => ?_))
    refine endsM_ret rfl rfl rfl (fun p hp => ?_) rfl
    simp only [List.mem_cons, List.not_mem_nil, or_false] at hp
    rcases hp with rfl
    rw [g3] at e4
    exact congrArg (AO.arr true 1) e4
end Go.AM

namespace Go.AM
open Go Go.Proofs
set_option maxRecDepth 100000
set_option maxHeartbeats 4000000
set_option linter.unusedSimpArgs false
set_option linter.unusedVariables false

theorem toD_take {n t k len : Nat} {cap : Option Nat} {σ : Sto} {m : Bool} {rows : List (List PV)} (h2 : lo σ t = .arr m k rows) (hl : len ≤ rows.length) :
    toP (n + 1) (.msl t 0 k len cap) σ = some (.sl (rows.take len), if m then (t, .arr false k rows) :: σ else σ) := by
  simp only [toP, h2]
  simp [hl]
theorem ends_twoT {rv : List RV} {s : AS} {t1 t2 k1 k2 l1 l2 : Nat} {cap1 cap2 : Option Nat} {rows1 rows2 : List (List PV)} {tl : List AV} {ds : List DV} {r : DV} (hne : t1 ≠ t2)
    (h1 : evRV rv s.env s.σ = some (.agg [.msl t1 0 k1 l1 cap1, .msl t2 0 k2 l2 cap2] :: tl)) (h2 : lo s.σ t1 = .arr true k1 rows1) (h3 : lo s.σ t2 = .arr true k2 rows2) (hl1 : l1 ≤ rows1.length) (hl2 : l2 ≤ rows2.length)
    (ht : (tl = [] ∧ ds = []) ∨ ∃ v, tl = [.one (.p v)] ∧ ds = [.one v]) (hr : r = resD (.agg [.sl (rows1.take l1), .sl (rows2.take l2)] :: ds)) :
    Ends rv r .ret s := by
  have h4 : foldP (toP 6) [.msl t1 0 k1 l1 cap1, .msl t2 0 k2 l2 cap2] s.σ = some ([.sl (rows1.take l1), .sl (rows2.take l2)], (t2, .arr false k2 rows2) :: (t1, .arr false k1 rows1) :: s.σ) := by
    have e1 := toD_take (n := 5) (cap := cap1) h2 hl1
    have e2 := toD_take (n := 5) (cap := cap2) (σ := (t1, .arr false k1 rows1) :: s.σ) (t := t2) (k := k2) (rows := rows2) (m := true) (by rw [← h3]; simp [lo, hne.symm]) hl2
    simp only [if_true] at e1 e2
    simp only [foldP, e1, e2]
  rcases ht with ⟨rfl, rfl⟩ | ⟨v, rfl, rfl⟩
  · exact ends_ret (ds := [.agg [.sl (rows1.take l1), .sl (rows2.take l2)]]) (σ' := (t2, .arr false k2 rows2) :: (t1, .arr false k1 rows1) :: s.σ) h1 (by simp only [toDs, toD, h4]) rfl hr.symm
  · exact ends_ret (ds := [.agg [.sl (rows1.take l1), .sl (rows2.take l2)], .one v]) (σ' := (t2, .arr false k2 rows2) :: (t1, .arr false k1 rows1) :: s.σ) h1 (by simp only [toDs, toD, h4]; rfl) rfl hr.symm

def foldE (W : Int → Int → Int × Int) (y : Nat → Int) : Nat → Nat → Int → Int × Int
  | 0, _, s => (s, 0)
  | n + 1, k, s => if (W s (y k)).2 = 0 then foldE W y n (k + 1) (W s (y k)).1 else (0, (W s (y k)).2)
def laneR (W E : Int → Int → Int × Int) (F : Int → Int) (S B : Nat) (d : List Int) (p : Nat) : Int × Int :=
  if (foldE W (fun i => gt d (laneAt S B p i)) S 0 (F (gt d (laneAt S B p 0)))).2 = 0 then E (foldE W (fun i => gt d (laneAt S B p i)) S 0 (F (gt d (laneAt S B p 0)))).1 S
  else (0, (foldE W (fun i => gt d (laneAt S B p i)) S 0 (F (gt d (laneAt S B p 0)))).2)
def togetherF (W E : Int → Int → Int × Int) (F : Int → Int) (s d : List Int) (a : Int) : (List Int × List Int) × Int :=
  if checkT s d = true then (if a < 0 ∨ a ≥ s.length then bad 20 else
    (if (coll (laneR W E F ((s[a.toNat]?).getD 0).toNat (sizeS (s.drop (a.toNat + 1))).toNat d) ((sizeS (s.take a.toNat)).toNat * (sizeS (s.drop (a.toNat + 1))).toNat) 0 []).2 = 0 then
      ((s.eraseIdx a.toNat, (coll (laneR W E F ((s[a.toNat]?).getD 0).toNat (sizeS (s.drop (a.toNat + 1))).toNat d) ((sizeS (s.take a.toNat)).toNat * (sizeS (s.drop (a.toNat + 1))).toNat) 0 []).1), 0)
    else bad (coll (laneR W E F ((s[a.toNat]?).getD 0).toNat (sizeS (s.drop (a.toNat + 1))).toNat d) ((sizeS (s.take a.toNat)).toNat * (sizeS (s.drop (a.toNat + 1))).toNat) 0 []).2)) else bad 30

theorem prd_split (s : List Int) {n : Nat} (h : n < s.length) : prd s = prd (s.take n) * (s[n] * prd (s.drop (n + 1))) := by
  have : s = s.take n ++ (s[n] :: s.drop (n + 1)) := by rw [← List.drop_eq_getElem_cons h, List.take_append_drop]
  conv => lhs; rw [this]
  rw [prd_append]; rfl
theorem ShapeOk.take {s : List Int} (h : ShapeOk s) (n : Nat) : ShapeOk (s.take n) := by
  refine ⟨by have := h.1; simp; omega, fun m hm => h.2.1 m (List.mem_of_mem_take hm), ?_⟩
  have h1 : prd s = prd (s.take n) * prd (s.drop n) := by rw [← prd_append, List.take_append_drop]
  have h2 := prd_pos (s := s.drop n) (fun m hm => h.2.1 m (List.mem_of_mem_drop hm))
  have h3 := prd_pos (s := s.take n) (fun m hm => h.2.1 m (List.mem_of_mem_take hm))
  have h4 := h.2.2
  have : prd (s.take n) * 1 ≤ prd (s.take n) * prd (s.drop n) := Int.mul_le_mul_of_nonneg_left h2 (by omega)
  omega
theorem ShapeOk.drop {s : List Int} (h : ShapeOk s) (n : Nat) : ShapeOk (s.drop n) := by
  refine ⟨by have := h.1; simp; omega, fun m hm => h.2.1 m (List.mem_of_mem_drop hm), ?_⟩
  have h1 : prd s = prd (s.take n) * prd (s.drop n) := by rw [← prd_append, List.take_append_drop]
  have h2 := prd_pos (s := s.drop n) (fun m hm => h.2.1 m (List.mem_of_mem_drop hm))
  have h3 := prd_pos (s := s.take n) (fun m hm => h.2.1 m (List.mem_of_mem_take hm))
  have h4 := h.2.2
  have : 1 * prd (s.drop n) ≤ prd (s.take n) * prd (s.drop n) := Int.mul_le_mul_of_nonneg_right h3 (by omega)
  omega

/-- a tensor's lanes -/
structure Lanes (s d : List Int) (n A S B : Nat) : Prop where
  hc : checkT s d = true
  hn : n < s.length
  hA : sizeS (s.take n) = A
  hS : s[n]? = some (S : Int)
  hB : sizeS (s.drop (n + 1)) = B
  a1 : 1 ≤ A
  s1 : 1 ≤ S
  b1 : 1 ≤ B
  s2 : S ≤ 16
  len : d.length = A * S * B
  le : A * S * B ≤ 64
theorem Lanes.of {s d : List Int} {n : Nat} (hc : checkT s d = true) (hn : n < s.length) : ∃ A S B, Lanes s d n A S B := by
  obtain ⟨h1, h2⟩ := checkT_iff.1 hc
  have hA := sizeS_ok (h1.take n)
  have hB := sizeS_ok (h1.drop (n + 1))
  have pA := prd_pos (h1.take n).2.1
  have pB := prd_pos (h1.drop (n + 1)).2.1
  have pS := h1.2.1 _ (List.getElem_mem hn)
  have hp := prd_split s hn
  obtain ⟨A, eA⟩ := Int.eq_ofNat_of_zero_le (by omega : 0 ≤ prd (s.take n))
  obtain ⟨B, eB⟩ := Int.eq_ofNat_of_zero_le (by omega : 0 ≤ prd (s.drop (n + 1)))
  obtain ⟨S, eS⟩ := Int.eq_ofNat_of_zero_le (by omega : 0 ≤ s[n])
  rw [eA, eB, eS] at hp
  have hp2 : prd s = ((A * S * B : Nat) : Int) := by rw [hp]; push_cast; rw [Int.mul_assoc]
  have h3 := h1.2.2
  exact ⟨A, S, B, hc, hn, by rw [hA, eA], by rw [List.getElem?_eq_getElem hn, eS], by rw [hB, eB], by omega, by omega, by omega, by omega, by omega, by omega⟩
theorem Lanes.lt {s d : List Int} {n A S B : Nat} (h : Lanes s d n A S B) {p i : Nat} (hp : p < A * B) (hi : i < S) : laneAt S B p i < d.length := by
  rw [h.len]
  have hb := h.b1
  have h1 : p / B < A := by rw [Nat.div_lt_iff_lt_mul (by omega)]; exact hp
  have h2 : p % B < B := Nat.mod_lt _ (by omega)
  exact row_lt (row_lt h1 hi) h2
theorem Lanes.AB {s d : List Int} {n A S B : Nat} (h : Lanes s d n A S B) : A * B ≤ 64 := by
  have h1 : A * 1 * B ≤ A * S * B := Nat.mul_le_mul_right B (Nat.mul_le_mul_left A h.s1)
  have := h.le
  rw [Nat.mul_one] at h1
  omega
theorem Lanes.B64 {s d : List Int} {n A S B : Nat} (h : Lanes s d n A S B) : B ≤ 64 := by
  have h1 : 1 * B ≤ A * B := Nat.mul_le_mul_right B h.a1
  have := h.AB
  omega

theorem p_reduce_together {gw ge gf : FuncId} {W E : Int → Int → Int × Int} {F : Int → Int} (hW : ∀ a b, I64 a → I64 b → PureC Try.prog gw [dN a, dN b] (dNE (W a b))) (hWr : ∀ a b, I64 a → I64 b → I64 (W a b).1)
    (hE : ∀ (a : Int) (S : Nat), I64 a → 1 ≤ S → S ≤ 16 → PureC Try.prog ge [dN a, dN S] (dNE (E a S))) (hF : ∀ a, I64 a → PureC Try.prog gf [dN a] (dN (F a))) (hFr : ∀ a, I64 a → I64 (F a))
    (s d : List Int) (a : Int) (hd : I64s d) :
    PureC Try.prog fi_reduce_together [dT s d, dN a, .agg [.fn gw [] [], .fn ge [] []], .one (.fn gf [] [])] (dTE (togetherF W E F s d a)) := by
  refine pure_reduce_together (by simp) fun G hP hn => ?_
  unfold a_reduce_together
  have kl := p_reduce_lanes s d a
  cases hc : checkT s d
  · have hl : lanesF s d a = ((0, 0, 0), 30) := by unfold lanesF; rw [if_neg (by simp [hc])]
    have hf : togetherF W E F s d a = bad 30 := by unfold togetherF; rw [if_neg (by simp [hc])]
    rw [hl] at kl
    repeat' (first | apply T_then | apply then_ret | apply then_exit | apply then_goto | apply rnd_exit | apply rnd_ret | apply rnd_goto | apply noGo_normal | apply noGo_ret | apply noGo_exit | apply jmp_normal | apply jmp_ret | apply jmp_exit | apply jmp_goto | apply inB_normal | apply inB_ret | apply inB_goto | apply inB_exit | refine inB_exit_ne rfl ?_ | ((first | apply T_srK fw | apply T_regK fw); · ((try simp only [TOps.flat, List.cons_append, List.nil_append]); repeat (first | apply X_g0 | apply X_g | apply S_keep | apply X_skip | apply X_skipN | refine X_call ?_ ⟨_, _, _, _, _, _, rfl, rfl, rfl, by rw [hP]; exact kl⟩ ?_ | apply X_q | apply X_st | apply X_n | apply X_s | apply SKs0 | apply SKs2 | apply SKs1 | refine ⟨⟨rfl, rfl⟩, ?_⟩ | refine ⟨⟨rfl, ?_⟩, ?_⟩ | refine ⟨?_, ?_⟩ | (· (try simp only [go_sem, seval, reduceIte, ↓reduceIte, Bool.not_eq_true, reduceCtorEq, beq_false, beq_true, hn, hP]); first | done | rfl)))) | apply T_seq | apply T_block | refine T_scopeJ 0 rfl ?_ | apply T_scope | apply T_goto | apply T_ret | apply T_skip | apply T_exit | apply T_label | refine T_condT rfl ?_ | refine T_condF rfl ?_ | refine T_condD rfl (fun _ => ?_) (fun _ => ?_) | refine T_cond rfl (fun _ => ?_) (fun _ => ?_))
    exact ends_ret rfl rfl rfl (by rw [hf]; rfl)
  by_cases ha : a < 0 ∨ a ≥ s.length
  · have hl : lanesF s d a = ((0, 0, 0), 20) := by unfold lanesF; rw [if_pos hc, if_pos ha]
    have hf : togetherF W E F s d a = bad 20 := by unfold togetherF; rw [if_pos hc, if_pos ha]
    rw [hl] at kl
    repeat' (first | apply T_then | apply then_ret | apply then_exit | apply then_goto | apply rnd_exit | apply rnd_ret | apply rnd_goto | apply noGo_normal | apply noGo_ret | apply noGo_exit | apply jmp_normal | apply jmp_ret | apply jmp_exit | apply jmp_goto | apply inB_normal | apply inB_ret | apply inB_goto | apply inB_exit | refine inB_exit_ne rfl ?_ | ((first | apply T_srK fw | apply T_regK fw); · ((try simp only [TOps.flat, List.cons_append, List.nil_append]); repeat (first | apply X_g0 | apply X_g | apply S_keep | apply X_skip | apply X_skipN | refine X_call ?_ ⟨_, _, _, _, _, _, rfl, rfl, rfl, by rw [hP]; exact kl⟩ ?_ | apply X_q | apply X_st | apply X_n | apply X_s | apply SKs0 | apply SKs2 | apply SKs1 | refine ⟨⟨rfl, rfl⟩, ?_⟩ | refine ⟨⟨rfl, ?_⟩, ?_⟩ | refine ⟨?_, ?_⟩ | (· (try simp only [go_sem, seval, reduceIte, ↓reduceIte, Bool.not_eq_true, reduceCtorEq, beq_false, beq_true, hn, hP]); first | done | rfl)))) | apply T_seq | apply T_block | refine T_scopeJ 0 rfl ?_ | apply T_scope | apply T_goto | apply T_ret | apply T_skip | apply T_exit | apply T_label | refine T_condT rfl ?_ | refine T_condF rfl ?_ | refine T_condD rfl (fun _ => ?_) (fun _ => ?_) | refine T_cond rfl (fun _ => ?_) (fun _ => ?_))
    exact ends_ret rfl rfl rfl (by rw [hf]; rfl)
  obtain ⟨n, rfl⟩ := Int.eq_ofNat_of_zero_le (by omega : 0 ≤ a)
  have hlt : n < s.length := by omega
  obtain ⟨A, S, B, L⟩ := Lanes.of hc hlt
  have hl : lanesF s d n = (((A : Int), (S : Int), (B : Int)), 0) := by
    unfold lanesF; rw [if_pos hc, if_neg ha]; simp only [Int.toNat_natCast, L.hA, L.hB, L.hS, Option.getD_some]
  rw [hl] at kl
  have hlen := check_len (checkS_iff.2 (checkT_iff.1 hc).1)
  have kC := m_slices_Clone s (by omega)
  have kD := m_slices_Delete hlt (by omega)
  have w1 : IntKind.i64.wrap ((n : Int) + 1) = ((n + 1 : Nat) : Int) := by rw [wrap_in (by omega) (by omega)]; rfl
  have hAB := L.AB
  have w2 : IntKind.i64.wrap ((A : Int) * (B : Int)) = ((A * B : Nat) : Int) := by rw [← Int.natCast_mul]; exact wrap_in (by omega) (by omega)
  repeat' (first | apply T_then | apply then_ret | apply then_exit | apply then_goto | apply rnd_exit | apply rnd_ret | apply rnd_goto | apply noGo_normal | apply noGo_ret | apply noGo_exit | apply jmp_normal | apply jmp_ret | apply jmp_exit | apply jmp_goto | apply inB_normal | apply inB_ret | apply inB_goto | apply inB_exit | refine inB_exit_ne rfl ?_ | ((first | apply T_srK fw | apply T_regK fw); · ((try simp only [TOps.flat, List.cons_append, List.nil_append]); repeat (first | apply X_g0 | apply X_g | apply S_keep | apply X_skip | apply X_skipN | refine X_call ?_ ⟨_, _, _, _, _, _, rfl, rfl, rfl, by rw [hP]; exact kl⟩ ?_ | refine X_callM ?_ (callM_mk rfl rfl (by rw [hP]; exact kC) (by simp [lo]) (by simp) (by simp [AS.nr, AV.has, AC.has, AC.has.hasL, AO.nr, lo, DV.av] <;> assumption)) ?_ | refine X_callM ?_ (callM_mk rfl rfl (by rw [hP]; exact kD) (by simp [lo]) (by simp) (by simp [AS.nr, AV.has, AC.has, AC.has.hasL, AO.nr, lo, DV.av] <;> assumption)) ?_ | apply X_q | apply X_st | apply X_n | apply X_s | apply SKs0 | apply SKs2 | apply SKs1 | refine ⟨⟨rfl, rfl⟩, ?_⟩ | refine ⟨⟨rfl, ?_⟩, ?_⟩ | refine ⟨?_, ?_⟩ | (· (try simp only [go_sem, seval, reduceIte, ↓reduceIte, Bool.not_eq_true, reduceCtorEq, beq_false, beq_true, hn, hP, w1, w2]); first | done | rfl)))) | apply T_seq | apply T_block | refine T_scopeJ 0 rfl ?_ | apply T_scope | apply T_goto | apply T_ret | apply T_skip | apply T_exit | apply T_label | refine T_condT rfl ?_ | refine T_condF rfl ?_ | refine T_condD rfl (fun _ => ?_) (fun _ => ?_) | refine T_cond rfl (fun _ => ?_) (fun _ => ?_))
  have htog : togetherF W E F s d n = if (coll (laneR W E F S B d) (A * B) 0 []).2 = 0 then ((s.eraseIdx n, (coll (laneR W E F S B d) (A * B) 0 []).1), 0) else bad (coll (laneR W E F S B d) (A * B) 0 []).2 := by
    unfold togetherF
    rw [if_pos hc, if_neg ha]
    simp only [Int.toNat_natCast, L.hA, L.hB, L.hS, Option.getD_some]
  have fin2 : ∀ er : Int, coll (laneR W E F S B d) (A * B) 0 [] = ([], er) → er ≠ 0 → togetherF W E F s d n = bad er := fun er h1 h2 => by rw [htog, h1]; exact if_neg h2
  refine T_weak (Weak.nilC 12 100 1 1 rfl rfl rfl rfl) ?_
  refine T_for (A * B) (fun p acc => { env := [(3, .one (.p (.fn gf [] []))), (4, .one (.ptr 4 0 2 0)), (6, .one (.ptr 6 0 2 0)), (8, .one (.ptr 8 0 2 0)), (10, .one (.ptr 10 0 3 0)), (12, .one (.ptr 12 0 2 0)), (38, .one (.p (.int .i64 ((A * B : Nat) : Int)))), (39, .one (.p (.int .i64 p)))], σ := [(4, .cells true [.p (eI s), .p (eI d)]), (6, .cells true [.p (.fn gw [] []), .p (.fn ge [] [])]), (8, .cells true [.nils, .nils]), (10, .cells true [.p (.int .i64 A), .p (.int .i64 S), .p (.int .i64 B)]), (12, .cells true [.msl 5 0 1 (s.length - 1) none, .msl 100 0 1 p none]), (5, .arr true 1 (rI (s.eraseIdx n ++ [0]))), (100, .arr true 1 (rI acc))] })
    (fun p acc => acc.length = p ∧ coll (laneR W E F S B d) (A * B - p) p acc = coll (laneR W E F S B d) (A * B) 0 []) [] ⟨rfl, rfl⟩ ?_ fun p acc hp hinv => ?_
  · refine Weak.sub fun q hq => ?_
    simp only [List.mem_cons, List.not_mem_nil, or_false] at hq
    rcases hq with rfl | rfl | rfl | rfl | rfl | rfl | rfl <;> rfl
  obtain ⟨hal, hcol⟩ := hinv
  have hs16 := L.s2
  have hb64 := L.B64
  have hb1 := L.b1
  have hs1 := L.s1
  by_cases hlt2 : p < A * B
  rotate_left
  · have c1 : ¬ (p : Int) < ((A * B : Nat) : Int) := by omega
    have hpe : p = A * B := by omega
    rw [hpe, Nat.sub_self] at hcol
    simp only [coll] at hcol
    repeat' (first | apply T_then | apply then_ret | apply then_exit | apply then_goto | apply rnd_exit | apply rnd_ret | apply rnd_goto | apply noGo_normal | apply noGo_ret | apply noGo_exit | apply jmp_normal | apply jmp_ret | apply jmp_exit | apply jmp_goto | apply inB_normal | apply inB_ret | apply inB_goto | apply inB_exit | refine inB_exit_ne rfl ?_ | ((first | apply T_srK fw | apply T_regK fw); · ((try simp only [TOps.flat, List.cons_append, List.nil_append]); repeat (first | apply X_g0 | apply X_g | apply S_keep | apply X_skip | apply X_skipN | apply X_q | apply X_st | apply X_n | apply X_s | apply SKs0 | apply SKs2 | apply SKs1 | refine ⟨⟨rfl, rfl⟩, ?_⟩ | refine ⟨⟨rfl, ?_⟩, ?_⟩ | refine ⟨?_, ?_⟩ | (· (try simp only [go_sem, seval, reduceIte, ↓reduceIte, Bool.not_eq_true, reduceCtorEq, beq_false, beq_true, hn, hP, c1]); first | done | rfl)))) | apply T_seq | apply T_block | refine T_scopeJ 0 rfl ?_ | apply T_scope | apply T_goto | apply T_ret | apply T_skip | apply T_exit | apply T_label | refine T_condT rfl ?_ | refine T_condF rfl ?_ | refine T_condD rfl (fun _ => ?_) (fun _ => ?_) | refine T_cond rfl (fun _ => ?_) (fun _ => ?_))
    refine ends_twoT (t1 := 5) (t2 := 100) (by decide) rfl rfl rfl (by rw [List.length_map, List.length_append, List.length_eraseIdx_of_lt hlt]; simp) (by simp [hal]) (.inr ⟨_, rfl, rfl⟩) ?_
    rw [htog, ← hcol, if_pos rfl]
    have e1 : (rI (s.eraseIdx n ++ [0])).take (s.length - 1) = rI (s.eraseIdx n) := by
      rw [rI_take, List.take_append_of_le_length (by rw [List.length_eraseIdx_of_lt hlt]; omega), List.take_of_length_le (by rw [List.length_eraseIdx_of_lt hlt]; omega)]
    have e2 : (rI acc).take p = rI acc := List.take_of_length_le (by simp [hal])
    rw [e1, e2]; rfl
  have c1 : (p : Int) < ((A * B : Nat) : Int) := by omega
  have w3 : IntKind.i64.wrap ((p : Int) + 1) = ((p + 1 : Nat) : Int) := by rw [wrap_in (by omega) (by omega)]; rfl
  have kat0 : PureC Try.prog fi_reduce_lane_at [dL A S B, dN p, dN 0] (dN (laneAt S B p 0)) := p_reduce_lane_at A S B p 0 hs16 hb64 hb1 (by omega) (by omega)
  have hl0 := L.lt hlt2 (i := 0) (by omega)
  have hx0 : d[laneAt S B p 0]? = some (gt d (laneAt S B p 0)) := by unfold gt; rw [List.getElem?_eq_getElem hl0]; rfl
  have kF := hF (gt d (laneAt S B p 0)) (gt_range hd _)
  have hfr := hFr (gt d (laneAt S B p 0)) (gt_range hd _)
  rw [show A * B - p = (A * B - (p + 1)) + 1 from by omega] at hcol
  simp only [coll] at hcol
  have hlane : laneR W E F S B d p = laneR W E F S B d p := rfl
  conv at hlane => rhs; unfold laneR
  generalize F (gt d (laneAt S B p 0)) = n0 at *
  generalize gt d (laneAt S B p 0) = x0 at *
  repeat' (first | apply T_then | apply then_ret | apply then_exit | apply then_goto | apply rnd_exit | apply rnd_ret | apply rnd_goto | apply noGo_normal | apply noGo_ret | apply noGo_exit | apply jmp_normal | apply jmp_ret | apply jmp_exit | apply jmp_goto | apply inB_normal | apply inB_ret | apply inB_goto | apply inB_exit | refine inB_exit_ne rfl ?_ | ((first | apply T_srK fw | apply T_regK fw); · ((try simp only [TOps.flat, List.cons_append, List.nil_append]); repeat (first | apply X_g0 | apply X_g | apply S_keep | apply X_skip | apply X_skipN | refine X_call ?_ ⟨_, _, _, _, _, _, rfl, rfl, rfl, by rw [hP]; exact kat0⟩ ?_ | refine X_call ?_ ⟨_, _, _, _, _, _, rfl, rfl, rfl, by rw [hP]; exact kF⟩ ?_ | apply X_q | apply X_st | apply X_n | apply X_s | apply SKs0 | apply SKs2 | apply SKs1 | refine ⟨⟨rfl, rfl⟩, ?_⟩ | refine ⟨⟨rfl, ?_⟩, ?_⟩ | refine ⟨?_, ?_⟩ | (· (try simp only [go_sem, seval, reduceIte, ↓reduceIte, Bool.not_eq_true, reduceCtorEq, beq_false, beq_true, hn, hP, c1, hx0, hl0]); first | done | rfl)))) | ((first | apply T_sdF fw (by rw [hP]; rfl) (by decide +kernel) | apply T_drF fw (by rw [hP]; rfl) (by decide +kernel)); · ((try simp only [TOps.flat, List.cons_append, List.nil_append]); repeat (first | apply Y_g0 | apply Y_g | apply Y_skip | apply Y_q | refine Y_call ⟨_, _, _, _, _, _, rfl, rfl, rfl, by rw [hP]; exact kat0⟩ ?_ ?_ | refine Y_call ⟨_, _, _, _, _, _, rfl, rfl, rfl, by rw [hP]; exact kF⟩ ?_ ?_ | refine RunF_nil (P := G.P) ?_ | (· (try simp only [go_sem, seval, reduceIte, ↓reduceIte, Bool.not_eq_true, reduceCtorEq, beq_false, beq_true, hn, hP, c1, hx0, hl0]); first | done | rfl)))) | apply T_seq | apply T_block | refine T_scopeJ 0 rfl ?_ | apply T_scope | apply T_goto | apply T_ret | apply T_skip | apply T_exit | apply T_label | refine T_condT rfl ?_ | refine T_condF rfl ?_ | refine T_condD rfl (fun _ => ?_) (fun _ => ?_) | refine T_cond rfl (fun _ => ?_) (fun _ => ?_))
  refine T_for S (fun i v => { env := [(3, .one (.p (.fn gf [] []))), (4, .one (.ptr 4 0 2 0)), (6, .one (.ptr 6 0 2 0)), (8, .one (.ptr 8 0 2 0)), (10, .one (.ptr 10 0 3 0)), (12, .one (.ptr 12 0 2 0)), (13, .one (.p (.int .i64 p))), (14, .one (.p (.int .i64 v))), (38, .one (.p (.int .i64 ((A * B : Nat) : Int)))), (39, .one (.p (.int .i64 p))), (52, .one (.p (.int .i64 S))), (53, .one (.p (.int .i64 i)))], σ := [(4, .cells true [.p (eI s), .p (eI d)]), (6, .cells true [.p (.fn gw [] []), .p (.fn ge [] [])]), (8, .cells true [.nils, .nils]), (10, .cells true [.p (.int .i64 A), .p (.int .i64 S), .p (.int .i64 B)]), (12, .cells true [.msl 5 0 1 (s.length - 1) none, .msl 100 0 1 p none]), (5, .arr true 1 (rI (s.eraseIdx n ++ [0]))), (100, .arr true 1 (rI acc))] })
    (fun i v => I64 v ∧ foldE W (fun i => gt d (laneAt S B p i)) (S - i) i v = foldE W (fun i => gt d (laneAt S B p i)) S 0 n0) n0 ⟨hfr, rfl⟩ (.refl _ _) fun i v hi hv => ?_
  obtain ⟨hv, hfold⟩ := hv
  by_cases hiS : i < S
  · have c2 : (i : Int) < (S : Int) := by omega
    have w4 : IntKind.i64.wrap ((i : Int) + 1) = ((i + 1 : Nat) : Int) := by rw [wrap_in (by omega) (by omega)]; rfl
    have kat := p_reduce_lane_at A S B p i hs16 hb64 hb1 (by omega) (by omega)
    have hli := L.lt hlt2 (i := i) hiS
    have hxi : d[laneAt S B p i]? = some (gt d (laneAt S B p i)) := by unfold gt; rw [List.getElem?_eq_getElem hli]; rfl
    have hy := gt_range hd (laneAt S B p i)
    have kW := hW v (gt d (laneAt S B p i)) hv hy
    have hWr' := hWr v (gt d (laneAt S B p i)) hv hy
    rw [show S - i = (S - (i + 1)) + 1 from by omega] at hfold
    simp only [foldE] at hfold
    generalize gt d (laneAt S B p i) = y at *
    by_cases e1 : (W v y).2 = 0
    · rw [if_pos e1] at hfold
      have e1' : ((W v y).2 != 0) = false := by simp [e1]
      repeat' (first | apply T_then | apply then_ret | apply then_exit | apply then_goto | apply rnd_exit | apply rnd_ret | apply rnd_goto | apply noGo_normal | apply noGo_ret | apply noGo_exit | apply jmp_normal | apply jmp_ret | apply jmp_exit | apply jmp_goto | apply inB_normal | apply inB_ret | apply inB_goto | apply inB_exit | refine inB_exit_ne rfl ?_ | ((first | apply T_srK fw | apply T_regK fw); · ((try simp only [TOps.flat, List.cons_append, List.nil_append]); repeat (first | apply X_g0 | apply X_g | apply S_keep | apply X_skip | apply X_skipN | refine X_call ?_ ⟨_, _, _, _, _, _, rfl, rfl, rfl, by rw [hP]; exact kat⟩ ?_ | refine X_call ?_ ⟨_, _, _, _, _, _, rfl, rfl, rfl, by rw [hP]; exact kW⟩ ?_ | apply X_q | apply X_st | apply X_n | apply X_s | apply SKs0 | apply SKs2 | apply SKs1 | refine ⟨⟨rfl, rfl⟩, ?_⟩ | refine ⟨⟨rfl, ?_⟩, ?_⟩ | refine ⟨?_, ?_⟩ | (· (try simp only [go_sem, seval, reduceIte, ↓reduceIte, Bool.not_eq_true, reduceCtorEq, beq_false, beq_true, hn, hP, c2, w4, hxi, hli, e1']); first | done | rfl)))) | ((first | apply T_sdF fw (by rw [hP]; rfl) (by decide +kernel) | apply T_drF fw (by rw [hP]; rfl) (by decide +kernel)); · ((try simp only [TOps.flat, List.cons_append, List.nil_append]); repeat (first | apply Y_g0 | apply Y_g | apply Y_skip | apply Y_q | refine Y_call ⟨_, _, _, _, _, _, rfl, rfl, rfl, by rw [hP]; exact kat⟩ ?_ ?_ | refine Y_call ⟨_, _, _, _, _, _, rfl, rfl, rfl, by rw [hP]; exact kW⟩ ?_ ?_ | refine RunF_nil (P := G.P) ?_ | (· (try simp only [go_sem, seval, reduceIte, ↓reduceIte, Bool.not_eq_true, reduceCtorEq, beq_false, beq_true, hn, hP, c2, w4, hxi, hli, e1']); first | done | rfl)))) | apply T_seq | apply T_block | refine T_scopeJ 0 rfl ?_ | apply T_scope | apply T_goto | apply T_ret | apply T_skip | apply T_exit | apply T_label | refine T_condT rfl ?_ | refine T_condF rfl ?_ | refine T_condD rfl (fun _ => ?_) (fun _ => ?_) | refine T_cond rfl (fun _ => ?_) (fun _ => ?_))
      exact rnd_next hiS _ ⟨hWr', hfold⟩ (Weak.sub fun q hq => by
        simp only [List.mem_cons, List.not_mem_nil, or_false] at hq
        rcases hq with rfl | rfl | rfl | rfl | rfl | rfl | rfl <;> rfl)
    · rw [if_neg e1] at hfold
      have e1' : ((W v y).2 != 0) = true := by simp [e1]
      rw [← hfold] at hlane
      simp only [e1, if_false] at hlane
      rw [hlane] at hcol
      simp only [e1, if_false] at hcol
      repeat' (first | apply T_then | apply then_ret | apply then_exit | apply then_goto | apply rnd_exit | apply rnd_ret | apply rnd_goto | apply noGo_normal | apply noGo_ret | apply noGo_exit | apply jmp_normal | apply jmp_ret | apply jmp_exit | apply jmp_goto | apply inB_normal | apply inB_ret | apply inB_goto | apply inB_exit | refine inB_exit_ne rfl ?_ | ((first | apply T_srK fw | apply T_regK fw); · ((try simp only [TOps.flat, List.cons_append, List.nil_append]); repeat (first | apply X_g0 | apply X_g | apply S_keep | apply X_skip | apply X_skipN | refine X_call ?_ ⟨_, _, _, _, _, _, rfl, rfl, rfl, by rw [hP]; exact kat⟩ ?_ | refine X_call ?_ ⟨_, _, _, _, _, _, rfl, rfl, rfl, by rw [hP]; exact kW⟩ ?_ | apply X_q | apply X_st | apply X_n | apply X_s | apply SKs0 | apply SKs2 | apply SKs1 | refine ⟨⟨rfl, rfl⟩, ?_⟩ | refine ⟨⟨rfl, ?_⟩, ?_⟩ | refine ⟨?_, ?_⟩ | (· (try simp only [go_sem, seval, reduceIte, ↓reduceIte, Bool.not_eq_true, reduceCtorEq, beq_false, beq_true, hn, hP, c2, w4, hxi, hli, e1']); first | done | rfl)))) | ((first | apply T_sdF fw (by rw [hP]; rfl) (by decide +kernel) | apply T_drF fw (by rw [hP]; rfl) (by decide +kernel)); · ((try simp only [TOps.flat, List.cons_append, List.nil_append]); repeat (first | apply Y_g0 | apply Y_g | apply Y_skip | apply Y_q | refine Y_call ⟨_, _, _, _, _, _, rfl, rfl, rfl, by rw [hP]; exact kat⟩ ?_ ?_ | refine Y_call ⟨_, _, _, _, _, _, rfl, rfl, rfl, by rw [hP]; exact kW⟩ ?_ ?_ | refine RunF_nil (P := G.P) ?_ | (· (try simp only [go_sem, seval, reduceIte, ↓reduceIte, Bool.not_eq_true, reduceCtorEq, beq_false, beq_true, hn, hP, c2, w4, hxi, hli, e1']); first | done | rfl)))) | apply T_seq | apply T_block | refine T_scopeJ 0 rfl ?_ | apply T_scope | apply T_goto | apply T_ret | apply T_skip | apply T_exit | apply T_label | refine T_condT rfl ?_ | refine T_condF rfl ?_ | refine T_condD rfl (fun _ => ?_) (fun _ => ?_) | refine T_cond rfl (fun _ => ?_) (fun _ => ?_))
      exact ends_ret rfl rfl rfl (by rw [fin2 _ hcol.symm e1]; rfl)
  · have c2 : ¬ (i : Int) < (S : Int) := by omega
    have hie : i = S := by omega
    rw [hie, Nat.sub_self] at hfold
    simp only [foldE] at hfold
    rw [← hfold] at hlane
    simp only [if_true] at hlane
    rw [hlane] at hcol
    have kE := hE v S hv hs1 hs16
    by_cases e1 : (E v S).2 = 0
    · rw [if_pos e1] at hcol
      have e1' : ((E v S).2 != 0) = false := by simp [e1]
      have c4 : (p + 1) * 8 ≤ 2 ^ 40 := by omega
      have c5 : p + 1 ≤ 2 ^ 40 := by omega
      repeat' (first | apply T_then | apply then_ret | apply then_exit | apply then_goto | apply rnd_exit | apply rnd_ret | apply rnd_goto | apply noGo_normal | apply noGo_ret | apply noGo_exit | apply jmp_normal | apply jmp_ret | apply jmp_exit | apply jmp_goto | apply inB_normal | apply inB_ret | apply inB_goto | apply inB_exit | refine inB_exit_ne rfl ?_ | ((first | apply T_srK fw | apply T_regK fw); · ((try simp only [TOps.flat, List.cons_append, List.nil_append]); repeat (first | apply X_g0 | apply X_g | apply S_keep | apply X_skip | apply X_skipN | refine X_call ?_ ⟨_, _, _, _, _, _, rfl, rfl, rfl, by rw [hP]; exact kE⟩ ?_ | apply X_q | apply X_st | apply X_n | apply X_s | apply SKs0 | apply SKs2 | apply SKs1 | refine ⟨⟨rfl, rfl⟩, ?_⟩ | refine ⟨⟨rfl, ?_⟩, ?_⟩ | refine ⟨?_, ?_⟩ | (· (try simp only [go_sem, seval, reduceIte, ↓reduceIte, Bool.not_eq_true, reduceCtorEq, beq_false, beq_true, hn, hP, c2, w3, e1', hal, c4, c5]); first | done | rfl)))) | apply T_seq | apply T_block | refine T_scopeJ 0 rfl ?_ | apply T_scope | apply T_goto | apply T_ret | apply T_skip | apply T_exit | apply T_label | refine T_condT rfl ?_ | refine T_condF rfl ?_ | refine T_condD rfl (fun _ => ?_) (fun _ => ?_) | refine T_cond rfl (fun _ => ?_) (fun _ => ?_))
      refine rnd_next hlt2 (acc ++ [(E v S).1]) ⟨by simp [hal], hcol⟩ (Weak.sub fun q hq => ?_)
      simp only [List.mem_cons, List.not_mem_nil, or_false] at hq
      rcases hq with rfl | rfl | rfl | rfl | rfl | rfl | rfl
      · rfl
      · rfl
      · rfl
      · rfl
      · rfl
      · rfl
      · simp [lo, rI]
    · rw [if_neg e1] at hcol
      have e1' : ((E v S).2 != 0) = true := by simp [e1]
      repeat' (first | apply T_then | apply then_ret | apply then_exit | apply then_goto | apply rnd_exit | apply rnd_ret | apply rnd_goto | apply noGo_normal | apply noGo_ret | apply noGo_exit | apply jmp_normal | apply jmp_ret | apply jmp_exit | apply jmp_goto | apply inB_normal | apply inB_ret | apply inB_goto | apply inB_exit | refine inB_exit_ne rfl ?_ | ((first | apply T_srK fw | apply T_regK fw); · ((try simp only [TOps.flat, List.cons_append, List.nil_append]); repeat (first | apply X_g0 | apply X_g | apply S_keep | apply X_skip | apply X_skipN | refine X_call ?_ ⟨_, _, _, _, _, _, rfl, rfl, rfl, by rw [hP]; exact kE⟩ ?_ | apply X_q | apply X_st | apply X_n | apply X_s | apply SKs0 | apply SKs2 | apply SKs1 | refine ⟨⟨rfl, rfl⟩, ?_⟩ | refine ⟨⟨rfl, ?_⟩, ?_⟩ | refine ⟨?_, ?_⟩ | (· (try simp only [go_sem, seval, reduceIte, ↓reduceIte, Bool.not_eq_true, reduceCtorEq, beq_false, beq_true, hn, hP, c2, e1']); first | done | rfl)))) | apply T_seq | apply T_block | refine T_scopeJ 0 rfl ?_ | apply T_scope | apply T_goto | apply T_ret | apply T_skip | apply T_exit | apply T_label | refine T_condT rfl ?_ | refine T_condF rfl ?_ | refine T_condD rfl (fun _ => ?_) (fun _ => ?_) | refine T_cond rfl (fun _ => ?_) (fun _ => ?_))
      exact ends_ret rfl rfl rfl (by rw [fin2 _ hcol.symm e1]; rfl)

def sumS (s d : List Int) (a : Int) : (List Int × List Int) × Int := togetherF fAdd (fun n _ => (n, 0)) (fun _ => 0) s d a
theorem p_reduce_Sum (s d : List Int) (a : Int) (hd : I64s d) : PureC Try.prog fi_reduce_Sum [dT s d, dN a] (dTE (sumS s d a)) := by
  refine pure_reduce_Sum (by simp) fun G hP hn => ?_
  unfold a_reduce_Sum
  have k := p_reduce_together (W := fAdd) (E := fun n _ => (n, 0)) (F := fun _ => 0) (fun a b ha hb => p_fix_Add ha hb) (fun a b _ _ => fAdd_range a b) (fun a S _ _ _ => p_reduce_done a S) (fun a _ => p_reduce_none a) (fun _ _ => i64_0) s d a hd
  repeat' (first | apply T_then | apply then_ret | apply then_exit | apply then_goto | apply rnd_exit | apply rnd_ret | apply rnd_goto | apply noGo_normal | apply noGo_ret | apply noGo_exit | apply jmp_normal | apply jmp_ret | apply jmp_exit | apply jmp_goto | apply inB_normal | apply inB_ret | apply inB_goto | apply inB_exit | refine inB_exit_ne rfl ?_ | ((first | apply T_srK fw | apply T_regK fw); · ((try simp only [TOps.flat, List.cons_append, List.nil_append]); repeat (first | apply X_g0 | apply X_g | apply S_keep | apply X_skip | apply X_skipN | refine X_call ?_ ⟨_, _, _, _, _, _, rfl, rfl, rfl, by rw [hP]; exact k⟩ ?_ | apply X_q | apply X_st | apply X_n | apply X_s | apply SKs0 | apply SKs2 | apply SKs1 | refine ⟨⟨rfl, rfl⟩, ?_⟩ | refine ⟨⟨rfl, ?_⟩, ?_⟩ | refine ⟨?_, ?_⟩ | (· (try simp only [go_sem, seval, reduceIte, ↓reduceIte, Bool.not_eq_true, reduceCtorEq, beq_false, beq_true, hn, hP]); first | done | rfl)))) | apply T_seq | apply T_block | refine T_scopeJ 0 rfl ?_ | apply T_scope | apply T_goto | apply T_ret | apply T_skip | apply T_exit | apply T_label | refine T_condT rfl ?_ | refine T_condF rfl ?_ | refine T_condD rfl (fun _ => ?_) (fun _ => ?_) | refine T_cond rfl (fun _ => ?_) (fun _ => ?_))
  exact ends_ret rfl rfl rfl rfl
end Go.AM

namespace Go.AM
open Go Go.Proofs
set_option maxRecDepth 100000
set_option maxHeartbeats 4000000
set_option linter.unusedSimpArgs false
set_option linter.unusedVariables false

theorem full_ok {s : List Int} (v : Int) (h : checkS s = true) : fullF s v = ((s, List.replicate (sizeS s).toNat v), 0) := by unfold fullF; rw [if_pos h]
theorem size2 {n p : Nat} (h : ShapeOk [(n : Int), (p : Int)]) : (sizeS [(n : Int), (p : Int)]).toNat = n * p := by rw [sizeS_ok h, prd2]; rfl
end Go.AM

namespace Go.AM
open Go Go.Proofs
set_option maxRecDepth 100000
set_option maxHeartbeats 4000000
set_option linter.unusedSimpArgs false
set_option linter.unusedVariables false

theorem sumF_fold (y : Nat → Int) : ∀ (n k : Nat) (s : Int), sumF y n k s = foldE fAdd y n k s
  | 0, _, _ => rfl
  | n + 1, k, s => by simp only [sumF, foldE, sumF_fold y n]
/-- a row of ones adds what stands below one another -/
theorem rows_sum {n p : Nat} {e : List Int} (hc : checkT [(n : Int), (p : Int)] e = true) (he : I64s e) :
    (mulF [1, (n : Int)] (List.replicate n 4294967296) [(n : Int), (p : Int)] e).2 = (sumS [(n : Int), (p : Int)] e 0).2 ∧
    (mulF [1, (n : Int)] (List.replicate n 4294967296) [(n : Int), (p : Int)] e).1.2 = (sumS [(n : Int), (p : Int)] e 0).1.2 := by
  have hk := ok2 (checkT2.1 hc).1
  have h3 : checkS [((1 : Nat) : Int), (p : Int)] = true := checkS_iff.2 (ok2_iff.2 (by omega))
  have h1 : checkT [((1 : Nat) : Int), (n : Int)] (tab 1 n fun _ _ => 4294967296) = true := tab_check (checkS_iff.2 (ok2_iff.2 (by omega)))
  have hrep : List.replicate n (4294967296 : Int) = tab 1 n fun _ _ => 4294967296 := by rw [tab_const, Nat.one_mul]
  have hcel : ∀ j, j < p → cel n p (tab 1 n fun _ _ => 4294967296) e 0 j = foldE fAdd (fun k => gt e (k * p + j)) n 0 0 := fun j hj => by
    unfold cel
    rw [dot_ones (y := fun k => gt e (k * p + j)) (fun k hk => gt_range he _) (fun k hk => by rw [Nat.zero_add]; exact gt_tab (by omega) hk), sumF_fold]
  have hlane : ∀ j, j < p → laneR fAdd (fun n _ => (n, 0)) (fun _ => 0) n p e j = if (cel n p (tab 1 n fun _ _ => 4294967296) e 0 j).2 = 0 then ((cel n p (tab 1 n fun _ _ => 4294967296) e 0 j).1, 0) else (0, (cel n p (tab 1 n fun _ _ => 4294967296) e 0 j).2) := fun j hj => by
    rw [hcel j hj]
    unfold laneR
    have : ∀ i, laneAt n p j i = i * p + j := fun i => by
      unfold laneAt
      rw [Nat.div_eq_of_lt hj, Nat.mod_eq_of_lt hj, Nat.zero_mul, Nat.zero_add]
    simp only [this]
  have hsum : sumS [(n : Int), (p : Int)] e 0 = if (coll (laneR fAdd (fun n _ => (n, 0)) (fun _ => 0) n p e) p 0 []).2 = 0 then (([(p : Int)], (coll (laneR fAdd (fun n _ => (n, 0)) (fun _ => 0) n p e) p 0 []).1), 0) else bad (coll (laneR fAdd (fun n _ => (n, 0)) (fun _ => 0) n p e) p 0 []).2 := by
    unfold sumS togetherF
    have hB : sizeS [(p : Int)] = p := by
      rw [sizeS_ok ⟨by simp, fun m hm => by simp at hm; omega, by simp [prd]; omega⟩]; simp [prd]
    have hA : sizeS [] = 1 := by decide
    rw [if_pos hc, if_neg (by simp)]
    simp only [Int.toNat_zero, List.getElem?_cons_zero, Option.getD_some, Int.toNat_natCast, List.take_zero, List.drop_succ_cons, List.drop_zero, Nat.zero_add, hA, hB, List.eraseIdx_cons_zero]
    simp only [show (1 : Int).toNat = 1 from rfl, Nat.one_mul]
  rw [hsum, hrep]
  show (mulF [((1 : Nat) : Int), (n : Int)] _ _ _).2 = _ ∧ (mulF [((1 : Nat) : Int), (n : Int)] _ _ _).1.2 = _
  by_cases hg : Goes 1 n p (tab 1 n fun _ _ => 4294967296) e
  · rw [mul_go h1 hc h3 hg]
    have hcoll := coll_ok (f := laneR fAdd (fun n _ => (n, 0)) (fun _ => 0) n p e) (n := p) (a := 0) (acc := []) (fun k hk => by
      rw [Nat.zero_add, hlane k hk, if_pos (hg 0 k (by omega) hk)])
    rw [hcoll]
    refine ⟨rfl, ?_⟩
    show prod 1 n p _ e = _
    simp only [if_true, List.nil_append, Nat.zero_add]
    unfold prod
    generalize (tab 1 n fun _ _ => (4294967296 : Int)) = o at *
    unfold tab
    rw [Nat.one_mul]
    apply List.map_congr_left
    intro a ha
    have ha := List.mem_range.1 ha
    rw [Nat.div_eq_of_lt ha, Nat.mod_eq_of_lt ha, hlane a ha, if_pos (hg 0 a (by omega) ha)]
  · rw [mul_stop h1 hc h3 hg]
    rcases coll_cases (laneR fAdd (fun n _ => (n, 0)) (fun _ => 0) n p e) p with h | ⟨k, hk, h4, h5⟩
    · exact absurd (fun i j hi hj => by
        obtain rfl : i = 0 := by omega
        have := h j hj
        rw [hlane j hj] at this
        by_cases q : (cel n p (tab 1 n fun _ _ => 4294967296) e 0 j).2 = 0
        · exact q
        · rw [if_neg q] at this; exact absurd this q) hg
    · have hcoll := coll_err (f := laneR fAdd (fun n _ => (n, 0)) (fun _ => 0) n p e) (n := p) (a := 0) (acc := []) hk (fun j hj => by rw [Nat.zero_add]; exact h4 j hj) (by rw [Nat.zero_add]; exact h5)
      rw [Nat.zero_add] at hcoll
      have h6 : (laneR fAdd (fun n _ => (n, 0)) (fun _ => 0) n p e k).2 = 10 := by
        rw [hlane k hk] at h5 ⊢
        by_cases q : (cel n p (tab 1 n fun _ _ => 4294967296) e 0 k).2 = 0
        · rw [if_pos q] at h5; exact absurd rfl h5
        · rw [if_neg q]
          rcases cel_err n p (tab 1 n fun _ _ => 4294967296) e 0 k with h0 | h0
          · exact absurd h0 q
          · exact h0
      rw [hcoll, h6, if_neg (by simp)]
      exact ⟨rfl, rfl⟩

theorem p_MatmulRows (s d t e : List Int) (row : Int) (hd : I64s d) (he : I64s e) (hr : I64 row) : PureC Try.prog fi_fullerlaw07_MatmulRows [dT s d, dT t e, dN row] (dB true) := by
  refine pure_fullerlaw07_MatmulRows (by simp) fun G hP hn => ?_
  unfold a_fullerlaw07_MatmulRows
  cases f1 : fewT s d
  · repeat' (first | apply T_then | apply then_ret | apply then_exit | apply then_goto | apply rnd_exit | apply rnd_ret | apply rnd_goto | apply noGo_normal | apply noGo_ret | apply noGo_exit | apply jmp_normal | apply jmp_ret | apply jmp_exit | apply jmp_goto | apply inB_normal | apply inB_ret | apply inB_goto | apply inB_exit | refine inB_exit_ne rfl ?_ | ((first | apply T_srK fw | apply T_regK fw); · ((try simp only [TOps.flat, List.cons_append, List.nil_append]); repeat (first | apply X_g0 | apply X_g | apply S_keep | apply X_skip | apply X_skipN | refine X_call ?_ ⟨_, _, _, _, _, _, rfl, rfl, rfl, by rw [hP]; exact p_awake7⟩ ?_ | refine X_call ?_ ⟨_, _, _, _, _, _, rfl, rfl, rfl, by rw [hP]; exact p_ref03_Few _ _⟩ ?_ | apply X_q | apply X_st | apply X_n | apply X_s | apply SKs0 | apply SKs2 | apply SKs1 | refine ⟨⟨rfl, rfl⟩, ?_⟩ | refine ⟨⟨rfl, ?_⟩, ?_⟩ | refine ⟨?_, ?_⟩ | (· (try simp only [go_sem, seval, reduceIte, ↓reduceIte, Bool.not_eq_true, reduceCtorEq, beq_false, beq_true, hn, hP, f1]); first | done | rfl)))) | apply T_seq | apply T_block | refine T_scopeJ 0 rfl ?_ | apply T_scope | apply T_goto | apply T_ret | apply T_skip | apply T_exit | apply T_label | refine T_condT rfl ?_ | refine T_condF rfl ?_ | refine T_condD rfl (fun _ => ?_) (fun _ => ?_) | refine T_cond rfl (fun _ => ?_) (fun _ => ?_))
    exact ends_ret rfl rfl rfl rfl
  cases f2 : fewT t e
  · repeat' (first | apply T_then | apply then_ret | apply then_exit | apply then_goto | apply rnd_exit | apply rnd_ret | apply rnd_goto | apply noGo_normal | apply noGo_ret | apply noGo_exit | apply jmp_normal | apply jmp_ret | apply jmp_exit | apply jmp_goto | apply inB_normal | apply inB_ret | apply inB_goto | apply inB_exit | refine inB_exit_ne rfl ?_ | ((first | apply T_srK fw | apply T_regK fw); · ((try simp only [TOps.flat, List.cons_append, List.nil_append]); repeat (first | apply X_g0 | apply X_g | apply S_keep | apply X_skip | apply X_skipN | refine X_call ?_ ⟨_, _, _, _, _, _, rfl, rfl, rfl, by rw [hP]; exact p_awake7⟩ ?_ | refine X_call ?_ ⟨_, _, _, _, _, _, rfl, rfl, rfl, by rw [hP]; exact p_ref03_Few _ _⟩ ?_ | apply X_q | apply X_st | apply X_n | apply X_s | apply SKs0 | apply SKs2 | apply SKs1 | refine ⟨⟨rfl, rfl⟩, ?_⟩ | refine ⟨⟨rfl, ?_⟩, ?_⟩ | refine ⟨?_, ?_⟩ | (· (try simp only [go_sem, seval, reduceIte, ↓reduceIte, Bool.not_eq_true, reduceCtorEq, beq_false, beq_true, hn, hP, f1, f2]); first | done | rfl)))) | apply T_seq | apply T_block | refine T_scopeJ 0 rfl ?_ | apply T_scope | apply T_goto | apply T_ret | apply T_skip | apply T_exit | apply T_label | refine T_condT rfl ?_ | refine T_condF rfl ?_ | refine T_condD rfl (fun _ => ?_) (fun _ => ?_) | refine T_cond rfl (fun _ => ?_) (fun _ => ?_))
    exact ends_ret rfl rfl rfl rfl
  have kp := p_matmul_Mul s d t e hd he
  cases c1 : ((mulF s d t e).2 != 0)
  rotate_left
  · repeat' (first | apply T_then | apply then_ret | apply then_exit | apply then_goto | apply rnd_exit | apply rnd_ret | apply rnd_goto | apply noGo_normal | apply noGo_ret | apply noGo_exit | apply jmp_normal | apply jmp_ret | apply jmp_exit | apply jmp_goto | apply inB_normal | apply inB_ret | apply inB_goto | apply inB_exit | refine inB_exit_ne rfl ?_ | ((first | apply T_srK fw | apply T_regK fw); · ((try simp only [TOps.flat, List.cons_append, List.nil_append]); repeat (first | apply X_g0 | apply X_g | apply S_keep | apply X_skip | apply X_skipN | refine X_call ?_ ⟨_, _, _, _, _, _, rfl, rfl, rfl, by rw [hP]; exact p_awake7⟩ ?_ | refine X_call ?_ ⟨_, _, _, _, _, _, rfl, rfl, rfl, by rw [hP]; exact p_ref03_Few _ _⟩ ?_ | refine X_call ?_ ⟨_, _, _, _, _, _, rfl, rfl, rfl, by rw [hP]; exact kp⟩ ?_ | apply X_q | apply X_st | apply X_n | apply X_s | apply SKs0 | apply SKs2 | apply SKs1 | refine ⟨⟨rfl, rfl⟩, ?_⟩ | refine ⟨⟨rfl, ?_⟩, ?_⟩ | refine ⟨?_, ?_⟩ | (· (try simp only [go_sem, seval, reduceIte, ↓reduceIte, Bool.not_eq_true, reduceCtorEq, beq_false, beq_true, hn, hP, f1, f2, c1]); first | done | rfl)))) | apply T_seq | apply T_block | refine T_scopeJ 0 rfl ?_ | apply T_scope | apply T_goto | apply T_ret | apply T_skip | apply T_exit | apply T_label | refine T_condT rfl ?_ | refine T_condF rfl ?_ | refine T_condD rfl (fun _ => ?_) (fun _ => ?_) | refine T_cond rfl (fun _ => ?_) (fun _ => ?_))
    exact ends_ret rfl rfl rfl rfl
  simp only [bne_eq_false_iff_eq] at c1
  obtain ⟨m, n, p, k, hg, h4, h5⟩ := goes_of (xs := (mulF s d t e).1.1) (xd := (mulF s d t e).1.2) (Prod.ext rfl c1)
  obtain ⟨rfl, rfl, h1, h2, h3⟩ := k
  have hm := mul_go h1 h2 h3 hg
  rw [hm] at kp
  have kx := p_move_Slice [(m : Int), (n : Int)] d 0 row (w64 (row + 1))
  by_cases hrow : row < 0
  · rw [slice_none h1 hr (.inl hrow)] at kx
    repeat' (first | apply T_then | apply then_ret | apply then_exit | apply then_goto | apply rnd_exit | apply rnd_ret | apply rnd_goto | apply noGo_normal | apply noGo_ret | apply noGo_exit | apply jmp_normal | apply jmp_ret | apply jmp_exit | apply jmp_goto | apply inB_normal | apply inB_ret | apply inB_goto | apply inB_exit | refine inB_exit_ne rfl ?_ | ((first | apply T_srK fw | apply T_regK fw); · ((try simp only [TOps.flat, List.cons_append, List.nil_append]); repeat (first | apply X_g0 | apply X_g | apply S_keep | apply X_skip | apply X_skipN | refine X_call ?_ ⟨_, _, _, _, _, _, rfl, rfl, rfl, by rw [hP]; exact p_awake7⟩ ?_ | refine X_call ?_ ⟨_, _, _, _, _, _, rfl, rfl, rfl, by rw [hP]; exact p_ref03_Few _ _⟩ ?_ | refine X_call ?_ ⟨_, _, _, _, _, _, rfl, rfl, rfl, by rw [hP]; exact kp⟩ ?_ | refine X_call ?_ ⟨_, _, _, _, _, _, rfl, rfl, rfl, by rw [hP]; exact kx⟩ ?_ | apply X_q | apply X_st | apply X_n | apply X_s | apply SKs0 | apply SKs2 | apply SKs1 | refine ⟨⟨rfl, rfl⟩, ?_⟩ | refine ⟨⟨rfl, ?_⟩, ?_⟩ | refine ⟨?_, ?_⟩ | (· (try simp only [go_sem, seval, reduceIte, ↓reduceIte, Bool.not_eq_true, reduceCtorEq, beq_false, beq_true, hn, hP, f1, f2, hrow]); first | done | rfl)))) | apply T_seq | apply T_block | refine T_scopeJ 0 rfl ?_ | apply T_scope | apply T_goto | apply T_ret | apply T_skip | apply T_exit | apply T_label | refine T_condT rfl ?_ | refine T_condF rfl ?_ | refine T_condD rfl (fun _ => ?_) (fun _ => ?_) | refine T_cond rfl (fun _ => ?_) (fun _ => ?_))
    exact ends_ret rfl rfl rfl rfl
  by_cases hrow2 : row ≥ (m : Int)
  · rw [slice_none h1 hr (.inr hrow2)] at kx
    repeat' (first | apply T_then | apply then_ret | apply then_exit | apply then_goto | apply rnd_exit | apply rnd_ret | apply rnd_goto | apply noGo_normal | apply noGo_ret | apply noGo_exit | apply jmp_normal | apply jmp_ret | apply jmp_exit | apply jmp_goto | apply inB_normal | apply inB_ret | apply inB_goto | apply inB_exit | refine inB_exit_ne rfl ?_ | ((first | apply T_srK fw | apply T_regK fw); · ((try simp only [TOps.flat, List.cons_append, List.nil_append]); repeat (first | apply X_g0 | apply X_g | apply S_keep | apply X_skip | apply X_skipN | refine X_call ?_ ⟨_, _, _, _, _, _, rfl, rfl, rfl, by rw [hP]; exact p_awake7⟩ ?_ | refine X_call ?_ ⟨_, _, _, _, _, _, rfl, rfl, rfl, by rw [hP]; exact p_ref03_Few _ _⟩ ?_ | refine X_call ?_ ⟨_, _, _, _, _, _, rfl, rfl, rfl, by rw [hP]; exact kp⟩ ?_ | refine X_call ?_ ⟨_, _, _, _, _, _, rfl, rfl, rfl, by rw [hP]; exact kx⟩ ?_ | apply X_q | apply X_st | apply X_n | apply X_s | apply SKs0 | apply SKs2 | apply SKs1 | refine ⟨⟨rfl, rfl⟩, ?_⟩ | refine ⟨⟨rfl, ?_⟩, ?_⟩ | refine ⟨?_, ?_⟩ | (· (try simp only [go_sem, seval, reduceIte, ↓reduceIte, Bool.not_eq_true, reduceCtorEq, beq_false, beq_true, hn, hP, f1, f2, hrow, hrow2]); first | done | rfl)))) | apply T_seq | apply T_block | refine T_scopeJ 0 rfl ?_ | apply T_scope | apply T_goto | apply T_ret | apply T_skip | apply T_exit | apply T_label | refine T_condT rfl ?_ | refine T_condF rfl ?_ | refine T_condD rfl (fun _ => ?_) (fun _ => ?_) | refine T_cond rfl (fun _ => ?_) (fun _ => ?_))
    exact ends_ret rfl rfl rfl rfl
  obtain ⟨r, rfl⟩ := Int.eq_ofNat_of_zero_le (by omega : 0 ≤ row)
  have hrm : r < m := by omega
  have hk := ok2 (checkT2.1 h1).1
  have hk2 := ok2 (checkT2.1 h2).1
  have hw : w64 ((r : Int) + 1) = (r : Int) + 1 := w64_in (by unfold I64; omega)
  rw [hw, slice_row h1 hrm] at kx
  have kq := p_matmul_Mul [((1 : Nat) : Int), (n : Int)] (tab 1 n fun _ k => gt d (r * n + k)) [(n : Int), (p : Int)] e (tab_range fun _ _ => gt_range hd _) he
  rw [mul_row h1 h2 h3 hg hrm] at kq
  have kw := p_move_Slice [(m : Int), (p : Int)] (prod m n p d e) 0 r ((r : Int) + 1)
  have hcp : checkT [(m : Int), (p : Int)] (prod m n p d e) = true := tab_check h3
  rw [slice_row hcp hrm] at kw
  have kf := p_tensor_Full [1, (n : Int)] 4294967296
  have h1n : ShapeOk [((1 : Nat) : Int), (n : Int)] := ok2_iff.2 (by omega)
  have hf1 : fullF [1, (n : Int)] 4294967296 = (([1, (n : Int)], List.replicate n 4294967296), 0) := by
    have h := full_ok (s := [((1 : Nat) : Int), (n : Int)]) 4294967296 (checkS_iff.2 h1n)
    rw [size2 h1n, Nat.one_mul] at h; exact h
  rw [hf1] at kf
  have ks := p_matmul_Mul [1, (n : Int)] (List.replicate n 4294967296) [(n : Int), (p : Int)] e (fun x hx => by rw [(List.mem_replicate.1 hx).2]; exact ⟨by decide, by decide⟩) he
  have ku := p_reduce_Sum [(n : Int), (p : Int)] e 0 he
  obtain ⟨q1, q2⟩ := rows_sum h2 he
  generalize mulF [1, (n : Int)] (List.replicate n 4294967296) [(n : Int), (p : Int)] e = ms at *
  generalize sumS [(n : Int), (p : Int)] e 0 = su at *
  have kd := c_same' ms.1.2
  repeat' (first | apply T_then | apply then_ret | apply then_exit | apply then_goto | apply rnd_exit | apply rnd_ret | apply rnd_goto | apply noGo_normal | apply noGo_ret | apply noGo_exit | apply jmp_normal | apply jmp_ret | apply jmp_exit | apply jmp_goto | apply inB_normal | apply inB_ret | apply inB_goto | apply inB_exit | refine inB_exit_ne rfl ?_ | ((first | apply T_srK fw | apply T_regK fw); · ((try simp only [TOps.flat, List.cons_append, List.nil_append]); repeat (first | apply X_g0 | apply X_g | apply S_keep | apply X_skip | apply X_skipN | refine X_call ?_ ⟨_, _, _, _, _, _, rfl, rfl, rfl, by rw [hP]; exact p_awake7⟩ ?_ | refine X_call ?_ ⟨_, _, _, _, _, _, rfl, rfl, rfl, by rw [hP]; exact p_ref03_Few _ _⟩ ?_ | refine X_call ?_ ⟨_, _, _, _, _, _, rfl, rfl, rfl, by rw [hP]; exact kp⟩ ?_ | refine X_call ?_ ⟨_, _, _, _, _, _, rfl, rfl, rfl, by rw [hP]; exact kx⟩ ?_ | refine X_call ?_ ⟨_, _, _, _, _, _, rfl, rfl, rfl, by rw [hP]; exact kq⟩ ?_ | refine X_call ?_ ⟨_, _, _, _, _, _, rfl, rfl, rfl, by rw [hP]; exact kw⟩ ?_ | refine X_call ?_ ⟨_, _, _, _, _, _, rfl, rfl, rfl, by rw [hP]; exact kf⟩ ?_ | refine X_call ?_ ⟨_, _, _, _, _, _, rfl, rfl, rfl, by rw [hP]; exact ks⟩ ?_ | refine X_call ?_ ⟨_, _, _, _, _, _, rfl, rfl, rfl, by rw [hP]; exact ku⟩ ?_ | refine X_call ?_ ⟨_, _, _, _, _, _, rfl, rfl, rfl, by rw [hP]; exact c_sameT _ _⟩ ?_ | refine X_call ?_ ⟨_, _, _, _, _, _, rfl, rfl, rfl, by rw [hP]; exact c_same' _⟩ ?_ | apply X_q | apply X_st | apply X_n | apply X_s | apply SKs0 | apply SKs2 | apply SKs1 | refine ⟨⟨rfl, rfl⟩, ?_⟩ | refine ⟨⟨rfl, ?_⟩, ?_⟩ | refine ⟨?_, ?_⟩ | (· (try simp only [go_sem, seval, reduceIte, ↓reduceIte, Bool.not_eq_true, reduceCtorEq, beq_false, beq_true, hn, hP, f1, f2, hrow, hrow2, hw, q1, q2]); first | done | rfl)))) | apply T_seq | apply T_block | refine T_scopeJ 0 rfl ?_ | apply T_scope | apply T_goto | apply T_ret | apply T_skip | apply T_exit | apply T_label | refine T_condT rfl ?_ | refine T_condF rfl ?_ | refine T_condD rfl (fun _ => ?_) (fun _ => ?_) | refine T_cond rfl (fun _ => ?_) (fun _ => ?_))
  exact ends_ret rfl rfl rfl rfl
end Go.AM

