import Derived.Test.YtcmbjbmghoopcaaMq5
import Derived.Test.YtcmbjbmghoopcaaProg
import Derived.KernelRfl
set_option linter.unusedVariables false
set_option linter.unusedSimpArgs false
namespace Go.AM
open Go Go.Proofs
set_option maxRecDepth 100000
abbrev fi_fullerlaw07_MatmulZero : Nat := 6
abbrev fi_tensor_Full : Nat := 31
abbrev fi_slices_Repeat_int_int : Nat := 70
abbrev fi_math_bits_Mul : Nat := 119
abbrev fi_math_bits_Mul32 : Nat := 145
def a_fullerlaw07_MatmulZero : ACode := (.seq (.region none (.op (some 2) none (.n (.box 2 (.t 0)))
  (.op (some 3) none (.n (.box 2 (.t 1)))
  (.op (some 4) none (.q (.mov (.c (.one (.p (.bool false))))))
  .nil))) [2, 3] [2, 3])
 (.seq (.region none (.op (some 18) none (.call (.c (.one (.p (.fn fi_fullerlaw07_awake [] [])))) [])
  (.op (some 5) none (.q (.mov (.t 18)))
  .nil)) [2, 3, 5] [2, 3])
 (.seq (.seq (.region none (.op (some 19) none (.q (.load 2 true (.t 2)))
  (.op (some 20) none (.call (.c (.one (.p (.fn fi_fullerref03_Few [] [])))) [(.t 19)])
  (.op (some 21) none (.q (.un .not (.t 20)))
  (.op (some 22) none (.q (.mov (.t 21)))
  (.sc 26 22 false 25 none
  (.op (some 23) (some (22, false)) (.q (.load 2 true (.t 3)))
  (.op (some 24) (some (22, false)) (.call (.c (.one (.p (.fn fi_fullerref03_Few [] [])))) [(.t 23)])
  (.op (some 25) (some (22, false)) (.q (.un .not (.t 24)))
  .nil)))
  (.op (some 27) none (.q (.mov (.t 26)))
  (.sc 31 27 false 30 none
  (.op (some 28) (some (27, false)) (.q (.load 2 true (.t 2)))
  (.op (some 29) (some (27, false)) (.call (.c (.one (.p (.fn fi_tensor_Check [] [])))) [(.t 28)])
  (.op (some 30) (some (27, false)) (.q (.un .not (.t 29)))
  .nil)))
  (.op (some 32) none (.q (.mov (.t 31)))
  (.sc 36 32 false 35 none
  (.op (some 33) (some (32, false)) (.q (.load 2 true (.t 3)))
  (.op (some 34) (some (32, false)) (.call (.c (.one (.p (.fn fi_tensor_Check [] [])))) [(.t 33)])
  (.op (some 35) (some (32, false)) (.q (.un .not (.t 34)))
  .nil)))
  (.op (some 37) none (.q (.mov (.t 36)))
  (.sc 42 37 false 41 none
  (.op (some 38) (some (37, false)) (.q (.faddr 0 (.t 2)))
  (.op (some 39) (some (37, false)) (.q (.load 1 false (.t 38)))
  (.op (some 40) (some (37, false)) (.q (.len (.t 39)))
  (.op (some 41) (some (37, false)) (.q (.bin .neq (.t 40) (.c (.one (.p (.int .i64 2))))))
  .nil))))
  (.op (some 43) none (.q (.mov (.t 42)))
  (.sc 48 43 false 47 none
  (.op (some 44) (some (43, false)) (.q (.faddr 0 (.t 3)))
  (.op (some 45) (some (43, false)) (.q (.load 1 false (.t 44)))
  (.op (some 46) (some (43, false)) (.q (.len (.t 45)))
  (.op (some 47) (some (43, false)) (.q (.bin .neq (.t 46) (.c (.one (.p (.int .i64 2))))))
  .nil))))
  .nil))))))))))))) [2, 3, 5, 48] [2, 3])
 (.cond (.t 48) (.seq (.region none (.op (some 49) none (.q (.mov (.t 5)))
  (.op (some 4) none (.q (.mov (.t 49)))
  .nil)) [4] [2, 3])
 .ret)
 .skip))
 (.seq (.region none (.op (some 51) none (.q (.faddr 0 (.t 3)))
  (.op (some 52) none (.q (.load 1 false (.t 51)))
  (.op (some 53) none (.call (.c (.one (.p (.fn fi_tensor_Full [] [])))) [(.t 52), (.c (.one (.p (.int .i64 0))))])
  (.op (some 50) none (.q (.mov (.t 53)))
  (.op (some 54) none (.q (.extr (.t 50) 0))
  (.op (some 55) none (.q (.extr (.t 50) 1))
  (.op (some 6) none (.n (.alloc [.nils, .nils]))
  (.op none none (.s (.store 2 (.t 6) (.t 54)))
  (.op (some 7) none (.q (.mov (.t 55)))
  .nil))))))))) [2, 3, 5, 6] [2, 3, 6])
 (.seq (.region none (.op (some 57) none (.q (.load 2 true (.t 2)))
  (.op (some 58) none (.q (.load 2 true (.t 6)))
  (.op (some 59) none (.call (.c (.one (.p (.fn fi_matmul_Mul [] [])))) [(.t 57), (.t 58)])
  (.op (some 56) none (.q (.mov (.t 59)))
  (.op (some 60) none (.q (.extr (.t 56) 0))
  (.op (some 61) none (.q (.extr (.t 56) 1))
  (.op (some 8) none (.n (.alloc [.nils, .nils]))
  (.op none none (.s (.store 2 (.t 8) (.t 60)))
  (.op (some 9) none (.q (.mov (.t 61)))
  .nil))))))))) [2, 3, 5, 8, 9] [2, 3, 6, 8])
 (.seq (.seq (.region none (.op (some 10) none (.q (.mov (.c (.one (.p (.int .i64 0))))))
  .nil) [2, 3, 5, 8, 9, 10] [2, 3, 6, 8])
 (.block 0 (.loop (.seq (.seq (.region none (.op (some 62) none (.q (.mov (.t 10)))
  (.op (some 63) none (.q (.faddr 1 (.t 8)))
  (.op (some 64) none (.q (.load 1 false (.t 63)))
  (.op (some 65) none (.q (.len (.t 64)))
  (.op (some 66) none (.q (.bin .lss (.t 62) (.t 65)))
  .nil))))) [2, 3, 5, 8, 9, 10, 66] [2, 3, 6, 8])
 (.cond (.t 66) .skip
 (.exit 0)))
 (.seq (.block 1 (.seq (.region none (.op (some 69) none (.q (.faddr 1 (.t 8)))
  (.op (some 70) none (.q (.load 1 false (.t 69)))
  (.op (some 71) none (.q (.mov (.t 10)))
  (.op (some 72) none (.q (.iaddr 1 (.t 70) (.t 71)))
  (.op (some 73) none (.q (.load 1 false (.t 72)))
  (.op (some 74) none (.q (.bin .neq (.t 73) (.c (.one (.p (.int .i64 0))))))
  .nil)))))) [2, 3, 5, 8, 9, 10, 74] [2, 3, 6, 8])
 (.cond (.t 74) (.seq (.region none (.op (some 4) none (.q (.mov (.c (.one (.p (.bool false))))))
  .nil) [4] [2, 3, 6, 8])
 .ret)
 .skip)))
 (.region none (.op (some 67) none (.q (.mov (.t 10)))
  (.op (some 68) none (.q (.bin .add (.t 67) (.c (.one (.p (.int .i64 1))))))
  (.op (some 10) none (.q (.mov (.t 68)))
  .nil))) [2, 3, 5, 8, 9, 10] [2, 3, 6, 8]))))))
 (.seq (.region none (.op (some 76) none (.q (.load 2 true (.t 2)))
  (.op (some 77) none (.q (.load 2 true (.t 3)))
  (.op (some 78) none (.call (.c (.one (.p (.fn fi_matmul_Mul [] [])))) [(.t 76), (.t 77)])
  (.op (some 75) none (.q (.mov (.t 78)))
  (.op (some 79) none (.q (.extr (.t 75) 0))
  (.op (some 80) none (.q (.extr (.t 75) 1))
  (.op (some 11) none (.n (.alloc [.nils, .nils]))
  (.op none none (.s (.store 2 (.t 11) (.t 79)))
  (.op (some 12) none (.q (.mov (.t 80)))
  .nil))))))))) [2, 3, 5, 9, 12] [2, 3, 6, 8, 11])
 (.seq (.region none (.op (some 81) none (.q (.faddr 1 (.t 2)))
  (.op (some 82) none (.q (.load 1 false (.t 81)))
  (.op (some 83) none (.q (.len (.t 82)))
  (.op (some 84) none (.q (.bin .neq (.t 83) (.c (.one (.p (.int .i64 1))))))
  (.op (some 85) none (.q (.mov (.t 84)))
  (.sc 90 85 false 89 none
  (.op (some 86) (some (85, false)) (.q (.faddr 1 (.t 3)))
  (.op (some 87) (some (85, false)) (.q (.load 1 false (.t 86)))
  (.op (some 88) (some (85, false)) (.q (.len (.t 87)))
  (.op (some 89) (some (85, false)) (.q (.bin .neq (.t 88) (.c (.one (.p (.int .i64 1))))))
  .nil))))
  (.op (some 13) none (.q (.mov (.t 90)))
  .nil))))))) [2, 3, 5, 9, 12, 13] [2, 3, 6, 8, 11])
 (.seq (.seq (.region none (.op (some 91) none (.q (.mov (.t 13)))
  (.op (some 92) none (.q (.un .not (.t 91)))
  .nil)) [2, 3, 5, 9, 12, 13, 92] [2, 3, 6, 8, 11])
 (.cond (.t 92) (.seq (.region none (.op (some 94) none (.q (.load 2 true (.t 2)))
  (.op (some 95) none (.q (.load 2 true (.t 3)))
  (.op (some 96) none (.call (.c (.one (.p (.fn fi_matmul_Mul [] [])))) [(.t 94), (.t 95)])
  (.op (some 93) none (.q (.mov (.t 96)))
  (.op (some 97) none (.q (.extr (.t 93) 0))
  (.op (some 98) none (.q (.extr (.t 93) 1))
  (.op (some 14) none (.n (.alloc [.nils, .nils]))
  (.op none none (.s (.store 2 (.t 14) (.t 97)))
  (.op (some 15) none (.q (.mov (.t 98)))
  .nil))))))))) [2, 3, 5, 9, 12, 14, 15] [2, 3, 6, 8, 11, 14])
 (.seq (.region (some [[], [], [], [], [0, 1, 2, 3], [0, 1, 2, 3], [0, 1, 2, 3], [0, 1, 2, 3], [], [], [], [10], [11], []]) (.op (some 100) none (.q (.faddr 1 (.t 2)))
  (.op (some 101) none (.q (.load 1 false (.t 100)))
  (.op (some 102) none (.q (.iaddr 1 (.t 101) (.c (.one (.p (.int .i64 0))))))
  (.op (some 103) none (.q (.load 1 false (.t 102)))
  (.op (some 104) none (.q (.faddr 1 (.t 3)))
  (.op (some 105) none (.q (.load 1 false (.t 104)))
  (.op (some 106) none (.q (.iaddr 1 (.t 105) (.c (.one (.p (.int .i64 0))))))
  (.op (some 107) none (.q (.load 1 false (.t 106)))
  (.op (some 108) none (.call (.c (.one (.p (.fn fi_fix_Mul [] [])))) [(.t 103), (.t 107)])
  (.op (some 99) none (.q (.mov (.t 108)))
  (.op (some 109) none (.q (.extr (.t 99) 0))
  (.op (some 110) none (.q (.extr (.t 99) 1))
  (.op (some 16) none (.q (.mov (.t 109)))
  (.op (some 17) none (.q (.mov (.t 110)))
  .nil)))))))))))))) [5, 9, 12, 14, 15, 16, 17] [2, 3, 6, 8, 11, 14])
 (.region none (.op (some 111) none (.q (.mov (.t 15)))
  (.op (some 112) none (.q (.mov (.t 17)))
  (.op (some 113) none (.q (.bin .eql (.t 111) (.t 112)))
  (.op (some 114) none (.q (.mov (.t 113)))
  (.sc 131 114 true 130 none
  (.op (some 115) (some (114, true)) (.q (.mov (.t 15)))
  (.op (some 116) (some (114, true)) (.q (.bin .neq (.t 115) (.c (.one (.p (.int .i64 0))))))
  (.op (some 117) (some (114, true)) (.q (.mov (.t 116)))
  (.sc 130 117 false 129 (some (114, true))
  (.op (some 118) (some (117, false)) (.q (.faddr 1 (.t 14)))
  (.op (some 119) (some (117, false)) (.q (.load 1 false (.t 118)))
  (.op (some 120) (some (117, false)) (.q (.len (.t 119)))
  (.op (some 121) (some (117, false)) (.q (.bin .eql (.t 120) (.c (.one (.p (.int .i64 1))))))
  (.op (some 122) (some (117, false)) (.q (.mov (.t 121)))
  (.sc 129 122 true 128 (some (117, false))
  (.op (some 123) (some (122, true)) (.q (.faddr 1 (.t 14)))
  (.op (some 124) (some (122, true)) (.q (.load 1 false (.t 123)))
  (.op (some 125) (some (122, true)) (.q (.iaddr 1 (.t 124) (.c (.one (.p (.int .i64 0))))))
  (.op (some 126) (some (122, true)) (.q (.load 1 false (.t 125)))
  (.op (some 127) (some (122, true)) (.q (.mov (.t 16)))
  (.op (some 128) (some (122, true)) (.q (.bin .eql (.t 126) (.t 127)))
  .nil))))))
  .nil))))))
  .nil))))
  (.op (some 13) none (.q (.mov (.t 131)))
  .nil)))))) [5, 9, 12, 13] [2, 3, 6, 8, 11, 14])))
 .skip))
 (.seq (.region none (.op (some 132) none (.q (.mov (.t 5)))
  (.op (some 133) none (.q (.mov (.t 132)))
  (.sc 135 133 true 134 none
  (.op (some 134) (some (133, true)) (.q (.mov (.t 13)))
  .nil)
  (.op (some 136) none (.q (.mov (.t 135)))
  (.sc 144 136 true 143 none
  (.op (some 137) (some (136, true)) (.q (.mov (.t 9)))
  (.op (some 138) (some (136, true)) (.q (.bin .eql (.t 137) (.c (.one (.p (.int .i64 0))))))
  (.op (some 139) (some (136, true)) (.q (.mov (.t 138)))
  (.sc 143 139 false 142 (some (136, true))
  (.op (some 140) (some (139, false)) (.q (.mov (.t 12)))
  (.op (some 141) (some (139, false)) (.q (.mov (.t 9)))
  (.op (some 142) (some (139, false)) (.q (.bin .eql (.t 140) (.t 141)))
  .nil)))
  .nil))))
  (.op (some 145) none (.q (.mov (.t 144)))
  (.sc 151 145 true 150 none
  (.op (some 146) (some (145, true)) (.q (.mov (.t 9)))
  (.op (some 147) (some (145, true)) (.q (.bin .neq (.t 146) (.c (.one (.p (.int .i64 20))))))
  (.op (some 148) (some (145, true)) (.q (.mov (.t 12)))
  (.op (some 149) (some (145, true)) (.q (.bin .neq (.t 148) (.c (.one (.p (.int .i64 20))))))
  (.op (some 150) (some (145, true)) (.q (.eqB false (.t 147) (.t 149)))
  .nil)))))
  (.op (some 4) none (.q (.mov (.t 151)))
  .nil)))))))) [4] [2, 3, 6, 8, 11, 14])
 .ret))))))))))
theorem is_fullerlaw07_MatmulZero : compC Try.prog (Try.f6.body.getD .skip) = some a_fullerlaw07_MatmulZero.erase := by kernel_rfl
theorem ok_fullerlaw07_MatmulZero : a_fullerlaw07_MatmulZero.ok 152 = true := by kernel_rfl
theorem rv_fullerlaw07_MatmulZero : compRV Try.prog Try.f6.results.toList = some [.tmp 4] := by kernel_rfl
theorem pure_fullerlaw07_MatmulZero {ds : List DV} {r : DV} (hn : ds.length ≤ 152) (h : ∀ (G : AM.Ground), G.P = Try.prog → G.nt = 152 → T G Fence.wide 0 a_fullerlaw07_MatmulZero (AM.Ends [.tmp 4] r) { env := initE 0 ds, σ := [] }) : PureC Try.prog fi_fullerlaw07_MatmulZero ds r :=
  pureC_of Try.call6 Try.func6 (by rfl) is_fullerlaw07_MatmulZero ok_fullerlaw07_MatmulZero rv_fullerlaw07_MatmulZero hn h

def a_tensor_Full : ACode := (.seq (.region none (.op (some 4) none (.n (.alloc [.nils, .nils]))
  (.op (some 5) none (.q (.mov (.c (.one (.p (.int .i64 0))))))
  .nil)) [0, 1, 4] [4])
 (.seq (.seq (.region none (.op (some 6) none (.q (.mov (.t 0)))
  (.op (some 7) none (.call (.c (.one (.p (.fn fi_shape_Check [] [])))) [(.t 6)])
  (.op (some 8) none (.q (.un .not (.t 7)))
  .nil))) [0, 1, 4, 8] [4])
 (.cond (.t 8) (.seq (.region none (.op (some 9) none (.q (.build [.nils, .nils] []))
  (.op none none (.s (.store 2 (.t 4) (.t 9)))
  (.op (some 5) none (.q (.mov (.c (.one (.p (.int .i64 20))))))
  .nil))) [4, 5] [4])
 .ret)
 .skip))
 (.seq (.region none (.op (some 10) none (.q (.mov (.t 0)))
  (.op (some 11) none (.call (.c (.one (.p (.fn fi_slices_Clone_int_int [] [])))) [(.t 10)])
  (.op (some 12) none (.q (.mov (.t 1)))
  (.op (some 13) none (.n (.lit 1 1 [(.int .i64 0)] [(0, (.t 12))]))
  (.op (some 14) none (.q (.mov (.t 0)))
  (.op (some 15) none (.call (.c (.one (.p (.fn fi_shape_Size [] [])))) [(.t 14)])
  (.op (some 16) none (.call (.c (.one (.p (.fn fi_slices_Repeat_int_int [] [])))) [(.t 13), (.t 15)])
  (.op (some 17) none (.q (.build [.nils, .nils] [(0, 1, (.t 11)), (1, 1, (.t 16))]))
  (.op none none (.s (.store 2 (.t 4) (.t 17)))
  (.op (some 5) none (.q (.mov (.c (.one (.p (.int .i64 0))))))
  .nil)))))))))) [4, 5] [4, 13])
 .ret)))
theorem is_tensor_Full : compC Try.prog (Try.f31.body.getD .skip) = some a_tensor_Full.erase := by kernel_rfl
theorem ok_tensor_Full : a_tensor_Full.ok 18 = true := by kernel_rfl
theorem rv_tensor_Full : compRV Try.prog Try.f31.results.toList = some [.cell 2 true 4, .tmp 5] := by kernel_rfl
theorem pure_tensor_Full {ds : List DV} {r : DV} (hn : ds.length ≤ 18) (h : ∀ (G : AM.Ground), G.P = Try.prog → G.nt = 18 → T G Fence.wide 0 a_tensor_Full (AM.Ends [.cell 2 true 4, .tmp 5] r) { env := initE 0 ds, σ := [] }) : PureC Try.prog fi_tensor_Full ds r :=
  pureC_of Try.call31 Try.func31 (by rfl) is_tensor_Full ok_tensor_Full rv_tensor_Full hn h

def a_slices_Repeat_int_int : ACode := (.seq (.region none (.op (some 4) none (.q (.mov (.c (.one .nils))))
  .nil) [0, 1] [])
 (.seq (.seq (.region none (.op (some 9) none (.q (.mov (.t 1)))
  (.op (some 10) none (.q (.bin .lss (.t 9) (.c (.one (.p (.int .i64 0))))))
  .nil)) [0, 1, 10] [])
 (.cond (.t 10) (.region none (.op (some 11) none .bad
  (.op none none .bad
  .nil)) [0, 1] [])
 .skip))
 (.seq (.region none (.op (some 13) none (.q (.mov (.t 0)))
  (.op (some 14) none (.q (.len (.t 13)))
  (.op (some 15) none (.q (.conv .u64 (.t 14)))
  (.op (some 16) none (.q (.mov (.t 1)))
  (.op (some 17) none (.q (.conv .u64 (.t 16)))
  (.op (some 18) none (.call (.c (.one (.p (.fn fi_math_bits_Mul [] [])))) [(.t 15), (.t 17)])
  (.op (some 12) none (.q (.mov (.t 18)))
  (.op (some 19) none (.q (.extr (.t 12) 0))
  (.op (some 20) none (.q (.extr (.t 12) 1))
  (.op (some 5) none (.q (.mov (.t 19)))
  (.op (some 6) none (.q (.mov (.t 20)))
  .nil))))))))))) [0, 5, 6] [])
 (.seq (.seq (.region none (.op (some 21) none (.q (.mov (.t 5)))
  (.op (some 22) none (.q (.bin .gtr (.t 21) (.c (.one (.p (.int .u64 0))))))
  (.op (some 23) none (.q (.mov (.t 22)))
  (.sc 26 23 false 25 none
  (.op (some 24) (some (23, false)) (.q (.mov (.t 6)))
  (.op (some 25) (some (23, false)) (.q (.bin .gtr (.t 24) (.c (.one (.p (.int .u64 9223372036854775807))))))
  .nil))
  .nil)))) [0, 6, 26] [])
 (.cond (.t 26) (.region none (.op (some 27) none .bad
  (.op none none .bad
  .nil)) [0, 6] [])
 .skip))
 (.seq (.region none (.op (some 28) none (.q (.mov (.t 6)))
  (.op (some 29) none (.q (.conv .i64 (.t 28)))
  (.op (some 30) none (.n (.mkS 1 8 [(.int .i64 0)] (.t 29) (.t 29)))
  (.op (some 7) none (.q (.mov (.t 30)))
  .nil)))) [0, 7] [30])
 (.seq (.region none (.op (some 31) none (.q (.mov (.t 7)))
  (.op (some 32) none (.q (.mov (.t 0)))
  (.op (some 33) none (.s (.copy 1 (.t 31) (.t 32)))
  (.op (some 8) none (.q (.mov (.t 33)))
  .nil)))) [7, 8] [30])
 (.seq (.block 0 (.loop (.seq (.seq (.region none (.op (some 34) none (.q (.mov (.t 8)))
  (.op (some 35) none (.q (.mov (.t 7)))
  (.op (some 36) none (.q (.len (.t 35)))
  (.op (some 37) none (.q (.bin .lss (.t 34) (.t 36)))
  .nil)))) [7, 8, 37] [30])
 (.cond (.t 37) .skip
 (.exit 0)))
 (.block 1 (.region (some [[], [0], [0, 1], [0], [0, 1, 2, 3], [0, 1, 2, 3, 4], [0, 1, 2, 3], [0], [], []]) (.op (some 38) none (.q (.mov (.t 8)))
  (.op (some 39) none (.q (.mov (.t 7)))
  (.op (some 40) none (.q (.mov (.t 8)))
  (.op (some 41) none (.q (.slc 1 (.t 39) (some (.t 40)) none none))
  (.op (some 42) none (.q (.mov (.t 7)))
  (.op (some 43) none (.q (.mov (.t 8)))
  (.op (some 44) none (.q (.slc 1 (.t 42) none (some (.t 43)) none))
  (.op (some 45) none (.s (.copy 1 (.t 41) (.t 44)))
  (.op (some 46) none (.q (.bin .add (.t 38) (.t 45)))
  (.op (some 8) none (.q (.mov (.t 46)))
  .nil)))))))))) [7, 8] [30])))))
 (.seq (.region none (.op (some 47) none (.q (.mov (.t 7)))
  (.op (some 4) none (.q (.mov (.t 47)))
  .nil)) [4] [30])
 .ret))))))))
theorem is_slices_Repeat_int_int : compC Try.prog (Try.f70.body.getD .skip) = some a_slices_Repeat_int_int.erase := by kernel_rfl
theorem ok_slices_Repeat_int_int : a_slices_Repeat_int_int.ok 48 = true := by kernel_rfl
theorem rv_slices_Repeat_int_int : compRV Try.prog Try.f70.results.toList = some [.tmp 4] := by kernel_rfl
theorem mut_slices_Repeat_int_int {vs : List AV} {σ σ' : Sto} {r : AV} {fr : List Nat} (hn : vs.length ≤ 48) (h : ∀ (G : AM.Ground) (ex : List AV), G.P = Try.prog → G.nt = 48 → (∀ d ∈ fr, ex.all (fun v => !v.has d) = true) → T G Fence.wide 0 a_slices_Repeat_int_int (EndsM [.tmp 4] r σ' ex) { env := initV 0 vs, σ := σ, ex := ex }) : MutC Try.prog fi_slices_Repeat_int_int vs σ r σ' fr :=
  mutC_of Try.call70 Try.func70 (by rfl) is_slices_Repeat_int_int ok_slices_Repeat_int_int rv_slices_Repeat_int_int hn h

def a_math_bits_Mul : ACode := (.seq (.region none (.op (some 4) none (.q (.mov (.c (.one (.p (.int .u64 0))))))
  (.op (some 5) none (.q (.mov (.c (.one (.p (.int .u64 0))))))
  .nil)) [0, 1] [])
 (.seq (.cond (.c (.one (.p (.bool false)))) (.seq (.region none (.op (some 11) none (.q (.mov (.t 0)))
  (.op (some 12) none (.q (.conv .u32 (.t 11)))
  (.op (some 13) none (.q (.mov (.t 1)))
  (.op (some 14) none (.q (.conv .u32 (.t 13)))
  (.op (some 15) none (.call (.c (.one (.p (.fn fi_math_bits_Mul32 [] [])))) [(.t 12), (.t 14)])
  (.op (some 10) none (.q (.mov (.t 15)))
  (.op (some 16) none (.q (.extr (.t 10) 0))
  (.op (some 17) none (.q (.extr (.t 10) 1))
  (.op (some 6) none (.q (.mov (.t 16)))
  (.op (some 7) none (.q (.mov (.t 17)))
  .nil)))))))))) [6, 7] [])
 (.seq (.region none (.op (some 18) none (.q (.mov (.t 6)))
  (.op (some 19) none (.q (.conv .u64 (.t 18)))
  (.op (some 20) none (.q (.mov (.t 7)))
  (.op (some 21) none (.q (.conv .u64 (.t 20)))
  (.op (some 4) none (.q (.mov (.t 19)))
  (.op (some 5) none (.q (.mov (.t 21)))
  .nil)))))) [4, 5] [])
 .ret))
 .skip)
 (.seq (.region none (.op (some 23) none (.q (.mov (.t 0)))
  (.op (some 24) none (.q (.mov (.t 1)))
  (.op (some 25) none (.call (.c (.one (.p (.fn fi_math_bits_Mul64 [] [])))) [(.t 23), (.t 24)])
  (.op (some 22) none (.q (.mov (.t 25)))
  (.op (some 26) none (.q (.extr (.t 22) 0))
  (.op (some 27) none (.q (.extr (.t 22) 1))
  (.op (some 8) none (.q (.mov (.t 26)))
  (.op (some 9) none (.q (.mov (.t 27)))
  .nil)))))))) [8, 9] [])
 (.seq (.region none (.op (some 28) none (.q (.mov (.t 8)))
  (.op (some 29) none (.q (.mov (.t 9)))
  (.op (some 4) none (.q (.mov (.t 28)))
  (.op (some 5) none (.q (.mov (.t 29)))
  .nil)))) [4, 5] [])
 .ret))))
theorem is_math_bits_Mul : compC Try.prog (Try.f119.body.getD .skip) = some a_math_bits_Mul.erase := by kernel_rfl
theorem ok_math_bits_Mul : a_math_bits_Mul.ok 30 = true := by kernel_rfl
theorem rv_math_bits_Mul : compRV Try.prog Try.f119.results.toList = some [.tmp 4, .tmp 5] := by kernel_rfl
theorem pure_math_bits_Mul {ds : List DV} {r : DV} (hn : ds.length ≤ 30) (h : ∀ (G : AM.Ground), G.P = Try.prog → G.nt = 30 → T G Fence.wide 0 a_math_bits_Mul (AM.Ends [.tmp 4, .tmp 5] r) { env := initE 0 ds, σ := [] }) : PureC Try.prog fi_math_bits_Mul ds r :=
  pureC_of Try.call119 Try.func119 (by rfl) is_math_bits_Mul ok_math_bits_Mul rv_math_bits_Mul hn h

end Go.AM

namespace Go.AM
open Go Go.Proofs
set_option maxRecDepth 100000
set_option maxHeartbeats 4000000
set_option linter.unusedSimpArgs false
set_option linter.unusedVariables false

theorem ends_twoM {rv : List RV} {s : AS} {t1 t2 k1 k2 l1 l2 : Nat} {cap1 cap2 : Option Nat} {rows1 rows2 : List (List PV)} {tl : List AV} {ds : List DV} {r : DV} (hne : t1 ≠ t2)
    (h1 : evRV rv s.env s.σ = some (.agg [.msl t1 0 k1 l1 cap1, .msl t2 0 k2 l2 cap2] :: tl)) (h2 : lo s.σ t1 = .arr true k1 rows1) (h3 : lo s.σ t2 = .arr true k2 rows2) (hl1 : l1 = rows1.length) (hl2 : l2 = rows2.length)
    (ht : (tl = [] ∧ ds = []) ∨ ∃ v, tl = [.one (.p v)] ∧ ds = [.one v]) (hr : r = resD (.agg [.sl rows1, .sl rows2] :: ds)) :
    Ends rv r .ret s := by
  have h4 : foldP (toP 6) [.msl t1 0 k1 l1 cap1, .msl t2 0 k2 l2 cap2] s.σ = some ([.sl rows1, .sl rows2], (t2, .arr false k2 rows2) :: (t1, .arr false k1 rows1) :: s.σ) := by
    have e1 := toD_list (n := 5) (cap := cap1) h2 hl1
    have e2 := toD_list (n := 5) (cap := cap2) (σ := (t1, .arr false k1 rows1) :: s.σ) (t := t2) (k := k2) (rows := rows2) (m := true) (by rw [← h3]; simp [lo, hne.symm]) hl2
    simp only [if_true] at e1 e2
    simp only [foldP, e1, e2]
  rcases ht with ⟨rfl, rfl⟩ | ⟨v, rfl, rfl⟩
  · exact ends_ret (ds := [.agg [.sl rows1, .sl rows2]]) (σ' := (t2, .arr false k2 rows2) :: (t1, .arr false k1 rows1) :: s.σ) h1 (by simp only [toDs, toD, h4]) rfl hr.symm
  · exact ends_ret (ds := [.agg [.sl rows1, .sl rows2], .one v]) (σ' := (t2, .arr false k2 rows2) :: (t1, .arr false k1 rows1) :: s.σ) h1 (by simp only [toDs, toD, h4]; rfl) rfl hr.symm

end Go.AM

namespace Go.AM
open Go Go.Proofs
set_option maxRecDepth 100000
set_option maxHeartbeats 4000000
set_option linter.unusedSimpArgs false
set_option linter.unusedVariables false

theorem tab_const (n p : Nat) (v : Int) : tab n p (fun _ _ => v) = List.replicate (n * p) v := by
  unfold tab
  rw [List.map_const']; simp

theorem cel_one {d e : List Int} (x y : Int) (hd : d = [x]) (he : e = [y]) : cel 1 1 d e 0 0 = if (fMul x y).2 = 0 then ((fMul x y).1, 0) else (0, (fMul x y).2) := by
  subst hd; subst he
  unfold cel
  have e1 : gt [x] (0 * 1 + 0) = x := rfl
  have e2 : gt [y] (0 * 1 + 0) = y := rfl
  simp only [dot, e1, e2]
  split
  · rw [zero_fAdd (fMul_range x y)]; rfl
  · rfl
/-- tables of one number -/
theorem mul_single {s d t e : List Int} (h1 : checkT s d = true) (h2 : checkT t e = true) (hs : s.length = 2) (ht : t.length = 2) {x y : Int} (hd : d = [x]) (he : e = [y]) :
    mulF s d t e = if (fMul x y).2 = 0 then (([1, 1], [(fMul x y).1]), 0) else bad (fMul x y).2 := by
  obtain ⟨m, n, rfl⟩ := len2 h1 hs
  obtain ⟨n', p, rfl⟩ := len2 h2 ht
  obtain ⟨a1, a2⟩ := checkT2.1 h1
  obtain ⟨b1, b2⟩ := checkT2.1 h2
  have ka := ok2 a1
  have kb := ok2 b1
  rw [hd] at a2; rw [he] at b2
  simp only [List.length_cons, List.length_nil, Nat.zero_add] at a2 b2
  have hm : m = 1 := Nat.eq_one_of_mul_eq_one_right a2.symm
  have hn : n = 1 := Nat.eq_one_of_mul_eq_one_left a2.symm
  have hn' : n' = 1 := Nat.eq_one_of_mul_eq_one_right b2.symm
  have hp : p = 1 := Nat.eq_one_of_mul_eq_one_left b2.symm
  subst hm hn hn' hp
  have hc := cel_one x y hd he
  split
  · rename_i h0
    rw [if_pos h0] at hc
    rw [mul_go h1 h2 (by decide) (fun i j hi hj => by
      have hi0 : i = 0 := by omega
      have hj0 : j = 0 := by omega
      rw [hi0, hj0, hc])]
    unfold prod tab
    simp only [Nat.mul_one, List.range_one, List.map_cons, List.map_nil, Nat.zero_div, Nat.zero_mod, hc]
    rfl
  · rename_i h0
    rw [if_neg h0] at hc
    rw [mul_stop h1 h2 (by decide) (fun hg => by have := hg 0 0 (by omega) (by omega); rw [hc] at this; exact h0 this)]
    have : (fMul x y).2 = 10 := by
      rcases rng_err (x * y / 4294967296) with h | h
      · exact absurd h h0
      · exact h
    rw [this]
end Go.AM

namespace Go.AM
open Go Go.Proofs
set_option maxRecDepth 100000
set_option maxHeartbeats 4000000
set_option linter.unusedSimpArgs false
set_option linter.unusedVariables false

theorem p_bits_Mul {x y : Nat} (hx : x < 18446744073709551616) (hy : y < 18446744073709551616) : PureC Try.prog fi_math_bits_Mul [dU x, dU y] (dUU (x * y / 18446744073709551616) (x * y % 18446744073709551616)) := by
  refine pure_math_bits_Mul (by simp) fun G hP hn => ?_
  unfold a_math_bits_Mul
  have k := p_bits_Mul64 hx hy
  have w1 := u64_nat hx
  have w2 := u64_nat hy
  have w3 : IntKind.u64.wrap ((x * y / 18446744073709551616 : Nat) : Int) = ((x * y / 18446744073709551616 : Nat) : Int) := u64_nat (by
    have : x * y < 18446744073709551616 * 18446744073709551616 := Nat.mul_lt_mul'' hx hy
    omega)
  have w4 : IntKind.u64.wrap ((x * y % 18446744073709551616 : Nat) : Int) = ((x * y % 18446744073709551616 : Nat) : Int) := u64_nat (by omega)
  generalize x * y / 18446744073709551616 = h at *
  generalize x * y % 18446744073709551616 = l at *
  repeat' (first | apply T_then | apply then_ret | apply then_exit | apply then_goto | apply rnd_exit | apply rnd_ret | apply rnd_goto | apply noGo_normal | apply noGo_ret | apply noGo_exit | apply jmp_normal | apply jmp_ret | apply jmp_exit | apply jmp_goto | apply inB_normal | apply inB_ret | apply inB_goto | apply inB_exit | refine inB_exit_ne rfl ?_ | ((first | apply T_srK fw | apply T_regK fw); · ((try simp only [TOps.flat, List.cons_append, List.nil_append]); repeat (first | apply X_g0 | apply X_g | apply S_keep | apply X_skip | apply X_skipN | refine X_call ?_ ⟨_, _, _, _, _, _, rfl, rfl, rfl, by rw [hP]; exact k⟩ ?_ | apply X_q | apply X_st | apply X_n | apply X_s | apply SKs0 | apply SKs2 | apply SKs1 | refine ⟨⟨rfl, rfl⟩, ?_⟩ | refine ⟨⟨rfl, ?_⟩, ?_⟩ | refine ⟨?_, ?_⟩ | (· (try simp only [go_sem, seval, reduceIte, ↓reduceIte, Bool.not_eq_true, reduceCtorEq, beq_false, beq_true, hn, hP, w1, w2, w3, w4]); first | done | rfl)))) | apply T_seq | apply T_block | refine T_scopeJ 0 rfl ?_ | apply T_scope | apply T_goto | apply T_ret | apply T_skip | apply T_exit | apply T_label | refine T_condT rfl ?_ | refine T_condF rfl ?_ | refine T_condD rfl (fun _ => ?_) (fun _ => ?_) | refine T_cond rfl (fun _ => ?_) (fun _ => ?_))
  exact ends_ret rfl rfl rfl rfl

def repL (v : Int) (k n : Nat) : List Int := List.replicate n v ++ List.replicate (k - n) 0

theorem m_slices_Repeat (v : Int) (k : Nat) (h1 : 1 ≤ k) (h2 : k ≤ 64) : MutC Try.prog fi_slices_Repeat_int_int [.one (.msl 13 0 1 1 none), .one (.p (.int .i64 k))] [(13, .arr true 1 (rI [v]))]
    (.one (.msl 30 0 1 k (some k))) [(13, .arr true 1 (rI [v])), (30, .arr true 1 (rI (List.replicate k v)))] [30] := by
  refine mut_slices_Repeat_int_int (by simp) fun G ex hP hn hfr => ?_
  unfold a_slices_Repeat_int_int
  have hfr := hfr 30 (by simp)
  have kb := p_bits_Mul (x := 1) (y := k) (by omega) (by omega)
  rw [Nat.one_mul, show k / 18446744073709551616 = 0 from by omega, show k % 18446744073709551616 = k from by omega] at kb
  have w1 : IntKind.u64.wrap (1 : Int) = 1 := by decide
  have w2 := u64_nat (n := k) (by omega)
  have w3 : IntKind.i64.wrap (k : Int) = (k : Int) := wrap_in (by omega) (by omega)
  have c0 : ¬ (k : Int) < 0 := by omega
  have c1 : ¬ (k : Int) > 9223372036854775807 := by omega
  have hM : MaxN = 140737488355328 := rfl
  have q1 : (k : Int) * 8 ≤ MaxN := by omega
  have q2 : (k : Int) ≤ MaxN := by omega
  have m1 : min (1 : Int) (k : Int) = 1 := by omega
  repeat' (first | apply T_then | apply then_ret | apply then_exit | apply then_goto | apply rnd_exit | apply rnd_ret | apply rnd_goto | apply noGo_normal | apply noGo_ret | apply noGo_exit | apply jmp_normal | apply jmp_ret | apply jmp_exit | apply jmp_goto | apply inB_normal | apply inB_ret | apply inB_goto | apply inB_exit | refine inB_exit_ne rfl ?_ | ((first | apply T_srK fw | apply T_regK fw); · ((try simp only [TOps.flat, List.cons_append, List.nil_append]); repeat (first | apply X_g0 | apply X_g | apply S_keep | apply X_skip | apply X_skipN | refine X_call ?_ ⟨_, _, _, _, _, _, rfl, rfl, rfl, by rw [hP]; exact kb⟩ ?_ | apply X_q | apply X_st | apply X_n | apply X_s | apply SKs0 | apply SKs2 | apply SKs1 | refine ⟨⟨rfl, rfl⟩, ?_⟩ | refine ⟨⟨rfl, ?_⟩, ?_⟩ | refine ⟨?_, ?_⟩ | (· (try simp only [go_sem, seval, reduceIte, ↓reduceIte, Bool.not_eq_true, reduceCtorEq, beq_false, beq_true, hn, hP, w1, w2, w3, c0, c1, m1, q1, q2, hfr, scr_ex hfr, Int.le_refl]); first | done | rfl)))) | apply T_seq | apply T_block | refine T_scopeJ 0 rfl ?_ | apply T_scope | apply T_goto | apply T_ret | apply T_skip | apply T_exit | apply T_label | refine T_condT rfl ?_ | refine T_condF rfl ?_ | refine T_condD rfl (fun _ => ?_) (fun _ => ?_) | refine T_cond rfl (fun _ => ?_) (fun _ => ?_))
  have e0 : List.take k [[PV.int IntKind.i64 v]] = [[PV.int IntKind.i64 v]] := List.take_of_length_le (by simpa using h1)
  refine T_for k (fun i (n : Nat) => { env := [(7, .one (.msl 30 0 1 k (some k))), (8, .one (.p (.int .i64 n)))], σ := [(30, .arr true 1 (rI (repL v k n))), (13, .arr true 1 (rI [v]))], ex := ex })
    (fun i n => i < n ∧ n ≤ k) 1 ⟨by omega, h1⟩ ?_ fun i n hi hc => ?_
  · refine Weak.sub fun p hp => ?_
    simp only [List.mem_cons, List.not_mem_nil, or_false] at hp
    rcases hp with rfl | rfl
    · simp [lo, e0, repL, rI]
    · rfl
  obtain ⟨c1, c2⟩ := hc
  by_cases hlt : n < k
  · have c3 : (n : Int) < k := by omega
    have c4 : (n : Int) ≤ k := by omega
    repeat' (first | apply T_then | apply then_ret | apply then_exit | apply then_goto | apply rnd_exit | apply rnd_ret | apply rnd_goto | apply noGo_normal | apply noGo_ret | apply noGo_exit | apply jmp_normal | apply jmp_ret | apply jmp_exit | apply jmp_goto | apply inB_normal | apply inB_ret | apply inB_goto | apply inB_exit | refine inB_exit_ne rfl ?_ | ((first | apply T_srK fw | apply T_regK fw); · ((try simp only [TOps.flat, List.cons_append, List.nil_append]); repeat (first | apply X_g0 | apply X_g | apply S_keep | apply X_skip | apply X_skipN | apply X_q | apply X_st | apply X_n | apply X_s | apply SKs0 | apply SKs2 | apply SKs1 | refine ⟨⟨rfl, rfl⟩, ?_⟩ | refine ⟨⟨rfl, ?_⟩, ?_⟩ | refine ⟨?_, ?_⟩ | (· (try simp only [go_sem, seval, reduceIte, ↓reduceIte, Bool.not_eq_true, reduceCtorEq, beq_false, beq_true, hn, hP, c3, c4, c2, Int.le_refl]); first | done | rfl)))) | apply T_seq | apply T_block | refine T_scopeJ 0 rfl ?_ | apply T_scope | apply T_goto | apply T_ret | apply T_skip | apply T_exit | apply T_label | refine T_condT rfl ?_ | refine T_condF rfl ?_ | refine T_condD rfl (fun _ => ?_) (fun _ => ?_) | refine T_cond rfl (fun _ => ?_) (fun _ => ?_))
    have n0 : ¬ n = 0 := by omega
    have n1 : ¬ n = k := by omega
    have hl : (repL v k n).length = k := by simp [repL]; omega
    have c5 : n + (k - n) = k := by omega
    have e1 : (List.take (k - n) (List.take n (rI (repL v k n)))) = rI (List.replicate (min n (k - n)) v) := by
      simp [repL, rI, List.take_append_of_le_length, List.take_replicate, Nat.min_comm]
    have e2 : (List.take n (rI (repL v k n))).length = n := by simp [hl]; omega
    have w4 : IntKind.i64.wrap ((n : Int) + min (n : Int) ((k - n : Nat) : Int)) = ((n + min n (k - n) : Nat) : Int) := by rw [wrap_in (by omega) (by omega)]; omega
    have e3 : List.take n (rI (repL v k n)) ++ rI (List.replicate (min n (k - n)) v) ++ List.drop (n + min n (k - n)) (rI (repL v k n)) = rI (repL v k (n + min n (k - n))) := by
      rw [← List.map_take, ← List.map_drop, ← List.map_append, ← List.map_append]
      congr 1
      unfold repL
      rw [List.take_append_of_le_length (by simp), List.take_of_length_le (by simp), List.drop_append, List.drop_of_length_le (by simp), List.nil_append, List.length_replicate, List.drop_replicate, List.replicate_append_replicate]
      congr 2
      omega
    apply T_dr fw (by rw [hP]; rfl)
    · simp only [go_sem, seval, reduceIte, ↓reduceIte, bne, beq_false, beq_true, Bool.not_eq_true, Bool.if_true_right, decide_not, reduceCtorEq, hP, all1, n0, n1, hlt, hl, c3, c4, c2, c5, e1, e2, w4, Nat.le_refl, Int.le_refl]
      exact rfl
    repeat' (first | apply T_then | apply then_ret | apply then_exit | apply then_goto | apply rnd_exit | apply rnd_ret | apply rnd_goto | apply noGo_normal | apply noGo_ret | apply noGo_exit | apply jmp_normal | apply jmp_ret | apply jmp_exit | apply jmp_goto | apply inB_normal | apply inB_ret | apply inB_goto | apply inB_exit | refine inB_exit_ne rfl ?_ | ((first | apply T_srK fw | apply T_regK fw); · ((try simp only [TOps.flat, List.cons_append, List.nil_append]); repeat (first | apply X_g0 | apply X_g | apply S_keep | apply X_skip | apply X_skipN | apply X_q | apply X_st | apply X_n | apply X_s | apply SKs0 | apply SKs2 | apply SKs1 | refine ⟨⟨rfl, rfl⟩, ?_⟩ | refine ⟨⟨rfl, ?_⟩, ?_⟩ | refine ⟨?_, ?_⟩ | (· (try simp only [go_sem, seval, reduceIte, ↓reduceIte, Bool.not_eq_true, reduceCtorEq, beq_false, beq_true, hn, hP]); first | done | rfl)))) | apply T_seq | apply T_block | refine T_scopeJ 0 rfl ?_ | apply T_scope | apply T_goto | apply T_ret | apply T_skip | apply T_exit | apply T_label | refine T_condT rfl ?_ | refine T_condF rfl ?_ | refine T_condD rfl (fun _ => ?_) (fun _ => ?_) | refine T_cond rfl (fun _ => ?_) (fun _ => ?_))
    refine rnd_next (by omega) (n + min n (k - n)) ⟨by omega, by omega⟩ (Weak.sub fun p hp => ?_)
    simp only [List.mem_cons, List.not_mem_nil, or_false] at hp
    rcases hp with rfl | rfl
    · rw [← e3]; simp [lo]
    · rfl
  · have c3 : ¬ (n : Int) < k := by omega
    have hnk : n = k := by omega
    repeat' (first | apply T_then | apply then_ret | apply then_exit | apply then_goto | apply rnd_exit | apply rnd_ret | apply rnd_goto | apply noGo_normal | apply noGo_ret | apply noGo_exit | apply jmp_normal | apply jmp_ret | apply jmp_exit | apply jmp_goto | apply inB_normal | apply inB_ret | apply inB_goto | apply inB_exit | refine inB_exit_ne rfl ?_ | ((first | apply T_srK fw | apply T_regK fw); · ((try simp only [TOps.flat, List.cons_append, List.nil_append]); repeat (first | apply X_g0 | apply X_g | apply S_keep | apply X_skip | apply X_skipN | apply X_q | apply X_st | apply X_n | apply X_s | apply SKs0 | apply SKs2 | apply SKs1 | refine ⟨⟨rfl, rfl⟩, ?_⟩ | refine ⟨⟨rfl, ?_⟩, ?_⟩ | refine ⟨?_, ?_⟩ | (· (try simp only [go_sem, seval, reduceIte, ↓reduceIte, Bool.not_eq_true, reduceCtorEq, beq_false, beq_true, hn, hP, c3]); first | done | rfl)))) | apply T_seq | apply T_block | refine T_scopeJ 0 rfl ?_ | apply T_scope | apply T_goto | apply T_ret | apply T_skip | apply T_exit | apply T_label | refine T_condT rfl ?_ | refine T_condF rfl ?_ | refine T_condD rfl (fun _ => ?_) (fun _ => ?_) | refine T_cond rfl (fun _ => ?_) (fun _ => ?_))
    refine endsM_ret rfl rfl rfl (fun p hp => ?_) rfl
    simp only [List.mem_cons, List.not_mem_nil, or_false] at hp
    rcases hp with rfl | rfl
    · rfl
    · simp [lo, hnk, repL]
end Go.AM

namespace Go.AM
open Go.RowKit (Below)
set_option linter.unusedSimpArgs false
set_option linter.unusedVariables false

section
variable {A : Nat → Prop} {τ τ2 : Tau} {w : World} {ρ : Nat → Nat}

end

/-- a number that is not spoken of -/
def Bnd (f : Nat → Bool) : Prop := ∃ b, ∀ t, b ≤ t → f t = false
theorem Bnd.or {f g : Nat → Bool} (h : Bnd f) (k : Bnd g) : Bnd (fun t => f t || g t) :=
  let ⟨b, hb⟩ := h; let ⟨c, hc⟩ := k; ⟨max b c, fun t ht => by show (f t || g t) = false; rw [hb t (by omega), hc t (by omega)]; rfl⟩
def AO.has (d : Nat) : AO → Bool
  | .cells _ cs => AC.has.hasL d cs
  | _ => false
theorem ORel.retau {M A : Nat → Prop} {τ τ' : Tau} {w : World} {t : Nat} {o : AO} (h : ORel M A τ w t o) (ht : o ≠ .none → τ' t = τ t) (hτ : ∀ u, o.has u = true → τ' u = τ u) : ORel M A τ' w t o := by
  cases o with
  | none => trivial
  | cells m cs =>
    obtain ⟨b, xs, e, h1, h2, h3, h4⟩ := h
    exact ⟨b, xs, e, (ht (by simp)).trans h1, h2, h3.stepL (p := fun c => ∀ t, c.has t = true → τ' t = τ t) (fun c hc t ht => hτ t (hasL_mem hc ht)) (fun _ _ hp h => h.step (WStep.refl w) (fun _ h => h) (fun _ _ => rfl) hp), h4⟩
  | arr m s rows =>
    obtain ⟨h0, hl, h⟩ := h
    refine ⟨h0, hl, ?_⟩
    rcases h with ⟨h1, h2⟩ | ⟨b, xs, e, h1, h2⟩
    · exact .inl ⟨(ht (by simp)).trans h1, h2⟩
    · exact .inr ⟨b, xs, e, (ht (by simp)).trans h1, h2⟩
  | map m es =>
    obtain ⟨b, ces, clock, h1, h2⟩ := h
    exact ⟨b, ces, clock, (ht (by simp)).trans h1, h2⟩

end Go.AM

namespace Go.AM
open Go Go.Proofs
set_option maxRecDepth 100000
set_option maxHeartbeats 4000000
set_option linter.unusedSimpArgs false
set_option linter.unusedVariables false

def fullF (s : List Int) (n : Int) : (List Int × List Int) × Int := if checkS s = true then ((s, List.replicate (sizeS s).toNat n), 0) else bad 20
theorem sizeS_nat (s : List Int) : sizeS s = (((sizeS s).toNat : Nat) : Int) := by have := sizeS_nn s; omega
theorem sizeS_one {s : List Int} (h : checkS s = true) : 1 ≤ (sizeS s).toNat ∧ (sizeS s).toNat ≤ 64 := by
  have h1 := checkS_iff.1 h
  have h2 := sizeS_ok h1
  have h3 := prd_pos h1.2.1
  have h4 := h1.2.2
  omega
theorem c_size {s : List Int} : PureC Try.prog fi_shape_Size [dI s] (dN (((sizeS s).toNat : Nat) : Int)) := by
  have := p_shape_Size s
  rw [sizeS_nat s] at this; exact this

theorem p_tensor_Full (s : List Int) (n : Int) : PureC Try.prog fi_tensor_Full [dI s, dN n] (dTE (fullF s n)) := by
  refine pure_tensor_Full (by simp) fun G hP hn => ?_
  unfold a_tensor_Full
  have kc := p_shape_Check s
  cases h : checkS s
  · repeat' (first | apply T_then | apply then_ret | apply then_exit | apply then_goto | apply rnd_exit | apply rnd_ret | apply rnd_goto | apply noGo_normal | apply noGo_ret | apply noGo_exit | apply jmp_normal | apply jmp_ret | apply jmp_exit | apply jmp_goto | apply inB_normal | apply inB_ret | apply inB_goto | apply inB_exit | refine inB_exit_ne rfl ?_ | ((first | apply T_srK fw | apply T_regK fw); · ((try simp only [TOps.flat, List.cons_append, List.nil_append]); repeat (first | apply X_g0 | apply X_g | apply S_keep | apply X_skip | apply X_skipN | refine X_call ?_ ⟨_, _, _, _, _, _, rfl, rfl, rfl, by rw [hP]; exact kc⟩ ?_ | apply X_q | apply X_st | apply X_n | apply X_s | apply SKs0 | apply SKs2 | apply SKs1 | refine ⟨⟨rfl, rfl⟩, ?_⟩ | refine ⟨⟨rfl, ?_⟩, ?_⟩ | refine ⟨?_, ?_⟩ | (· (try simp only [go_sem, seval, reduceIte, ↓reduceIte, Bool.not_eq_true, reduceCtorEq, beq_false, beq_true, hn, hP, h]); first | done | rfl)))) | apply T_seq | apply T_block | refine T_scopeJ 0 rfl ?_ | apply T_scope | apply T_goto | apply T_ret | apply T_skip | apply T_exit | apply T_label | refine T_condT rfl ?_ | refine T_condF rfl ?_ | refine T_condD rfl (fun _ => ?_) (fun _ => ?_) | refine T_cond rfl (fun _ => ?_) (fun _ => ?_))
    exact ends_ret rfl rfl rfl (by simp [fullF, h, bad, resD])
  · rw [h] at kc
    have hs := check_len h
    have kl := m_slices_Clone s (by omega)
    have ks := c_size (s := s)
    have hk := sizeS_one h
    have hf : fullF s n = ((s, List.replicate (sizeS s).toNat n), 0) := by unfold fullF; rw [if_pos h]
    have kr := m_slices_Repeat n (sizeS s).toNat hk.1 hk.2
    generalize (sizeS s).toNat = k at *
    repeat' (first | apply T_then | apply then_ret | apply then_exit | apply then_goto | apply rnd_exit | apply rnd_ret | apply rnd_goto | apply noGo_normal | apply noGo_ret | apply noGo_exit | apply jmp_normal | apply jmp_ret | apply jmp_exit | apply jmp_goto | apply inB_normal | apply inB_ret | apply inB_goto | apply inB_exit | refine inB_exit_ne rfl ?_ | ((first | apply T_srK fw | apply T_regK fw); · ((try simp only [TOps.flat, List.cons_append, List.nil_append]); repeat (first | apply X_g0 | apply X_g | apply S_keep | apply X_skip | apply X_skipN | refine X_call ?_ ⟨_, _, _, _, _, _, rfl, rfl, rfl, by rw [hP]; exact kc⟩ ?_ | refine X_call ?_ ⟨_, _, _, _, _, _, rfl, rfl, rfl, by rw [hP]; exact ks⟩ ?_ | refine X_callM ?_ (callM_mk rfl rfl (by rw [hP]; exact kl) (by simp [lo]) (by simp) (by simp [AS.nr, AV.has, AC.has, AC.has.hasL, AO.nr, lo, DV.av] <;> assumption)) ?_ | refine X_callM ?_ (callM_mk rfl rfl (by rw [hP]; exact kr) (by simp [lo]) (by simp) (by simp [AS.nr, AV.has, AC.has, AC.has.hasL, AO.nr, lo, DV.av] <;> assumption)) ?_ | apply X_q | apply X_st | apply X_n | apply X_s | apply SKs0 | apply SKs2 | apply SKs1 | refine ⟨⟨rfl, rfl⟩, ?_⟩ | refine ⟨⟨rfl, ?_⟩, ?_⟩ | refine ⟨?_, ?_⟩ | (· (try simp only [go_sem, seval, reduceIte, ↓reduceIte, Bool.not_eq_true, reduceCtorEq, beq_false, beq_true, hn, hP]); first | done | rfl)))) | apply T_seq | apply T_block | refine T_scopeJ 0 rfl ?_ | apply T_scope | apply T_goto | apply T_ret | apply T_skip | apply T_exit | apply T_label | refine T_condT rfl ?_ | refine T_condF rfl ?_ | refine T_condD rfl (fun _ => ?_) (fun _ => ?_) | refine T_cond rfl (fun _ => ?_) (fun _ => ?_))
    exact ends_twoM (t1 := 5) (t2 := 30) (by decide) rfl rfl rfl (by simp) (by simp) (.inr ⟨_, rfl, rfl⟩) (by rw [hf]; rfl)
end Go.AM

namespace Go.AM
open Go Go.Proofs
set_option maxRecDepth 100000
set_option maxHeartbeats 4000000
set_option linter.unusedSimpArgs false
set_option linter.unusedVariables false

theorem full_ok {s : List Int} (v : Int) (h : checkS s = true) : fullF s v = ((s, List.replicate (sizeS s).toNat v), 0) := by unfold fullF; rw [if_pos h]
theorem size2 {n p : Nat} (h : ShapeOk [(n : Int), (p : Int)]) : (sizeS [(n : Int), (p : Int)]).toNat = n * p := by rw [sizeS_ok h, prd2]; rfl
theorem full_check {s : List Int} (v : Int) (h : checkS s = true) : checkT s (List.replicate (sizeS s).toNat v) = true := by
  have h1 := checkS_iff.1 h
  refine checkT_iff.2 ⟨h1, ?_⟩
  rw [List.length_replicate, ← sizeS_nat, sizeS_ok h1]
theorem zero_cases {s d t e : List Int} (h1 : checkT s d = true) (h2 : checkT t e = true) :
    (∃ m p : Nat, m * p ≤ 64 ∧ mulF s d t (List.replicate (sizeS t).toNat 0) = (([(m : Int), (p : Int)], List.replicate (m * p) 0), 0) ∧ ((mulF s d t e).2 != 20) = true) ∨
    (mulF s d t (List.replicate (sizeS t).toNat 0) = bad 20 ∧ mulF s d t e = bad 20 ∧ ¬ ∃ m n p, Prods s d t e m n p) := by
  have hz := full_check 0 (checkS_iff.2 (checkT_iff.1 h2).1)
  rcases mul_cases s d t e h1 h2 with ⟨m, n, p, k, hg⟩ | ⟨k, hf⟩
  · left
    obtain ⟨rfl, rfl, c1, c2, c3⟩ := k
    have hk := ok2 (checkS_iff.1 c3)
    refine ⟨m, p, by omega, ?_, ?_⟩
    · have hs := size2 (checkT2.1 c2).1
      rw [hs] at hz ⊢
      rw [← tab_const n p 0] at hz ⊢
      exact mul_zero (e := []) c1 hz c3
    · rcases hg with ⟨_, hf⟩ | ⟨_, hf⟩ <;> rw [hf] <;> rfl
  · right
    refine ⟨?_, hf, k⟩
    rcases mul_cases s d t _ h1 hz with ⟨m, n, p, q, _⟩ | ⟨_, q⟩
    · obtain ⟨rfl, rfl, c1, c2, c3⟩ := q
      exact absurd ⟨m, n, p, rfl, rfl, c1, h2, c3⟩ k
    · exact q
theorem single_prods {s d t e : List Int} (h1 : checkT s d = true) (h2 : checkT t e = true) (hs : s.length = 2) (ht : t.length = 2) {x y : Int} (hd : d = [x]) (he : e = [y]) : ∃ m n p, Prods s d t e m n p := by
  obtain ⟨m, n, rfl⟩ := len2 h1 hs
  obtain ⟨n', p, rfl⟩ := len2 h2 ht
  obtain ⟨a1, a2⟩ := checkT2.1 h1
  obtain ⟨b1, b2⟩ := checkT2.1 h2
  rw [hd] at a2; rw [he] at b2
  simp only [List.length_cons, List.length_nil, Nat.zero_add] at a2 b2
  have hm : m = 1 := Nat.eq_one_of_mul_eq_one_right a2.symm
  have hn : n = 1 := Nat.eq_one_of_mul_eq_one_left a2.symm
  have hn' : n' = 1 := Nat.eq_one_of_mul_eq_one_right b2.symm
  have hp : p = 1 := Nat.eq_one_of_mul_eq_one_left b2.symm
  subst hm hn hn' hp
  exact ⟨1, 1, 1, rfl, rfl, h1, h2, by decide⟩

theorem p_MatmulZero (s d t e : List Int) (hd : I64s d) (he : I64s e) : PureC Try.prog fi_fullerlaw07_MatmulZero [dT s d, dT t e] (dB true) := by
  refine pure_fullerlaw07_MatmulZero (by simp) fun G hP hn => ?_
  unfold a_fullerlaw07_MatmulZero
  cases f1 : fewT s d
  · repeat' (first | apply T_then | apply then_ret | apply then_exit | apply then_goto | apply rnd_exit | apply rnd_ret | apply rnd_goto | apply noGo_normal | apply noGo_ret | apply noGo_exit | apply jmp_normal | apply jmp_ret | apply jmp_exit | apply jmp_goto | apply inB_normal | apply inB_ret | apply inB_goto | apply inB_exit | refine inB_exit_ne rfl ?_ | ((first | apply T_srK fw | apply T_regK fw); · ((try simp only [TOps.flat, List.cons_append, List.nil_append]); repeat (first | apply X_g0 | apply X_g | apply S_keep | apply X_skip | apply X_skipN | refine X_call ?_ ⟨_, _, _, _, _, _, rfl, rfl, rfl, by rw [hP]; exact p_awake7⟩ ?_ | refine X_call ?_ ⟨_, _, _, _, _, _, rfl, rfl, rfl, by rw [hP]; exact p_ref03_Few _ _⟩ ?_ | apply X_q | apply X_st | apply X_n | apply X_s | apply SKs0 | apply SKs2 | apply SKs1 | refine ⟨⟨rfl, rfl⟩, ?_⟩ | refine ⟨⟨rfl, ?_⟩, ?_⟩ | refine ⟨?_, ?_⟩ | (· (try simp only [go_sem, seval, reduceIte, ↓reduceIte, Bool.not_eq_true, reduceCtorEq, beq_false, beq_true, hn, hP, f1]); first | done | rfl)))) | apply T_seq | apply T_block | refine T_scopeJ 0 rfl ?_ | apply T_scope | apply T_goto | apply T_ret | apply T_skip | apply T_exit | apply T_label | refine T_condT rfl ?_ | refine T_condF rfl ?_ | refine T_condD rfl (fun _ => ?_) (fun _ => ?_) | refine T_cond rfl (fun _ => ?_) (fun _ => ?_))
    exact ends_ret rfl rfl rfl rfl
  cases f2 : fewT t e
  · repeat' (first | apply T_then | apply then_ret | apply then_exit | apply then_goto | apply rnd_exit | apply rnd_ret | apply rnd_goto | apply noGo_normal | apply noGo_ret | apply noGo_exit | apply jmp_normal | apply jmp_ret | apply jmp_exit | apply jmp_goto | apply inB_normal | apply inB_ret | apply inB_goto | apply inB_exit | refine inB_exit_ne rfl ?_ | ((first | apply T_srK fw | apply T_regK fw); · ((try simp only [TOps.flat, List.cons_append, List.nil_append]); repeat (first | apply X_g0 | apply X_g | apply S_keep | apply X_skip | apply X_skipN | refine X_call ?_ ⟨_, _, _, _, _, _, rfl, rfl, rfl, by rw [hP]; exact p_awake7⟩ ?_ | refine X_call ?_ ⟨_, _, _, _, _, _, rfl, rfl, rfl, by rw [hP]; exact p_ref03_Few _ _⟩ ?_ | apply X_q | apply X_st | apply X_n | apply X_s | apply SKs0 | apply SKs2 | apply SKs1 | refine ⟨⟨rfl, rfl⟩, ?_⟩ | refine ⟨⟨rfl, ?_⟩, ?_⟩ | refine ⟨?_, ?_⟩ | (· (try simp only [go_sem, seval, reduceIte, ↓reduceIte, Bool.not_eq_true, reduceCtorEq, beq_false, beq_true, hn, hP, f1, f2]); first | done | rfl)))) | apply T_seq | apply T_block | refine T_scopeJ 0 rfl ?_ | apply T_scope | apply T_goto | apply T_ret | apply T_skip | apply T_exit | apply T_label | refine T_condT rfl ?_ | refine T_condF rfl ?_ | refine T_condD rfl (fun _ => ?_) (fun _ => ?_) | refine T_cond rfl (fun _ => ?_) (fun _ => ?_))
    exact ends_ret rfl rfl rfl rfl
  cases h1 : checkT s d
  · repeat' (first | apply T_then | apply then_ret | apply then_exit | apply then_goto | apply rnd_exit | apply rnd_ret | apply rnd_goto | apply noGo_normal | apply noGo_ret | apply noGo_exit | apply jmp_normal | apply jmp_ret | apply jmp_exit | apply jmp_goto | apply inB_normal | apply inB_ret | apply inB_goto | apply inB_exit | refine inB_exit_ne rfl ?_ | ((first | apply T_srK fw | apply T_regK fw); · ((try simp only [TOps.flat, List.cons_append, List.nil_append]); repeat (first | apply X_g0 | apply X_g | apply S_keep | apply X_skip | apply X_skipN | refine X_call ?_ ⟨_, _, _, _, _, _, rfl, rfl, rfl, by rw [hP]; exact p_awake7⟩ ?_ | refine X_call ?_ ⟨_, _, _, _, _, _, rfl, rfl, rfl, by rw [hP]; exact p_ref03_Few _ _⟩ ?_ | refine X_call ?_ ⟨_, _, _, _, _, _, rfl, rfl, rfl, by rw [hP]; exact p_tensor_Check _ _⟩ ?_ | apply X_q | apply X_st | apply X_n | apply X_s | apply SKs0 | apply SKs2 | apply SKs1 | refine ⟨⟨rfl, rfl⟩, ?_⟩ | refine ⟨⟨rfl, ?_⟩, ?_⟩ | refine ⟨?_, ?_⟩ | (· (try simp only [go_sem, seval, reduceIte, ↓reduceIte, Bool.not_eq_true, reduceCtorEq, beq_false, beq_true, hn, hP, f1, f2, h1]); first | done | rfl)))) | apply T_seq | apply T_block | refine T_scopeJ 0 rfl ?_ | apply T_scope | apply T_goto | apply T_ret | apply T_skip | apply T_exit | apply T_label | refine T_condT rfl ?_ | refine T_condF rfl ?_ | refine T_condD rfl (fun _ => ?_) (fun _ => ?_) | refine T_cond rfl (fun _ => ?_) (fun _ => ?_))
    exact ends_ret rfl rfl rfl rfl
  cases h2 : checkT t e
  · repeat' (first | apply T_then | apply then_ret | apply then_exit | apply then_goto | apply rnd_exit | apply rnd_ret | apply rnd_goto | apply noGo_normal | apply noGo_ret | apply noGo_exit | apply jmp_normal | apply jmp_ret | apply jmp_exit | apply jmp_goto | apply inB_normal | apply inB_ret | apply inB_goto | apply inB_exit | refine inB_exit_ne rfl ?_ | ((first | apply T_srK fw | apply T_regK fw); · ((try simp only [TOps.flat, List.cons_append, List.nil_append]); repeat (first | apply X_g0 | apply X_g | apply S_keep | apply X_skip | apply X_skipN | refine X_call ?_ ⟨_, _, _, _, _, _, rfl, rfl, rfl, by rw [hP]; exact p_awake7⟩ ?_ | refine X_call ?_ ⟨_, _, _, _, _, _, rfl, rfl, rfl, by rw [hP]; exact p_ref03_Few _ _⟩ ?_ | refine X_call ?_ ⟨_, _, _, _, _, _, rfl, rfl, rfl, by rw [hP]; exact p_tensor_Check _ _⟩ ?_ | apply X_q | apply X_st | apply X_n | apply X_s | apply SKs0 | apply SKs2 | apply SKs1 | refine ⟨⟨rfl, rfl⟩, ?_⟩ | refine ⟨⟨rfl, ?_⟩, ?_⟩ | refine ⟨?_, ?_⟩ | (· (try simp only [go_sem, seval, reduceIte, ↓reduceIte, Bool.not_eq_true, reduceCtorEq, beq_false, beq_true, hn, hP, f1, f2, h1, h2]); first | done | rfl)))) | apply T_seq | apply T_block | refine T_scopeJ 0 rfl ?_ | apply T_scope | apply T_goto | apply T_ret | apply T_skip | apply T_exit | apply T_label | refine T_condT rfl ?_ | refine T_condF rfl ?_ | refine T_condD rfl (fun _ => ?_) (fun _ => ?_) | refine T_cond rfl (fun _ => ?_) (fun _ => ?_))
    exact ends_ret rfl rfl rfl rfl
  by_cases hs : s.length = 2
  rotate_left
  · have c1 : ((s.length : Int) != 2) = true := by simp; omega
    repeat' (first | apply T_then | apply then_ret | apply then_exit | apply then_goto | apply rnd_exit | apply rnd_ret | apply rnd_goto | apply noGo_normal | apply noGo_ret | apply noGo_exit | apply jmp_normal | apply jmp_ret | apply jmp_exit | apply jmp_goto | apply inB_normal | apply inB_ret | apply inB_goto | apply inB_exit | refine inB_exit_ne rfl ?_ | ((first | apply T_srK fw | apply T_regK fw); · ((try simp only [TOps.flat, List.cons_append, List.nil_append]); repeat (first | apply X_g0 | apply X_g | apply S_keep | apply X_skip | apply X_skipN | refine X_call ?_ ⟨_, _, _, _, _, _, rfl, rfl, rfl, by rw [hP]; exact p_awake7⟩ ?_ | refine X_call ?_ ⟨_, _, _, _, _, _, rfl, rfl, rfl, by rw [hP]; exact p_ref03_Few _ _⟩ ?_ | refine X_call ?_ ⟨_, _, _, _, _, _, rfl, rfl, rfl, by rw [hP]; exact p_tensor_Check _ _⟩ ?_ | apply X_q | apply X_st | apply X_n | apply X_s | apply SKs0 | apply SKs2 | apply SKs1 | refine ⟨⟨rfl, rfl⟩, ?_⟩ | refine ⟨⟨rfl, ?_⟩, ?_⟩ | refine ⟨?_, ?_⟩ | (· (try simp only [go_sem, seval, reduceIte, ↓reduceIte, Bool.not_eq_true, reduceCtorEq, beq_false, beq_true, hn, hP, f1, f2, h1, h2, c1]); first | done | rfl)))) | apply T_seq | apply T_block | refine T_scopeJ 0 rfl ?_ | apply T_scope | apply T_goto | apply T_ret | apply T_skip | apply T_exit | apply T_label | refine T_condT rfl ?_ | refine T_condF rfl ?_ | refine T_condD rfl (fun _ => ?_) (fun _ => ?_) | refine T_cond rfl (fun _ => ?_) (fun _ => ?_))
    exact ends_ret rfl rfl rfl rfl
  have c1 : ((s.length : Int) != 2) = false := by simp; omega
  by_cases ht : t.length = 2
  rotate_left
  · have c2 : ((t.length : Int) != 2) = true := by simp; omega
    repeat' (first | apply T_then | apply then_ret | apply then_exit | apply then_goto | apply rnd_exit | apply rnd_ret | apply rnd_goto | apply noGo_normal | apply noGo_ret | apply noGo_exit | apply jmp_normal | apply jmp_ret | apply jmp_exit | apply jmp_goto | apply inB_normal | apply inB_ret | apply inB_goto | apply inB_exit | refine inB_exit_ne rfl ?_ | ((first | apply T_srK fw | apply T_regK fw); · ((try simp only [TOps.flat, List.cons_append, List.nil_append]); repeat (first | apply X_g0 | apply X_g | apply S_keep | apply X_skip | apply X_skipN | refine X_call ?_ ⟨_, _, _, _, _, _, rfl, rfl, rfl, by rw [hP]; exact p_awake7⟩ ?_ | refine X_call ?_ ⟨_, _, _, _, _, _, rfl, rfl, rfl, by rw [hP]; exact p_ref03_Few _ _⟩ ?_ | refine X_call ?_ ⟨_, _, _, _, _, _, rfl, rfl, rfl, by rw [hP]; exact p_tensor_Check _ _⟩ ?_ | apply X_q | apply X_st | apply X_n | apply X_s | apply SKs0 | apply SKs2 | apply SKs1 | refine ⟨⟨rfl, rfl⟩, ?_⟩ | refine ⟨⟨rfl, ?_⟩, ?_⟩ | refine ⟨?_, ?_⟩ | (· (try simp only [go_sem, seval, reduceIte, ↓reduceIte, Bool.not_eq_true, reduceCtorEq, beq_false, beq_true, hn, hP, f1, f2, h1, h2, c1, c2]); first | done | rfl)))) | apply T_seq | apply T_block | refine T_scopeJ 0 rfl ?_ | apply T_scope | apply T_goto | apply T_ret | apply T_skip | apply T_exit | apply T_label | refine T_condT rfl ?_ | refine T_condF rfl ?_ | refine T_condD rfl (fun _ => ?_) (fun _ => ?_) | refine T_cond rfl (fun _ => ?_) (fun _ => ?_))
    exact ends_ret rfl rfl rfl rfl
  have c2 : ((t.length : Int) != 2) = false := by simp; omega
  have hS := checkS_iff.2 (checkT_iff.1 h2).1
  have kF := p_tensor_Full t 0
  rw [full_ok 0 hS] at kF
  have kz := p_matmul_Mul s d t (List.replicate (sizeS t).toNat 0) hd (fun n hn => by rw [(List.mem_replicate.1 hn).2]; exact i64_0)
  have kf := p_matmul_Mul s d t e hd he
  have r0 : ∀ (k i : Nat), i < k → (List.replicate k (0 : Int))[i]? = some 0 := fun k i h => by rw [List.getElem?_replicate, if_pos h]
  rcases zero_cases h1 h2 with ⟨m, p, hmp, hz, hf⟩ | ⟨hz, hf, hno⟩
  · rw [hz] at kz
    repeat' (first | apply T_then | apply then_ret | apply then_exit | apply then_goto | apply rnd_exit | apply rnd_ret | apply rnd_goto | apply noGo_normal | apply noGo_ret | apply noGo_exit | apply jmp_normal | apply jmp_ret | apply jmp_exit | apply jmp_goto | apply inB_normal | apply inB_ret | apply inB_goto | apply inB_exit | refine inB_exit_ne rfl ?_ | ((first | apply T_srK fw | apply T_regK fw); · ((try simp only [TOps.flat, List.cons_append, List.nil_append]); repeat (first | apply X_g0 | apply X_g | apply S_keep | apply X_skip | apply X_skipN | refine X_call ?_ ⟨_, _, _, _, _, _, rfl, rfl, rfl, by rw [hP]; exact p_awake7⟩ ?_ | refine X_call ?_ ⟨_, _, _, _, _, _, rfl, rfl, rfl, by rw [hP]; exact p_ref03_Few _ _⟩ ?_ | refine X_call ?_ ⟨_, _, _, _, _, _, rfl, rfl, rfl, by rw [hP]; exact p_tensor_Check _ _⟩ ?_ | refine X_call ?_ ⟨_, _, _, _, _, _, rfl, rfl, rfl, by rw [hP]; exact kF⟩ ?_ | refine X_call ?_ ⟨_, _, _, _, _, _, rfl, rfl, rfl, by rw [hP]; exact kz⟩ ?_ | apply X_q | apply X_st | apply X_n | apply X_s | apply SKs0 | apply SKs2 | apply SKs1 | refine ⟨⟨rfl, rfl⟩, ?_⟩ | refine ⟨⟨rfl, ?_⟩, ?_⟩ | refine ⟨?_, ?_⟩ | (· (try simp only [go_sem, seval, reduceIte, ↓reduceIte, Bool.not_eq_true, reduceCtorEq, beq_false, beq_true, hn, hP, f1, f2, h1, h2, c1, c2]); first | done | rfl)))) | apply T_seq | apply T_block | refine T_scopeJ 0 rfl ?_ | apply T_scope | apply T_goto | apply T_ret | apply T_skip | apply T_exit | apply T_label | refine T_condT rfl ?_ | refine T_condF rfl ?_ | refine T_condD rfl (fun _ => ?_) (fun _ => ?_) | refine T_cond rfl (fun _ => ?_) (fun _ => ?_))
    refine T_for (m * p) (fun i (_ : Unit) => { env := [(2, .one (.ptr 2 0 2 0)), (3, .one (.ptr 3 0 2 0)), (5, .one (.p (.bool true))), (8, .one (.ptr 8 0 2 0)), (9, .one (.p (.int .i64 0))), (10, .one (.p (.int .i64 i)))], σ := [(2, .cells true [.p (eI s), .p (eI d)]), (3, .cells true [.p (eI t), .p (eI e)]), (8, .cells true [.p (eI [(m : Int), (p : Int)]), .p (eI (List.replicate (m * p) 0))])] })
      (fun _ _ => True) () trivial ?_ fun i _ hi _ => ?_
    · refine Weak.sub fun q hq => ?_
      simp only [List.mem_cons, List.not_mem_nil, or_false] at hq
      rcases hq with rfl | rfl | rfl <;> rfl
    by_cases hlt : i < m * p
    · have c3 : (i : Int) < ((m * p : Nat) : Int) := by omega
      have w1 : IntKind.i64.wrap ((i : Int) + 1) = ((i + 1 : Nat) : Int) := by rw [wrap_in (by omega) (by omega)]; rfl
      have hx := r0 (m * p) i hlt
      repeat' (first | apply T_then | apply then_ret | apply then_exit | apply then_goto | apply rnd_exit | apply rnd_ret | apply rnd_goto | apply noGo_normal | apply noGo_ret | apply noGo_exit | apply jmp_normal | apply jmp_ret | apply jmp_exit | apply jmp_goto | apply inB_normal | apply inB_ret | apply inB_goto | apply inB_exit | refine inB_exit_ne rfl ?_ | ((first | apply T_srK fw | apply T_regK fw); · ((try simp only [TOps.flat, List.cons_append, List.nil_append]); repeat (first | apply X_g0 | apply X_g | apply S_keep | apply X_skip | apply X_skipN | apply X_q | apply X_st | apply X_n | apply X_s | apply SKs0 | apply SKs2 | apply SKs1 | refine ⟨⟨rfl, rfl⟩, ?_⟩ | refine ⟨⟨rfl, ?_⟩, ?_⟩ | refine ⟨?_, ?_⟩ | (· (try simp only [go_sem, seval, reduceIte, ↓reduceIte, Bool.not_eq_true, reduceCtorEq, beq_false, beq_true, hn, hP, c3, w1, hx, hlt]); first | done | rfl)))) | apply T_seq | apply T_block | refine T_scopeJ 0 rfl ?_ | apply T_scope | apply T_goto | apply T_ret | apply T_skip | apply T_exit | apply T_label | refine T_condT rfl ?_ | refine T_condF rfl ?_ | refine T_condD rfl (fun _ => ?_) (fun _ => ?_) | refine T_cond rfl (fun _ => ?_) (fun _ => ?_))
      refine rnd_next hlt () trivial (Weak.sub fun q hq => ?_)
      simp only [List.mem_cons, List.not_mem_nil, or_false] at hq
      rcases hq with rfl | rfl | rfl <;> rfl
    · have c3 : ¬ (i : Int) < ((m * p : Nat) : Int) := by omega
      by_cases l1 : d.length = 1
      · have q1 : ((d.length : Int) != 1) = false := by simp; omega
        by_cases l2 : e.length = 1
        · have q2 : ((e.length : Int) != 1) = false := by simp; omega
          obtain ⟨x, rfl⟩ : ∃ x, d = [x] := match d, l1 with | [x], _ => ⟨x, rfl⟩
          obtain ⟨y, rfl⟩ : ∃ x, e = [x] := match e, l2 with | [x], _ => ⟨x, rfl⟩
          have hm := mul_single h1 h2 hs ht (x := x) (y := y) rfl rfl
          have kx := p_fix_Mul (a := x) (b := y) (hd x (by simp)) (he y (by simp))
          rw [hm] at kf hf
          by_cases hg : (fMul x y).2 = 0
          · have hg' : ((fMul x y).2 != 0) = false := by simp [hg]
            rw [if_pos hg] at kf hf
            have hv : fMul x y = ((fMul x y).1, 0) := Prod.ext rfl hg
            rw [hv] at kx
            generalize (fMul x y).1 = v at *
            repeat' (first | apply T_then | apply then_ret | apply then_exit | apply then_goto | apply rnd_exit | apply rnd_ret | apply rnd_goto | apply noGo_normal | apply noGo_ret | apply noGo_exit | apply jmp_normal | apply jmp_ret | apply jmp_exit | apply jmp_goto | apply inB_normal | apply inB_ret | apply inB_goto | apply inB_exit | refine inB_exit_ne rfl ?_ | ((first | apply T_srK fw | apply T_regK fw); · ((try simp only [TOps.flat, List.cons_append, List.nil_append]); repeat (first | apply X_g0 | apply X_g | apply S_keep | apply X_skip | apply X_skipN | refine X_call ?_ ⟨_, _, _, _, _, _, rfl, rfl, rfl, by rw [hP]; exact kf⟩ ?_ | refine X_call ?_ ⟨_, _, _, _, _, _, rfl, rfl, rfl, by rw [hP]; exact kx⟩ ?_ | apply X_q | apply X_st | apply X_n | apply X_s | apply SKs0 | apply SKs2 | apply SKs1 | refine ⟨⟨rfl, rfl⟩, ?_⟩ | refine ⟨⟨rfl, ?_⟩, ?_⟩ | refine ⟨?_, ?_⟩ | (· (try simp only [go_sem, seval, reduceIte, ↓reduceIte, Bool.not_eq_true, reduceCtorEq, beq_false, beq_true, hn, hP, c3]); first | done | rfl)))) | ((first | apply T_sdF fw (by rw [hP]; rfl) (by decide +kernel) | apply T_drF fw (by rw [hP]; rfl) (by decide +kernel)); · ((try simp only [TOps.flat, List.cons_append, List.nil_append]); repeat (first | apply Y_g0 | apply Y_g | apply Y_skip | apply Y_q | refine Y_call ⟨_, _, _, _, _, _, rfl, rfl, rfl, by rw [hP]; exact kf⟩ ?_ ?_ | refine Y_call ⟨_, _, _, _, _, _, rfl, rfl, rfl, by rw [hP]; exact kx⟩ ?_ ?_ | refine RunF_nil (P := G.P) ?_ | (· (try simp only [go_sem, seval, reduceIte, ↓reduceIte, Bool.not_eq_true, reduceCtorEq, beq_false, beq_true, hn, hP, c3]); first | done | rfl)))) | apply T_seq | apply T_block | refine T_scopeJ 0 rfl ?_ | apply T_scope | apply T_goto | apply T_ret | apply T_skip | apply T_exit | apply T_label | refine T_condT rfl ?_ | refine T_condF rfl ?_ | refine T_condD rfl (fun _ => ?_) (fun _ => ?_) | refine T_cond rfl (fun _ => ?_) (fun _ => ?_))
            exact ends_ret rfl rfl rfl rfl
          · have hg' : (fMul x y).2 = 10 := by
              rcases rng_err (x * y / 4294967296) with h | h
              · exact absurd h hg
              · exact h
            rw [if_neg hg, hg'] at kf hf
            have hv : fMul x y = ((fMul x y).1, 10) := Prod.ext rfl hg'
            rw [hv] at kx
            generalize (fMul x y).1 = v at *
            repeat' (first | apply T_then | apply then_ret | apply then_exit | apply then_goto | apply rnd_exit | apply rnd_ret | apply rnd_goto | apply noGo_normal | apply noGo_ret | apply noGo_exit | apply jmp_normal | apply jmp_ret | apply jmp_exit | apply jmp_goto | apply inB_normal | apply inB_ret | apply inB_goto | apply inB_exit | refine inB_exit_ne rfl ?_ | ((first | apply T_srK fw | apply T_regK fw); · ((try simp only [TOps.flat, List.cons_append, List.nil_append]); repeat (first | apply X_g0 | apply X_g | apply S_keep | apply X_skip | apply X_skipN | refine X_call ?_ ⟨_, _, _, _, _, _, rfl, rfl, rfl, by rw [hP]; exact kf⟩ ?_ | refine X_call ?_ ⟨_, _, _, _, _, _, rfl, rfl, rfl, by rw [hP]; exact kx⟩ ?_ | apply X_q | apply X_st | apply X_n | apply X_s | apply SKs0 | apply SKs2 | apply SKs1 | refine ⟨⟨rfl, rfl⟩, ?_⟩ | refine ⟨⟨rfl, ?_⟩, ?_⟩ | refine ⟨?_, ?_⟩ | (· (try simp only [go_sem, seval, reduceIte, ↓reduceIte, Bool.not_eq_true, reduceCtorEq, beq_false, beq_true, hn, hP, c3]); first | done | rfl)))) | ((first | apply T_sdF fw (by rw [hP]; rfl) (by decide +kernel) | apply T_drF fw (by rw [hP]; rfl) (by decide +kernel)); · ((try simp only [TOps.flat, List.cons_append, List.nil_append]); repeat (first | apply Y_g0 | apply Y_g | apply Y_skip | apply Y_q | refine Y_call ⟨_, _, _, _, _, _, rfl, rfl, rfl, by rw [hP]; exact kf⟩ ?_ ?_ | refine Y_call ⟨_, _, _, _, _, _, rfl, rfl, rfl, by rw [hP]; exact kx⟩ ?_ ?_ | refine RunF_nil (P := G.P) ?_ | (· (try simp only [go_sem, seval, reduceIte, ↓reduceIte, Bool.not_eq_true, reduceCtorEq, beq_false, beq_true, hn, hP, c3]); first | done | rfl)))) | apply T_seq | apply T_block | refine T_scopeJ 0 rfl ?_ | apply T_scope | apply T_goto | apply T_ret | apply T_skip | apply T_exit | apply T_label | refine T_condT rfl ?_ | refine T_condF rfl ?_ | refine T_condD rfl (fun _ => ?_) (fun _ => ?_) | refine T_cond rfl (fun _ => ?_) (fun _ => ?_))
            exact ends_ret rfl rfl rfl rfl
        · have q2 : ((e.length : Int) != 1) = true := by simp; omega
          repeat' (first | apply T_then | apply then_ret | apply then_exit | apply then_goto | apply rnd_exit | apply rnd_ret | apply rnd_goto | apply noGo_normal | apply noGo_ret | apply noGo_exit | apply jmp_normal | apply jmp_ret | apply jmp_exit | apply jmp_goto | apply inB_normal | apply inB_ret | apply inB_goto | apply inB_exit | refine inB_exit_ne rfl ?_ | ((first | apply T_srK fw | apply T_regK fw); · ((try simp only [TOps.flat, List.cons_append, List.nil_append]); repeat (first | apply X_g0 | apply X_g | apply S_keep | apply X_skip | apply X_skipN | refine X_call ?_ ⟨_, _, _, _, _, _, rfl, rfl, rfl, by rw [hP]; exact kf⟩ ?_ | apply X_q | apply X_st | apply X_n | apply X_s | apply SKs0 | apply SKs2 | apply SKs1 | refine ⟨⟨rfl, rfl⟩, ?_⟩ | refine ⟨⟨rfl, ?_⟩, ?_⟩ | refine ⟨?_, ?_⟩ | (· (try simp only [go_sem, seval, reduceIte, ↓reduceIte, Bool.not_eq_true, reduceCtorEq, beq_false, beq_true, hn, hP, c3, q1, q2, hf]); first | done | rfl)))) | apply T_seq | apply T_block | refine T_scopeJ 0 rfl ?_ | apply T_scope | apply T_goto | apply T_ret | apply T_skip | apply T_exit | apply T_label | refine T_condT rfl ?_ | refine T_condF rfl ?_ | refine T_condD rfl (fun _ => ?_) (fun _ => ?_) | refine T_cond rfl (fun _ => ?_) (fun _ => ?_))
          exact ends_ret rfl rfl rfl rfl
      · have q1 : ((d.length : Int) != 1) = true := by simp; omega
        repeat' (first | apply T_then | apply then_ret | apply then_exit | apply then_goto | apply rnd_exit | apply rnd_ret | apply rnd_goto | apply noGo_normal | apply noGo_ret | apply noGo_exit | apply jmp_normal | apply jmp_ret | apply jmp_exit | apply jmp_goto | apply inB_normal | apply inB_ret | apply inB_goto | apply inB_exit | refine inB_exit_ne rfl ?_ | ((first | apply T_srK fw | apply T_regK fw); · ((try simp only [TOps.flat, List.cons_append, List.nil_append]); repeat (first | apply X_g0 | apply X_g | apply S_keep | apply X_skip | apply X_skipN | refine X_call ?_ ⟨_, _, _, _, _, _, rfl, rfl, rfl, by rw [hP]; exact kf⟩ ?_ | apply X_q | apply X_st | apply X_n | apply X_s | apply SKs0 | apply SKs2 | apply SKs1 | refine ⟨⟨rfl, rfl⟩, ?_⟩ | refine ⟨⟨rfl, ?_⟩, ?_⟩ | refine ⟨?_, ?_⟩ | (· (try simp only [go_sem, seval, reduceIte, ↓reduceIte, Bool.not_eq_true, reduceCtorEq, beq_false, beq_true, hn, hP, c3, q1, hf]); first | done | rfl)))) | apply T_seq | apply T_block | refine T_scopeJ 0 rfl ?_ | apply T_scope | apply T_goto | apply T_ret | apply T_skip | apply T_exit | apply T_label | refine T_condT rfl ?_ | refine T_condF rfl ?_ | refine T_condD rfl (fun _ => ?_) (fun _ => ?_) | refine T_cond rfl (fun _ => ?_) (fun _ => ?_))
        exact ends_ret rfl rfl rfl rfl
  · rw [hz] at kz
    rw [hf] at kf
    repeat' (first | apply T_then | apply then_ret | apply then_exit | apply then_goto | apply rnd_exit | apply rnd_ret | apply rnd_goto | apply noGo_normal | apply noGo_ret | apply noGo_exit | apply jmp_normal | apply jmp_ret | apply jmp_exit | apply jmp_goto | apply inB_normal | apply inB_ret | apply inB_goto | apply inB_exit | refine inB_exit_ne rfl ?_ | ((first | apply T_srK fw | apply T_regK fw); · ((try simp only [TOps.flat, List.cons_append, List.nil_append]); repeat (first | apply X_g0 | apply X_g | apply S_keep | apply X_skip | apply X_skipN | refine X_call ?_ ⟨_, _, _, _, _, _, rfl, rfl, rfl, by rw [hP]; exact p_awake7⟩ ?_ | refine X_call ?_ ⟨_, _, _, _, _, _, rfl, rfl, rfl, by rw [hP]; exact p_ref03_Few _ _⟩ ?_ | refine X_call ?_ ⟨_, _, _, _, _, _, rfl, rfl, rfl, by rw [hP]; exact p_tensor_Check _ _⟩ ?_ | refine X_call ?_ ⟨_, _, _, _, _, _, rfl, rfl, rfl, by rw [hP]; exact kF⟩ ?_ | refine X_call ?_ ⟨_, _, _, _, _, _, rfl, rfl, rfl, by rw [hP]; exact kz⟩ ?_ | apply X_q | apply X_st | apply X_n | apply X_s | apply SKs0 | apply SKs2 | apply SKs1 | refine ⟨⟨rfl, rfl⟩, ?_⟩ | refine ⟨⟨rfl, ?_⟩, ?_⟩ | refine ⟨?_, ?_⟩ | (· (try simp only [go_sem, seval, reduceIte, ↓reduceIte, Bool.not_eq_true, reduceCtorEq, beq_false, beq_true, hn, hP, f1, f2, h1, h2, c1, c2]); first | done | rfl)))) | apply T_seq | apply T_block | refine T_scopeJ 0 rfl ?_ | apply T_scope | apply T_goto | apply T_ret | apply T_skip | apply T_exit | apply T_label | refine T_condT rfl ?_ | refine T_condF rfl ?_ | refine T_condD rfl (fun _ => ?_) (fun _ => ?_) | refine T_cond rfl (fun _ => ?_) (fun _ => ?_))
    refine T_for 0 (fun i (_ : Unit) => { env := [(2, .one (.ptr 2 0 2 0)), (3, .one (.ptr 3 0 2 0)), (5, .one (.p (.bool true))), (8, .one (.ptr 8 0 2 0)), (9, .one (.p (.int .i64 20))), (10, .one (.p (.int .i64 i)))], σ := [(2, .cells true [.p (eI s), .p (eI d)]), (3, .cells true [.p (eI t), .p (eI e)]), (8, .cells true [.p (eI []), .p (eI [])])] })
      (fun _ _ => True) () trivial ?_ fun i _ hi _ => ?_
    · refine Weak.sub fun q hq => ?_
      simp only [List.mem_cons, List.not_mem_nil, or_false] at hq
      rcases hq with rfl | rfl | rfl <;> rfl
    have hi0 : i = 0 := by omega
    subst hi0
    by_cases l1 : d.length = 1
    · have q1 : ((d.length : Int) != 1) = false := by simp; omega
      by_cases l2 : e.length = 1
      · obtain ⟨x, rfl⟩ : ∃ x, d = [x] := match d, l1 with | [x], _ => ⟨x, rfl⟩
        obtain ⟨y, rfl⟩ : ∃ x, e = [x] := match e, l2 with | [x], _ => ⟨x, rfl⟩
        exact absurd (single_prods h1 h2 hs ht (x := x) (y := y) rfl rfl) hno
      · have q2 : ((e.length : Int) != 1) = true := by simp; omega
        repeat' (first | apply T_then | apply then_ret | apply then_exit | apply then_goto | apply rnd_exit | apply rnd_ret | apply rnd_goto | apply noGo_normal | apply noGo_ret | apply noGo_exit | apply jmp_normal | apply jmp_ret | apply jmp_exit | apply jmp_goto | apply inB_normal | apply inB_ret | apply inB_goto | apply inB_exit | refine inB_exit_ne rfl ?_ | ((first | apply T_srK fw | apply T_regK fw); · ((try simp only [TOps.flat, List.cons_append, List.nil_append]); repeat (first | apply X_g0 | apply X_g | apply S_keep | apply X_skip | apply X_skipN | refine X_call ?_ ⟨_, _, _, _, _, _, rfl, rfl, rfl, by rw [hP]; exact kf⟩ ?_ | apply X_q | apply X_st | apply X_n | apply X_s | apply SKs0 | apply SKs2 | apply SKs1 | refine ⟨⟨rfl, rfl⟩, ?_⟩ | refine ⟨⟨rfl, ?_⟩, ?_⟩ | refine ⟨?_, ?_⟩ | (· (try simp only [go_sem, seval, reduceIte, ↓reduceIte, Bool.not_eq_true, reduceCtorEq, beq_false, beq_true, hn, hP, q1, q2]); first | done | rfl)))) | apply T_seq | apply T_block | refine T_scopeJ 0 rfl ?_ | apply T_scope | apply T_goto | apply T_ret | apply T_skip | apply T_exit | apply T_label | refine T_condT rfl ?_ | refine T_condF rfl ?_ | refine T_condD rfl (fun _ => ?_) (fun _ => ?_) | refine T_cond rfl (fun _ => ?_) (fun _ => ?_))
        exact ends_ret rfl rfl rfl rfl
    · have q1 : ((d.length : Int) != 1) = true := by simp; omega
      repeat' (first | apply T_then | apply then_ret | apply then_exit | apply then_goto | apply rnd_exit | apply rnd_ret | apply rnd_goto | apply noGo_normal | apply noGo_ret | apply noGo_exit | apply jmp_normal | apply jmp_ret | apply jmp_exit | apply jmp_goto | apply inB_normal | apply inB_ret | apply inB_goto | apply inB_exit | refine inB_exit_ne rfl ?_ | ((first | apply T_srK fw | apply T_regK fw); · ((try simp only [TOps.flat, List.cons_append, List.nil_append]); repeat (first | apply X_g0 | apply X_g | apply S_keep | apply X_skip | apply X_skipN | refine X_call ?_ ⟨_, _, _, _, _, _, rfl, rfl, rfl, by rw [hP]; exact kf⟩ ?_ | apply X_q | apply X_st | apply X_n | apply X_s | apply SKs0 | apply SKs2 | apply SKs1 | refine ⟨⟨rfl, rfl⟩, ?_⟩ | refine ⟨⟨rfl, ?_⟩, ?_⟩ | refine ⟨?_, ?_⟩ | (· (try simp only [go_sem, seval, reduceIte, ↓reduceIte, Bool.not_eq_true, reduceCtorEq, beq_false, beq_true, hn, hP, q1]); first | done | rfl)))) | apply T_seq | apply T_block | refine T_scopeJ 0 rfl ?_ | apply T_scope | apply T_goto | apply T_ret | apply T_skip | apply T_exit | apply T_label | refine T_condT rfl ?_ | refine T_condF rfl ?_ | refine T_condD rfl (fun _ => ?_) (fun _ => ?_) | refine T_cond rfl (fun _ => ?_) (fun _ => ?_))
      exact ends_ret rfl rfl rfl rfl
end Go.AM

