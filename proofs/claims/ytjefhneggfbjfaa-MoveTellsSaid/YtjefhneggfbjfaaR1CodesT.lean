import Derived.Test.YtjefhneggfbjfaaAmI
import Derived.Test.YtjefhneggfbjfaaProg
import Derived.KernelRfl
namespace Go.AM
open Go Go.Proofs
set_option maxRecDepth 100000
abbrev fi_fullerlaw05_MoveTells : Nat := 3
abbrev fi_fullerlaw05_MoveTurns : Nat := 4
abbrev fi_fullerlaw05_MoveParts : Nat := 5
abbrev fi_fullerlaw05_MovePads : Nat := 6
abbrev fi_fullerlaw05_MoveSums : Nat := 7
abbrev fi_fullerlaw05_MoveMirror : Nat := 8
abbrev fi_fullerlaw05_awake : Nat := 9
abbrev fi_fullerref03_Few : Nat := 10
abbrev fi_move_Reshape : Nat := 11
abbrev fi_fullerref05_Reshape : Nat := 12
abbrev fi_fullerref03_Same : Nat := 13
abbrev fi_move_Turn : Nat := 14
abbrev fi_fullerref05_Turn : Nat := 15
abbrev fi_move_Slice : Nat := 16
abbrev fi_fullerref05_Slice : Nat := 17
abbrev fi_move_Pad : Nat := 18
abbrev fi_fullerref05_Pad : Nat := 19
abbrev fi_move_Join : Nat := 20
abbrev fi_fullerref05_Join : Nat := 21
abbrev fi_tensor_Check : Nat := 22
abbrev fi_tensor_At : Nat := 23
abbrev fi_fullerref02_Same : Nat := 24
abbrev fi_fullerlaw05_small : Nat := 25
abbrev fi_fullerlaw05_total : Nat := 26
abbrev fi_shape_Check : Nat := 27
abbrev fi_shape_Size : Nat := 28
abbrev fi_slices_Clone_int_int : Nat := 29
abbrev fi_fullerref03_Check : Nat := 30
abbrev fi_fullerref02_Size : Nat := 31
abbrev fi_move_made : Nat := 32
abbrev fi_move_turned_int : Nat := 33
abbrev fi_move_Turn_1 : Nat := 34
abbrev fi_fullerref05_turned : Nat := 35
abbrev fi_fullerref02_Index : Nat := 36
abbrev fi_fullerref03_At : Nat := 37
abbrev fi_move_sided : Nat := 38
abbrev fi_move_Slice_1 : Nat := 39
abbrev fi_move_shifted : Nat := 40
abbrev fi_fullerref05_moved : Nat := 41
abbrev fi_fullerref05_with : Nat := 42
abbrev fi_move_Pad_1 : Nat := 43
abbrev fi_fullerref02_Check : Nat := 44
abbrev fi_slices_Equal_int_int : Nat := 45
abbrev fi_move_Join_1 : Nat := 46
abbrev fi_shape_Place : Nat := 47
abbrev fi_fullerref02_product : Nat := 48
abbrev fi_move_indices : Nat := 49
abbrev fi_slices_Reverse_int_int : Nat := 50
abbrev fi_fullerref02_Place : Nat := 51
abbrev fi_move_indices_1 : Nat := 52
abbrev fi_shape_Index : Nat := 53
/-! fuller/fullerlaw05.MoveTells: params 6 + 0, slots 160; [t, u, s, axis, from, to, t, u, s, axis, from, to, , up, a, e, b, f, one, two, three, four, , , , , , , , ] -/
def a_fullerlaw05_MoveTells : ACode := (.seq (.region none (.op (some 6) none (.n (.box 2 (.t 0)))
  (.op (some 7) none (.n (.box 2 (.t 1)))
  (.op (some 12) none (.q (.mov (.c (.one (.p (.bool false))))))
  .nil))) [2, 3, 4, 5, 6, 7] [6, 7])
 (.seq (.region none (.op (some 22) none (.call (.c (.one (.p (.fn fi_fullerlaw05_awake [] [])))) [])
  (.op (some 13) none (.q (.mov (.t 22)))
  .nil)) [2, 3, 4, 5, 6, 7, 13] [6, 7])
 (.seq (.seq (.region none (.op (some 23) none (.q (.load 2 true (.t 6)))
  (.op (some 24) none (.call (.c (.one (.p (.fn fi_fullerref03_Few [] [])))) [(.t 23)])
  (.op (some 25) none (.q (.un .not (.t 24)))
  (.op (some 26) none (.q (.mov (.t 25)))
  (.sc 30 26 false 29 none
  (.op (some 27) (some (26, false)) (.q (.load 2 true (.t 7)))
  (.op (some 28) (some (26, false)) (.call (.c (.one (.p (.fn fi_fullerref03_Few [] [])))) [(.t 27)])
  (.op (some 29) (some (26, false)) (.q (.un .not (.t 28)))
  .nil)))
  (.op (some 31) none (.q (.mov (.t 30)))
  (.sc 35 31 false 34 none
  (.op (some 32) (some (31, false)) (.q (.mov (.t 2)))
  (.op (some 33) (some (31, false)) (.q (.len (.t 32)))
  (.op (some 34) (some (31, false)) (.q (.bin .gtr (.t 33) (.c (.one (.p (.int .i64 100))))))
  .nil)))
  .nil))))))) [2, 3, 4, 5, 6, 7, 13, 35] [6, 7])
 (.cond (.t 35) (.seq (.region none (.op (some 36) none (.q (.mov (.t 13)))
  (.op (some 12) none (.q (.mov (.t 36)))
  .nil)) [12] [6, 7])
 .ret)
 .skip))
 (.seq (.region none (.op (some 38) none (.q (.load 2 true (.t 6)))
  (.op (some 39) none (.q (.mov (.t 2)))
  (.op (some 40) none (.call (.c (.one (.p (.fn fi_move_Reshape [] [])))) [(.t 38), (.t 39)])
  (.op (some 37) none (.q (.mov (.t 40)))
  (.op (some 41) none (.q (.extr (.t 37) 0))
  (.op (some 42) none (.q (.extr (.t 37) 1))
  (.op (some 14) none (.n (.alloc [.nils, .nils]))
  (.op none none (.s (.store 2 (.t 14) (.t 41)))
  (.op (some 15) none (.q (.mov (.t 42)))
  .nil))))))))) [2, 3, 4, 5, 6, 7, 13, 14, 15] [6, 7, 14])
 (.seq (.region none (.op (some 44) none (.q (.load 2 true (.t 6)))
  (.op (some 45) none (.q (.mov (.t 2)))
  (.op (some 46) none (.call (.c (.one (.p (.fn fi_fullerref05_Reshape [] [])))) [(.t 44), (.t 45)])
  (.op (some 43) none (.q (.mov (.t 46)))
  (.op (some 47) none (.q (.extr (.t 43) 0))
  (.op (some 48) none (.q (.extr (.t 43) 1))
  (.op (some 16) none (.n (.alloc [.nils, .nils]))
  (.op none none (.s (.store 2 (.t 16) (.t 47)))
  (.op (some 17) none (.q (.mov (.t 48)))
  .nil))))))))) [3, 4, 5, 6, 7, 13, 14, 15, 16, 17] [6, 7, 14, 16])
 (.seq (.region none (.op (some 49) none (.q (.load 2 true (.t 14)))
  (.op (some 50) none (.q (.load 2 true (.t 16)))
  (.op (some 51) none (.call (.c (.one (.p (.fn fi_fullerref03_Same [] [])))) [(.t 49), (.t 50)])
  (.op (some 52) none (.q (.mov (.t 51)))
  (.sc 56 52 true 55 none
  (.op (some 53) (some (52, true)) (.q (.mov (.t 15)))
  (.op (some 54) (some (52, true)) (.q (.mov (.t 17)))
  (.op (some 55) (some (52, true)) (.q (.bin .eql (.t 53) (.t 54)))
  .nil)))
  (.op (some 18) none (.q (.mov (.t 56)))
  .nil)))))) [3, 4, 5, 6, 7, 13, 14, 16, 18] [6, 7, 14, 16])
 (.seq (.region none (.op (some 58) none (.q (.load 2 true (.t 6)))
  (.op (some 59) none (.call (.c (.one (.p (.fn fi_move_Turn [] [])))) [(.t 58)])
  (.op (some 57) none (.q (.mov (.t 59)))
  (.op (some 60) none (.q (.extr (.t 57) 0))
  (.op (some 61) none (.q (.extr (.t 57) 1))
  (.op none none (.s (.store 2 (.t 14) (.t 60)))
  (.op (some 15) none (.q (.mov (.t 61)))
  .nil))))))) [3, 4, 5, 6, 7, 13, 14, 15, 16, 18] [6, 7, 14, 16])
 (.seq (.region none (.op (some 63) none (.q (.load 2 true (.t 6)))
  (.op (some 64) none (.call (.c (.one (.p (.fn fi_fullerref05_Turn [] [])))) [(.t 63)])
  (.op (some 62) none (.q (.mov (.t 64)))
  (.op (some 65) none (.q (.extr (.t 62) 0))
  (.op (some 66) none (.q (.extr (.t 62) 1))
  (.op none none (.s (.store 2 (.t 16) (.t 65)))
  (.op (some 17) none (.q (.mov (.t 66)))
  .nil))))))) [3, 4, 5, 6, 7, 13, 14, 15, 16, 17, 18] [6, 7, 14, 16])
 (.seq (.region none (.op (some 67) none (.q (.load 2 true (.t 14)))
  (.op (some 68) none (.q (.load 2 true (.t 16)))
  (.op (some 69) none (.call (.c (.one (.p (.fn fi_fullerref03_Same [] [])))) [(.t 67), (.t 68)])
  (.op (some 70) none (.q (.mov (.t 69)))
  (.sc 74 70 true 73 none
  (.op (some 71) (some (70, true)) (.q (.mov (.t 15)))
  (.op (some 72) (some (70, true)) (.q (.mov (.t 17)))
  (.op (some 73) (some (70, true)) (.q (.bin .eql (.t 71) (.t 72)))
  .nil)))
  (.op (some 19) none (.q (.mov (.t 74)))
  .nil)))))) [3, 4, 5, 6, 7, 13, 14, 16, 18, 19] [6, 7, 14, 16])
 (.seq (.region none (.op (some 76) none (.q (.load 2 true (.t 6)))
  (.op (some 77) none (.q (.mov (.t 3)))
  (.op (some 78) none (.q (.mov (.t 4)))
  (.op (some 79) none (.q (.mov (.t 5)))
  (.op (some 80) none (.call (.c (.one (.p (.fn fi_move_Slice [] [])))) [(.t 76), (.t 77), (.t 78), (.t 79)])
  (.op (some 75) none (.q (.mov (.t 80)))
  (.op (some 81) none (.q (.extr (.t 75) 0))
  (.op (some 82) none (.q (.extr (.t 75) 1))
  (.op none none (.s (.store 2 (.t 14) (.t 81)))
  (.op (some 15) none (.q (.mov (.t 82)))
  .nil)))))))))) [3, 4, 5, 6, 7, 13, 14, 15, 16, 18, 19] [6, 7, 14, 16])
 (.seq (.region none (.op (some 84) none (.q (.load 2 true (.t 6)))
  (.op (some 85) none (.q (.mov (.t 3)))
  (.op (some 86) none (.q (.mov (.t 4)))
  (.op (some 87) none (.q (.mov (.t 5)))
  (.op (some 88) none (.call (.c (.one (.p (.fn fi_fullerref05_Slice [] [])))) [(.t 84), (.t 85), (.t 86), (.t 87)])
  (.op (some 83) none (.q (.mov (.t 88)))
  (.op (some 89) none (.q (.extr (.t 83) 0))
  (.op (some 90) none (.q (.extr (.t 83) 1))
  (.op none none (.s (.store 2 (.t 16) (.t 89)))
  (.op (some 17) none (.q (.mov (.t 90)))
  .nil)))))))))) [3, 4, 5, 6, 7, 13, 14, 15, 16, 17, 18, 19] [6, 7, 14, 16])
 (.seq (.region none (.op (some 91) none (.q (.load 2 true (.t 14)))
  (.op (some 92) none (.q (.load 2 true (.t 16)))
  (.op (some 93) none (.call (.c (.one (.p (.fn fi_fullerref03_Same [] [])))) [(.t 91), (.t 92)])
  (.op (some 94) none (.q (.mov (.t 93)))
  (.sc 98 94 true 97 none
  (.op (some 95) (some (94, true)) (.q (.mov (.t 15)))
  (.op (some 96) (some (94, true)) (.q (.mov (.t 17)))
  (.op (some 97) (some (94, true)) (.q (.bin .eql (.t 95) (.t 96)))
  .nil)))
  (.op (some 20) none (.q (.mov (.t 98)))
  .nil)))))) [3, 4, 5, 6, 7, 13, 14, 16, 18, 19, 20] [6, 7, 14, 16])
 (.seq (.region none (.op (some 100) none (.q (.load 2 true (.t 6)))
  (.op (some 101) none (.q (.mov (.t 3)))
  (.op (some 102) none (.q (.mov (.t 4)))
  (.op (some 103) none (.q (.mov (.t 5)))
  (.op (some 104) none (.call (.c (.one (.p (.fn fi_move_Pad [] [])))) [(.t 100), (.t 101), (.t 102), (.t 103)])
  (.op (some 99) none (.q (.mov (.t 104)))
  (.op (some 105) none (.q (.extr (.t 99) 0))
  (.op (some 106) none (.q (.extr (.t 99) 1))
  (.op none none (.s (.store 2 (.t 14) (.t 105)))
  (.op (some 15) none (.q (.mov (.t 106)))
  .nil)))))))))) [3, 4, 5, 6, 7, 13, 14, 15, 16, 18, 19, 20] [6, 7, 14, 16])
 (.seq (.region none (.op (some 108) none (.q (.load 2 true (.t 6)))
  (.op (some 109) none (.q (.mov (.t 3)))
  (.op (some 110) none (.q (.mov (.t 4)))
  (.op (some 111) none (.q (.mov (.t 5)))
  (.op (some 112) none (.call (.c (.one (.p (.fn fi_fullerref05_Pad [] [])))) [(.t 108), (.t 109), (.t 110), (.t 111)])
  (.op (some 107) none (.q (.mov (.t 112)))
  (.op (some 113) none (.q (.extr (.t 107) 0))
  (.op (some 114) none (.q (.extr (.t 107) 1))
  (.op none none (.s (.store 2 (.t 16) (.t 113)))
  (.op (some 17) none (.q (.mov (.t 114)))
  .nil)))))))))) [3, 6, 7, 13, 14, 15, 16, 17, 18, 19, 20] [6, 7, 14, 16])
 (.seq (.region none (.op (some 115) none (.q (.load 2 true (.t 14)))
  (.op (some 116) none (.q (.load 2 true (.t 16)))
  (.op (some 117) none (.call (.c (.one (.p (.fn fi_fullerref03_Same [] [])))) [(.t 115), (.t 116)])
  (.op (some 118) none (.q (.mov (.t 117)))
  (.sc 122 118 true 121 none
  (.op (some 119) (some (118, true)) (.q (.mov (.t 15)))
  (.op (some 120) (some (118, true)) (.q (.mov (.t 17)))
  (.op (some 121) (some (118, true)) (.q (.bin .eql (.t 119) (.t 120)))
  .nil)))
  (.op (some 21) none (.q (.mov (.t 122)))
  .nil)))))) [3, 6, 7, 13, 14, 16, 18, 19, 20, 21] [6, 7, 14, 16])
 (.seq (.region none (.op (some 124) none (.q (.load 2 true (.t 6)))
  (.op (some 125) none (.q (.load 2 true (.t 7)))
  (.op (some 126) none (.q (.mov (.t 3)))
  (.op (some 127) none (.call (.c (.one (.p (.fn fi_move_Join [] [])))) [(.t 124), (.t 125), (.t 126)])
  (.op (some 123) none (.q (.mov (.t 127)))
  (.op (some 128) none (.q (.extr (.t 123) 0))
  (.op (some 129) none (.q (.extr (.t 123) 1))
  (.op none none (.s (.store 2 (.t 14) (.t 128)))
  (.op (some 15) none (.q (.mov (.t 129)))
  .nil))))))))) [3, 6, 7, 13, 14, 15, 16, 18, 19, 20, 21] [6, 7, 14, 16])
 (.seq (.region none (.op (some 131) none (.q (.load 2 true (.t 6)))
  (.op (some 132) none (.q (.load 2 true (.t 7)))
  (.op (some 133) none (.q (.mov (.t 3)))
  (.op (some 134) none (.call (.c (.one (.p (.fn fi_fullerref05_Join [] [])))) [(.t 131), (.t 132), (.t 133)])
  (.op (some 130) none (.q (.mov (.t 134)))
  (.op (some 135) none (.q (.extr (.t 130) 0))
  (.op (some 136) none (.q (.extr (.t 130) 1))
  (.op none none (.s (.store 2 (.t 16) (.t 135)))
  (.op (some 17) none (.q (.mov (.t 136)))
  .nil))))))))) [13, 14, 15, 16, 17, 18, 19, 20, 21] [6, 7, 14, 16])
 (.seq (.region none (.op (some 137) none (.q (.mov (.t 13)))
  (.op (some 138) none (.q (.mov (.t 137)))
  (.sc 140 138 true 139 none
  (.op (some 139) (some (138, true)) (.q (.mov (.t 18)))
  .nil)
  (.op (some 141) none (.q (.mov (.t 140)))
  (.sc 143 141 true 142 none
  (.op (some 142) (some (141, true)) (.q (.mov (.t 19)))
  .nil)
  (.op (some 144) none (.q (.mov (.t 143)))
  (.sc 146 144 true 145 none
  (.op (some 145) (some (144, true)) (.q (.mov (.t 20)))
  .nil)
  (.op (some 147) none (.q (.mov (.t 146)))
  (.sc 149 147 true 148 none
  (.op (some 148) (some (147, true)) (.q (.mov (.t 21)))
  .nil)
  (.op (some 150) none (.q (.mov (.t 149)))
  (.sc 154 150 true 153 none
  (.op (some 151) (some (150, true)) (.q (.load 2 true (.t 14)))
  (.op (some 152) (some (150, true)) (.q (.load 2 true (.t 16)))
  (.op (some 153) (some (150, true)) (.call (.c (.one (.p (.fn fi_fullerref03_Same [] [])))) [(.t 151), (.t 152)])
  .nil)))
  (.op (some 155) none (.q (.mov (.t 154)))
  (.sc 159 155 true 158 none
  (.op (some 156) (some (155, true)) (.q (.mov (.t 15)))
  (.op (some 157) (some (155, true)) (.q (.mov (.t 17)))
  (.op (some 158) (some (155, true)) (.q (.bin .eql (.t 156) (.t 157)))
  .nil)))
  (.op (some 12) none (.q (.mov (.t 159)))
  .nil)))))))))))))) [12] [6, 7, 14, 16])
 .ret))))))))))))))))))
theorem is_fullerlaw05_MoveTells : compC Try.prog (Try.f3.body.getD .skip) = some a_fullerlaw05_MoveTells.erase := by kernel_rfl
theorem ok_fullerlaw05_MoveTells : a_fullerlaw05_MoveTells.ok 160 = true := by kernel_rfl
theorem rv_fullerlaw05_MoveTells : compRV Try.prog Try.f3.results.toList = some [.tmp 12] := by kernel_rfl
theorem pure_fullerlaw05_MoveTells {ds : List DV} {r : DV} (hn : ds.length ≤ 160) (h : ∀ (G : AM.Ground), G.P = Try.prog → G.nt = 160 → T G Fence.wide 0 a_fullerlaw05_MoveTells (AM.Ends [.tmp 12] r) { env := initE 0 ds, σ := [] }) : PureC Try.prog fi_fullerlaw05_MoveTells ds r :=
  pureC_of Try.call3 Try.func3 (by rfl) is_fullerlaw05_MoveTells ok_fullerlaw05_MoveTells rv_fullerlaw05_MoveTells hn h

theorem mut_fullerlaw05_MoveTells {vs : List AV} {σ σ' : Sto} {r : AV} {fr : List Nat} (hn : vs.length ≤ 160) (h : ∀ (G : AM.Ground) (ex : List AV), G.P = Try.prog → G.nt = 160 → (∀ d ∈ fr, ex.all (fun v => !v.has d) = true) → T G Fence.wide 0 a_fullerlaw05_MoveTells (EndsM [.tmp 12] r σ' ex) { env := initV 0 vs, σ := σ, ex := ex }) : MutC Try.prog fi_fullerlaw05_MoveTells vs σ r σ' fr :=
  mutC_of Try.call3 Try.func3 (by rfl) is_fullerlaw05_MoveTells ok_fullerlaw05_MoveTells rv_fullerlaw05_MoveTells hn h

/-! fuller/fullerlaw05.awake: params 0 + 0, slots 115; [, t, a, e, b, f, c, g, d, h, r, i, _, j, _, k, one, , , , , , , , , , , , , ] -/
def a_fullerlaw05_awake : ACode := (.seq (.region none (.op (some 0) none (.q (.mov (.c (.one (.p (.bool false))))))
  .nil) [] [])
 (.seq (.region none (.op (some 17) none (.n (.lit 1 2 [(.int .i64 0)] [(0, (.c (.one (.p (.int .i64 2))))), (1, (.c (.one (.p (.int .i64 3)))))]))
  (.op (some 18) none (.n (.lit 1 6 [(.int .i64 0)] [(0, (.c (.one (.p (.int .i64 1))))), (1, (.c (.one (.p (.int .i64 2))))), (2, (.c (.one (.p (.int .i64 3))))), (3, (.c (.one (.p (.int .i64 4))))), (4, (.c (.one (.p (.int .i64 5))))), (5, (.c (.one (.p (.int .i64 6)))))]))
  (.op (some 19) none (.q (.build [.nils, .nils] [(0, 1, (.t 17)), (1, 1, (.t 18))]))
  (.op (some 1) none (.n (.alloc [.nils, .nils]))
  (.op none none (.s (.store 2 (.t 1) (.t 19)))
  .nil))))) [1] [1, 17, 18])
 (.seq (.region none (.op (some 21) none (.q (.load 2 true (.t 1)))
  (.op (some 22) none (.call (.c (.one (.p (.fn fi_move_Turn [] [])))) [(.t 21)])
  (.op (some 20) none (.q (.mov (.t 22)))
  (.op (some 23) none (.q (.extr (.t 20) 0))
  (.op (some 24) none (.q (.extr (.t 20) 1))
  (.op (some 2) none (.n (.alloc [.nils, .nils]))
  (.op none none (.s (.store 2 (.t 2) (.t 23)))
  (.op (some 3) none (.q (.mov (.t 24)))
  .nil)))))))) [1, 2, 3] [1, 2, 17, 18])
 (.seq (.region none (.op (some 26) none (.q (.load 2 true (.t 1)))
  (.op (some 27) none (.call (.c (.one (.p (.fn fi_move_Slice [] [])))) [(.t 26), (.c (.one (.p (.int .i64 1)))), (.c (.one (.p (.int .i64 1)))), (.c (.one (.p (.int .i64 3))))])
  (.op (some 25) none (.q (.mov (.t 27)))
  (.op (some 28) none (.q (.extr (.t 25) 0))
  (.op (some 29) none (.q (.extr (.t 25) 1))
  (.op (some 4) none (.n (.alloc [.nils, .nils]))
  (.op none none (.s (.store 2 (.t 4) (.t 28)))
  (.op (some 5) none (.q (.mov (.t 29)))
  .nil)))))))) [1, 2, 3, 4, 5] [1, 2, 4, 17, 18])
 (.seq (.region none (.op (some 31) none (.q (.load 2 true (.t 4)))
  (.op (some 32) none (.call (.c (.one (.p (.fn fi_move_Pad [] [])))) [(.t 31), (.c (.one (.p (.int .i64 1)))), (.c (.one (.p (.int .i64 1)))), (.c (.one (.p (.int .i64 3))))])
  (.op (some 30) none (.q (.mov (.t 32)))
  (.op (some 33) none (.q (.extr (.t 30) 0))
  (.op (some 34) none (.q (.extr (.t 30) 1))
  (.op (some 6) none (.n (.alloc [.nils, .nils]))
  (.op none none (.s (.store 2 (.t 6) (.t 33)))
  (.op (some 7) none (.q (.mov (.t 34)))
  .nil)))))))) [1, 2, 3, 4, 5, 6, 7] [1, 2, 4, 6, 17, 18])
 (.seq (.region none (.op (some 36) none (.q (.load 2 true (.t 1)))
  (.op (some 37) none (.q (.load 2 true (.t 1)))
  (.op (some 38) none (.call (.c (.one (.p (.fn fi_move_Join [] [])))) [(.t 36), (.t 37), (.c (.one (.p (.int .i64 0))))])
  (.op (some 35) none (.q (.mov (.t 38)))
  (.op (some 39) none (.q (.extr (.t 35) 0))
  (.op (some 40) none (.q (.extr (.t 35) 1))
  (.op (some 8) none (.n (.alloc [.nils, .nils]))
  (.op none none (.s (.store 2 (.t 8) (.t 39)))
  (.op (some 9) none (.q (.mov (.t 40)))
  .nil))))))))) [1, 2, 3, 4, 5, 6, 7, 8, 9] [1, 2, 4, 6, 8, 17, 18])
 (.seq (.region none (.op (some 42) none (.q (.load 2 true (.t 1)))
  (.op (some 43) none (.n (.lit 1 1 [(.int .i64 0)] [(0, (.c (.one (.p (.int .i64 6)))))]))
  (.op (some 44) none (.call (.c (.one (.p (.fn fi_move_Reshape [] [])))) [(.t 42), (.t 43)])
  (.op (some 41) none (.q (.mov (.t 44)))
  (.op (some 45) none (.q (.extr (.t 41) 0))
  (.op (some 46) none (.q (.extr (.t 41) 1))
  (.op (some 10) none (.n (.alloc [.nils, .nils]))
  (.op none none (.s (.store 2 (.t 10) (.t 45)))
  (.op (some 11) none (.q (.mov (.t 46)))
  .nil))))))))) [1, 2, 3, 4, 5, 6, 7, 8, 9, 10, 11] [1, 2, 4, 6, 8, 10, 17, 18, 43])
 (.seq (.region none (.op (some 48) none (.q (.load 2 true (.t 1)))
  (.op (some 49) none (.n (.lit 1 1 [(.int .i64 0)] [(0, (.c (.one (.p (.int .i64 5)))))]))
  (.op (some 50) none (.call (.c (.one (.p (.fn fi_move_Reshape [] [])))) [(.t 48), (.t 49)])
  (.op (some 47) none (.q (.mov (.t 50)))
  (.op (some 51) none (.q (.extr (.t 47) 0))
  (.op (some 52) none (.q (.extr (.t 47) 1))
  (.op (some 12) none (.n (.alloc [.nils, .nils]))
  (.op none none (.s (.store 2 (.t 12) (.t 51)))
  (.op (some 13) none (.q (.mov (.t 52)))
  .nil))))))))) [2, 3, 4, 5, 6, 7, 8, 9, 10, 11, 13] [1, 2, 4, 6, 8, 10, 12, 17, 18, 43, 49])
 (.seq (.region none (.op (some 54) none (.q (.build [.nils, .nils] []))
  (.op (some 55) none (.call (.c (.one (.p (.fn fi_move_Turn [] [])))) [(.t 54)])
  (.op (some 53) none (.q (.mov (.t 55)))
  (.op (some 56) none (.q (.extr (.t 53) 0))
  (.op (some 57) none (.q (.extr (.t 53) 1))
  (.op (some 14) none (.n (.alloc [.nils, .nils]))
  (.op none none (.s (.store 2 (.t 14) (.t 56)))
  (.op (some 15) none (.q (.mov (.t 57)))
  .nil)))))))) [2, 3, 4, 5, 6, 7, 8, 9, 10, 11, 13, 15] [1, 2, 4, 6, 8, 10, 12, 14, 17, 18, 43, 49])
 (.seq (.region none (.op (some 58) none (.q (.faddr 1 (.t 2)))
  (.op (some 59) none (.q (.load 1 false (.t 58)))
  (.op (some 60) none (.n (.lit 1 6 [(.int .i64 0)] [(0, (.c (.one (.p (.int .i64 1))))), (1, (.c (.one (.p (.int .i64 4))))), (2, (.c (.one (.p (.int .i64 2))))), (3, (.c (.one (.p (.int .i64 5))))), (4, (.c (.one (.p (.int .i64 3))))), (5, (.c (.one (.p (.int .i64 6)))))]))
  (.op (some 61) none (.call (.c (.one (.p (.fn fi_fullerref02_Same [] [])))) [(.t 59), (.t 60)])
  (.op (some 62) none (.q (.mov (.t 61)))
  (.sc 65 62 true 64 none
  (.op (some 63) (some (62, true)) (.q (.mov (.t 3)))
  (.op (some 64) (some (62, true)) (.q (.bin .eql (.t 63) (.c (.one (.p (.int .i64 0))))))
  .nil))
  (.op (some 66) none (.q (.mov (.t 65)))
  (.sc 71 66 true 70 none
  (.op (some 67) (some (66, true)) (.q (.faddr 1 (.t 4)))
  (.op (some 68) (some (66, true)) (.q (.load 1 false (.t 67)))
  (.op (some 69) (some (66, true)) (.n (.lit 1 4 [(.int .i64 0)] [(0, (.c (.one (.p (.int .i64 2))))), (1, (.c (.one (.p (.int .i64 3))))), (2, (.c (.one (.p (.int .i64 5))))), (3, (.c (.one (.p (.int .i64 6)))))]))
  (.op (some 70) (some (66, true)) (.call (.c (.one (.p (.fn fi_fullerref02_Same [] [])))) [(.t 68), (.t 69)])
  .nil))))
  (.op (some 72) none (.q (.mov (.t 71)))
  (.sc 75 72 true 74 none
  (.op (some 73) (some (72, true)) (.q (.mov (.t 5)))
  (.op (some 74) (some (72, true)) (.q (.bin .eql (.t 73) (.c (.one (.p (.int .i64 0))))))
  .nil))
  (.op (some 76) none (.q (.mov (.t 75)))
  (.sc 81 76 true 80 none
  (.op (some 77) (some (76, true)) (.q (.faddr 1 (.t 6)))
  (.op (some 78) (some (76, true)) (.q (.load 1 false (.t 77)))
  (.op (some 79) (some (76, true)) (.n (.lit 1 6 [(.int .i64 0)] [(0, (.c (.one (.p (.int .i64 0))))), (1, (.c (.one (.p (.int .i64 2))))), (2, (.c (.one (.p (.int .i64 3))))), (3, (.c (.one (.p (.int .i64 0))))), (4, (.c (.one (.p (.int .i64 5))))), (5, (.c (.one (.p (.int .i64 6)))))]))
  (.op (some 80) (some (76, true)) (.call (.c (.one (.p (.fn fi_fullerref02_Same [] [])))) [(.t 78), (.t 79)])
  .nil))))
  (.op (some 82) none (.q (.mov (.t 81)))
  (.sc 85 82 true 84 none
  (.op (some 83) (some (82, true)) (.q (.mov (.t 7)))
  (.op (some 84) (some (82, true)) (.q (.bin .eql (.t 83) (.c (.one (.p (.int .i64 0))))))
  .nil))
  (.op (some 16) none (.q (.mov (.t 85)))
  .nil))))))))))))))) [8, 9, 10, 11, 13, 15, 16] [1, 2, 4, 6, 8, 10, 12, 14, 17, 18, 43, 49, 60, 69, 79])
 (.seq (.region none (.op (some 86) none (.q (.mov (.t 16)))
  (.op (some 87) none (.q (.mov (.t 86)))
  (.sc 92 87 true 91 none
  (.op (some 88) (some (87, true)) (.q (.faddr 1 (.t 8)))
  (.op (some 89) (some (87, true)) (.q (.load 1 false (.t 88)))
  (.op (some 90) (some (87, true)) (.q (.len (.t 89)))
  (.op (some 91) (some (87, true)) (.q (.bin .eql (.t 90) (.c (.one (.p (.int .i64 12))))))
  .nil))))
  (.op (some 93) none (.q (.mov (.t 92)))
  (.sc 96 93 true 95 none
  (.op (some 94) (some (93, true)) (.q (.mov (.t 9)))
  (.op (some 95) (some (93, true)) (.q (.bin .eql (.t 94) (.c (.one (.p (.int .i64 0))))))
  .nil))
  (.op (some 97) none (.q (.mov (.t 96)))
  (.sc 102 97 true 101 none
  (.op (some 98) (some (97, true)) (.q (.faddr 0 (.t 10)))
  (.op (some 99) (some (97, true)) (.q (.load 1 false (.t 98)))
  (.op (some 100) (some (97, true)) (.n (.lit 1 1 [(.int .i64 0)] [(0, (.c (.one (.p (.int .i64 6)))))]))
  (.op (some 101) (some (97, true)) (.call (.c (.one (.p (.fn fi_fullerref02_Same [] [])))) [(.t 99), (.t 100)])
  .nil))))
  (.op (some 103) none (.q (.mov (.t 102)))
  (.sc 106 103 true 105 none
  (.op (some 104) (some (103, true)) (.q (.mov (.t 11)))
  (.op (some 105) (some (103, true)) (.q (.bin .eql (.t 104) (.c (.one (.p (.int .i64 0))))))
  .nil))
  (.op (some 107) none (.q (.mov (.t 106)))
  (.sc 110 107 true 109 none
  (.op (some 108) (some (107, true)) (.q (.mov (.t 13)))
  (.op (some 109) (some (107, true)) (.q (.bin .eql (.t 108) (.c (.one (.p (.int .i64 20))))))
  .nil))
  (.op (some 111) none (.q (.mov (.t 110)))
  (.sc 114 111 true 113 none
  (.op (some 112) (some (111, true)) (.q (.mov (.t 15)))
  (.op (some 113) (some (111, true)) (.q (.bin .eql (.t 112) (.c (.one (.p (.int .i64 30))))))
  .nil))
  (.op (some 0) none (.q (.mov (.t 114)))
  .nil)))))))))))))) [0] [1, 2, 4, 6, 8, 10, 12, 14, 17, 18, 43, 49, 60, 69, 79, 100])
 .ret)))))))))))
theorem is_fullerlaw05_awake : compC Try.prog (Try.f9.body.getD .skip) = some a_fullerlaw05_awake.erase := by kernel_rfl
theorem ok_fullerlaw05_awake : a_fullerlaw05_awake.ok 115 = true := by kernel_rfl
theorem rv_fullerlaw05_awake : compRV Try.prog Try.f9.results.toList = some [.tmp 0] := by kernel_rfl
theorem pure_fullerlaw05_awake {ds : List DV} {r : DV} (hn : ds.length ≤ 115) (h : ∀ (G : AM.Ground), G.P = Try.prog → G.nt = 115 → T G Fence.wide 0 a_fullerlaw05_awake (AM.Ends [.tmp 0] r) { env := initE 0 ds, σ := [] }) : PureC Try.prog fi_fullerlaw05_awake ds r :=
  pureC_of Try.call9 Try.func9 (by rfl) is_fullerlaw05_awake ok_fullerlaw05_awake rv_fullerlaw05_awake hn h

theorem mut_fullerlaw05_awake {vs : List AV} {σ σ' : Sto} {r : AV} {fr : List Nat} (hn : vs.length ≤ 115) (h : ∀ (G : AM.Ground) (ex : List AV), G.P = Try.prog → G.nt = 115 → (∀ d ∈ fr, ex.all (fun v => !v.has d) = true) → T G Fence.wide 0 a_fullerlaw05_awake (EndsM [.tmp 0] r σ' ex) { env := initV 0 vs, σ := σ, ex := ex }) : MutC Try.prog fi_fullerlaw05_awake vs σ r σ' fr :=
  mutC_of Try.call9 Try.func9 (by rfl) is_fullerlaw05_awake ok_fullerlaw05_awake rv_fullerlaw05_awake hn h

/-! fuller/fullerref03.Few: params 1 + 0, slots 13; [t, t, , , , , , , , , , , ] -/
def a_fullerref03_Few : ACode := (.seq (.region none (.op (some 1) none (.n (.box 2 (.t 0)))
  (.op (some 2) none (.q (.mov (.c (.one (.p (.bool false))))))
  .nil)) [1] [1])
 (.seq (.region none (.op (some 3) none (.q (.faddr 0 (.t 1)))
  (.op (some 4) none (.q (.load 1 false (.t 3)))
  (.op (some 5) none (.q (.len (.t 4)))
  (.op (some 6) none (.q (.bin .leq (.t 5) (.c (.one (.p (.int .i64 100))))))
  (.op (some 7) none (.q (.mov (.t 6)))
  (.sc 12 7 true 11 none
  (.op (some 8) (some (7, true)) (.q (.faddr 1 (.t 1)))
  (.op (some 9) (some (7, true)) (.q (.load 1 false (.t 8)))
  (.op (some 10) (some (7, true)) (.q (.len (.t 9)))
  (.op (some 11) (some (7, true)) (.q (.bin .leq (.t 10) (.c (.one (.p (.int .i64 100))))))
  .nil))))
  (.op (some 2) none (.q (.mov (.t 12)))
  .nil))))))) [2] [1])
 .ret))
theorem is_fullerref03_Few : compC Try.prog (Try.f10.body.getD .skip) = some a_fullerref03_Few.erase := by kernel_rfl
theorem ok_fullerref03_Few : a_fullerref03_Few.ok 13 = true := by kernel_rfl
theorem rv_fullerref03_Few : compRV Try.prog Try.f10.results.toList = some [.tmp 2] := by kernel_rfl
theorem pure_fullerref03_Few {ds : List DV} {r : DV} (hn : ds.length ≤ 13) (h : ∀ (G : AM.Ground), G.P = Try.prog → G.nt = 13 → T G Fence.wide 0 a_fullerref03_Few (AM.Ends [.tmp 2] r) { env := initE 0 ds, σ := [] }) : PureC Try.prog fi_fullerref03_Few ds r :=
  pureC_of Try.call10 Try.func10 (by rfl) is_fullerref03_Few ok_fullerref03_Few rv_fullerref03_Few hn h

theorem mut_fullerref03_Few {vs : List AV} {σ σ' : Sto} {r : AV} {fr : List Nat} (hn : vs.length ≤ 13) (h : ∀ (G : AM.Ground) (ex : List AV), G.P = Try.prog → G.nt = 13 → (∀ d ∈ fr, ex.all (fun v => !v.has d) = true) → T G Fence.wide 0 a_fullerref03_Few (EndsM [.tmp 2] r σ' ex) { env := initV 0 vs, σ := σ, ex := ex }) : MutC Try.prog fi_fullerref03_Few vs σ r σ' fr :=
  mutC_of Try.call10 Try.func10 (by rfl) is_fullerref03_Few ok_fullerref03_Few rv_fullerref03_Few hn h

/-! fuller/move.Reshape: params 2 + 0, slots 30; [t, s, t, s, , , , , , , , , , , , , , , , , , , , , , , , , , ] -/
def a_move_Reshape : ACode := (.seq (.region none (.op (some 2) none (.n (.box 2 (.t 0)))
  (.op (some 4) none (.n (.alloc [.nils, .nils]))
  (.op (some 5) none (.q (.mov (.c (.one (.p (.int .i64 0))))))
  .nil))) [1, 2, 4] [2, 4])
 (.seq (.block 0 (.seq (.region none (.op (some 7) none (.q (.load 2 true (.t 2)))
  (.op (some 8) none (.call (.c (.one (.p (.fn fi_tensor_Check [] [])))) [(.t 7)])
  (.op (some 9) none (.q (.un .not (.t 8)))
  (.op (some 6) none (.q (.mov (.t 9)))
  .nil)))) [1, 2, 4, 6] [2, 4])
 (.cond (.t 6) (.seq (.region none (.op (some 10) none (.q (.build [.nils, .nils] []))
  (.op none none (.s (.store 2 (.t 4) (.t 10)))
  (.op (some 5) none (.q (.mov (.c (.one (.p (.int .i64 30))))))
  .nil))) [4, 5] [2, 4])
 .ret)
 (.seq (.region (some [[], [], [], [], [], [], [4, 5], [4, 5], [4, 5], [], [], []]) (.op (some 12) none (.q (.mov (.t 1)))
  (.op (some 13) none (.call (.c (.one (.p (.fn fi_shape_Check [] [])))) [(.t 12)])
  (.op (some 14) none (.q (.un .not (.t 13)))
  (.op (some 15) none (.q (.mov (.t 14)))
  (.sc 22 15 false 21 none
  (.op (some 16) (some (15, false)) (.q (.mov (.t 1)))
  (.op (some 17) (some (15, false)) (.call (.c (.one (.p (.fn fi_shape_Size [] [])))) [(.t 16)])
  (.op (some 18) (some (15, false)) (.q (.faddr 1 (.t 2)))
  (.op (some 19) (some (15, false)) (.q (.load 1 false (.t 18)))
  (.op (some 20) (some (15, false)) (.q (.len (.t 19)))
  (.op (some 21) (some (15, false)) (.q (.bin .neq (.t 17) (.t 20)))
  .nil))))))
  (.op (some 11) none (.q (.mov (.t 22)))
  .nil)))))) [1, 2, 4, 11] [2, 4])
 (.cond (.t 11) (.seq (.region none (.op (some 23) none (.q (.build [.nils, .nils] []))
  (.op none none (.s (.store 2 (.t 4) (.t 23)))
  (.op (some 5) none (.q (.mov (.c (.one (.p (.int .i64 20))))))
  .nil))) [4, 5] [2, 4])
 .ret)
 .skip)))))
 (.seq (.region (some [[], [], [0, 1], [0, 1], [], [], [], []]) (.op (some 24) none (.q (.mov (.t 1)))
  (.op (some 25) none (.call (.c (.one (.p (.fn fi_slices_Clone_int_int [] [])))) [(.t 24)])
  (.op (some 26) none (.q (.faddr 1 (.t 2)))
  (.op (some 27) none (.q (.load 1 false (.t 26)))
  (.op (some 28) none (.call (.c (.one (.p (.fn fi_slices_Clone_int_int [] [])))) [(.t 27)])
  (.op (some 29) none (.q (.build [.nils, .nils] [(0, 1, (.t 25)), (1, 1, (.t 28))]))
  (.op none none (.s (.store 2 (.t 4) (.t 29)))
  (.op (some 5) none (.q (.mov (.c (.one (.p (.int .i64 0))))))
  .nil)))))))) [4, 5] [2, 4])
 .ret)))
theorem is_move_Reshape : compC Try.prog (Try.f11.body.getD .skip) = some a_move_Reshape.erase := by kernel_rfl
theorem ok_move_Reshape : a_move_Reshape.ok 30 = true := by kernel_rfl
theorem rv_move_Reshape : compRV Try.prog Try.f11.results.toList = some [.cell 2 true 4, .tmp 5] := by kernel_rfl
theorem pure_move_Reshape {ds : List DV} {r : DV} (hn : ds.length ≤ 30) (h : ∀ (G : AM.Ground), G.P = Try.prog → G.nt = 30 → T G Fence.wide 0 a_move_Reshape (AM.Ends [.cell 2 true 4, .tmp 5] r) { env := initE 0 ds, σ := [] }) : PureC Try.prog fi_move_Reshape ds r :=
  pureC_of Try.call11 Try.func11 (by rfl) is_move_Reshape ok_move_Reshape rv_move_Reshape hn h

theorem mut_move_Reshape {vs : List AV} {σ σ' : Sto} {r : AV} {fr : List Nat} (hn : vs.length ≤ 30) (h : ∀ (G : AM.Ground) (ex : List AV), G.P = Try.prog → G.nt = 30 → (∀ d ∈ fr, ex.all (fun v => !v.has d) = true) → T G Fence.wide 0 a_move_Reshape (EndsM [.cell 2 true 4, .tmp 5] r σ' ex) { env := initV 0 vs, σ := σ, ex := ex }) : MutC Try.prog fi_move_Reshape vs σ r σ' fr :=
  mutC_of Try.call11 Try.func11 (by rfl) is_move_Reshape ok_move_Reshape rv_move_Reshape hn h

/-! fuller/fullerref05.Reshape: params 2 + 0, slots 29; [t, s, t, s, , , ok, n, , , , , , , , , , , , , , , , , , , , , ] -/
def a_fullerref05_Reshape : ACode := (.seq (.region none (.op (some 2) none (.n (.box 2 (.t 0)))
  (.op (some 4) none (.n (.alloc [.nils, .nils]))
  (.op (some 5) none (.q (.mov (.c (.one (.p (.int .i64 0))))))
  .nil))) [1, 2, 4] [2, 4])
 (.seq (.region none (.op (some 8) none (.q (.load 2 true (.t 2)))
  (.op (some 9) none (.call (.c (.one (.p (.fn fi_fullerref03_Check [] [])))) [(.t 8)])
  (.op (some 6) none (.q (.mov (.t 9)))
  .nil))) [1, 2, 4, 6] [2, 4])
 (.seq (.seq (.region none (.op (some 10) none (.q (.mov (.t 6)))
  (.op (some 11) none (.q (.un .not (.t 10)))
  .nil)) [1, 2, 4, 11] [2, 4])
 (.cond (.t 11) (.seq (.region none (.op (some 12) none (.q (.build [.nils, .nils] []))
  (.op none none (.s (.store 2 (.t 4) (.t 12)))
  (.op (some 5) none (.q (.mov (.c (.one (.p (.int .i64 30))))))
  .nil))) [4, 5] [2, 4])
 .ret)
 .skip))
 (.seq (.region none (.op (some 13) none (.q (.mov (.t 1)))
  (.op (some 14) none (.call (.c (.one (.p (.fn fi_fullerref02_Size [] [])))) [(.t 13)])
  (.op (some 7) none (.q (.mov (.t 14)))
  .nil))) [1, 2, 4, 7] [2, 4])
 (.seq (.seq (.region none (.op (some 15) none (.q (.mov (.t 7)))
  (.op (some 16) none (.q (.bin .eql (.t 15) (.c (.one (.p (.int .i64 0))))))
  (.op (some 17) none (.q (.mov (.t 16)))
  (.sc 23 17 false 22 none
  (.op (some 18) (some (17, false)) (.q (.mov (.t 7)))
  (.op (some 19) (some (17, false)) (.q (.faddr 1 (.t 2)))
  (.op (some 20) (some (17, false)) (.q (.load 1 false (.t 19)))
  (.op (some 21) (some (17, false)) (.q (.len (.t 20)))
  (.op (some 22) (some (17, false)) (.q (.bin .neq (.t 18) (.t 21)))
  .nil)))))
  .nil)))) [1, 2, 4, 23] [2, 4])
 (.cond (.t 23) (.seq (.region none (.op (some 24) none (.q (.build [.nils, .nils] []))
  (.op none none (.s (.store 2 (.t 4) (.t 24)))
  (.op (some 5) none (.q (.mov (.c (.one (.p (.int .i64 20))))))
  .nil))) [4, 5] [2, 4])
 .ret)
 .skip))
 (.seq (.region none (.op (some 25) none (.q (.mov (.t 1)))
  (.op (some 26) none (.q (.faddr 1 (.t 2)))
  (.op (some 27) none (.q (.load 1 false (.t 26)))
  (.op (some 28) none (.q (.build [.nils, .nils] [(0, 1, (.t 25)), (1, 1, (.t 27))]))
  (.op none none (.s (.store 2 (.t 4) (.t 28)))
  (.op (some 5) none (.q (.mov (.c (.one (.p (.int .i64 0))))))
  .nil)))))) [4, 5] [2, 4])
 .ret))))))
theorem is_fullerref05_Reshape : compC Try.prog (Try.f12.body.getD .skip) = some a_fullerref05_Reshape.erase := by kernel_rfl
theorem ok_fullerref05_Reshape : a_fullerref05_Reshape.ok 29 = true := by kernel_rfl
theorem rv_fullerref05_Reshape : compRV Try.prog Try.f12.results.toList = some [.cell 2 true 4, .tmp 5] := by kernel_rfl
theorem pure_fullerref05_Reshape {ds : List DV} {r : DV} (hn : ds.length ≤ 29) (h : ∀ (G : AM.Ground), G.P = Try.prog → G.nt = 29 → T G Fence.wide 0 a_fullerref05_Reshape (AM.Ends [.cell 2 true 4, .tmp 5] r) { env := initE 0 ds, σ := [] }) : PureC Try.prog fi_fullerref05_Reshape ds r :=
  pureC_of Try.call12 Try.func12 (by rfl) is_fullerref05_Reshape ok_fullerref05_Reshape rv_fullerref05_Reshape hn h

theorem mut_fullerref05_Reshape {vs : List AV} {σ σ' : Sto} {r : AV} {fr : List Nat} (hn : vs.length ≤ 29) (h : ∀ (G : AM.Ground) (ex : List AV), G.P = Try.prog → G.nt = 29 → (∀ d ∈ fr, ex.all (fun v => !v.has d) = true) → T G Fence.wide 0 a_fullerref05_Reshape (EndsM [.cell 2 true 4, .tmp 5] r σ' ex) { env := initV 0 vs, σ := σ, ex := ex }) : MutC Try.prog fi_fullerref05_Reshape vs σ r σ' fr :=
  mutC_of Try.call12 Try.func12 (by rfl) is_fullerref05_Reshape ok_fullerref05_Reshape rv_fullerref05_Reshape hn h

/-! fuller/fullerref03.Same: params 2 + 0, slots 19; [a, b, a, b, , s, , , , , , , , , , , , , ] -/
def a_fullerref03_Same : ACode := (.seq (.region none (.op (some 2) none (.n (.box 2 (.t 0)))
  (.op (some 3) none (.n (.box 2 (.t 1)))
  (.op (some 4) none (.q (.mov (.c (.one (.p (.bool false))))))
  .nil))) [2, 3] [2, 3])
 (.seq (.region none (.op (some 6) none (.q (.faddr 0 (.t 2)))
  (.op (some 7) none (.q (.load 1 false (.t 6)))
  (.op (some 8) none (.q (.faddr 0 (.t 3)))
  (.op (some 9) none (.q (.load 1 false (.t 8)))
  (.op (some 10) none (.call (.c (.one (.p (.fn fi_fullerref02_Same [] [])))) [(.t 7), (.t 9)])
  (.op (some 5) none (.q (.mov (.t 10)))
  .nil)))))) [2, 3, 5] [2, 3])
 (.seq (.region none (.op (some 11) none (.q (.mov (.t 5)))
  (.op (some 12) none (.q (.mov (.t 11)))
  (.sc 18 12 true 17 none
  (.op (some 13) (some (12, true)) (.q (.faddr 1 (.t 2)))
  (.op (some 14) (some (12, true)) (.q (.load 1 false (.t 13)))
  (.op (some 15) (some (12, true)) (.q (.faddr 1 (.t 3)))
  (.op (some 16) (some (12, true)) (.q (.load 1 false (.t 15)))
  (.op (some 17) (some (12, true)) (.call (.c (.one (.p (.fn fi_fullerref02_Same [] [])))) [(.t 14), (.t 16)])
  .nil)))))
  (.op (some 4) none (.q (.mov (.t 18)))
  .nil)))) [4] [2, 3])
 .ret)))
theorem is_fullerref03_Same : compC Try.prog (Try.f13.body.getD .skip) = some a_fullerref03_Same.erase := by kernel_rfl
theorem ok_fullerref03_Same : a_fullerref03_Same.ok 19 = true := by kernel_rfl
theorem rv_fullerref03_Same : compRV Try.prog Try.f13.results.toList = some [.tmp 4] := by kernel_rfl
theorem pure_fullerref03_Same {ds : List DV} {r : DV} (hn : ds.length ≤ 19) (h : ∀ (G : AM.Ground), G.P = Try.prog → G.nt = 19 → T G Fence.wide 0 a_fullerref03_Same (AM.Ends [.tmp 4] r) { env := initE 0 ds, σ := [] }) : PureC Try.prog fi_fullerref03_Same ds r :=
  pureC_of Try.call13 Try.func13 (by rfl) is_fullerref03_Same ok_fullerref03_Same rv_fullerref03_Same hn h

theorem mut_fullerref03_Same {vs : List AV} {σ σ' : Sto} {r : AV} {fr : List Nat} (hn : vs.length ≤ 19) (h : ∀ (G : AM.Ground) (ex : List AV), G.P = Try.prog → G.nt = 19 → (∀ d ∈ fr, ex.all (fun v => !v.has d) = true) → T G Fence.wide 0 a_fullerref03_Same (EndsM [.tmp 4] r σ' ex) { env := initV 0 vs, σ := σ, ex := ex }) : MutC Try.prog fi_fullerref03_Same vs σ r σ' fr :=
  mutC_of Try.call13 Try.func13 (by rfl) is_fullerref03_Same ok_fullerref03_Same rv_fullerref03_Same hn h

/-! fuller/move.Turn: params 1 + 0, slots 15; [t, t, , , , , , , , , , , , , ] -/
def a_move_Turn : ACode := (.seq (.region none (.op (some 1) none (.n (.box 2 (.t 0)))
  (.op (some 2) none (.n (.alloc [.nils, .nils]))
  (.op (some 3) none (.q (.mov (.c (.one (.p (.int .i64 0))))))
  .nil))) [1, 2] [1, 2])
 (.seq (.seq (.region none (.op (some 4) none (.q (.load 2 true (.t 1)))
  (.op (some 5) none (.call (.c (.one (.p (.fn fi_tensor_Check [] [])))) [(.t 4)])
  (.op (some 6) none (.q (.un .not (.t 5)))
  .nil))) [1, 2, 6] [1, 2])
 (.cond (.t 6) (.seq (.region none (.op (some 7) none (.q (.build [.nils, .nils] []))
  (.op none none (.s (.store 2 (.t 2) (.t 7)))
  (.op (some 3) none (.q (.mov (.c (.one (.p (.int .i64 30))))))
  .nil))) [2, 3] [1, 2])
 .ret)
 .skip))
 (.seq (.region none (.op (some 8) none (.q (.faddr 0 (.t 1)))
  (.op (some 9) none (.q (.load 1 false (.t 8)))
  (.op (some 10) none (.call (.c (.one (.p (.fn fi_move_turned_int [] [])))) [(.t 9)])
  (.op (some 11) none (.q (.mkF fi_move_Turn_1 [] [(.t 1)]))
  (.op (some 12) none (.call (.c (.one (.p (.fn fi_move_made [] [])))) [(.t 10), (.t 11)])
  (.op (some 13) none (.q (.extr (.t 12) 0))
  (.op (some 14) none (.q (.extr (.t 12) 1))
  (.op none none (.s (.store 2 (.t 2) (.t 13)))
  (.op (some 3) none (.q (.mov (.t 14)))
  .nil))))))))) [2, 3] [1, 2])
 .ret)))
theorem is_move_Turn : compC Try.prog (Try.f14.body.getD .skip) = some a_move_Turn.erase := by kernel_rfl
theorem ok_move_Turn : a_move_Turn.ok 15 = true := by kernel_rfl
theorem rv_move_Turn : compRV Try.prog Try.f14.results.toList = some [.cell 2 true 2, .tmp 3] := by kernel_rfl
theorem pure_move_Turn {ds : List DV} {r : DV} (hn : ds.length ≤ 15) (h : ∀ (G : AM.Ground), G.P = Try.prog → G.nt = 15 → T G Fence.wide 0 a_move_Turn (AM.Ends [.cell 2 true 2, .tmp 3] r) { env := initE 0 ds, σ := [] }) : PureC Try.prog fi_move_Turn ds r :=
  pureC_of Try.call14 Try.func14 (by rfl) is_move_Turn ok_move_Turn rv_move_Turn hn h

theorem mut_move_Turn {vs : List AV} {σ σ' : Sto} {r : AV} {fr : List Nat} (hn : vs.length ≤ 15) (h : ∀ (G : AM.Ground) (ex : List AV), G.P = Try.prog → G.nt = 15 → (∀ d ∈ fr, ex.all (fun v => !v.has d) = true) → T G Fence.wide 0 a_move_Turn (EndsM [.cell 2 true 2, .tmp 3] r σ' ex) { env := initV 0 vs, σ := σ, ex := ex }) : MutC Try.prog fi_move_Turn vs σ r σ' fr :=
  mutC_of Try.call14 Try.func14 (by rfl) is_move_Turn ok_move_Turn rv_move_Turn hn h

/-! fuller/fullerref05.Turn: params 1 + 0, slots 48; [t, t, , , ok, out, i, x, _, n, _, , , , , , , , , , , , , , , , , , , ] -/
def a_fullerref05_Turn : ACode := (.seq (.region none (.op (some 1) none (.n (.box 2 (.t 0)))
  (.op (some 2) none (.n (.alloc [.nils, .nils]))
  (.op (some 3) none (.q (.mov (.c (.one (.p (.int .i64 0))))))
  .nil))) [1, 2] [1, 2])
 (.seq (.region none (.op (some 11) none (.q (.load 2 true (.t 1)))
  (.op (some 12) none (.call (.c (.one (.p (.fn fi_fullerref03_Check [] [])))) [(.t 11)])
  (.op (some 4) none (.q (.mov (.t 12)))
  .nil))) [1, 2, 4] [1, 2])
 (.seq (.seq (.region none (.op (some 13) none (.q (.mov (.t 4)))
  (.op (some 14) none (.q (.un .not (.t 13)))
  .nil)) [1, 2, 14] [1, 2])
 (.cond (.t 14) (.seq (.region none (.op (some 15) none (.q (.build [.nils, .nils] []))
  (.op none none (.s (.store 2 (.t 2) (.t 15)))
  (.op (some 3) none (.q (.mov (.c (.one (.p (.int .i64 30))))))
  .nil))) [2, 3] [1, 2])
 .ret)
 .skip))
 (.seq (.region none (.op (some 16) none (.q (.faddr 0 (.t 1)))
  (.op (some 17) none (.q (.load 1 false (.t 16)))
  (.op (some 18) none (.call (.c (.one (.p (.fn fi_fullerref05_turned [] [])))) [(.t 17)])
  (.op (some 19) none (.q (.build [.nils, .nils] [(0, 1, (.t 18))]))
  (.op (some 5) none (.n (.alloc [.nils, .nils]))
  (.op none none (.s (.store 2 (.t 5) (.t 19)))
  .nil)))))) [1, 2, 5] [1, 2, 5])
 (.seq (.seq (.region none (.op (some 6) none (.q (.mov (.c (.one (.p (.int .i64 0))))))
  .nil) [1, 2, 5, 6] [1, 2, 5])
 (.block 0 (.loop (.seq (.seq (.region none (.op (some 20) none (.q (.mov (.t 6)))
  (.op (some 21) none (.q (.faddr 1 (.t 1)))
  (.op (some 22) none (.q (.load 1 false (.t 21)))
  (.op (some 23) none (.q (.len (.t 22)))
  (.op (some 24) none (.q (.bin .lss (.t 20) (.t 23)))
  .nil))))) [1, 2, 5, 6, 24] [1, 2, 5])
 (.cond (.t 24) .skip
 (.exit 0)))
 (.seq (.block 1 (.seq (.region none (.op (some 28) none (.q (.faddr 0 (.t 5)))
  (.op (some 29) none (.q (.load 1 false (.t 28)))
  (.op (some 30) none (.q (.mov (.t 6)))
  (.op (some 31) none (.call (.c (.one (.p (.fn fi_fullerref02_Index [] [])))) [(.t 29), (.t 30)])
  (.op (some 27) none (.q (.mov (.t 31)))
  (.op (some 32) none (.q (.extr (.t 27) 0))
  (.op (some 33) none (.q (.extr (.t 27) 1))
  (.op (some 7) none (.q (.mov (.t 32)))
  (.op (some 8) none (.q (.mov (.t 33)))
  .nil))))))))) [1, 2, 5, 6, 7] [1, 2, 5])
 (.seq (.region (some [[], [0], [0], [], [], [], [5], [6], []]) (.op (some 35) none (.q (.load 2 true (.t 1)))
  (.op (some 36) none (.q (.mov (.t 7)))
  (.op (some 37) none (.call (.c (.one (.p (.fn fi_fullerref05_turned [] [])))) [(.t 36)])
  (.op (some 38) none (.call (.c (.one (.p (.fn fi_fullerref03_At [] [])))) [(.t 35), (.t 37)])
  (.op (some 34) none (.q (.mov (.t 38)))
  (.op (some 39) none (.q (.extr (.t 34) 0))
  (.op (some 40) none (.q (.extr (.t 34) 1))
  (.op (some 9) none (.q (.mov (.t 39)))
  (.op (some 10) none (.q (.mov (.t 40)))
  .nil))))))))) [1, 2, 5, 6, 9] [1, 2, 5])
 (.region none (.op (some 41) none (.q (.faddr 1 (.t 5)))
  (.op (some 42) none (.q (.load 1 false (.t 41)))
  (.op (some 43) none (.q (.mov (.t 9)))
  (.op (some 44) none (.n (.lit 1 1 [(.int .i64 0)] [(0, (.t 43))]))
  (.op (some 45) none (.s (.app 1 8 (.t 42) (.t 44)))
  (.op (some 46) none (.q (.faddr 1 (.t 5)))
  (.op none none (.s (.store 1 (.t 46) (.t 45)))
  .nil))))))) [1, 2, 5, 6] [1, 2, 5, 44, 45]))))
 (.region none (.op (some 25) none (.q (.mov (.t 6)))
  (.op (some 26) none (.q (.bin .add (.t 25) (.c (.one (.p (.int .i64 1))))))
  (.op (some 6) none (.q (.mov (.t 26)))
  .nil))) [1, 2, 5, 6] [1, 2, 5, 44, 45]))))))
 (.seq (.region none (.op (some 47) none (.q (.load 2 true (.t 5)))
  (.op none none (.s (.store 2 (.t 2) (.t 47)))
  (.op (some 3) none (.q (.mov (.c (.one (.p (.int .i64 0))))))
  .nil))) [2, 3] [1, 2, 5, 44, 45])
 .ret))))))
theorem is_fullerref05_Turn : compC Try.prog (Try.f15.body.getD .skip) = some a_fullerref05_Turn.erase := by kernel_rfl
theorem ok_fullerref05_Turn : a_fullerref05_Turn.ok 48 = true := by kernel_rfl
theorem rv_fullerref05_Turn : compRV Try.prog Try.f15.results.toList = some [.cell 2 true 2, .tmp 3] := by kernel_rfl
theorem pure_fullerref05_Turn {ds : List DV} {r : DV} (hn : ds.length ≤ 48) (h : ∀ (G : AM.Ground), G.P = Try.prog → G.nt = 48 → T G Fence.wide 0 a_fullerref05_Turn (AM.Ends [.cell 2 true 2, .tmp 3] r) { env := initE 0 ds, σ := [] }) : PureC Try.prog fi_fullerref05_Turn ds r :=
  pureC_of Try.call15 Try.func15 (by rfl) is_fullerref05_Turn ok_fullerref05_Turn rv_fullerref05_Turn hn h

theorem mut_fullerref05_Turn {vs : List AV} {σ σ' : Sto} {r : AV} {fr : List Nat} (hn : vs.length ≤ 48) (h : ∀ (G : AM.Ground) (ex : List AV), G.P = Try.prog → G.nt = 48 → (∀ d ∈ fr, ex.all (fun v => !v.has d) = true) → T G Fence.wide 0 a_fullerref05_Turn (EndsM [.cell 2 true 2, .tmp 3] r σ' ex) { env := initV 0 vs, σ := σ, ex := ex }) : MutC Try.prog fi_fullerref05_Turn vs σ r σ' fr :=
  mutC_of Try.call15 Try.func15 (by rfl) is_fullerref05_Turn ok_fullerref05_Turn rv_fullerref05_Turn hn h

/-! fuller/move.Slice: params 4 + 0, slots 55; [t, axis, from, to, t, axis, from, to, , , , , , , , , , , , , , , , , , , , , , ] -/
def a_move_Slice : ACode := (.seq (.region none (.op (some 4) none (.n (.box 2 (.t 0)))
  (.op (some 5) none (.n (.box 1 (.t 1)))
  (.op (some 6) none (.n (.box 1 (.t 2)))
  (.op (some 8) none (.n (.alloc [.nils, .nils]))
  (.op (some 9) none (.q (.mov (.c (.one (.p (.int .i64 0))))))
  .nil))))) [3, 4, 5, 6, 8] [4, 5, 6, 8])
 (.seq (.block 0 (.seq (.region none (.op (some 11) none (.q (.load 2 true (.t 4)))
  (.op (some 12) none (.call (.c (.one (.p (.fn fi_tensor_Check [] [])))) [(.t 11)])
  (.op (some 13) none (.q (.un .not (.t 12)))
  (.op (some 10) none (.q (.mov (.t 13)))
  .nil)))) [3, 4, 5, 6, 8, 10] [4, 5, 6, 8])
 (.cond (.t 10) (.seq (.region none (.op (some 14) none (.q (.build [.nils, .nils] []))
  (.op none none (.s (.store 2 (.t 8) (.t 14)))
  (.op (some 9) none (.q (.mov (.c (.one (.p (.int .i64 30))))))
  .nil))) [8, 9] [4, 5, 6, 8])
 .ret)
 (.seq (.region none (.op (some 16) none (.q (.load 1 false (.t 5)))
  (.op (some 17) none (.q (.bin .lss (.t 16) (.c (.one (.p (.int .i64 0))))))
  (.op (some 18) none (.q (.mov (.t 17)))
  (.sc 24 18 false 23 none
  (.op (some 19) (some (18, false)) (.q (.load 1 false (.t 5)))
  (.op (some 20) (some (18, false)) (.q (.faddr 0 (.t 4)))
  (.op (some 21) (some (18, false)) (.q (.load 1 false (.t 20)))
  (.op (some 22) (some (18, false)) (.q (.len (.t 21)))
  (.op (some 23) (some (18, false)) (.q (.bin .geq (.t 19) (.t 22)))
  .nil)))))
  (.op (some 25) none (.q (.mov (.t 24)))
  (.sc 28 25 false 27 none
  (.op (some 26) (some (25, false)) (.q (.load 1 false (.t 6)))
  (.op (some 27) (some (25, false)) (.q (.bin .lss (.t 26) (.c (.one (.p (.int .i64 0))))))
  .nil))
  (.op (some 29) none (.q (.mov (.t 28)))
  (.sc 33 29 false 32 none
  (.op (some 30) (some (29, false)) (.q (.load 1 false (.t 6)))
  (.op (some 31) (some (29, false)) (.q (.mov (.t 3)))
  (.op (some 32) (some (29, false)) (.q (.bin .geq (.t 30) (.t 31)))
  .nil)))
  (.op (some 34) none (.q (.mov (.t 33)))
  (.sc 42 34 false 41 none
  (.op (some 35) (some (34, false)) (.q (.mov (.t 3)))
  (.op (some 36) (some (34, false)) (.q (.faddr 0 (.t 4)))
  (.op (some 37) (some (34, false)) (.q (.load 1 false (.t 36)))
  (.op (some 38) (some (34, false)) (.q (.load 1 false (.t 5)))
  (.op (some 39) (some (34, false)) (.q (.iaddr 1 (.t 37) (.t 38)))
  (.op (some 40) (some (34, false)) (.q (.load 1 false (.t 39)))
  (.op (some 41) (some (34, false)) (.q (.bin .gtr (.t 35) (.t 40)))
  .nil)))))))
  (.op (some 15) none (.q (.mov (.t 42)))
  .nil))))))))))) [3, 4, 5, 6, 8, 15] [4, 5, 6, 8])
 (.cond (.t 15) (.seq (.region none (.op (some 43) none (.q (.build [.nils, .nils] []))
  (.op none none (.s (.store 2 (.t 8) (.t 43)))
  (.op (some 9) none (.q (.mov (.c (.one (.p (.int .i64 20))))))
  .nil))) [8, 9] [4, 5, 6, 8])
 .ret)
 .skip)))))
 (.seq (.region none (.op (some 44) none (.q (.faddr 0 (.t 4)))
  (.op (some 45) none (.q (.load 1 false (.t 44)))
  (.op (some 46) none (.q (.load 1 false (.t 5)))
  (.op (some 47) none (.q (.mov (.t 3)))
  (.op (some 48) none (.q (.load 1 false (.t 6)))
  (.op (some 49) none (.q (.bin .sub (.t 47) (.t 48)))
  (.op (some 50) none (.call (.c (.one (.p (.fn fi_move_sided [] [])))) [(.t 45), (.t 46), (.t 49)])
  (.op (some 51) none (.q (.mkF fi_move_Slice_1 [] [(.t 4), (.t 5), (.t 6)]))
  (.op (some 52) none (.call (.c (.one (.p (.fn fi_move_made [] [])))) [(.t 50), (.t 51)])
  (.op (some 53) none (.q (.extr (.t 52) 0))
  (.op (some 54) none (.q (.extr (.t 52) 1))
  (.op none none (.s (.store 2 (.t 8) (.t 53)))
  (.op (some 9) none (.q (.mov (.t 54)))
  .nil))))))))))))) [8, 9] [4, 5, 6, 8])
 .ret)))
theorem is_move_Slice : compC Try.prog (Try.f16.body.getD .skip) = some a_move_Slice.erase := by kernel_rfl
theorem ok_move_Slice : a_move_Slice.ok 55 = true := by kernel_rfl
theorem rv_move_Slice : compRV Try.prog Try.f16.results.toList = some [.cell 2 true 8, .tmp 9] := by kernel_rfl
theorem pure_move_Slice {ds : List DV} {r : DV} (hn : ds.length ≤ 55) (h : ∀ (G : AM.Ground), G.P = Try.prog → G.nt = 55 → T G Fence.wide 0 a_move_Slice (AM.Ends [.cell 2 true 8, .tmp 9] r) { env := initE 0 ds, σ := [] }) : PureC Try.prog fi_move_Slice ds r :=
  pureC_of Try.call16 Try.func16 (by rfl) is_move_Slice ok_move_Slice rv_move_Slice hn h

theorem mut_move_Slice {vs : List AV} {σ σ' : Sto} {r : AV} {fr : List Nat} (hn : vs.length ≤ 55) (h : ∀ (G : AM.Ground) (ex : List AV), G.P = Try.prog → G.nt = 55 → (∀ d ∈ fr, ex.all (fun v => !v.has d) = true) → T G Fence.wide 0 a_move_Slice (EndsM [.cell 2 true 8, .tmp 9] r σ' ex) { env := initV 0 vs, σ := σ, ex := ex }) : MutC Try.prog fi_move_Slice vs σ r σ' fr :=
  mutC_of Try.call16 Try.func16 (by rfl) is_move_Slice ok_move_Slice rv_move_Slice hn h

/-! fuller/fullerref05.Slice: params 4 + 0, slots 55; [t, axis, from, to, t, axis, from, to, , , ok, , , , , , , , , , , , , , , , , , , ] -/
def a_fullerref05_Slice : ACode := (.seq (.region none (.op (some 4) none (.n (.box 2 (.t 0)))
  (.op (some 8) none (.n (.alloc [.nils, .nils]))
  (.op (some 9) none (.q (.mov (.c (.one (.p (.int .i64 0))))))
  .nil))) [1, 2, 3, 4, 8] [4, 8])
 (.seq (.region none (.op (some 11) none (.q (.load 2 true (.t 4)))
  (.op (some 12) none (.call (.c (.one (.p (.fn fi_fullerref03_Check [] [])))) [(.t 11)])
  (.op (some 10) none (.q (.mov (.t 12)))
  .nil))) [1, 2, 3, 4, 8, 10] [4, 8])
 (.seq (.seq (.region none (.op (some 13) none (.q (.mov (.t 10)))
  (.op (some 14) none (.q (.un .not (.t 13)))
  .nil)) [1, 2, 3, 4, 8, 14] [4, 8])
 (.cond (.t 14) (.seq (.region none (.op (some 15) none (.q (.build [.nils, .nils] []))
  (.op none none (.s (.store 2 (.t 8) (.t 15)))
  (.op (some 9) none (.q (.mov (.c (.one (.p (.int .i64 30))))))
  .nil))) [8, 9] [4, 8])
 .ret)
 .skip))
 (.seq (.seq (.region none (.op (some 16) none (.q (.mov (.t 1)))
  (.op (some 17) none (.q (.bin .lss (.t 16) (.c (.one (.p (.int .i64 0))))))
  (.op (some 18) none (.q (.mov (.t 17)))
  (.sc 24 18 false 23 none
  (.op (some 19) (some (18, false)) (.q (.mov (.t 1)))
  (.op (some 20) (some (18, false)) (.q (.faddr 0 (.t 4)))
  (.op (some 21) (some (18, false)) (.q (.load 1 false (.t 20)))
  (.op (some 22) (some (18, false)) (.q (.len (.t 21)))
  (.op (some 23) (some (18, false)) (.q (.bin .geq (.t 19) (.t 22)))
  .nil)))))
  (.op (some 25) none (.q (.mov (.t 24)))
  (.sc 28 25 false 27 none
  (.op (some 26) (some (25, false)) (.q (.mov (.t 2)))
  (.op (some 27) (some (25, false)) (.q (.bin .lss (.t 26) (.c (.one (.p (.int .i64 0))))))
  .nil))
  (.op (some 29) none (.q (.mov (.t 28)))
  (.sc 33 29 false 32 none
  (.op (some 30) (some (29, false)) (.q (.mov (.t 2)))
  (.op (some 31) (some (29, false)) (.q (.mov (.t 3)))
  (.op (some 32) (some (29, false)) (.q (.bin .geq (.t 30) (.t 31)))
  .nil)))
  (.op (some 34) none (.q (.mov (.t 33)))
  (.sc 42 34 false 41 none
  (.op (some 35) (some (34, false)) (.q (.mov (.t 3)))
  (.op (some 36) (some (34, false)) (.q (.faddr 0 (.t 4)))
  (.op (some 37) (some (34, false)) (.q (.load 1 false (.t 36)))
  (.op (some 38) (some (34, false)) (.q (.mov (.t 1)))
  (.op (some 39) (some (34, false)) (.q (.iaddr 1 (.t 37) (.t 38)))
  (.op (some 40) (some (34, false)) (.q (.load 1 false (.t 39)))
  (.op (some 41) (some (34, false)) (.q (.bin .gtr (.t 35) (.t 40)))
  .nil)))))))
  .nil)))))))))) [1, 2, 3, 4, 8, 42] [4, 8])
 (.cond (.t 42) (.seq (.region none (.op (some 43) none (.q (.build [.nils, .nils] []))
  (.op none none (.s (.store 2 (.t 8) (.t 43)))
  (.op (some 9) none (.q (.mov (.c (.one (.p (.int .i64 20))))))
  .nil))) [8, 9] [4, 8])
 .ret)
 .skip))
 (.seq (.region (some [[], [0], [0], [0, 1, 2], [0, 1, 2, 3], [0, 1, 2, 3, 4], [0, 1, 2, 3], [0], [0, 1, 2, 3, 4, 5, 6, 7], [0, 1, 2, 3, 4, 5, 6, 7, 8], [], [], []]) (.op (some 44) none (.q (.load 2 true (.t 4)))
  (.op (some 45) none (.q (.faddr 0 (.t 4)))
  (.op (some 46) none (.q (.load 1 false (.t 45)))
  (.op (some 47) none (.q (.mov (.t 1)))
  (.op (some 48) none (.q (.mov (.t 3)))
  (.op (some 49) none (.q (.mov (.t 2)))
  (.op (some 50) none (.q (.bin .sub (.t 48) (.t 49)))
  (.op (some 51) none (.call (.c (.one (.p (.fn fi_fullerref05_with [] [])))) [(.t 46), (.t 47), (.t 50)])
  (.op (some 52) none (.q (.mov (.t 1)))
  (.op (some 53) none (.q (.mov (.t 2)))
  (.op (some 54) none (.call (.c (.one (.p (.fn fi_fullerref05_moved [] [])))) [(.t 44), (.t 51), (.t 52), (.t 53)])
  (.op none none (.s (.store 2 (.t 8) (.t 54)))
  (.op (some 9) none (.q (.mov (.c (.one (.p (.int .i64 0))))))
  .nil))))))))))))) [8, 9] [4, 8])
 .ret)))))
theorem is_fullerref05_Slice : compC Try.prog (Try.f17.body.getD .skip) = some a_fullerref05_Slice.erase := by kernel_rfl
theorem ok_fullerref05_Slice : a_fullerref05_Slice.ok 55 = true := by kernel_rfl
theorem rv_fullerref05_Slice : compRV Try.prog Try.f17.results.toList = some [.cell 2 true 8, .tmp 9] := by kernel_rfl
theorem pure_fullerref05_Slice {ds : List DV} {r : DV} (hn : ds.length ≤ 55) (h : ∀ (G : AM.Ground), G.P = Try.prog → G.nt = 55 → T G Fence.wide 0 a_fullerref05_Slice (AM.Ends [.cell 2 true 8, .tmp 9] r) { env := initE 0 ds, σ := [] }) : PureC Try.prog fi_fullerref05_Slice ds r :=
  pureC_of Try.call17 Try.func17 (by rfl) is_fullerref05_Slice ok_fullerref05_Slice rv_fullerref05_Slice hn h

theorem mut_fullerref05_Slice {vs : List AV} {σ σ' : Sto} {r : AV} {fr : List Nat} (hn : vs.length ≤ 55) (h : ∀ (G : AM.Ground) (ex : List AV), G.P = Try.prog → G.nt = 55 → (∀ d ∈ fr, ex.all (fun v => !v.has d) = true) → T G Fence.wide 0 a_fullerref05_Slice (EndsM [.cell 2 true 8, .tmp 9] r σ' ex) { env := initV 0 vs, σ := σ, ex := ex }) : MutC Try.prog fi_fullerref05_Slice vs σ r σ' fr :=
  mutC_of Try.call17 Try.func17 (by rfl) is_fullerref05_Slice ok_fullerref05_Slice rv_fullerref05_Slice hn h

/-! fuller/move.Pad: params 4 + 0, slots 68; [t, axis, from, side, t, axis, from, side, , , , , , , , , , , , , , , , , , , , , , ] -/
def a_move_Pad : ACode := (.seq (.region none (.op (some 4) none (.n (.box 2 (.t 0)))
  (.op (some 5) none (.n (.box 1 (.t 1)))
  (.op (some 6) none (.n (.box 1 (.t 2)))
  (.op (some 8) none (.n (.alloc [.nils, .nils]))
  (.op (some 9) none (.q (.mov (.c (.one (.p (.int .i64 0))))))
  .nil))))) [3, 4, 5, 6, 8] [4, 5, 6, 8])
 (.seq (.block 0 (.seq (.region none (.op (some 11) none (.q (.load 2 true (.t 4)))
  (.op (some 12) none (.call (.c (.one (.p (.fn fi_tensor_Check [] [])))) [(.t 11)])
  (.op (some 13) none (.q (.un .not (.t 12)))
  (.op (some 10) none (.q (.mov (.t 13)))
  .nil)))) [3, 4, 5, 6, 8, 10] [4, 5, 6, 8])
 (.cond (.t 10) (.seq (.region none (.op (some 14) none (.q (.build [.nils, .nils] []))
  (.op none none (.s (.store 2 (.t 8) (.t 14)))
  (.op (some 9) none (.q (.mov (.c (.one (.p (.int .i64 30))))))
  .nil))) [8, 9] [4, 5, 6, 8])
 .ret)
 (.seq (.region (some ([] :: [] :: [] :: [] :: [3] :: [3] :: [3] :: [] :: [] :: [] :: [] :: [] :: [] :: [] :: [] :: [14] :: [14] :: [14, 15, 16] :: [14] :: [14] :: [] :: [] :: [] :: [] :: [23] :: [23, 24] :: [23, 24] :: [23, 24, 25, 26] :: [23, 24] :: [23, 24] :: [23] :: [] :: [] :: [] :: [] :: [] :: [34, 35] :: [34, 35, 36] :: [] :: [] :: [] :: [] :: [] :: [])) (.op (some 16) none (.q (.load 1 false (.t 5)))
  (.op (some 17) none (.q (.bin .lss (.t 16) (.c (.one (.p (.int .i64 0))))))
  (.op (some 18) none (.q (.mov (.t 17)))
  (.sc 24 18 false 23 none
  (.op (some 19) (some (18, false)) (.q (.load 1 false (.t 5)))
  (.op (some 20) (some (18, false)) (.q (.faddr 0 (.t 4)))
  (.op (some 21) (some (18, false)) (.q (.load 1 false (.t 20)))
  (.op (some 22) (some (18, false)) (.q (.len (.t 21)))
  (.op (some 23) (some (18, false)) (.q (.bin .geq (.t 19) (.t 22)))
  .nil)))))
  (.op (some 25) none (.q (.mov (.t 24)))
  (.sc 28 25 false 27 none
  (.op (some 26) (some (25, false)) (.q (.load 1 false (.t 6)))
  (.op (some 27) (some (25, false)) (.q (.bin .lss (.t 26) (.c (.one (.p (.int .i64 0))))))
  .nil))
  (.op (some 29) none (.q (.mov (.t 28)))
  (.sc 37 29 false 36 none
  (.op (some 30) (some (29, false)) (.q (.mov (.t 3)))
  (.op (some 31) (some (29, false)) (.q (.faddr 0 (.t 4)))
  (.op (some 32) (some (29, false)) (.q (.load 1 false (.t 31)))
  (.op (some 33) (some (29, false)) (.q (.load 1 false (.t 5)))
  (.op (some 34) (some (29, false)) (.q (.iaddr 1 (.t 32) (.t 33)))
  (.op (some 35) (some (29, false)) (.q (.load 1 false (.t 34)))
  (.op (some 36) (some (29, false)) (.q (.bin .lss (.t 30) (.t 35)))
  .nil)))))))
  (.op (some 38) none (.q (.mov (.t 37)))
  (.sc 48 38 false 47 none
  (.op (some 39) (some (38, false)) (.q (.load 1 false (.t 6)))
  (.op (some 40) (some (38, false)) (.q (.mov (.t 3)))
  (.op (some 41) (some (38, false)) (.q (.faddr 0 (.t 4)))
  (.op (some 42) (some (38, false)) (.q (.load 1 false (.t 41)))
  (.op (some 43) (some (38, false)) (.q (.load 1 false (.t 5)))
  (.op (some 44) (some (38, false)) (.q (.iaddr 1 (.t 42) (.t 43)))
  (.op (some 45) (some (38, false)) (.q (.load 1 false (.t 44)))
  (.op (some 46) (some (38, false)) (.q (.bin .sub (.t 40) (.t 45)))
  (.op (some 47) (some (38, false)) (.q (.bin .gtr (.t 39) (.t 46)))
  .nil)))))))))
  (.op (some 49) none (.q (.mov (.t 48)))
  (.sc 57 49 false 56 none
  (.op (some 50) (some (49, false)) (.q (.faddr 0 (.t 4)))
  (.op (some 51) (some (49, false)) (.q (.load 1 false (.t 50)))
  (.op (some 52) (some (49, false)) (.q (.load 1 false (.t 5)))
  (.op (some 53) (some (49, false)) (.q (.mov (.t 3)))
  (.op (some 54) (some (49, false)) (.call (.c (.one (.p (.fn fi_move_sided [] [])))) [(.t 51), (.t 52), (.t 53)])
  (.op (some 55) (some (49, false)) (.call (.c (.one (.p (.fn fi_shape_Check [] [])))) [(.t 54)])
  (.op (some 56) (some (49, false)) (.q (.un .not (.t 55)))
  .nil)))))))
  (.op (some 15) none (.q (.mov (.t 57)))
  .nil))))))))))))) [3, 4, 5, 6, 8, 15] [4, 5, 6, 8])
 (.cond (.t 15) (.seq (.region none (.op (some 58) none (.q (.build [.nils, .nils] []))
  (.op none none (.s (.store 2 (.t 8) (.t 58)))
  (.op (some 9) none (.q (.mov (.c (.one (.p (.int .i64 20))))))
  .nil))) [8, 9] [4, 5, 6, 8])
 .ret)
 .skip)))))
 (.seq (.region none (.op (some 59) none (.q (.faddr 0 (.t 4)))
  (.op (some 60) none (.q (.load 1 false (.t 59)))
  (.op (some 61) none (.q (.load 1 false (.t 5)))
  (.op (some 62) none (.q (.mov (.t 3)))
  (.op (some 63) none (.call (.c (.one (.p (.fn fi_move_sided [] [])))) [(.t 60), (.t 61), (.t 62)])
  (.op (some 64) none (.q (.mkF fi_move_Pad_1 [] [(.t 4), (.t 5), (.t 6)]))
  (.op (some 65) none (.call (.c (.one (.p (.fn fi_move_made [] [])))) [(.t 63), (.t 64)])
  (.op (some 66) none (.q (.extr (.t 65) 0))
  (.op (some 67) none (.q (.extr (.t 65) 1))
  (.op none none (.s (.store 2 (.t 8) (.t 66)))
  (.op (some 9) none (.q (.mov (.t 67)))
  .nil))))))))))) [8, 9] [4, 5, 6, 8])
 .ret)))
theorem is_move_Pad : compC Try.prog (Try.f18.body.getD .skip) = some a_move_Pad.erase := by kernel_rfl
theorem ok_move_Pad : a_move_Pad.ok 68 = true := by kernel_rfl
theorem rv_move_Pad : compRV Try.prog Try.f18.results.toList = some [.cell 2 true 8, .tmp 9] := by kernel_rfl
theorem pure_move_Pad {ds : List DV} {r : DV} (hn : ds.length ≤ 68) (h : ∀ (G : AM.Ground), G.P = Try.prog → G.nt = 68 → T G Fence.wide 0 a_move_Pad (AM.Ends [.cell 2 true 8, .tmp 9] r) { env := initE 0 ds, σ := [] }) : PureC Try.prog fi_move_Pad ds r :=
  pureC_of Try.call18 Try.func18 (by rfl) is_move_Pad ok_move_Pad rv_move_Pad hn h

theorem mut_move_Pad {vs : List AV} {σ σ' : Sto} {r : AV} {fr : List Nat} (hn : vs.length ≤ 68) (h : ∀ (G : AM.Ground) (ex : List AV), G.P = Try.prog → G.nt = 68 → (∀ d ∈ fr, ex.all (fun v => !v.has d) = true) → T G Fence.wide 0 a_move_Pad (EndsM [.cell 2 true 8, .tmp 9] r σ' ex) { env := initV 0 vs, σ := σ, ex := ex }) : MutC Try.prog fi_move_Pad vs σ r σ' fr :=
  mutC_of Try.call18 Try.func18 (by rfl) is_move_Pad ok_move_Pad rv_move_Pad hn h

/-! fuller/fullerref05.Pad: params 4 + 0, slots 63; [t, axis, from, side, t, axis, from, side, , , ok, s, may, , , , , , , , , , , , , , , , , ] -/
def a_fullerref05_Pad : ACode := (.seq (.region none (.op (some 4) none (.n (.box 2 (.t 0)))
  (.op (some 8) none (.n (.alloc [.nils, .nils]))
  (.op (some 9) none (.q (.mov (.c (.one (.p (.int .i64 0))))))
  .nil))) [1, 2, 3, 4, 8] [4, 8])
 (.seq (.region none (.op (some 13) none (.q (.load 2 true (.t 4)))
  (.op (some 14) none (.call (.c (.one (.p (.fn fi_fullerref03_Check [] [])))) [(.t 13)])
  (.op (some 10) none (.q (.mov (.t 14)))
  .nil))) [1, 2, 3, 4, 8, 10] [4, 8])
 (.seq (.seq (.region none (.op (some 15) none (.q (.mov (.t 10)))
  (.op (some 16) none (.q (.un .not (.t 15)))
  .nil)) [1, 2, 3, 4, 8, 16] [4, 8])
 (.cond (.t 16) (.seq (.region none (.op (some 17) none (.q (.build [.nils, .nils] []))
  (.op none none (.s (.store 2 (.t 8) (.t 17)))
  (.op (some 9) none (.q (.mov (.c (.one (.p (.int .i64 30))))))
  .nil))) [8, 9] [4, 8])
 .ret)
 .skip))
 (.seq (.seq (.region none (.op (some 18) none (.q (.mov (.t 1)))
  (.op (some 19) none (.q (.bin .lss (.t 18) (.c (.one (.p (.int .i64 0))))))
  (.op (some 20) none (.q (.mov (.t 19)))
  (.sc 26 20 false 25 none
  (.op (some 21) (some (20, false)) (.q (.mov (.t 1)))
  (.op (some 22) (some (20, false)) (.q (.faddr 0 (.t 4)))
  (.op (some 23) (some (20, false)) (.q (.load 1 false (.t 22)))
  (.op (some 24) (some (20, false)) (.q (.len (.t 23)))
  (.op (some 25) (some (20, false)) (.q (.bin .geq (.t 21) (.t 24)))
  .nil)))))
  (.op (some 27) none (.q (.mov (.t 26)))
  (.sc 30 27 false 29 none
  (.op (some 28) (some (27, false)) (.q (.mov (.t 2)))
  (.op (some 29) (some (27, false)) (.q (.bin .lss (.t 28) (.c (.one (.p (.int .i64 0))))))
  .nil))
  (.op (some 31) none (.q (.mov (.t 30)))
  (.sc 34 31 false 33 none
  (.op (some 32) (some (31, false)) (.q (.mov (.t 3)))
  (.op (some 33) (some (31, false)) (.q (.bin .gtr (.t 32) (.c (.one (.p (.int .i64 16))))))
  .nil))
  (.op (some 35) none (.q (.mov (.t 34)))
  (.sc 45 35 false 44 none
  (.op (some 36) (some (35, false)) (.q (.mov (.t 2)))
  (.op (some 37) (some (35, false)) (.q (.mov (.t 3)))
  (.op (some 38) (some (35, false)) (.q (.faddr 0 (.t 4)))
  (.op (some 39) (some (35, false)) (.q (.load 1 false (.t 38)))
  (.op (some 40) (some (35, false)) (.q (.mov (.t 1)))
  (.op (some 41) (some (35, false)) (.q (.iaddr 1 (.t 39) (.t 40)))
  (.op (some 42) (some (35, false)) (.q (.load 1 false (.t 41)))
  (.op (some 43) (some (35, false)) (.q (.bin .sub (.t 37) (.t 42)))
  (.op (some 44) (some (35, false)) (.q (.bin .gtr (.t 36) (.t 43)))
  .nil)))))))))
  .nil)))))))))) [1, 2, 3, 4, 8, 45] [4, 8])
 (.cond (.t 45) (.seq (.region none (.op (some 46) none (.q (.build [.nils, .nils] []))
  (.op none none (.s (.store 2 (.t 8) (.t 46)))
  (.op (some 9) none (.q (.mov (.c (.one (.p (.int .i64 20))))))
  .nil))) [8, 9] [4, 8])
 .ret)
 .skip))
 (.seq (.region none (.op (some 47) none (.q (.faddr 0 (.t 4)))
  (.op (some 48) none (.q (.load 1 false (.t 47)))
  (.op (some 49) none (.q (.mov (.t 1)))
  (.op (some 50) none (.q (.mov (.t 3)))
  (.op (some 51) none (.call (.c (.one (.p (.fn fi_fullerref05_with [] [])))) [(.t 48), (.t 49), (.t 50)])
  (.op (some 11) none (.q (.mov (.t 51)))
  .nil)))))) [1, 2, 4, 8, 11] [4, 8])
 (.seq (.region none (.op (some 52) none (.q (.mov (.t 11)))
  (.op (some 53) none (.call (.c (.one (.p (.fn fi_fullerref02_Check [] [])))) [(.t 52)])
  (.op (some 12) none (.q (.mov (.t 53)))
  .nil))) [1, 2, 4, 8, 11, 12] [4, 8])
 (.seq (.seq (.region none (.op (some 54) none (.q (.mov (.t 12)))
  (.op (some 55) none (.q (.un .not (.t 54)))
  .nil)) [1, 2, 4, 8, 11, 55] [4, 8])
 (.cond (.t 55) (.seq (.region none (.op (some 56) none (.q (.build [.nils, .nils] []))
  (.op none none (.s (.store 2 (.t 8) (.t 56)))
  (.op (some 9) none (.q (.mov (.c (.one (.p (.int .i64 20))))))
  .nil))) [8, 9] [4, 8])
 .ret)
 .skip))
 (.seq (.region none (.op (some 57) none (.q (.load 2 true (.t 4)))
  (.op (some 58) none (.q (.mov (.t 11)))
  (.op (some 59) none (.q (.mov (.t 1)))
  (.op (some 60) none (.q (.mov (.t 2)))
  (.op (some 61) none (.q (.un .neg (.t 60)))
  (.op (some 62) none (.call (.c (.one (.p (.fn fi_fullerref05_moved [] [])))) [(.t 57), (.t 58), (.t 59), (.t 61)])
  (.op none none (.s (.store 2 (.t 8) (.t 62)))
  (.op (some 9) none (.q (.mov (.c (.one (.p (.int .i64 0))))))
  .nil)))))))) [8, 9] [4, 8])
 .ret))))))))
theorem is_fullerref05_Pad : compC Try.prog (Try.f19.body.getD .skip) = some a_fullerref05_Pad.erase := by kernel_rfl
theorem ok_fullerref05_Pad : a_fullerref05_Pad.ok 63 = true := by kernel_rfl
theorem rv_fullerref05_Pad : compRV Try.prog Try.f19.results.toList = some [.cell 2 true 8, .tmp 9] := by kernel_rfl
theorem pure_fullerref05_Pad {ds : List DV} {r : DV} (hn : ds.length ≤ 63) (h : ∀ (G : AM.Ground), G.P = Try.prog → G.nt = 63 → T G Fence.wide 0 a_fullerref05_Pad (AM.Ends [.cell 2 true 8, .tmp 9] r) { env := initE 0 ds, σ := [] }) : PureC Try.prog fi_fullerref05_Pad ds r :=
  pureC_of Try.call19 Try.func19 (by rfl) is_fullerref05_Pad ok_fullerref05_Pad rv_fullerref05_Pad hn h

theorem mut_fullerref05_Pad {vs : List AV} {σ σ' : Sto} {r : AV} {fr : List Nat} (hn : vs.length ≤ 63) (h : ∀ (G : AM.Ground) (ex : List AV), G.P = Try.prog → G.nt = 63 → (∀ d ∈ fr, ex.all (fun v => !v.has d) = true) → T G Fence.wide 0 a_fullerref05_Pad (EndsM [.cell 2 true 8, .tmp 9] r σ' ex) { env := initV 0 vs, σ := σ, ex := ex }) : MutC Try.prog fi_fullerref05_Pad vs σ r σ' fr :=
  mutC_of Try.call19 Try.func19 (by rfl) is_fullerref05_Pad ok_fullerref05_Pad rv_fullerref05_Pad hn h

/-! fuller/move.Join: params 3 + 0, slots 80; [a, b, axis, a, b, axis, , , first, s, , , , , , , , , , , , , , , , , , , , ] -/
def a_move_Join : ACode := (.seq (.region none (.op (some 3) none (.n (.box 2 (.t 0)))
  (.op (some 4) none (.n (.box 2 (.t 1)))
  (.op (some 5) none (.n (.box 1 (.t 2)))
  (.op (some 6) none (.n (.alloc [.nils, .nils]))
  (.op (some 7) none (.q (.mov (.c (.one (.p (.int .i64 0))))))
  .nil))))) [3, 4, 5, 6] [3, 4, 5, 6])
 (.seq (.block 0 (.seq (.region none (.op (some 11) none (.q (.load 2 true (.t 3)))
  (.op (some 12) none (.call (.c (.one (.p (.fn fi_tensor_Check [] [])))) [(.t 11)])
  (.op (some 13) none (.q (.un .not (.t 12)))
  (.op (some 14) none (.q (.mov (.t 13)))
  (.sc 18 14 false 17 none
  (.op (some 15) (some (14, false)) (.q (.load 2 true (.t 4)))
  (.op (some 16) (some (14, false)) (.call (.c (.one (.p (.fn fi_tensor_Check [] [])))) [(.t 15)])
  (.op (some 17) (some (14, false)) (.q (.un .not (.t 16)))
  .nil)))
  (.op (some 10) none (.q (.mov (.t 18)))
  .nil)))))) [3, 4, 5, 6, 10] [3, 4, 5, 6])
 (.cond (.t 10) (.seq (.region none (.op (some 19) none (.q (.build [.nils, .nils] []))
  (.op none none (.s (.store 2 (.t 6) (.t 19)))
  (.op (some 7) none (.q (.mov (.c (.one (.p (.int .i64 30))))))
  .nil))) [6, 7] [3, 4, 5, 6])
 .ret)
 (.seq (.region (some ([] :: [] :: [] :: [] :: [3] :: [3] :: [3] :: [] :: [] :: [] :: [] :: [] :: [] :: [10, 11, 12] :: [10, 11, 12] :: [10, 11, 12] :: [] :: [] :: [] :: [] :: [] :: [19, 20] :: [19, 20, 21] :: [19, 20, 21] :: [19, 20, 21, 22, 23] :: [19, 20, 21] :: [19, 20, 21] :: [] :: [19, 20, 21, 22, 23, 24, 25, 26, 27] :: [19, 20, 21, 22, 23, 24, 25, 26, 27] :: [] :: [] :: [] :: [] :: [])) (.op (some 21) none (.q (.load 1 false (.t 5)))
  (.op (some 22) none (.q (.bin .lss (.t 21) (.c (.one (.p (.int .i64 0))))))
  (.op (some 23) none (.q (.mov (.t 22)))
  (.sc 29 23 false 28 none
  (.op (some 24) (some (23, false)) (.q (.load 1 false (.t 5)))
  (.op (some 25) (some (23, false)) (.q (.faddr 0 (.t 3)))
  (.op (some 26) (some (23, false)) (.q (.load 1 false (.t 25)))
  (.op (some 27) (some (23, false)) (.q (.len (.t 26)))
  (.op (some 28) (some (23, false)) (.q (.bin .geq (.t 24) (.t 27)))
  .nil)))))
  (.op (some 30) none (.q (.mov (.t 29)))
  (.sc 38 30 false 37 none
  (.op (some 31) (some (30, false)) (.q (.faddr 0 (.t 3)))
  (.op (some 32) (some (30, false)) (.q (.load 1 false (.t 31)))
  (.op (some 33) (some (30, false)) (.q (.len (.t 32)))
  (.op (some 34) (some (30, false)) (.q (.faddr 0 (.t 4)))
  (.op (some 35) (some (30, false)) (.q (.load 1 false (.t 34)))
  (.op (some 36) (some (30, false)) (.q (.len (.t 35)))
  (.op (some 37) (some (30, false)) (.q (.bin .neq (.t 33) (.t 36)))
  .nil)))))))
  (.op (some 39) none (.q (.mov (.t 38)))
  (.sc 53 39 false 52 none
  (.op (some 40) (some (39, false)) (.q (.faddr 0 (.t 3)))
  (.op (some 41) (some (39, false)) (.q (.load 1 false (.t 40)))
  (.op (some 42) (some (39, false)) (.q (.load 1 false (.t 5)))
  (.op (some 43) (some (39, false)) (.q (.faddr 0 (.t 4)))
  (.op (some 44) (some (39, false)) (.q (.load 1 false (.t 43)))
  (.op (some 45) (some (39, false)) (.q (.load 1 false (.t 5)))
  (.op (some 46) (some (39, false)) (.q (.iaddr 1 (.t 44) (.t 45)))
  (.op (some 47) (some (39, false)) (.q (.load 1 false (.t 46)))
  (.op (some 48) (some (39, false)) (.call (.c (.one (.p (.fn fi_move_sided [] [])))) [(.t 41), (.t 42), (.t 47)])
  (.op (some 49) (some (39, false)) (.q (.faddr 0 (.t 4)))
  (.op (some 50) (some (39, false)) (.q (.load 1 false (.t 49)))
  (.op (some 51) (some (39, false)) (.call (.c (.one (.p (.fn fi_slices_Equal_int_int [] [])))) [(.t 48), (.t 50)])
  (.op (some 52) (some (39, false)) (.q (.un .not (.t 51)))
  .nil)))))))))))))
  (.op (some 20) none (.q (.mov (.t 53)))
  .nil))))))))) [3, 4, 5, 6, 20] [3, 4, 5, 6])
 (.cond (.t 20) (.seq (.region none (.op (some 54) none (.q (.build [.nils, .nils] []))
  (.op none none (.s (.store 2 (.t 6) (.t 54)))
  (.op (some 7) none (.q (.mov (.c (.one (.p (.int .i64 20))))))
  .nil))) [6, 7] [3, 4, 5, 6])
 .ret)
 .skip)))))
 (.seq (.region none (.op (some 55) none (.q (.faddr 0 (.t 3)))
  (.op (some 56) none (.q (.load 1 false (.t 55)))
  (.op (some 57) none (.q (.load 1 false (.t 5)))
  (.op (some 58) none (.q (.iaddr 1 (.t 56) (.t 57)))
  (.op (some 59) none (.q (.load 1 false (.t 58)))
  (.op (some 8) none (.n (.alloc [(.p (.int .i64 0))]))
  (.op none none (.s (.store 1 (.t 8) (.t 59)))
  .nil))))))) [3, 4, 5, 6, 8] [3, 4, 5, 6, 8])
 (.seq (.region (some [[], [], [0, 1], [0, 1, 2], [0, 1, 2, 3], [0, 1, 2, 3], [0, 1, 2, 3, 4, 5], [0, 1, 2, 3], [0, 1, 2, 3], [0, 1, 2], [], []]) (.op (some 60) none (.q (.faddr 0 (.t 3)))
  (.op (some 61) none (.q (.load 1 false (.t 60)))
  (.op (some 62) none (.q (.load 1 false (.t 5)))
  (.op (some 63) none (.q (.load 1 false (.t 8)))
  (.op (some 64) none (.q (.faddr 0 (.t 4)))
  (.op (some 65) none (.q (.load 1 false (.t 64)))
  (.op (some 66) none (.q (.load 1 false (.t 5)))
  (.op (some 67) none (.q (.iaddr 1 (.t 65) (.t 66)))
  (.op (some 68) none (.q (.load 1 false (.t 67)))
  (.op (some 69) none (.q (.bin .add (.t 63) (.t 68)))
  (.op (some 70) none (.call (.c (.one (.p (.fn fi_move_sided [] [])))) [(.t 61), (.t 62), (.t 69)])
  (.op (some 9) none (.q (.mov (.t 70)))
  .nil)))))))))))) [3, 4, 5, 6, 8, 9] [3, 4, 5, 6, 8])
 (.seq (.seq (.region none (.op (some 71) none (.q (.mov (.t 9)))
  (.op (some 72) none (.call (.c (.one (.p (.fn fi_shape_Check [] [])))) [(.t 71)])
  (.op (some 73) none (.q (.un .not (.t 72)))
  .nil))) [3, 4, 5, 6, 8, 9, 73] [3, 4, 5, 6, 8])
 (.cond (.t 73) (.seq (.region none (.op (some 74) none (.q (.build [.nils, .nils] []))
  (.op none none (.s (.store 2 (.t 6) (.t 74)))
  (.op (some 7) none (.q (.mov (.c (.one (.p (.int .i64 20))))))
  .nil))) [6, 7] [3, 4, 5, 6, 8])
 .ret)
 .skip))
 (.seq (.region none (.op (some 75) none (.q (.mov (.t 9)))
  (.op (some 76) none (.q (.mkF fi_move_Join_1 [] [(.t 5), (.t 8), (.t 3), (.t 4)]))
  (.op (some 77) none (.call (.c (.one (.p (.fn fi_move_made [] [])))) [(.t 75), (.t 76)])
  (.op (some 78) none (.q (.extr (.t 77) 0))
  (.op (some 79) none (.q (.extr (.t 77) 1))
  (.op none none (.s (.store 2 (.t 6) (.t 78)))
  (.op (some 7) none (.q (.mov (.t 79)))
  .nil))))))) [6, 7] [3, 4, 5, 6, 8])
 .ret))))))
theorem is_move_Join : compC Try.prog (Try.f20.body.getD .skip) = some a_move_Join.erase := by kernel_rfl
theorem ok_move_Join : a_move_Join.ok 80 = true := by kernel_rfl
theorem rv_move_Join : compRV Try.prog Try.f20.results.toList = some [.cell 2 true 6, .tmp 7] := by kernel_rfl
theorem pure_move_Join {ds : List DV} {r : DV} (hn : ds.length ≤ 80) (h : ∀ (G : AM.Ground), G.P = Try.prog → G.nt = 80 → T G Fence.wide 0 a_move_Join (AM.Ends [.cell 2 true 6, .tmp 7] r) { env := initE 0 ds, σ := [] }) : PureC Try.prog fi_move_Join ds r :=
  pureC_of Try.call20 Try.func20 (by rfl) is_move_Join ok_move_Join rv_move_Join hn h

theorem mut_move_Join {vs : List AV} {σ σ' : Sto} {r : AV} {fr : List Nat} (hn : vs.length ≤ 80) (h : ∀ (G : AM.Ground) (ex : List AV), G.P = Try.prog → G.nt = 80 → (∀ d ∈ fr, ex.all (fun v => !v.has d) = true) → T G Fence.wide 0 a_move_Join (EndsM [.cell 2 true 6, .tmp 7] r σ' ex) { env := initV 0 vs, σ := σ, ex := ex }) : MutC Try.prog fi_move_Join vs σ r σ' fr :=
  mutC_of Try.call20 Try.func20 (by rfl) is_move_Join ok_move_Join rv_move_Join hn h

/-! fuller/fullerref05.Join: params 3 + 0, slots 140; [a, b, axis, a, b, axis, , , one, two, s, may, x, y, out, i, k, _, , , , , , , , , , , , ] -/
def a_fullerref05_Join : ACode := (.seq (.region none (.op (some 3) none (.n (.box 2 (.t 0)))
  (.op (some 4) none (.n (.box 2 (.t 1)))
  (.op (some 6) none (.n (.alloc [.nils, .nils]))
  (.op (some 7) none (.q (.mov (.c (.one (.p (.int .i64 0))))))
  .nil)))) [2, 3, 4, 6] [3, 4, 6])
 (.seq (.region none (.op (some 18) none (.q (.load 2 true (.t 3)))
  (.op (some 19) none (.call (.c (.one (.p (.fn fi_fullerref03_Check [] [])))) [(.t 18)])
  (.op (some 8) none (.q (.mov (.t 19)))
  .nil))) [2, 3, 4, 6, 8] [3, 4, 6])
 (.seq (.region none (.op (some 20) none (.q (.load 2 true (.t 4)))
  (.op (some 21) none (.call (.c (.one (.p (.fn fi_fullerref03_Check [] [])))) [(.t 20)])
  (.op (some 9) none (.q (.mov (.t 21)))
  .nil))) [2, 3, 4, 6, 8, 9] [3, 4, 6])
 (.seq (.seq (.region none (.op (some 22) none (.q (.mov (.t 8)))
  (.op (some 23) none (.q (.un .not (.t 22)))
  (.op (some 24) none (.q (.mov (.t 23)))
  (.sc 27 24 false 26 none
  (.op (some 25) (some (24, false)) (.q (.mov (.t 9)))
  (.op (some 26) (some (24, false)) (.q (.un .not (.t 25)))
  .nil))
  .nil)))) [2, 3, 4, 6, 27] [3, 4, 6])
 (.cond (.t 27) (.seq (.region none (.op (some 28) none (.q (.build [.nils, .nils] []))
  (.op none none (.s (.store 2 (.t 6) (.t 28)))
  (.op (some 7) none (.q (.mov (.c (.one (.p (.int .i64 30))))))
  .nil))) [6, 7] [3, 4, 6])
 .ret)
 .skip))
 (.seq (.seq (.region (some ([] :: [] :: [] :: [] :: [3] :: [3] :: [3] :: [] :: [] :: [] :: [] :: [] :: [] :: [10, 11, 12] :: [10, 11, 12] :: [10, 11, 12] :: [] :: [] :: [] :: [] :: [] :: [19, 20] :: [] :: [19, 20, 21, 22] :: [19, 20, 21, 22] :: [19, 20, 21, 22, 23, 24] :: [] :: [] :: [] :: [] :: [])) (.op (some 29) none (.q (.mov (.t 2)))
  (.op (some 30) none (.q (.bin .lss (.t 29) (.c (.one (.p (.int .i64 0))))))
  (.op (some 31) none (.q (.mov (.t 30)))
  (.sc 37 31 false 36 none
  (.op (some 32) (some (31, false)) (.q (.mov (.t 2)))
  (.op (some 33) (some (31, false)) (.q (.faddr 0 (.t 3)))
  (.op (some 34) (some (31, false)) (.q (.load 1 false (.t 33)))
  (.op (some 35) (some (31, false)) (.q (.len (.t 34)))
  (.op (some 36) (some (31, false)) (.q (.bin .geq (.t 32) (.t 35)))
  .nil)))))
  (.op (some 38) none (.q (.mov (.t 37)))
  (.sc 46 38 false 45 none
  (.op (some 39) (some (38, false)) (.q (.faddr 0 (.t 3)))
  (.op (some 40) (some (38, false)) (.q (.load 1 false (.t 39)))
  (.op (some 41) (some (38, false)) (.q (.len (.t 40)))
  (.op (some 42) (some (38, false)) (.q (.faddr 0 (.t 4)))
  (.op (some 43) (some (38, false)) (.q (.load 1 false (.t 42)))
  (.op (some 44) (some (38, false)) (.q (.len (.t 43)))
  (.op (some 45) (some (38, false)) (.q (.bin .neq (.t 41) (.t 44)))
  .nil)))))))
  (.op (some 47) none (.q (.mov (.t 46)))
  (.sc 58 47 false 57 none
  (.op (some 48) (some (47, false)) (.q (.faddr 0 (.t 3)))
  (.op (some 49) (some (47, false)) (.q (.load 1 false (.t 48)))
  (.op (some 50) (some (47, false)) (.q (.mov (.t 2)))
  (.op (some 51) (some (47, false)) (.call (.c (.one (.p (.fn fi_fullerref05_with [] [])))) [(.t 49), (.t 50), (.c (.one (.p (.int .i64 1))))])
  (.op (some 52) (some (47, false)) (.q (.faddr 0 (.t 4)))
  (.op (some 53) (some (47, false)) (.q (.load 1 false (.t 52)))
  (.op (some 54) (some (47, false)) (.q (.mov (.t 2)))
  (.op (some 55) (some (47, false)) (.call (.c (.one (.p (.fn fi_fullerref05_with [] [])))) [(.t 53), (.t 54), (.c (.one (.p (.int .i64 1))))])
  (.op (some 56) (some (47, false)) (.call (.c (.one (.p (.fn fi_fullerref02_Same [] [])))) [(.t 51), (.t 55)])
  (.op (some 57) (some (47, false)) (.q (.un .not (.t 56)))
  .nil))))))))))
  .nil)))))))) [2, 3, 4, 6, 58] [3, 4, 6])
 (.cond (.t 58) (.seq (.region none (.op (some 59) none (.q (.build [.nils, .nils] []))
  (.op none none (.s (.store 2 (.t 6) (.t 59)))
  (.op (some 7) none (.q (.mov (.c (.one (.p (.int .i64 20))))))
  .nil))) [6, 7] [3, 4, 6])
 .ret)
 .skip))
 (.seq (.region (some [[], [], [0, 1], [0, 1, 2], [0, 1, 2], [0, 1, 2, 3, 4], [0, 1, 2], [0, 1, 2], [0, 1, 2, 3, 4, 5, 6, 7], [0, 1, 2, 3, 4, 5, 6, 7], [0, 1, 2, 3, 4, 5, 6, 7, 8, 9], [0, 1, 2, 3, 4, 5, 6, 7], [0, 1, 2, 3, 4, 5, 6, 7], [0, 1, 2], [], []]) (.op (some 60) none (.q (.faddr 0 (.t 3)))
  (.op (some 61) none (.q (.load 1 false (.t 60)))
  (.op (some 62) none (.q (.mov (.t 2)))
  (.op (some 63) none (.q (.faddr 0 (.t 3)))
  (.op (some 64) none (.q (.load 1 false (.t 63)))
  (.op (some 65) none (.q (.mov (.t 2)))
  (.op (some 66) none (.q (.iaddr 1 (.t 64) (.t 65)))
  (.op (some 67) none (.q (.load 1 false (.t 66)))
  (.op (some 68) none (.q (.faddr 0 (.t 4)))
  (.op (some 69) none (.q (.load 1 false (.t 68)))
  (.op (some 70) none (.q (.mov (.t 2)))
  (.op (some 71) none (.q (.iaddr 1 (.t 69) (.t 70)))
  (.op (some 72) none (.q (.load 1 false (.t 71)))
  (.op (some 73) none (.q (.bin .add (.t 67) (.t 72)))
  (.op (some 74) none (.call (.c (.one (.p (.fn fi_fullerref05_with [] [])))) [(.t 61), (.t 62), (.t 73)])
  (.op (some 10) none (.q (.mov (.t 74)))
  .nil)))))))))))))))) [2, 3, 4, 6, 10] [3, 4, 6])
 (.seq (.region none (.op (some 75) none (.q (.mov (.t 10)))
  (.op (some 76) none (.call (.c (.one (.p (.fn fi_fullerref02_Check [] [])))) [(.t 75)])
  (.op (some 11) none (.q (.mov (.t 76)))
  .nil))) [2, 3, 4, 6, 10, 11] [3, 4, 6])
 (.seq (.seq (.region none (.op (some 77) none (.q (.mov (.t 11)))
  (.op (some 78) none (.q (.un .not (.t 77)))
  .nil)) [2, 3, 4, 6, 10, 78] [3, 4, 6])
 (.cond (.t 78) (.seq (.region none (.op (some 79) none (.q (.build [.nils, .nils] []))
  (.op none none (.s (.store 2 (.t 6) (.t 79)))
  (.op (some 7) none (.q (.mov (.c (.one (.p (.int .i64 20))))))
  .nil))) [6, 7] [3, 4, 6])
 .ret)
 .skip))
 (.seq (.region none (.op (some 80) none (.q (.load 2 true (.t 3)))
  (.op (some 81) none (.q (.mov (.t 10)))
  (.op (some 82) none (.q (.mov (.t 2)))
  (.op (some 83) none (.call (.c (.one (.p (.fn fi_fullerref05_moved [] [])))) [(.t 80), (.t 81), (.t 82), (.c (.one (.p (.int .i64 0))))])
  (.op (some 12) none (.n (.alloc [.nils, .nils]))
  (.op none none (.s (.store 2 (.t 12) (.t 83)))
  .nil)))))) [2, 3, 4, 6, 10, 12] [3, 4, 6, 12])
 (.seq (.region (some [[], [0], [0, 1], [0, 1, 2], [0, 1, 2], [0, 1, 2, 3, 4], [0, 1, 2], [0, 1, 2], [0, 1, 2], [], [0, 1, 2, 3, 4, 5, 6, 7, 8, 9], []]) (.op (some 84) none (.q (.load 2 true (.t 4)))
  (.op (some 85) none (.q (.mov (.t 10)))
  (.op (some 86) none (.q (.mov (.t 2)))
  (.op (some 87) none (.q (.faddr 0 (.t 3)))
  (.op (some 88) none (.q (.load 1 false (.t 87)))
  (.op (some 89) none (.q (.mov (.t 2)))
  (.op (some 90) none (.q (.iaddr 1 (.t 88) (.t 89)))
  (.op (some 91) none (.q (.load 1 false (.t 90)))
  (.op (some 92) none (.q (.un .neg (.t 91)))
  (.op (some 93) none (.call (.c (.one (.p (.fn fi_fullerref05_moved [] [])))) [(.t 84), (.t 85), (.t 86), (.t 92)])
  (.op (some 13) none (.n (.alloc [.nils, .nils]))
  (.op none none (.s (.store 2 (.t 13) (.t 93)))
  .nil)))))))))))) [2, 3, 6, 10, 12, 13] [3, 4, 6, 12, 13])
 (.seq (.region none (.op (some 94) none (.q (.mov (.t 10)))
  (.op (some 95) none (.q (.build [.nils, .nils] [(0, 1, (.t 94))]))
  (.op (some 14) none (.n (.alloc [.nils, .nils]))
  (.op none none (.s (.store 2 (.t 14) (.t 95)))
  .nil)))) [2, 3, 6, 10, 12, 13, 14] [3, 4, 6, 12, 13, 14])
 (.seq (.seq (.region none (.op (some 15) none (.q (.mov (.c (.one (.p (.int .i64 0))))))
  .nil) [2, 3, 6, 10, 12, 13, 14, 15] [3, 4, 6, 12, 13, 14])
 (.block 0 (.loop (.seq (.seq (.region none (.op (some 96) none (.q (.mov (.t 15)))
  (.op (some 97) none (.q (.faddr 1 (.t 12)))
  (.op (some 98) none (.q (.load 1 false (.t 97)))
  (.op (some 99) none (.q (.len (.t 98)))
  (.op (some 100) none (.q (.bin .lss (.t 96) (.t 99)))
  .nil))))) [2, 3, 6, 10, 12, 13, 14, 15, 100] [3, 4, 6, 12, 13, 14])
 (.cond (.t 100) .skip
 (.exit 0)))
 (.seq (.block 1 (.seq (.region none (.op (some 104) none (.q (.mov (.t 10)))
  (.op (some 105) none (.q (.mov (.t 15)))
  (.op (some 106) none (.call (.c (.one (.p (.fn fi_fullerref02_Index [] [])))) [(.t 104), (.t 105)])
  (.op (some 103) none (.q (.mov (.t 106)))
  (.op (some 107) none (.q (.extr (.t 103) 0))
  (.op (some 108) none (.q (.extr (.t 103) 1))
  (.op (some 16) none (.q (.mov (.t 107)))
  (.op (some 17) none (.q (.mov (.t 108)))
  .nil)))))))) [2, 3, 6, 10, 12, 13, 14, 15, 16] [3, 4, 6, 12, 13, 14])
 (.seq (.region (some [[], [0], [], [], [0, 1, 2, 3], [0, 1, 2, 3], [0, 1, 2, 3, 4, 5], [0, 1, 2, 3], [0, 1, 2, 3], []]) (.op (some 109) none (.q (.mov (.t 16)))
  (.op (some 110) none (.q (.mov (.t 2)))
  (.op (some 111) none (.q (.iaddr 1 (.t 109) (.t 110)))
  (.op (some 112) none (.q (.load 1 false (.t 111)))
  (.op (some 113) none (.q (.faddr 0 (.t 3)))
  (.op (some 114) none (.q (.load 1 false (.t 113)))
  (.op (some 115) none (.q (.mov (.t 2)))
  (.op (some 116) none (.q (.iaddr 1 (.t 114) (.t 115)))
  (.op (some 117) none (.q (.load 1 false (.t 116)))
  (.op (some 118) none (.q (.bin .lss (.t 112) (.t 117)))
  .nil)))))))))) [2, 3, 6, 10, 12, 13, 14, 15, 118] [3, 4, 6, 12, 13, 14])
 (.cond (.t 118) (.region (some [[], [], [0, 1], [0, 1], [0, 1, 2, 3], [0, 1], [0, 1], [0, 1], [], [], []]) (.op (some 119) none (.q (.faddr 1 (.t 14)))
  (.op (some 120) none (.q (.load 1 false (.t 119)))
  (.op (some 121) none (.q (.faddr 1 (.t 12)))
  (.op (some 122) none (.q (.load 1 false (.t 121)))
  (.op (some 123) none (.q (.mov (.t 15)))
  (.op (some 124) none (.q (.iaddr 1 (.t 122) (.t 123)))
  (.op (some 125) none (.q (.load 1 false (.t 124)))
  (.op (some 126) none (.n (.lit 1 1 [(.int .i64 0)] [(0, (.t 125))]))
  (.op (some 127) none (.s (.app 1 8 (.t 120) (.t 126)))
  (.op (some 128) none (.q (.faddr 1 (.t 14)))
  (.op none none (.s (.store 1 (.t 128) (.t 127)))
  .nil))))))))))) [2, 3, 6, 10, 12, 13, 14, 15] [3, 4, 6, 12, 13, 14, 126, 127])
 (.region (some [[], [], [0, 1], [0, 1], [0, 1, 2, 3], [0, 1], [0, 1], [0, 1], [], [], []]) (.op (some 129) none (.q (.faddr 1 (.t 14)))
  (.op (some 130) none (.q (.load 1 false (.t 129)))
  (.op (some 131) none (.q (.faddr 1 (.t 13)))
  (.op (some 132) none (.q (.load 1 false (.t 131)))
  (.op (some 133) none (.q (.mov (.t 15)))
  (.op (some 134) none (.q (.iaddr 1 (.t 132) (.t 133)))
  (.op (some 135) none (.q (.load 1 false (.t 134)))
  (.op (some 136) none (.n (.lit 1 1 [(.int .i64 0)] [(0, (.t 135))]))
  (.op (some 137) none (.s (.app 1 8 (.t 130) (.t 136)))
  (.op (some 138) none (.q (.faddr 1 (.t 14)))
  (.op none none (.s (.store 1 (.t 138) (.t 137)))
  .nil))))))))))) [2, 3, 6, 10, 12, 13, 14, 15] [3, 4, 6, 12, 13, 14, 136, 137])))))
 (.region none (.op (some 101) none (.q (.mov (.t 15)))
  (.op (some 102) none (.q (.bin .add (.t 101) (.c (.one (.p (.int .i64 1))))))
  (.op (some 15) none (.q (.mov (.t 102)))
  .nil))) [2, 3, 6, 10, 12, 13, 14, 15] [3, 4, 6, 12, 13, 14, 126, 127, 136, 137]))))))
 (.seq (.region none (.op (some 139) none (.q (.load 2 true (.t 14)))
  (.op none none (.s (.store 2 (.t 6) (.t 139)))
  (.op (some 7) none (.q (.mov (.c (.one (.p (.int .i64 0))))))
  .nil))) [6, 7] [3, 4, 6, 12, 13, 14, 126, 127, 136, 137])
 .ret)))))))))))))
theorem is_fullerref05_Join : compC Try.prog (Try.f21.body.getD .skip) = some a_fullerref05_Join.erase := by kernel_rfl
theorem ok_fullerref05_Join : a_fullerref05_Join.ok 140 = true := by kernel_rfl
theorem rv_fullerref05_Join : compRV Try.prog Try.f21.results.toList = some [.cell 2 true 6, .tmp 7] := by kernel_rfl
theorem pure_fullerref05_Join {ds : List DV} {r : DV} (hn : ds.length ≤ 140) (h : ∀ (G : AM.Ground), G.P = Try.prog → G.nt = 140 → T G Fence.wide 0 a_fullerref05_Join (AM.Ends [.cell 2 true 6, .tmp 7] r) { env := initE 0 ds, σ := [] }) : PureC Try.prog fi_fullerref05_Join ds r :=
  pureC_of Try.call21 Try.func21 (by rfl) is_fullerref05_Join ok_fullerref05_Join rv_fullerref05_Join hn h

theorem mut_fullerref05_Join {vs : List AV} {σ σ' : Sto} {r : AV} {fr : List Nat} (hn : vs.length ≤ 140) (h : ∀ (G : AM.Ground) (ex : List AV), G.P = Try.prog → G.nt = 140 → (∀ d ∈ fr, ex.all (fun v => !v.has d) = true) → T G Fence.wide 0 a_fullerref05_Join (EndsM [.cell 2 true 6, .tmp 7] r σ' ex) { env := initV 0 vs, σ := σ, ex := ex }) : MutC Try.prog fi_fullerref05_Join vs σ r σ' fr :=
  mutC_of Try.call21 Try.func21 (by rfl) is_fullerref05_Join ok_fullerref05_Join rv_fullerref05_Join hn h

/-! fuller/tensor.Check: params 1 + 0, slots 15; [t, t, , , , , , , , , , , , , ] -/
def a_tensor_Check : ACode := (.seq (.region none (.op (some 1) none (.n (.box 2 (.t 0)))
  (.op (some 2) none (.q (.mov (.c (.one (.p (.bool false))))))
  .nil)) [1] [1])
 (.seq (.region (some [[], [], [], [], [], [], [], [4, 5, 6], [4, 5, 6], [4, 5, 6], [], [], []]) (.op (some 3) none (.q (.faddr 0 (.t 1)))
  (.op (some 4) none (.q (.load 1 false (.t 3)))
  (.op (some 5) none (.call (.c (.one (.p (.fn fi_shape_Check [] [])))) [(.t 4)])
  (.op (some 6) none (.q (.mov (.t 5)))
  (.sc 14 6 true 13 none
  (.op (some 7) (some (6, true)) (.q (.faddr 1 (.t 1)))
  (.op (some 8) (some (6, true)) (.q (.load 1 false (.t 7)))
  (.op (some 9) (some (6, true)) (.q (.len (.t 8)))
  (.op (some 10) (some (6, true)) (.q (.faddr 0 (.t 1)))
  (.op (some 11) (some (6, true)) (.q (.load 1 false (.t 10)))
  (.op (some 12) (some (6, true)) (.call (.c (.one (.p (.fn fi_shape_Size [] [])))) [(.t 11)])
  (.op (some 13) (some (6, true)) (.q (.bin .eql (.t 9) (.t 12)))
  .nil)))))))
  (.op (some 2) none (.q (.mov (.t 14)))
  .nil)))))) [2] [1])
 .ret))
theorem is_tensor_Check : compC Try.prog (Try.f22.body.getD .skip) = some a_tensor_Check.erase := by kernel_rfl
theorem ok_tensor_Check : a_tensor_Check.ok 15 = true := by kernel_rfl
theorem rv_tensor_Check : compRV Try.prog Try.f22.results.toList = some [.tmp 2] := by kernel_rfl
theorem pure_tensor_Check {ds : List DV} {r : DV} (hn : ds.length ≤ 15) (h : ∀ (G : AM.Ground), G.P = Try.prog → G.nt = 15 → T G Fence.wide 0 a_tensor_Check (AM.Ends [.tmp 2] r) { env := initE 0 ds, σ := [] }) : PureC Try.prog fi_tensor_Check ds r :=
  pureC_of Try.call22 Try.func22 (by rfl) is_tensor_Check ok_tensor_Check rv_tensor_Check hn h

theorem mut_tensor_Check {vs : List AV} {σ σ' : Sto} {r : AV} {fr : List Nat} (hn : vs.length ≤ 15) (h : ∀ (G : AM.Ground) (ex : List AV), G.P = Try.prog → G.nt = 15 → (∀ d ∈ fr, ex.all (fun v => !v.has d) = true) → T G Fence.wide 0 a_tensor_Check (EndsM [.tmp 2] r σ' ex) { env := initV 0 vs, σ := σ, ex := ex }) : MutC Try.prog fi_tensor_Check vs σ r σ' fr :=
  mutC_of Try.call22 Try.func22 (by rfl) is_tensor_Check ok_tensor_Check rv_tensor_Check hn h

/-! fuller/tensor.At: params 2 + 0, slots 26; [t, index, t, index, , , p, e, , , , , , , , , , , , , , , , , , ] -/
def a_tensor_At : ACode := (.seq (.region none (.op (some 2) none (.n (.box 2 (.t 0)))
  (.op (some 4) none (.q (.mov (.c (.one (.p (.int .i64 0))))))
  (.op (some 5) none (.q (.mov (.c (.one (.p (.int .i64 0))))))
  .nil))) [1, 2] [2])
 (.seq (.seq (.region none (.op (some 8) none (.q (.load 2 true (.t 2)))
  (.op (some 9) none (.call (.c (.one (.p (.fn fi_tensor_Check [] [])))) [(.t 8)])
  (.op (some 10) none (.q (.un .not (.t 9)))
  .nil))) [1, 2, 10] [2])
 (.cond (.t 10) (.seq (.region none (.op (some 4) none (.q (.mov (.c (.one (.p (.int .i64 0))))))
  (.op (some 5) none (.q (.mov (.c (.one (.p (.int .i64 30))))))
  .nil)) [4, 5] [2])
 .ret)
 .skip))
 (.seq (.region none (.op (some 12) none (.q (.faddr 0 (.t 2)))
  (.op (some 13) none (.q (.load 1 false (.t 12)))
  (.op (some 14) none (.q (.mov (.t 1)))
  (.op (some 15) none (.call (.c (.one (.p (.fn fi_shape_Place [] [])))) [(.t 13), (.t 14)])
  (.op (some 11) none (.q (.mov (.t 15)))
  (.op (some 16) none (.q (.extr (.t 11) 0))
  (.op (some 17) none (.q (.extr (.t 11) 1))
  (.op (some 6) none (.q (.mov (.t 16)))
  (.op (some 7) none (.q (.mov (.t 17)))
  .nil))))))))) [2, 6, 7] [2])
 (.seq (.seq (.region none (.op (some 18) none (.q (.mov (.t 7)))
  (.op (some 19) none (.q (.bin .neq (.t 18) (.c (.one (.p (.int .i64 0))))))
  .nil)) [2, 6, 7, 19] [2])
 (.cond (.t 19) (.seq (.region none (.op (some 20) none (.q (.mov (.t 7)))
  (.op (some 4) none (.q (.mov (.c (.one (.p (.int .i64 0))))))
  (.op (some 5) none (.q (.mov (.t 20)))
  .nil))) [4, 5] [2])
 .ret)
 .skip))
 (.seq (.region none (.op (some 21) none (.q (.faddr 1 (.t 2)))
  (.op (some 22) none (.q (.load 1 false (.t 21)))
  (.op (some 23) none (.q (.mov (.t 6)))
  (.op (some 24) none (.q (.iaddr 1 (.t 22) (.t 23)))
  (.op (some 25) none (.q (.load 1 false (.t 24)))
  (.op (some 4) none (.q (.mov (.t 25)))
  (.op (some 5) none (.q (.mov (.c (.one (.p (.int .i64 0))))))
  .nil))))))) [4, 5] [2])
 .ret)))))
theorem is_tensor_At : compC Try.prog (Try.f23.body.getD .skip) = some a_tensor_At.erase := by kernel_rfl
theorem ok_tensor_At : a_tensor_At.ok 26 = true := by kernel_rfl
theorem rv_tensor_At : compRV Try.prog Try.f23.results.toList = some [.tmp 4, .tmp 5] := by kernel_rfl
theorem pure_tensor_At {ds : List DV} {r : DV} (hn : ds.length ≤ 26) (h : ∀ (G : AM.Ground), G.P = Try.prog → G.nt = 26 → T G Fence.wide 0 a_tensor_At (AM.Ends [.tmp 4, .tmp 5] r) { env := initE 0 ds, σ := [] }) : PureC Try.prog fi_tensor_At ds r :=
  pureC_of Try.call23 Try.func23 (by rfl) is_tensor_At ok_tensor_At rv_tensor_At hn h

theorem mut_tensor_At {vs : List AV} {σ σ' : Sto} {r : AV} {fr : List Nat} (hn : vs.length ≤ 26) (h : ∀ (G : AM.Ground) (ex : List AV), G.P = Try.prog → G.nt = 26 → (∀ d ∈ fr, ex.all (fun v => !v.has d) = true) → T G Fence.wide 0 a_tensor_At (EndsM [.tmp 4, .tmp 5] r σ' ex) { env := initV 0 vs, σ := σ, ex := ex }) : MutC Try.prog fi_tensor_At vs σ r σ' fr :=
  mutC_of Try.call23 Try.func23 (by rfl) is_tensor_At ok_tensor_At rv_tensor_At hn h

/-! fuller/fullerref02.Same: params 2 + 0, slots 26; [a, b, a, b, , i, , , , , , , , , , , , , , , , , , , , ] -/
def a_fullerref02_Same : ACode := (.seq (.region none (.op (some 4) none (.q (.mov (.c (.one (.p (.bool false))))))
  .nil) [0, 1] [])
 (.seq (.seq (.region none (.op (some 6) none (.q (.mov (.t 0)))
  (.op (some 7) none (.q (.len (.t 6)))
  (.op (some 8) none (.q (.mov (.t 1)))
  (.op (some 9) none (.q (.len (.t 8)))
  (.op (some 10) none (.q (.bin .neq (.t 7) (.t 9)))
  .nil))))) [0, 1, 10] [])
 (.cond (.t 10) (.seq (.region none (.op (some 4) none (.q (.mov (.c (.one (.p (.bool false))))))
  .nil) [4] [])
 .ret)
 .skip))
 (.seq (.seq (.region none (.op (some 5) none (.q (.mov (.c (.one (.p (.int .i64 0))))))
  .nil) [0, 1, 5] [])
 (.block 0 (.loop (.seq (.seq (.region none (.op (some 11) none (.q (.mov (.t 5)))
  (.op (some 12) none (.q (.mov (.t 0)))
  (.op (some 13) none (.q (.len (.t 12)))
  (.op (some 14) none (.q (.bin .lss (.t 11) (.t 13)))
  .nil)))) [0, 1, 5, 14] [])
 (.cond (.t 14) .skip
 (.exit 0)))
 (.seq (.block 1 (.seq (.region (some [[], [0], [], [], [0, 1, 2, 3], [0, 1, 2, 3, 4], [0, 1, 2, 3], [0, 1, 2, 3], []]) (.op (some 17) none (.q (.mov (.t 0)))
  (.op (some 18) none (.q (.mov (.t 5)))
  (.op (some 19) none (.q (.iaddr 1 (.t 17) (.t 18)))
  (.op (some 20) none (.q (.load 1 false (.t 19)))
  (.op (some 21) none (.q (.mov (.t 1)))
  (.op (some 22) none (.q (.mov (.t 5)))
  (.op (some 23) none (.q (.iaddr 1 (.t 21) (.t 22)))
  (.op (some 24) none (.q (.load 1 false (.t 23)))
  (.op (some 25) none (.q (.bin .neq (.t 20) (.t 24)))
  .nil))))))))) [0, 1, 5, 25] [])
 (.cond (.t 25) (.seq (.region none (.op (some 4) none (.q (.mov (.c (.one (.p (.bool false))))))
  .nil) [4] [])
 .ret)
 .skip)))
 (.region none (.op (some 15) none (.q (.mov (.t 5)))
  (.op (some 16) none (.q (.bin .add (.t 15) (.c (.one (.p (.int .i64 1))))))
  (.op (some 5) none (.q (.mov (.t 16)))
  .nil))) [0, 1, 5] []))))))
 (.seq (.region none (.op (some 4) none (.q (.mov (.c (.one (.p (.bool true))))))
  .nil) [4] [])
 .ret))))
theorem is_fullerref02_Same : compC Try.prog (Try.f24.body.getD .skip) = some a_fullerref02_Same.erase := by kernel_rfl
theorem ok_fullerref02_Same : a_fullerref02_Same.ok 26 = true := by kernel_rfl
theorem rv_fullerref02_Same : compRV Try.prog Try.f24.results.toList = some [.tmp 4] := by kernel_rfl
theorem pure_fullerref02_Same {ds : List DV} {r : DV} (hn : ds.length ≤ 26) (h : ∀ (G : AM.Ground), G.P = Try.prog → G.nt = 26 → T G Fence.wide 0 a_fullerref02_Same (AM.Ends [.tmp 4] r) { env := initE 0 ds, σ := [] }) : PureC Try.prog fi_fullerref02_Same ds r :=
  pureC_of Try.call24 Try.func24 (by rfl) is_fullerref02_Same ok_fullerref02_Same rv_fullerref02_Same hn h

theorem mut_fullerref02_Same {vs : List AV} {σ σ' : Sto} {r : AV} {fr : List Nat} (hn : vs.length ≤ 26) (h : ∀ (G : AM.Ground) (ex : List AV), G.P = Try.prog → G.nt = 26 → (∀ d ∈ fr, ex.all (fun v => !v.has d) = true) → T G Fence.wide 0 a_fullerref02_Same (EndsM [.tmp 4] r σ' ex) { env := initV 0 vs, σ := σ, ex := ex }) : MutC Try.prog fi_fullerref02_Same vs σ r σ' fr :=
  mutC_of Try.call24 Try.func24 (by rfl) is_fullerref02_Same ok_fullerref02_Same rv_fullerref02_Same hn h

/-! fuller/shape.Check: params 1 + 0, slots 31; [s, s, , n, _, side, , , , , , , , , , , , , , , , , , , , , , , , ] -/
def a_shape_Check : ACode := (.seq (.region none (.op (some 2) none (.q (.mov (.c (.one (.p (.bool false))))))
  .nil) [0] [])
 (.scope (.seq (.region none (.op (some 3) none (.q (.mov (.c (.one (.p (.int .i64 1))))))
  .nil) [0, 3] [])
 (.seq (.seq (.region none (.op (some 6) none (.q (.mov (.t 0)))
  (.op (some 7) none (.q (.len (.t 6)))
  (.op (some 8) none (.q (.bin .gtr (.t 7) (.c (.one (.p (.int .i64 3))))))
  .nil))) [0, 3, 8] [])
 (.cond (.t 8) (.seq (.region none (.op (some 2) none (.q (.mov (.c (.one (.p (.bool false))))))
  .nil) [2] [])
 .ret)
 .skip))
 (.seq (.label 0)
 (.seq (.seq (.region none (.op (some 9) none (.q (.mov (.t 0)))
  (.op (some 10) none (.q (.len (.t 9)))
  (.op (some 11) none (.q (.mov (.c (.one (.p (.int .i64 0))))))
  .nil))) [3, 9, 10, 11] [])
 (.block 0 (.loop (.seq (.region none (.op (some 12) none (.q (.bin .lss (.t 11) (.t 10)))
  .nil) [3, 9, 10, 11, 12] [])
 (.seq (.cond (.t 12) .skip
 (.exit 0))
 (.seq (.block 1 (.seq (.region none (.op (some 13) none (.q (.iaddr 1 (.t 9) (.t 11)))
  (.op (some 14) none (.q (.load 1 false (.t 13)))
  (.op (some 5) none (.q (.mov (.t 14)))
  .nil))) [3, 5, 9, 10, 11] [])
 (.seq (.seq (.region none (.op (some 15) none (.q (.mov (.t 5)))
  (.op (some 16) none (.q (.bin .lss (.t 15) (.c (.one (.p (.int .i64 1))))))
  (.op (some 17) none (.q (.mov (.t 16)))
  (.sc 20 17 false 19 none
  (.op (some 18) (some (17, false)) (.q (.mov (.t 5)))
  (.op (some 19) (some (17, false)) (.q (.bin .gtr (.t 18) (.c (.one (.p (.int .i64 16))))))
  .nil))
  .nil)))) [3, 5, 9, 10, 11, 20] [])
 (.cond (.t 20) (.seq (.region none (.op (some 3) none (.q (.mov (.c (.one (.p (.int .i64 0))))))
  .nil) [3] [])
 (.exit 0))
 .skip))
 (.region none (.op (some 21) none (.q (.mov (.t 3)))
  (.op (some 22) none (.q (.mov (.t 5)))
  (.op (some 23) none (.q (.bin .mul (.t 21) (.t 22)))
  (.op (some 3) none (.q (.mov (.t 23)))
  .nil)))) [3, 9, 10, 11] []))))
 (.region none (.op (some 24) none (.q (.bin .add (.t 11) (.c (.one (.p (.int .i64 1))))))
  (.op (some 11) none (.q (.mov (.t 24)))
  .nil)) [3, 9, 10, 11] [])))))))
 (.seq (.region none (.op (some 25) none (.q (.mov (.t 3)))
  (.op (some 26) none (.q (.bin .gtr (.t 25) (.c (.one (.p (.int .i64 0))))))
  (.op (some 27) none (.q (.mov (.t 26)))
  (.sc 30 27 true 29 none
  (.op (some 28) (some (27, true)) (.q (.mov (.t 3)))
  (.op (some 29) (some (27, true)) (.q (.bin .leq (.t 28) (.c (.one (.p (.int .i64 64))))))
  .nil))
  (.op (some 2) none (.q (.mov (.t 30)))
  .nil))))) [2] [])
 .ret)))))))
theorem is_shape_Check : compC Try.prog (Try.f27.body.getD .skip) = some a_shape_Check.erase := by kernel_rfl
theorem ok_shape_Check : a_shape_Check.ok 31 = true := by kernel_rfl
theorem rv_shape_Check : compRV Try.prog Try.f27.results.toList = some [.tmp 2] := by kernel_rfl
theorem pure_shape_Check {ds : List DV} {r : DV} (hn : ds.length ≤ 31) (h : ∀ (G : AM.Ground), G.P = Try.prog → G.nt = 31 → T G Fence.wide 0 a_shape_Check (AM.Ends [.tmp 2] r) { env := initE 0 ds, σ := [] }) : PureC Try.prog fi_shape_Check ds r :=
  pureC_of Try.call27 Try.func27 (by rfl) is_shape_Check ok_shape_Check rv_shape_Check hn h

theorem mut_shape_Check {vs : List AV} {σ σ' : Sto} {r : AV} {fr : List Nat} (hn : vs.length ≤ 31) (h : ∀ (G : AM.Ground) (ex : List AV), G.P = Try.prog → G.nt = 31 → (∀ d ∈ fr, ex.all (fun v => !v.has d) = true) → T G Fence.wide 0 a_shape_Check (EndsM [.tmp 2] r σ' ex) { env := initV 0 vs, σ := σ, ex := ex }) : MutC Try.prog fi_shape_Check vs σ r σ' fr :=
  mutC_of Try.call27 Try.func27 (by rfl) is_shape_Check ok_shape_Check rv_shape_Check hn h

/-! fuller/shape.Size: params 1 + 0, slots 20; [s, s, , n, _, side, , , , , , , , , , , , , , ] -/
def a_shape_Size : ACode := (.seq (.region none (.op (some 2) none (.q (.mov (.c (.one (.p (.int .i64 0))))))
  .nil) [0] [])
 (.seq (.seq (.region none (.op (some 6) none (.q (.mov (.t 0)))
  (.op (some 7) none (.call (.c (.one (.p (.fn fi_shape_Check [] [])))) [(.t 6)])
  (.op (some 8) none (.q (.un .not (.t 7)))
  .nil))) [0, 8] [])
 (.cond (.t 8) (.seq (.region none (.op (some 2) none (.q (.mov (.c (.one (.p (.int .i64 0))))))
  .nil) [2] [])
 .ret)
 .skip))
 (.seq (.region none (.op (some 3) none (.q (.mov (.c (.one (.p (.int .i64 1))))))
  .nil) [0, 3] [])
 (.seq (.seq (.region none (.op (some 9) none (.q (.mov (.t 0)))
  (.op (some 10) none (.q (.len (.t 9)))
  (.op (some 11) none (.q (.mov (.c (.one (.p (.int .i64 0))))))
  .nil))) [3, 9, 10, 11] [])
 (.block 0 (.loop (.seq (.region none (.op (some 12) none (.q (.bin .lss (.t 11) (.t 10)))
  .nil) [3, 9, 10, 11, 12] [])
 (.seq (.cond (.t 12) .skip
 (.exit 0))
 (.seq (.block 1 (.seq (.region none (.op (some 13) none (.q (.iaddr 1 (.t 9) (.t 11)))
  (.op (some 14) none (.q (.load 1 false (.t 13)))
  (.op (some 5) none (.q (.mov (.t 14)))
  .nil))) [3, 5, 9, 10, 11] [])
 (.region none (.op (some 15) none (.q (.mov (.t 3)))
  (.op (some 16) none (.q (.mov (.t 5)))
  (.op (some 17) none (.q (.bin .mul (.t 15) (.t 16)))
  (.op (some 3) none (.q (.mov (.t 17)))
  .nil)))) [3, 9, 10, 11] [])))
 (.region none (.op (some 18) none (.q (.bin .add (.t 11) (.c (.one (.p (.int .i64 1))))))
  (.op (some 11) none (.q (.mov (.t 18)))
  .nil)) [3, 9, 10, 11] [])))))))
 (.seq (.region none (.op (some 19) none (.q (.mov (.t 3)))
  (.op (some 2) none (.q (.mov (.t 19)))
  .nil)) [2] [])
 .ret)))))
theorem is_shape_Size : compC Try.prog (Try.f28.body.getD .skip) = some a_shape_Size.erase := by kernel_rfl
theorem ok_shape_Size : a_shape_Size.ok 20 = true := by kernel_rfl
theorem rv_shape_Size : compRV Try.prog Try.f28.results.toList = some [.tmp 2] := by kernel_rfl
theorem pure_shape_Size {ds : List DV} {r : DV} (hn : ds.length ≤ 20) (h : ∀ (G : AM.Ground), G.P = Try.prog → G.nt = 20 → T G Fence.wide 0 a_shape_Size (AM.Ends [.tmp 2] r) { env := initE 0 ds, σ := [] }) : PureC Try.prog fi_shape_Size ds r :=
  pureC_of Try.call28 Try.func28 (by rfl) is_shape_Size ok_shape_Size rv_shape_Size hn h

theorem mut_shape_Size {vs : List AV} {σ σ' : Sto} {r : AV} {fr : List Nat} (hn : vs.length ≤ 20) (h : ∀ (G : AM.Ground) (ex : List AV), G.P = Try.prog → G.nt = 20 → (∀ d ∈ fr, ex.all (fun v => !v.has d) = true) → T G Fence.wide 0 a_shape_Size (EndsM [.tmp 2] r σ' ex) { env := initV 0 vs, σ := σ, ex := ex }) : MutC Try.prog fi_shape_Size vs σ r σ' fr :=
  mutC_of Try.call28 Try.func28 (by rfl) is_shape_Size ok_shape_Size rv_shape_Size hn h

/-! slices.Clone[[]int,int]: params 1 + 0, slots 8; [s, s, , , , , , ] -/
def a_slices_Clone_int_int : ACode := (.seq (.region none (.op (some 2) none (.q (.mov (.c (.one .nils))))
  .nil) [0] [])
 (.seq (.seq (.region none (.op (some 3) none (.q (.mov (.t 0)))
  (.op (some 4) none (.q (.eqN 0 false (.t 3) (.c (.one .nils))))
  .nil)) [0, 4] [])
 (.cond (.t 4) (.seq (.region none (.op (some 2) none (.q (.mov (.c (.one .nils))))
  .nil) [2] [])
 .ret)
 .skip))
 (.seq (.region none (.op (some 5) none (.n (.lit 1 0 [(.int .i64 0)] []))
  (.op (some 6) none (.q (.mov (.t 0)))
  (.op (some 7) none (.s (.app 1 8 (.t 5) (.t 6)))
  (.op (some 2) none (.q (.mov (.t 7)))
  .nil)))) [2] [5, 7])
 .ret)))
theorem is_slices_Clone_int_int : compC Try.prog (Try.f29.body.getD .skip) = some a_slices_Clone_int_int.erase := by kernel_rfl
theorem ok_slices_Clone_int_int : a_slices_Clone_int_int.ok 8 = true := by kernel_rfl
theorem rv_slices_Clone_int_int : compRV Try.prog Try.f29.results.toList = some [.tmp 2] := by kernel_rfl
theorem pure_slices_Clone_int_int {ds : List DV} {r : DV} (hn : ds.length ≤ 8) (h : ∀ (G : AM.Ground), G.P = Try.prog → G.nt = 8 → T G Fence.wide 0 a_slices_Clone_int_int (AM.Ends [.tmp 2] r) { env := initE 0 ds, σ := [] }) : PureC Try.prog fi_slices_Clone_int_int ds r :=
  pureC_of Try.call29 Try.func29 (by rfl) is_slices_Clone_int_int ok_slices_Clone_int_int rv_slices_Clone_int_int hn h

theorem mut_slices_Clone_int_int {vs : List AV} {σ σ' : Sto} {r : AV} {fr : List Nat} (hn : vs.length ≤ 8) (h : ∀ (G : AM.Ground) (ex : List AV), G.P = Try.prog → G.nt = 8 → (∀ d ∈ fr, ex.all (fun v => !v.has d) = true) → T G Fence.wide 0 a_slices_Clone_int_int (EndsM [.tmp 2] r σ' ex) { env := initV 0 vs, σ := σ, ex := ex }) : MutC Try.prog fi_slices_Clone_int_int vs σ r σ' fr :=
  mutC_of Try.call29 Try.func29 (by rfl) is_slices_Clone_int_int ok_slices_Clone_int_int rv_slices_Clone_int_int hn h

/-! fuller/fullerref03.Check: params 1 + 0, slots 17; [t, t, , ok, , , , , , , , , , , , , ] -/
def a_fullerref03_Check : ACode := (.seq (.region none (.op (some 1) none (.n (.box 2 (.t 0)))
  (.op (some 2) none (.q (.mov (.c (.one (.p (.bool false))))))
  .nil)) [1] [1])
 (.seq (.region none (.op (some 4) none (.q (.faddr 0 (.t 1)))
  (.op (some 5) none (.q (.load 1 false (.t 4)))
  (.op (some 6) none (.call (.c (.one (.p (.fn fi_fullerref02_Check [] [])))) [(.t 5)])
  (.op (some 3) none (.q (.mov (.t 6)))
  .nil)))) [1, 3] [1])
 (.seq (.region (some [[], [], [], [], [], [2, 3, 4], [2, 3, 4], [2, 3, 4], [], [], []]) (.op (some 7) none (.q (.mov (.t 3)))
  (.op (some 8) none (.q (.mov (.t 7)))
  (.sc 16 8 true 15 none
  (.op (some 9) (some (8, true)) (.q (.faddr 1 (.t 1)))
  (.op (some 10) (some (8, true)) (.q (.load 1 false (.t 9)))
  (.op (some 11) (some (8, true)) (.q (.len (.t 10)))
  (.op (some 12) (some (8, true)) (.q (.faddr 0 (.t 1)))
  (.op (some 13) (some (8, true)) (.q (.load 1 false (.t 12)))
  (.op (some 14) (some (8, true)) (.call (.c (.one (.p (.fn fi_fullerref02_Size [] [])))) [(.t 13)])
  (.op (some 15) (some (8, true)) (.q (.bin .eql (.t 11) (.t 14)))
  .nil)))))))
  (.op (some 2) none (.q (.mov (.t 16)))
  .nil)))) [2] [1])
 .ret)))
theorem is_fullerref03_Check : compC Try.prog (Try.f30.body.getD .skip) = some a_fullerref03_Check.erase := by kernel_rfl
theorem ok_fullerref03_Check : a_fullerref03_Check.ok 17 = true := by kernel_rfl
theorem rv_fullerref03_Check : compRV Try.prog Try.f30.results.toList = some [.tmp 2] := by kernel_rfl
theorem pure_fullerref03_Check {ds : List DV} {r : DV} (hn : ds.length ≤ 17) (h : ∀ (G : AM.Ground), G.P = Try.prog → G.nt = 17 → T G Fence.wide 0 a_fullerref03_Check (AM.Ends [.tmp 2] r) { env := initE 0 ds, σ := [] }) : PureC Try.prog fi_fullerref03_Check ds r :=
  pureC_of Try.call30 Try.func30 (by rfl) is_fullerref03_Check ok_fullerref03_Check rv_fullerref03_Check hn h

theorem mut_fullerref03_Check {vs : List AV} {σ σ' : Sto} {r : AV} {fr : List Nat} (hn : vs.length ≤ 17) (h : ∀ (G : AM.Ground) (ex : List AV), G.P = Try.prog → G.nt = 17 → (∀ d ∈ fr, ex.all (fun v => !v.has d) = true) → T G Fence.wide 0 a_fullerref03_Check (EndsM [.tmp 2] r σ' ex) { env := initV 0 vs, σ := σ, ex := ex }) : MutC Try.prog fi_fullerref03_Check vs σ r σ' fr :=
  mutC_of Try.call30 Try.func30 (by rfl) is_fullerref03_Check ok_fullerref03_Check rv_fullerref03_Check hn h

/-! fuller/fullerref02.Size: params 1 + 0, slots 10; [s, s, , ok, , , , , , ] -/
def a_fullerref02_Size : ACode := (.seq (.region none (.op (some 2) none (.q (.mov (.c (.one (.p (.int .i64 0))))))
  .nil) [0] [])
 (.seq (.region none (.op (some 4) none (.q (.mov (.t 0)))
  (.op (some 5) none (.call (.c (.one (.p (.fn fi_fullerref02_Check [] [])))) [(.t 4)])
  (.op (some 3) none (.q (.mov (.t 5)))
  .nil))) [0, 3] [])
 (.seq (.seq (.region none (.op (some 6) none (.q (.mov (.t 3)))
  (.op (some 7) none (.q (.un .not (.t 6)))
  .nil)) [0, 7] [])
 (.cond (.t 7) (.seq (.region none (.op (some 2) none (.q (.mov (.c (.one (.p (.int .i64 0))))))
  .nil) [2] [])
 .ret)
 .skip))
 (.seq (.region none (.op (some 8) none (.q (.mov (.t 0)))
  (.op (some 9) none (.call (.c (.one (.p (.fn fi_fullerref02_product [] [])))) [(.t 8)])
  (.op (some 2) none (.q (.mov (.t 9)))
  .nil))) [2] [])
 .ret))))
theorem is_fullerref02_Size : compC Try.prog (Try.f31.body.getD .skip) = some a_fullerref02_Size.erase := by kernel_rfl
theorem ok_fullerref02_Size : a_fullerref02_Size.ok 10 = true := by kernel_rfl
theorem rv_fullerref02_Size : compRV Try.prog Try.f31.results.toList = some [.tmp 2] := by kernel_rfl
theorem pure_fullerref02_Size {ds : List DV} {r : DV} (hn : ds.length ≤ 10) (h : ∀ (G : AM.Ground), G.P = Try.prog → G.nt = 10 → T G Fence.wide 0 a_fullerref02_Size (AM.Ends [.tmp 2] r) { env := initE 0 ds, σ := [] }) : PureC Try.prog fi_fullerref02_Size ds r :=
  pureC_of Try.call31 Try.func31 (by rfl) is_fullerref02_Size ok_fullerref02_Size rv_fullerref02_Size hn h

theorem mut_fullerref02_Size {vs : List AV} {σ σ' : Sto} {r : AV} {fr : List Nat} (hn : vs.length ≤ 10) (h : ∀ (G : AM.Ground) (ex : List AV), G.P = Try.prog → G.nt = 10 → (∀ d ∈ fr, ex.all (fun v => !v.has d) = true) → T G Fence.wide 0 a_fullerref02_Size (EndsM [.tmp 2] r σ' ex) { env := initV 0 vs, σ := σ, ex := ex }) : MutC Try.prog fi_fullerref02_Size vs σ r σ' fr :=
  mutC_of Try.call31 Try.func31 (by rfl) is_fullerref02_Size ok_fullerref02_Size rv_fullerref02_Size hn h

/-! fuller/move.made: params 2 + 0, slots 22; [s, at, s, at, , , out, x, , , , , , , , , , , , , , ] -/
def a_move_made : ACode := (.seq (.region none (.op (some 3) none (.n (.box 1 (.t 1)))
  (.op (some 4) none (.n (.alloc [.nils, .nils]))
  (.op (some 5) none (.q (.mov (.c (.one (.p (.int .i64 0))))))
  .nil))) [0, 3, 4] [3, 4])
 (.seq (.region none (.op (some 8) none (.q (.mov (.t 0)))
  (.op (some 9) none (.q (.build [.nils, .nils] [(0, 1, (.t 8))]))
  (.op (some 6) none (.n (.alloc [.nils, .nils]))
  (.op none none (.s (.store 2 (.t 6) (.t 9)))
  .nil)))) [0, 3, 4, 6] [3, 4, 6])
 (.seq (.seq (.region none (.op (some 10) none (.q (.mov (.t 0)))
  (.op (some 11) none (.call (.c (.one (.p (.fn fi_move_indices [] [])))) [(.t 10)])
  .nil)) [3, 4, 6, 11] [3, 4, 6])
 (.block 0 (.range (.t 11) [12] (.region none (.op (some 7) none (.q (.mov (.t 12)))
  .nil) [3, 4, 6, 7] [3, 4, 6])
 (.block 1 (.region (some [[], [], [0, 1], [0, 1, 2], [0, 1], [0, 1], [], [], []]) (.op (some 13) none (.q (.faddr 1 (.t 6)))
  (.op (some 14) none (.q (.load 1 false (.t 13)))
  (.op (some 15) none (.q (.load 1 false (.t 3)))
  (.op (some 16) none (.q (.mov (.t 7)))
  (.op (some 17) none (.call (.t 15) [(.t 16)])
  (.op (some 18) none (.n (.lit 1 1 [(.int .i64 0)] [(0, (.t 17))]))
  (.op (some 19) none (.s (.app 1 8 (.t 14) (.t 18)))
  (.op (some 20) none (.q (.faddr 1 (.t 6)))
  (.op none none (.s (.store 1 (.t 20) (.t 19)))
  .nil))))))))) [3, 4, 6] [3, 4, 6, 18, 19])))))
 (.seq (.region none (.op (some 21) none (.q (.load 2 true (.t 6)))
  (.op none none (.s (.store 2 (.t 4) (.t 21)))
  (.op (some 5) none (.q (.mov (.c (.one (.p (.int .i64 0))))))
  .nil))) [4, 5] [3, 4, 6])
 .ret))))
theorem is_move_made : compC Try.prog (Try.f32.body.getD .skip) = some a_move_made.erase := by kernel_rfl
theorem ok_move_made : a_move_made.ok 22 = true := by kernel_rfl
theorem rv_move_made : compRV Try.prog Try.f32.results.toList = some [.cell 2 true 4, .tmp 5] := by kernel_rfl
theorem pure_move_made {ds : List DV} {r : DV} (hn : ds.length ≤ 22) (h : ∀ (G : AM.Ground), G.P = Try.prog → G.nt = 22 → T G Fence.wide 0 a_move_made (AM.Ends [.cell 2 true 4, .tmp 5] r) { env := initE 0 ds, σ := [] }) : PureC Try.prog fi_move_made ds r :=
  pureC_of Try.call32 Try.func32 (by rfl) is_move_made ok_move_made rv_move_made hn h

theorem mut_move_made {vs : List AV} {σ σ' : Sto} {r : AV} {fr : List Nat} (hn : vs.length ≤ 22) (h : ∀ (G : AM.Ground) (ex : List AV), G.P = Try.prog → G.nt = 22 → (∀ d ∈ fr, ex.all (fun v => !v.has d) = true) → T G Fence.wide 0 a_move_made (EndsM [.cell 2 true 4, .tmp 5] r σ' ex) { env := initV 0 vs, σ := σ, ex := ex }) : MutC Try.prog fi_move_made vs σ r σ' fr :=
  mutC_of Try.call32 Try.func32 (by rfl) is_move_made ok_move_made rv_move_made hn h

/-! fuller/move.turned[int]: params 1 + 0, slots 9; [l, l, , out, , , , , ] -/
def a_move_turned_int : ACode := (.seq (.region none (.op (some 2) none (.q (.mov (.c (.one .nils))))
  .nil) [0] [])
 (.seq (.region none (.op (some 4) none (.q (.mov (.t 0)))
  (.op (some 5) none (.call (.c (.one (.p (.fn fi_slices_Clone_int_int [] [])))) [(.t 4)])
  (.op (some 3) none (.q (.mov (.t 5)))
  .nil))) [3] [])
 (.seq (.region none (.op (some 6) none (.q (.mov (.t 3)))
  (.op (some 7) none (.call (.c (.one (.p (.fn fi_slices_Reverse_int_int [] [])))) [(.t 6)])
  .nil)) [3] [])
 (.seq (.region none (.op (some 8) none (.q (.mov (.t 3)))
  (.op (some 2) none (.q (.mov (.t 8)))
  .nil)) [2] [])
 .ret))))
theorem is_move_turned_int : compC Try.prog (Try.f33.body.getD .skip) = some a_move_turned_int.erase := by kernel_rfl
theorem ok_move_turned_int : a_move_turned_int.ok 9 = true := by kernel_rfl
theorem rv_move_turned_int : compRV Try.prog Try.f33.results.toList = some [.tmp 2] := by kernel_rfl
theorem pure_move_turned_int {ds : List DV} {r : DV} (hn : ds.length ≤ 9) (h : ∀ (G : AM.Ground), G.P = Try.prog → G.nt = 9 → T G Fence.wide 0 a_move_turned_int (AM.Ends [.tmp 2] r) { env := initE 0 ds, σ := [] }) : PureC Try.prog fi_move_turned_int ds r :=
  pureC_of Try.call33 Try.func33 (by rfl) is_move_turned_int ok_move_turned_int rv_move_turned_int hn h

theorem mut_move_turned_int {vs : List AV} {σ σ' : Sto} {r : AV} {fr : List Nat} (hn : vs.length ≤ 9) (h : ∀ (G : AM.Ground) (ex : List AV), G.P = Try.prog → G.nt = 9 → (∀ d ∈ fr, ex.all (fun v => !v.has d) = true) → T G Fence.wide 0 a_move_turned_int (EndsM [.tmp 2] r σ' ex) { env := initV 0 vs, σ := σ, ex := ex }) : MutC Try.prog fi_move_turned_int vs σ r σ' fr :=
  mutC_of Try.call33 Try.func33 (by rfl) is_move_turned_int ok_move_turned_int rv_move_turned_int hn h

/-! fuller/move.Turn$1: params 1 + 1, slots 14; [x, , x, , n, _, , , , , , , , ] -/
def a_move_Turn_1 : ACode := (.seq (.region none (.op (some 3) none (.q (.mov (.c (.one (.p (.int .i64 0))))))
  .nil) [0, 1] [])
 (.seq (.region (some [[], [0], [0], [], [], [], [5], [6], []]) (.op (some 7) none (.q (.load 2 true (.t 1)))
  (.op (some 8) none (.q (.mov (.t 0)))
  (.op (some 9) none (.call (.c (.one (.p (.fn fi_move_turned_int [] [])))) [(.t 8)])
  (.op (some 10) none (.call (.c (.one (.p (.fn fi_tensor_At [] [])))) [(.t 7), (.t 9)])
  (.op (some 6) none (.q (.mov (.t 10)))
  (.op (some 11) none (.q (.extr (.t 6) 0))
  (.op (some 12) none (.q (.extr (.t 6) 1))
  (.op (some 4) none (.q (.mov (.t 11)))
  (.op (some 5) none (.q (.mov (.t 12)))
  .nil))))))))) [4] [])
 (.seq (.region none (.op (some 13) none (.q (.mov (.t 4)))
  (.op (some 3) none (.q (.mov (.t 13)))
  .nil)) [3] [])
 .ret)))
theorem is_move_Turn_1 : compC Try.prog (Try.f34.body.getD .skip) = some a_move_Turn_1.erase := by kernel_rfl
theorem ok_move_Turn_1 : a_move_Turn_1.ok 14 = true := by kernel_rfl
theorem rv_move_Turn_1 : compRV Try.prog Try.f34.results.toList = some [.tmp 3] := by kernel_rfl
theorem pure_move_Turn_1 {ds : List DV} {r : DV} (hn : ds.length ≤ 14) (h : ∀ (G : AM.Ground), G.P = Try.prog → G.nt = 14 → T G Fence.wide 0 a_move_Turn_1 (AM.Ends [.tmp 3] r) { env := initE 0 ds, σ := [] }) : PureC Try.prog fi_move_Turn_1 ds r :=
  pureC_of Try.call34 Try.func34 (by rfl) is_move_Turn_1 ok_move_Turn_1 rv_move_Turn_1 hn h

theorem mut_move_Turn_1 {vs : List AV} {σ σ' : Sto} {r : AV} {fr : List Nat} (hn : vs.length ≤ 14) (h : ∀ (G : AM.Ground) (ex : List AV), G.P = Try.prog → G.nt = 14 → (∀ d ∈ fr, ex.all (fun v => !v.has d) = true) → T G Fence.wide 0 a_move_Turn_1 (EndsM [.tmp 3] r σ' ex) { env := initV 0 vs, σ := σ, ex := ex }) : MutC Try.prog fi_move_Turn_1 vs σ r σ' fr :=
  mutC_of Try.call34 Try.func34 (by rfl) is_move_Turn_1 ok_move_Turn_1 rv_move_Turn_1 hn h

/-! fuller/fullerref05.turned: params 1 + 0, slots 20; [l, l, , out, i, , , , , , , , , , , , , , , ] -/
def a_fullerref05_turned : ACode := (.seq (.region none (.op (some 2) none (.q (.mov (.c (.one .nils))))
  .nil) [0] [])
 (.seq (.region none (.op (some 3) none (.q (.mov (.c (.one .nils))))
  .nil) [0, 3] [])
 (.seq (.seq (.region none (.op (some 5) none (.q (.mov (.t 0)))
  (.op (some 6) none (.q (.len (.t 5)))
  (.op (some 7) none (.q (.bin .sub (.t 6) (.c (.one (.p (.int .i64 1))))))
  (.op (some 4) none (.q (.mov (.t 7)))
  .nil)))) [0, 3, 4] [])
 (.block 0 (.loop (.seq (.seq (.region none (.op (some 8) none (.q (.mov (.t 4)))
  (.op (some 9) none (.q (.bin .geq (.t 8) (.c (.one (.p (.int .i64 0))))))
  .nil)) [0, 3, 4, 9] [])
 (.cond (.t 9) .skip
 (.exit 0)))
 (.seq (.block 1 (.region none (.op (some 12) none (.q (.mov (.t 3)))
  (.op (some 13) none (.q (.mov (.t 0)))
  (.op (some 14) none (.q (.mov (.t 4)))
  (.op (some 15) none (.q (.iaddr 1 (.t 13) (.t 14)))
  (.op (some 16) none (.q (.load 1 false (.t 15)))
  (.op (some 17) none (.n (.lit 1 1 [(.int .i64 0)] [(0, (.t 16))]))
  (.op (some 18) none (.s (.app 1 8 (.t 12) (.t 17)))
  (.op (some 3) none (.q (.mov (.t 18)))
  .nil)))))))) [0, 3, 4] [17, 18]))
 (.region none (.op (some 10) none (.q (.mov (.t 4)))
  (.op (some 11) none (.q (.bin .sub (.t 10) (.c (.one (.p (.int .i64 1))))))
  (.op (some 4) none (.q (.mov (.t 11)))
  .nil))) [0, 3, 4] [17, 18]))))))
 (.seq (.region none (.op (some 19) none (.q (.mov (.t 3)))
  (.op (some 2) none (.q (.mov (.t 19)))
  .nil)) [2] [17, 18])
 .ret))))
theorem is_fullerref05_turned : compC Try.prog (Try.f35.body.getD .skip) = some a_fullerref05_turned.erase := by kernel_rfl
theorem ok_fullerref05_turned : a_fullerref05_turned.ok 20 = true := by kernel_rfl
theorem rv_fullerref05_turned : compRV Try.prog Try.f35.results.toList = some [.tmp 2] := by kernel_rfl
theorem pure_fullerref05_turned {ds : List DV} {r : DV} (hn : ds.length ≤ 20) (h : ∀ (G : AM.Ground), G.P = Try.prog → G.nt = 20 → T G Fence.wide 0 a_fullerref05_turned (AM.Ends [.tmp 2] r) { env := initE 0 ds, σ := [] }) : PureC Try.prog fi_fullerref05_turned ds r :=
  pureC_of Try.call35 Try.func35 (by rfl) is_fullerref05_turned ok_fullerref05_turned rv_fullerref05_turned hn h

theorem mut_fullerref05_turned {vs : List AV} {σ σ' : Sto} {r : AV} {fr : List Nat} (hn : vs.length ≤ 20) (h : ∀ (G : AM.Ground) (ex : List AV), G.P = Try.prog → G.nt = 20 → (∀ d ∈ fr, ex.all (fun v => !v.has d) = true) → T G Fence.wide 0 a_fullerref05_turned (EndsM [.tmp 2] r σ' ex) { env := initV 0 vs, σ := σ, ex := ex }) : MutC Try.prog fi_fullerref05_turned vs σ r σ' fr :=
  mutC_of Try.call35 Try.func35 (by rfl) is_fullerref05_turned ok_fullerref05_turned rv_fullerref05_turned hn h

/-! fuller/fullerref02.Index: params 2 + 0, slots 41; [s, place, s, place, , , n, out, i, , , , , , , , , , , , , , , , , , , , , ] -/
def a_fullerref02_Index : ACode := (.seq (.region none (.op (some 4) none (.q (.mov (.c (.one .nils))))
  (.op (some 5) none (.q (.mov (.c (.one (.p (.int .i64 0))))))
  .nil)) [0, 1] [])
 (.seq (.region none (.op (some 9) none (.q (.mov (.t 0)))
  (.op (some 10) none (.call (.c (.one (.p (.fn fi_fullerref02_Size [] [])))) [(.t 9)])
  (.op (some 6) none (.q (.mov (.t 10)))
  .nil))) [0, 1, 6] [])
 (.seq (.seq (.region none (.op (some 11) none (.q (.mov (.t 1)))
  (.op (some 12) none (.q (.bin .lss (.t 11) (.c (.one (.p (.int .i64 0))))))
  (.op (some 13) none (.q (.mov (.t 12)))
  (.sc 17 13 false 16 none
  (.op (some 14) (some (13, false)) (.q (.mov (.t 1)))
  (.op (some 15) (some (13, false)) (.q (.mov (.t 6)))
  (.op (some 16) (some (13, false)) (.q (.bin .geq (.t 14) (.t 15)))
  .nil)))
  .nil)))) [0, 1, 17] [])
 (.cond (.t 17) (.seq (.region none (.op (some 4) none (.q (.mov (.c (.one .nils))))
  (.op (some 5) none (.q (.mov (.c (.one (.p (.int .i64 20))))))
  .nil)) [4, 5] [])
 .ret)
 .skip))
 (.seq (.region none (.op (some 7) none (.q (.mov (.c (.one .nils))))
  .nil) [0, 1, 7] [])
 (.seq (.seq (.region none (.op (some 18) none (.q (.mov (.t 0)))
  (.op (some 19) none (.q (.len (.t 18)))
  (.op (some 20) none (.q (.bin .sub (.t 19) (.c (.one (.p (.int .i64 1))))))
  (.op (some 8) none (.q (.mov (.t 20)))
  .nil)))) [0, 1, 7, 8] [])
 (.block 0 (.loop (.seq (.seq (.region none (.op (some 21) none (.q (.mov (.t 8)))
  (.op (some 22) none (.q (.bin .geq (.t 21) (.c (.one (.p (.int .i64 0))))))
  .nil)) [0, 1, 7, 8, 22] [])
 (.cond (.t 22) .skip
 (.exit 0)))
 (.seq (.block 1 (.seq (.region none (.op (some 25) none (.q (.mov (.t 1)))
  (.op (some 26) none (.q (.mov (.t 0)))
  (.op (some 27) none (.q (.mov (.t 8)))
  (.op (some 28) none (.q (.iaddr 1 (.t 26) (.t 27)))
  (.op (some 29) none (.q (.load 1 false (.t 28)))
  (.op (some 30) none (.q (.bin .rem (.t 25) (.t 29)))
  (.op (some 31) none (.n (.lit 1 1 [(.int .i64 0)] [(0, (.t 30))]))
  (.op (some 32) none (.q (.mov (.t 7)))
  (.op (some 33) none (.s (.app 1 8 (.t 31) (.t 32)))
  (.op (some 7) none (.q (.mov (.t 33)))
  .nil)))))))))) [0, 1, 7, 8] [31, 33])
 (.region none (.op (some 34) none (.q (.mov (.t 1)))
  (.op (some 35) none (.q (.mov (.t 0)))
  (.op (some 36) none (.q (.mov (.t 8)))
  (.op (some 37) none (.q (.iaddr 1 (.t 35) (.t 36)))
  (.op (some 38) none (.q (.load 1 false (.t 37)))
  (.op (some 39) none (.q (.bin .quo (.t 34) (.t 38)))
  (.op (some 1) none (.q (.mov (.t 39)))
  .nil))))))) [0, 1, 7, 8] [31, 33])))
 (.region none (.op (some 23) none (.q (.mov (.t 8)))
  (.op (some 24) none (.q (.bin .sub (.t 23) (.c (.one (.p (.int .i64 1))))))
  (.op (some 8) none (.q (.mov (.t 24)))
  .nil))) [0, 1, 7, 8] [31, 33]))))))
 (.seq (.region none (.op (some 40) none (.q (.mov (.t 7)))
  (.op (some 4) none (.q (.mov (.t 40)))
  (.op (some 5) none (.q (.mov (.c (.one (.p (.int .i64 0))))))
  .nil))) [4, 5] [31, 33])
 .ret))))))
theorem is_fullerref02_Index : compC Try.prog (Try.f36.body.getD .skip) = some a_fullerref02_Index.erase := by kernel_rfl
theorem ok_fullerref02_Index : a_fullerref02_Index.ok 41 = true := by kernel_rfl
theorem rv_fullerref02_Index : compRV Try.prog Try.f36.results.toList = some [.tmp 4, .tmp 5] := by kernel_rfl
theorem pure_fullerref02_Index {ds : List DV} {r : DV} (hn : ds.length ≤ 41) (h : ∀ (G : AM.Ground), G.P = Try.prog → G.nt = 41 → T G Fence.wide 0 a_fullerref02_Index (AM.Ends [.tmp 4, .tmp 5] r) { env := initE 0 ds, σ := [] }) : PureC Try.prog fi_fullerref02_Index ds r :=
  pureC_of Try.call36 Try.func36 (by rfl) is_fullerref02_Index ok_fullerref02_Index rv_fullerref02_Index hn h

theorem mut_fullerref02_Index {vs : List AV} {σ σ' : Sto} {r : AV} {fr : List Nat} (hn : vs.length ≤ 41) (h : ∀ (G : AM.Ground) (ex : List AV), G.P = Try.prog → G.nt = 41 → (∀ d ∈ fr, ex.all (fun v => !v.has d) = true) → T G Fence.wide 0 a_fullerref02_Index (EndsM [.tmp 4, .tmp 5] r σ' ex) { env := initV 0 vs, σ := σ, ex := ex }) : MutC Try.prog fi_fullerref02_Index vs σ r σ' fr :=
  mutC_of Try.call36 Try.func36 (by rfl) is_fullerref02_Index ok_fullerref02_Index rv_fullerref02_Index hn h

/-! fuller/fullerref03.At: params 2 + 0, slots 28; [t, index, t, index, , , ok, p, e, , , , , , , , , , , , , , , , , , , ] -/
def a_fullerref03_At : ACode := (.seq (.region none (.op (some 2) none (.n (.box 2 (.t 0)))
  (.op (some 4) none (.q (.mov (.c (.one (.p (.int .i64 0))))))
  (.op (some 5) none (.q (.mov (.c (.one (.p (.int .i64 0))))))
  .nil))) [1, 2] [2])
 (.seq (.region none (.op (some 9) none (.q (.load 2 true (.t 2)))
  (.op (some 10) none (.call (.c (.one (.p (.fn fi_fullerref03_Check [] [])))) [(.t 9)])
  (.op (some 6) none (.q (.mov (.t 10)))
  .nil))) [1, 2, 6] [2])
 (.seq (.seq (.region none (.op (some 11) none (.q (.mov (.t 6)))
  (.op (some 12) none (.q (.un .not (.t 11)))
  .nil)) [1, 2, 12] [2])
 (.cond (.t 12) (.seq (.region none (.op (some 4) none (.q (.mov (.c (.one (.p (.int .i64 0))))))
  (.op (some 5) none (.q (.mov (.c (.one (.p (.int .i64 30))))))
  .nil)) [4, 5] [2])
 .ret)
 .skip))
 (.seq (.region none (.op (some 14) none (.q (.faddr 0 (.t 2)))
  (.op (some 15) none (.q (.load 1 false (.t 14)))
  (.op (some 16) none (.q (.mov (.t 1)))
  (.op (some 17) none (.call (.c (.one (.p (.fn fi_fullerref02_Place [] [])))) [(.t 15), (.t 16)])
  (.op (some 13) none (.q (.mov (.t 17)))
  (.op (some 18) none (.q (.extr (.t 13) 0))
  (.op (some 19) none (.q (.extr (.t 13) 1))
  (.op (some 7) none (.q (.mov (.t 18)))
  (.op (some 8) none (.q (.mov (.t 19)))
  .nil))))))))) [2, 7, 8] [2])
 (.seq (.seq (.region none (.op (some 20) none (.q (.mov (.t 8)))
  (.op (some 21) none (.q (.bin .neq (.t 20) (.c (.one (.p (.int .i64 0))))))
  .nil)) [2, 7, 8, 21] [2])
 (.cond (.t 21) (.seq (.region none (.op (some 22) none (.q (.mov (.t 8)))
  (.op (some 4) none (.q (.mov (.c (.one (.p (.int .i64 0))))))
  (.op (some 5) none (.q (.mov (.t 22)))
  .nil))) [4, 5] [2])
 .ret)
 .skip))
 (.seq (.region none (.op (some 23) none (.q (.faddr 1 (.t 2)))
  (.op (some 24) none (.q (.load 1 false (.t 23)))
  (.op (some 25) none (.q (.mov (.t 7)))
  (.op (some 26) none (.q (.iaddr 1 (.t 24) (.t 25)))
  (.op (some 27) none (.q (.load 1 false (.t 26)))
  (.op (some 4) none (.q (.mov (.t 27)))
  (.op (some 5) none (.q (.mov (.c (.one (.p (.int .i64 0))))))
  .nil))))))) [4, 5] [2])
 .ret))))))
theorem is_fullerref03_At : compC Try.prog (Try.f37.body.getD .skip) = some a_fullerref03_At.erase := by kernel_rfl
theorem ok_fullerref03_At : a_fullerref03_At.ok 28 = true := by kernel_rfl
theorem rv_fullerref03_At : compRV Try.prog Try.f37.results.toList = some [.tmp 4, .tmp 5] := by kernel_rfl
theorem pure_fullerref03_At {ds : List DV} {r : DV} (hn : ds.length ≤ 28) (h : ∀ (G : AM.Ground), G.P = Try.prog → G.nt = 28 → T G Fence.wide 0 a_fullerref03_At (AM.Ends [.tmp 4, .tmp 5] r) { env := initE 0 ds, σ := [] }) : PureC Try.prog fi_fullerref03_At ds r :=
  pureC_of Try.call37 Try.func37 (by rfl) is_fullerref03_At ok_fullerref03_At rv_fullerref03_At hn h

theorem mut_fullerref03_At {vs : List AV} {σ σ' : Sto} {r : AV} {fr : List Nat} (hn : vs.length ≤ 28) (h : ∀ (G : AM.Ground) (ex : List AV), G.P = Try.prog → G.nt = 28 → (∀ d ∈ fr, ex.all (fun v => !v.has d) = true) → T G Fence.wide 0 a_fullerref03_At (EndsM [.tmp 4, .tmp 5] r σ' ex) { env := initV 0 vs, σ := σ, ex := ex }) : MutC Try.prog fi_fullerref03_At vs σ r σ' fr :=
  mutC_of Try.call37 Try.func37 (by rfl) is_fullerref03_At ok_fullerref03_At rv_fullerref03_At hn h

/-! fuller/move.sided: params 3 + 0, slots 15; [s, axis, side, s, axis, side, , out, , , , , , , ] -/
def a_move_sided : ACode := (.seq (.region none (.op (some 6) none (.q (.mov (.c (.one .nils))))
  .nil) [0, 1, 2] [])
 (.seq (.region none (.op (some 8) none (.q (.mov (.t 0)))
  (.op (some 9) none (.call (.c (.one (.p (.fn fi_slices_Clone_int_int [] [])))) [(.t 8)])
  (.op (some 7) none (.q (.mov (.t 9)))
  .nil))) [1, 2, 7] [])
 (.seq (.region none (.op (some 10) none (.q (.mov (.t 7)))
  (.op (some 11) none (.q (.mov (.t 1)))
  (.op (some 12) none (.q (.mov (.t 2)))
  (.op (some 13) none (.q (.iaddr 1 (.t 10) (.t 11)))
  (.op none none (.s (.store 1 (.t 13) (.t 12)))
  .nil))))) [7] [])
 (.seq (.region none (.op (some 14) none (.q (.mov (.t 7)))
  (.op (some 6) none (.q (.mov (.t 14)))
  .nil)) [6] [])
 .ret))))
theorem is_move_sided : compC Try.prog (Try.f38.body.getD .skip) = some a_move_sided.erase := by kernel_rfl
theorem ok_move_sided : a_move_sided.ok 15 = true := by kernel_rfl
theorem rv_move_sided : compRV Try.prog Try.f38.results.toList = some [.tmp 6] := by kernel_rfl
theorem pure_move_sided {ds : List DV} {r : DV} (hn : ds.length ≤ 15) (h : ∀ (G : AM.Ground), G.P = Try.prog → G.nt = 15 → T G Fence.wide 0 a_move_sided (AM.Ends [.tmp 6] r) { env := initE 0 ds, σ := [] }) : PureC Try.prog fi_move_sided ds r :=
  pureC_of Try.call38 Try.func38 (by rfl) is_move_sided ok_move_sided rv_move_sided hn h

theorem mut_move_sided {vs : List AV} {σ σ' : Sto} {r : AV} {fr : List Nat} (hn : vs.length ≤ 15) (h : ∀ (G : AM.Ground) (ex : List AV), G.P = Try.prog → G.nt = 15 → (∀ d ∈ fr, ex.all (fun v => !v.has d) = true) → T G Fence.wide 0 a_move_sided (EndsM [.tmp 6] r σ' ex) { env := initV 0 vs, σ := σ, ex := ex }) : MutC Try.prog fi_move_sided vs σ r σ' fr :=
  mutC_of Try.call38 Try.func38 (by rfl) is_move_sided ok_move_sided rv_move_sided hn h

/-! fuller/move.Slice$1: params 1 + 3, slots 11; [x, , , , x, , , , , , ] -/
def a_move_Slice_1 : ACode := (.seq (.region none (.op (some 5) none (.q (.mov (.c (.one (.p (.int .i64 0))))))
  .nil) [0, 1, 2, 3] [])
 (.seq (.region none (.op (some 6) none (.q (.load 2 true (.t 1)))
  (.op (some 7) none (.q (.mov (.t 0)))
  (.op (some 8) none (.q (.load 1 false (.t 2)))
  (.op (some 9) none (.q (.load 1 false (.t 3)))
  (.op (some 10) none (.call (.c (.one (.p (.fn fi_move_shifted [] [])))) [(.t 6), (.t 7), (.t 8), (.t 9)])
  (.op (some 5) none (.q (.mov (.t 10)))
  .nil)))))) [5] [])
 .ret))
theorem is_move_Slice_1 : compC Try.prog (Try.f39.body.getD .skip) = some a_move_Slice_1.erase := by kernel_rfl
theorem ok_move_Slice_1 : a_move_Slice_1.ok 11 = true := by kernel_rfl
theorem rv_move_Slice_1 : compRV Try.prog Try.f39.results.toList = some [.tmp 5] := by kernel_rfl
theorem pure_move_Slice_1 {ds : List DV} {r : DV} (hn : ds.length ≤ 11) (h : ∀ (G : AM.Ground), G.P = Try.prog → G.nt = 11 → T G Fence.wide 0 a_move_Slice_1 (AM.Ends [.tmp 5] r) { env := initE 0 ds, σ := [] }) : PureC Try.prog fi_move_Slice_1 ds r :=
  pureC_of Try.call39 Try.func39 (by rfl) is_move_Slice_1 ok_move_Slice_1 rv_move_Slice_1 hn h

theorem mut_move_Slice_1 {vs : List AV} {σ σ' : Sto} {r : AV} {fr : List Nat} (hn : vs.length ≤ 11) (h : ∀ (G : AM.Ground) (ex : List AV), G.P = Try.prog → G.nt = 11 → (∀ d ∈ fr, ex.all (fun v => !v.has d) = true) → T G Fence.wide 0 a_move_Slice_1 (EndsM [.tmp 5] r σ' ex) { env := initV 0 vs, σ := σ, ex := ex }) : MutC Try.prog fi_move_Slice_1 vs σ r σ' fr :=
  mutC_of Try.call39 Try.func39 (by rfl) is_move_Slice_1 ok_move_Slice_1 rv_move_Slice_1 hn h

/-! fuller/move.shifted: params 4 + 0, slots 27; [t, x, axis, more, t, x, axis, more, , n, _, , , , , , , , , , , , , , , , ] -/
def a_move_shifted : ACode := (.seq (.region none (.op (some 4) none (.n (.box 2 (.t 0)))
  (.op (some 8) none (.q (.mov (.c (.one (.p (.int .i64 0))))))
  .nil)) [1, 2, 3, 4] [4])
 (.seq (.region none (.op (some 11) none (.q (.mov (.t 1)))
  (.op (some 12) none (.call (.c (.one (.p (.fn fi_slices_Clone_int_int [] [])))) [(.t 11)])
  (.op (some 1) none (.q (.mov (.t 12)))
  .nil))) [1, 2, 3, 4] [4])
 (.seq (.region none (.op (some 13) none (.q (.mov (.t 1)))
  (.op (some 14) none (.q (.mov (.t 2)))
  (.op (some 15) none (.q (.iaddr 1 (.t 13) (.t 14)))
  (.op (some 16) none (.q (.load 1 false (.t 15)))
  (.op (some 17) none (.q (.mov (.t 3)))
  (.op (some 18) none (.q (.bin .add (.t 16) (.t 17)))
  (.op (some 19) none (.q (.iaddr 1 (.t 13) (.t 14)))
  (.op none none (.s (.store 1 (.t 19) (.t 18)))
  .nil)))))))) [1, 4] [4])
 (.seq (.region none (.op (some 21) none (.q (.load 2 true (.t 4)))
  (.op (some 22) none (.q (.mov (.t 1)))
  (.op (some 23) none (.call (.c (.one (.p (.fn fi_tensor_At [] [])))) [(.t 21), (.t 22)])
  (.op (some 20) none (.q (.mov (.t 23)))
  (.op (some 24) none (.q (.extr (.t 20) 0))
  (.op (some 25) none (.q (.extr (.t 20) 1))
  (.op (some 9) none (.q (.mov (.t 24)))
  (.op (some 10) none (.q (.mov (.t 25)))
  .nil)))))))) [9] [4])
 (.seq (.region none (.op (some 26) none (.q (.mov (.t 9)))
  (.op (some 8) none (.q (.mov (.t 26)))
  .nil)) [8] [4])
 .ret)))))
theorem is_move_shifted : compC Try.prog (Try.f40.body.getD .skip) = some a_move_shifted.erase := by kernel_rfl
theorem ok_move_shifted : a_move_shifted.ok 27 = true := by kernel_rfl
theorem rv_move_shifted : compRV Try.prog Try.f40.results.toList = some [.tmp 8] := by kernel_rfl
theorem pure_move_shifted {ds : List DV} {r : DV} (hn : ds.length ≤ 27) (h : ∀ (G : AM.Ground), G.P = Try.prog → G.nt = 27 → T G Fence.wide 0 a_move_shifted (AM.Ends [.tmp 8] r) { env := initE 0 ds, σ := [] }) : PureC Try.prog fi_move_shifted ds r :=
  pureC_of Try.call40 Try.func40 (by rfl) is_move_shifted ok_move_shifted rv_move_shifted hn h

theorem mut_move_shifted {vs : List AV} {σ σ' : Sto} {r : AV} {fr : List Nat} (hn : vs.length ≤ 27) (h : ∀ (G : AM.Ground) (ex : List AV), G.P = Try.prog → G.nt = 27 → (∀ d ∈ fr, ex.all (fun v => !v.has d) = true) → T G Fence.wide 0 a_move_shifted (EndsM [.tmp 8] r σ' ex) { env := initV 0 vs, σ := σ, ex := ex }) : MutC Try.prog fi_move_shifted vs σ r σ' fr :=
  mutC_of Try.call40 Try.func40 (by rfl) is_move_shifted ok_move_shifted rv_move_shifted hn h

/-! fuller/fullerref05.moved: params 4 + 0, slots 52; [t, s, axis, more, t, s, axis, more, , out, i, x, _, n, e, , , , , , , , , , , , , , , ] -/
def a_fullerref05_moved : ACode := (.seq (.region none (.op (some 4) none (.n (.box 2 (.t 0)))
  (.op (some 8) none (.n (.alloc [.nils, .nils]))
  .nil)) [1, 2, 3, 4, 8] [4, 8])
 (.seq (.region none (.op (some 15) none (.q (.mov (.t 1)))
  (.op (some 16) none (.q (.build [.nils, .nils] [(0, 1, (.t 15))]))
  (.op (some 9) none (.n (.alloc [.nils, .nils]))
  (.op none none (.s (.store 2 (.t 9) (.t 16)))
  .nil)))) [1, 2, 3, 4, 8, 9] [4, 8, 9])
 (.seq (.seq (.region none (.op (some 10) none (.q (.mov (.c (.one (.p (.int .i64 0))))))
  .nil) [1, 2, 3, 4, 8, 9, 10] [4, 8, 9])
 (.block 0 (.loop (.seq (.seq (.region none (.op (some 17) none (.q (.mov (.t 10)))
  (.op (some 18) none (.q (.mov (.t 1)))
  (.op (some 19) none (.call (.c (.one (.p (.fn fi_fullerref02_Size [] [])))) [(.t 18)])
  (.op (some 20) none (.q (.bin .lss (.t 17) (.t 19)))
  .nil)))) [1, 2, 3, 4, 8, 9, 10, 20] [4, 8, 9])
 (.cond (.t 20) .skip
 (.exit 0)))
 (.seq (.block 1 (.seq (.region none (.op (some 24) none (.q (.mov (.t 1)))
  (.op (some 25) none (.q (.mov (.t 10)))
  (.op (some 26) none (.call (.c (.one (.p (.fn fi_fullerref02_Index [] [])))) [(.t 24), (.t 25)])
  (.op (some 23) none (.q (.mov (.t 26)))
  (.op (some 27) none (.q (.extr (.t 23) 0))
  (.op (some 28) none (.q (.extr (.t 23) 1))
  (.op (some 11) none (.q (.mov (.t 27)))
  (.op (some 12) none (.q (.mov (.t 28)))
  .nil)))))))) [1, 2, 3, 4, 8, 9, 10, 11] [4, 8, 9])
 (.seq (.region (some [[], [0], [0, 1], [0, 1, 2], [0, 1, 2, 3], [0, 1, 2], [0, 1, 2], [0, 1, 2, 3, 4, 5, 6], [0, 1, 2], [0], [], [], [], [12], [13], []]) (.op (some 30) none (.q (.load 2 true (.t 4)))
  (.op (some 31) none (.q (.mov (.t 11)))
  (.op (some 32) none (.q (.mov (.t 2)))
  (.op (some 33) none (.q (.mov (.t 11)))
  (.op (some 34) none (.q (.mov (.t 2)))
  (.op (some 35) none (.q (.iaddr 1 (.t 33) (.t 34)))
  (.op (some 36) none (.q (.load 1 false (.t 35)))
  (.op (some 37) none (.q (.mov (.t 3)))
  (.op (some 38) none (.q (.bin .add (.t 36) (.t 37)))
  (.op (some 39) none (.call (.c (.one (.p (.fn fi_fullerref05_with [] [])))) [(.t 31), (.t 32), (.t 38)])
  (.op (some 40) none (.call (.c (.one (.p (.fn fi_fullerref03_At [] [])))) [(.t 30), (.t 39)])
  (.op (some 29) none (.q (.mov (.t 40)))
  (.op (some 41) none (.q (.extr (.t 29) 0))
  (.op (some 42) none (.q (.extr (.t 29) 1))
  (.op (some 13) none (.q (.mov (.t 41)))
  (.op (some 14) none (.q (.mov (.t 42)))
  .nil)))))))))))))))) [1, 2, 3, 4, 8, 9, 10, 13, 14] [4, 8, 9])
 (.seq (.seq (.region none (.op (some 43) none (.q (.mov (.t 14)))
  (.op (some 44) none (.q (.bin .neq (.t 43) (.c (.one (.p (.int .i64 0))))))
  .nil)) [1, 2, 3, 4, 8, 9, 10, 13, 44] [4, 8, 9])
 (.cond (.t 44) (.region none (.op (some 13) none (.q (.mov (.c (.one (.p (.int .i64 0))))))
  .nil) [1, 2, 3, 4, 8, 9, 10, 13] [4, 8, 9])
 .skip))
 (.region none (.op (some 45) none (.q (.faddr 1 (.t 9)))
  (.op (some 46) none (.q (.load 1 false (.t 45)))
  (.op (some 47) none (.q (.mov (.t 13)))
  (.op (some 48) none (.n (.lit 1 1 [(.int .i64 0)] [(0, (.t 47))]))
  (.op (some 49) none (.s (.app 1 8 (.t 46) (.t 48)))
  (.op (some 50) none (.q (.faddr 1 (.t 9)))
  (.op none none (.s (.store 1 (.t 50) (.t 49)))
  .nil))))))) [1, 2, 3, 4, 8, 9, 10] [4, 8, 9, 48, 49])))))
 (.region none (.op (some 21) none (.q (.mov (.t 10)))
  (.op (some 22) none (.q (.bin .add (.t 21) (.c (.one (.p (.int .i64 1))))))
  (.op (some 10) none (.q (.mov (.t 22)))
  .nil))) [1, 2, 3, 4, 8, 9, 10] [4, 8, 9, 48, 49]))))))
 (.seq (.region none (.op (some 51) none (.q (.load 2 true (.t 9)))
  (.op none none (.s (.store 2 (.t 8) (.t 51)))
  .nil)) [8] [4, 8, 9, 48, 49])
 .ret))))
theorem is_fullerref05_moved : compC Try.prog (Try.f41.body.getD .skip) = some a_fullerref05_moved.erase := by kernel_rfl
theorem ok_fullerref05_moved : a_fullerref05_moved.ok 52 = true := by kernel_rfl
theorem rv_fullerref05_moved : compRV Try.prog Try.f41.results.toList = some [.cell 2 true 8] := by kernel_rfl
theorem pure_fullerref05_moved {ds : List DV} {r : DV} (hn : ds.length ≤ 52) (h : ∀ (G : AM.Ground), G.P = Try.prog → G.nt = 52 → T G Fence.wide 0 a_fullerref05_moved (AM.Ends [.cell 2 true 8] r) { env := initE 0 ds, σ := [] }) : PureC Try.prog fi_fullerref05_moved ds r :=
  pureC_of Try.call41 Try.func41 (by rfl) is_fullerref05_moved ok_fullerref05_moved rv_fullerref05_moved hn h

theorem mut_fullerref05_moved {vs : List AV} {σ σ' : Sto} {r : AV} {fr : List Nat} (hn : vs.length ≤ 52) (h : ∀ (G : AM.Ground) (ex : List AV), G.P = Try.prog → G.nt = 52 → (∀ d ∈ fr, ex.all (fun v => !v.has d) = true) → T G Fence.wide 0 a_fullerref05_moved (EndsM [.cell 2 true 8] r σ' ex) { env := initV 0 vs, σ := σ, ex := ex }) : MutC Try.prog fi_fullerref05_moved vs σ r σ' fr :=
  mutC_of Try.call41 Try.func41 (by rfl) is_fullerref05_moved ok_fullerref05_moved rv_fullerref05_moved hn h

/-! fuller/fullerref05.with: params 3 + 0, slots 16; [l, at, n, l, at, n, , out, , , , , , , , ] -/
def a_fullerref05_with : ACode := (.seq (.region none (.op (some 6) none (.q (.mov (.c (.one .nils))))
  .nil) [0, 1, 2] [])
 (.seq (.region none (.op (some 8) none (.n (.lit 1 0 [(.int .i64 0)] []))
  (.op (some 9) none (.q (.mov (.t 0)))
  (.op (some 10) none (.s (.app 1 8 (.t 8) (.t 9)))
  (.op (some 7) none (.q (.mov (.t 10)))
  .nil)))) [1, 2, 7] [8, 10])
 (.seq (.region none (.op (some 11) none (.q (.mov (.t 7)))
  (.op (some 12) none (.q (.mov (.t 1)))
  (.op (some 13) none (.q (.mov (.t 2)))
  (.op (some 14) none (.q (.iaddr 1 (.t 11) (.t 12)))
  (.op none none (.s (.store 1 (.t 14) (.t 13)))
  .nil))))) [7] [8, 10])
 (.seq (.region none (.op (some 15) none (.q (.mov (.t 7)))
  (.op (some 6) none (.q (.mov (.t 15)))
  .nil)) [6] [8, 10])
 .ret))))
theorem is_fullerref05_with : compC Try.prog (Try.f42.body.getD .skip) = some a_fullerref05_with.erase := by kernel_rfl
theorem ok_fullerref05_with : a_fullerref05_with.ok 16 = true := by kernel_rfl
theorem rv_fullerref05_with : compRV Try.prog Try.f42.results.toList = some [.tmp 6] := by kernel_rfl
theorem pure_fullerref05_with {ds : List DV} {r : DV} (hn : ds.length ≤ 16) (h : ∀ (G : AM.Ground), G.P = Try.prog → G.nt = 16 → T G Fence.wide 0 a_fullerref05_with (AM.Ends [.tmp 6] r) { env := initE 0 ds, σ := [] }) : PureC Try.prog fi_fullerref05_with ds r :=
  pureC_of Try.call42 Try.func42 (by rfl) is_fullerref05_with ok_fullerref05_with rv_fullerref05_with hn h

theorem mut_fullerref05_with {vs : List AV} {σ σ' : Sto} {r : AV} {fr : List Nat} (hn : vs.length ≤ 16) (h : ∀ (G : AM.Ground) (ex : List AV), G.P = Try.prog → G.nt = 16 → (∀ d ∈ fr, ex.all (fun v => !v.has d) = true) → T G Fence.wide 0 a_fullerref05_with (EndsM [.tmp 6] r σ' ex) { env := initV 0 vs, σ := σ, ex := ex }) : MutC Try.prog fi_fullerref05_with vs σ r σ' fr :=
  mutC_of Try.call42 Try.func42 (by rfl) is_fullerref05_with ok_fullerref05_with rv_fullerref05_with hn h

/-! fuller/move.Pad$1: params 1 + 3, slots 12; [x, , , , x, , , , , , , ] -/
def a_move_Pad_1 : ACode := (.seq (.region none (.op (some 5) none (.q (.mov (.c (.one (.p (.int .i64 0))))))
  .nil) [0, 1, 2, 3] [])
 (.seq (.region none (.op (some 6) none (.q (.load 2 true (.t 1)))
  (.op (some 7) none (.q (.mov (.t 0)))
  (.op (some 8) none (.q (.load 1 false (.t 2)))
  (.op (some 9) none (.q (.load 1 false (.t 3)))
  (.op (some 10) none (.q (.un .neg (.t 9)))
  (.op (some 11) none (.call (.c (.one (.p (.fn fi_move_shifted [] [])))) [(.t 6), (.t 7), (.t 8), (.t 10)])
  (.op (some 5) none (.q (.mov (.t 11)))
  .nil))))))) [5] [])
 .ret))
theorem is_move_Pad_1 : compC Try.prog (Try.f43.body.getD .skip) = some a_move_Pad_1.erase := by kernel_rfl
theorem ok_move_Pad_1 : a_move_Pad_1.ok 12 = true := by kernel_rfl
theorem rv_move_Pad_1 : compRV Try.prog Try.f43.results.toList = some [.tmp 5] := by kernel_rfl
theorem pure_move_Pad_1 {ds : List DV} {r : DV} (hn : ds.length ≤ 12) (h : ∀ (G : AM.Ground), G.P = Try.prog → G.nt = 12 → T G Fence.wide 0 a_move_Pad_1 (AM.Ends [.tmp 5] r) { env := initE 0 ds, σ := [] }) : PureC Try.prog fi_move_Pad_1 ds r :=
  pureC_of Try.call43 Try.func43 (by rfl) is_move_Pad_1 ok_move_Pad_1 rv_move_Pad_1 hn h

theorem mut_move_Pad_1 {vs : List AV} {σ σ' : Sto} {r : AV} {fr : List Nat} (hn : vs.length ≤ 12) (h : ∀ (G : AM.Ground) (ex : List AV), G.P = Try.prog → G.nt = 12 → (∀ d ∈ fr, ex.all (fun v => !v.has d) = true) → T G Fence.wide 0 a_move_Pad_1 (EndsM [.tmp 5] r σ' ex) { env := initV 0 vs, σ := σ, ex := ex }) : MutC Try.prog fi_move_Pad_1 vs σ r σ' fr :=
  mutC_of Try.call43 Try.func43 (by rfl) is_move_Pad_1 ok_move_Pad_1 rv_move_Pad_1 hn h

/-! fuller/fullerref02.Check: params 1 + 0, slots 28; [s, s, , i, , , , , , , , , , , , , , , , , , , , , , , , ] -/
def a_fullerref02_Check : ACode := (.seq (.region none (.op (some 2) none (.q (.mov (.c (.one (.p (.bool false))))))
  .nil) [0] [])
 (.seq (.seq (.region none (.op (some 4) none (.q (.mov (.t 0)))
  (.op (some 5) none (.q (.len (.t 4)))
  (.op (some 6) none (.q (.bin .gtr (.t 5) (.c (.one (.p (.int .i64 3))))))
  .nil))) [0, 6] [])
 (.cond (.t 6) (.seq (.region none (.op (some 2) none (.q (.mov (.c (.one (.p (.bool false))))))
  .nil) [2] [])
 .ret)
 .skip))
 (.seq (.seq (.region none (.op (some 3) none (.q (.mov (.c (.one (.p (.int .i64 0))))))
  .nil) [0, 3] [])
 (.block 0 (.loop (.seq (.seq (.region none (.op (some 7) none (.q (.mov (.t 3)))
  (.op (some 8) none (.q (.mov (.t 0)))
  (.op (some 9) none (.q (.len (.t 8)))
  (.op (some 10) none (.q (.bin .lss (.t 7) (.t 9)))
  .nil)))) [0, 3, 10] [])
 (.cond (.t 10) .skip
 (.exit 0)))
 (.seq (.block 1 (.seq (.region none (.op (some 13) none (.q (.mov (.t 0)))
  (.op (some 14) none (.q (.mov (.t 3)))
  (.op (some 15) none (.q (.iaddr 1 (.t 13) (.t 14)))
  (.op (some 16) none (.q (.load 1 false (.t 15)))
  (.op (some 17) none (.q (.bin .lss (.t 16) (.c (.one (.p (.int .i64 1))))))
  (.op (some 18) none (.q (.mov (.t 17)))
  (.sc 24 18 false 23 none
  (.op (some 19) (some (18, false)) (.q (.mov (.t 0)))
  (.op (some 20) (some (18, false)) (.q (.mov (.t 3)))
  (.op (some 21) (some (18, false)) (.q (.iaddr 1 (.t 19) (.t 20)))
  (.op (some 22) (some (18, false)) (.q (.load 1 false (.t 21)))
  (.op (some 23) (some (18, false)) (.q (.bin .gtr (.t 22) (.c (.one (.p (.int .i64 16))))))
  .nil)))))
  .nil))))))) [0, 3, 24] [])
 (.cond (.t 24) (.seq (.region none (.op (some 2) none (.q (.mov (.c (.one (.p (.bool false))))))
  .nil) [2] [])
 .ret)
 .skip)))
 (.region none (.op (some 11) none (.q (.mov (.t 3)))
  (.op (some 12) none (.q (.bin .add (.t 11) (.c (.one (.p (.int .i64 1))))))
  (.op (some 3) none (.q (.mov (.t 12)))
  .nil))) [0, 3] []))))))
 (.seq (.region none (.op (some 25) none (.q (.mov (.t 0)))
  (.op (some 26) none (.call (.c (.one (.p (.fn fi_fullerref02_product [] [])))) [(.t 25)])
  (.op (some 27) none (.q (.bin .leq (.t 26) (.c (.one (.p (.int .i64 64))))))
  (.op (some 2) none (.q (.mov (.t 27)))
  .nil)))) [2] [])
 .ret))))
theorem is_fullerref02_Check : compC Try.prog (Try.f44.body.getD .skip) = some a_fullerref02_Check.erase := by kernel_rfl
theorem ok_fullerref02_Check : a_fullerref02_Check.ok 28 = true := by kernel_rfl
theorem rv_fullerref02_Check : compRV Try.prog Try.f44.results.toList = some [.tmp 2] := by kernel_rfl
theorem pure_fullerref02_Check {ds : List DV} {r : DV} (hn : ds.length ≤ 28) (h : ∀ (G : AM.Ground), G.P = Try.prog → G.nt = 28 → T G Fence.wide 0 a_fullerref02_Check (AM.Ends [.tmp 2] r) { env := initE 0 ds, σ := [] }) : PureC Try.prog fi_fullerref02_Check ds r :=
  pureC_of Try.call44 Try.func44 (by rfl) is_fullerref02_Check ok_fullerref02_Check rv_fullerref02_Check hn h

theorem mut_fullerref02_Check {vs : List AV} {σ σ' : Sto} {r : AV} {fr : List Nat} (hn : vs.length ≤ 28) (h : ∀ (G : AM.Ground) (ex : List AV), G.P = Try.prog → G.nt = 28 → (∀ d ∈ fr, ex.all (fun v => !v.has d) = true) → T G Fence.wide 0 a_fullerref02_Check (EndsM [.tmp 2] r σ' ex) { env := initV 0 vs, σ := σ, ex := ex }) : MutC Try.prog fi_fullerref02_Check vs σ r σ' fr :=
  mutC_of Try.call44 Try.func44 (by rfl) is_fullerref02_Check ok_fullerref02_Check rv_fullerref02_Check hn h

/-! slices.Equal[[]int,int]: params 2 + 0, slots 26; [s1, s2, s1, s2, , i, , , , , , , , , , , , , , , , , , , , ] -/
def a_slices_Equal_int_int : ACode := (.seq (.region none (.op (some 4) none (.q (.mov (.c (.one (.p (.bool false))))))
  .nil) [0, 1] [])
 (.seq (.seq (.region none (.op (some 6) none (.q (.mov (.t 0)))
  (.op (some 7) none (.q (.len (.t 6)))
  (.op (some 8) none (.q (.mov (.t 1)))
  (.op (some 9) none (.q (.len (.t 8)))
  (.op (some 10) none (.q (.bin .neq (.t 7) (.t 9)))
  .nil))))) [0, 1, 10] [])
 (.cond (.t 10) (.seq (.region none (.op (some 4) none (.q (.mov (.c (.one (.p (.bool false))))))
  .nil) [4] [])
 .ret)
 .skip))
 (.seq (.seq (.region none (.op (some 11) none (.q (.mov (.t 0)))
  (.op (some 12) none (.q (.len (.t 11)))
  (.op (some 13) none (.q (.mov (.c (.one (.p (.int .i64 0))))))
  .nil))) [0, 1, 12, 13] [])
 (.block 0 (.loop (.seq (.region none (.op (some 14) none (.q (.bin .lss (.t 13) (.t 12)))
  .nil) [0, 1, 12, 13, 14] [])
 (.seq (.cond (.t 14) .skip
 (.exit 0))
 (.seq (.block 1 (.seq (.region none (.op (some 15) none (.q (.mov (.t 13)))
  (.op (some 5) none (.q (.mov (.t 15)))
  .nil)) [0, 1, 5, 12, 13] [])
 (.seq (.region (some [[], [0], [], [], [0, 1, 2, 3], [0, 1, 2, 3, 4], [0, 1, 2, 3], [0, 1, 2, 3], []]) (.op (some 16) none (.q (.mov (.t 0)))
  (.op (some 17) none (.q (.mov (.t 5)))
  (.op (some 18) none (.q (.iaddr 1 (.t 16) (.t 17)))
  (.op (some 19) none (.q (.load 1 false (.t 18)))
  (.op (some 20) none (.q (.mov (.t 1)))
  (.op (some 21) none (.q (.mov (.t 5)))
  (.op (some 22) none (.q (.iaddr 1 (.t 20) (.t 21)))
  (.op (some 23) none (.q (.load 1 false (.t 22)))
  (.op (some 24) none (.q (.bin .neq (.t 19) (.t 23)))
  .nil))))))))) [0, 1, 12, 13, 24] [])
 (.cond (.t 24) (.seq (.region none (.op (some 4) none (.q (.mov (.c (.one (.p (.bool false))))))
  .nil) [4] [])
 .ret)
 .skip))))
 (.region none (.op (some 25) none (.q (.bin .add (.t 13) (.c (.one (.p (.int .i64 1))))))
  (.op (some 13) none (.q (.mov (.t 25)))
  .nil)) [0, 1, 12, 13] [])))))))
 (.seq (.region none (.op (some 4) none (.q (.mov (.c (.one (.p (.bool true))))))
  .nil) [4] [])
 .ret))))
theorem is_slices_Equal_int_int : compC Try.prog (Try.f45.body.getD .skip) = some a_slices_Equal_int_int.erase := by kernel_rfl
theorem ok_slices_Equal_int_int : a_slices_Equal_int_int.ok 26 = true := by kernel_rfl
theorem rv_slices_Equal_int_int : compRV Try.prog Try.f45.results.toList = some [.tmp 4] := by kernel_rfl
theorem pure_slices_Equal_int_int {ds : List DV} {r : DV} (hn : ds.length ≤ 26) (h : ∀ (G : AM.Ground), G.P = Try.prog → G.nt = 26 → T G Fence.wide 0 a_slices_Equal_int_int (AM.Ends [.tmp 4] r) { env := initE 0 ds, σ := [] }) : PureC Try.prog fi_slices_Equal_int_int ds r :=
  pureC_of Try.call45 Try.func45 (by rfl) is_slices_Equal_int_int ok_slices_Equal_int_int rv_slices_Equal_int_int hn h

theorem mut_slices_Equal_int_int {vs : List AV} {σ σ' : Sto} {r : AV} {fr : List Nat} (hn : vs.length ≤ 26) (h : ∀ (G : AM.Ground) (ex : List AV), G.P = Try.prog → G.nt = 26 → (∀ d ∈ fr, ex.all (fun v => !v.has d) = true) → T G Fence.wide 0 a_slices_Equal_int_int (EndsM [.tmp 4] r σ' ex) { env := initV 0 vs, σ := σ, ex := ex }) : MutC Try.prog fi_slices_Equal_int_int vs σ r σ' fr :=
  mutC_of Try.call45 Try.func45 (by rfl) is_slices_Equal_int_int ok_slices_Equal_int_int rv_slices_Equal_int_int hn h

/-! fuller/move.Join$1: params 1 + 4, slots 23; [x, , , , , x, , , , , , , , , , , , , , , , , ] -/
def a_move_Join_1 : ACode := (.seq (.region none (.op (some 6) none (.q (.mov (.c (.one (.p (.int .i64 0))))))
  .nil) [0, 1, 2, 3, 4] [])
 (.seq (.seq (.region (some [[], [0], [], [], [0, 1, 2, 3], []]) (.op (some 7) none (.q (.mov (.t 0)))
  (.op (some 8) none (.q (.load 1 false (.t 1)))
  (.op (some 9) none (.q (.iaddr 1 (.t 7) (.t 8)))
  (.op (some 10) none (.q (.load 1 false (.t 9)))
  (.op (some 11) none (.q (.load 1 false (.t 2)))
  (.op (some 12) none (.q (.bin .lss (.t 10) (.t 11)))
  .nil)))))) [0, 1, 2, 3, 4, 12] [])
 (.cond (.t 12) (.seq (.region none (.op (some 13) none (.q (.load 2 true (.t 3)))
  (.op (some 14) none (.q (.mov (.t 0)))
  (.op (some 15) none (.q (.load 1 false (.t 1)))
  (.op (some 16) none (.call (.c (.one (.p (.fn fi_move_shifted [] [])))) [(.t 13), (.t 14), (.t 15), (.c (.one (.p (.int .i64 0))))])
  (.op (some 6) none (.q (.mov (.t 16)))
  .nil))))) [6] [])
 .ret)
 .skip))
 (.seq (.region none (.op (some 17) none (.q (.load 2 true (.t 4)))
  (.op (some 18) none (.q (.mov (.t 0)))
  (.op (some 19) none (.q (.load 1 false (.t 1)))
  (.op (some 20) none (.q (.load 1 false (.t 2)))
  (.op (some 21) none (.q (.un .neg (.t 20)))
  (.op (some 22) none (.call (.c (.one (.p (.fn fi_move_shifted [] [])))) [(.t 17), (.t 18), (.t 19), (.t 21)])
  (.op (some 6) none (.q (.mov (.t 22)))
  .nil))))))) [6] [])
 .ret)))
theorem is_move_Join_1 : compC Try.prog (Try.f46.body.getD .skip) = some a_move_Join_1.erase := by kernel_rfl
theorem ok_move_Join_1 : a_move_Join_1.ok 23 = true := by kernel_rfl
theorem rv_move_Join_1 : compRV Try.prog Try.f46.results.toList = some [.tmp 6] := by kernel_rfl
theorem pure_move_Join_1 {ds : List DV} {r : DV} (hn : ds.length ≤ 23) (h : ∀ (G : AM.Ground), G.P = Try.prog → G.nt = 23 → T G Fence.wide 0 a_move_Join_1 (AM.Ends [.tmp 6] r) { env := initE 0 ds, σ := [] }) : PureC Try.prog fi_move_Join_1 ds r :=
  pureC_of Try.call46 Try.func46 (by rfl) is_move_Join_1 ok_move_Join_1 rv_move_Join_1 hn h

theorem mut_move_Join_1 {vs : List AV} {σ σ' : Sto} {r : AV} {fr : List Nat} (hn : vs.length ≤ 23) (h : ∀ (G : AM.Ground) (ex : List AV), G.P = Try.prog → G.nt = 23 → (∀ d ∈ fr, ex.all (fun v => !v.has d) = true) → T G Fence.wide 0 a_move_Join_1 (EndsM [.tmp 6] r σ' ex) { env := initV 0 vs, σ := σ, ex := ex }) : MutC Try.prog fi_move_Join_1 vs σ r σ' fr :=
  mutC_of Try.call46 Try.func46 (by rfl) is_move_Join_1 ok_move_Join_1 rv_move_Join_1 hn h

/-! fuller/shape.Place: params 2 + 0, slots 49; [s, index, s, index, , , at, i, side, , , , , , , , , , , , , , , , , , , , , ] -/
def a_shape_Place : ACode := (.seq (.region none (.op (some 4) none (.q (.mov (.c (.one (.p (.int .i64 0))))))
  (.op (some 5) none (.q (.mov (.c (.one (.p (.int .i64 0))))))
  .nil)) [0, 1] [])
 (.seq (.seq (.region none (.op (some 9) none (.q (.mov (.t 0)))
  (.op (some 10) none (.call (.c (.one (.p (.fn fi_shape_Check [] [])))) [(.t 9)])
  (.op (some 11) none (.q (.un .not (.t 10)))
  (.op (some 12) none (.q (.mov (.t 11)))
  (.sc 18 12 false 17 none
  (.op (some 13) (some (12, false)) (.q (.mov (.t 1)))
  (.op (some 14) (some (12, false)) (.q (.len (.t 13)))
  (.op (some 15) (some (12, false)) (.q (.mov (.t 0)))
  (.op (some 16) (some (12, false)) (.q (.len (.t 15)))
  (.op (some 17) (some (12, false)) (.q (.bin .neq (.t 14) (.t 16)))
  .nil)))))
  .nil))))) [0, 1, 18] [])
 (.cond (.t 18) (.seq (.region none (.op (some 4) none (.q (.mov (.c (.one (.p (.int .i64 0))))))
  (.op (some 5) none (.q (.mov (.c (.one (.p (.int .i64 20))))))
  .nil)) [4, 5] [])
 .ret)
 .skip))
 (.seq (.region none (.op (some 6) none (.q (.mov (.c (.one (.p (.int .i64 0))))))
  .nil) [0, 1, 6] [])
 (.seq (.seq (.region none (.op (some 19) none (.q (.mov (.t 0)))
  (.op (some 20) none (.q (.len (.t 19)))
  (.op (some 21) none (.q (.mov (.c (.one (.p (.int .i64 0))))))
  .nil))) [1, 6, 19, 20, 21] [])
 (.block 0 (.loop (.seq (.region none (.op (some 22) none (.q (.bin .lss (.t 21) (.t 20)))
  .nil) [1, 6, 19, 20, 21, 22] [])
 (.seq (.cond (.t 22) .skip
 (.exit 0))
 (.seq (.block 1 (.seq (.region none (.op (some 23) none (.q (.mov (.t 21)))
  (.op (some 24) none (.q (.iaddr 1 (.t 19) (.t 21)))
  (.op (some 25) none (.q (.load 1 false (.t 24)))
  (.op (some 7) none (.q (.mov (.t 23)))
  (.op (some 8) none (.q (.mov (.t 25)))
  .nil))))) [1, 6, 7, 8, 19, 20, 21] [])
 (.seq (.seq (.region none (.op (some 26) none (.q (.mov (.t 1)))
  (.op (some 27) none (.q (.mov (.t 7)))
  (.op (some 28) none (.q (.iaddr 1 (.t 26) (.t 27)))
  (.op (some 29) none (.q (.load 1 false (.t 28)))
  (.op (some 30) none (.q (.bin .lss (.t 29) (.c (.one (.p (.int .i64 0))))))
  (.op (some 31) none (.q (.mov (.t 30)))
  (.sc 38 31 false 37 none
  (.op (some 32) (some (31, false)) (.q (.mov (.t 1)))
  (.op (some 33) (some (31, false)) (.q (.mov (.t 7)))
  (.op (some 34) (some (31, false)) (.q (.iaddr 1 (.t 32) (.t 33)))
  (.op (some 35) (some (31, false)) (.q (.load 1 false (.t 34)))
  (.op (some 36) (some (31, false)) (.q (.mov (.t 8)))
  (.op (some 37) (some (31, false)) (.q (.bin .geq (.t 35) (.t 36)))
  .nil))))))
  .nil))))))) [1, 6, 7, 8, 19, 20, 21, 38] [])
 (.cond (.t 38) (.seq (.region none (.op (some 4) none (.q (.mov (.c (.one (.p (.int .i64 0))))))
  (.op (some 5) none (.q (.mov (.c (.one (.p (.int .i64 20))))))
  .nil)) [4, 5] [])
 .ret)
 .skip))
 (.region none (.op (some 39) none (.q (.mov (.t 6)))
  (.op (some 40) none (.q (.mov (.t 8)))
  (.op (some 41) none (.q (.bin .mul (.t 39) (.t 40)))
  (.op (some 42) none (.q (.mov (.t 1)))
  (.op (some 43) none (.q (.mov (.t 7)))
  (.op (some 44) none (.q (.iaddr 1 (.t 42) (.t 43)))
  (.op (some 45) none (.q (.load 1 false (.t 44)))
  (.op (some 46) none (.q (.bin .add (.t 41) (.t 45)))
  (.op (some 6) none (.q (.mov (.t 46)))
  .nil))))))))) [1, 6, 19, 20, 21] []))))
 (.region none (.op (some 47) none (.q (.bin .add (.t 21) (.c (.one (.p (.int .i64 1))))))
  (.op (some 21) none (.q (.mov (.t 47)))
  .nil)) [1, 6, 19, 20, 21] [])))))))
 (.seq (.region none (.op (some 48) none (.q (.mov (.t 6)))
  (.op (some 4) none (.q (.mov (.t 48)))
  (.op (some 5) none (.q (.mov (.c (.one (.p (.int .i64 0))))))
  .nil))) [4, 5] [])
 .ret)))))
theorem is_shape_Place : compC Try.prog (Try.f47.body.getD .skip) = some a_shape_Place.erase := by kernel_rfl
theorem ok_shape_Place : a_shape_Place.ok 49 = true := by kernel_rfl
theorem rv_shape_Place : compRV Try.prog Try.f47.results.toList = some [.tmp 4, .tmp 5] := by kernel_rfl
theorem pure_shape_Place {ds : List DV} {r : DV} (hn : ds.length ≤ 49) (h : ∀ (G : AM.Ground), G.P = Try.prog → G.nt = 49 → T G Fence.wide 0 a_shape_Place (AM.Ends [.tmp 4, .tmp 5] r) { env := initE 0 ds, σ := [] }) : PureC Try.prog fi_shape_Place ds r :=
  pureC_of Try.call47 Try.func47 (by rfl) is_shape_Place ok_shape_Place rv_shape_Place hn h

theorem mut_shape_Place {vs : List AV} {σ σ' : Sto} {r : AV} {fr : List Nat} (hn : vs.length ≤ 49) (h : ∀ (G : AM.Ground) (ex : List AV), G.P = Try.prog → G.nt = 49 → (∀ d ∈ fr, ex.all (fun v => !v.has d) = true) → T G Fence.wide 0 a_shape_Place (EndsM [.tmp 4, .tmp 5] r σ' ex) { env := initV 0 vs, σ := σ, ex := ex }) : MutC Try.prog fi_shape_Place vs σ r σ' fr :=
  mutC_of Try.call47 Try.func47 (by rfl) is_shape_Place ok_shape_Place rv_shape_Place hn h

/-! fuller/fullerref02.product: params 1 + 0, slots 18; [s, s, , n, i, , , , , , , , , , , , , ] -/
def a_fullerref02_product : ACode := (.seq (.region none (.op (some 2) none (.q (.mov (.c (.one (.p (.int .i64 0))))))
  .nil) [0] [])
 (.seq (.region none (.op (some 3) none (.q (.mov (.c (.one (.p (.int .i64 1))))))
  .nil) [0, 3] [])
 (.seq (.seq (.region none (.op (some 4) none (.q (.mov (.c (.one (.p (.int .i64 0))))))
  .nil) [0, 3, 4] [])
 (.block 0 (.loop (.seq (.seq (.region none (.op (some 5) none (.q (.mov (.t 4)))
  (.op (some 6) none (.q (.mov (.t 0)))
  (.op (some 7) none (.q (.len (.t 6)))
  (.op (some 8) none (.q (.bin .lss (.t 5) (.t 7)))
  .nil)))) [0, 3, 4, 8] [])
 (.cond (.t 8) .skip
 (.exit 0)))
 (.seq (.block 1 (.region none (.op (some 11) none (.q (.mov (.t 3)))
  (.op (some 12) none (.q (.mov (.t 0)))
  (.op (some 13) none (.q (.mov (.t 4)))
  (.op (some 14) none (.q (.iaddr 1 (.t 12) (.t 13)))
  (.op (some 15) none (.q (.load 1 false (.t 14)))
  (.op (some 16) none (.q (.bin .mul (.t 11) (.t 15)))
  (.op (some 3) none (.q (.mov (.t 16)))
  .nil))))))) [0, 3, 4] []))
 (.region none (.op (some 9) none (.q (.mov (.t 4)))
  (.op (some 10) none (.q (.bin .add (.t 9) (.c (.one (.p (.int .i64 1))))))
  (.op (some 4) none (.q (.mov (.t 10)))
  .nil))) [0, 3, 4] []))))))
 (.seq (.region none (.op (some 17) none (.q (.mov (.t 3)))
  (.op (some 2) none (.q (.mov (.t 17)))
  .nil)) [2] [])
 .ret))))
theorem is_fullerref02_product : compC Try.prog (Try.f48.body.getD .skip) = some a_fullerref02_product.erase := by kernel_rfl
theorem ok_fullerref02_product : a_fullerref02_product.ok 18 = true := by kernel_rfl
theorem rv_fullerref02_product : compRV Try.prog Try.f48.results.toList = some [.tmp 2] := by kernel_rfl
theorem pure_fullerref02_product {ds : List DV} {r : DV} (hn : ds.length ≤ 18) (h : ∀ (G : AM.Ground), G.P = Try.prog → G.nt = 18 → T G Fence.wide 0 a_fullerref02_product (AM.Ends [.tmp 2] r) { env := initE 0 ds, σ := [] }) : PureC Try.prog fi_fullerref02_product ds r :=
  pureC_of Try.call48 Try.func48 (by rfl) is_fullerref02_product ok_fullerref02_product rv_fullerref02_product hn h

theorem mut_fullerref02_product {vs : List AV} {σ σ' : Sto} {r : AV} {fr : List Nat} (hn : vs.length ≤ 18) (h : ∀ (G : AM.Ground) (ex : List AV), G.P = Try.prog → G.nt = 18 → (∀ d ∈ fr, ex.all (fun v => !v.has d) = true) → T G Fence.wide 0 a_fullerref02_product (EndsM [.tmp 2] r σ' ex) { env := initV 0 vs, σ := σ, ex := ex }) : MutC Try.prog fi_fullerref02_product vs σ r σ' fr :=
  mutC_of Try.call48 Try.func48 (by rfl) is_fullerref02_product ok_fullerref02_product rv_fullerref02_product hn h

/-! fuller/move.indices: params 1 + 0, slots 4; [s, s, , ] -/
def a_move_indices : ACode := (.seq (.region none (.op (some 1) none (.n (.box 1 (.t 0)))
  (.op (some 2) none (.q (.mov (.c (.one (.p .nilF)))))
  .nil)) [1] [1])
 (.seq (.region none (.op (some 3) none (.q (.mkF fi_move_indices_1 [] [(.t 1)]))
  (.op (some 2) none (.q (.mov (.t 3)))
  .nil)) [2] [1])
 .ret))
theorem is_move_indices : compC Try.prog (Try.f49.body.getD .skip) = some a_move_indices.erase := by kernel_rfl
theorem ok_move_indices : a_move_indices.ok 4 = true := by kernel_rfl
theorem rv_move_indices : compRV Try.prog Try.f49.results.toList = some [.tmp 2] := by kernel_rfl
theorem pure_move_indices {ds : List DV} {r : DV} (hn : ds.length ≤ 4) (h : ∀ (G : AM.Ground), G.P = Try.prog → G.nt = 4 → T G Fence.wide 0 a_move_indices (AM.Ends [.tmp 2] r) { env := initE 0 ds, σ := [] }) : PureC Try.prog fi_move_indices ds r :=
  pureC_of Try.call49 Try.func49 (by rfl) is_move_indices ok_move_indices rv_move_indices hn h

theorem mut_move_indices {vs : List AV} {σ σ' : Sto} {r : AV} {fr : List Nat} (hn : vs.length ≤ 4) (h : ∀ (G : AM.Ground) (ex : List AV), G.P = Try.prog → G.nt = 4 → (∀ d ∈ fr, ex.all (fun v => !v.has d) = true) → T G Fence.wide 0 a_move_indices (EndsM [.tmp 2] r σ' ex) { env := initV 0 vs, σ := σ, ex := ex }) : MutC Try.prog fi_move_indices vs σ r σ' fr :=
  mutC_of Try.call49 Try.func49 (by rfl) is_move_indices ok_move_indices rv_move_indices hn h

/-! slices.Reverse[[]int,int]: params 1 + 0, slots 28; [s, s, i, j, , , , , , , , , , , , , , , , , , , , , , , , ] -/
def a_slices_Reverse_int_int : ACode := (.seq (.region none (.op (some 4) none (.q (.mov (.t 0)))
  (.op (some 5) none (.q (.len (.t 4)))
  (.op (some 6) none (.q (.bin .sub (.t 5) (.c (.one (.p (.int .i64 1))))))
  (.op (some 2) none (.q (.mov (.c (.one (.p (.int .i64 0))))))
  (.op (some 3) none (.q (.mov (.t 6)))
  .nil))))) [0, 2, 3] [])
 (.block 0 (.loop (.seq (.seq (.region none (.op (some 7) none (.q (.mov (.t 2)))
  (.op (some 8) none (.q (.mov (.t 3)))
  (.op (some 9) none (.q (.bin .lss (.t 7) (.t 8)))
  .nil))) [0, 2, 3, 9] [])
 (.cond (.t 9) .skip
 (.exit 0)))
 (.seq (.block 1 (.region (some [[], [0], [0, 1], [0, 1, 2], [0, 1, 2, 3], [0, 1, 2, 3, 4], [0, 1, 2, 3], [0, 1, 2, 3], [0, 1, 2, 3, 4, 5, 6, 7], [0, 1, 2, 3, 4, 5, 6, 7, 8], [0, 1, 2, 3, 4, 5, 6, 7], [0, 1, 2, 3, 4, 5, 6, 7], [2, 3], [2, 3], [], []]) (.op (some 14) none (.q (.mov (.t 0)))
  (.op (some 15) none (.q (.mov (.t 2)))
  (.op (some 16) none (.q (.mov (.t 0)))
  (.op (some 17) none (.q (.mov (.t 3)))
  (.op (some 18) none (.q (.mov (.t 0)))
  (.op (some 19) none (.q (.mov (.t 3)))
  (.op (some 20) none (.q (.iaddr 1 (.t 18) (.t 19)))
  (.op (some 21) none (.q (.load 1 false (.t 20)))
  (.op (some 22) none (.q (.mov (.t 0)))
  (.op (some 23) none (.q (.mov (.t 2)))
  (.op (some 24) none (.q (.iaddr 1 (.t 22) (.t 23)))
  (.op (some 25) none (.q (.load 1 false (.t 24)))
  (.op (some 26) none (.q (.iaddr 1 (.t 14) (.t 15)))
  (.op none none (.s (.store 1 (.t 26) (.t 21)))
  (.op (some 27) none (.q (.iaddr 1 (.t 16) (.t 17)))
  (.op none none (.s (.store 1 (.t 27) (.t 25)))
  .nil)))))))))))))))) [0, 2, 3] []))
 (.region none (.op (some 10) none (.q (.mov (.t 2)))
  (.op (some 11) none (.q (.bin .add (.t 10) (.c (.one (.p (.int .i64 1))))))
  (.op (some 12) none (.q (.mov (.t 3)))
  (.op (some 13) none (.q (.bin .sub (.t 12) (.c (.one (.p (.int .i64 1))))))
  (.op (some 2) none (.q (.mov (.t 11)))
  (.op (some 3) none (.q (.mov (.t 13)))
  .nil)))))) [0, 2, 3] []))))))
theorem is_slices_Reverse_int_int : compC Try.prog (Try.f50.body.getD .skip) = some a_slices_Reverse_int_int.erase := by kernel_rfl
theorem ok_slices_Reverse_int_int : a_slices_Reverse_int_int.ok 28 = true := by kernel_rfl
theorem rv_slices_Reverse_int_int : compRV Try.prog Try.f50.results.toList = some [] := by kernel_rfl
theorem pure_slices_Reverse_int_int {ds : List DV} {r : DV} (hn : ds.length ≤ 28) (h : ∀ (G : AM.Ground), G.P = Try.prog → G.nt = 28 → T G Fence.wide 0 a_slices_Reverse_int_int (AM.Ends [] r) { env := initE 0 ds, σ := [] }) : PureC Try.prog fi_slices_Reverse_int_int ds r :=
  pureC_of Try.call50 Try.func50 (by rfl) is_slices_Reverse_int_int ok_slices_Reverse_int_int rv_slices_Reverse_int_int hn h

theorem mut_slices_Reverse_int_int {vs : List AV} {σ σ' : Sto} {r : AV} {fr : List Nat} (hn : vs.length ≤ 28) (h : ∀ (G : AM.Ground) (ex : List AV), G.P = Try.prog → G.nt = 28 → (∀ d ∈ fr, ex.all (fun v => !v.has d) = true) → T G Fence.wide 0 a_slices_Reverse_int_int (EndsM [] r σ' ex) { env := initV 0 vs, σ := σ, ex := ex }) : MutC Try.prog fi_slices_Reverse_int_int vs σ r σ' fr :=
  mutC_of Try.call50 Try.func50 (by rfl) is_slices_Reverse_int_int ok_slices_Reverse_int_int rv_slices_Reverse_int_int hn h

/-! fuller/fullerref02.Place: params 2 + 0, slots 27; [s, index, s, index, , , n, i, x, _, , , , , , , , , , , , , , , , , ] -/
def a_fullerref02_Place : ACode := (.seq (.region none (.op (some 4) none (.q (.mov (.c (.one (.p (.int .i64 0))))))
  (.op (some 5) none (.q (.mov (.c (.one (.p (.int .i64 0))))))
  .nil)) [0, 1] [])
 (.seq (.region none (.op (some 10) none (.q (.mov (.t 0)))
  (.op (some 11) none (.call (.c (.one (.p (.fn fi_fullerref02_Size [] [])))) [(.t 10)])
  (.op (some 6) none (.q (.mov (.t 11)))
  .nil))) [0, 1, 6] [])
 (.seq (.seq (.region none (.op (some 7) none (.q (.mov (.c (.one (.p (.int .i64 0))))))
  .nil) [0, 1, 6, 7] [])
 (.block 0 (.loop (.seq (.seq (.region none (.op (some 12) none (.q (.mov (.t 7)))
  (.op (some 13) none (.q (.mov (.t 6)))
  (.op (some 14) none (.q (.bin .lss (.t 12) (.t 13)))
  .nil))) [0, 1, 6, 7, 14] [])
 (.cond (.t 14) .skip
 (.exit 0)))
 (.seq (.block 1 (.seq (.region none (.op (some 18) none (.q (.mov (.t 0)))
  (.op (some 19) none (.q (.mov (.t 7)))
  (.op (some 20) none (.call (.c (.one (.p (.fn fi_fullerref02_Index [] [])))) [(.t 18), (.t 19)])
  (.op (some 17) none (.q (.mov (.t 20)))
  (.op (some 21) none (.q (.extr (.t 17) 0))
  (.op (some 22) none (.q (.extr (.t 17) 1))
  (.op (some 8) none (.q (.mov (.t 21)))
  (.op (some 9) none (.q (.mov (.t 22)))
  .nil)))))))) [0, 1, 6, 7, 8] [])
 (.seq (.region none (.op (some 23) none (.q (.mov (.t 8)))
  (.op (some 24) none (.q (.mov (.t 1)))
  (.op (some 25) none (.call (.c (.one (.p (.fn fi_fullerref02_Same [] [])))) [(.t 23), (.t 24)])
  .nil))) [0, 1, 6, 7, 25] [])
 (.cond (.t 25) (.seq (.region none (.op (some 26) none (.q (.mov (.t 7)))
  (.op (some 4) none (.q (.mov (.t 26)))
  (.op (some 5) none (.q (.mov (.c (.one (.p (.int .i64 0))))))
  .nil))) [4, 5] [])
 .ret)
 .skip))))
 (.region none (.op (some 15) none (.q (.mov (.t 7)))
  (.op (some 16) none (.q (.bin .add (.t 15) (.c (.one (.p (.int .i64 1))))))
  (.op (some 7) none (.q (.mov (.t 16)))
  .nil))) [0, 1, 6, 7] []))))))
 (.seq (.region none (.op (some 4) none (.q (.mov (.c (.one (.p (.int .i64 0))))))
  (.op (some 5) none (.q (.mov (.c (.one (.p (.int .i64 20))))))
  .nil)) [4, 5] [])
 .ret))))
theorem is_fullerref02_Place : compC Try.prog (Try.f51.body.getD .skip) = some a_fullerref02_Place.erase := by kernel_rfl
theorem ok_fullerref02_Place : a_fullerref02_Place.ok 27 = true := by kernel_rfl
theorem rv_fullerref02_Place : compRV Try.prog Try.f51.results.toList = some [.tmp 4, .tmp 5] := by kernel_rfl
theorem pure_fullerref02_Place {ds : List DV} {r : DV} (hn : ds.length ≤ 27) (h : ∀ (G : AM.Ground), G.P = Try.prog → G.nt = 27 → T G Fence.wide 0 a_fullerref02_Place (AM.Ends [.tmp 4, .tmp 5] r) { env := initE 0 ds, σ := [] }) : PureC Try.prog fi_fullerref02_Place ds r :=
  pureC_of Try.call51 Try.func51 (by rfl) is_fullerref02_Place ok_fullerref02_Place rv_fullerref02_Place hn h

theorem mut_fullerref02_Place {vs : List AV} {σ σ' : Sto} {r : AV} {fr : List Nat} (hn : vs.length ≤ 27) (h : ∀ (G : AM.Ground) (ex : List AV), G.P = Try.prog → G.nt = 27 → (∀ d ∈ fr, ex.all (fun v => !v.has d) = true) → T G Fence.wide 0 a_fullerref02_Place (EndsM [.tmp 4, .tmp 5] r σ' ex) { env := initV 0 vs, σ := σ, ex := ex }) : MutC Try.prog fi_fullerref02_Place vs σ r σ' fr :=
  mutC_of Try.call51 Try.func51 (by rfl) is_fullerref02_Place ok_fullerref02_Place rv_fullerref02_Place hn h

/-! fuller/move.indices$1: params 1 + 1, slots 22; [yield, , yield, p, x, _, , , , , , , , , , , , , , , , ] -/
def a_move_indices_1 : ACode := (.seq (.region none (.op (some 6) none (.q (.load 1 false (.t 1)))
  (.op (some 7) none (.call (.c (.one (.p (.fn fi_shape_Size [] [])))) [(.t 6)])
  (.op (some 8) none (.q (.mov (.c (.one (.p (.int .i64 0))))))
  .nil))) [0, 1, 7, 8] [])
 (.block 0 (.loop (.seq (.region none (.op (some 9) none (.q (.bin .lss (.t 8) (.t 7)))
  .nil) [0, 1, 7, 8, 9] [])
 (.seq (.cond (.t 9) .skip
 (.exit 0))
 (.seq (.block 1 (.seq (.region none (.op (some 10) none (.q (.mov (.t 8)))
  (.op (some 3) none (.q (.mov (.t 10)))
  .nil)) [0, 1, 3, 7, 8] [])
 (.seq (.region none (.op (some 12) none (.q (.load 1 false (.t 1)))
  (.op (some 13) none (.q (.mov (.t 3)))
  (.op (some 14) none (.call (.c (.one (.p (.fn fi_shape_Index [] [])))) [(.t 12), (.t 13)])
  (.op (some 11) none (.q (.mov (.t 14)))
  (.op (some 15) none (.q (.extr (.t 11) 0))
  (.op (some 16) none (.q (.extr (.t 11) 1))
  (.op (some 4) none (.q (.mov (.t 15)))
  (.op (some 5) none (.q (.mov (.t 16)))
  .nil)))))))) [0, 1, 4, 7, 8] [])
 (.seq (.region none (.op (some 17) none (.q (.mov (.t 0)))
  (.op (some 18) none (.q (.mov (.t 4)))
  (.op (some 19) none (.call (.t 17) [(.t 18)])
  (.op (some 20) none (.q (.un .not (.t 19)))
  .nil)))) [0, 1, 7, 8, 20] [])
 (.cond (.t 20) .ret
 .skip)))))
 (.region none (.op (some 21) none (.q (.bin .add (.t 8) (.c (.one (.p (.int .i64 1))))))
  (.op (some 8) none (.q (.mov (.t 21)))
  .nil)) [0, 1, 7, 8] [])))))))
theorem is_move_indices_1 : compC Try.prog (Try.f52.body.getD .skip) = some a_move_indices_1.erase := by kernel_rfl
theorem ok_move_indices_1 : a_move_indices_1.ok 22 = true := by kernel_rfl
theorem rv_move_indices_1 : compRV Try.prog Try.f52.results.toList = some [] := by kernel_rfl
theorem pure_move_indices_1 {ds : List DV} {r : DV} (hn : ds.length ≤ 22) (h : ∀ (G : AM.Ground), G.P = Try.prog → G.nt = 22 → T G Fence.wide 0 a_move_indices_1 (AM.Ends [] r) { env := initE 0 ds, σ := [] }) : PureC Try.prog fi_move_indices_1 ds r :=
  pureC_of Try.call52 Try.func52 (by rfl) is_move_indices_1 ok_move_indices_1 rv_move_indices_1 hn h

theorem mut_move_indices_1 {vs : List AV} {σ σ' : Sto} {r : AV} {fr : List Nat} (hn : vs.length ≤ 22) (h : ∀ (G : AM.Ground) (ex : List AV), G.P = Try.prog → G.nt = 22 → (∀ d ∈ fr, ex.all (fun v => !v.has d) = true) → T G Fence.wide 0 a_move_indices_1 (EndsM [] r σ' ex) { env := initV 0 vs, σ := σ, ex := ex }) : MutC Try.prog fi_move_indices_1 vs σ r σ' fr :=
  mutC_of Try.call52 Try.func52 (by rfl) is_move_indices_1 ok_move_indices_1 rv_move_indices_1 hn h

/-! fuller/shape.Index: params 2 + 0, slots 47; [s, place, s, place, , , out, i, k, , , , , , , , , , , , , , , , , , , , , ] -/
def a_shape_Index : ACode := (.seq (.region none (.op (some 4) none (.q (.mov (.c (.one .nils))))
  (.op (some 5) none (.q (.mov (.c (.one (.p (.int .i64 0))))))
  .nil)) [0, 1] [])
 (.seq (.seq (.region none (.op (some 9) none (.q (.mov (.t 1)))
  (.op (some 10) none (.q (.bin .lss (.t 9) (.c (.one (.p (.int .i64 0))))))
  (.op (some 11) none (.q (.mov (.t 10)))
  (.sc 16 11 false 15 none
  (.op (some 12) (some (11, false)) (.q (.mov (.t 1)))
  (.op (some 13) (some (11, false)) (.q (.mov (.t 0)))
  (.op (some 14) (some (11, false)) (.call (.c (.one (.p (.fn fi_shape_Size [] [])))) [(.t 13)])
  (.op (some 15) (some (11, false)) (.q (.bin .geq (.t 12) (.t 14)))
  .nil))))
  .nil)))) [0, 1, 16] [])
 (.cond (.t 16) (.seq (.region none (.op (some 4) none (.q (.mov (.c (.one .nils))))
  (.op (some 5) none (.q (.mov (.c (.one (.p (.int .i64 20))))))
  .nil)) [4, 5] [])
 .ret)
 .skip))
 (.seq (.region none (.op (some 17) none (.q (.mov (.t 0)))
  (.op (some 18) none (.q (.len (.t 17)))
  (.op (some 19) none (.n (.mkS 1 8 [(.int .i64 0)] (.t 18) (.t 18)))
  (.op (some 6) none (.q (.mov (.t 19)))
  .nil)))) [0, 1, 6] [19])
 (.seq (.seq (.region none (.op (some 20) none (.q (.mov (.t 0)))
  (.op (some 21) none (.q (.len (.t 20)))
  (.op (some 22) none (.q (.mov (.c (.one (.p (.int .i64 0))))))
  .nil))) [0, 1, 6, 21, 22] [19])
 (.block 0 (.loop (.seq (.region none (.op (some 23) none (.q (.bin .lss (.t 22) (.t 21)))
  .nil) [0, 1, 6, 21, 22, 23] [19])
 (.seq (.cond (.t 23) .skip
 (.exit 0))
 (.seq (.block 1 (.seq (.region none (.op (some 24) none (.q (.mov (.t 22)))
  (.op (some 7) none (.q (.mov (.t 24)))
  .nil)) [0, 1, 6, 7, 21, 22] [19])
 (.seq (.region none (.op (some 25) none (.q (.mov (.t 0)))
  (.op (some 26) none (.q (.len (.t 25)))
  (.op (some 27) none (.q (.bin .sub (.t 26) (.c (.one (.p (.int .i64 1))))))
  (.op (some 28) none (.q (.mov (.t 7)))
  (.op (some 29) none (.q (.bin .sub (.t 27) (.t 28)))
  (.op (some 8) none (.q (.mov (.t 29)))
  .nil)))))) [0, 1, 6, 8, 21, 22] [19])
 (.region (some [[], [0], [0, 1], [0, 1, 2], [0, 1, 2, 3], [0, 1, 2], [0, 1, 2], [0, 1], [0, 1, 2, 3, 4, 5, 6, 7], [0, 1, 2, 3, 4, 5, 6, 7, 8], [0, 1, 2, 3, 4, 5, 6, 7, 8, 9], [0, 1, 2, 3, 4, 5, 6, 7, 8], [0, 1, 2, 3, 4, 5, 6, 7, 8], [0, 1, 2, 3, 4, 5, 6, 7], [8, 13], [8, 13], []]) (.op (some 30) none (.q (.mov (.t 6)))
  (.op (some 31) none (.q (.mov (.t 8)))
  (.op (some 32) none (.q (.mov (.t 1)))
  (.op (some 33) none (.q (.mov (.t 0)))
  (.op (some 34) none (.q (.mov (.t 8)))
  (.op (some 35) none (.q (.iaddr 1 (.t 33) (.t 34)))
  (.op (some 36) none (.q (.load 1 false (.t 35)))
  (.op (some 37) none (.q (.bin .rem (.t 32) (.t 36)))
  (.op (some 38) none (.q (.mov (.t 1)))
  (.op (some 39) none (.q (.mov (.t 0)))
  (.op (some 40) none (.q (.mov (.t 8)))
  (.op (some 41) none (.q (.iaddr 1 (.t 39) (.t 40)))
  (.op (some 42) none (.q (.load 1 false (.t 41)))
  (.op (some 43) none (.q (.bin .quo (.t 38) (.t 42)))
  (.op (some 44) none (.q (.iaddr 1 (.t 30) (.t 31)))
  (.op none none (.s (.store 1 (.t 44) (.t 37)))
  (.op (some 1) none (.q (.mov (.t 43)))
  .nil))))))))))))))))) [0, 1, 6, 21, 22] [19]))))
 (.region none (.op (some 45) none (.q (.bin .add (.t 22) (.c (.one (.p (.int .i64 1))))))
  (.op (some 22) none (.q (.mov (.t 45)))
  .nil)) [0, 1, 6, 21, 22] [19])))))))
 (.seq (.region none (.op (some 46) none (.q (.mov (.t 6)))
  (.op (some 4) none (.q (.mov (.t 46)))
  (.op (some 5) none (.q (.mov (.c (.one (.p (.int .i64 0))))))
  .nil))) [4, 5] [19])
 .ret)))))
theorem is_shape_Index : compC Try.prog (Try.f53.body.getD .skip) = some a_shape_Index.erase := by kernel_rfl
theorem ok_shape_Index : a_shape_Index.ok 47 = true := by kernel_rfl
theorem rv_shape_Index : compRV Try.prog Try.f53.results.toList = some [.tmp 4, .tmp 5] := by kernel_rfl
theorem pure_shape_Index {ds : List DV} {r : DV} (hn : ds.length ≤ 47) (h : ∀ (G : AM.Ground), G.P = Try.prog → G.nt = 47 → T G Fence.wide 0 a_shape_Index (AM.Ends [.tmp 4, .tmp 5] r) { env := initE 0 ds, σ := [] }) : PureC Try.prog fi_shape_Index ds r :=
  pureC_of Try.call53 Try.func53 (by rfl) is_shape_Index ok_shape_Index rv_shape_Index hn h

theorem mut_shape_Index {vs : List AV} {σ σ' : Sto} {r : AV} {fr : List Nat} (hn : vs.length ≤ 47) (h : ∀ (G : AM.Ground) (ex : List AV), G.P = Try.prog → G.nt = 47 → (∀ d ∈ fr, ex.all (fun v => !v.has d) = true) → T G Fence.wide 0 a_shape_Index (EndsM [.tmp 4, .tmp 5] r σ' ex) { env := initV 0 vs, σ := σ, ex := ex }) : MutC Try.prog fi_shape_Index vs σ r σ' fr :=
  mutC_of Try.call53 Try.func53 (by rfl) is_shape_Index ok_shape_Index rv_shape_Index hn h

end Go.AM

