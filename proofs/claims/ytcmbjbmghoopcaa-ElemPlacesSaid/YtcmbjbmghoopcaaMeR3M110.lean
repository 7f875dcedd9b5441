import Derived.Test.YtcmbjbmghoopcaaMe5
import Derived.Test.YtcmbjbmghoopcaaProg
import Derived.KernelRfl
set_option linter.unusedVariables false
set_option linter.unusedSimpArgs false
namespace Go.AM
open Go Go.Proofs
set_option maxRecDepth 100000
abbrev fi_fullerlaw04_ElemPlaces : Nat := 11
def a_fullerlaw04_ElemPlaces : ACode := (.seq (.region none (.op (some 3) none (.n (.box 2 (.t 0)))
  (.op (some 4) none (.n (.box 2 (.t 1)))
  (.op (some 6) none (.q (.mov (.c (.one (.p (.bool false))))))
  .nil))) [2, 3, 4] [3, 4])
 (.seq (.region none (.op (some 17) none (.call (.c (.one (.p (.fn fi_fullerlaw04_awake [] [])))) [])
  (.op (some 7) none (.q (.mov (.t 17)))
  .nil)) [2, 3, 4, 7] [3, 4])
 (.seq (.seq (.region none (.op (some 18) none (.q (.load 2 true (.t 3)))
  (.op (some 19) none (.call (.c (.one (.p (.fn fi_fullerref03_Few [] [])))) [(.t 18)])
  (.op (some 20) none (.q (.un .not (.t 19)))
  (.op (some 21) none (.q (.mov (.t 20)))
  (.sc 25 21 false 24 none
  (.op (some 22) (some (21, false)) (.q (.load 2 true (.t 4)))
  (.op (some 23) (some (21, false)) (.call (.c (.one (.p (.fn fi_fullerref03_Few [] [])))) [(.t 22)])
  (.op (some 24) (some (21, false)) (.q (.un .not (.t 23)))
  .nil)))
  .nil))))) [2, 3, 4, 7, 25] [3, 4])
 (.cond (.t 25) (.seq (.region none (.op (some 26) none (.q (.mov (.t 7)))
  (.op (some 6) none (.q (.mov (.t 26)))
  .nil)) [6] [3, 4])
 .ret)
 .skip))
 (.seq (.region none (.op (some 28) none (.q (.load 2 true (.t 3)))
  (.op (some 29) none (.q (.load 2 true (.t 4)))
  (.op (some 30) none (.call (.c (.one (.p (.fn fi_elem_Two [] [])))) [(.c (.one (.p (.int .i64 12)))), (.t 28), (.t 29)])
  (.op (some 27) none (.q (.mov (.t 30)))
  (.op (some 31) none (.q (.extr (.t 27) 0))
  (.op (some 32) none (.q (.extr (.t 27) 1))
  (.op (some 8) none (.n (.alloc [.nils, .nils]))
  (.op none none (.s (.store 2 (.t 8) (.t 31)))
  (.op (some 9) none (.q (.mov (.t 32)))
  .nil))))))))) [2, 3, 4, 7, 8, 9] [3, 4, 8])
 (.seq (.seq (.region none (.op (some 33) none (.q (.mov (.t 9)))
  (.op (some 34) none (.q (.bin .neq (.t 33) (.c (.one (.p (.int .i64 0))))))
  .nil)) [2, 3, 4, 7, 8, 34] [3, 4, 8])
 (.cond (.t 34) (.seq (.region none (.op (some 35) none (.q (.mov (.t 7)))
  (.op (some 36) none (.q (.mov (.t 35)))
  (.sc 41 36 true 40 none
  (.op (some 37) (some (36, true)) (.q (.faddr 1 (.t 8)))
  (.op (some 38) (some (36, true)) (.q (.load 1 false (.t 37)))
  (.op (some 39) (some (36, true)) (.q (.len (.t 38)))
  (.op (some 40) (some (36, true)) (.q (.bin .eql (.t 39) (.c (.one (.p (.int .i64 0))))))
  .nil))))
  (.op (some 42) none (.q (.mov (.t 41)))
  (.sc 47 42 true 46 none
  (.op (some 43) (some (42, true)) (.q (.faddr 0 (.t 8)))
  (.op (some 44) (some (42, true)) (.q (.load 1 false (.t 43)))
  (.op (some 45) (some (42, true)) (.q (.len (.t 44)))
  (.op (some 46) (some (42, true)) (.q (.bin .eql (.t 45) (.c (.one (.p (.int .i64 0))))))
  .nil))))
  (.op (some 6) none (.q (.mov (.t 47)))
  .nil)))))) [6] [3, 4, 8])
 .ret)
 .skip))
 (.seq (.region none (.op (some 49) none (.q (.load 2 true (.t 3)))
  (.op (some 50) none (.q (.faddr 0 (.t 8)))
  (.op (some 51) none (.q (.load 1 false (.t 50)))
  (.op (some 52) none (.call (.c (.one (.p (.fn fi_tensor_Spread [] [])))) [(.t 49), (.t 51)])
  (.op (some 48) none (.q (.mov (.t 52)))
  (.op (some 53) none (.q (.extr (.t 48) 0))
  (.op (some 54) none (.q (.extr (.t 48) 1))
  (.op (some 10) none (.n (.alloc [.nils, .nils]))
  (.op none none (.s (.store 2 (.t 10) (.t 53)))
  (.op (some 11) none (.q (.mov (.t 54)))
  .nil)))))))))) [2, 4, 7, 8, 10, 11] [3, 4, 8, 10])
 (.seq (.region none (.op (some 56) none (.q (.load 2 true (.t 4)))
  (.op (some 57) none (.q (.faddr 0 (.t 8)))
  (.op (some 58) none (.q (.load 1 false (.t 57)))
  (.op (some 59) none (.call (.c (.one (.p (.fn fi_tensor_Spread [] [])))) [(.t 56), (.t 58)])
  (.op (some 55) none (.q (.mov (.t 59)))
  (.op (some 60) none (.q (.extr (.t 55) 0))
  (.op (some 61) none (.q (.extr (.t 55) 1))
  (.op (some 12) none (.n (.alloc [.nils, .nils]))
  (.op none none (.s (.store 2 (.t 12) (.t 60)))
  (.op (some 13) none (.q (.mov (.t 61)))
  .nil)))))))))) [2, 7, 8, 10, 11, 12, 13] [3, 4, 8, 10, 12])
 (.seq (.seq (.region none (.op (some 62) none (.q (.mov (.t 11)))
  (.op (some 63) none (.q (.bin .neq (.t 62) (.c (.one (.p (.int .i64 0))))))
  (.op (some 64) none (.q (.mov (.t 63)))
  (.sc 67 64 false 66 none
  (.op (some 65) (some (64, false)) (.q (.mov (.t 13)))
  (.op (some 66) (some (64, false)) (.q (.bin .neq (.t 65) (.c (.one (.p (.int .i64 0))))))
  .nil))
  (.op (some 68) none (.q (.mov (.t 67)))
  (.sc 73 68 false 72 none
  (.op (some 69) (some (68, false)) (.q (.faddr 1 (.t 8)))
  (.op (some 70) (some (68, false)) (.q (.load 1 false (.t 69)))
  (.op (some 71) (some (68, false)) (.q (.len (.t 70)))
  (.op (some 72) (some (68, false)) (.q (.bin .eql (.t 71) (.c (.one (.p (.int .i64 0))))))
  .nil))))
  (.op (some 74) none (.q (.mov (.t 73)))
  (.sc 82 74 false 81 none
  (.op (some 75) (some (74, false)) (.q (.faddr 1 (.t 10)))
  (.op (some 76) (some (74, false)) (.q (.load 1 false (.t 75)))
  (.op (some 77) (some (74, false)) (.q (.len (.t 76)))
  (.op (some 78) (some (74, false)) (.q (.faddr 1 (.t 8)))
  (.op (some 79) (some (74, false)) (.q (.load 1 false (.t 78)))
  (.op (some 80) (some (74, false)) (.q (.len (.t 79)))
  (.op (some 81) (some (74, false)) (.q (.bin .neq (.t 77) (.t 80)))
  .nil)))))))
  (.op (some 83) none (.q (.mov (.t 82)))
  (.sc 91 83 false 90 none
  (.op (some 84) (some (83, false)) (.q (.faddr 1 (.t 12)))
  (.op (some 85) (some (83, false)) (.q (.load 1 false (.t 84)))
  (.op (some 86) (some (83, false)) (.q (.len (.t 85)))
  (.op (some 87) (some (83, false)) (.q (.faddr 1 (.t 8)))
  (.op (some 88) (some (83, false)) (.q (.load 1 false (.t 87)))
  (.op (some 89) (some (83, false)) (.q (.len (.t 88)))
  (.op (some 90) (some (83, false)) (.q (.bin .neq (.t 86) (.t 89)))
  .nil)))))))
  .nil)))))))))) [2, 7, 8, 10, 12, 91] [3, 4, 8, 10, 12])
 (.cond (.t 91) (.seq (.region none (.op (some 6) none (.q (.mov (.c (.one (.p (.bool false))))))
  .nil) [6] [3, 4, 8, 10, 12])
 .ret)
 .skip))
 (.seq (.region none (.op (some 92) none (.q (.mov (.t 2)))
  (.op (some 93) none (.q (.conv .i64 (.t 92)))
  (.op (some 94) none (.q (.faddr 1 (.t 8)))
  (.op (some 95) none (.q (.load 1 false (.t 94)))
  (.op (some 96) none (.q (.len (.t 95)))
  (.op (some 97) none (.q (.bin .rem (.t 93) (.t 96)))
  (.op (some 14) none (.q (.mov (.t 97)))
  .nil))))))) [7, 8, 10, 12, 14] [3, 4, 8, 10, 12])
 (.seq (.region (some [[], [], [0, 1], [], [], [0, 1, 2, 3, 4], [0, 1, 2, 3, 4], [0, 1, 2, 3, 4, 5, 6], [0, 1, 2, 3, 4], [0, 1, 2, 3, 4], [], [], [], [12], [13], []]) (.op (some 99) none (.q (.faddr 1 (.t 10)))
  (.op (some 100) none (.q (.load 1 false (.t 99)))
  (.op (some 101) none (.q (.mov (.t 14)))
  (.op (some 102) none (.q (.iaddr 1 (.t 100) (.t 101)))
  (.op (some 103) none (.q (.load 1 false (.t 102)))
  (.op (some 104) none (.q (.faddr 1 (.t 12)))
  (.op (some 105) none (.q (.load 1 false (.t 104)))
  (.op (some 106) none (.q (.mov (.t 14)))
  (.op (some 107) none (.q (.iaddr 1 (.t 105) (.t 106)))
  (.op (some 108) none (.q (.load 1 false (.t 107)))
  (.op (some 109) none (.call (.c (.one (.p (.fn fi_fix_Mul [] [])))) [(.t 103), (.t 108)])
  (.op (some 98) none (.q (.mov (.t 109)))
  (.op (some 110) none (.q (.extr (.t 98) 0))
  (.op (some 111) none (.q (.extr (.t 98) 1))
  (.op (some 15) none (.q (.mov (.t 110)))
  (.op (some 16) none (.q (.mov (.t 111)))
  .nil)))))))))))))))) [7, 8, 14, 15, 16] [3, 4, 8, 10, 12])
 (.seq (.region none (.op (some 112) none (.q (.mov (.t 7)))
  (.op (some 113) none (.q (.mov (.t 112)))
  (.sc 116 113 true 115 none
  (.op (some 114) (some (113, true)) (.q (.mov (.t 16)))
  (.op (some 115) (some (113, true)) (.q (.bin .eql (.t 114) (.c (.one (.p (.int .i64 0))))))
  .nil))
  (.op (some 117) none (.q (.mov (.t 116)))
  (.sc 125 117 true 124 none
  (.op (some 118) (some (117, true)) (.q (.mov (.t 15)))
  (.op (some 119) (some (117, true)) (.q (.faddr 1 (.t 8)))
  (.op (some 120) (some (117, true)) (.q (.load 1 false (.t 119)))
  (.op (some 121) (some (117, true)) (.q (.mov (.t 14)))
  (.op (some 122) (some (117, true)) (.q (.iaddr 1 (.t 120) (.t 121)))
  (.op (some 123) (some (117, true)) (.q (.load 1 false (.t 122)))
  (.op (some 124) (some (117, true)) (.q (.bin .eql (.t 118) (.t 123)))
  .nil)))))))
  (.op (some 126) none (.q (.mov (.t 125)))
  (.sc 129 126 true 128 none
  (.op (some 127) (some (126, true)) (.q (.load 2 true (.t 8)))
  (.op (some 128) (some (126, true)) (.call (.c (.one (.p (.fn fi_tensor_Check [] [])))) [(.t 127)])
  .nil))
  (.op (some 6) none (.q (.mov (.t 129)))
  .nil)))))))) [6] [3, 4, 8, 10, 12])
 .ret)))))))))))
theorem is_fullerlaw04_ElemPlaces : compC Try.prog (Try.f11.body.getD .skip) = some a_fullerlaw04_ElemPlaces.erase := by kernel_rfl
theorem ok_fullerlaw04_ElemPlaces : a_fullerlaw04_ElemPlaces.ok 130 = true := by kernel_rfl
theorem rv_fullerlaw04_ElemPlaces : compRV Try.prog Try.f11.results.toList = some [.tmp 6] := by kernel_rfl
theorem pure_fullerlaw04_ElemPlaces {ds : List DV} {r : DV} (hn : ds.length ≤ 130) (h : ∀ (G : AM.Ground), G.P = Try.prog → G.nt = 130 → T G Fence.wide 0 a_fullerlaw04_ElemPlaces (AM.Ends [.tmp 6] r) { env := initE 0 ds, σ := [] }) : PureC Try.prog fi_fullerlaw04_ElemPlaces ds r :=
  pureC_of Try.call11 Try.func11 (by rfl) is_fullerlaw04_ElemPlaces ok_fullerlaw04_ElemPlaces rv_fullerlaw04_ElemPlaces hn h

end Go.AM

namespace Go.AM
open Go Go.Proofs Go.Proofs.Ytcmbjbmghoopcaa
set_option maxRecDepth 100000
set_option linter.unusedSimpArgs false
set_option linter.unusedVariables false

theorem wf_u8 {n : Int} (h : (Lit.int .u8 n).wf = true) : 0 ≤ n ∧ n < 256 := by
  simp only [Lit.wf, IntKind.has, IntKind.min, IntKind.max, IntKind.bits, IntKind.signed] at h
  simp at h
  omega

theorem arg_U {d : DV} (h : ArgOk Try.prog 5 d) : ∃ n : Int, d = .one (.int .u8 n) ∧ 0 ≤ n ∧ n < 256 := by
  have hu := Try.underlying5
  unfold ArgOk at h
  rw [hu] at h
  obtain ⟨v, rfl, h⟩ := h
  generalize hv : [v] = l at h
  cases h with
  | bool b ht => rw [hu] at ht; cases ht
  | int n ht hw => rw [hu] at ht; cases ht; cases hv; exact ⟨n, rfl, wf_u8 hw⟩
  | str s ht => rw [hu] at ht; cases ht
  | sl rows ht h => rw [hu] at ht; cases ht
  | st parts ht h => rw [hu] at ht; cases ht
end Go.AM

namespace Go.AM
open Go Go.Proofs
set_option maxRecDepth 100000
set_option maxHeartbeats 4000000
set_option linter.unusedSimpArgs false
set_option linter.unusedVariables false

theorem coll_bad {f : Nat → Int × Int} {n : Nat} (h : (coll f n 0 []).2 ≠ 0) : ∃ k, k < n ∧ (∀ j, j < k → (f j).2 = 0) ∧ (f k).2 ≠ 0 ∧ coll f n 0 [] = ([], (f k).2) := by
  rcases coll_cases f n with c | ⟨j, hj, c1, c2⟩
  · rw [coll_ok (fun p hp => by rw [Nat.zero_add]; exact c p hp)] at h; exact absurd rfl h
  · have := coll_err (f := f) (n := n) (a := 0) (acc := []) hj (fun i hi => by rw [Nat.zero_add]; exact c1 i hi) (by rw [Nat.zero_add]; exact c2)
    rw [Nat.zero_add] at this
    exact ⟨j, hj, c1, c2, this⟩
theorem eachF_bad {s : List Int} {h : Nat → Int × Int} (k : (eachF s h).2 ≠ 0) : ∃ p, p < (sizeS s).toNat ∧ (h p).2 ≠ 0 ∧ eachF s h = bad (h p).2 := by
  by_cases c : (coll h (sizeS s).toNat 0 []).2 = 0
  · unfold eachF at k; rw [if_pos c] at k; exact absurd rfl k
  · obtain ⟨p, hp, _, h2, h3⟩ := coll_bad c
    refine ⟨p, hp, h2, ?_⟩
    unfold eachF; rw [h3, if_neg h2]

/-- what the error is, if there is one -/
theorem two_bad {W : Int → Int → Int × Int} {s d t e : List Int} (h : (twoF W s d t e).2 ≠ 0) : twoF W s d t e = bad (twoF W s d t e).2 := by
  unfold twoF at h ⊢
  split
  · rename_i hc
    rw [if_pos hc] at h
    split
    · rename_i hr
      rw [if_pos hr] at h
      obtain ⟨p, _, _, hp⟩ := eachF_bad h
      rw [hp]; rfl
    · rfl
  · rfl

end Go.AM

namespace Go.AM
open Go Go.Proofs
set_option maxRecDepth 100000
set_option maxHeartbeats 4000000
set_option linter.unusedSimpArgs false
set_option linter.unusedVariables false

theorem p_ElemPlaces (s d t e : List Int) (a : Int) (hd : I64s d) (he : I64s e) (ha : 0 ≤ a ∧ a < 256) : PureC Try.prog fi_fullerlaw04_ElemPlaces [dT s d, dT t e, .one (.int .u8 a)] (dB true) := by
  refine pure_fullerlaw04_ElemPlaces (by simp) fun G hP hn => ?_
  unfold a_fullerlaw04_ElemPlaces
  cases f1 : fewT s d
  · repeat' (first | apply T_then | apply then_ret | apply then_exit | apply then_goto | apply rnd_exit | apply rnd_ret | apply rnd_goto | apply noGo_normal | apply noGo_ret | apply noGo_exit | apply jmp_normal | apply jmp_ret | apply jmp_exit | apply jmp_goto | apply inB_normal | apply inB_ret | apply inB_goto | apply inB_exit | refine inB_exit_ne rfl ?_ | ((first | apply T_srK fw | apply T_regK fw); · ((try simp only [TOps.flat, List.cons_append, List.nil_append]); repeat (first | apply X_g0 | apply X_g | apply S_keep | apply X_skip | apply X_skipN | refine X_call ?_ ⟨_, _, _, _, _, _, rfl, rfl, rfl, by rw [hP]; exact p_awake4⟩ ?_ | refine X_call ?_ ⟨_, _, _, _, _, _, rfl, rfl, rfl, by rw [hP]; exact p_ref03_Few _ _⟩ ?_ | apply X_q | apply X_st | apply X_n | apply X_s | apply SKs0 | apply SKs2 | apply SKs1 | refine ⟨⟨rfl, rfl⟩, ?_⟩ | refine ⟨⟨rfl, ?_⟩, ?_⟩ | refine ⟨?_, ?_⟩ | (· (try simp only [go_sem, seval, reduceIte, ↓reduceIte, Bool.not_eq_true, reduceCtorEq, beq_false, beq_true, hn, hP, f1]); first | done | rfl)))) | apply T_seq | apply T_block | refine T_scopeJ 0 rfl ?_ | apply T_scope | apply T_goto | apply T_ret | apply T_skip | apply T_exit | apply T_label | refine T_condT rfl ?_ | refine T_condF rfl ?_ | refine T_condD rfl (fun _ => ?_) (fun _ => ?_) | refine T_cond rfl (fun _ => ?_) (fun _ => ?_))
    exact ends_ret rfl rfl rfl rfl
  cases f2 : fewT t e
  · repeat' (first | apply T_then | apply then_ret | apply then_exit | apply then_goto | apply rnd_exit | apply rnd_ret | apply rnd_goto | apply noGo_normal | apply noGo_ret | apply noGo_exit | apply jmp_normal | apply jmp_ret | apply jmp_exit | apply jmp_goto | apply inB_normal | apply inB_ret | apply inB_goto | apply inB_exit | refine inB_exit_ne rfl ?_ | ((first | apply T_srK fw | apply T_regK fw); · ((try simp only [TOps.flat, List.cons_append, List.nil_append]); repeat (first | apply X_g0 | apply X_g | apply S_keep | apply X_skip | apply X_skipN | refine X_call ?_ ⟨_, _, _, _, _, _, rfl, rfl, rfl, by rw [hP]; exact p_awake4⟩ ?_ | refine X_call ?_ ⟨_, _, _, _, _, _, rfl, rfl, rfl, by rw [hP]; exact p_ref03_Few _ _⟩ ?_ | apply X_q | apply X_st | apply X_n | apply X_s | apply SKs0 | apply SKs2 | apply SKs1 | refine ⟨⟨rfl, rfl⟩, ?_⟩ | refine ⟨⟨rfl, ?_⟩, ?_⟩ | refine ⟨?_, ?_⟩ | (· (try simp only [go_sem, seval, reduceIte, ↓reduceIte, Bool.not_eq_true, reduceCtorEq, beq_false, beq_true, hn, hP, f1, f2]); first | done | rfl)))) | apply T_seq | apply T_block | refine T_scopeJ 0 rfl ?_ | apply T_scope | apply T_goto | apply T_ret | apply T_skip | apply T_exit | apply T_label | refine T_condT rfl ?_ | refine T_condF rfl ?_ | refine T_condD rfl (fun _ => ?_) (fun _ => ?_) | refine T_cond rfl (fun _ => ?_) (fun _ => ?_))
    exact ends_ret rfl rfl rfl rfl
  have k1 := k_Mul (s := s) (t := t) hd he
  cases c : ((twoF fMul s d t e).2 != 0)
  rotate_left
  · have hb := two_bad (W := fMul) (s := s) (d := d) (t := t) (e := e) (by simpa using c)
    rw [hb] at k1
    unfold bad at k1
    generalize (twoF fMul s d t e).2 = x at *
    repeat' (first | apply T_then | apply then_ret | apply then_exit | apply then_goto | apply rnd_exit | apply rnd_ret | apply rnd_goto | apply noGo_normal | apply noGo_ret | apply noGo_exit | apply jmp_normal | apply jmp_ret | apply jmp_exit | apply jmp_goto | apply inB_normal | apply inB_ret | apply inB_goto | apply inB_exit | refine inB_exit_ne rfl ?_ | ((first | apply T_srK fw | apply T_regK fw); · ((try simp only [TOps.flat, List.cons_append, List.nil_append]); repeat (first | apply X_g0 | apply X_g | apply S_keep | apply X_skip | apply X_skipN | refine X_call ?_ ⟨_, _, _, _, _, _, rfl, rfl, rfl, by rw [hP]; exact p_awake4⟩ ?_ | refine X_call ?_ ⟨_, _, _, _, _, _, rfl, rfl, rfl, by rw [hP]; exact p_ref03_Few _ _⟩ ?_ | refine X_call ?_ ⟨_, _, _, _, _, _, rfl, rfl, rfl, by rw [hP]; exact k1⟩ ?_ | apply X_q | apply X_st | apply X_n | apply X_s | apply SKs0 | apply SKs2 | apply SKs1 | refine ⟨⟨rfl, rfl⟩, ?_⟩ | refine ⟨⟨rfl, ?_⟩, ?_⟩ | refine ⟨?_, ?_⟩ | (· (try simp only [go_sem, seval, reduceIte, ↓reduceIte, Bool.not_eq_true, reduceCtorEq, beq_false, beq_true, hn, hP, f1, f2, c]); first | done | rfl)))) | apply T_seq | apply T_block | refine T_scopeJ 0 rfl ?_ | apply T_scope | apply T_goto | apply T_ret | apply T_skip | apply T_exit | apply T_label | refine T_condT rfl ?_ | refine T_condF rfl ?_ | refine T_condD rfl (fun _ => ?_) (fun _ => ?_) | refine T_cond rfl (fun _ => ?_) (fun _ => ?_))
    exact ends_ret rfl rfl rfl rfl
  simp only [bne_eq_false_iff_eq] at c
  obtain ⟨h1, h2, r, hj, hW, hf⟩ := two_inv c
  have k2 := p_tensor_Spread s d r
  have k3 := p_tensor_Spread t e r
  have hx : spreadF s d r = ((r, spreadD s d r), 0) := by unfold spreadF; rw [if_pos h1, if_pos (fits_of hj.left)]
  have hy : spreadF t e r = ((r, spreadD t e r), 0) := by unfold spreadF; rw [if_pos h2, if_pos (fits_of hj.right)]
  rw [hx] at k2
  rw [hy] at k3
  have k4 := p_tensor_Check r (mk r fun x => (fMul (val s d (fromX s x)) (val t e (fromX t x))).1)
  rw [mk_check hj.hr] at k4
  have hsz := sizeS_one (checkS_iff.2 hj.hr)
  have lx := spread_len (s := s) (d := d) hj.hr
  have ly := spread_len (s := t) (d := e) hj.hr
  have lp : (mk r fun x => (fMul (val s d (fromX s x)) (val t e (fromX t x))).1).length = (sizeS r).toNat := by
    have := mk_len hj.hr fun x => (fMul (val s d (fromX s x)) (val t e (fromX t x))).1
    have h2 := sizeS_ok hj.hr
    omega
  obtain ⟨A, rfl⟩ := Int.eq_ofNat_of_zero_le ha.1
  have hk : A % (sizeS r).toNat < (sizeS r).toNat := Nat.mod_lt _ (by omega)
  have hpl : ((A % (sizeS r).toNat : Nat) : Int) < prd r := by have := sizeS_ok hj.hr; omega
  have hix : InIdx r (ix r ((A % (sizeS r).toNat : Nat) : Int)) := ix_in hj.hr.2.1
  have vx := gt_some (d := spreadD s d r) (p := A % (sizeS r).toNat) (by omega)
  have vy := gt_some (d := spreadD t e r) (p := A % (sizeS r).toNat) (by omega)
  rw [spread_gt hj.hr hk] at vx vy
  have vp := mk_get hj.hr (fun x => (fMul (val s d (fromX s x)) (val t e (fromX t x))).1) hpl
  have k5 := p_fix_Mul (val_range (s := s) (x := fromX s (ix r ((A % (sizeS r).toNat : Nat) : Int))) hd) (val_range (s := t) (x := fromX t (ix r ((A % (sizeS r).toNat : Nat) : Int))) he)
  have hm : fMul (val s d (fromX s (ix r ((A % (sizeS r).toNat : Nat) : Int)))) (val t e (fromX t (ix r ((A % (sizeS r).toNat : Nat) : Int)))) = ((fMul (val s d (fromX s (ix r ((A % (sizeS r).toNat : Nat) : Int)))) (val t e (fromX t (ix r ((A % (sizeS r).toNat : Nat) : Int))))).1, 0) := Prod.ext rfl (hW _ hix)
  rw [hm] at k5
  rw [hf] at k1
  generalize val s d (fromX s (ix r ((A % (sizeS r).toNat : Nat) : Int))) = va at *
  generalize val t e (fromX t (ix r ((A % (sizeS r).toNat : Nat) : Int))) = vb at *
  generalize (fMul va vb).1 = vm at *
  generalize (mk r fun x => (fMul (val s d (fromX s x)) (val t e (fromX t x))).1) = pd at *
  generalize spreadD s d r = xd at *
  generalize spreadD t e r = yd at *
  generalize (sizeS r).toNat = n at *
  subst lp
  have n0 : ((pd.length : Int) = 0) = False := by simp; intro h; simp [h] at hsz
  have n1 : ((pd.length : Int) == 0) = false := by simp; intro h; simp [h] at hsz
  have x1 : ((xd.length : Int) != pd.length) = false := by simp; omega
  have y1 : ((yd.length : Int) != pd.length) = false := by simp; omega
  have qm : (A : Int).tmod (pd.length : Int) = ((A % pd.length : Nat) : Int) := by rw [Int.tmod_eq_emod_of_nonneg (by omega)]; omega
  have wa : IntKind.i64.wrap (A : Int) = (A : Int) := wrap_in (by omega) (by omega)
  have hkx : A % pd.length < xd.length := by omega
  have hky : A % pd.length < yd.length := by omega
  repeat' (first | apply T_then | apply then_ret | apply then_exit | apply then_goto | apply rnd_exit | apply rnd_ret | apply rnd_goto | apply noGo_normal | apply noGo_ret | apply noGo_exit | apply jmp_normal | apply jmp_ret | apply jmp_exit | apply jmp_goto | apply inB_normal | apply inB_ret | apply inB_goto | apply inB_exit | refine inB_exit_ne rfl ?_ | ((first | apply T_srK fw | apply T_regK fw); · ((try simp only [TOps.flat, List.cons_append, List.nil_append]); repeat (first | apply X_g0 | apply X_g | apply S_keep | apply X_skip | apply X_skipN | refine X_call ?_ ⟨_, _, _, _, _, _, rfl, rfl, rfl, by rw [hP]; exact p_awake4⟩ ?_ | refine X_call ?_ ⟨_, _, _, _, _, _, rfl, rfl, rfl, by rw [hP]; exact p_ref03_Few _ _⟩ ?_ | refine X_call ?_ ⟨_, _, _, _, _, _, rfl, rfl, rfl, by rw [hP]; exact k1⟩ ?_ | refine X_call ?_ ⟨_, _, _, _, _, _, rfl, rfl, rfl, by rw [hP]; exact k2⟩ ?_ | refine X_call ?_ ⟨_, _, _, _, _, _, rfl, rfl, rfl, by rw [hP]; exact k3⟩ ?_ | refine X_call ?_ ⟨_, _, _, _, _, _, rfl, rfl, rfl, by rw [hP]; exact k4⟩ ?_ | refine X_call ?_ ⟨_, _, _, _, _, _, rfl, rfl, rfl, by rw [hP]; exact k5⟩ ?_ | apply X_q | apply X_st | apply X_n | apply X_s | apply SKs0 | apply SKs2 | apply SKs1 | refine ⟨⟨rfl, rfl⟩, ?_⟩ | refine ⟨⟨rfl, ?_⟩, ?_⟩ | refine ⟨?_, ?_⟩ | (· (try simp only [go_sem, seval, reduceIte, ↓reduceIte, Bool.not_eq_true, reduceCtorEq, beq_false, beq_true, hn, hP, f1, f2, lx, ly, n0, n1, x1, y1, qm, wa, vx, vy, vp, hk, hkx, hky]); first | done | rfl)))) | ((first | apply T_sdF fw (by rw [hP]; rfl) (by decide +kernel) | apply T_drF fw (by rw [hP]; rfl) (by decide +kernel)); · ((try simp only [TOps.flat, List.cons_append, List.nil_append]); repeat (first | apply Y_g0 | apply Y_g | apply Y_skip | apply Y_q | refine Y_call ⟨_, _, _, _, _, _, rfl, rfl, rfl, by rw [hP]; exact p_awake4⟩ ?_ ?_ | refine Y_call ⟨_, _, _, _, _, _, rfl, rfl, rfl, by rw [hP]; exact p_ref03_Few _ _⟩ ?_ ?_ | refine Y_call ⟨_, _, _, _, _, _, rfl, rfl, rfl, by rw [hP]; exact k1⟩ ?_ ?_ | refine Y_call ⟨_, _, _, _, _, _, rfl, rfl, rfl, by rw [hP]; exact k2⟩ ?_ ?_ | refine Y_call ⟨_, _, _, _, _, _, rfl, rfl, rfl, by rw [hP]; exact k3⟩ ?_ ?_ | refine Y_call ⟨_, _, _, _, _, _, rfl, rfl, rfl, by rw [hP]; exact k4⟩ ?_ ?_ | refine Y_call ⟨_, _, _, _, _, _, rfl, rfl, rfl, by rw [hP]; exact k5⟩ ?_ ?_ | refine RunF_nil (P := G.P) ?_ | (· (try simp only [go_sem, seval, reduceIte, ↓reduceIte, Bool.not_eq_true, reduceCtorEq, beq_false, beq_true, hn, hP, f1, f2, lx, ly, n0, n1, x1, y1, qm, wa, vx, vy, vp, hk, hkx, hky]); first | done | rfl)))) | apply T_seq | apply T_block | refine T_scopeJ 0 rfl ?_ | apply T_scope | apply T_goto | apply T_ret | apply T_skip | apply T_exit | apply T_label | refine T_condT rfl ?_ | refine T_condF rfl ?_ | refine T_condD rfl (fun _ => ?_) (fun _ => ?_) | refine T_cond rfl (fun _ => ?_) (fun _ => ?_))
  exact ends_ret rfl rfl rfl rfl
end Go.AM

