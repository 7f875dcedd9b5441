import Derived.Test.YtcmbjbmghoopcaaMe3
import Derived.Lib.Mul64
set_option linter.unusedVariables false
set_option linter.unusedSimpArgs false
namespace Go.AM
open Go Go.Proofs
set_option maxRecDepth 100000
set_option linter.unusedSimpArgs false
set_option linter.unusedVariables false
abbrev eI (s : List Int) : PV := .sl (s.map fun n => [.int .i64 n])
abbrev dI (s : List Int) : DV := .one (eI s)
abbrev dB (b : Bool) : DV := .one (.bool b)
abbrev dN (n : Int) : DV := .one (.int .i64 n)
theorem all1 (s : List Int) : (s.map fun n => [PV.int .i64 n]).all (fun r => r.length == 1) = true := by
  simp
def chk : List Int → Int → Int
  | [], n => n
  | x :: r, n => if x < 1 ∨ x > 16 then 0 else chk r (IntKind.i64.wrap (n * x))
def checkS (s : List Int) : Bool := !decide ((s.length : Int) > 3) && (decide (chk s 1 > 0) && decide (chk s 1 ≤ 64))

theorem p_shape_Check (s : List Int) : PureC Try.prog fi_shape_Check [dI s] (dB (checkS s)) := by
  refine pure_shape_Check (by simp) fun G hP hn => ?_
  unfold a_shape_Check
  refine T_wf 0 fun hl => ?_
  simp only [initE, lk, dI, eI, DV.av, wf_one, wf_sl, if_true, List.length_map] at hl
  repeat' (first     | refine T_then ?_ | refine then_ret ?_ | refine then_exit ?_ | refine then_goto ?_     | refine rnd_exit ?_ | refine rnd_ret ?_ | refine rnd_goto ?_     | refine noGo_normal ?_ | refine noGo_ret ?_ | refine noGo_exit ?_ | refine jmp_normal ?_ | refine jmp_ret ?_ | refine jmp_exit ?_ | refine jmp_goto ?_     | refine inB_normal ?_ | refine inB_ret ?_ | refine inB_goto ?_ | refine inB_exit ?_ | refine inB_exit_ne rfl ?_     | ((first | apply T_sr fw | apply T_reg fw); · ((try simp only [go_sem, seval, reduceIte, ↓reduceIte]); (repeat ((first       | (refine ⟨true, false, rfl, fun h => absurd h (by decide), ?_⟩) | (refine ⟨false, false, rfl, fun h => absurd h (by decide), ?_⟩) | refine ⟨_, _, rfl, fun _ => rfl, ?_⟩); (try simp only [go_sem, seval, reduceIte, ↓reduceIte]))); (first | done | exact rfl)))     | ((first | apply T_sdF fw (by rw [hP]; rfl) (by decide +kernel) | apply T_drF fw (by rw [hP]; rfl) (by decide +kernel)); · ((try simp only [TOps.flat, List.cons_append, List.nil_append]); (repeat ((first | refine Y_g0 ?_ | refine Y_g (by (try simp only [go_sem, seval, reduceIte, ↓reduceIte, Bool.not_eq_true, reduceCtorEq, beq_false, beq_true]); (first | done | exact rfl)) ?_); (first | refine Y_skip ?_ | ((first | apply Y_q); (· ((try simp only [go_sem, seval, reduceIte, ↓reduceIte, Bool.not_eq_true, reduceCtorEq, beq_false, beq_true]); (first | done | exact rfl))))))); apply RunF_nil; (try simp only [go_sem, seval, reduceIte, ↓reduceIte, Bool.not_eq_true, reduceCtorEq, beq_false, beq_true]); (first | done | exact rfl)))     | ((first | apply T_sd fw (by rw [hP]; rfl) | apply T_dr fw (by rw [hP]; rfl)); · ((try simp only [go_sem, seval, reduceIte, ↓reduceIte, bne, beq_false, beq_true, Bool.not_eq_true, Bool.if_true_right, decide_not, reduceCtorEq]); (first | done | exact rfl)))     | refine T_seq ?_ | refine T_block ?_ | refine T_scopeJ 0 rfl ?_ | refine T_scope ?_ | refine T_goto ?_ | refine T_ret ?_ | refine T_skip ?_ | refine T_exit ?_ | refine T_label ?_     | refine T_condT rfl ?_ | refine T_condF rfl ?_     | refine T_condD rfl (fun _ => ?_) (fun _ => ?_)     | refine T_cond rfl (fun _ => ?_) (fun _ => ?_))
  · rename_i h
    exact ends_ret rfl rfl rfl (by simp [resD, checkS, h])
  · rename_i h
    refine T_for s.length (fun i acc => { env := [(3, .one (.p (.int .i64 acc))), (9, .one (.p (eI s))), (10, .one (.p (.int .i64 s.length))), (11, .one (.p (.int .i64 i)))], σ := [] })
      (fun i acc => chk (s.drop i) acc = chk s 1) 1 rfl (.refl _ _) fun i acc hi hc => ?_
    rcases nth hi with ⟨x, hlt, hx, hd⟩ | ⟨rfl, hd⟩
    · have hw := wrap_succ hlt hl.1
      rw [hd] at hc
      repeat' (first     | refine T_then ?_ | refine then_ret ?_ | refine then_exit ?_ | refine then_goto ?_     | refine rnd_exit ?_ | refine rnd_ret ?_ | refine rnd_goto ?_     | refine noGo_normal ?_ | refine noGo_ret ?_ | refine noGo_exit ?_ | refine jmp_normal ?_ | refine jmp_ret ?_ | refine jmp_exit ?_ | refine jmp_goto ?_     | refine inB_normal ?_ | refine inB_ret ?_ | refine inB_goto ?_ | refine inB_exit ?_ | refine inB_exit_ne rfl ?_     | ((first | apply T_sr fw | apply T_reg fw); · ((try simp only [go_sem, seval, reduceIte, ↓reduceIte, hx, hlt, hw]); (repeat ((first       | (refine ⟨true, false, rfl, fun h => absurd h (by decide), ?_⟩) | (refine ⟨false, false, rfl, fun h => absurd h (by decide), ?_⟩) | refine ⟨_, _, rfl, fun _ => rfl, ?_⟩); (try simp only [go_sem, seval, reduceIte, ↓reduceIte, hx, hlt, hw]))); (first | done | exact rfl)))     | ((first | apply T_sdF fw (by rw [hP]; rfl) (by decide +kernel) | apply T_drF fw (by rw [hP]; rfl) (by decide +kernel)); · ((try simp only [TOps.flat, List.cons_append, List.nil_append]); (repeat ((first | refine Y_g0 ?_ | refine Y_g (by (try simp only [go_sem, seval, reduceIte, ↓reduceIte, Bool.not_eq_true, reduceCtorEq, beq_false, beq_true, hx, hlt, hw]); (first | done | exact rfl)) ?_); (first | refine Y_skip ?_ | ((first | apply Y_q); (· ((try simp only [go_sem, seval, reduceIte, ↓reduceIte, Bool.not_eq_true, reduceCtorEq, beq_false, beq_true, hx, hlt, hw]); (first | done | exact rfl))))))); apply RunF_nil; (try simp only [go_sem, seval, reduceIte, ↓reduceIte, Bool.not_eq_true, reduceCtorEq, beq_false, beq_true, hx, hlt, hw]); (first | done | exact rfl)))     | ((first | apply T_sd fw (by rw [hP]; rfl) | apply T_dr fw (by rw [hP]; rfl)); · ((try simp only [go_sem, seval, reduceIte, ↓reduceIte, bne, beq_false, beq_true, Bool.not_eq_true, Bool.if_true_right, decide_not, reduceCtorEq, hx, hlt, hw]); (first | done | exact rfl)))     | refine T_seq ?_ | refine T_block ?_ | refine T_scopeJ 0 rfl ?_ | refine T_scope ?_ | refine T_goto ?_ | refine T_ret ?_ | refine T_skip ?_ | refine T_exit ?_ | refine T_label ?_     | refine T_condT rfl ?_ | refine T_condF rfl ?_     | refine T_condD rfl (fun _ => ?_) (fun _ => ?_)     | refine T_cond rfl (fun _ => ?_) (fun _ => ?_))
      · rename_i h2
        refine ends_ret rfl rfl rfl ?_
        have h3 : chk s 1 = 0 := by rw [← hc]; simp only [chk]; rw [if_pos (by simpa using h2)]
        simp [resD, checkS, h3]
      · rename_i h2
        refine rnd_next hlt _ ?_ (.refl _ _)
        rw [← hc]; simp only [chk]; rw [if_neg (by simpa using h2)]
    · rw [hd] at hc
      repeat' (first     | refine T_then ?_ | refine then_ret ?_ | refine then_exit ?_ | refine then_goto ?_     | refine rnd_exit ?_ | refine rnd_ret ?_ | refine rnd_goto ?_     | refine noGo_normal ?_ | refine noGo_ret ?_ | refine noGo_exit ?_ | refine jmp_normal ?_ | refine jmp_ret ?_ | refine jmp_exit ?_ | refine jmp_goto ?_     | refine inB_normal ?_ | refine inB_ret ?_ | refine inB_goto ?_ | refine inB_exit ?_ | refine inB_exit_ne rfl ?_     | ((first | apply T_sr fw | apply T_reg fw); · ((try simp only [go_sem, seval, reduceIte, ↓reduceIte, Int.lt_irrefl, Nat.lt_irrefl]); (repeat ((first       | (refine ⟨true, false, rfl, fun h => absurd h (by decide), ?_⟩) | (refine ⟨false, false, rfl, fun h => absurd h (by decide), ?_⟩) | refine ⟨_, _, rfl, fun _ => rfl, ?_⟩); (try simp only [go_sem, seval, reduceIte, ↓reduceIte, Int.lt_irrefl, Nat.lt_irrefl]))); (first | done | exact rfl)))     | ((first | apply T_sdF fw (by rw [hP]; rfl) (by decide +kernel) | apply T_drF fw (by rw [hP]; rfl) (by decide +kernel)); · ((try simp only [TOps.flat, List.cons_append, List.nil_append]); (repeat ((first | refine Y_g0 ?_ | refine Y_g (by (try simp only [go_sem, seval, reduceIte, ↓reduceIte, Bool.not_eq_true, reduceCtorEq, beq_false, beq_true, Int.lt_irrefl, Nat.lt_irrefl]); (first | done | exact rfl)) ?_); (first | refine Y_skip ?_ | ((first | apply Y_q); (· ((try simp only [go_sem, seval, reduceIte, ↓reduceIte, Bool.not_eq_true, reduceCtorEq, beq_false, beq_true, Int.lt_irrefl, Nat.lt_irrefl]); (first | done | exact rfl))))))); apply RunF_nil; (try simp only [go_sem, seval, reduceIte, ↓reduceIte, Bool.not_eq_true, reduceCtorEq, beq_false, beq_true, Int.lt_irrefl, Nat.lt_irrefl]); (first | done | exact rfl)))     | ((first | apply T_sd fw (by rw [hP]; rfl) | apply T_dr fw (by rw [hP]; rfl)); · ((try simp only [go_sem, seval, reduceIte, ↓reduceIte, bne, beq_false, beq_true, Bool.not_eq_true, Bool.if_true_right, decide_not, reduceCtorEq, Int.lt_irrefl, Nat.lt_irrefl]); (first | done | exact rfl)))     | refine T_seq ?_ | refine T_block ?_ | refine T_scopeJ 0 rfl ?_ | refine T_scope ?_ | refine T_goto ?_ | refine T_ret ?_ | refine T_skip ?_ | refine T_exit ?_ | refine T_label ?_     | refine T_condT rfl ?_ | refine T_condF rfl ?_     | refine T_condD rfl (fun _ => ?_) (fun _ => ?_)     | refine T_cond rfl (fun _ => ?_) (fun _ => ?_))
      refine ends_ret rfl rfl rfl ?_
      simp only [chk] at hc
      simp [resD, checkS, hc]; omega

def prodW : List Int → Int → Int
  | [], n => n
  | x :: r, n => prodW r (IntKind.i64.wrap (n * x))
def sizeS (s : List Int) : Int := if checkS s then prodW s 1 else 0

theorem p_shape_Size (s : List Int) : PureC Try.prog fi_shape_Size [dI s] (dN (sizeS s)) := by
  refine pure_shape_Size (by simp) fun G hP hn => ?_
  unfold a_shape_Size
  refine T_wf 0 fun hl => ?_
  simp only [initE, lk, dI, eI, DV.av, wf_one, wf_sl, if_true, List.length_map] at hl
  repeat' (first     | refine T_then ?_ | refine then_ret ?_ | refine then_exit ?_ | refine then_goto ?_     | refine rnd_exit ?_ | refine rnd_ret ?_ | refine rnd_goto ?_     | refine noGo_normal ?_ | refine noGo_ret ?_ | refine noGo_exit ?_ | refine jmp_normal ?_ | refine jmp_ret ?_ | refine jmp_exit ?_ | refine jmp_goto ?_     | refine inB_normal ?_ | refine inB_ret ?_ | refine inB_goto ?_ | refine inB_exit ?_ | refine inB_exit_ne rfl ?_     | ((first | apply T_sr fw | apply T_reg fw); · ((try simp only [go_sem, seval, reduceIte, ↓reduceIte, hP]); (repeat ((first       | (refine ⟨true, false, rfl, fun h => absurd h (by decide), ?_⟩) | (refine ⟨false, false, rfl, fun h => absurd h (by decide), ?_⟩) | refine ⟨_, _, rfl, fun _ => rfl, ?_⟩       | (refine .inl ⟨_, _, ⟨_, _, _, _, _, _, rfl, rfl, rfl, p_shape_Check _⟩, ?_⟩)       | (refine ⟨_, ?_, rfl, fun _ => ⟨_, ⟨_, _, _, _, _, _, rfl, rfl, rfl, p_shape_Check _⟩, ?_⟩, ?_⟩; rotate_left; (· (simp only [go_sem, seval, reduceIte, ↓reduceIte, hP]; first | done | exact rfl)))); (try simp only [go_sem, seval, reduceIte, ↓reduceIte, hP]))); (first | done | exact rfl)))     | ((first | apply T_sdF fw (by rw [hP]; rfl) (by decide +kernel) | apply T_drF fw (by rw [hP]; rfl) (by decide +kernel)); · ((try simp only [TOps.flat, List.cons_append, List.nil_append]); (repeat ((first | refine Y_g0 ?_ | refine Y_g (by (try simp only [go_sem, seval, reduceIte, ↓reduceIte, Bool.not_eq_true, reduceCtorEq, beq_false, beq_true, hP]); (first | done | exact rfl)) ?_); (first | refine Y_skip ?_ | ((first | apply Y_q | (refine Y_call ⟨_, _, _, _, _, _, rfl, rfl, rfl, (by rw [hP]; exact p_shape_Check _)⟩ ?_ ?_)); (· ((try simp only [go_sem, seval, reduceIte, ↓reduceIte, Bool.not_eq_true, reduceCtorEq, beq_false, beq_true, hP]); (first | done | exact rfl))))))); apply RunF_nil; (try simp only [go_sem, seval, reduceIte, ↓reduceIte, Bool.not_eq_true, reduceCtorEq, beq_false, beq_true, hP]); (first | done | exact rfl)))     | ((first | apply T_sd fw (by rw [hP]; rfl) | apply T_dr fw (by rw [hP]; rfl)); · ((try simp only [go_sem, seval, reduceIte, ↓reduceIte, bne, beq_false, beq_true, Bool.not_eq_true, Bool.if_true_right, decide_not, reduceCtorEq, hP]); (repeat ((first       | (refine ⟨_, ⟨_, _, _, _, _, _, rfl, rfl, rfl, p_shape_Check _⟩, ?_⟩)); (try simp only [go_sem, seval, reduceIte, ↓reduceIte, bne, beq_false, beq_true, Bool.not_eq_true, Bool.if_true_right, decide_not, reduceCtorEq, hP]))); (first | done | exact rfl)))     | refine T_seq ?_ | refine T_block ?_ | refine T_scopeJ 0 rfl ?_ | refine T_scope ?_ | refine T_goto ?_ | refine T_ret ?_ | refine T_skip ?_ | refine T_exit ?_ | refine T_label ?_     | refine T_condT rfl ?_ | refine T_condF rfl ?_     | refine T_condD rfl (fun _ => ?_) (fun _ => ?_)     | refine T_cond rfl (fun _ => ?_) (fun _ => ?_))
  · rename_i h
    exact ends_ret rfl rfl rfl (by simp at h; simp [resD, sizeS, h])
  · rename_i h
    refine T_for s.length (fun i acc => { env := [(3, .one (.p (.int .i64 acc))), (9, .one (.p (eI s))), (10, .one (.p (.int .i64 s.length))), (11, .one (.p (.int .i64 i)))], σ := [] })
      (fun i acc => prodW (s.drop i) acc = prodW s 1) 1 rfl (.refl _ _) fun i acc hi hc => ?_
    rcases nth hi with ⟨x, hlt, hx, hd⟩ | ⟨rfl, hd⟩
    · have hw := wrap_succ hlt hl.1
      rw [hd] at hc
      repeat' (first     | refine T_then ?_ | refine then_ret ?_ | refine then_exit ?_ | refine then_goto ?_     | refine rnd_exit ?_ | refine rnd_ret ?_ | refine rnd_goto ?_     | refine noGo_normal ?_ | refine noGo_ret ?_ | refine noGo_exit ?_ | refine jmp_normal ?_ | refine jmp_ret ?_ | refine jmp_exit ?_ | refine jmp_goto ?_     | refine inB_normal ?_ | refine inB_ret ?_ | refine inB_goto ?_ | refine inB_exit ?_ | refine inB_exit_ne rfl ?_     | ((first | apply T_sr fw | apply T_reg fw); · ((try simp only [go_sem, seval, reduceIte, ↓reduceIte, hx, hlt, hw]); (repeat ((first       | (refine ⟨true, false, rfl, fun h => absurd h (by decide), ?_⟩) | (refine ⟨false, false, rfl, fun h => absurd h (by decide), ?_⟩) | refine ⟨_, _, rfl, fun _ => rfl, ?_⟩); (try simp only [go_sem, seval, reduceIte, ↓reduceIte, hx, hlt, hw]))); (first | done | exact rfl)))     | ((first | apply T_sdF fw (by rw [hP]; rfl) (by decide +kernel) | apply T_drF fw (by rw [hP]; rfl) (by decide +kernel)); · ((try simp only [TOps.flat, List.cons_append, List.nil_append]); (repeat ((first | refine Y_g0 ?_ | refine Y_g (by (try simp only [go_sem, seval, reduceIte, ↓reduceIte, Bool.not_eq_true, reduceCtorEq, beq_false, beq_true, hx, hlt, hw]); (first | done | exact rfl)) ?_); (first | refine Y_skip ?_ | ((first | apply Y_q); (· ((try simp only [go_sem, seval, reduceIte, ↓reduceIte, Bool.not_eq_true, reduceCtorEq, beq_false, beq_true, hx, hlt, hw]); (first | done | exact rfl))))))); apply RunF_nil; (try simp only [go_sem, seval, reduceIte, ↓reduceIte, Bool.not_eq_true, reduceCtorEq, beq_false, beq_true, hx, hlt, hw]); (first | done | exact rfl)))     | ((first | apply T_sd fw (by rw [hP]; rfl) | apply T_dr fw (by rw [hP]; rfl)); · ((try simp only [go_sem, seval, reduceIte, ↓reduceIte, bne, beq_false, beq_true, Bool.not_eq_true, Bool.if_true_right, decide_not, reduceCtorEq, hx, hlt, hw]); (first | done | exact rfl)))     | refine T_seq ?_ | refine T_block ?_ | refine T_scopeJ 0 rfl ?_ | refine T_scope ?_ | refine T_goto ?_ | refine T_ret ?_ | refine T_skip ?_ | refine T_exit ?_ | refine T_label ?_     | refine T_condT rfl ?_ | refine T_condF rfl ?_     | refine T_condD rfl (fun _ => ?_) (fun _ => ?_)     | refine T_cond rfl (fun _ => ?_) (fun _ => ?_))
      exact rnd_next hlt _ hc (.refl _ _)
    · rw [hd] at hc
      repeat' (first     | refine T_then ?_ | refine then_ret ?_ | refine then_exit ?_ | refine then_goto ?_     | refine rnd_exit ?_ | refine rnd_ret ?_ | refine rnd_goto ?_     | refine noGo_normal ?_ | refine noGo_ret ?_ | refine noGo_exit ?_ | refine jmp_normal ?_ | refine jmp_ret ?_ | refine jmp_exit ?_ | refine jmp_goto ?_     | refine inB_normal ?_ | refine inB_ret ?_ | refine inB_goto ?_ | refine inB_exit ?_ | refine inB_exit_ne rfl ?_     | ((first | apply T_sr fw | apply T_reg fw); · ((try simp only [go_sem, seval, reduceIte, ↓reduceIte, Int.lt_irrefl, Nat.lt_irrefl]); (repeat ((first       | (refine ⟨true, false, rfl, fun h => absurd h (by decide), ?_⟩) | (refine ⟨false, false, rfl, fun h => absurd h (by decide), ?_⟩) | refine ⟨_, _, rfl, fun _ => rfl, ?_⟩); (try simp only [go_sem, seval, reduceIte, ↓reduceIte, Int.lt_irrefl, Nat.lt_irrefl]))); (first | done | exact rfl)))     | ((first | apply T_sdF fw (by rw [hP]; rfl) (by decide +kernel) | apply T_drF fw (by rw [hP]; rfl) (by decide +kernel)); · ((try simp only [TOps.flat, List.cons_append, List.nil_append]); (repeat ((first | refine Y_g0 ?_ | refine Y_g (by (try simp only [go_sem, seval, reduceIte, ↓reduceIte, Bool.not_eq_true, reduceCtorEq, beq_false, beq_true, Int.lt_irrefl, Nat.lt_irrefl]); (first | done | exact rfl)) ?_); (first | refine Y_skip ?_ | ((first | apply Y_q); (· ((try simp only [go_sem, seval, reduceIte, ↓reduceIte, Bool.not_eq_true, reduceCtorEq, beq_false, beq_true, Int.lt_irrefl, Nat.lt_irrefl]); (first | done | exact rfl))))))); apply RunF_nil; (try simp only [go_sem, seval, reduceIte, ↓reduceIte, Bool.not_eq_true, reduceCtorEq, beq_false, beq_true, Int.lt_irrefl, Nat.lt_irrefl]); (first | done | exact rfl)))     | ((first | apply T_sd fw (by rw [hP]; rfl) | apply T_dr fw (by rw [hP]; rfl)); · ((try simp only [go_sem, seval, reduceIte, ↓reduceIte, bne, beq_false, beq_true, Bool.not_eq_true, Bool.if_true_right, decide_not, reduceCtorEq, Int.lt_irrefl, Nat.lt_irrefl]); (first | done | exact rfl)))     | refine T_seq ?_ | refine T_block ?_ | refine T_scopeJ 0 rfl ?_ | refine T_scope ?_ | refine T_goto ?_ | refine T_ret ?_ | refine T_skip ?_ | refine T_exit ?_ | refine T_label ?_     | refine T_condT rfl ?_ | refine T_condF rfl ?_     | refine T_condD rfl (fun _ => ?_) (fun _ => ?_)     | refine T_cond rfl (fun _ => ?_) (fun _ => ?_))
      refine ends_ret rfl rfl rfl ?_
      simp only [prodW] at hc
      simp at h
      simp [resD, sizeS, h, hc]


abbrev rI (s : List Int) : List (List PV) := s.map fun n => [.int .i64 n]
theorem m_slices_Clone (s : List Int) (hs : s.length ≤ 2 ^ 36) : MutC Try.prog fi_slices_Clone_int_int [.one (.p (eI s))] [] (.one (.msl 5 0 1 s.length none)) [(5, .arr true 1 (rI s))] [5] := by
  refine mut_slices_Clone_int_int (by simp) fun G ex hP hn hfr => ?_
  unfold a_slices_Clone_int_int
  have hfr := hfr 5 (by simp)
  repeat' (first     | refine T_then ?_ | refine then_ret ?_ | refine then_exit ?_ | refine then_goto ?_     | refine rnd_exit ?_ | refine rnd_ret ?_ | refine rnd_goto ?_     | refine noGo_normal ?_ | refine noGo_ret ?_ | refine noGo_exit ?_ | refine jmp_normal ?_ | refine jmp_ret ?_ | refine jmp_exit ?_ | refine jmp_goto ?_     | refine inB_normal ?_ | refine inB_ret ?_ | refine inB_goto ?_ | refine inB_exit ?_ | refine inB_exit_ne rfl ?_     | ((first | apply T_sr fw | apply T_reg fw); · ((try simp only [go_sem, seval, reduceIte, ↓reduceIte]); (repeat ((first       | (refine ⟨true, false, rfl, fun h => absurd h (by decide), ?_⟩) | (refine ⟨false, false, rfl, fun h => absurd h (by decide), ?_⟩) | refine ⟨_, _, rfl, fun _ => rfl, ?_⟩); (try simp only [go_sem, seval, reduceIte, ↓reduceIte]))); (first | done | exact rfl)))     | ((first | apply T_sdF fw (by rw [hP]; rfl) (by decide +kernel) | apply T_drF fw (by rw [hP]; rfl) (by decide +kernel)); · ((try simp only [TOps.flat, List.cons_append, List.nil_append]); (repeat ((first | refine Y_g0 ?_ | refine Y_g (by (try simp only [go_sem, seval, reduceIte, ↓reduceIte, Bool.not_eq_true, reduceCtorEq, beq_false, beq_true]); (first | done | exact rfl)) ?_); (first | refine Y_skip ?_ | ((first | apply Y_q); (· ((try simp only [go_sem, seval, reduceIte, ↓reduceIte, Bool.not_eq_true, reduceCtorEq, beq_false, beq_true]); (first | done | exact rfl))))))); apply RunF_nil; (try simp only [go_sem, seval, reduceIte, ↓reduceIte, Bool.not_eq_true, reduceCtorEq, beq_false, beq_true]); (first | done | exact rfl)))     | ((first | apply T_sd fw (by rw [hP]; rfl) | apply T_dr fw (by rw [hP]; rfl)); · ((try simp only [go_sem, seval, reduceIte, ↓reduceIte, bne, beq_false, beq_true, Bool.not_eq_true, Bool.if_true_right, decide_not, reduceCtorEq]); (first | done | exact rfl)))     | refine T_seq ?_ | refine T_block ?_ | refine T_scopeJ 0 rfl ?_ | refine T_scope ?_ | refine T_goto ?_ | refine T_ret ?_ | refine T_skip ?_ | refine T_exit ?_ | refine T_label ?_     | refine T_condT rfl ?_ | refine T_condF rfl ?_     | refine T_condD rfl (fun _ => ?_) (fun _ => ?_)     | refine T_cond rfl (fun _ => ?_) (fun _ => ?_))
  refine T_eqnil fw (by decide) rfl fun b hb => ?_
  simp only [AS.keep, List.map, lk, lo, Nat.reduceEqDiff, if_true, if_false, restS, List.filter, ddS, List.length, List.nil_append, initV]
  have h8 : s.length * 8 ≤ 2 ^ 40 := by omega
  have h9 : s.length ≤ 2 ^ 40 := by omega
  cases b
  · repeat' (first     | refine T_then ?_ | refine then_ret ?_ | refine then_exit ?_ | refine then_goto ?_     | refine rnd_exit ?_ | refine rnd_ret ?_ | refine rnd_goto ?_     | refine noGo_normal ?_ | refine noGo_ret ?_ | refine noGo_exit ?_ | refine jmp_normal ?_ | refine jmp_ret ?_ | refine jmp_exit ?_ | refine jmp_goto ?_     | refine inB_normal ?_ | refine inB_ret ?_ | refine inB_goto ?_ | refine inB_exit ?_ | refine inB_exit_ne rfl ?_     | ((first | apply T_sr fw | apply T_reg fw); · ((try simp only [go_sem, seval, reduceIte, ↓reduceIte, hP, all1, h8, h9, hfr, scr_ex hfr]); (repeat ((first       | (refine ⟨true, false, rfl, fun h => absurd h (by decide), ?_⟩) | (refine ⟨false, false, rfl, fun h => absurd h (by decide), ?_⟩) | refine ⟨_, _, rfl, fun _ => rfl, ?_⟩); (try simp only [go_sem, seval, reduceIte, ↓reduceIte, hP, all1, h8, h9, hfr, scr_ex hfr]))); (first | done | exact rfl)))     | ((first | apply T_sdF fw (by rw [hP]; rfl) (by decide +kernel) | apply T_drF fw (by rw [hP]; rfl) (by decide +kernel)); · ((try simp only [TOps.flat, List.cons_append, List.nil_append]); (repeat ((first | refine Y_g0 ?_ | refine Y_g (by (try simp only [go_sem, seval, reduceIte, ↓reduceIte, Bool.not_eq_true, reduceCtorEq, beq_false, beq_true, hP, all1, h8, h9, hfr, scr_ex hfr]); (first | done | exact rfl)) ?_); (first | refine Y_skip ?_ | ((first | apply Y_q); (· ((try simp only [go_sem, seval, reduceIte, ↓reduceIte, Bool.not_eq_true, reduceCtorEq, beq_false, beq_true, hP, all1, h8, h9, hfr, scr_ex hfr]); (first | done | exact rfl))))))); apply RunF_nil; (try simp only [go_sem, seval, reduceIte, ↓reduceIte, Bool.not_eq_true, reduceCtorEq, beq_false, beq_true, hP, all1, h8, h9, hfr, scr_ex hfr]); (first | done | exact rfl)))     | ((first | apply T_sd fw (by rw [hP]; rfl) | apply T_dr fw (by rw [hP]; rfl)); · ((try simp only [go_sem, seval, reduceIte, ↓reduceIte, bne, beq_false, beq_true, Bool.not_eq_true, Bool.if_true_right, decide_not, reduceCtorEq, hP, all1, h8, h9, hfr, scr_ex hfr]); (first | done | exact rfl)))     | refine T_seq ?_ | refine T_block ?_ | refine T_scopeJ 0 rfl ?_ | refine T_scope ?_ | refine T_goto ?_ | refine T_ret ?_ | refine T_skip ?_ | refine T_exit ?_ | refine T_label ?_     | refine T_condT rfl ?_ | refine T_condF rfl ?_     | refine T_condD rfl (fun _ => ?_) (fun _ => ?_)     | refine T_cond rfl (fun _ => ?_) (fun _ => ?_))
    exact endsM_ret rfl rfl rfl (by simp [lo]) rfl
  · have hs0 : s = [] := by simpa using hb rfl
    subst hs0
    refine T_then ?_
    refine T_condT rfl ?_
    refine T_sr fw (S := { env := [(2, .one .nils)], σ := [], ex := ex }) ?_ ?_
    · simp only [go_sem, seval, reduceIte, ↓reduceIte]
    · refine T_nils 2 5 1 rfl (by simp [AS.nr, AV.has, AC.has]; simpa using hfr) rfl ?_
      repeat' (first     | refine T_then ?_ | refine then_ret ?_ | refine then_exit ?_ | refine then_goto ?_     | refine rnd_exit ?_ | refine rnd_ret ?_ | refine rnd_goto ?_     | refine noGo_normal ?_ | refine noGo_ret ?_ | refine noGo_exit ?_ | refine jmp_normal ?_ | refine jmp_ret ?_ | refine jmp_exit ?_ | refine jmp_goto ?_     | refine inB_normal ?_ | refine inB_ret ?_ | refine inB_goto ?_ | refine inB_exit ?_ | refine inB_exit_ne rfl ?_     | ((first | apply T_sr fw | apply T_reg fw); · ((try simp only [go_sem, seval, reduceIte, ↓reduceIte]); (repeat ((first       | (refine ⟨true, false, rfl, fun h => absurd h (by decide), ?_⟩) | (refine ⟨false, false, rfl, fun h => absurd h (by decide), ?_⟩) | refine ⟨_, _, rfl, fun _ => rfl, ?_⟩); (try simp only [go_sem, seval, reduceIte, ↓reduceIte]))); (first | done | exact rfl)))     | ((first | apply T_sdF fw (by rw [hP]; rfl) (by decide +kernel) | apply T_drF fw (by rw [hP]; rfl) (by decide +kernel)); · ((try simp only [TOps.flat, List.cons_append, List.nil_append]); (repeat ((first | refine Y_g0 ?_ | refine Y_g (by (try simp only [go_sem, seval, reduceIte, ↓reduceIte, Bool.not_eq_true, reduceCtorEq, beq_false, beq_true]); (first | done | exact rfl)) ?_); (first | refine Y_skip ?_ | ((first | apply Y_q); (· ((try simp only [go_sem, seval, reduceIte, ↓reduceIte, Bool.not_eq_true, reduceCtorEq, beq_false, beq_true]); (first | done | exact rfl))))))); apply RunF_nil; (try simp only [go_sem, seval, reduceIte, ↓reduceIte, Bool.not_eq_true, reduceCtorEq, beq_false, beq_true]); (first | done | exact rfl)))     | ((first | apply T_sd fw (by rw [hP]; rfl) | apply T_dr fw (by rw [hP]; rfl)); · ((try simp only [go_sem, seval, reduceIte, ↓reduceIte, bne, beq_false, beq_true, Bool.not_eq_true, Bool.if_true_right, decide_not, reduceCtorEq]); (first | done | exact rfl)))     | refine T_seq ?_ | refine T_block ?_ | refine T_scopeJ 0 rfl ?_ | refine T_scope ?_ | refine T_goto ?_ | refine T_ret ?_ | refine T_skip ?_ | refine T_exit ?_ | refine T_label ?_     | refine T_condT rfl ?_ | refine T_condF rfl ?_     | refine T_condD rfl (fun _ => ?_) (fun _ => ?_)     | refine T_cond rfl (fun _ => ?_) (fun _ => ?_))
      exact endsM_ret rfl rfl rfl (by simp [lo]) rfl


theorem rI_set (l : List Int) (i : Nat) (y : Int) : (rI l).set i [.int .i64 y] = rI (l.set i y) := by
  simp [List.map_set]

end Go.AM

namespace Go.AM
open Go Go.Proofs
set_option maxRecDepth 100000
set_option linter.unusedSimpArgs false
set_option linter.unusedVariables false
abbrev dT (s d : List Int) : DV := .agg [eI s, eI d]
def checkT (s d : List Int) : Bool := checkS s && ((d.length : Int) == sizeS s)

theorem p_tensor_Check (s d : List Int) : PureC Try.prog fi_tensor_Check [dT s d] (dB (checkT s d)) := by
  refine pure_tensor_Check (by simp) fun G hP hn => ?_
  unfold a_tensor_Check
  cases hc : checkS s
  · repeat' (first     | refine T_then ?_ | refine then_ret ?_ | refine then_exit ?_ | refine then_goto ?_     | refine rnd_exit ?_ | refine rnd_ret ?_ | refine rnd_goto ?_     | refine noGo_normal ?_ | refine noGo_ret ?_ | refine noGo_exit ?_ | refine jmp_normal ?_ | refine jmp_ret ?_ | refine jmp_exit ?_ | refine jmp_goto ?_     | refine inB_normal ?_ | refine inB_ret ?_ | refine inB_goto ?_ | refine inB_exit ?_ | refine inB_exit_ne rfl ?_     | ((first | apply T_sr fw | apply T_reg fw); · ((try simp only [go_sem, seval, reduceIte, ↓reduceIte, hP, hc]); (repeat ((first       | (refine ⟨true, false, rfl, fun h => absurd h (by decide), ?_⟩) | (refine ⟨false, false, rfl, fun h => absurd h (by decide), ?_⟩) | refine ⟨_, _, rfl, fun _ => rfl, ?_⟩       | (refine .inl ⟨_, _, ⟨_, _, _, _, _, _, rfl, rfl, rfl, p_shape_Check _⟩, ?_⟩)       | (refine .inl ⟨_, _, ⟨_, _, _, _, _, _, rfl, rfl, rfl, p_shape_Size _⟩, ?_⟩)       | (refine ⟨_, ?_, rfl, fun _ => ⟨_, ⟨_, _, _, _, _, _, rfl, rfl, rfl, p_shape_Check _⟩, ?_⟩, ?_⟩; rotate_left; (· (simp only [go_sem, seval, reduceIte, ↓reduceIte, hP, hc]; first | done | exact rfl)))       | (refine ⟨_, ?_, rfl, fun _ => ⟨_, ⟨_, _, _, _, _, _, rfl, rfl, rfl, p_shape_Size _⟩, ?_⟩, ?_⟩; rotate_left; (· (simp only [go_sem, seval, reduceIte, ↓reduceIte, hP, hc]; first | done | exact rfl)))); (try simp only [go_sem, seval, reduceIte, ↓reduceIte, hP, hc]))); (first | done | exact rfl)))     | ((first | apply T_sdF fw (by rw [hP]; rfl) (by decide +kernel) | apply T_drF fw (by rw [hP]; rfl) (by decide +kernel)); · ((try simp only [TOps.flat, List.cons_append, List.nil_append]); (repeat ((first | refine Y_g0 ?_ | refine Y_g (by (try simp only [go_sem, seval, reduceIte, ↓reduceIte, Bool.not_eq_true, reduceCtorEq, beq_false, beq_true, hP, hc]); (first | done | exact rfl)) ?_); (first | refine Y_skip ?_ | ((first | apply Y_q | (refine Y_call ⟨_, _, _, _, _, _, rfl, rfl, rfl, (by rw [hP]; exact p_shape_Check _)⟩ ?_ ?_) | (refine Y_call ⟨_, _, _, _, _, _, rfl, rfl, rfl, (by rw [hP]; exact p_shape_Size _)⟩ ?_ ?_)); (· ((try simp only [go_sem, seval, reduceIte, ↓reduceIte, Bool.not_eq_true, reduceCtorEq, beq_false, beq_true, hP, hc]); (first | done | exact rfl))))))); apply RunF_nil; (try simp only [go_sem, seval, reduceIte, ↓reduceIte, Bool.not_eq_true, reduceCtorEq, beq_false, beq_true, hP, hc]); (first | done | exact rfl)))     | ((first | apply T_sd fw (by rw [hP]; rfl) | apply T_dr fw (by rw [hP]; rfl)); · ((try simp only [go_sem, seval, reduceIte, ↓reduceIte, bne, beq_false, beq_true, Bool.not_eq_true, Bool.if_true_right, decide_not, reduceCtorEq, hP, hc]); (repeat ((first       | (refine ⟨_, ⟨_, _, _, _, _, _, rfl, rfl, rfl, p_shape_Check _⟩, ?_⟩)       | (refine ⟨_, ⟨_, _, _, _, _, _, rfl, rfl, rfl, p_shape_Size _⟩, ?_⟩)); (try simp only [go_sem, seval, reduceIte, ↓reduceIte, bne, beq_false, beq_true, Bool.not_eq_true, Bool.if_true_right, decide_not, reduceCtorEq, hP, hc]))); (first | done | exact rfl)))     | refine T_seq ?_ | refine T_block ?_ | refine T_scopeJ 0 rfl ?_ | refine T_scope ?_ | refine T_goto ?_ | refine T_ret ?_ | refine T_skip ?_ | refine T_exit ?_ | refine T_label ?_     | refine T_condT rfl ?_ | refine T_condF rfl ?_     | refine T_condD rfl (fun _ => ?_) (fun _ => ?_)     | refine T_cond rfl (fun _ => ?_) (fun _ => ?_))
    exact ends_ret rfl rfl rfl (by simp [resD, checkT, hc])
  · repeat' (first     | refine T_then ?_ | refine then_ret ?_ | refine then_exit ?_ | refine then_goto ?_     | refine rnd_exit ?_ | refine rnd_ret ?_ | refine rnd_goto ?_     | refine noGo_normal ?_ | refine noGo_ret ?_ | refine noGo_exit ?_ | refine jmp_normal ?_ | refine jmp_ret ?_ | refine jmp_exit ?_ | refine jmp_goto ?_     | refine inB_normal ?_ | refine inB_ret ?_ | refine inB_goto ?_ | refine inB_exit ?_ | refine inB_exit_ne rfl ?_     | ((first | apply T_sr fw | apply T_reg fw); · ((try simp only [go_sem, seval, reduceIte, ↓reduceIte, hP, hc]); (repeat ((first       | (refine ⟨true, false, rfl, fun h => absurd h (by decide), ?_⟩) | (refine ⟨false, false, rfl, fun h => absurd h (by decide), ?_⟩) | refine ⟨_, _, rfl, fun _ => rfl, ?_⟩       | (refine .inl ⟨_, _, ⟨_, _, _, _, _, _, rfl, rfl, rfl, p_shape_Check _⟩, ?_⟩)       | (refine .inl ⟨_, _, ⟨_, _, _, _, _, _, rfl, rfl, rfl, p_shape_Size _⟩, ?_⟩)       | (refine ⟨_, ?_, rfl, fun _ => ⟨_, ⟨_, _, _, _, _, _, rfl, rfl, rfl, p_shape_Check _⟩, ?_⟩, ?_⟩; rotate_left; (· (simp only [go_sem, seval, reduceIte, ↓reduceIte, hP, hc]; first | done | exact rfl)))       | (refine ⟨_, ?_, rfl, fun _ => ⟨_, ⟨_, _, _, _, _, _, rfl, rfl, rfl, p_shape_Size _⟩, ?_⟩, ?_⟩; rotate_left; (· (simp only [go_sem, seval, reduceIte, ↓reduceIte, hP, hc]; first | done | exact rfl)))); (try simp only [go_sem, seval, reduceIte, ↓reduceIte, hP, hc]))); (first | done | exact rfl)))     | ((first | apply T_sdF fw (by rw [hP]; rfl) (by decide +kernel) | apply T_drF fw (by rw [hP]; rfl) (by decide +kernel)); · ((try simp only [TOps.flat, List.cons_append, List.nil_append]); (repeat ((first | refine Y_g0 ?_ | refine Y_g (by (try simp only [go_sem, seval, reduceIte, ↓reduceIte, Bool.not_eq_true, reduceCtorEq, beq_false, beq_true, hP, hc]); (first | done | exact rfl)) ?_); (first | refine Y_skip ?_ | ((first | apply Y_q | (refine Y_call ⟨_, _, _, _, _, _, rfl, rfl, rfl, (by rw [hP]; exact p_shape_Check _)⟩ ?_ ?_) | (refine Y_call ⟨_, _, _, _, _, _, rfl, rfl, rfl, (by rw [hP]; exact p_shape_Size _)⟩ ?_ ?_)); (· ((try simp only [go_sem, seval, reduceIte, ↓reduceIte, Bool.not_eq_true, reduceCtorEq, beq_false, beq_true, hP, hc]); (first | done | exact rfl))))))); apply RunF_nil; (try simp only [go_sem, seval, reduceIte, ↓reduceIte, Bool.not_eq_true, reduceCtorEq, beq_false, beq_true, hP, hc]); (first | done | exact rfl)))     | ((first | apply T_sd fw (by rw [hP]; rfl) | apply T_dr fw (by rw [hP]; rfl)); · ((try simp only [go_sem, seval, reduceIte, ↓reduceIte, bne, beq_false, beq_true, Bool.not_eq_true, Bool.if_true_right, decide_not, reduceCtorEq, hP, hc]); (repeat ((first       | (refine ⟨_, ⟨_, _, _, _, _, _, rfl, rfl, rfl, p_shape_Check _⟩, ?_⟩)       | (refine ⟨_, ⟨_, _, _, _, _, _, rfl, rfl, rfl, p_shape_Size _⟩, ?_⟩)); (try simp only [go_sem, seval, reduceIte, ↓reduceIte, bne, beq_false, beq_true, Bool.not_eq_true, Bool.if_true_right, decide_not, reduceCtorEq, hP, hc]))); (first | done | exact rfl)))     | refine T_seq ?_ | refine T_block ?_ | refine T_scopeJ 0 rfl ?_ | refine T_scope ?_ | refine T_goto ?_ | refine T_ret ?_ | refine T_skip ?_ | refine T_exit ?_ | refine T_label ?_     | refine T_condT rfl ?_ | refine T_condF rfl ?_     | refine T_condD rfl (fun _ => ?_) (fun _ => ?_)     | refine T_cond rfl (fun _ => ?_) (fun _ => ?_))
    exact ends_ret rfl rfl rfl (by simp [resD, checkT, hc])
end Go.AM

namespace Go.AM
open Go Go.Proofs
set_option maxRecDepth 100000
set_option linter.unusedSimpArgs false
set_option linter.unusedVariables false
abbrev dNE (p : Int × Int) : DV := .tup [dN p.1, dN p.2]
def plW : List Int → List Int → Int → Int × Int
  | n :: s, k :: x, a => if k < 0 ∨ k ≥ n then (0, 20) else plW s x (IntKind.i64.wrap (IntKind.i64.wrap (a * n) + k))
  | _, _, a => (a, 0)
def placeF (s x : List Int) : Int × Int := if (!checkS s || ((x.length : Int) != s.length)) = true then (0, 20) else plW s x 0

end Go.AM

namespace Go.AM
open Go Go.Proofs
set_option maxRecDepth 100000
set_option linter.unusedSimpArgs false
set_option linter.unusedVariables false
def digs : List Int → Int → List Int
  | [], _ => []
  | n :: r, p => p.tmod n :: digs r (IntKind.i64.wrap (p.tdiv n))
def idxF (s : List Int) (p : Int) : List Int := (digs s.reverse p).reverse

theorem chk_pos : ∀ {s : List Int} {a : Int}, chk s a > 0 → ∀ m ∈ s, 1 ≤ m ∧ m ≤ 16
  | [], _, _, m, hm => by simp at hm
  | x :: r, a, h, m, hm => by
    simp only [chk] at h
    split at h
    · omega
    · rename_i hx
      rcases List.mem_cons.1 hm with rfl | hm
      · omega
      · exact chk_pos h m hm

theorem check_pos {s : List Int} (h : checkS s = true) : ∀ m ∈ s, 1 ≤ m ∧ m ≤ 16 := by
  simp only [checkS, Bool.and_eq_true, decide_eq_true_eq] at h
  exact chk_pos h.2.1
theorem check_len {s : List Int} (h : checkS s = true) : s.length ≤ 3 := by
  simp [checkS] at h; omega

theorem rep_set (a : Nat) (v : Int) (t : List Int) : (List.replicate (a + 1) (0 : Int) ++ t).set a v = List.replicate a 0 ++ v :: t := by
  rw [List.set_append_left _ _ (by simp), List.replicate_succ']
  rw [List.set_append_right _ _ (by simp)]
  simp

theorem p_shape_Index (s : List Int) (p : Int) : PureC Try.prog fi_shape_Index [dI s, dN p] (if (decide (p < 0) || decide (p ≥ sizeS s)) = true then .tup [dI [], dN 20] else .tup [dI (idxF s p), dN 0]) := by
  refine pure_shape_Index (by simp) fun G hP hn => ?_
  unfold a_shape_Index
  refine T_wf 0 fun hl => ?_
  simp only [initE, lk, dI, eI, DV.av, wf_one, wf_sl, if_true, List.length_map] at hl
  by_cases hck : checkS s = true
  · have hl3 := check_len hck
    have hM : MaxN = 140737488355328 := rfl
    have q1 : (s.length : Int) * 8 ≤ MaxN := by omega
    have q2 : (s.length : Int) ≤ MaxN := by omega
    repeat' (first     | refine T_then ?_ | refine then_ret ?_ | refine then_exit ?_ | refine then_goto ?_     | refine rnd_exit ?_ | refine rnd_ret ?_ | refine rnd_goto ?_     | refine noGo_normal ?_ | refine noGo_ret ?_ | refine noGo_exit ?_ | refine jmp_normal ?_ | refine jmp_ret ?_ | refine jmp_exit ?_ | refine jmp_goto ?_     | refine inB_normal ?_ | refine inB_ret ?_ | refine inB_goto ?_ | refine inB_exit ?_ | refine inB_exit_ne rfl ?_     | ((first | apply T_sr fw | apply T_reg fw); · ((try simp only [go_sem, seval, reduceIte, ↓reduceIte, hP, q1, q2, Int.le_refl]); (repeat ((first       | (refine ⟨true, false, rfl, fun h => absurd h (by decide), ?_⟩) | (refine ⟨false, false, rfl, fun h => absurd h (by decide), ?_⟩) | refine ⟨_, _, rfl, fun _ => rfl, ?_⟩       | (refine .inl ⟨_, _, ⟨_, _, _, _, _, _, rfl, rfl, rfl, p_shape_Size _⟩, ?_⟩)       | (refine ⟨_, ?_, rfl, fun _ => ⟨_, ⟨_, _, _, _, _, _, rfl, rfl, rfl, p_shape_Size _⟩, ?_⟩, ?_⟩; rotate_left; (· (simp only [go_sem, seval, reduceIte, ↓reduceIte, hP, q1, q2, Int.le_refl]; first | done | exact rfl)))); (try simp only [go_sem, seval, reduceIte, ↓reduceIte, hP, q1, q2, Int.le_refl]))); (first | done | exact rfl)))     | ((first | apply T_sdF fw (by rw [hP]; rfl) (by decide +kernel) | apply T_drF fw (by rw [hP]; rfl) (by decide +kernel)); · ((try simp only [TOps.flat, List.cons_append, List.nil_append]); (repeat ((first | refine Y_g0 ?_ | refine Y_g (by (try simp only [go_sem, seval, reduceIte, ↓reduceIte, Bool.not_eq_true, reduceCtorEq, beq_false, beq_true, hP, q1, q2, Int.le_refl]); (first | done | exact rfl)) ?_); (first | refine Y_skip ?_ | ((first | apply Y_q | (refine Y_call ⟨_, _, _, _, _, _, rfl, rfl, rfl, (by rw [hP]; exact p_shape_Size _)⟩ ?_ ?_)); (· ((try simp only [go_sem, seval, reduceIte, ↓reduceIte, Bool.not_eq_true, reduceCtorEq, beq_false, beq_true, hP, q1, q2, Int.le_refl]); (first | done | exact rfl))))))); apply RunF_nil; (try simp only [go_sem, seval, reduceIte, ↓reduceIte, Bool.not_eq_true, reduceCtorEq, beq_false, beq_true, hP, q1, q2, Int.le_refl]); (first | done | exact rfl)))     | ((first | apply T_sd fw (by rw [hP]; rfl) | apply T_dr fw (by rw [hP]; rfl)); · ((try simp only [go_sem, seval, reduceIte, ↓reduceIte, bne, beq_false, beq_true, Bool.not_eq_true, Bool.if_true_right, decide_not, reduceCtorEq, hP, q1, q2, Int.le_refl]); (repeat ((first       | (refine ⟨_, ⟨_, _, _, _, _, _, rfl, rfl, rfl, p_shape_Size _⟩, ?_⟩)); (try simp only [go_sem, seval, reduceIte, ↓reduceIte, bne, beq_false, beq_true, Bool.not_eq_true, Bool.if_true_right, decide_not, reduceCtorEq, hP, q1, q2, Int.le_refl]))); (first | done | exact rfl)))     | refine T_seq ?_ | refine T_block ?_ | refine T_scopeJ 0 rfl ?_ | refine T_scope ?_ | refine T_goto ?_ | refine T_ret ?_ | refine T_skip ?_ | refine T_exit ?_ | refine T_label ?_     | refine T_condT rfl ?_ | refine T_condF rfl ?_     | refine T_condD rfl (fun _ => ?_) (fun _ => ?_)     | refine T_cond rfl (fun _ => ?_) (fun _ => ?_))
    · rename_i h
      exact ends_ret rfl rfl rfl (by simp only [resD]; rw [if_pos h]; rfl)
    · rename_i h
      refine T_for s.length (fun i (a : Int × List Int) => { env := [(0, .one (.p (eI s))), (1, .one (.p (.int .i64 a.1))), (6, .one (.msl 19 0 1 s.length (some s.length))), (21, .one (.p (.int .i64 s.length))), (22, .one (.p (.int .i64 i)))], σ := [(19, .arr true 1 (rI (List.replicate (s.length - i) 0 ++ a.2)))] })
        (fun i a => a.2.length = i ∧ (digs (s.reverse.drop i) a.1).reverse ++ a.2 = idxF s p) (p, []) ⟨rfl, by simp [idxF]⟩ (by simp; exact .refl _ _) fun i a hi hc => ?_
      obtain ⟨q, t⟩ := a
      obtain ⟨hc1, hc2⟩ := hc
      simp only at hc1 hc2
      rcases nth (s := s.reverse) (i := i) (by simpa using hi) with ⟨m, hlt, hm, hd⟩ | ⟨hi2, hd⟩
      · have hlt : i < s.length := by simpa using hlt
        have hm2 : s[s.length - 1 - i]? = some m := by rw [← hm, List.getElem?_reverse hlt]
        have hm1 : 1 ≤ m := (check_pos hck m (List.mem_of_getElem? hm2)).1
        have hm0 : ¬ m = 0 := by omega
        have w1 : IntKind.i64.wrap ((s.length : Int) - 1) = (s.length : Int) - 1 := wrap_in (by omega) (by omega)
        have w2 : IntKind.i64.wrap ((s.length : Int) - 1 - i) = ((s.length - 1 - i : Nat) : Int) := by rw [wrap_in (by omega) (by omega)]; omega
        have w3 := wrap_succ hlt hl.1
        have c1 : s.length - 1 - i < s.length := by omega
        have hrep : List.replicate (s.length - i) (0 : Int) = List.replicate (s.length - 1 - i + 1) 0 := by congr 1; omega
        have hz : (List.replicate (s.length - 1 - i + 1) (0 : Int) ++ t)[s.length - 1 - i]? = some 0 := by
          rw [List.getElem?_append_left (by simp)]; simp
        have hst := rep_set (s.length - 1 - i) (q.tmod m) t
        have hlen : (List.replicate (s.length - 1 - i + 1) (0 : Int) ++ t).length = s.length := by simp; omega
        rw [hrep]
        generalize List.replicate (s.length - 1 - i + 1) (0 : Int) ++ t = R at hz hst hlen
        repeat' (first     | refine T_then ?_ | refine then_ret ?_ | refine then_exit ?_ | refine then_goto ?_     | refine rnd_exit ?_ | refine rnd_ret ?_ | refine rnd_goto ?_     | refine noGo_normal ?_ | refine noGo_ret ?_ | refine noGo_exit ?_ | refine jmp_normal ?_ | refine jmp_ret ?_ | refine jmp_exit ?_ | refine jmp_goto ?_     | refine inB_normal ?_ | refine inB_ret ?_ | refine inB_goto ?_ | refine inB_exit ?_ | refine inB_exit_ne rfl ?_     | ((first | apply T_sr fw | apply T_reg fw); · ((try simp only [go_sem, seval, reduceIte, ↓reduceIte, hP, hlt, hm2, hm0, w1, w2, w3, c1, hz, hlen, rI_set]); (repeat ((first       | (refine ⟨true, false, rfl, fun h => absurd h (by decide), ?_⟩) | (refine ⟨false, false, rfl, fun h => absurd h (by decide), ?_⟩) | refine ⟨_, _, rfl, fun _ => rfl, ?_⟩); (try simp only [go_sem, seval, reduceIte, ↓reduceIte, hP, hlt, hm2, hm0, w1, w2, w3, c1, hz, hlen, rI_set]))); (first | done | exact rfl)))     | ((first | apply T_sdF fw (by rw [hP]; rfl) (by decide +kernel) | apply T_drF fw (by rw [hP]; rfl) (by decide +kernel)); · ((try simp only [TOps.flat, List.cons_append, List.nil_append]); (repeat ((first | refine Y_g0 ?_ | refine Y_g (by (try simp only [go_sem, seval, reduceIte, ↓reduceIte, Bool.not_eq_true, reduceCtorEq, beq_false, beq_true, hP, hlt, hm2, hm0, w1, w2, w3, c1, hz, hlen, rI_set]); (first | done | exact rfl)) ?_); (first | refine Y_skip ?_ | ((first | apply Y_q); (· ((try simp only [go_sem, seval, reduceIte, ↓reduceIte, Bool.not_eq_true, reduceCtorEq, beq_false, beq_true, hP, hlt, hm2, hm0, w1, w2, w3, c1, hz, hlen, rI_set]); (first | done | exact rfl))))))); apply RunF_nil; (try simp only [go_sem, seval, reduceIte, ↓reduceIte, Bool.not_eq_true, reduceCtorEq, beq_false, beq_true, hP, hlt, hm2, hm0, w1, w2, w3, c1, hz, hlen, rI_set]); (first | done | exact rfl)))     | ((first | apply T_sd fw (by rw [hP]; rfl) | apply T_dr fw (by rw [hP]; rfl)); · ((try simp only [go_sem, seval, reduceIte, ↓reduceIte, bne, beq_false, beq_true, Bool.not_eq_true, Bool.if_true_right, decide_not, reduceCtorEq, hP, hlt, hm2, hm0, w1, w2, w3, c1, hz, hlen, rI_set]); (first | done | exact rfl)))     | refine T_seq ?_ | refine T_block ?_ | refine T_scopeJ 0 rfl ?_ | refine T_scope ?_ | refine T_goto ?_ | refine T_ret ?_ | refine T_skip ?_ | refine T_exit ?_ | refine T_label ?_     | refine T_condT rfl ?_ | refine T_condF rfl ?_     | refine T_condD rfl (fun _ => ?_) (fun _ => ?_)     | refine T_cond rfl (fun _ => ?_) (fun _ => ?_))
        refine rnd_next hlt (IntKind.i64.wrap (q.tdiv m), q.tmod m :: t) ⟨by simp [hc1], ?_⟩ ?_
        · rw [hd] at hc2
          simp only [digs, List.reverse_cons, List.append_assoc, List.singleton_append, List.cons_append, List.nil_append] at hc2
          exact hc2
        · rw [hst, show s.length - 1 - i = s.length - (i + 1) from by omega]
          exact .refl _ _
      · have hi3 : i = s.length := by simpa using hi2
        subst hi3
        repeat' (first     | refine T_then ?_ | refine then_ret ?_ | refine then_exit ?_ | refine then_goto ?_     | refine rnd_exit ?_ | refine rnd_ret ?_ | refine rnd_goto ?_     | refine noGo_normal ?_ | refine noGo_ret ?_ | refine noGo_exit ?_ | refine jmp_normal ?_ | refine jmp_ret ?_ | refine jmp_exit ?_ | refine jmp_goto ?_     | refine inB_normal ?_ | refine inB_ret ?_ | refine inB_goto ?_ | refine inB_exit ?_ | refine inB_exit_ne rfl ?_     | ((first | apply T_sr fw | apply T_reg fw); · ((try simp only [go_sem, seval, reduceIte, ↓reduceIte, hP, Int.lt_irrefl, Nat.lt_irrefl]); (repeat ((first       | (refine ⟨true, false, rfl, fun h => absurd h (by decide), ?_⟩) | (refine ⟨false, false, rfl, fun h => absurd h (by decide), ?_⟩) | refine ⟨_, _, rfl, fun _ => rfl, ?_⟩); (try simp only [go_sem, seval, reduceIte, ↓reduceIte, hP, Int.lt_irrefl, Nat.lt_irrefl]))); (first | done | exact rfl)))     | ((first | apply T_sdF fw (by rw [hP]; rfl) (by decide +kernel) | apply T_drF fw (by rw [hP]; rfl) (by decide +kernel)); · ((try simp only [TOps.flat, List.cons_append, List.nil_append]); (repeat ((first | refine Y_g0 ?_ | refine Y_g (by (try simp only [go_sem, seval, reduceIte, ↓reduceIte, Bool.not_eq_true, reduceCtorEq, beq_false, beq_true, hP, Int.lt_irrefl, Nat.lt_irrefl]); (first | done | exact rfl)) ?_); (first | refine Y_skip ?_ | ((first | apply Y_q); (· ((try simp only [go_sem, seval, reduceIte, ↓reduceIte, Bool.not_eq_true, reduceCtorEq, beq_false, beq_true, hP, Int.lt_irrefl, Nat.lt_irrefl]); (first | done | exact rfl))))))); apply RunF_nil; (try simp only [go_sem, seval, reduceIte, ↓reduceIte, Bool.not_eq_true, reduceCtorEq, beq_false, beq_true, hP, Int.lt_irrefl, Nat.lt_irrefl]); (first | done | exact rfl)))     | ((first | apply T_sd fw (by rw [hP]; rfl) | apply T_dr fw (by rw [hP]; rfl)); · ((try simp only [go_sem, seval, reduceIte, ↓reduceIte, bne, beq_false, beq_true, Bool.not_eq_true, Bool.if_true_right, decide_not, reduceCtorEq, hP, Int.lt_irrefl, Nat.lt_irrefl]); (first | done | exact rfl)))     | refine T_seq ?_ | refine T_block ?_ | refine T_scopeJ 0 rfl ?_ | refine T_scope ?_ | refine T_goto ?_ | refine T_ret ?_ | refine T_skip ?_ | refine T_exit ?_ | refine T_label ?_     | refine T_condT rfl ?_ | refine T_condF rfl ?_     | refine T_condD rfl (fun _ => ?_) (fun _ => ?_)     | refine T_cond rfl (fun _ => ?_) (fun _ => ?_))
        have ht : t = idxF s p := by rw [← hc2, hd]; simp [digs]
        rw [if_neg (by rw [h]; simp)]
        rw [← ht]
        have e0 : List.replicate (s.length - s.length) (0 : Int) ++ t = t := by simp
        try rw [e0]
        exact ends_list2 (rows := rI t) rfl rfl (by simp [hc1])
  · have hs0 : sizeS s = 0 := by simp [sizeS, hck]
    rw [hs0]
    repeat' (first     | refine T_then ?_ | refine then_ret ?_ | refine then_exit ?_ | refine then_goto ?_     | refine rnd_exit ?_ | refine rnd_ret ?_ | refine rnd_goto ?_     | refine noGo_normal ?_ | refine noGo_ret ?_ | refine noGo_exit ?_ | refine jmp_normal ?_ | refine jmp_ret ?_ | refine jmp_exit ?_ | refine jmp_goto ?_     | refine inB_normal ?_ | refine inB_ret ?_ | refine inB_goto ?_ | refine inB_exit ?_ | refine inB_exit_ne rfl ?_     | ((first | apply T_sr fw | apply T_reg fw); · ((try simp only [go_sem, seval, reduceIte, ↓reduceIte, hP, hs0]); (repeat ((first       | (refine ⟨true, false, rfl, fun h => absurd h (by decide), ?_⟩) | (refine ⟨false, false, rfl, fun h => absurd h (by decide), ?_⟩) | refine ⟨_, _, rfl, fun _ => rfl, ?_⟩       | (refine .inl ⟨_, _, ⟨_, _, _, _, _, _, rfl, rfl, rfl, p_shape_Size _⟩, ?_⟩)       | (refine ⟨_, ?_, rfl, fun _ => ⟨_, ⟨_, _, _, _, _, _, rfl, rfl, rfl, p_shape_Size _⟩, ?_⟩, ?_⟩; rotate_left; (· (simp only [go_sem, seval, reduceIte, ↓reduceIte, hP, hs0]; first | done | exact rfl)))); (try simp only [go_sem, seval, reduceIte, ↓reduceIte, hP, hs0]))); (first | done | exact rfl)))     | ((first | apply T_sdF fw (by rw [hP]; rfl) (by decide +kernel) | apply T_drF fw (by rw [hP]; rfl) (by decide +kernel)); · ((try simp only [TOps.flat, List.cons_append, List.nil_append]); (repeat ((first | refine Y_g0 ?_ | refine Y_g (by (try simp only [go_sem, seval, reduceIte, ↓reduceIte, Bool.not_eq_true, reduceCtorEq, beq_false, beq_true, hP, hs0]); (first | done | exact rfl)) ?_); (first | refine Y_skip ?_ | ((first | apply Y_q | (refine Y_call ⟨_, _, _, _, _, _, rfl, rfl, rfl, (by rw [hP]; exact p_shape_Size _)⟩ ?_ ?_)); (· ((try simp only [go_sem, seval, reduceIte, ↓reduceIte, Bool.not_eq_true, reduceCtorEq, beq_false, beq_true, hP, hs0]); (first | done | exact rfl))))))); apply RunF_nil; (try simp only [go_sem, seval, reduceIte, ↓reduceIte, Bool.not_eq_true, reduceCtorEq, beq_false, beq_true, hP, hs0]); (first | done | exact rfl)))     | ((first | apply T_sd fw (by rw [hP]; rfl) | apply T_dr fw (by rw [hP]; rfl)); · ((try simp only [go_sem, seval, reduceIte, ↓reduceIte, bne, beq_false, beq_true, Bool.not_eq_true, Bool.if_true_right, decide_not, reduceCtorEq, hP, hs0]); (repeat ((first       | (refine ⟨_, ⟨_, _, _, _, _, _, rfl, rfl, rfl, p_shape_Size _⟩, ?_⟩)); (try simp only [go_sem, seval, reduceIte, ↓reduceIte, bne, beq_false, beq_true, Bool.not_eq_true, Bool.if_true_right, decide_not, reduceCtorEq, hP, hs0]))); (first | done | exact rfl)))     | refine T_seq ?_ | refine T_block ?_ | refine T_scopeJ 0 rfl ?_ | refine T_scope ?_ | refine T_goto ?_ | refine T_ret ?_ | refine T_skip ?_ | refine T_exit ?_ | refine T_label ?_     | refine T_condT rfl ?_ | refine T_condF rfl ?_     | refine T_condD rfl (fun _ => ?_) (fun _ => ?_)     | refine T_cond rfl (fun _ => ?_) (fun _ => ?_))
    · rename_i h
      exact ends_ret rfl rfl rfl (by simp only [resD]; rw [if_pos h]; rfl)
    · rename_i h
      simp only [Bool.or_eq_false_iff, decide_eq_false_iff_not] at h
      omega
end Go.AM

namespace Go.AM
open Go Go.Proofs
set_option maxRecDepth 100000
set_option linter.unusedSimpArgs false
set_option linter.unusedVariables false

def eqL : List Int → List Int → Bool
  | a :: s, b :: t => if (!(a == b)) = true then false else eqL s t
  | _, _ => true
def sameL (s t : List Int) : Bool := if ((s.length : Int) != t.length) = true then false else eqL s t

theorem p_slices_Equal (s t : List Int) : PureC Try.prog fi_slices_Equal_int_int [dI s, dI t] (dB (sameL s t)) := by
  refine pure_slices_Equal_int_int (by simp) fun G hP hn => ?_
  unfold a_slices_Equal_int_int
  refine T_wf 0 fun hl => ?_
  simp only [initE, lk, dI, eI, DV.av, wf_one, wf_sl, if_true, List.length_map] at hl
  repeat' (first     | refine T_then ?_ | refine then_ret ?_ | refine then_exit ?_ | refine then_goto ?_     | refine rnd_exit ?_ | refine rnd_ret ?_ | refine rnd_goto ?_     | refine noGo_normal ?_ | refine noGo_ret ?_ | refine noGo_exit ?_ | refine jmp_normal ?_ | refine jmp_ret ?_ | refine jmp_exit ?_ | refine jmp_goto ?_     | refine inB_normal ?_ | refine inB_ret ?_ | refine inB_goto ?_ | refine inB_exit ?_ | refine inB_exit_ne rfl ?_     | ((first | apply T_sr fw | apply T_reg fw); · ((try simp only [go_sem, seval, reduceIte, ↓reduceIte, hP]); (repeat ((first       | (refine ⟨true, false, rfl, fun h => absurd h (by decide), ?_⟩) | (refine ⟨false, false, rfl, fun h => absurd h (by decide), ?_⟩) | refine ⟨_, _, rfl, fun _ => rfl, ?_⟩); (try simp only [go_sem, seval, reduceIte, ↓reduceIte, hP]))); (first | done | exact rfl)))     | ((first | apply T_sdF fw (by rw [hP]; rfl) (by decide +kernel) | apply T_drF fw (by rw [hP]; rfl) (by decide +kernel)); · ((try simp only [TOps.flat, List.cons_append, List.nil_append]); (repeat ((first | refine Y_g0 ?_ | refine Y_g (by (try simp only [go_sem, seval, reduceIte, ↓reduceIte, Bool.not_eq_true, reduceCtorEq, beq_false, beq_true, hP]); (first | done | exact rfl)) ?_); (first | refine Y_skip ?_ | ((first | apply Y_q); (· ((try simp only [go_sem, seval, reduceIte, ↓reduceIte, Bool.not_eq_true, reduceCtorEq, beq_false, beq_true, hP]); (first | done | exact rfl))))))); apply RunF_nil; (try simp only [go_sem, seval, reduceIte, ↓reduceIte, Bool.not_eq_true, reduceCtorEq, beq_false, beq_true, hP]); (first | done | exact rfl)))     | ((first | apply T_sd fw (by rw [hP]; rfl) | apply T_dr fw (by rw [hP]; rfl)); · ((try simp only [go_sem, seval, reduceIte, ↓reduceIte, bne, beq_false, beq_true, Bool.not_eq_true, Bool.if_true_right, decide_not, reduceCtorEq, hP]); (first | done | exact rfl)))     | refine T_seq ?_ | refine T_block ?_ | refine T_scopeJ 0 rfl ?_ | refine T_scope ?_ | refine T_goto ?_ | refine T_ret ?_ | refine T_skip ?_ | refine T_exit ?_ | refine T_label ?_     | refine T_condT rfl ?_ | refine T_condF rfl ?_     | refine T_condD rfl (fun _ => ?_) (fun _ => ?_)     | refine T_cond rfl (fun _ => ?_) (fun _ => ?_))
  · rename_i h
    exact ends_ret rfl rfl rfl (by simp only [resD, sameL]; rw [if_pos h])
  · rename_i h
    have hxl : t.length = s.length := by
      simp only [bne_eq_false_iff_eq] at h
      omega
    refine T_for s.length (fun i (_ : Unit) => { env := [(0, .one (.p (eI s))), (1, .one (.p (eI t))), (12, .one (.p (.int .i64 s.length))), (13, .one (.p (.int .i64 i)))], σ := [] })
      (fun i _ => eqL (s.drop i) (t.drop i) = eqL s t) () rfl (.refl _ _) fun i _ hi hc => ?_
    rcases nth hi with ⟨m, hlt, hm, hd⟩ | ⟨rfl, hd⟩
    · rcases nth (s := t) (i := i) (by omega) with ⟨k, hlt2, hk, hd2⟩ | ⟨hi2, _⟩
      · have hw := wrap_succ hlt hl.1
        rw [hd, hd2] at hc
        simp only [eqL] at hc
        repeat' (first     | refine T_then ?_ | refine then_ret ?_ | refine then_exit ?_ | refine then_goto ?_     | refine rnd_exit ?_ | refine rnd_ret ?_ | refine rnd_goto ?_     | refine noGo_normal ?_ | refine noGo_ret ?_ | refine noGo_exit ?_ | refine jmp_normal ?_ | refine jmp_ret ?_ | refine jmp_exit ?_ | refine jmp_goto ?_     | refine inB_normal ?_ | refine inB_ret ?_ | refine inB_goto ?_ | refine inB_exit ?_ | refine inB_exit_ne rfl ?_     | ((first | apply T_sr fw | apply T_reg fw); · ((try simp only [go_sem, seval, reduceIte, ↓reduceIte, hP, hm, hk, hlt, hlt2, hw]); (repeat ((first       | (refine ⟨true, false, rfl, fun h => absurd h (by decide), ?_⟩) | (refine ⟨false, false, rfl, fun h => absurd h (by decide), ?_⟩) | refine ⟨_, _, rfl, fun _ => rfl, ?_⟩); (try simp only [go_sem, seval, reduceIte, ↓reduceIte, hP, hm, hk, hlt, hlt2, hw]))); (first | done | exact rfl)))     | ((first | apply T_sdF fw (by rw [hP]; rfl) (by decide +kernel) | apply T_drF fw (by rw [hP]; rfl) (by decide +kernel)); · ((try simp only [TOps.flat, List.cons_append, List.nil_append]); (repeat ((first | refine Y_g0 ?_ | refine Y_g (by (try simp only [go_sem, seval, reduceIte, ↓reduceIte, Bool.not_eq_true, reduceCtorEq, beq_false, beq_true, hP, hm, hk, hlt, hlt2, hw]); (first | done | exact rfl)) ?_); (first | refine Y_skip ?_ | ((first | apply Y_q); (· ((try simp only [go_sem, seval, reduceIte, ↓reduceIte, Bool.not_eq_true, reduceCtorEq, beq_false, beq_true, hP, hm, hk, hlt, hlt2, hw]); (first | done | exact rfl))))))); apply RunF_nil; (try simp only [go_sem, seval, reduceIte, ↓reduceIte, Bool.not_eq_true, reduceCtorEq, beq_false, beq_true, hP, hm, hk, hlt, hlt2, hw]); (first | done | exact rfl)))     | ((first | apply T_sd fw (by rw [hP]; rfl) | apply T_dr fw (by rw [hP]; rfl)); · ((try simp only [go_sem, seval, reduceIte, ↓reduceIte, bne, beq_false, beq_true, Bool.not_eq_true, Bool.if_true_right, decide_not, reduceCtorEq, hP, hm, hk, hlt, hlt2, hw]); (first | done | exact rfl)))     | refine T_seq ?_ | refine T_block ?_ | refine T_scopeJ 0 rfl ?_ | refine T_scope ?_ | refine T_goto ?_ | refine T_ret ?_ | refine T_skip ?_ | refine T_exit ?_ | refine T_label ?_     | refine T_condT rfl ?_ | refine T_condF rfl ?_     | refine T_condD rfl (fun _ => ?_) (fun _ => ?_)     | refine T_cond rfl (fun _ => ?_) (fun _ => ?_))
        · rename_i h2
          have h2 : (!(m == k)) = true := h2
          rw [if_pos h2] at hc
          exact ends_ret rfl rfl rfl (by simp only [resD, sameL]; rw [if_neg (by rw [h]; simp), ← hc])
        · rename_i h2
          have h2 : (!(m == k)) = false := h2
          rw [if_neg (by rw [h2]; simp)] at hc
          exact rnd_next hlt () hc (.refl _ _)
      · omega
    · rw [hd] at hc
      repeat' (first     | refine T_then ?_ | refine then_ret ?_ | refine then_exit ?_ | refine then_goto ?_     | refine rnd_exit ?_ | refine rnd_ret ?_ | refine rnd_goto ?_     | refine noGo_normal ?_ | refine noGo_ret ?_ | refine noGo_exit ?_ | refine jmp_normal ?_ | refine jmp_ret ?_ | refine jmp_exit ?_ | refine jmp_goto ?_     | refine inB_normal ?_ | refine inB_ret ?_ | refine inB_goto ?_ | refine inB_exit ?_ | refine inB_exit_ne rfl ?_     | ((first | apply T_sr fw | apply T_reg fw); · ((try simp only [go_sem, seval, reduceIte, ↓reduceIte, Int.lt_irrefl, Nat.lt_irrefl]); (repeat ((first       | (refine ⟨true, false, rfl, fun h => absurd h (by decide), ?_⟩) | (refine ⟨false, false, rfl, fun h => absurd h (by decide), ?_⟩) | refine ⟨_, _, rfl, fun _ => rfl, ?_⟩); (try simp only [go_sem, seval, reduceIte, ↓reduceIte, Int.lt_irrefl, Nat.lt_irrefl]))); (first | done | exact rfl)))     | ((first | apply T_sdF fw (by rw [hP]; rfl) (by decide +kernel) | apply T_drF fw (by rw [hP]; rfl) (by decide +kernel)); · ((try simp only [TOps.flat, List.cons_append, List.nil_append]); (repeat ((first | refine Y_g0 ?_ | refine Y_g (by (try simp only [go_sem, seval, reduceIte, ↓reduceIte, Bool.not_eq_true, reduceCtorEq, beq_false, beq_true, Int.lt_irrefl, Nat.lt_irrefl]); (first | done | exact rfl)) ?_); (first | refine Y_skip ?_ | ((first | apply Y_q); (· ((try simp only [go_sem, seval, reduceIte, ↓reduceIte, Bool.not_eq_true, reduceCtorEq, beq_false, beq_true, Int.lt_irrefl, Nat.lt_irrefl]); (first | done | exact rfl))))))); apply RunF_nil; (try simp only [go_sem, seval, reduceIte, ↓reduceIte, Bool.not_eq_true, reduceCtorEq, beq_false, beq_true, Int.lt_irrefl, Nat.lt_irrefl]); (first | done | exact rfl)))     | ((first | apply T_sd fw (by rw [hP]; rfl) | apply T_dr fw (by rw [hP]; rfl)); · ((try simp only [go_sem, seval, reduceIte, ↓reduceIte, bne, beq_false, beq_true, Bool.not_eq_true, Bool.if_true_right, decide_not, reduceCtorEq, Int.lt_irrefl, Nat.lt_irrefl]); (first | done | exact rfl)))     | refine T_seq ?_ | refine T_block ?_ | refine T_scopeJ 0 rfl ?_ | refine T_scope ?_ | refine T_goto ?_ | refine T_ret ?_ | refine T_skip ?_ | refine T_exit ?_ | refine T_label ?_     | refine T_condT rfl ?_ | refine T_condF rfl ?_     | refine T_condD rfl (fun _ => ?_) (fun _ => ?_)     | refine T_cond rfl (fun _ => ?_) (fun _ => ?_))
      simp only [eqL] at hc
      exact ends_ret rfl rfl rfl (by simp only [resD, sameL]; rw [if_neg (by rw [h]; simp), ← hc])
end Go.AM

namespace Go.AM
open Go Go.Proofs
set_option maxRecDepth 100000
set_option linter.unusedSimpArgs false
set_option linter.unusedVariables false

theorem p_ref02_Same (s t : List Int) : PureC Try.prog fi_fullerref02_Same [dI s, dI t] (dB (sameL s t)) := by
  refine pure_fullerref02_Same (by simp) fun G hP hn => ?_
  unfold a_fullerref02_Same
  refine T_wf 0 fun hl => ?_
  simp only [initE, lk, dI, eI, DV.av, wf_one, wf_sl, if_true, List.length_map] at hl
  repeat' (first     | refine T_then ?_ | refine then_ret ?_ | refine then_exit ?_ | refine then_goto ?_     | refine rnd_exit ?_ | refine rnd_ret ?_ | refine rnd_goto ?_     | refine noGo_normal ?_ | refine noGo_ret ?_ | refine noGo_exit ?_ | refine jmp_normal ?_ | refine jmp_ret ?_ | refine jmp_exit ?_ | refine jmp_goto ?_     | refine inB_normal ?_ | refine inB_ret ?_ | refine inB_goto ?_ | refine inB_exit ?_ | refine inB_exit_ne rfl ?_     | ((first | apply T_sr fw | apply T_reg fw); · ((try simp only [go_sem, seval, reduceIte, ↓reduceIte, hP]); (repeat ((first       | (refine ⟨true, false, rfl, fun h => absurd h (by decide), ?_⟩) | (refine ⟨false, false, rfl, fun h => absurd h (by decide), ?_⟩) | refine ⟨_, _, rfl, fun _ => rfl, ?_⟩); (try simp only [go_sem, seval, reduceIte, ↓reduceIte, hP]))); (first | done | exact rfl)))     | ((first | apply T_sdF fw (by rw [hP]; rfl) (by decide +kernel) | apply T_drF fw (by rw [hP]; rfl) (by decide +kernel)); · ((try simp only [TOps.flat, List.cons_append, List.nil_append]); (repeat ((first | refine Y_g0 ?_ | refine Y_g (by (try simp only [go_sem, seval, reduceIte, ↓reduceIte, Bool.not_eq_true, reduceCtorEq, beq_false, beq_true, hP]); (first | done | exact rfl)) ?_); (first | refine Y_skip ?_ | ((first | apply Y_q); (· ((try simp only [go_sem, seval, reduceIte, ↓reduceIte, Bool.not_eq_true, reduceCtorEq, beq_false, beq_true, hP]); (first | done | exact rfl))))))); apply RunF_nil; (try simp only [go_sem, seval, reduceIte, ↓reduceIte, Bool.not_eq_true, reduceCtorEq, beq_false, beq_true, hP]); (first | done | exact rfl)))     | ((first | apply T_sd fw (by rw [hP]; rfl) | apply T_dr fw (by rw [hP]; rfl)); · ((try simp only [go_sem, seval, reduceIte, ↓reduceIte, bne, beq_false, beq_true, Bool.not_eq_true, Bool.if_true_right, decide_not, reduceCtorEq, hP]); (first | done | exact rfl)))     | refine T_seq ?_ | refine T_block ?_ | refine T_scopeJ 0 rfl ?_ | refine T_scope ?_ | refine T_goto ?_ | refine T_ret ?_ | refine T_skip ?_ | refine T_exit ?_ | refine T_label ?_     | refine T_condT rfl ?_ | refine T_condF rfl ?_     | refine T_condD rfl (fun _ => ?_) (fun _ => ?_)     | refine T_cond rfl (fun _ => ?_) (fun _ => ?_))
  · rename_i h
    exact ends_ret rfl rfl rfl (by simp only [resD, sameL]; rw [if_pos h])
  · rename_i h
    have hxl : t.length = s.length := by
      simp only [bne_eq_false_iff_eq] at h
      omega
    refine T_for s.length (fun i (_ : Unit) => { env := [(0, .one (.p (eI s))), (1, .one (.p (eI t))), (5, .one (.p (.int .i64 i)))], σ := [] })
      (fun i _ => eqL (s.drop i) (t.drop i) = eqL s t) () rfl (.refl _ _) fun i _ hi hc => ?_
    rcases nth hi with ⟨m, hlt, hm, hd⟩ | ⟨rfl, hd⟩
    · rcases nth (s := t) (i := i) (by omega) with ⟨k, hlt2, hk, hd2⟩ | ⟨hi2, _⟩
      · have hw := wrap_succ hlt hl.1
        rw [hd, hd2] at hc
        simp only [eqL] at hc
        repeat' (first     | refine T_then ?_ | refine then_ret ?_ | refine then_exit ?_ | refine then_goto ?_     | refine rnd_exit ?_ | refine rnd_ret ?_ | refine rnd_goto ?_     | refine noGo_normal ?_ | refine noGo_ret ?_ | refine noGo_exit ?_ | refine jmp_normal ?_ | refine jmp_ret ?_ | refine jmp_exit ?_ | refine jmp_goto ?_     | refine inB_normal ?_ | refine inB_ret ?_ | refine inB_goto ?_ | refine inB_exit ?_ | refine inB_exit_ne rfl ?_     | ((first | apply T_sr fw | apply T_reg fw); · ((try simp only [go_sem, seval, reduceIte, ↓reduceIte, hP, hm, hk, hlt, hlt2, hw]); (repeat ((first       | (refine ⟨true, false, rfl, fun h => absurd h (by decide), ?_⟩) | (refine ⟨false, false, rfl, fun h => absurd h (by decide), ?_⟩) | refine ⟨_, _, rfl, fun _ => rfl, ?_⟩); (try simp only [go_sem, seval, reduceIte, ↓reduceIte, hP, hm, hk, hlt, hlt2, hw]))); (first | done | exact rfl)))     | ((first | apply T_sdF fw (by rw [hP]; rfl) (by decide +kernel) | apply T_drF fw (by rw [hP]; rfl) (by decide +kernel)); · ((try simp only [TOps.flat, List.cons_append, List.nil_append]); (repeat ((first | refine Y_g0 ?_ | refine Y_g (by (try simp only [go_sem, seval, reduceIte, ↓reduceIte, Bool.not_eq_true, reduceCtorEq, beq_false, beq_true, hP, hm, hk, hlt, hlt2, hw]); (first | done | exact rfl)) ?_); (first | refine Y_skip ?_ | ((first | apply Y_q); (· ((try simp only [go_sem, seval, reduceIte, ↓reduceIte, Bool.not_eq_true, reduceCtorEq, beq_false, beq_true, hP, hm, hk, hlt, hlt2, hw]); (first | done | exact rfl))))))); apply RunF_nil; (try simp only [go_sem, seval, reduceIte, ↓reduceIte, Bool.not_eq_true, reduceCtorEq, beq_false, beq_true, hP, hm, hk, hlt, hlt2, hw]); (first | done | exact rfl)))     | ((first | apply T_sd fw (by rw [hP]; rfl) | apply T_dr fw (by rw [hP]; rfl)); · ((try simp only [go_sem, seval, reduceIte, ↓reduceIte, bne, beq_false, beq_true, Bool.not_eq_true, Bool.if_true_right, decide_not, reduceCtorEq, hP, hm, hk, hlt, hlt2, hw]); (first | done | exact rfl)))     | refine T_seq ?_ | refine T_block ?_ | refine T_scopeJ 0 rfl ?_ | refine T_scope ?_ | refine T_goto ?_ | refine T_ret ?_ | refine T_skip ?_ | refine T_exit ?_ | refine T_label ?_     | refine T_condT rfl ?_ | refine T_condF rfl ?_     | refine T_condD rfl (fun _ => ?_) (fun _ => ?_)     | refine T_cond rfl (fun _ => ?_) (fun _ => ?_))
        · rename_i h2
          have h2 : (!(m == k)) = true := h2
          rw [if_pos h2] at hc
          exact ends_ret rfl rfl rfl (by simp only [resD, sameL]; rw [if_neg (by rw [h]; simp), ← hc])
        · rename_i h2
          have h2 : (!(m == k)) = false := h2
          rw [if_neg (by rw [h2]; simp)] at hc
          exact rnd_next hlt () hc (.refl _ _)
      · omega
    · rw [hd] at hc
      repeat' (first     | refine T_then ?_ | refine then_ret ?_ | refine then_exit ?_ | refine then_goto ?_     | refine rnd_exit ?_ | refine rnd_ret ?_ | refine rnd_goto ?_     | refine noGo_normal ?_ | refine noGo_ret ?_ | refine noGo_exit ?_ | refine jmp_normal ?_ | refine jmp_ret ?_ | refine jmp_exit ?_ | refine jmp_goto ?_     | refine inB_normal ?_ | refine inB_ret ?_ | refine inB_goto ?_ | refine inB_exit ?_ | refine inB_exit_ne rfl ?_     | ((first | apply T_sr fw | apply T_reg fw); · ((try simp only [go_sem, seval, reduceIte, ↓reduceIte, Int.lt_irrefl, Nat.lt_irrefl]); (repeat ((first       | (refine ⟨true, false, rfl, fun h => absurd h (by decide), ?_⟩) | (refine ⟨false, false, rfl, fun h => absurd h (by decide), ?_⟩) | refine ⟨_, _, rfl, fun _ => rfl, ?_⟩); (try simp only [go_sem, seval, reduceIte, ↓reduceIte, Int.lt_irrefl, Nat.lt_irrefl]))); (first | done | exact rfl)))     | ((first | apply T_sdF fw (by rw [hP]; rfl) (by decide +kernel) | apply T_drF fw (by rw [hP]; rfl) (by decide +kernel)); · ((try simp only [TOps.flat, List.cons_append, List.nil_append]); (repeat ((first | refine Y_g0 ?_ | refine Y_g (by (try simp only [go_sem, seval, reduceIte, ↓reduceIte, Bool.not_eq_true, reduceCtorEq, beq_false, beq_true, Int.lt_irrefl, Nat.lt_irrefl]); (first | done | exact rfl)) ?_); (first | refine Y_skip ?_ | ((first | apply Y_q); (· ((try simp only [go_sem, seval, reduceIte, ↓reduceIte, Bool.not_eq_true, reduceCtorEq, beq_false, beq_true, Int.lt_irrefl, Nat.lt_irrefl]); (first | done | exact rfl))))))); apply RunF_nil; (try simp only [go_sem, seval, reduceIte, ↓reduceIte, Bool.not_eq_true, reduceCtorEq, beq_false, beq_true, Int.lt_irrefl, Nat.lt_irrefl]); (first | done | exact rfl)))     | ((first | apply T_sd fw (by rw [hP]; rfl) | apply T_dr fw (by rw [hP]; rfl)); · ((try simp only [go_sem, seval, reduceIte, ↓reduceIte, bne, beq_false, beq_true, Bool.not_eq_true, Bool.if_true_right, decide_not, reduceCtorEq, Int.lt_irrefl, Nat.lt_irrefl]); (first | done | exact rfl)))     | refine T_seq ?_ | refine T_block ?_ | refine T_scopeJ 0 rfl ?_ | refine T_scope ?_ | refine T_goto ?_ | refine T_ret ?_ | refine T_skip ?_ | refine T_exit ?_ | refine T_label ?_     | refine T_condT rfl ?_ | refine T_condF rfl ?_     | refine T_condD rfl (fun _ => ?_) (fun _ => ?_)     | refine T_cond rfl (fun _ => ?_) (fun _ => ?_))
      simp only [eqL] at hc
      exact ends_ret rfl rfl rfl (by simp only [resD, sameL]; rw [if_neg (by rw [h]; simp), ← hc])
end Go.AM

namespace Go.AM
open Go Go.Proofs
set_option linter.unusedSimpArgs false
set_option linter.unusedVariables false

/-- the product of sides, as a number -/
def prd : List Int → Int
  | [] => 1
  | m :: s => m * prd s

def Sides (s : List Int) : Prop := ∀ m ∈ s, 1 ≤ m ∧ m ≤ 16

theorem Sides.tail {m : Int} {s : List Int} (h : Sides (m :: s)) : Sides s := fun k hk => h k (by simp [hk])
theorem Sides.head {m : Int} {s : List Int} (h : Sides (m :: s)) : 1 ≤ m ∧ m ≤ 16 := h m (by simp)

theorem prd_pos : ∀ {s : List Int}, Sides s → 1 ≤ prd s
  | [], _ => by simp [prd]
  | m :: s, h => by
    have h1 := h.head
    have h2 := prd_pos h.tail
    simp only [prd]
    have : 1 * 1 ≤ m * prd s := Int.mul_le_mul h1.1 h2 (by omega) (by omega)
    omega

theorem prd_le : ∀ {s : List Int}, Sides s → prd s ≤ 16 ^ s.length
  | [], _ => by simp [prd]
  | m :: s, h => by
    have h1 := h.head
    have h2 := prd_le h.tail
    have h3 := prd_pos h.tail
    simp only [prd, List.length_cons]
    rw [Int.pow_succ, Int.mul_comm]
    exact Int.mul_le_mul h2 h1.2 (by omega) (by have : (0 : Int) ≤ 16 ^ s.length := Int.pow_nonneg (by decide); omega)

theorem prodW_eq : ∀ {s : List Int} {a : Int}, Sides s → 0 ≤ a → a * prd s ≤ 4611686018427387904 → prodW s a = a * prd s
  | [], a, _, _, _ => by simp [prodW, prd]
  | m :: s, a, h, h0, h1 => by
    have hm := h.head
    have hp := prd_pos h.tail
    simp only [prd, ← Int.mul_assoc] at h1
    have h2 : 0 ≤ a * m := Int.mul_nonneg h0 (by omega)
    have h3 : a * m * 1 ≤ a * m * prd s := Int.mul_le_mul_of_nonneg_left hp h2
    simp only [prodW]
    rw [wrap_in (by omega) (by omega), prodW_eq h.tail h2 h1]
    simp [prd, Int.mul_assoc]

theorem chk_eq : ∀ {s : List Int} {a : Int}, Sides s → chk s a = prodW s a
  | [], a, _ => rfl
  | m :: s, a, h => by
    have hm := h.head
    simp only [chk, prodW]
    rw [if_neg (by omega), chk_eq h.tail]

theorem chk_not : ∀ {s : List Int} {a : Int}, ¬ Sides s → chk s a = 0
  | [], a, h => absurd (fun m hm => by simp at hm) h
  | m :: s, a, h => by
    simp only [chk]
    split
    · rfl
    · rename_i hm
      refine chk_not fun hs => h fun k hk => ?_
      rcases List.mem_cons.1 hk with rfl | hk
      · omega
      · exact hs k hk

/-- a shape that may be -/
def ShapeOk (s : List Int) : Prop := s.length ≤ 3 ∧ Sides s ∧ prd s ≤ 64

theorem prodW_one {s : List Int} (h : Sides s) (h3 : s.length ≤ 3) : prodW s 1 = prd s := by
  have h1 := prd_le h
  have h2 : (16 : Int) ^ s.length ≤ 16 ^ 3 := by
    have : s.length = 0 ∨ s.length = 1 ∨ s.length = 2 ∨ s.length = 3 := by omega
    rcases this with e | e | e | e <;> rw [e] <;> decide
  have h4 : (16 : Int) ^ 3 = 4096 := by decide
  rw [prodW_eq h (by decide) (by omega)]
  omega

theorem checkS_iff {s : List Int} : checkS s = true ↔ ShapeOk s := by
  unfold checkS ShapeOk
  simp only [Bool.and_eq_true, Bool.not_eq_true', decide_eq_false_iff_not, decide_eq_true_eq]
  constructor
  · rintro ⟨h1, h2, h3⟩
    have h4 : s.length ≤ 3 := by omega
    by_cases hs : Sides s
    · rw [chk_eq hs, prodW_one hs h4] at h3
      exact ⟨h4, hs, h3⟩
    · rw [chk_not hs] at h2; omega
  · rintro ⟨h1, hs, h3⟩
    rw [chk_eq hs, prodW_one hs h1]
    have := prd_pos hs
    exact ⟨by omega, by omega, h3⟩

theorem sizeS_ok {s : List Int} (h : ShapeOk s) : sizeS s = prd s := by
  unfold sizeS
  rw [if_pos (checkS_iff.2 h), prodW_one h.2.1 h.1]
theorem sizeS_not {s : List Int} (h : ¬ ShapeOk s) : sizeS s = 0 := by
  unfold sizeS
  rw [if_neg (fun h' => h (checkS_iff.1 h'))]
theorem sizeS_nn (s : List Int) : 0 ≤ sizeS s ∧ sizeS s ≤ 64 := by
  by_cases h : ShapeOk s
  · rw [sizeS_ok h]
    have := prd_pos h.2.1
    have := h.2.2
    omega
  · rw [sizeS_not h]; omega
/-- an index of a shape -/
inductive InIdx : List Int → List Int → Prop
  | nil : InIdx [] []
  | cons {m k : Int} {s x : List Int} (h0 : 0 ≤ k) (h1 : k < m) (h : InIdx s x) : InIdx (m :: s) (k :: x)

/-- where it stands -/
def pl : List Int → List Int → Int → Int
  | m :: s, k :: x, a => pl s x (a * m + k)
  | _, _, a => a

theorem InIdx.length {s x : List Int} (h : InIdx s x) : s.length = x.length := by
  induction h with
  | nil => rfl
  | cons _ _ _ ih => simp [ih]

theorem pl_add {s x : List Int} (h : InIdx s x) (a : Int) : pl s x a = a * prd s + pl s x 0 := by
  induction h generalizing a with
  | nil => simp [pl, prd]
  | @cons m k s x h0 h1 h ih =>
    simp only [pl, prd]
    rw [ih (a * m + k), ih (0 * m + k)]
    simp [Int.add_mul, Int.mul_assoc, Int.add_assoc]

theorem pl_lt {s x : List Int} (h : InIdx s x) : 0 ≤ pl s x 0 ∧ pl s x 0 < prd s := by
  induction h with
  | nil => simp [pl, prd]
  | @cons m k s x h0 h1 h ih =>
    simp only [pl, prd]
    rw [pl_add h]
    have hp : 0 ≤ prd s := by omega
    have h2 : 0 ≤ k * prd s := Int.mul_nonneg h0 hp
    have h3 : (k + 1) * prd s ≤ m * prd s := Int.mul_le_mul_of_nonneg_right (by omega) hp
    simp only [Int.zero_mul, Int.zero_add]
    rw [Int.add_mul] at h3
    omega

theorem plW_ok {s x : List Int} (h : InIdx s x) : ∀ {a : Int}, 0 ≤ a → (a + 1) * prd s ≤ 4611686018427387904 → plW s x a = (pl s x a, 0) := by
  induction h with
  | nil => intro a _ _; rfl
  | @cons m k s x h0 h1 h ih =>
    intro a ha hb
    have hp : 1 ≤ prd s := by have := pl_lt h; omega
    have hm : 1 ≤ m := by omega
    simp only [prd, ← Int.mul_assoc] at hb
    have e1 : (a + 1) * m = a * m + m := by rw [Int.add_mul]; omega
    have h2 : 0 ≤ a * m := Int.mul_nonneg ha (by omega)
    have h3 : (a + 1) * m * 1 ≤ (a + 1) * m * prd s := Int.mul_le_mul_of_nonneg_left hp (by omega)
    have h4 : (a * m + k + 1) * prd s ≤ (a + 1) * m * prd s := Int.mul_le_mul_of_nonneg_right (by omega) (by omega)
    simp only [plW, pl]
    rw [if_neg (by omega), wrap_in (n := a * m) (by omega) (by omega), wrap_in (by omega) (by omega), ih (by omega) (by omega)]

theorem placeF_ok {s x : List Int} (h : ShapeOk s) (hx : InIdx s x) : placeF s x = (pl s x 0, 0) := by
  unfold placeF
  have := prd_pos h.2.1
  have := h.2.2
  rw [if_neg (by simp [checkS_iff.2 h, hx.length]), plW_ok hx (by omega) (by omega)]

theorem checkT_iff {s d : List Int} : checkT s d = true ↔ ShapeOk s ∧ (d.length : Int) = prd s := by
  unfold checkT
  simp only [Bool.and_eq_true, beq_iff_eq, checkS_iff]
  constructor
  · rintro ⟨h1, h2⟩; rw [sizeS_ok h1] at h2; exact ⟨h1, h2⟩
  · rintro ⟨h1, h2⟩; rw [sizeS_ok h1]; exact ⟨h1, h2⟩

/-- the number at an index -/
def atF (s d x : List Int) : Int × Int := if (!checkT s d) = true then (0, 30) else if ((placeF s x).2 != 0) = true then (0, (placeF s x).2) else ((d[(placeF s x).1.toNat]?).getD 0, 0)

theorem atF_ok {s d x : List Int} (h : checkT s d = true) (hx : InIdx s x) : atF s d x = ((d[(pl s x 0).toNat]?).getD 0, 0) := by
  unfold atF
  rw [if_neg (by simp [h]), placeF_ok (checkT_iff.1 h).1 hx]
  simp
end Go.AM

namespace Go.AM
open Go Go.Proofs
set_option linter.unusedSimpArgs false
set_option linter.unusedVariables false

/-- the index of a place -/
def ix : List Int → Int → List Int
  | [], _ => []
  | m :: s, p => (p / prd s) % m :: ix s p

def dg : List Int → Int → List Int
  | [], _ => []
  | n :: r, p => p % n :: dg r (p / n)

theorem digs_eq : ∀ {l : List Int} {p : Int}, Sides l → 0 ≤ p → p ≤ 4611686018427387904 → digs l p = dg l p
  | [], _, _, _, _ => rfl
  | n :: r, p, h, h0, h1 => by
    have hn := h.head
    have h2 : 0 ≤ p / n := Int.ediv_nonneg h0 (by omega)
    have h3 : p / n ≤ p := Int.ediv_le_self n h0
    simp only [digs, dg]
    rw [Int.tmod_eq_emod_of_nonneg h0, Int.tdiv_eq_ediv_of_nonneg h0, wrap_in (by omega) (by omega), digs_eq h.tail h2 (by omega)]

theorem prd_append : ∀ (l k : List Int), prd (l ++ k) = prd l * prd k
  | [], k => by simp [prd]
  | m :: l, k => by simp [prd, prd_append l k, Int.mul_assoc]
theorem prd_reverse : ∀ (l : List Int), prd l.reverse = prd l
  | [] => rfl
  | m :: l => by simp [prd_append, prd_reverse l, prd, Int.mul_comm]

theorem dg_append : ∀ {l : List Int} {m p : Int}, Sides l → dg (l ++ [m]) p = dg l p ++ [(p / prd l) % m]
  | [], m, p, _ => by simp [dg, prd]
  | n :: l, m, p, h => by
    have hn := h.head
    simp only [List.cons_append, dg, prd]
    rw [dg_append h.tail, Int.ediv_ediv_of_nonneg (by omega)]

theorem Sides.reverse {s : List Int} (h : Sides s) : Sides s.reverse := fun m hm => h m (by simpa using hm)

theorem dg_rev : ∀ {s : List Int} {p : Int}, Sides s → (dg s.reverse p).reverse = ix s p
  | [], _, _ => rfl
  | m :: s, p, h => by
    simp only [List.reverse_cons, ix]
    rw [dg_append h.tail.reverse, List.reverse_append, prd_reverse]
    simp [dg_rev h.tail]

theorem idxF_eq {s : List Int} {p : Int} (h : Sides s) (h0 : 0 ≤ p) (h1 : p ≤ 4611686018427387904) : idxF s p = ix s p := by
  unfold idxF
  rw [digs_eq h.reverse h0 h1, dg_rev h]

theorem ix_in : ∀ {s : List Int} {p : Int}, Sides s → InIdx s (ix s p)
  | [], _, _ => .nil
  | m :: s, p, h => by
    have hm := h.head
    exact .cons (Int.emod_nonneg _ (by omega)) (Int.emod_lt_of_pos _ (by omega)) (ix_in h.tail)

theorem ix_pl {s x : List Int} (h : InIdx s x) (hs : Sides s) (a : Int) : ix s (a * prd s + pl s x 0) = x := by
  induction h generalizing a with
  | nil => rfl
  | @cons m k s x h0 h1 h ih =>
    have hl := pl_lt h
    have hp := prd_pos hs.tail
    simp only [ix, prd, pl]
    rw [pl_add h]
    have e : a * (m * prd s) + ((0 * m + k) * prd s + pl s x 0) = (a * m + k) * prd s + pl s x 0 := by
      simp [Int.add_mul, Int.mul_assoc, Int.add_assoc]
    rw [e, ih hs.tail]
    congr 1
    rw [Int.add_comm, Int.add_mul_ediv_right _ _ (by omega), Int.ediv_eq_zero_of_lt hl.1 hl.2, Int.zero_add, Int.mul_comm a m, Int.add_comm, Int.add_mul_emod_self_left]
    exact Int.emod_eq_of_lt h0 h1

theorem ix_pl0 {s x : List Int} (h : InIdx s x) (hs : Sides s) : ix s (pl s x 0) = x := by
  have := ix_pl h hs 0
  simpa using this
end Go.AM

namespace Go.AM
open Go Go.Proofs
set_option maxRecDepth 100000
set_option linter.unusedSimpArgs false
set_option linter.unusedVariables false

/-- the numbers of a tensor that is made -/
def mk (s : List Int) (g : List Int → Int) : List Int := (List.range (sizeS s).toNat).map fun p => g (idxF s ((p : Nat) : Int))
end Go.AM

namespace Go.AM
open Go Go.Proofs
set_option maxRecDepth 100000
set_option linter.unusedSimpArgs false
set_option linter.unusedVariables false

abbrev dTE (r : (List Int × List Int) × Int) : DV := .tup [dT r.1.1 r.1.2, dN r.2]
def bad (e : Int) : (List Int × List Int) × Int := (([], []), e)

end Go.AM

namespace Go.AM
open Go Go.Proofs
set_option maxRecDepth 100000
set_option maxHeartbeats 4000000
set_option linter.unusedSimpArgs false
set_option linter.unusedVariables false

def fewT (s d : List Int) : Bool := decide (s.length ≤ 100) && decide (d.length ≤ 100)

theorem p_ref03_Few (s d : List Int) : PureC Try.prog fi_fullerref03_Few [dT s d] (dB (fewT s d)) := by
  refine pure_fullerref03_Few (by simp) fun G hP hn => ?_
  unfold a_fullerref03_Few
  repeat' (first     | refine T_then ?_ | refine then_ret ?_ | refine then_exit ?_ | refine then_goto ?_     | refine rnd_exit ?_ | refine rnd_ret ?_ | refine rnd_goto ?_     | refine noGo_normal ?_ | refine noGo_ret ?_ | refine noGo_exit ?_ | refine jmp_normal ?_ | refine jmp_ret ?_ | refine jmp_exit ?_ | refine jmp_goto ?_     | refine inB_normal ?_ | refine inB_ret ?_ | refine inB_goto ?_ | refine inB_exit ?_ | refine inB_exit_ne rfl ?_     | ((first | apply T_sr fw | apply T_reg fw); · ((try simp only [go_sem, seval, reduceIte, ↓reduceIte, hP]); (repeat ((first       | (refine ⟨true, false, rfl, fun h => absurd h (by decide), ?_⟩) | (refine ⟨false, false, rfl, fun h => absurd h (by decide), ?_⟩) | refine ⟨_, _, rfl, fun _ => rfl, ?_⟩); (try simp only [go_sem, seval, reduceIte, ↓reduceIte, hP]))); (first | done | exact rfl)))     | ((first | apply T_sdF fw (by rw [hP]; rfl) (by decide +kernel) | apply T_drF fw (by rw [hP]; rfl) (by decide +kernel)); · ((try simp only [TOps.flat, List.cons_append, List.nil_append]); (repeat ((first | refine Y_g0 ?_ | refine Y_g (by (try simp only [go_sem, seval, reduceIte, ↓reduceIte, Bool.not_eq_true, reduceCtorEq, beq_false, beq_true, hP]); (first | done | exact rfl)) ?_); (first | refine Y_skip ?_ | ((first | apply Y_q); (· ((try simp only [go_sem, seval, reduceIte, ↓reduceIte, Bool.not_eq_true, reduceCtorEq, beq_false, beq_true, hP]); (first | done | exact rfl))))))); apply RunF_nil; (try simp only [go_sem, seval, reduceIte, ↓reduceIte, Bool.not_eq_true, reduceCtorEq, beq_false, beq_true, hP]); (first | done | exact rfl)))     | ((first | apply T_sd fw (by rw [hP]; rfl) | apply T_dr fw (by rw [hP]; rfl)); · ((try simp only [go_sem, seval, reduceIte, ↓reduceIte, bne, beq_false, beq_true, Bool.not_eq_true, Bool.if_true_right, decide_not, reduceCtorEq, hP]); (first | done | exact rfl)))     | refine T_seq ?_ | refine T_block ?_ | refine T_scopeJ 0 rfl ?_ | refine T_scope ?_ | refine T_goto ?_ | refine T_ret ?_ | refine T_skip ?_ | refine T_exit ?_ | refine T_label ?_     | refine T_condT rfl ?_ | refine T_condF rfl ?_     | refine T_condD rfl (fun _ => ?_) (fun _ => ?_)     | refine T_cond rfl (fun _ => ?_) (fun _ => ?_))
  exact ends_ret rfl rfl rfl (by simp only [resD, fewT]; congr 3 <;> exact decide_eq_decide.2 (by omega))

def sameT (s d t e : List Int) : Bool := sameL s t && sameL d e

theorem p_ref03_Same (s d t e : List Int) : PureC Try.prog fi_fullerref03_Same [dT s d, dT t e] (dB (sameT s d t e)) := by
  refine pure_fullerref03_Same (by simp) fun G hP hn => ?_
  unfold a_fullerref03_Same
  repeat' (first     | refine T_then ?_ | refine then_ret ?_ | refine then_exit ?_ | refine then_goto ?_     | refine rnd_exit ?_ | refine rnd_ret ?_ | refine rnd_goto ?_     | refine noGo_normal ?_ | refine noGo_ret ?_ | refine noGo_exit ?_ | refine jmp_normal ?_ | refine jmp_ret ?_ | refine jmp_exit ?_ | refine jmp_goto ?_     | refine inB_normal ?_ | refine inB_ret ?_ | refine inB_goto ?_ | refine inB_exit ?_ | refine inB_exit_ne rfl ?_     | ((first | apply T_sr fw | apply T_reg fw); · ((try simp only [go_sem, seval, reduceIte, ↓reduceIte, hP]); (repeat ((first       | (refine ⟨true, false, rfl, fun h => absurd h (by decide), ?_⟩) | (refine ⟨false, false, rfl, fun h => absurd h (by decide), ?_⟩) | refine ⟨_, _, rfl, fun _ => rfl, ?_⟩       | (refine .inl ⟨_, _, ⟨_, _, _, _, _, _, rfl, rfl, rfl, p_ref02_Same _ _⟩, ?_⟩)       | (refine ⟨_, ?_, rfl, fun _ => ⟨_, ⟨_, _, _, _, _, _, rfl, rfl, rfl, p_ref02_Same _ _⟩, ?_⟩, ?_⟩; rotate_left; (· (simp only [go_sem, seval, reduceIte, ↓reduceIte, hP]; first | done | exact rfl)))); (try simp only [go_sem, seval, reduceIte, ↓reduceIte, hP]))); (first | done | exact rfl)))     | ((first | apply T_sdF fw (by rw [hP]; rfl) (by decide +kernel) | apply T_drF fw (by rw [hP]; rfl) (by decide +kernel)); · ((try simp only [TOps.flat, List.cons_append, List.nil_append]); (repeat ((first | refine Y_g0 ?_ | refine Y_g (by (try simp only [go_sem, seval, reduceIte, ↓reduceIte, Bool.not_eq_true, reduceCtorEq, beq_false, beq_true, hP]); (first | done | exact rfl)) ?_); (first | refine Y_skip ?_ | ((first | apply Y_q | (refine Y_call ⟨_, _, _, _, _, _, rfl, rfl, rfl, (by rw [hP]; exact p_ref02_Same _ _)⟩ ?_ ?_)); (· ((try simp only [go_sem, seval, reduceIte, ↓reduceIte, Bool.not_eq_true, reduceCtorEq, beq_false, beq_true, hP]); (first | done | exact rfl))))))); apply RunF_nil; (try simp only [go_sem, seval, reduceIte, ↓reduceIte, Bool.not_eq_true, reduceCtorEq, beq_false, beq_true, hP]); (first | done | exact rfl)))     | ((first | apply T_sd fw (by rw [hP]; rfl) | apply T_dr fw (by rw [hP]; rfl)); · ((try simp only [go_sem, seval, reduceIte, ↓reduceIte, bne, beq_false, beq_true, Bool.not_eq_true, Bool.if_true_right, decide_not, reduceCtorEq, hP]); (repeat ((first       | (refine ⟨_, ⟨_, _, _, _, _, _, rfl, rfl, rfl, p_ref02_Same _ _⟩, ?_⟩)); (try simp only [go_sem, seval, reduceIte, ↓reduceIte, bne, beq_false, beq_true, Bool.not_eq_true, Bool.if_true_right, decide_not, reduceCtorEq, hP]))); (first | done | exact rfl)))     | refine T_seq ?_ | refine T_block ?_ | refine T_scopeJ 0 rfl ?_ | refine T_scope ?_ | refine T_goto ?_ | refine T_ret ?_ | refine T_skip ?_ | refine T_exit ?_ | refine T_label ?_     | refine T_condT rfl ?_ | refine T_condF rfl ?_     | refine T_condD rfl (fun _ => ?_) (fun _ => ?_)     | refine T_cond rfl (fun _ => ?_) (fun _ => ?_))
  exact ends_ret rfl rfl rfl (by simp only [resD, sameT])

end Go.AM

namespace Go.AM
open Go Go.Proofs
set_option linter.unusedSimpArgs false
set_option linter.unusedVariables false

theorem mk_len {s : List Int} (h : ShapeOk s) (g : List Int → Int) : ((mk s g).length : Int) = prd s := by
  have := prd_pos h.2.1
  simp only [mk, List.length_map, List.length_range, sizeS_ok h]
  omega

theorem mk_get {s : List Int} (h : ShapeOk s) (g : List Int → Int) {p : Nat} (hp : (p : Int) < prd s) : (mk s g)[p]? = some (g (ix s p)) := by
  have := h.2.2
  simp only [mk, sizeS_ok h, List.getElem?_map]
  rw [List.getElem?_range (by omega)]
  simp only [Option.map_some, Option.some.injEq]
  rw [idxF_eq h.2.1 (by omega) (by omega)]

theorem mk_check {s : List Int} (h : ShapeOk s) (g : List Int → Int) : checkT s (mk s g) = true := checkT_iff.2 ⟨h, mk_len h g⟩

theorem mk_at {s x : List Int} (h : ShapeOk s) (hx : InIdx s x) (g : List Int → Int) : atF s (mk s g) x = (g x, 0) := by
  have hl := pl_lt hx
  rw [atF_ok (mk_check h g) hx, mk_get h g (by omega)]
  have : ((pl s x 0).toNat : Int) = pl s x 0 := by omega
  rw [this, ix_pl0 hx h.2.1]
  rfl

theorem mk_congr {s : List Int} (h : ShapeOk s) {g g' : List Int → Int} (hg : ∀ x, InIdx s x → g x = g' x) : mk s g = mk s g' := by
  apply List.ext_getElem?
  intro p
  by_cases hp : (p : Int) < prd s
  · rw [mk_get h g hp, mk_get h g' hp, hg _ (ix_in h.2.1)]
  · have h1 := mk_len h g
    have h2 := mk_len h g'
    rw [List.getElem?_eq_none (by omega), List.getElem?_eq_none (by omega)]

theorem InIdx.append {s x t y : List Int} (h : InIdx s x) (k : InIdx t y) : InIdx (s ++ t) (x ++ y) := by
  induction h with
  | nil => exact k
  | cons h0 h1 _ ih => exact .cons h0 h1 ih

theorem InIdx.reverse {s x : List Int} (h : InIdx s x) : InIdx s.reverse x.reverse := by
  induction h with
  | nil => exact .nil
  | cons h0 h1 _ ih =>
    simp only [List.reverse_cons]
    exact ih.append (.cons h0 h1 .nil)

theorem ShapeOk.reverse {s : List Int} (h : ShapeOk s) : ShapeOk s.reverse := ⟨by simpa using h.1, h.2.1.reverse, by rw [prd_reverse]; exact h.2.2⟩

theorem sameL_refl (l : List Int) : sameL l l = true := by
  unfold sameL
  have : ∀ l : List Int, eqL l l = true := by
    intro l
    induction l with
    | nil => rfl
    | cons a l ih => simp [eqL, ih]
  simp [this]

theorem eqL_iff : ∀ {s t : List Int}, s.length = t.length → (eqL s t = true ↔ s = t)
  | [], [], _ => by simp [eqL]
  | a :: s, b :: t, h => by
    simp only [eqL]
    by_cases hab : a = b
    · subst hab; simp [eqL_iff (s := s) (t := t) (by simpa using h)]
    · simp [hab]
theorem sameL_iff {s t : List Int} : sameL s t = true ↔ s = t := by
  unfold sameL
  by_cases h : s.length = t.length
  · rw [if_neg (by simp [h]), eqL_iff h]
  · rw [if_pos (by simp; omega)]
    constructor
    · intro h'; cases h'
    · intro h'; exact absurd (by rw [h']) h
theorem sameT_refl (s d : List Int) : sameT s d s d = true := by unfold sameT; rw [sameL_refl, sameL_refl]; rfl

end Go.AM

namespace Go.AM
open Go Go.Proofs
set_option linter.unusedSimpArgs false
set_option linter.unusedVariables false

theorem inIdx_iff : ∀ {s x : List Int}, InIdx s x ↔ s.length = x.length ∧ ∀ (i : Nat) (m k : Int), s[i]? = some m → x[i]? = some k → 0 ≤ k ∧ k < m
  | [], [] => ⟨fun _ => ⟨rfl, fun i m k h => by simp at h⟩, fun _ => .nil⟩
  | [], _ :: _ => ⟨fun h => (by cases h), fun h => by simp at h⟩
  | _ :: _, [] => ⟨fun h => (by cases h), fun h => by simp at h⟩
  | m :: s, k :: x => by
    constructor
    · intro h
      cases h with
      | cons h0 h1 h =>
        have := inIdx_iff.1 h
        refine ⟨by simp [this.1], fun i m' k' hm hk => ?_⟩
        cases i with
        | zero => simp at hm hk; subst hm hk; exact ⟨h0, h1⟩
        | succ i => exact this.2 i m' k' (by simpa using hm) (by simpa using hk)
    · rintro ⟨h1, h2⟩
      have := h2 0 m k rfl rfl
      exact .cons this.1 this.2 (inIdx_iff.2 ⟨by simpa using h1, fun i m' k' hm hk => h2 (i + 1) m' k' (by simpa using hm) (by simpa using hk)⟩)

theorem InIdx.get {s x : List Int} (h : InIdx s x) {n : Nat} {m : Int} (hm : s[n]? = some m) : ∃ k, x[n]? = some k ∧ 0 ≤ k ∧ k < m := by
  have h1 := inIdx_iff.1 h
  have hn := (List.getElem?_eq_some_iff.1 hm).1
  have hk : x[n]? = some (x[n]'(by omega)) := List.getElem?_eq_getElem (by omega)
  exact ⟨_, hk, h1.2 n _ _ hm hk⟩

theorem InIdx.set {s x : List Int} (h : InIdx s x) (n : Nat) {m k : Int} (h0 : 0 ≤ k) (h1 : k < m) : InIdx (s.set n m) (x.set n k) := by
  have h2 := inIdx_iff.1 h
  refine inIdx_iff.2 ⟨by simp [h2.1], fun i m' k' hm hk => ?_⟩
  by_cases hi : i = n
  · subst hi
    rw [List.getElem?_set] at hm hk
    simp at hm hk
    omega
  · rw [List.getElem?_set_ne (Ne.symm hi)] at hm hk
    exact h2.2 i m' k' hm hk

theorem Sides.set {s : List Int} (h : Sides s) (n : Nat) {m : Int} (h1 : 1 ≤ m ∧ m ≤ 16) : Sides (s.set n m) := by
  intro k hk
  rcases List.mem_or_eq_of_mem_set hk with hk | rfl
  · exact h k hk
  · exact h1

end Go.AM

namespace Go.AM
open Go Go.Proofs
set_option linter.unusedSimpArgs false
set_option linter.unusedVariables false

/-- what two that are joined must be -/
structure Joins (s d t e : List Int) (n : Nat) (k m : Int) : Prop where
  one : checkT s d = true
  two : checkT t e = true
  hk : s[n]? = some k
  hm : t[n]? = some m
  like : t = s.set n m
  ok : ShapeOk (s.set n (k + m))

theorem Joins.kb {s d t e : List Int} {n : Nat} {k m : Int} (h : Joins s d t e n k m) : 1 ≤ k ∧ k ≤ 16 := (checkT_iff.1 h.one).1.2.1 k (List.mem_of_getElem? h.hk)
theorem Joins.lt {s d t e : List Int} {n : Nat} {k m : Int} (h : Joins s d t e n k m) : n < s.length := (List.getElem?_eq_some_iff.1 h.hk).1

end Go.AM

namespace Go.AM
open Go Go.Proofs
set_option linter.unusedSimpArgs false
set_option linter.unusedVariables false

theorem c_sameT (s d : List Int) : PureC Try.prog fi_fullerref03_Same [dT s d, dT s d] (dB true) := by
  have := p_ref03_Same s d s d; rw [sameT_refl] at this; exact this
theorem c_same' (s : List Int) : PureC Try.prog fi_fullerref02_Same [dI s, dI s] (dB true) := by
  have := p_ref02_Same s s; rw [sameL_refl] at this; exact this
end Go.AM

namespace Go.AM
open Go Go.Proofs
set_option maxRecDepth 100000
set_option maxHeartbeats 4000000
set_option linter.unusedSimpArgs false
set_option linter.unusedVariables false

def I64 (n : Int) : Prop := -9223372036854775808 ≤ n ∧ n < 9223372036854775808
instance (n : Int) : Decidable (I64 n) := by unfold I64; exact inferInstance
abbrev dU (n : Nat) : DV := .one (.int .u64 (n : Int))

theorem w64_eq (n : Int) : IntKind.i64.wrap n = if n % 18446744073709551616 ≥ 9223372036854775808 then n % 18446744073709551616 - 18446744073709551616 else n % 18446744073709551616 := by
  simp only [IntKind.wrap, IntKind.bits, IntKind.signed]
  simp
theorem u64_eq (n : Int) : IntKind.u64.wrap n = n % 18446744073709551616 := by
  simp only [IntKind.wrap, IntKind.bits, IntKind.signed]
  simp
theorem u64_in {n : Int} (h0 : 0 ≤ n) (h1 : n < 18446744073709551616) : IntKind.u64.wrap n = n := by
  rw [u64_eq]; omega
theorem u64_nat {n : Nat} (h1 : n < 18446744073709551616) : IntKind.u64.wrap (n : Int) = (n : Int) := u64_in (by omega) (by omega)

theorem u64_and {x : Nat} (hx : x < 18446744073709551616) : andZ .u64 (x : Int) 4294967295 = ((x % 4294967296 : Nat) : Int) := by
  unfold andZ
  have e1 : (BitVec.ofInt IntKind.u64.bits (x : Int) &&& BitVec.ofInt IntKind.u64.bits 4294967295).toNat = x % 4294967296 := by
    rw [BitVec.toNat_and]
    have h2 : (BitVec.ofInt IntKind.u64.bits (x : Int)).toNat = x := by
      show (BitVec.ofInt 64 (x : Int)).toNat = x
      rw [BitVec.toNat_ofInt]; omega
    have h3 : (BitVec.ofInt IntKind.u64.bits 4294967295).toNat = 2 ^ 32 - 1 := by decide
    rw [h2, h3, Nat.and_two_pow_sub_one_eq_mod]
  rw [e1, u64_nat (by omega)]

theorem u64_or {x y : Nat} (hx : x < 4294967296) (hy : y < 4294967296) : orZ .u64 ((x * 4294967296 : Nat) : Int) (y : Int) = ((x * 4294967296 + y : Nat) : Int) := by
  unfold orZ
  have e1 : (BitVec.ofInt IntKind.u64.bits ((x * 4294967296 : Nat) : Int) ||| BitVec.ofInt IntKind.u64.bits (y : Int)).toNat = x * 4294967296 + y := by
    rw [BitVec.toNat_or]
    have h2 : (BitVec.ofInt IntKind.u64.bits ((x * 4294967296 : Nat) : Int)).toNat = x * 4294967296 := by
      show (BitVec.ofInt 64 _).toNat = _
      rw [BitVec.toNat_ofInt]; omega
    have h3 : (BitVec.ofInt IntKind.u64.bits (y : Int)).toNat = y := by
      show (BitVec.ofInt 64 _).toNat = _
      rw [BitVec.toNat_ofInt]; omega
    rw [h2, h3]
    have := Nat.shiftLeft_add_eq_or_of_lt (i := 32) (b := y) (by omega) x
    rw [Nat.shiftLeft_eq] at this
    exact this.symm
  rw [e1, u64_nat (by omega)]

theorem shr32 (x : Nat) : shrZ .u64 (x : Int) 32 = ((x / 4294967296 : Nat) : Int) := by
  unfold shrZ
  have : (2 : Int) ^ (min (32 : Int).toNat IntKind.u64.bits) = 4294967296 := by decide
  rw [this, Int.fdiv_eq_ediv_of_nonneg _ (by decide)]
  omega
theorem shl32 (x : Nat) : shlZ .u64 (x : Int) 32 = ((x % 4294967296 * 4294967296 : Nat) : Int) := by
  unfold shlZ
  have : (2 : Int) ^ (min (32 : Int).toNat IntKind.u64.bits) = 4294967296 := by decide
  rw [this, u64_eq]
  omega

def rng (n : Int) : Int × Int := if I64 n then (n, 0) else (0, 10)
def fAdd (a b : Int) : Int × Int := rng (a + b)
def fSub (a b : Int) : Int × Int := rng (a - b)
def fNeg (a : Int) : Int × Int := rng (0 - a)
def fMul (a b : Int) : Int × Int := rng (a * b / 4294967296)

theorem rng_in {n : Int} (h : I64 n) : rng n = (n, 0) := if_pos h
theorem rng_out {n : Int} (h : ¬ I64 n) : rng n = (0, 10) := if_neg h
theorem rng_range (n : Int) : I64 (rng n).1 := by
  by_cases h : I64 n
  · rw [rng_in h]; exact h
  · rw [rng_out h]; exact ⟨by decide, by decide⟩

theorem p_fix_told (n : Int) (b : Bool) : PureC Try.prog fi_fix_told [dN n, dB b] (dNE (if b then (n, 0) else (0, 10))) := by
  refine pure_fix_told (by simp) fun G hP hn => ?_
  unfold a_fix_told
  cases b
  · repeat' (first | apply T_then | apply then_ret | apply then_exit | apply then_goto | apply rnd_exit | apply rnd_ret | apply rnd_goto | apply noGo_normal | apply noGo_ret | apply noGo_exit | apply jmp_normal | apply jmp_ret | apply jmp_exit | apply jmp_goto | apply inB_normal | apply inB_ret | apply inB_goto | apply inB_exit | refine inB_exit_ne rfl ?_ | ((first | apply T_srK fw | apply T_regK fw); · ((try simp only [TOps.flat, List.cons_append, List.nil_append]); repeat (first | apply X_g0 | apply X_g | apply S_keep | apply X_skip | apply X_skipN | apply X_q | apply X_st | apply X_n | apply X_s | apply SKs0 | apply SKs2 | apply SKs1 | refine ⟨⟨rfl, rfl⟩, ?_⟩ | refine ⟨⟨rfl, ?_⟩, ?_⟩ | refine ⟨?_, ?_⟩ | (· (try simp only [go_sem, seval, reduceIte, ↓reduceIte, Bool.not_eq_true, reduceCtorEq, beq_false, beq_true, hn, hP]); first | done | rfl)))) | apply T_seq | apply T_block | refine T_scopeJ 0 rfl ?_ | apply T_scope | apply T_goto | apply T_ret | apply T_skip | apply T_exit | apply T_label | refine T_condT rfl ?_ | refine T_condF rfl ?_ | refine T_condD rfl (fun _ => ?_) (fun _ => ?_) | refine T_cond rfl (fun _ => ?_) (fun _ => ?_))
    exact ends_ret rfl rfl rfl rfl
  · repeat' (first | apply T_then | apply then_ret | apply then_exit | apply then_goto | apply rnd_exit | apply rnd_ret | apply rnd_goto | apply noGo_normal | apply noGo_ret | apply noGo_exit | apply jmp_normal | apply jmp_ret | apply jmp_exit | apply jmp_goto | apply inB_normal | apply inB_ret | apply inB_goto | apply inB_exit | refine inB_exit_ne rfl ?_ | ((first | apply T_srK fw | apply T_regK fw); · ((try simp only [TOps.flat, List.cons_append, List.nil_append]); repeat (first | apply X_g0 | apply X_g | apply S_keep | apply X_skip | apply X_skipN | apply X_q | apply X_st | apply X_n | apply X_s | apply SKs0 | apply SKs2 | apply SKs1 | refine ⟨⟨rfl, rfl⟩, ?_⟩ | refine ⟨⟨rfl, ?_⟩, ?_⟩ | refine ⟨?_, ?_⟩ | (· (try simp only [go_sem, seval, reduceIte, ↓reduceIte, Bool.not_eq_true, reduceCtorEq, beq_false, beq_true, hn, hP]); first | done | rfl)))) | apply T_seq | apply T_block | refine T_scopeJ 0 rfl ?_ | apply T_scope | apply T_goto | apply T_ret | apply T_skip | apply T_exit | apply T_label | refine T_condT rfl ?_ | refine T_condF rfl ?_ | refine T_condD rfl (fun _ => ?_) (fun _ => ?_) | refine T_cond rfl (fun _ => ?_) (fun _ => ?_))
    exact ends_ret rfl rfl rfl rfl

theorem p_fix_Add {a b : Int} (ha : I64 a) (hb : I64 b) : PureC Try.prog fi_fix_Add [dN a, dN b] (dNE (fAdd a b)) := by
  refine pure_fix_Add (by simp) fun G hP hn => ?_
  unfold a_fix_Add
  have hw := w64_eq (a + b)
  unfold I64 at ha hb
  have k1 : I64 (a + b) → fAdd a b = (IntKind.i64.wrap (a + b), 0) := fun h => by
    rw [wrap_in h.1 h.2]; exact rng_in h
  have k2 : ¬ I64 (a + b) → fAdd a b = (0, 10) := fun h => by
    exact rng_out h
  unfold I64 at k1 k2
  by_cases h1 : a < 0 <;> by_cases h2 : b < 0 <;> by_cases h3 : IntKind.i64.wrap (a + b) < 0
  all_goals
    repeat' (first | apply T_then | apply then_ret | apply then_exit | apply then_goto | apply rnd_exit | apply rnd_ret | apply rnd_goto | apply noGo_normal | apply noGo_ret | apply noGo_exit | apply jmp_normal | apply jmp_ret | apply jmp_exit | apply jmp_goto | apply inB_normal | apply inB_ret | apply inB_goto | apply inB_exit | refine inB_exit_ne rfl ?_ | ((first | apply T_srK fw | apply T_regK fw); · ((try simp only [TOps.flat, List.cons_append, List.nil_append]); repeat (first | apply X_g0 | apply X_g | apply S_keep | apply X_skip | apply X_skipN | refine X_call ?_ ⟨_, _, _, _, _, _, rfl, rfl, rfl, by rw [hP]; exact p_fix_told _ _⟩ ?_ | apply X_q | apply X_st | apply X_n | apply X_s | apply SKs0 | apply SKs2 | apply SKs1 | refine ⟨⟨rfl, rfl⟩, ?_⟩ | refine ⟨⟨rfl, ?_⟩, ?_⟩ | refine ⟨?_, ?_⟩ | (· (try simp only [go_sem, seval, reduceIte, ↓reduceIte, Bool.not_eq_true, reduceCtorEq, beq_false, beq_true, hn, hP, h1, h2, h3]); first | done | rfl)))) | apply T_seq | apply T_block | refine T_scopeJ 0 rfl ?_ | apply T_scope | apply T_goto | apply T_ret | apply T_skip | apply T_exit | apply T_label | refine T_condT rfl ?_ | refine T_condF rfl ?_ | refine T_condD rfl (fun _ => ?_) (fun _ => ?_) | refine T_cond rfl (fun _ => ?_) (fun _ => ?_))
    exact ends_ret rfl rfl rfl (by
      simp only [resD]
      first
        | (rw [k1 (by split at hw <;> omega)]; done)
        | (rw [k2 (by split at hw <;> omega)]; done)
        | (rw [k1 (by split at hw <;> omega)]; rfl)
        | (rw [k2 (by split at hw <;> omega)]; rfl))

theorem p_fix_size {a : Int} (ha : I64 a) : PureC Try.prog fi_fix_size [dN a] (dU a.natAbs) := by
  refine pure_fix_size (by simp) fun G hP hn => ?_
  unfold a_fix_size
  unfold I64 at ha
  by_cases h1 : a < 0
  · have w : IntKind.u64.wrap (0 - IntKind.u64.wrap a) = (a.natAbs : Int) := by rw [u64_eq a, u64_eq]; omega
    repeat' (first | apply T_then | apply then_ret | apply then_exit | apply then_goto | apply rnd_exit | apply rnd_ret | apply rnd_goto | apply noGo_normal | apply noGo_ret | apply noGo_exit | apply jmp_normal | apply jmp_ret | apply jmp_exit | apply jmp_goto | apply inB_normal | apply inB_ret | apply inB_goto | apply inB_exit | refine inB_exit_ne rfl ?_ | ((first | apply T_srK fw | apply T_regK fw); · ((try simp only [TOps.flat, List.cons_append, List.nil_append]); repeat (first | apply X_g0 | apply X_g | apply S_keep | apply X_skip | apply X_skipN | apply X_q | apply X_st | apply X_n | apply X_s | apply SKs0 | apply SKs2 | apply SKs1 | refine ⟨⟨rfl, rfl⟩, ?_⟩ | refine ⟨⟨rfl, ?_⟩, ?_⟩ | refine ⟨?_, ?_⟩ | (· (try simp only [go_sem, seval, reduceIte, ↓reduceIte, Bool.not_eq_true, reduceCtorEq, beq_false, beq_true, hn, hP, h1, w]); first | done | rfl)))) | apply T_seq | apply T_block | refine T_scopeJ 0 rfl ?_ | apply T_scope | apply T_goto | apply T_ret | apply T_skip | apply T_exit | apply T_label | refine T_condT rfl ?_ | refine T_condF rfl ?_ | refine T_condD rfl (fun _ => ?_) (fun _ => ?_) | refine T_cond rfl (fun _ => ?_) (fun _ => ?_))
    exact ends_ret rfl rfl rfl rfl
  · have w : IntKind.u64.wrap a = (a.natAbs : Int) := by rw [u64_eq a]; omega
    repeat' (first | apply T_then | apply then_ret | apply then_exit | apply then_goto | apply rnd_exit | apply rnd_ret | apply rnd_goto | apply noGo_normal | apply noGo_ret | apply noGo_exit | apply jmp_normal | apply jmp_ret | apply jmp_exit | apply jmp_goto | apply inB_normal | apply inB_ret | apply inB_goto | apply inB_exit | refine inB_exit_ne rfl ?_ | ((first | apply T_srK fw | apply T_regK fw); · ((try simp only [TOps.flat, List.cons_append, List.nil_append]); repeat (first | apply X_g0 | apply X_g | apply S_keep | apply X_skip | apply X_skipN | apply X_q | apply X_st | apply X_n | apply X_s | apply SKs0 | apply SKs2 | apply SKs1 | refine ⟨⟨rfl, rfl⟩, ?_⟩ | refine ⟨⟨rfl, ?_⟩, ?_⟩ | refine ⟨?_, ?_⟩ | (· (try simp only [go_sem, seval, reduceIte, ↓reduceIte, Bool.not_eq_true, reduceCtorEq, beq_false, beq_true, hn, hP, h1, w]); first | done | rfl)))) | apply T_seq | apply T_block | refine T_scopeJ 0 rfl ?_ | apply T_scope | apply T_goto | apply T_ret | apply T_skip | apply T_exit | apply T_label | refine T_condT rfl ?_ | refine T_condF rfl ?_ | refine T_condD rfl (fun _ => ?_) (fun _ => ?_) | refine T_cond rfl (fun _ => ?_) (fun _ => ?_))
    exact ends_ret rfl rfl rfl rfl

def apart (a b : Int) : Bool := decide (a ≠ 0) && (decide (b ≠ 0) && (decide (a < 0) != decide (b < 0)))

theorem p_fix_apart (a b : Int) : PureC Try.prog fi_fix_apart [dN a, dN b] (dB (apart a b)) := by
  refine pure_fix_apart (by simp) fun G hP hn => ?_
  unfold a_fix_apart
  by_cases h1 : a = 0
  · have h1' : (a != 0) = false := by simp [h1]
    repeat' (first | apply T_then | apply then_ret | apply then_exit | apply then_goto | apply rnd_exit | apply rnd_ret | apply rnd_goto | apply noGo_normal | apply noGo_ret | apply noGo_exit | apply jmp_normal | apply jmp_ret | apply jmp_exit | apply jmp_goto | apply inB_normal | apply inB_ret | apply inB_goto | apply inB_exit | refine inB_exit_ne rfl ?_ | ((first | apply T_srK fw | apply T_regK fw); · ((try simp only [TOps.flat, List.cons_append, List.nil_append]); repeat (first | apply X_g0 | apply X_g | apply S_keep | apply X_skip | apply X_skipN | apply X_q | apply X_st | apply X_n | apply X_s | apply SKs0 | apply SKs2 | apply SKs1 | refine ⟨⟨rfl, rfl⟩, ?_⟩ | refine ⟨⟨rfl, ?_⟩, ?_⟩ | refine ⟨?_, ?_⟩ | (· (try simp only [go_sem, seval, reduceIte, ↓reduceIte, Bool.not_eq_true, reduceCtorEq, beq_false, beq_true, hn, hP, h1']); first | done | rfl)))) | apply T_seq | apply T_block | refine T_scopeJ 0 rfl ?_ | apply T_scope | apply T_goto | apply T_ret | apply T_skip | apply T_exit | apply T_label | refine T_condT rfl ?_ | refine T_condF rfl ?_ | refine T_condD rfl (fun _ => ?_) (fun _ => ?_) | refine T_cond rfl (fun _ => ?_) (fun _ => ?_))
    exact ends_ret rfl rfl rfl (by simp [resD, apart, h1])
  · have h1' : (a != 0) = true := by simp [h1]
    by_cases h2 : b = 0
    · have h2' : (b != 0) = false := by simp [h2]
      repeat' (first | apply T_then | apply then_ret | apply then_exit | apply then_goto | apply rnd_exit | apply rnd_ret | apply rnd_goto | apply noGo_normal | apply noGo_ret | apply noGo_exit | apply jmp_normal | apply jmp_ret | apply jmp_exit | apply jmp_goto | apply inB_normal | apply inB_ret | apply inB_goto | apply inB_exit | refine inB_exit_ne rfl ?_ | ((first | apply T_srK fw | apply T_regK fw); · ((try simp only [TOps.flat, List.cons_append, List.nil_append]); repeat (first | apply X_g0 | apply X_g | apply S_keep | apply X_skip | apply X_skipN | apply X_q | apply X_st | apply X_n | apply X_s | apply SKs0 | apply SKs2 | apply SKs1 | refine ⟨⟨rfl, rfl⟩, ?_⟩ | refine ⟨⟨rfl, ?_⟩, ?_⟩ | refine ⟨?_, ?_⟩ | (· (try simp only [go_sem, seval, reduceIte, ↓reduceIte, Bool.not_eq_true, reduceCtorEq, beq_false, beq_true, hn, hP, h1', h2']); first | done | rfl)))) | apply T_seq | apply T_block | refine T_scopeJ 0 rfl ?_ | apply T_scope | apply T_goto | apply T_ret | apply T_skip | apply T_exit | apply T_label | refine T_condT rfl ?_ | refine T_condF rfl ?_ | refine T_condD rfl (fun _ => ?_) (fun _ => ?_) | refine T_cond rfl (fun _ => ?_) (fun _ => ?_))
      exact ends_ret rfl rfl rfl (by simp [resD, apart, h2])
    · have h2' : (b != 0) = true := by simp [h2]
      by_cases h3 : a < 0 <;> by_cases h4 : b < 0
      all_goals
        repeat' (first | apply T_then | apply then_ret | apply then_exit | apply then_goto | apply rnd_exit | apply rnd_ret | apply rnd_goto | apply noGo_normal | apply noGo_ret | apply noGo_exit | apply jmp_normal | apply jmp_ret | apply jmp_exit | apply jmp_goto | apply inB_normal | apply inB_ret | apply inB_goto | apply inB_exit | refine inB_exit_ne rfl ?_ | ((first | apply T_srK fw | apply T_regK fw); · ((try simp only [TOps.flat, List.cons_append, List.nil_append]); repeat (first | apply X_g0 | apply X_g | apply S_keep | apply X_skip | apply X_skipN | apply X_q | apply X_st | apply X_n | apply X_s | apply SKs0 | apply SKs2 | apply SKs1 | refine ⟨⟨rfl, rfl⟩, ?_⟩ | refine ⟨⟨rfl, ?_⟩, ?_⟩ | refine ⟨?_, ?_⟩ | (· (try simp only [go_sem, seval, reduceIte, ↓reduceIte, Bool.not_eq_true, reduceCtorEq, beq_false, beq_true, hn, hP, h1', h2', h3, h4]); first | done | rfl)))) | apply T_seq | apply T_block | refine T_scopeJ 0 rfl ?_ | apply T_scope | apply T_goto | apply T_ret | apply T_skip | apply T_exit | apply T_label | refine T_condT rfl ?_ | refine T_condF rfl ?_ | refine T_condD rfl (fun _ => ?_) (fun _ => ?_) | refine T_cond rfl (fun _ => ?_) (fun _ => ?_))
        exact ends_ret rfl rfl rfl (by simp [resD, apart, h1, h2, h3, h4])
end Go.AM

namespace Go.AM
open Go Go.Proofs
set_option maxRecDepth 100000
set_option maxHeartbeats 4000000
set_option linter.unusedSimpArgs false
set_option linter.unusedVariables false

abbrev dUU (a b : Nat) : DV := .tup [dU a, dU b]

theorem p_bits_Mul64 {x y : Nat} (hx : x < 18446744073709551616) (hy : y < 18446744073709551616) : PureC Try.prog fi_math_bits_Mul64 [dU x, dU y] (dUU (x * y / 18446744073709551616) (x * y % 18446744073709551616)) := by
  refine pure_math_bits_Mul64 (by simp) fun G hP hn => ?_
  unfold a_math_bits_Mul64
  obtain ⟨l1, l2, l3, l4⟩ := Lib.mul64_hi x y hx hy
  have lq := Lib.half_mul_le (a := x / 4294967296) (b := y % 4294967296) (by omega) (by omega)
  have lr := Lib.half_mul_le (a := x % 4294967296) (b := y / 4294967296) (by omega) (by omega)
  have lp := Lib.half_mul_le (a := x / 4294967296) (b := y / 4294967296) (by omega) (by omega)
  have a1 := u64_and hx
  have a2 := u64_and hy
  have m1 : IntKind.u64.wrap (((x % 4294967296 : Nat) : Int) * ((y % 4294967296 : Nat) : Int)) = ((x % 4294967296 * (y % 4294967296) : Nat) : Int) := by rw [← Int.natCast_mul, u64_nat l1]
  have m2 : IntKind.u64.wrap (((x / 4294967296 : Nat) : Int) * ((y % 4294967296 : Nat) : Int)) = ((x / 4294967296 * (y % 4294967296) : Nat) : Int) := by rw [← Int.natCast_mul, u64_nat (by omega)]
  have m3 : IntKind.u64.wrap (((x % 4294967296 : Nat) : Int) * ((y / 4294967296 : Nat) : Int)) = ((x % 4294967296 * (y / 4294967296) : Nat) : Int) := by rw [← Int.natCast_mul, u64_nat (by omega)]
  have m4 : IntKind.u64.wrap (((x / 4294967296 : Nat) : Int) * ((y / 4294967296 : Nat) : Int)) = ((x / 4294967296 * (y / 4294967296) : Nat) : Int) := by rw [← Int.natCast_mul, u64_nat (by omega)]
  have m5 : IntKind.u64.wrap ((x : Int) * (y : Int)) = ((x * y % 18446744073709551616 : Nat) : Int) := by rw [← Int.natCast_mul, u64_eq]; omega
  have hh : x * y / 18446744073709551616 < 18446744073709551616 := by
    have : x * y ≤ 18446744073709551615 * 18446744073709551615 := Nat.mul_le_mul (by omega) (by omega)
    omega
  generalize x % 4294967296 * (y % 4294967296) = p0 at *
  generalize x / 4294967296 * (y % 4294967296) = p1 at *
  generalize x % 4294967296 * (y / 4294967296) = p2 at *
  generalize x / 4294967296 * (y / 4294967296) = p3 at *
  have s1 : IntKind.u64.wrap ((p1 : Int) + ((p0 / 4294967296 : Nat) : Int)) = ((p1 + p0 / 4294967296 : Nat) : Int) := by rw [← Int.natCast_add, u64_nat l2]
  have a3 := u64_and l2
  have s2 : IntKind.u64.wrap ((((p1 + p0 / 4294967296) % 4294967296 : Nat) : Int) + (p2 : Int)) = (((p1 + p0 / 4294967296) % 4294967296 + p2 : Nat) : Int) := by rw [← Int.natCast_add, u64_nat l3]
  have s3 : IntKind.u64.wrap ((p3 : Int) + (((p1 + p0 / 4294967296) / 4294967296 : Nat) : Int)) = ((p3 + (p1 + p0 / 4294967296) / 4294967296 : Nat) : Int) := by rw [← Int.natCast_add, u64_nat (by omega)]
  have s4 : IntKind.u64.wrap (((p3 + (p1 + p0 / 4294967296) / 4294967296 : Nat) : Int) + ((((p1 + p0 / 4294967296) % 4294967296 + p2) / 4294967296 : Nat) : Int)) = ((x * y / 18446744073709551616 : Nat) : Int) := by
    rw [← Int.natCast_add, l4, u64_nat hh]
  repeat' (first | apply T_then | apply then_ret | apply then_exit | apply then_goto | apply rnd_exit | apply rnd_ret | apply rnd_goto | apply noGo_normal | apply noGo_ret | apply noGo_exit | apply jmp_normal | apply jmp_ret | apply jmp_exit | apply jmp_goto | apply inB_normal | apply inB_ret | apply inB_goto | apply inB_exit | refine inB_exit_ne rfl ?_ | ((first | apply T_srK fw | apply T_regK fw); · ((try simp only [TOps.flat, List.cons_append, List.nil_append]); repeat (first | apply X_g0 | apply X_g | apply S_keep | apply X_skip | apply X_skipN | apply X_q | apply X_st | apply X_n | apply X_s | apply SKs0 | apply SKs2 | apply SKs1 | refine ⟨⟨rfl, rfl⟩, ?_⟩ | refine ⟨⟨rfl, ?_⟩, ?_⟩ | refine ⟨?_, ?_⟩ | (· (try simp only [go_sem, seval, reduceIte, ↓reduceIte, Bool.not_eq_true, reduceCtorEq, beq_false, beq_true, hn, hP, a1, a2, a3, shr32, m1, m2, m3, m4, m5, s1, s2, s3, s4]); first | done | rfl)))) | apply T_seq | apply T_block | refine T_scopeJ 0 rfl ?_ | apply T_scope | apply T_goto | apply T_ret | apply T_skip | apply T_exit | apply T_label | refine T_condT rfl ?_ | refine T_condF rfl ?_ | refine T_condD rfl (fun _ => ?_) (fun _ => ?_) | refine T_cond rfl (fun _ => ?_) (fun _ => ?_))
  exact ends_ret rfl rfl rfl rfl

/-- a number of two words, with a sign, floored, of which something is left, or not -/
def sgn (v : Nat) (rest below : Bool) : Int := if below then -((v : Int) + (if rest then 1 else 0)) else v

theorem m_signed_1 (t h l : Nat) (hl : l < 18446744073709551616) (hh : h < 18446744073709551615) : MutC Try.prog fi_fix_wide_signed_1 [.one (.ptr t 0 1 0)] [(t, .arr true 1 [[.int .u64 (h : Int)], [.int .u64 (l : Int)]])] (.tup [])
    [(t, .arr true 1 [[.int .u64 (((h * 18446744073709551616 + l + 1) / 18446744073709551616 : Nat) : Int)], [.int .u64 (((h * 18446744073709551616 + l + 1) % 18446744073709551616 : Nat) : Int)]])] [] := by
  refine mut_fix_wide_signed_1 (by simp) fun G ex hP hn hfr => ?_
  unfold a_fix_wide_signed_1
  have e1 : (l + 1) % 18446744073709551616 = (h * 18446744073709551616 + l + 1) % 18446744073709551616 := by omega
  have e2 : IntKind.u64.wrap ((h : Int) + (((l + 1) / 18446744073709551616 : Nat) : Int)) = (((h * 18446744073709551616 + l + 1) / 18446744073709551616 : Nat) : Int) := by rw [u64_eq]; omega
  repeat' (first | apply T_then | apply then_ret | apply then_exit | apply then_goto | apply rnd_exit | apply rnd_ret | apply rnd_goto | apply noGo_normal | apply noGo_ret | apply noGo_exit | apply jmp_normal | apply jmp_ret | apply jmp_exit | apply jmp_goto | apply inB_normal | apply inB_ret | apply inB_goto | apply inB_exit | refine inB_exit_ne rfl ?_ | ((first | apply T_srK fw | apply T_regK fw); · ((try simp only [TOps.flat, List.cons_append, List.nil_append]); repeat (first | apply X_g0 | apply X_g | apply S_keep | apply X_skip | apply X_skipN | apply X_q | apply X_st | apply X_n | apply X_s | apply SKs0 | apply SKs2 | apply SKs1 | refine ⟨⟨rfl, rfl⟩, ?_⟩ | refine ⟨⟨rfl, ?_⟩, ?_⟩ | refine ⟨?_, ?_⟩ | (· (try simp only [go_sem, seval, reduceIte, ↓reduceIte, Bool.not_eq_true, reduceCtorEq, beq_false, beq_true, hn, hP, e1, e2, Int.toNat_one, Int.toNat_zero, Nat.reducePow]); first | done | rfl)))) | apply T_seq | apply T_block | refine T_scopeJ 0 rfl ?_ | apply T_scope | apply T_goto | apply T_ret | apply T_skip | apply T_exit | apply T_label | refine T_condT rfl ?_ | refine T_condF rfl ?_ | refine T_condD rfl (fun _ => ?_) (fun _ => ?_) | refine T_cond rfl (fun _ => ?_) (fun _ => ?_))
  exact endsM_normal rfl rfl rfl (by simp [lo]) rfl
end Go.AM

namespace Go.AM
open Go Go.Proofs
set_option maxRecDepth 100000
set_option maxHeartbeats 4000000
set_option linter.unusedSimpArgs false
set_option linter.unusedVariables false

theorem neg_u64 {l : Nat} (h : l ≤ 9223372036854775808) : IntKind.i64.wrap (IntKind.u64.wrap (0 - (l : Int))) = -(l : Int) := by
  rw [u64_eq, w64_eq]; split <;> omega

theorem p_fix_signed {h l : Nat} (hl : l < 18446744073709551616) (hh : h < 18446744073709551615) (rest below : Bool) :
    PureC Try.prog fi_fix_wide_signed [.agg [.int .u64 (h : Int), .int .u64 (l : Int)], dB rest, dB below] (dNE (rng (sgn (h * 18446744073709551616 + l) rest below))) := by
  refine pure_fix_wide_signed (by simp) fun G hP hn => ?_
  unfold a_fix_wide_signed
  have w8 : IntKind.u64.wrap 9223372036854775808 = 9223372036854775808 := by decide
  cases below
  · by_cases h1 : (h : Int) > 0
    · repeat' (first | apply T_then | apply then_ret | apply then_exit | apply then_goto | apply rnd_exit | apply rnd_ret | apply rnd_goto | apply noGo_normal | apply noGo_ret | apply noGo_exit | apply jmp_normal | apply jmp_ret | apply jmp_exit | apply jmp_goto | apply inB_normal | apply inB_ret | apply inB_goto | apply inB_exit | refine inB_exit_ne rfl ?_ | ((first | apply T_srK fw | apply T_regK fw); · ((try simp only [TOps.flat, List.cons_append, List.nil_append]); repeat (first | apply X_g0 | apply X_g | apply S_keep | apply X_skip | apply X_skipN | apply X_q | apply X_st | apply X_n | apply X_s | apply SKs0 | apply SKs2 | apply SKs1 | refine ⟨⟨rfl, rfl⟩, ?_⟩ | refine ⟨⟨rfl, ?_⟩, ?_⟩ | refine ⟨?_, ?_⟩ | (· (try simp only [go_sem, seval, reduceIte, ↓reduceIte, Bool.not_eq_true, reduceCtorEq, beq_false, beq_true, hn, hP, h1]); first | done | rfl)))) | apply T_seq | apply T_block | refine T_scopeJ 0 rfl ?_ | apply T_scope | apply T_goto | apply T_ret | apply T_skip | apply T_exit | apply T_label | refine T_condT rfl ?_ | refine T_condF rfl ?_ | refine T_condD rfl (fun _ => ?_) (fun _ => ?_) | refine T_cond rfl (fun _ => ?_) (fun _ => ?_))
      exact ends_ret rfl rfl rfl (by rw [rng_out (by unfold I64 sgn; simp; omega)]; rfl)
    · by_cases h2 : (l : Int) > 9223372036854775807
      · repeat' (first | apply T_then | apply then_ret | apply then_exit | apply then_goto | apply rnd_exit | apply rnd_ret | apply rnd_goto | apply noGo_normal | apply noGo_ret | apply noGo_exit | apply jmp_normal | apply jmp_ret | apply jmp_exit | apply jmp_goto | apply inB_normal | apply inB_ret | apply inB_goto | apply inB_exit | refine inB_exit_ne rfl ?_ | ((first | apply T_srK fw | apply T_regK fw); · ((try simp only [TOps.flat, List.cons_append, List.nil_append]); repeat (first | apply X_g0 | apply X_g | apply S_keep | apply X_skip | apply X_skipN | apply X_q | apply X_st | apply X_n | apply X_s | apply SKs0 | apply SKs2 | apply SKs1 | refine ⟨⟨rfl, rfl⟩, ?_⟩ | refine ⟨⟨rfl, ?_⟩, ?_⟩ | refine ⟨?_, ?_⟩ | (· (try simp only [go_sem, seval, reduceIte, ↓reduceIte, Bool.not_eq_true, reduceCtorEq, beq_false, beq_true, hn, hP, h1, h2]); first | done | rfl)))) | apply T_seq | apply T_block | refine T_scopeJ 0 rfl ?_ | apply T_scope | apply T_goto | apply T_ret | apply T_skip | apply T_exit | apply T_label | refine T_condT rfl ?_ | refine T_condF rfl ?_ | refine T_condD rfl (fun _ => ?_) (fun _ => ?_) | refine T_cond rfl (fun _ => ?_) (fun _ => ?_))
        exact ends_ret rfl rfl rfl (by rw [rng_out (by unfold I64 sgn; simp; omega)]; rfl)
      · have w1 : IntKind.i64.wrap (l : Int) = (l : Int) := wrap_in (by omega) (by omega)
        repeat' (first | apply T_then | apply then_ret | apply then_exit | apply then_goto | apply rnd_exit | apply rnd_ret | apply rnd_goto | apply noGo_normal | apply noGo_ret | apply noGo_exit | apply jmp_normal | apply jmp_ret | apply jmp_exit | apply jmp_goto | apply inB_normal | apply inB_ret | apply inB_goto | apply inB_exit | refine inB_exit_ne rfl ?_ | ((first | apply T_srK fw | apply T_regK fw); · ((try simp only [TOps.flat, List.cons_append, List.nil_append]); repeat (first | apply X_g0 | apply X_g | apply S_keep | apply X_skip | apply X_skipN | apply X_q | apply X_st | apply X_n | apply X_s | apply SKs0 | apply SKs2 | apply SKs1 | refine ⟨⟨rfl, rfl⟩, ?_⟩ | refine ⟨⟨rfl, ?_⟩, ?_⟩ | refine ⟨?_, ?_⟩ | (· (try simp only [go_sem, seval, reduceIte, ↓reduceIte, Bool.not_eq_true, reduceCtorEq, beq_false, beq_true, hn, hP, h1, h2, w1]); first | done | rfl)))) | apply T_seq | apply T_block | refine T_scopeJ 0 rfl ?_ | apply T_scope | apply T_goto | apply T_ret | apply T_skip | apply T_exit | apply T_label | refine T_condT rfl ?_ | refine T_condF rfl ?_ | refine T_condD rfl (fun _ => ?_) (fun _ => ?_) | refine T_cond rfl (fun _ => ?_) (fun _ => ?_))
        have e : sgn (h * 18446744073709551616 + l) rest false = (l : Int) := by unfold sgn; simp; omega
        exact ends_ret rfl rfl rfl (by rw [e, rng_in (by unfold I64; omega)]; rfl)
  · cases rest
    · by_cases h1 : (h : Int) > 0
      · repeat' (first | apply T_then | apply then_ret | apply then_exit | apply then_goto | apply rnd_exit | apply rnd_ret | apply rnd_goto | apply noGo_normal | apply noGo_ret | apply noGo_exit | apply jmp_normal | apply jmp_ret | apply jmp_exit | apply jmp_goto | apply inB_normal | apply inB_ret | apply inB_goto | apply inB_exit | refine inB_exit_ne rfl ?_ | ((first | apply T_srK fw | apply T_regK fw); · ((try simp only [TOps.flat, List.cons_append, List.nil_append]); repeat (first | apply X_g0 | apply X_g | apply S_keep | apply X_skip | apply X_skipN | apply X_q | apply X_st | apply X_n | apply X_s | apply SKs0 | apply SKs2 | apply SKs1 | refine ⟨⟨rfl, rfl⟩, ?_⟩ | refine ⟨⟨rfl, ?_⟩, ?_⟩ | refine ⟨?_, ?_⟩ | (· (try simp only [go_sem, seval, reduceIte, ↓reduceIte, Bool.not_eq_true, reduceCtorEq, beq_false, beq_true, hn, hP, h1, w8]); first | done | rfl)))) | apply T_seq | apply T_block | refine T_scopeJ 0 rfl ?_ | apply T_scope | apply T_goto | apply T_ret | apply T_skip | apply T_exit | apply T_label | refine T_condT rfl ?_ | refine T_condF rfl ?_ | refine T_condD rfl (fun _ => ?_) (fun _ => ?_) | refine T_cond rfl (fun _ => ?_) (fun _ => ?_))
        exact ends_ret rfl rfl rfl (by rw [rng_out (by unfold I64 sgn; simp; omega)]; rfl)
      · by_cases h2 : (l : Int) > 9223372036854775808
        · repeat' (first | apply T_then | apply then_ret | apply then_exit | apply then_goto | apply rnd_exit | apply rnd_ret | apply rnd_goto | apply noGo_normal | apply noGo_ret | apply noGo_exit | apply jmp_normal | apply jmp_ret | apply jmp_exit | apply jmp_goto | apply inB_normal | apply inB_ret | apply inB_goto | apply inB_exit | refine inB_exit_ne rfl ?_ | ((first | apply T_srK fw | apply T_regK fw); · ((try simp only [TOps.flat, List.cons_append, List.nil_append]); repeat (first | apply X_g0 | apply X_g | apply S_keep | apply X_skip | apply X_skipN | apply X_q | apply X_st | apply X_n | apply X_s | apply SKs0 | apply SKs2 | apply SKs1 | refine ⟨⟨rfl, rfl⟩, ?_⟩ | refine ⟨⟨rfl, ?_⟩, ?_⟩ | refine ⟨?_, ?_⟩ | (· (try simp only [go_sem, seval, reduceIte, ↓reduceIte, Bool.not_eq_true, reduceCtorEq, beq_false, beq_true, hn, hP, h1, h2, w8]); first | done | rfl)))) | apply T_seq | apply T_block | refine T_scopeJ 0 rfl ?_ | apply T_scope | apply T_goto | apply T_ret | apply T_skip | apply T_exit | apply T_label | refine T_condT rfl ?_ | refine T_condF rfl ?_ | refine T_condD rfl (fun _ => ?_) (fun _ => ?_) | refine T_cond rfl (fun _ => ?_) (fun _ => ?_))
          exact ends_ret rfl rfl rfl (by rw [rng_out (by unfold I64 sgn; simp; omega)]; rfl)
        · have w1 := neg_u64 (l := l) (by omega)
          repeat' (first | apply T_then | apply then_ret | apply then_exit | apply then_goto | apply rnd_exit | apply rnd_ret | apply rnd_goto | apply noGo_normal | apply noGo_ret | apply noGo_exit | apply jmp_normal | apply jmp_ret | apply jmp_exit | apply jmp_goto | apply inB_normal | apply inB_ret | apply inB_goto | apply inB_exit | refine inB_exit_ne rfl ?_ | ((first | apply T_srK fw | apply T_regK fw); · ((try simp only [TOps.flat, List.cons_append, List.nil_append]); repeat (first | apply X_g0 | apply X_g | apply S_keep | apply X_skip | apply X_skipN | apply X_q | apply X_st | apply X_n | apply X_s | apply SKs0 | apply SKs2 | apply SKs1 | refine ⟨⟨rfl, rfl⟩, ?_⟩ | refine ⟨⟨rfl, ?_⟩, ?_⟩ | refine ⟨?_, ?_⟩ | (· (try simp only [go_sem, seval, reduceIte, ↓reduceIte, Bool.not_eq_true, reduceCtorEq, beq_false, beq_true, hn, hP, h1, h2, w1, w8]); first | done | rfl)))) | apply T_seq | apply T_block | refine T_scopeJ 0 rfl ?_ | apply T_scope | apply T_goto | apply T_ret | apply T_skip | apply T_exit | apply T_label | refine T_condT rfl ?_ | refine T_condF rfl ?_ | refine T_condD rfl (fun _ => ?_) (fun _ => ?_) | refine T_cond rfl (fun _ => ?_) (fun _ => ?_))
          have e : sgn (h * 18446744073709551616 + l) false true = -(l : Int) := by unfold sgn; simp; omega
          exact ends_ret rfl rfl rfl (by rw [e, rng_in (by unfold I64; omega)]; rfl)
    · have km := m_signed_1 3 h l hl hh
      have hv : (h * 18446744073709551616 + l + 1) / 18446744073709551616 * 18446744073709551616 + (h * 18446744073709551616 + l + 1) % 18446744073709551616 = h * 18446744073709551616 + l + 1 := by omega
      generalize (h * 18446744073709551616 + l + 1) / 18446744073709551616 = h' at km hv
      have hlt : (h * 18446744073709551616 + l + 1) % 18446744073709551616 < 18446744073709551616 := by omega
      generalize (h * 18446744073709551616 + l + 1) % 18446744073709551616 = l' at km hv hlt
      by_cases h1 : (h' : Int) > 0
      · repeat' (first | apply T_then | apply then_ret | apply then_exit | apply then_goto | apply rnd_exit | apply rnd_ret | apply rnd_goto | apply noGo_normal | apply noGo_ret | apply noGo_exit | apply jmp_normal | apply jmp_ret | apply jmp_exit | apply jmp_goto | apply inB_normal | apply inB_ret | apply inB_goto | apply inB_exit | refine inB_exit_ne rfl ?_ | ((first | apply T_srK fw | apply T_regK fw); · ((try simp only [TOps.flat, List.cons_append, List.nil_append]); repeat (first | apply X_g0 | apply X_g | apply S_keep | apply X_skip | apply X_skipN | refine X_callM ?_ (callM_mk rfl rfl (by rw [hP]; exact km) (by simp [lo]) (by simp) (by simp [AS.nr, AV.has, AC.has, AC.has.hasL, AO.nr, lo])) ?_ | apply X_q | apply X_st | apply X_n | apply X_s | apply SKs0 | apply SKs2 | apply SKs1 | refine ⟨⟨rfl, rfl⟩, ?_⟩ | refine ⟨⟨rfl, ?_⟩, ?_⟩ | refine ⟨?_, ?_⟩ | (· (try simp only [go_sem, seval, reduceIte, ↓reduceIte, Bool.not_eq_true, reduceCtorEq, beq_false, beq_true, hn, hP, h1, w8]); first | done | rfl)))) | apply T_seq | apply T_block | refine T_scopeJ 0 rfl ?_ | apply T_scope | apply T_goto | apply T_ret | apply T_skip | apply T_exit | apply T_label | refine T_condT rfl ?_ | refine T_condF rfl ?_ | refine T_condD rfl (fun _ => ?_) (fun _ => ?_) | refine T_cond rfl (fun _ => ?_) (fun _ => ?_))
        exact ends_ret rfl rfl rfl (by rw [rng_out (by unfold I64 sgn; simp; omega)]; rfl)
      · by_cases h2 : (l' : Int) > 9223372036854775808
        · repeat' (first | apply T_then | apply then_ret | apply then_exit | apply then_goto | apply rnd_exit | apply rnd_ret | apply rnd_goto | apply noGo_normal | apply noGo_ret | apply noGo_exit | apply jmp_normal | apply jmp_ret | apply jmp_exit | apply jmp_goto | apply inB_normal | apply inB_ret | apply inB_goto | apply inB_exit | refine inB_exit_ne rfl ?_ | ((first | apply T_srK fw | apply T_regK fw); · ((try simp only [TOps.flat, List.cons_append, List.nil_append]); repeat (first | apply X_g0 | apply X_g | apply S_keep | apply X_skip | apply X_skipN | refine X_callM ?_ (callM_mk rfl rfl (by rw [hP]; exact km) (by simp [lo]) (by simp) (by simp [AS.nr, AV.has, AC.has, AC.has.hasL, AO.nr, lo])) ?_ | apply X_q | apply X_st | apply X_n | apply X_s | apply SKs0 | apply SKs2 | apply SKs1 | refine ⟨⟨rfl, rfl⟩, ?_⟩ | refine ⟨⟨rfl, ?_⟩, ?_⟩ | refine ⟨?_, ?_⟩ | (· (try simp only [go_sem, seval, reduceIte, ↓reduceIte, Bool.not_eq_true, reduceCtorEq, beq_false, beq_true, hn, hP, h1, h2, w8]); first | done | rfl)))) | apply T_seq | apply T_block | refine T_scopeJ 0 rfl ?_ | apply T_scope | apply T_goto | apply T_ret | apply T_skip | apply T_exit | apply T_label | refine T_condT rfl ?_ | refine T_condF rfl ?_ | refine T_condD rfl (fun _ => ?_) (fun _ => ?_) | refine T_cond rfl (fun _ => ?_) (fun _ => ?_))
          exact ends_ret rfl rfl rfl (by rw [rng_out (by unfold I64 sgn; simp; omega)]; rfl)
        · have w1 := neg_u64 (l := l') (by omega)
          repeat' (first | apply T_then | apply then_ret | apply then_exit | apply then_goto | apply rnd_exit | apply rnd_ret | apply rnd_goto | apply noGo_normal | apply noGo_ret | apply noGo_exit | apply jmp_normal | apply jmp_ret | apply jmp_exit | apply jmp_goto | apply inB_normal | apply inB_ret | apply inB_goto | apply inB_exit | refine inB_exit_ne rfl ?_ | ((first | apply T_srK fw | apply T_regK fw); · ((try simp only [TOps.flat, List.cons_append, List.nil_append]); repeat (first | apply X_g0 | apply X_g | apply S_keep | apply X_skip | apply X_skipN | refine X_callM ?_ (callM_mk rfl rfl (by rw [hP]; exact km) (by simp [lo]) (by simp) (by simp [AS.nr, AV.has, AC.has, AC.has.hasL, AO.nr, lo])) ?_ | apply X_q | apply X_st | apply X_n | apply X_s | apply SKs0 | apply SKs2 | apply SKs1 | refine ⟨⟨rfl, rfl⟩, ?_⟩ | refine ⟨⟨rfl, ?_⟩, ?_⟩ | refine ⟨?_, ?_⟩ | (· (try simp only [go_sem, seval, reduceIte, ↓reduceIte, Bool.not_eq_true, reduceCtorEq, beq_false, beq_true, hn, hP, h1, h2, w1, w8]); first | done | rfl)))) | apply T_seq | apply T_block | refine T_scopeJ 0 rfl ?_ | apply T_scope | apply T_goto | apply T_ret | apply T_skip | apply T_exit | apply T_label | refine T_condT rfl ?_ | refine T_condF rfl ?_ | refine T_condD rfl (fun _ => ?_) (fun _ => ?_) | refine T_cond rfl (fun _ => ?_) (fun _ => ?_))
          have e : sgn (h * 18446744073709551616 + l) true true = -(l' : Int) := by unfold sgn; simp; omega
          exact ends_ret rfl rfl rfl (by rw [e, rng_in (by unfold I64; omega)]; rfl)

end Go.AM

namespace Go.AM
open Go Go.Proofs
set_option maxRecDepth 100000
set_option maxHeartbeats 4000000
set_option linter.unusedSimpArgs false
set_option linter.unusedVariables false

theorem apart_mul {a b : Int} : (apart a b = true → a * b = -((a.natAbs * b.natAbs : Nat) : Int)) ∧ (apart a b = false → a * b = ((a.natAbs * b.natAbs : Nat) : Int)) := by
  unfold apart
  have h := Int.natAbs_mul a b
  rcases Int.lt_trichotomy a 0 with ha | rfl | ha
  · rcases Int.lt_trichotomy b 0 with hb | rfl | hb
    · have := Int.mul_pos_of_neg_of_neg ha hb
      exact ⟨fun h => by simp [ha, hb] at h, fun _ => by rw [← h]; omega⟩
    · simp
    · have := Int.mul_neg_of_neg_of_pos ha hb
      exact ⟨fun _ => by rw [← h]; omega, fun h => by simp [ha] at h; omega⟩
  · simp
  · rcases Int.lt_trichotomy b 0 with hb | rfl | hb
    · have := Int.mul_neg_of_pos_of_neg ha hb
      exact ⟨fun _ => by rw [← h]; omega, fun h => by simp [hb] at h; omega⟩
    · simp
    · have := Int.mul_pos ha hb
      exact ⟨fun h => by simp at h; omega, fun _ => by rw [← h]; omega⟩

theorem mul_sgn (a b : Int) : sgn (a.natAbs * b.natAbs / 4294967296) (decide (a.natAbs * b.natAbs % 4294967296 ≠ 0)) (apart a b) = a * b / 4294967296 := by
  have h := apart_mul (a := a) (b := b)
  generalize a.natAbs * b.natAbs = m at *
  cases hp : apart a b
  · rw [h.2 hp]; unfold sgn; simp
  · rw [h.1 hp]; unfold sgn
    by_cases h0 : m % 4294967296 = 0
    · simp [h0]; omega
    · simp [h0]; omega

theorem abs_lt {a : Int} (ha : I64 a) : a.natAbs ≤ 9223372036854775808 := by unfold I64 at ha; omega

theorem p_fix_Mul {a b : Int} (ha : I64 a) (hb : I64 b) : PureC Try.prog fi_fix_Mul [dN a, dN b] (dNE (fMul a b)) := by
  refine pure_fix_Mul (by simp) fun G hP hn => ?_
  unfold a_fix_Mul
  have la := abs_lt ha
  have lb := abs_lt hb
  have km := p_bits_Mul64 (x := a.natAbs) (y := b.natAbs) (by omega) (by omega)
  have hm : a.natAbs * b.natAbs ≤ 9223372036854775808 * 9223372036854775808 := Nat.mul_le_mul la lb
  have e1 : ∀ m : Nat, m ≤ 9223372036854775808 * 9223372036854775808 → (m / 18446744073709551616) / 4294967296 * 18446744073709551616 + ((m / 18446744073709551616) % 4294967296 * 4294967296 + m % 18446744073709551616 / 4294967296) = m / 4294967296 := by
    intro m hm; omega
  have e1 := e1 _ hm
  have hs := mul_sgn a b
  have e2 : (decide (a.natAbs * b.natAbs % 4294967296 ≠ 0)) = (((a.natAbs * b.natAbs % 18446744073709551616 % 4294967296 : Nat) : Int) != 0) := by
    rw [Bool.eq_iff_iff]; simp; omega
  have ks : PureC Try.prog fi_fix_wide_signed [.agg [.int .u64 ((a.natAbs * b.natAbs / 18446744073709551616 / 4294967296 : Nat) : Int), .int .u64 ((a.natAbs * b.natAbs / 18446744073709551616 % 4294967296 * 4294967296 + a.natAbs * b.natAbs % 18446744073709551616 / 4294967296 : Nat) : Int)],
      dB (((a.natAbs * b.natAbs % 18446744073709551616 % 4294967296 : Nat) : Int) != 0), dB (apart a b)] (dNE (fMul a b)) := by
    have := p_fix_signed (h := a.natAbs * b.natAbs / 18446744073709551616 / 4294967296) (l := a.natAbs * b.natAbs / 18446744073709551616 % 4294967296 * 4294967296 + a.natAbs * b.natAbs % 18446744073709551616 / 4294967296) (by omega) (by omega)
      (((a.natAbs * b.natAbs % 18446744073709551616 % 4294967296 : Nat) : Int) != 0) (apart a b)
    rw [e1, ← e2, hs] at this
    rw [← e2]
    exact this
  have a1 := u64_and (x := a.natAbs * b.natAbs % 18446744073709551616) (by omega)
  have o1 := u64_or (x := a.natAbs * b.natAbs / 18446744073709551616 % 4294967296) (y := a.natAbs * b.natAbs % 18446744073709551616 / 4294967296) (by omega) (by omega)
  generalize a.natAbs * b.natAbs = m at *
  repeat' (first | apply T_then | apply then_ret | apply then_exit | apply then_goto | apply rnd_exit | apply rnd_ret | apply rnd_goto | apply noGo_normal | apply noGo_ret | apply noGo_exit | apply jmp_normal | apply jmp_ret | apply jmp_exit | apply jmp_goto | apply inB_normal | apply inB_ret | apply inB_goto | apply inB_exit | refine inB_exit_ne rfl ?_ | ((first | apply T_srK fw | apply T_regK fw); · ((try simp only [TOps.flat, List.cons_append, List.nil_append]); repeat (first | apply X_g0 | apply X_g | apply S_keep | apply X_skip | apply X_skipN | refine X_call ?_ ⟨_, _, _, _, _, _, rfl, rfl, rfl, by rw [hP]; exact p_fix_size ha⟩ ?_ | refine X_call ?_ ⟨_, _, _, _, _, _, rfl, rfl, rfl, by rw [hP]; exact p_fix_size hb⟩ ?_ | refine X_call ?_ ⟨_, _, _, _, _, _, rfl, rfl, rfl, by rw [hP]; exact km⟩ ?_ | refine X_call ?_ ⟨_, _, _, _, _, _, rfl, rfl, rfl, by rw [hP]; exact p_fix_apart _ _⟩ ?_ | refine X_call ?_ ⟨_, _, _, _, _, _, rfl, rfl, rfl, by rw [hP]; exact ks⟩ ?_ | apply X_q | apply X_st | apply X_n | apply X_s | apply SKs0 | apply SKs2 | apply SKs1 | refine ⟨⟨rfl, rfl⟩, ?_⟩ | refine ⟨⟨rfl, ?_⟩, ?_⟩ | refine ⟨?_, ?_⟩ | (· (try simp only [go_sem, seval, reduceIte, ↓reduceIte, Bool.not_eq_true, reduceCtorEq, beq_false, beq_true, hn, hP, shr32, shl32, a1, o1]); first | done | rfl)))) | apply T_seq | apply T_block | refine T_scopeJ 0 rfl ?_ | apply T_scope | apply T_goto | apply T_ret | apply T_skip | apply T_exit | apply T_label | refine T_condT rfl ?_ | refine T_condF rfl ?_ | refine T_condD rfl (fun _ => ?_) (fun _ => ?_) | refine T_cond rfl (fun _ => ?_) (fun _ => ?_))
  exact ends_ret rfl rfl rfl rfl

end Go.AM

namespace Go.AM
open Go Go.Proofs
set_option maxRecDepth 100000
set_option maxHeartbeats 4000000
set_option linter.unusedSimpArgs false
set_option linter.unusedVariables false

def I64s (d : List Int) : Prop := ∀ n ∈ d, I64 n
theorem I64s.get {d : List Int} (h : I64s d) {i : Nat} {x : Int} (hx : d[i]? = some x) : I64 x := h x (List.mem_of_getElem? hx)
theorem I64s.nil : I64s [] := fun n hn => by simp at hn
theorem I64s.append {d e : List Int} (h : I64s d) (k : I64s e) : I64s (d ++ e) := fun n hn => by
  rcases List.mem_append.1 hn with h1 | h1
  · exact h n h1
  · exact k n h1

def coll (f : Nat → Int × Int) : Nat → Nat → List Int → List Int × Int
  | 0, _, acc => (acc, 0)
  | n + 1, a, acc => if (f a).2 = 0 then coll f n (a + 1) (acc ++ [(f a).1]) else ([], (f a).2)

theorem coll_ok {f : Nat → Int × Int} : ∀ {n a : Nat} {acc : List Int}, (∀ k, k < n → (f (a + k)).2 = 0) → coll f n a acc = (acc ++ (List.range n).map (fun k => (f (a + k)).1), 0)
  | 0, a, acc, _ => by simp [coll]
  | n + 1, a, acc, h => by
    have h0 := h 0 (by omega)
    simp only [Nat.add_zero] at h0
    simp only [coll]
    rw [if_pos h0, coll_ok (fun k hk => by have := h (k + 1) (by omega); rwa [show a + (k + 1) = a + 1 + k from by omega] at this)]
    rw [List.range_succ_eq_map, List.map_cons, List.map_map]
    simp only [List.append_assoc, List.cons_append, List.nil_append, Nat.add_zero]
    congr 3
    apply List.map_congr_left
    intro k _
    simp only [Function.comp]
    rw [show a + 1 + k = a + (k + 1) from by omega]

theorem coll_err {f : Nat → Int × Int} : ∀ {n a : Nat} {acc : List Int} {k : Nat}, k < n → (∀ j, j < k → (f (a + j)).2 = 0) → (f (a + k)).2 ≠ 0 → coll f n a acc = ([], (f (a + k)).2)
  | n + 1, a, acc, 0, _, _, h => by
    simp only [coll, Nat.add_zero] at h ⊢
    rw [if_neg h]
  | n + 1, a, acc, k + 1, hk, hj, h => by
    have h0 := hj 0 (by omega)
    simp only [Nat.add_zero] at h0
    simp only [coll]
    rw [if_pos h0, coll_err (k := k) (by omega) (fun j hj' => by have := hj (j + 1) (by omega); rwa [show a + (j + 1) = a + 1 + j from by omega] at this) (by rwa [show a + 1 + k = a + (k + 1) from by omega])]
    rw [show a + 1 + k = a + (k + 1) from by omega]

/-- the first place that has an error, if any -/
theorem coll_cases (f : Nat → Int × Int) (n : Nat) : (∀ k, k < n → (f k).2 = 0) ∨ ∃ k, k < n ∧ (∀ j, j < k → (f j).2 = 0) ∧ (f k).2 ≠ 0 := by
  induction n with
  | zero => exact .inl fun k hk => by omega
  | succ n ih =>
    rcases ih with h | ⟨k, hk, h1, h2⟩
    · by_cases hn : (f n).2 = 0
      · exact .inl fun k hk => by
          by_cases hkn : k = n
          · subst hkn; exact hn
          · exact h k (by omega)
      · exact .inr ⟨n, by omega, h, hn⟩
    · exact .inr ⟨k, by omega, h1, h2⟩

/-- a sum of products, in order, up to the first error -/
def dot (x y : Nat → Int) : Nat → Nat → Int → Int × Int
  | 0, _, s => (s, 0)
  | n + 1, k, s => if (fMul (x k) (y k)).2 = 0 then (if (fAdd s (fMul (x k) (y k)).1).2 = 0 then dot x y n (k + 1) (fAdd s (fMul (x k) (y k)).1).1 else (0, (fAdd s (fMul (x k) (y k)).1).2))
    else (0, (fMul (x k) (y k)).2)

theorem fAdd_range (a b : Int) : I64 (fAdd a b).1 := rng_range _
end Go.AM

namespace Go.AM
open Go Go.Proofs
set_option maxRecDepth 100000
set_option maxHeartbeats 4000000
set_option linter.unusedSimpArgs false
set_option linter.unusedVariables false

def gt (d : List Int) (i : Nat) : Int := (d[i]?).getD 0
/-- the number at a place of a product -/
def cell (n p : Nat) (d e : List Int) (at_ : Nat) : Int × Int := dot (fun k => gt d (at_ / p * n + k)) (fun k => gt e (k * p + at_ % p)) n 0 0
end Go.AM

namespace Go.AM
open Go Go.Proofs
set_option maxRecDepth 100000
set_option maxHeartbeats 4000000
set_option linter.unusedSimpArgs false
set_option linter.unusedVariables false

theorem I64s.mk {s : List Int} {g : List Int → Int} (h : ∀ x, I64 (g x)) : I64s (mk s g) := fun n hn => by
  simp only [AM.mk, List.mem_map] at hn
  obtain ⟨p, _, rfl⟩ := hn
  exact h _
theorem atF_range {s d x : List Int} (hd : I64s d) : I64 (atF s d x).1 := by
  have z : I64 0 := ⟨by decide, by decide⟩
  unfold atF
  split
  · exact z
  · split
    · exact z
    · cases h : d[(placeF s x).1.toNat]? with
      | none => exact z
      | some v => exact hd.get h
end Go.AM

namespace Go.AM
open Go Go.Proofs
set_option maxRecDepth 100000
set_option maxHeartbeats 4000000
set_option linter.unusedSimpArgs false
set_option linter.unusedVariables false

theorem fMul_comm (a b : Int) : fMul a b = fMul b a := by unfold fMul; rw [Int.mul_comm]
theorem i64_0 : I64 0 := ⟨by decide, by decide⟩
theorem gt_range {d : List Int} (h : I64s d) (i : Nat) : I64 (gt d i) := by
  unfold gt
  cases e : d[i]? with
  | none => exact i64_0
  | some v => exact h.get e

theorem len2 {s d : List Int} (h : checkT s d = true) (hl : s.length = 2) : ∃ m n : Nat, s = [(m : Int), (n : Int)] := by
  match s, hl with
  | [m, n], _ =>
    have q1 := (checkT_iff.1 h).1.2.1 m (by simp)
    have q2 := (checkT_iff.1 h).1.2.1 n (by simp)
    obtain ⟨m, rfl⟩ := Int.eq_ofNat_of_zero_le (by omega : 0 ≤ m)
    obtain ⟨n, rfl⟩ := Int.eq_ofNat_of_zero_le (by omega : 0 ≤ n)
    exact ⟨m, n, rfl⟩

end Go.AM

namespace Go.AM
open Go Go.Proofs
set_option maxRecDepth 100000
set_option maxHeartbeats 4000000
set_option linter.unusedSimpArgs false
set_option linter.unusedVariables false

theorem ends_twoM {rv : List RV} {s : AS} {t1 t2 k1 k2 l1 l2 : Nat} {cap1 cap2 : Option Nat} {rows1 rows2 : List (List PV)} {tl : List AV} {ds : List DV} {r : DV} (hne : t1 ≠ t2)
    (h1 : evRV rv s.env s.σ = some (.agg [.msl t1 0 k1 l1 cap1, .msl t2 0 k2 l2 cap2] :: tl)) (h2 : lo s.σ t1 = .arr true k1 rows1) (h3 : lo s.σ t2 = .arr true k2 rows2) (hl1 : l1 = rows1.length) (hl2 : l2 = rows2.length)
    (ht : (tl = [] ∧ ds = []) ∨ ∃ v, tl = [.one (.p v)] ∧ ds = [.one v]) (hr : r = resD (.agg [.sl rows1, .sl rows2] :: ds)) :
    Ends rv r .ret s := by
  have h4 : foldP (toP 6) [.msl t1 0 k1 l1 cap1, .msl t2 0 k2 l2 cap2] s.σ = some ([.sl rows1, .sl rows2], (t2, .arr false k2 rows2) :: (t1, .arr false k1 rows1) :: s.σ) := by
    have e1 := toD_list (n := 5) (cap := cap1) h2 hl1
    have e2 := toD_list (n := 5) (cap := cap2) (σ := (t1, .arr false k1 rows1) :: s.σ) (t := t2) (k := k2) (rows := rows2) (m := true) (by rw [← h3]; simp [lo, hne.symm]) hl2
    simp only [if_true] at e1 e2
    simp only [foldP, e1, e2]
  rcases ht with ⟨rfl, rfl⟩ | ⟨v, rfl, rfl⟩
  · exact ends_ret (ds := [.agg [.sl rows1, .sl rows2]]) (σ' := (t2, .arr false k2 rows2) :: (t1, .arr false k1 rows1) :: s.σ) h1 (by simp only [toDs, toD, h4]) rfl hr.symm
  · exact ends_ret (ds := [.agg [.sl rows1, .sl rows2], .one v]) (σ' := (t2, .arr false k2 rows2) :: (t1, .arr false k1 rows1) :: s.σ) h1 (by simp only [toDs, toD, h4]; rfl) rfl hr.symm

end Go.AM

namespace Go.AM
open Go Go.Proofs
set_option maxRecDepth 100000
set_option maxHeartbeats 4000000
set_option linter.unusedSimpArgs false
set_option linter.unusedVariables false

theorem p_fix_Sub {a b : Int} (ha : I64 a) (hb : I64 b) : PureC Try.prog fi_fix_Sub [dN a, dN b] (dNE (fSub a b)) := by
  refine pure_fix_Sub (by simp) fun G hP hn => ?_
  unfold a_fix_Sub
  have hw := w64_eq (a - b)
  unfold I64 at ha hb
  have k1 : I64 (a - b) → fSub a b = (IntKind.i64.wrap (a - b), 0) := fun h => by
    rw [wrap_in h.1 h.2]; exact rng_in h
  have k2 : ¬ I64 (a - b) → fSub a b = (0, 10) := fun h => by
    exact rng_out h
  unfold I64 at k1 k2
  by_cases h1 : a < 0 <;> by_cases h2 : b < 0 <;> by_cases h3 : IntKind.i64.wrap (a - b) < 0
  all_goals
    repeat' (first | apply T_then | apply then_ret | apply then_exit | apply then_goto | apply rnd_exit | apply rnd_ret | apply rnd_goto | apply noGo_normal | apply noGo_ret | apply noGo_exit | apply jmp_normal | apply jmp_ret | apply jmp_exit | apply jmp_goto | apply inB_normal | apply inB_ret | apply inB_goto | apply inB_exit | refine inB_exit_ne rfl ?_ | ((first | apply T_srK fw | apply T_regK fw); · ((try simp only [TOps.flat, List.cons_append, List.nil_append]); repeat (first | apply X_g0 | apply X_g | apply S_keep | apply X_skip | apply X_skipN | refine X_call ?_ ⟨_, _, _, _, _, _, rfl, rfl, rfl, by rw [hP]; exact p_fix_told _ _⟩ ?_ | apply X_q | apply X_st | apply X_n | apply X_s | apply SKs0 | apply SKs2 | apply SKs1 | refine ⟨⟨rfl, rfl⟩, ?_⟩ | refine ⟨⟨rfl, ?_⟩, ?_⟩ | refine ⟨?_, ?_⟩ | (· (try simp only [go_sem, seval, reduceIte, ↓reduceIte, Bool.not_eq_true, reduceCtorEq, beq_false, beq_true, hn, hP, h1, h2, h3]); first | done | rfl)))) | apply T_seq | apply T_block | refine T_scopeJ 0 rfl ?_ | apply T_scope | apply T_goto | apply T_ret | apply T_skip | apply T_exit | apply T_label | refine T_condT rfl ?_ | refine T_condF rfl ?_ | refine T_condD rfl (fun _ => ?_) (fun _ => ?_) | refine T_cond rfl (fun _ => ?_) (fun _ => ?_))
    exact ends_ret rfl rfl rfl (by
      simp only [resD]
      first
        | (rw [k1 (by split at hw <;> omega)]; done)
        | (rw [k2 (by split at hw <;> omega)]; done)
        | (rw [k1 (by split at hw <;> omega)]; rfl)
        | (rw [k2 (by split at hw <;> omega)]; rfl))

theorem p_fix_Neg {a : Int} (ha : I64 a) : PureC Try.prog fi_fix_Neg [dN a] (dNE (fNeg a)) := by
  refine pure_fix_Neg (by simp) fun G hP hn => ?_
  unfold a_fix_Neg
  by_cases h : a = -9223372036854775808
  · subst h
    have w : IntKind.i64.wrap (-(-9223372036854775808)) = -9223372036854775808 := by decide
    have w' : IntKind.i64.wrap (0 - -9223372036854775808) = -9223372036854775808 := by decide
    repeat' (first | apply T_then | apply then_ret | apply then_exit | apply then_goto | apply rnd_exit | apply rnd_ret | apply rnd_goto | apply noGo_normal | apply noGo_ret | apply noGo_exit | apply jmp_normal | apply jmp_ret | apply jmp_exit | apply jmp_goto | apply inB_normal | apply inB_ret | apply inB_goto | apply inB_exit | refine inB_exit_ne rfl ?_ | ((first | apply T_srK fw | apply T_regK fw); · ((try simp only [TOps.flat, List.cons_append, List.nil_append]); repeat (first | apply X_g0 | apply X_g | apply S_keep | apply X_skip | apply X_skipN | refine X_call ?_ ⟨_, _, _, _, _, _, rfl, rfl, rfl, by rw [hP]; exact p_fix_told _ _⟩ ?_ | apply X_q | apply X_st | apply X_n | apply X_s | apply SKs0 | apply SKs2 | apply SKs1 | refine ⟨⟨rfl, rfl⟩, ?_⟩ | refine ⟨⟨rfl, ?_⟩, ?_⟩ | refine ⟨?_, ?_⟩ | (· (try simp only [go_sem, seval, reduceIte, ↓reduceIte, Bool.not_eq_true, reduceCtorEq, beq_false, beq_true, hn, hP, w, w']); first | done | rfl)))) | apply T_seq | apply T_block | refine T_scopeJ 0 rfl ?_ | apply T_scope | apply T_goto | apply T_ret | apply T_skip | apply T_exit | apply T_label | refine T_condT rfl ?_ | refine T_condF rfl ?_ | refine T_condD rfl (fun _ => ?_) (fun _ => ?_) | refine T_cond rfl (fun _ => ?_) (fun _ => ?_))
    exact ends_ret rfl rfl rfl rfl
  · have e : (a != -9223372036854775808) = true := by simpa using h
    have w' : IntKind.i64.wrap (0 - a) = 0 - a := wrap_in (by unfold I64 at ha; omega) (by unfold I64 at ha; omega)
    have w : IntKind.i64.wrap (-a) = 0 - a := by rw [← Int.zero_sub]; exact w'
    have hf : fNeg a = (0 - a, 0) := rng_in (by unfold I64 at ha ⊢; omega)
    repeat' (first | apply T_then | apply then_ret | apply then_exit | apply then_goto | apply rnd_exit | apply rnd_ret | apply rnd_goto | apply noGo_normal | apply noGo_ret | apply noGo_exit | apply jmp_normal | apply jmp_ret | apply jmp_exit | apply jmp_goto | apply inB_normal | apply inB_ret | apply inB_goto | apply inB_exit | refine inB_exit_ne rfl ?_ | ((first | apply T_srK fw | apply T_regK fw); · ((try simp only [TOps.flat, List.cons_append, List.nil_append]); repeat (first | apply X_g0 | apply X_g | apply S_keep | apply X_skip | apply X_skipN | refine X_call ?_ ⟨_, _, _, _, _, _, rfl, rfl, rfl, by rw [hP]; exact p_fix_told _ _⟩ ?_ | apply X_q | apply X_st | apply X_n | apply X_s | apply SKs0 | apply SKs2 | apply SKs1 | refine ⟨⟨rfl, rfl⟩, ?_⟩ | refine ⟨⟨rfl, ?_⟩, ?_⟩ | refine ⟨?_, ?_⟩ | (· (try simp only [go_sem, seval, reduceIte, ↓reduceIte, Bool.not_eq_true, reduceCtorEq, beq_false, beq_true, hn, hP, w, w', e]); first | done | rfl)))) | apply T_seq | apply T_block | refine T_scopeJ 0 rfl ?_ | apply T_scope | apply T_goto | apply T_ret | apply T_skip | apply T_exit | apply T_label | refine T_condT rfl ?_ | refine T_condF rfl ?_ | refine T_condD rfl (fun _ => ?_) (fun _ => ?_) | refine T_cond rfl (fun _ => ?_) (fun _ => ?_))
    exact ends_ret rfl rfl rfl (by rw [hf]; rfl)

def fRelu (a : Int) : Int × Int := (max a 0, 0)
theorem p_relu (a : Int) : PureC Try.prog fi_elem_kinds_1 [dN a] (dNE (fRelu a)) := by
  refine pure_elem_kinds_1 (by simp) fun G hP hn => ?_
  unfold a_elem_kinds_1
  repeat' (first | apply T_then | apply then_ret | apply then_exit | apply then_goto | apply rnd_exit | apply rnd_ret | apply rnd_goto | apply noGo_normal | apply noGo_ret | apply noGo_exit | apply jmp_normal | apply jmp_ret | apply jmp_exit | apply jmp_goto | apply inB_normal | apply inB_ret | apply inB_goto | apply inB_exit | refine inB_exit_ne rfl ?_ | ((first | apply T_srK fw | apply T_regK fw); · ((try simp only [TOps.flat, List.cons_append, List.nil_append]); repeat (first | apply X_g0 | apply X_g | apply S_keep | apply X_skip | apply X_skipN | apply X_q | apply X_st | apply X_n | apply X_s | apply SKs0 | apply SKs2 | apply SKs1 | refine ⟨⟨rfl, rfl⟩, ?_⟩ | refine ⟨⟨rfl, ?_⟩, ?_⟩ | refine ⟨?_, ?_⟩ | (· (try simp only [go_sem, seval, reduceIte, ↓reduceIte, Bool.not_eq_true, reduceCtorEq, beq_false, beq_true, hn, hP]); first | done | rfl)))) | apply T_seq | apply T_block | refine T_scopeJ 0 rfl ?_ | apply T_scope | apply T_goto | apply T_ret | apply T_skip | apply T_exit | apply T_label | refine T_condT rfl ?_ | refine T_condF rfl ?_ | refine T_condD rfl (fun _ => ?_) (fun _ => ?_) | refine T_cond rfl (fun _ => ?_) (fun _ => ?_))
  exact ends_ret rfl rfl rfl rfl

/-- what there is to be done, by its number -/
def kindsM : PV := .map [(10, true, [.nilF, .fn fi_fix_Add [] []]), (11, true, [.nilF, .fn fi_fix_Sub [] []]), (12, true, [.nilF, .fn fi_fix_Mul [] []]), (13, true, [.nilF, .fn fi_fix_Div [] []]),
  (20, true, [.fn fi_fix_Neg [] [], .nilF]), (21, true, [.fn fi_elem_kinds_1 [] [], .nilF]), (22, true, [.fn fi_fix_Pow [] [], .nilF]), (23, true, [.fn fi_fix_Sqrt [] [], .nilF])]
theorem p_elem_kinds : PureC Try.prog fi_elem_kinds [] (.one kindsM) := by
  refine pure_elem_kinds (by simp) fun G hP hn => ?_
  unfold a_elem_kinds
  repeat' (first | apply T_then | apply then_ret | apply then_exit | apply then_goto | apply rnd_exit | apply rnd_ret | apply rnd_goto | apply noGo_normal | apply noGo_ret | apply noGo_exit | apply jmp_normal | apply jmp_ret | apply jmp_exit | apply jmp_goto | apply inB_normal | apply inB_ret | apply inB_goto | apply inB_exit | refine inB_exit_ne rfl ?_ | ((first | apply T_srK fw | apply T_regK fw); · ((try simp only [TOps.flat, List.cons_append, List.nil_append]); repeat (first | apply X_g0 | apply X_g | apply S_keep | apply X_skip | apply X_skipN | apply X_q | apply X_st | apply X_n | apply X_s | apply SKs0 | apply SKs2 | apply SKs1 | refine ⟨⟨rfl, rfl⟩, ?_⟩ | refine ⟨⟨rfl, ?_⟩, ?_⟩ | refine ⟨?_, ?_⟩ | (· (try simp only [go_sem, seval, reduceIte, ↓reduceIte, Bool.not_eq_true, reduceCtorEq, beq_false, beq_true, hn, hP]); first | done | rfl)))) | apply T_seq | apply T_block | refine T_scopeJ 0 rfl ?_ | apply T_scope | apply T_goto | apply T_ret | apply T_skip | apply T_exit | apply T_label | refine T_condT rfl ?_ | refine T_condF rfl ?_ | refine T_condD rfl (fun _ => ?_) (fun _ => ?_) | refine T_cond rfl (fun _ => ?_) (fun _ => ?_))
  exact ends_ret rfl rfl rfl rfl

/-- places of a shape, one behind the other, up to the first error -/
def eachF (s : List Int) (h : Nat → Int × Int) : (List Int × List Int) × Int :=
  if (coll h (sizeS s).toNat 0 []).2 = 0 then ((s, (coll h (sizeS s).toNat 0 []).1), 0) else bad (coll h (sizeS s).toNat 0 []).2
theorem p_elem_each {f : FuncId} {caps : List PV} {s : List Int} {h : Nat → Int × Int} (hs : s.length ≤ 64) (hf : ∀ p : Nat, p < (sizeS s).toNat → PureC Try.prog f ([dN p] ++ caps.map .one) (dNE (h p))) :
    PureC Try.prog fi_elem_each [dI s, .one (.fn f [] caps)] (dTE (eachF s h)) := by
  refine pure_elem_each (by simp) fun G hP hn => ?_
  unfold a_elem_each
  have kl := m_slices_Clone s (by omega)
  have ks := p_shape_Size s
  have hz := sizeS_nn s
  repeat' (first | apply T_then | apply then_ret | apply then_exit | apply then_goto | apply rnd_exit | apply rnd_ret | apply rnd_goto | apply noGo_normal | apply noGo_ret | apply noGo_exit | apply jmp_normal | apply jmp_ret | apply jmp_exit | apply jmp_goto | apply inB_normal | apply inB_ret | apply inB_goto | apply inB_exit | refine inB_exit_ne rfl ?_ | ((first | apply T_srK fw | apply T_regK fw); · ((try simp only [TOps.flat, List.cons_append, List.nil_append]); repeat (first | apply X_g0 | apply X_g | apply S_keep | apply X_skip | apply X_skipN | refine X_call ?_ ⟨_, _, _, _, _, _, rfl, rfl, rfl, by rw [hP]; exact ks⟩ ?_ | refine X_callM ?_ (callM_mk rfl rfl (by rw [hP]; exact kl) (by simp [lo]) (by simp) (by simp [AS.nr, AV.has, AC.has, AC.has.hasL, AO.nr, lo, DV.av] <;> assumption)) ?_ | apply X_q | apply X_st | apply X_n | apply X_s | apply SKs0 | apply SKs2 | apply SKs1 | refine ⟨⟨rfl, rfl⟩, ?_⟩ | refine ⟨⟨rfl, ?_⟩, ?_⟩ | refine ⟨?_, ?_⟩ | (· (try simp only [go_sem, seval, reduceIte, ↓reduceIte, Bool.not_eq_true, reduceCtorEq, beq_false, beq_true, hn, hP]); first | done | rfl)))) | apply T_seq | apply T_block | refine T_scopeJ 0 rfl ?_ | apply T_scope | apply T_goto | apply T_ret | apply T_skip | apply T_exit | apply T_label | refine T_condT rfl ?_ | refine T_condF rfl ?_ | refine T_condD rfl (fun _ => ?_) (fun _ => ?_) | refine T_cond rfl (fun _ => ?_) (fun _ => ?_))
  refine T_weak (Weak.nilC 6 100 1 1 rfl rfl rfl rfl) ?_
  refine T_for (sizeS s).toNat (fun i acc => { env := [(1, .one (.p (.fn f [] caps))), (4, .one (.ptr 4 0 2 0)), (6, .one (.ptr 6 0 2 0)), (14, .one (.p (.int .i64 (sizeS s)))), (15, .one (.p (.int .i64 i)))], σ := [(4, .cells true [.nils, .nils]), (6, .cells true [.msl 5 0 1 s.length none, .msl 100 0 1 i none]), (5, .arr true 1 (rI s)), (100, .arr true 1 (rI acc))] })
    (fun i acc => acc.length = i ∧ coll h ((sizeS s).toNat - i) i acc = coll h (sizeS s).toNat 0 []) [] ⟨rfl, rfl⟩ ?_ fun i acc hi hinv => ?_
  · refine Weak.sub fun q hq => ?_
    simp only [List.mem_cons, List.not_mem_nil, or_false] at hq
    rcases hq with rfl | rfl | rfl | rfl <;> rfl
  obtain ⟨hal, hcol⟩ := hinv
  by_cases hlt : i < (sizeS s).toNat
  · have c1 : (i : Int) < sizeS s := by omega
    have w1 : IntKind.i64.wrap ((i : Int) + 1) = ((i + 1 : Nat) : Int) := by rw [wrap_in (by omega) (by omega)]; rfl
    have kf := hf i hlt
    rw [show (sizeS s).toNat - i = ((sizeS s).toNat - (i + 1)) + 1 from by omega] at hcol
    simp only [coll] at hcol
    generalize h i = v at *
    by_cases e : v.2 = 0
    · rw [if_pos e] at hcol
      have e' : (v.2 != 0) = false := by simp [e]
      have c4 : (i + 1) * 8 ≤ 2 ^ 40 := by omega
      have c5 : i + 1 ≤ 2 ^ 40 := by omega
      repeat' (first | apply T_then | apply then_ret | apply then_exit | apply then_goto | apply rnd_exit | apply rnd_ret | apply rnd_goto | apply noGo_normal | apply noGo_ret | apply noGo_exit | apply jmp_normal | apply jmp_ret | apply jmp_exit | apply jmp_goto | apply inB_normal | apply inB_ret | apply inB_goto | apply inB_exit | refine inB_exit_ne rfl ?_ | ((first | apply T_srK fw | apply T_regK fw); · ((try simp only [TOps.flat, List.cons_append, List.nil_append]); repeat (first | apply X_g0 | apply X_g | apply S_keep | apply X_skip | apply X_skipN | refine X_call ?_ ⟨_, _, _, _, _, _, rfl, rfl, rfl, by rw [hP]; exact kf⟩ ?_ | apply X_q | apply X_st | apply X_n | apply X_s | apply SKs0 | apply SKs2 | apply SKs1 | refine ⟨⟨rfl, rfl⟩, ?_⟩ | refine ⟨⟨rfl, ?_⟩, ?_⟩ | refine ⟨?_, ?_⟩ | (· (try simp only [go_sem, seval, reduceIte, ↓reduceIte, Bool.not_eq_true, reduceCtorEq, beq_false, beq_true, hn, hP, c1, w1, e', hal, c4, c5]); first | done | rfl)))) | apply T_seq | apply T_block | refine T_scopeJ 0 rfl ?_ | apply T_scope | apply T_goto | apply T_ret | apply T_skip | apply T_exit | apply T_label | refine T_condT rfl ?_ | refine T_condF rfl ?_ | refine T_condD rfl (fun _ => ?_) (fun _ => ?_) | refine T_cond rfl (fun _ => ?_) (fun _ => ?_))
      refine rnd_next hlt (acc ++ [v.1]) ⟨by simp [hal], hcol⟩ (Weak.sub fun q hq => ?_)
      simp only [List.mem_cons, List.not_mem_nil, or_false] at hq
      rcases hq with rfl | rfl | rfl | rfl
      · rfl
      · rfl
      · rfl
      · simp [lo, rI]
    · rw [if_neg e] at hcol
      have e' : (v.2 != 0) = true := by simp [e]
      have hE : eachF s h = bad v.2 := by unfold eachF; rw [← hcol, if_neg e]
      repeat' (first | apply T_then | apply then_ret | apply then_exit | apply then_goto | apply rnd_exit | apply rnd_ret | apply rnd_goto | apply noGo_normal | apply noGo_ret | apply noGo_exit | apply jmp_normal | apply jmp_ret | apply jmp_exit | apply jmp_goto | apply inB_normal | apply inB_ret | apply inB_goto | apply inB_exit | refine inB_exit_ne rfl ?_ | ((first | apply T_srK fw | apply T_regK fw); · ((try simp only [TOps.flat, List.cons_append, List.nil_append]); repeat (first | apply X_g0 | apply X_g | apply S_keep | apply X_skip | apply X_skipN | refine X_call ?_ ⟨_, _, _, _, _, _, rfl, rfl, rfl, by rw [hP]; exact kf⟩ ?_ | apply X_q | apply X_st | apply X_n | apply X_s | apply SKs0 | apply SKs2 | apply SKs1 | refine ⟨⟨rfl, rfl⟩, ?_⟩ | refine ⟨⟨rfl, ?_⟩, ?_⟩ | refine ⟨?_, ?_⟩ | (· (try simp only [go_sem, seval, reduceIte, ↓reduceIte, Bool.not_eq_true, reduceCtorEq, beq_false, beq_true, hn, hP, c1, w1, e']); first | done | rfl)))) | apply T_seq | apply T_block | refine T_scopeJ 0 rfl ?_ | apply T_scope | apply T_goto | apply T_ret | apply T_skip | apply T_exit | apply T_label | refine T_condT rfl ?_ | refine T_condF rfl ?_ | refine T_condD rfl (fun _ => ?_) (fun _ => ?_) | refine T_cond rfl (fun _ => ?_) (fun _ => ?_))
      exact ends_ret rfl rfl rfl (by rw [hE]; rfl)
  · have c1 : ¬ (i : Int) < sizeS s := by omega
    have hie : i = (sizeS s).toNat := by omega
    rw [hie, Nat.sub_self] at hcol
    simp only [coll] at hcol
    have hE : eachF s h = ((s, acc), 0) := by unfold eachF; rw [← hcol, if_pos rfl]
    repeat' (first | apply T_then | apply then_ret | apply then_exit | apply then_goto | apply rnd_exit | apply rnd_ret | apply rnd_goto | apply noGo_normal | apply noGo_ret | apply noGo_exit | apply jmp_normal | apply jmp_ret | apply jmp_exit | apply jmp_goto | apply inB_normal | apply inB_ret | apply inB_goto | apply inB_exit | refine inB_exit_ne rfl ?_ | ((first | apply T_srK fw | apply T_regK fw); · ((try simp only [TOps.flat, List.cons_append, List.nil_append]); repeat (first | apply X_g0 | apply X_g | apply S_keep | apply X_skip | apply X_skipN | apply X_q | apply X_st | apply X_n | apply X_s | apply SKs0 | apply SKs2 | apply SKs1 | refine ⟨⟨rfl, rfl⟩, ?_⟩ | refine ⟨⟨rfl, ?_⟩, ?_⟩ | refine ⟨?_, ?_⟩ | (· (try simp only [go_sem, seval, reduceIte, ↓reduceIte, Bool.not_eq_true, reduceCtorEq, beq_false, beq_true, hn, hP, c1]); first | done | rfl)))) | apply T_seq | apply T_block | refine T_scopeJ 0 rfl ?_ | apply T_scope | apply T_goto | apply T_ret | apply T_skip | apply T_exit | apply T_label | refine T_condT rfl ?_ | refine T_condF rfl ?_ | refine T_condD rfl (fun _ => ?_) (fun _ => ?_) | refine T_cond rfl (fun _ => ?_) (fun _ => ?_))
    exact ends_twoM (t1 := 5) (t2 := 100) (by decide) rfl rfl rfl (by simp) (by simp [hal]) (.inr ⟨_, rfl, rfl⟩) (by rw [hE]; rfl)

theorem p_elem_Two_1 {f : FuncId} {W : Int → Int → Int × Int} {k1 : PV} {s d t e : List Int} {p : Nat} {a b : Int} (ha : d[p]? = some a) (hb : e[p]? = some b) (hW : PureC Try.prog f [dN a, dN b] (dNE (W a b))) :
    PureC Try.prog fi_elem_Two_1 [dN p, .one (.box [k1, .fn f [] []]), .one (.box [eI s, eI d]), .one (.box [eI t, eI e])] (dNE (W a b)) := by
  refine pure_elem_Two_1 (by simp) fun G hP hn => ?_
  unfold a_elem_Two_1
  have hl := (List.getElem?_eq_some_iff.1 ha).1
  have hl2 := (List.getElem?_eq_some_iff.1 hb).1
  repeat' (first | apply T_then | apply then_ret | apply then_exit | apply then_goto | apply rnd_exit | apply rnd_ret | apply rnd_goto | apply noGo_normal | apply noGo_ret | apply noGo_exit | apply jmp_normal | apply jmp_ret | apply jmp_exit | apply jmp_goto | apply inB_normal | apply inB_ret | apply inB_goto | apply inB_exit | refine inB_exit_ne rfl ?_ | ((first | apply T_srK fw | apply T_regK fw); · ((try simp only [TOps.flat, List.cons_append, List.nil_append]); repeat (first | apply X_g0 | apply X_g | apply S_keep | apply X_skip | apply X_skipN | refine X_call ?_ ⟨_, _, _, _, _, _, rfl, rfl, rfl, by rw [hP]; exact hW⟩ ?_ | apply X_q | apply X_st | apply X_n | apply X_s | apply SKs0 | apply SKs2 | apply SKs1 | refine ⟨⟨rfl, rfl⟩, ?_⟩ | refine ⟨⟨rfl, ?_⟩, ?_⟩ | refine ⟨?_, ?_⟩ | (· (try simp only [go_sem, seval, reduceIte, ↓reduceIte, Bool.not_eq_true, reduceCtorEq, beq_false, beq_true, hn, hP, ha, hb, hl, hl2]); first | done | rfl)))) | ((first | apply T_sdF fw (by rw [hP]; rfl) (by decide +kernel) | apply T_drF fw (by rw [hP]; rfl) (by decide +kernel)); · ((try simp only [TOps.flat, List.cons_append, List.nil_append]); repeat (first | apply Y_g0 | apply Y_g | apply Y_skip | apply Y_q | refine Y_call ⟨_, _, _, _, _, _, rfl, rfl, rfl, by rw [hP]; exact hW⟩ ?_ ?_ | refine RunF_nil (P := G.P) ?_ | (· (try simp only [go_sem, seval, reduceIte, ↓reduceIte, Bool.not_eq_true, reduceCtorEq, beq_false, beq_true, hn, hP, ha, hb, hl, hl2]); first | done | rfl)))) | apply T_seq | apply T_block | refine T_scopeJ 0 rfl ?_ | apply T_scope | apply T_goto | apply T_ret | apply T_skip | apply T_exit | apply T_label | refine T_condT rfl ?_ | refine T_condF rfl ?_ | refine T_condD rfl (fun _ => ?_) (fun _ => ?_) | refine T_cond rfl (fun _ => ?_) (fun _ => ?_))
  exact ends_ret rfl rfl rfl rfl

theorem p_elem_One_1 {f : FuncId} {W : Int → Int × Int} {k2 : PV} {s d : List Int} {p : Nat} {a : Int} (ha : d[p]? = some a) (hW : PureC Try.prog f [dN a] (dNE (W a))) :
    PureC Try.prog fi_elem_One_1 [dN p, .one (.box [.fn f [] [], k2]), .one (.box [eI s, eI d])] (dNE (W a)) := by
  refine pure_elem_One_1 (by simp) fun G hP hn => ?_
  unfold a_elem_One_1
  have hl := (List.getElem?_eq_some_iff.1 ha).1
  repeat' (first | apply T_then | apply then_ret | apply then_exit | apply then_goto | apply rnd_exit | apply rnd_ret | apply rnd_goto | apply noGo_normal | apply noGo_ret | apply noGo_exit | apply jmp_normal | apply jmp_ret | apply jmp_exit | apply jmp_goto | apply inB_normal | apply inB_ret | apply inB_goto | apply inB_exit | refine inB_exit_ne rfl ?_ | ((first | apply T_srK fw | apply T_regK fw); · ((try simp only [TOps.flat, List.cons_append, List.nil_append]); repeat (first | apply X_g0 | apply X_g | apply S_keep | apply X_skip | apply X_skipN | refine X_call ?_ ⟨_, _, _, _, _, _, rfl, rfl, rfl, by rw [hP]; exact hW⟩ ?_ | apply X_q | apply X_st | apply X_n | apply X_s | apply SKs0 | apply SKs2 | apply SKs1 | refine ⟨⟨rfl, rfl⟩, ?_⟩ | refine ⟨⟨rfl, ?_⟩, ?_⟩ | refine ⟨?_, ?_⟩ | (· (try simp only [go_sem, seval, reduceIte, ↓reduceIte, Bool.not_eq_true, reduceCtorEq, beq_false, beq_true, hn, hP, ha, hl]); first | done | rfl)))) | ((first | apply T_sdF fw (by rw [hP]; rfl) (by decide +kernel) | apply T_drF fw (by rw [hP]; rfl) (by decide +kernel)); · ((try simp only [TOps.flat, List.cons_append, List.nil_append]); repeat (first | apply Y_g0 | apply Y_g | apply Y_skip | apply Y_q | refine Y_call ⟨_, _, _, _, _, _, rfl, rfl, rfl, by rw [hP]; exact hW⟩ ?_ ?_ | refine RunF_nil (P := G.P) ?_ | (· (try simp only [go_sem, seval, reduceIte, ↓reduceIte, Bool.not_eq_true, reduceCtorEq, beq_false, beq_true, hn, hP, ha, hl]); first | done | rfl)))) | apply T_seq | apply T_block | refine T_scopeJ 0 rfl ?_ | apply T_scope | apply T_goto | apply T_ret | apply T_skip | apply T_exit | apply T_label | refine T_condT rfl ?_ | refine T_condF rfl ?_ | refine T_condD rfl (fun _ => ?_) (fun _ => ?_) | refine T_cond rfl (fun _ => ?_) (fun _ => ?_))
  exact ends_ret rfl rfl rfl rfl
end Go.AM

namespace Go.AM
open Go Go.Proofs
set_option maxRecDepth 100000
set_option maxHeartbeats 4000000
set_option linter.unusedSimpArgs false
set_option linter.unusedVariables false

def sideS (s : List Int) (i : Nat) : Int := (s.reverse[i]?).getD 1
theorem sideS_ge {s : List Int} {i : Nat} (h : s.length ≤ i) : sideS s i = 1 := by unfold sideS; rw [List.getElem?_eq_none (by simpa using h)]; rfl
theorem sideS_lt {s : List Int} {i : Nat} (h : i < s.length) : s[s.length - 1 - i]? = some (sideS s i) := by
  unfold sideS
  rw [List.getElem?_reverse h, List.getElem?_eq_getElem (by omega)]; rfl

theorem p_shape_side (s : List Int) (i : Nat) (hs : s.length ≤ 64) (hi : i ≤ 64) : PureC Try.prog fi_shape_side [dI s, dN i] (dN (sideS s i)) := by
  refine pure_shape_side (by simp) fun G hP hn => ?_
  unfold a_shape_side
  by_cases h : s.length ≤ i
  · have c1 : (i : Int) ≥ s.length := by omega
    repeat' (first | apply T_then | apply then_ret | apply then_exit | apply then_goto | apply rnd_exit | apply rnd_ret | apply rnd_goto | apply noGo_normal | apply noGo_ret | apply noGo_exit | apply jmp_normal | apply jmp_ret | apply jmp_exit | apply jmp_goto | apply inB_normal | apply inB_ret | apply inB_goto | apply inB_exit | refine inB_exit_ne rfl ?_ | ((first | apply T_srK fw | apply T_regK fw); · ((try simp only [TOps.flat, List.cons_append, List.nil_append]); repeat (first | apply X_g0 | apply X_g | apply S_keep | apply X_skip | apply X_skipN | apply X_q | apply X_st | apply X_n | apply X_s | apply SKs0 | apply SKs2 | apply SKs1 | refine ⟨⟨rfl, rfl⟩, ?_⟩ | refine ⟨⟨rfl, ?_⟩, ?_⟩ | refine ⟨?_, ?_⟩ | (· (try simp only [go_sem, seval, reduceIte, ↓reduceIte, Bool.not_eq_true, reduceCtorEq, beq_false, beq_true, hn, hP, c1]); first | done | rfl)))) | apply T_seq | apply T_block | refine T_scopeJ 0 rfl ?_ | apply T_scope | apply T_goto | apply T_ret | apply T_skip | apply T_exit | apply T_label | refine T_condT rfl ?_ | refine T_condF rfl ?_ | refine T_condD rfl (fun _ => ?_) (fun _ => ?_) | refine T_cond rfl (fun _ => ?_) (fun _ => ?_))
    exact ends_ret rfl rfl rfl (by rw [sideS_ge h]; rfl)
  · have c1 : ¬ (i : Int) ≥ s.length := by omega
    have hx := sideS_lt (s := s) (i := i) (by omega)
    have w1 : IntKind.i64.wrap ((s.length : Int) - 1) = ((s.length - 1 : Nat) : Int) := by rw [wrap_in (by omega) (by omega)]; omega
    have w2 : IntKind.i64.wrap (((s.length - 1 : Nat) : Int) - (i : Int)) = ((s.length - 1 - i : Nat) : Int) := by rw [wrap_in (by omega) (by omega)]; omega
    have hlt : s.length - 1 - i < s.length := by omega
    repeat' (first | apply T_then | apply then_ret | apply then_exit | apply then_goto | apply rnd_exit | apply rnd_ret | apply rnd_goto | apply noGo_normal | apply noGo_ret | apply noGo_exit | apply jmp_normal | apply jmp_ret | apply jmp_exit | apply jmp_goto | apply inB_normal | apply inB_ret | apply inB_goto | apply inB_exit | refine inB_exit_ne rfl ?_ | ((first | apply T_srK fw | apply T_regK fw); · ((try simp only [TOps.flat, List.cons_append, List.nil_append]); repeat (first | apply X_g0 | apply X_g | apply S_keep | apply X_skip | apply X_skipN | apply X_q | apply X_st | apply X_n | apply X_s | apply SKs0 | apply SKs2 | apply SKs1 | refine ⟨⟨rfl, rfl⟩, ?_⟩ | refine ⟨⟨rfl, ?_⟩, ?_⟩ | refine ⟨?_, ?_⟩ | (· (try simp only [go_sem, seval, reduceIte, ↓reduceIte, Bool.not_eq_true, reduceCtorEq, beq_false, beq_true, hn, hP, c1, w1, w2, hx, hlt]); first | done | rfl)))) | apply T_seq | apply T_block | refine T_scopeJ 0 rfl ?_ | apply T_scope | apply T_goto | apply T_ret | apply T_skip | apply T_exit | apply T_label | refine T_condT rfl ?_ | refine T_condF rfl ?_ | refine T_condD rfl (fun _ => ?_) (fun _ => ?_) | refine T_cond rfl (fun _ => ?_) (fun _ => ?_))
    exact ends_ret rfl rfl rfl rfl

def clash (x y : Int) : Bool := x != y && (x != 1 && y != 1)
def maxS (a b : List Int) (i : Nat) : Int := max (sideS a i) (sideS b i)
def joinSh (a b : List Int) (k : Nat) : List Int := ((List.range k).map (maxS a b)).reverse
def joinOk (a b : List Int) : Bool := checkS a && (checkS b && ((List.range (max a.length b.length)).all (fun i => !clash (sideS a i) (sideS b i)) && checkS (joinSh a b (max a.length b.length))))
def joinSF (a b : List Int) : List Int × Int := if joinOk a b = true then (joinSh a b (max a.length b.length), 0) else ([], 20)

theorem joinSh_succ (a b : List Int) (k : Nat) : joinSh a b (k + 1) = maxS a b k :: joinSh a b k := by
  unfold joinSh; rw [List.range_succ, List.map_append, List.reverse_append]; rfl
theorem joinSh_len (a b : List Int) (k : Nat) : (joinSh a b k).length = k := by simp [joinSh]

theorem p_shape_Join (a b : List Int) : PureC Try.prog fi_shape_Join [dI a, dI b] (.tup [dI (joinSF a b).1, dN (joinSF a b).2]) := by
  refine pure_shape_Join (by simp) fun G hP hn => ?_
  unfold a_shape_Join
  cases h1 : checkS a
  · have hf : joinSF a b = ([], 20) := by unfold joinSF joinOk; rw [h1]; rfl
    have k1 := p_shape_Check a
    rw [h1] at k1
    repeat' (first | apply T_then | apply then_ret | apply then_exit | apply then_goto | apply rnd_exit | apply rnd_ret | apply rnd_goto | apply noGo_normal | apply noGo_ret | apply noGo_exit | apply jmp_normal | apply jmp_ret | apply jmp_exit | apply jmp_goto | apply inB_normal | apply inB_ret | apply inB_goto | apply inB_exit | refine inB_exit_ne rfl ?_ | ((first | apply T_srK fw | apply T_regK fw); · ((try simp only [TOps.flat, List.cons_append, List.nil_append]); repeat (first | apply X_g0 | apply X_g | apply S_keep | apply X_skip | apply X_skipN | refine X_call ?_ ⟨_, _, _, _, _, _, rfl, rfl, rfl, by rw [hP]; exact k1⟩ ?_ | apply X_q | apply X_st | apply X_n | apply X_s | apply SKs0 | apply SKs2 | apply SKs1 | refine ⟨⟨rfl, rfl⟩, ?_⟩ | refine ⟨⟨rfl, ?_⟩, ?_⟩ | refine ⟨?_, ?_⟩ | (· (try simp only [go_sem, seval, reduceIte, ↓reduceIte, Bool.not_eq_true, reduceCtorEq, beq_false, beq_true, hn, hP]); first | done | rfl)))) | apply T_seq | apply T_block | refine T_scopeJ 0 rfl ?_ | apply T_scope | apply T_goto | apply T_ret | apply T_skip | apply T_exit | apply T_label | refine T_condT rfl ?_ | refine T_condF rfl ?_ | refine T_condD rfl (fun _ => ?_) (fun _ => ?_) | refine T_cond rfl (fun _ => ?_) (fun _ => ?_))
    exact ends_ret rfl rfl rfl (by rw [hf]; rfl)
  cases h2 : checkS b
  · have hf : joinSF a b = ([], 20) := by unfold joinSF joinOk; rw [h1, h2]; rfl
    have k1 := p_shape_Check a
    have k2 := p_shape_Check b
    rw [h1] at k1
    rw [h2] at k2
    repeat' (first | apply T_then | apply then_ret | apply then_exit | apply then_goto | apply rnd_exit | apply rnd_ret | apply rnd_goto | apply noGo_normal | apply noGo_ret | apply noGo_exit | apply jmp_normal | apply jmp_ret | apply jmp_exit | apply jmp_goto | apply inB_normal | apply inB_ret | apply inB_goto | apply inB_exit | refine inB_exit_ne rfl ?_ | ((first | apply T_srK fw | apply T_regK fw); · ((try simp only [TOps.flat, List.cons_append, List.nil_append]); repeat (first | apply X_g0 | apply X_g | apply S_keep | apply X_skip | apply X_skipN | refine X_call ?_ ⟨_, _, _, _, _, _, rfl, rfl, rfl, by rw [hP]; exact k1⟩ ?_ | refine X_call ?_ ⟨_, _, _, _, _, _, rfl, rfl, rfl, by rw [hP]; exact k2⟩ ?_ | apply X_q | apply X_st | apply X_n | apply X_s | apply SKs0 | apply SKs2 | apply SKs1 | refine ⟨⟨rfl, rfl⟩, ?_⟩ | refine ⟨⟨rfl, ?_⟩, ?_⟩ | refine ⟨?_, ?_⟩ | (· (try simp only [go_sem, seval, reduceIte, ↓reduceIte, Bool.not_eq_true, reduceCtorEq, beq_false, beq_true, hn, hP]); first | done | rfl)))) | apply T_seq | apply T_block | refine T_scopeJ 0 rfl ?_ | apply T_scope | apply T_goto | apply T_ret | apply T_skip | apply T_exit | apply T_label | refine T_condT rfl ?_ | refine T_condF rfl ?_ | refine T_condD rfl (fun _ => ?_) (fun _ => ?_) | refine T_cond rfl (fun _ => ?_) (fun _ => ?_))
    exact ends_ret rfl rfl rfl (by rw [hf]; rfl)
  have k1 := p_shape_Check a
  have k2 := p_shape_Check b
  rw [h1] at k1
  rw [h2] at k2
  have la := check_len h1
  have lb := check_len h2
  have hM : MaxN = 140737488355328 := rfl
  have m1 : max (a.length : Int) (b.length : Int) = ((max a.length b.length : Nat) : Int) := by omega
  have hmax : max a.length b.length ≤ 3 := by omega
  have hla : a.length ≤ max a.length b.length := by omega
  have hlb : b.length ≤ max a.length b.length := by omega
  have hf : joinSF a b = if ((List.range (max a.length b.length)).all (fun i => !clash (sideS a i) (sideS b i)) && checkS (joinSh a b (max a.length b.length))) = true then (joinSh a b (max a.length b.length), 0) else ([], 20) := by
    unfold joinSF joinOk; rw [h1, h2]; rfl
  generalize max a.length b.length = k at *
  have q1 : (k : Int) * 8 ≤ MaxN := by omega
  have q2 : (k : Int) ≤ MaxN := by omega
  repeat' (first | apply T_then | apply then_ret | apply then_exit | apply then_goto | apply rnd_exit | apply rnd_ret | apply rnd_goto | apply noGo_normal | apply noGo_ret | apply noGo_exit | apply jmp_normal | apply jmp_ret | apply jmp_exit | apply jmp_goto | apply inB_normal | apply inB_ret | apply inB_goto | apply inB_exit | refine inB_exit_ne rfl ?_ | ((first | apply T_srK fw | apply T_regK fw); · ((try simp only [TOps.flat, List.cons_append, List.nil_append]); repeat (first | apply X_g0 | apply X_g | apply S_keep | apply X_skip | apply X_skipN | refine X_call ?_ ⟨_, _, _, _, _, _, rfl, rfl, rfl, by rw [hP]; exact k1⟩ ?_ | refine X_call ?_ ⟨_, _, _, _, _, _, rfl, rfl, rfl, by rw [hP]; exact k2⟩ ?_ | apply X_q | apply X_st | apply X_n | apply X_s | apply SKs0 | apply SKs2 | apply SKs1 | refine ⟨⟨rfl, rfl⟩, ?_⟩ | refine ⟨⟨rfl, ?_⟩, ?_⟩ | refine ⟨?_, ?_⟩ | (· (try simp only [go_sem, seval, reduceIte, ↓reduceIte, Bool.not_eq_true, reduceCtorEq, beq_false, beq_true, hn, hP, m1, q1, q2, Int.le_refl]); first | done | rfl)))) | apply T_seq | apply T_block | refine T_scopeJ 0 rfl ?_ | apply T_scope | apply T_goto | apply T_ret | apply T_skip | apply T_exit | apply T_label | refine T_condT rfl ?_ | refine T_condF rfl ?_ | refine T_condD rfl (fun _ => ?_) (fun _ => ?_) | refine T_cond rfl (fun _ => ?_) (fun _ => ?_))
  refine T_for k (fun i (_ : Unit) => { env := [(0, .one (.p (eI a))), (1, .one (.p (eI b))), (6, .one (.msl 23 0 1 k (some k))), (25, .one (.p (.int .i64 k))), (26, .one (.p (.int .i64 i)))], σ := [(23, .arr true 1 (rI (List.replicate (k - i) 0 ++ joinSh a b i)))] })
    (fun i _ => ∀ j, j < i → clash (sideS a j) (sideS b j) = false) () (fun j hj => by omega) ?_ fun i _ hi hno => ?_
  · refine Weak.sub fun q hq => ?_
    simp only [List.mem_cons, List.not_mem_nil, or_false] at hq
    rcases hq with rfl
    simp [lo, joinSh, rI]
  by_cases hlt : i < k
  · have c1 : (i : Int) < (k : Int) := by omega
    have w0 : IntKind.i64.wrap ((i : Int) + 1) = ((i + 1 : Nat) : Int) := by rw [wrap_in (by omega) (by omega)]; rfl
    have w1 : IntKind.i64.wrap ((k : Int) - 1) = ((k - 1 : Nat) : Int) := by rw [wrap_in (by omega) (by omega)]; omega
    have w2 : IntKind.i64.wrap (((k - 1 : Nat) : Int) - (i : Int)) = ((k - 1 - i : Nat) : Int) := by rw [wrap_in (by omega) (by omega)]; omega
    have kx := p_shape_side a i (by omega) (by omega)
    have ky := p_shape_side b i (by omega) (by omega)
    have c2 : k - 1 - i < k := by omega
    have hrep : List.replicate (k - i) (0 : Int) = List.replicate (k - 1 - i + 1) 0 := by congr 1; omega
    have hz : (List.replicate (k - 1 - i + 1) (0 : Int) ++ joinSh a b i)[k - 1 - i]? = some 0 := by
      rw [List.getElem?_append_left (by simp)]; simp
    have hst := rep_set (k - 1 - i) (maxS a b i) (joinSh a b i)
    have hlen : (List.replicate (k - 1 - i + 1) (0 : Int) ++ joinSh a b i).length = k := by simp [joinSh_len]; omega
    have hmx : maxS a b i = max (sideS a i) (sideS b i) := rfl
    rw [hrep]
    generalize List.replicate (k - 1 - i + 1) (0 : Int) ++ joinSh a b i = R at hz hst hlen
    rw [hmx] at hst
    have hx : sideS a i = sideS a i := rfl
    have hy : sideS b i = sideS b i := rfl
    generalize hx' : sideS a i = x at kx hst hx
    generalize hy' : sideS b i = y at ky hst hy
    have nxt : clash x y = false → ∀ j, j < i + 1 → clash (sideS a j) (sideS b j) = false := fun hc j hj => by
      rcases Nat.lt_succ_iff_lt_or_eq.1 hj with hj | rfl
      · exact hno j hj
      · rw [hx', hy']; exact hc
    have fin : ∀ q ∈ [((23 : Nat), AO.arr true 1 (rI (List.replicate (k - (i + 1)) 0 ++ joinSh a b (i + 1))))], lo [(23, AO.arr true 1 (rI (R.set (k - 1 - i) (max x y))))] q.1 = q.2 := fun q hq => by
      simp only [List.mem_cons, List.not_mem_nil, or_false] at hq
      rcases hq with rfl
      rw [hst, joinSh_succ, hmx, hx', hy', show k - (i + 1) = k - 1 - i from by omega]
      rfl
    cases e1 : (x != y)
    · repeat' (first | apply T_then | apply then_ret | apply then_exit | apply then_goto | apply rnd_exit | apply rnd_ret | apply rnd_goto | apply noGo_normal | apply noGo_ret | apply noGo_exit | apply jmp_normal | apply jmp_ret | apply jmp_exit | apply jmp_goto | apply inB_normal | apply inB_ret | apply inB_goto | apply inB_exit | refine inB_exit_ne rfl ?_ | ((first | apply T_srK fw | apply T_regK fw); · ((try simp only [TOps.flat, List.cons_append, List.nil_append]); repeat (first | apply X_g0 | apply X_g | apply S_keep | apply X_skip | apply X_skipN | refine X_call ?_ ⟨_, _, _, _, _, _, rfl, rfl, rfl, by rw [hP]; exact kx⟩ ?_ | refine X_call ?_ ⟨_, _, _, _, _, _, rfl, rfl, rfl, by rw [hP]; exact ky⟩ ?_ | apply X_q | apply X_st | apply X_n | apply X_s | apply SKs0 | apply SKs2 | apply SKs1 | refine ⟨⟨rfl, rfl⟩, ?_⟩ | refine ⟨⟨rfl, ?_⟩, ?_⟩ | refine ⟨?_, ?_⟩ | (· (try simp only [go_sem, seval, reduceIte, ↓reduceIte, Bool.not_eq_true, reduceCtorEq, beq_false, beq_true, hn, hP, c1, w0, w1, w2, e1, hz, hlen, c2, rI_set]); first | done | rfl)))) | apply T_seq | apply T_block | refine T_scopeJ 0 rfl ?_ | apply T_scope | apply T_goto | apply T_ret | apply T_skip | apply T_exit | apply T_label | refine T_condT rfl ?_ | refine T_condF rfl ?_ | refine T_condD rfl (fun _ => ?_) (fun _ => ?_) | refine T_cond rfl (fun _ => ?_) (fun _ => ?_))
      exact rnd_next hlt () (nxt (by simp [clash, e1])) (Weak.sub fin)
    cases e2 : (x != 1)
    · repeat' (first | apply T_then | apply then_ret | apply then_exit | apply then_goto | apply rnd_exit | apply rnd_ret | apply rnd_goto | apply noGo_normal | apply noGo_ret | apply noGo_exit | apply jmp_normal | apply jmp_ret | apply jmp_exit | apply jmp_goto | apply inB_normal | apply inB_ret | apply inB_goto | apply inB_exit | refine inB_exit_ne rfl ?_ | ((first | apply T_srK fw | apply T_regK fw); · ((try simp only [TOps.flat, List.cons_append, List.nil_append]); repeat (first | apply X_g0 | apply X_g | apply S_keep | apply X_skip | apply X_skipN | refine X_call ?_ ⟨_, _, _, _, _, _, rfl, rfl, rfl, by rw [hP]; exact kx⟩ ?_ | refine X_call ?_ ⟨_, _, _, _, _, _, rfl, rfl, rfl, by rw [hP]; exact ky⟩ ?_ | apply X_q | apply X_st | apply X_n | apply X_s | apply SKs0 | apply SKs2 | apply SKs1 | refine ⟨⟨rfl, rfl⟩, ?_⟩ | refine ⟨⟨rfl, ?_⟩, ?_⟩ | refine ⟨?_, ?_⟩ | (· (try simp only [go_sem, seval, reduceIte, ↓reduceIte, Bool.not_eq_true, reduceCtorEq, beq_false, beq_true, hn, hP, c1, w0, w1, w2, e1, e2, hz, hlen, c2, rI_set]); first | done | rfl)))) | apply T_seq | apply T_block | refine T_scopeJ 0 rfl ?_ | apply T_scope | apply T_goto | apply T_ret | apply T_skip | apply T_exit | apply T_label | refine T_condT rfl ?_ | refine T_condF rfl ?_ | refine T_condD rfl (fun _ => ?_) (fun _ => ?_) | refine T_cond rfl (fun _ => ?_) (fun _ => ?_))
      exact rnd_next hlt () (nxt (by simp [clash, e1, e2])) (Weak.sub fin)
    cases e3 : (y != 1)
    · repeat' (first | apply T_then | apply then_ret | apply then_exit | apply then_goto | apply rnd_exit | apply rnd_ret | apply rnd_goto | apply noGo_normal | apply noGo_ret | apply noGo_exit | apply jmp_normal | apply jmp_ret | apply jmp_exit | apply jmp_goto | apply inB_normal | apply inB_ret | apply inB_goto | apply inB_exit | refine inB_exit_ne rfl ?_ | ((first | apply T_srK fw | apply T_regK fw); · ((try simp only [TOps.flat, List.cons_append, List.nil_append]); repeat (first | apply X_g0 | apply X_g | apply S_keep | apply X_skip | apply X_skipN | refine X_call ?_ ⟨_, _, _, _, _, _, rfl, rfl, rfl, by rw [hP]; exact kx⟩ ?_ | refine X_call ?_ ⟨_, _, _, _, _, _, rfl, rfl, rfl, by rw [hP]; exact ky⟩ ?_ | apply X_q | apply X_st | apply X_n | apply X_s | apply SKs0 | apply SKs2 | apply SKs1 | refine ⟨⟨rfl, rfl⟩, ?_⟩ | refine ⟨⟨rfl, ?_⟩, ?_⟩ | refine ⟨?_, ?_⟩ | (· (try simp only [go_sem, seval, reduceIte, ↓reduceIte, Bool.not_eq_true, reduceCtorEq, beq_false, beq_true, hn, hP, c1, w0, w1, w2, e1, e2, e3, hz, hlen, c2, rI_set]); first | done | rfl)))) | apply T_seq | apply T_block | refine T_scopeJ 0 rfl ?_ | apply T_scope | apply T_goto | apply T_ret | apply T_skip | apply T_exit | apply T_label | refine T_condT rfl ?_ | refine T_condF rfl ?_ | refine T_condD rfl (fun _ => ?_) (fun _ => ?_) | refine T_cond rfl (fun _ => ?_) (fun _ => ?_))
      exact rnd_next hlt () (nxt (by simp [clash, e1, e2, e3])) (Weak.sub fin)
    · repeat' (first | apply T_then | apply then_ret | apply then_exit | apply then_goto | apply rnd_exit | apply rnd_ret | apply rnd_goto | apply noGo_normal | apply noGo_ret | apply noGo_exit | apply jmp_normal | apply jmp_ret | apply jmp_exit | apply jmp_goto | apply inB_normal | apply inB_ret | apply inB_goto | apply inB_exit | refine inB_exit_ne rfl ?_ | ((first | apply T_srK fw | apply T_regK fw); · ((try simp only [TOps.flat, List.cons_append, List.nil_append]); repeat (first | apply X_g0 | apply X_g | apply S_keep | apply X_skip | apply X_skipN | refine X_call ?_ ⟨_, _, _, _, _, _, rfl, rfl, rfl, by rw [hP]; exact kx⟩ ?_ | refine X_call ?_ ⟨_, _, _, _, _, _, rfl, rfl, rfl, by rw [hP]; exact ky⟩ ?_ | apply X_q | apply X_st | apply X_n | apply X_s | apply SKs0 | apply SKs2 | apply SKs1 | refine ⟨⟨rfl, rfl⟩, ?_⟩ | refine ⟨⟨rfl, ?_⟩, ?_⟩ | refine ⟨?_, ?_⟩ | (· (try simp only [go_sem, seval, reduceIte, ↓reduceIte, Bool.not_eq_true, reduceCtorEq, beq_false, beq_true, hn, hP, c1, w0, w1, w2, e1, e2, e3, hz, hlen, c2, rI_set]); first | done | rfl)))) | apply T_seq | apply T_block | refine T_scopeJ 0 rfl ?_ | apply T_scope | apply T_goto | apply T_ret | apply T_skip | apply T_exit | apply T_label | refine T_condT rfl ?_ | refine T_condF rfl ?_ | refine T_condD rfl (fun _ => ?_) (fun _ => ?_) | refine T_cond rfl (fun _ => ?_) (fun _ => ?_))
      have hcl : ((List.range k).all fun i => !clash (sideS a i) (sideS b i)) = false := by
        rw [List.all_eq_false]
        exact ⟨i, List.mem_range.2 hlt, by rw [hx', hy']; simp [clash, e1, e2, e3]⟩
      exact ends_ret rfl rfl rfl (by rw [hf, hcl]; rfl)
  · have hik : i = k := by omega
    have c1 : ¬ (i : Int) < (k : Int) := by omega
    have hal : ((List.range k).all fun i => !clash (sideS a i) (sideS b i)) = true := by
      rw [List.all_eq_true]
      intro j hj
      rw [hno j (by have := List.mem_range.1 hj; omega)]; rfl
    rw [hal] at hf
    subst hik
    have e0 : List.replicate (i - i) (0 : Int) ++ joinSh a b i = joinSh a b i := by simp
    rw [e0]
    have kc := p_shape_Check (joinSh a b i)
    have hl2 := joinSh_len a b i
    cases hc : checkS (joinSh a b i)
    · rw [hc] at hf kc
      generalize joinSh a b i = R at *
      subst hl2
      refine T_weak (Weak.freeze (i := 6) rfl (toD_list (n := 5) (rows := rI R) (m := true) rfl (by simp))) ?_
      simp only [if_true]
      repeat' (first | apply T_then | apply then_ret | apply then_exit | apply then_goto | apply rnd_exit | apply rnd_ret | apply rnd_goto | apply noGo_normal | apply noGo_ret | apply noGo_exit | apply jmp_normal | apply jmp_ret | apply jmp_exit | apply jmp_goto | apply inB_normal | apply inB_ret | apply inB_goto | apply inB_exit | refine inB_exit_ne rfl ?_ | ((first | apply T_srK fw | apply T_regK fw); · ((try simp only [TOps.flat, List.cons_append, List.nil_append]); repeat (first | apply X_g0 | apply X_g | apply S_keep | apply X_skip | apply X_skipN | refine X_call ?_ ⟨_, _, _, _, _, _, rfl, rfl, rfl, by rw [hP]; exact kc⟩ ?_ | apply X_q | apply X_st | apply X_n | apply X_s | apply SKs0 | apply SKs2 | apply SKs1 | refine ⟨⟨rfl, rfl⟩, ?_⟩ | refine ⟨⟨rfl, ?_⟩, ?_⟩ | refine ⟨?_, ?_⟩ | (· (try simp only [go_sem, seval, reduceIte, ↓reduceIte, Bool.not_eq_true, reduceCtorEq, beq_false, beq_true, hn, hP, c1]); first | done | rfl)))) | apply T_seq | apply T_block | refine T_scopeJ 0 rfl ?_ | apply T_scope | apply T_goto | apply T_ret | apply T_skip | apply T_exit | apply T_label | refine T_condT rfl ?_ | refine T_condF rfl ?_ | refine T_condD rfl (fun _ => ?_) (fun _ => ?_) | refine T_cond rfl (fun _ => ?_) (fun _ => ?_))
      exact ends_ret rfl rfl rfl (by rw [hf]; rfl)
    · rw [hc] at hf kc
      generalize joinSh a b i = R at *
      subst hl2
      refine T_weak (Weak.freeze (i := 6) rfl (toD_list (n := 5) (rows := rI R) (m := true) rfl (by simp))) ?_
      simp only [if_true]
      repeat' (first | apply T_then | apply then_ret | apply then_exit | apply then_goto | apply rnd_exit | apply rnd_ret | apply rnd_goto | apply noGo_normal | apply noGo_ret | apply noGo_exit | apply jmp_normal | apply jmp_ret | apply jmp_exit | apply jmp_goto | apply inB_normal | apply inB_ret | apply inB_goto | apply inB_exit | refine inB_exit_ne rfl ?_ | ((first | apply T_srK fw | apply T_regK fw); · ((try simp only [TOps.flat, List.cons_append, List.nil_append]); repeat (first | apply X_g0 | apply X_g | apply S_keep | apply X_skip | apply X_skipN | refine X_call ?_ ⟨_, _, _, _, _, _, rfl, rfl, rfl, by rw [hP]; exact kc⟩ ?_ | apply X_q | apply X_st | apply X_n | apply X_s | apply SKs0 | apply SKs2 | apply SKs1 | refine ⟨⟨rfl, rfl⟩, ?_⟩ | refine ⟨⟨rfl, ?_⟩, ?_⟩ | refine ⟨?_, ?_⟩ | (· (try simp only [go_sem, seval, reduceIte, ↓reduceIte, Bool.not_eq_true, reduceCtorEq, beq_false, beq_true, hn, hP, c1]); first | done | rfl)))) | apply T_seq | apply T_block | refine T_scopeJ 0 rfl ?_ | apply T_scope | apply T_goto | apply T_ret | apply T_skip | apply T_exit | apply T_label | refine T_condT rfl ?_ | refine T_condF rfl ?_ | refine T_condD rfl (fun _ => ?_) (fun _ => ?_) | refine T_cond rfl (fun _ => ?_) (fun _ => ?_))
      exact ends_ret rfl rfl rfl (by rw [hf]; rfl)
end Go.AM

