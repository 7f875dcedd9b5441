import Derived.Test.YtjefhneggfbjfaaR1W6T
namespace Go.AM
open Go Go.Proofs
set_option maxRecDepth 100000
set_option linter.unusedSimpArgs false
set_option linter.unusedVariables false

theorem chk_all : ∀ {s : List Int} {a : Int}, (∀ m ∈ s, 1 ≤ m ∧ m ≤ 16) → chk s a = prodW s a
  | [], a, _ => rfl
  | x :: r, a, h => by
    have hx := h x (by simp)
    simp only [chk, prodW]
    rw [if_neg (by omega)]
    exact chk_all fun m hm => h m (by simp [hm])

theorem chk_bad : ∀ {s : List Int} {a m : Int}, m ∈ s → (m < 1 ∨ m > 16) → chk s a = 0
  | x :: r, a, m, hm, hb => by
    simp only [chk]
    split
    · rfl
    · rename_i hx
      rcases List.mem_cons.1 hm with rfl | hm
      · exact absurd hb hx
      · exact chk_bad hm hb

theorem prod_pos : ∀ {s : List Int}, s.length ≤ 3 → (∀ m ∈ s, 1 ≤ m ∧ m ≤ 16) → prodW s 1 > 0
  | [], _, _ => by decide
  | [a], _, h => by
    have h1 := h a (by simp)
    simp only [prodW]
    rw [wrap_in (by omega) (by omega)]; omega
  | [a, b], _, h => by
    have h1 := h a (by simp)
    have h2 := h b (by simp)
    simp only [prodW]
    have e1 : (1 : Int) * a = a := by omega
    have p1 : 1 ≤ a * b := by
      have := Int.mul_le_mul h1.1 h2.1 (by omega) (by omega); omega
    have p2 : a * b ≤ 16 * 16 := Int.mul_le_mul h1.2 h2.2 (by omega) (by omega)
    rw [e1, wrap_in (n := a) (by omega) (by omega), wrap_in (n := a * b) (by omega) (by omega)]; omega
  | [a, b, c], _, h => by
    have h1 := h a (by simp)
    have h2 := h b (by simp)
    have h3 := h c (by simp)
    simp only [prodW]
    have e1 : (1 : Int) * a = a := by omega
    have p1 : 1 ≤ a * b := by
      have := Int.mul_le_mul h1.1 h2.1 (by omega) (by omega); omega
    have p2 : a * b ≤ 16 * 16 := Int.mul_le_mul h1.2 h2.2 (by omega) (by omega)
    have p3 : 1 ≤ a * b * c := by
      have := Int.mul_le_mul p1 h3.1 (by omega) (by omega); omega
    have p4 : a * b * c ≤ 256 * 16 := Int.mul_le_mul (by omega) h3.2 (by omega) (by omega)
    rw [e1, wrap_in (n := a) (by omega) (by omega), wrap_in (n := a * b) (by omega) (by omega), wrap_in (n := a * b * c) (by omega) (by omega)]; omega
  | _ :: _ :: _ :: _ :: _, h, _ => by simp at h

theorem p_ref02_Check (s : List Int) : PureC Try.prog fi_fullerref02_Check [dI s] (dB (checkS s)) := by
  refine pure_fullerref02_Check (by simp) fun G hP hn => ?_
  unfold a_fullerref02_Check
  refine T_wf 0 fun hl => ?_
  simp only [initE, lk, dI, eI, DV.av, wf_one, wf_sl, if_true, List.length_map] at hl
  repeat' (first     | refine T_then ?_ | refine then_ret ?_ | refine then_exit ?_ | refine then_goto ?_     | refine rnd_exit ?_ | refine rnd_ret ?_ | refine rnd_goto ?_     | refine noGo_normal ?_ | refine noGo_ret ?_ | refine noGo_exit ?_     | refine inB_normal ?_ | refine inB_ret ?_ | refine inB_goto ?_ | refine inB_exit ?_ | refine inB_exit_ne rfl ?_     | ((first | apply T_sr fw | apply T_reg fw); · ((try simp only [go_sem, Nat.reduceEqDiff, reduceIte, ↓reduceIte, Nat.reduceLT, Nat.reduceAdd, Nat.reduceLeDiff, Int.reduceLT, Int.reduceLE, Nat.reduceMul, Nat.reduceBEq, Nat.reduceBNe, hP]); (repeat ((first       | (refine ⟨true, false, rfl, fun h => absurd h (by decide), ?_⟩) | (refine ⟨false, false, rfl, fun h => absurd h (by decide), ?_⟩) | refine ⟨_, _, rfl, fun _ => rfl, ?_⟩); (try simp only [go_sem, Nat.reduceEqDiff, reduceIte, ↓reduceIte, Nat.reduceLT, Nat.reduceAdd, Nat.reduceLeDiff, Int.reduceLT, Int.reduceLE, Nat.reduceMul, Nat.reduceBEq, Nat.reduceBNe, hP]))); (first | done | exact rfl)))     | ((first | apply T_sdF fw (by rw [hP]; rfl) (by decide +kernel) | apply T_drF fw (by rw [hP]; rfl) (by decide +kernel)); · ((try simp only [TOps.flat, List.cons_append, List.nil_append]); (repeat ((first | refine Y_g0 ?_ | refine Y_g (by (try simp only [go_sem, Nat.reduceEqDiff, reduceIte, ↓reduceIte, Nat.reduceLT, Nat.reduceAdd, Nat.reduceLeDiff, Int.reduceLT, Int.reduceLE, Nat.reduceMul, Nat.reduceBEq, Nat.reduceBNe, Bool.not_eq_true, reduceCtorEq, beq_false, beq_true, hP]); (first | done | exact rfl)) ?_); (first | refine Y_skip ?_ | ((first | apply Y_q); (· ((try simp only [go_sem, Nat.reduceEqDiff, reduceIte, ↓reduceIte, Nat.reduceLT, Nat.reduceAdd, Nat.reduceLeDiff, Int.reduceLT, Int.reduceLE, Nat.reduceMul, Nat.reduceBEq, Nat.reduceBNe, Bool.not_eq_true, reduceCtorEq, beq_false, beq_true, hP]); (first | done | exact rfl))))))); apply RunF_nil; (try simp only [go_sem, Nat.reduceEqDiff, reduceIte, ↓reduceIte, Nat.reduceLT, Nat.reduceAdd, Nat.reduceLeDiff, Int.reduceLT, Int.reduceLE, Nat.reduceMul, Nat.reduceBEq, Nat.reduceBNe, Bool.not_eq_true, reduceCtorEq, beq_false, beq_true, hP]); (first | done | exact rfl)))     | ((first | apply T_sd fw (by rw [hP]; rfl) | apply T_dr fw (by rw [hP]; rfl)); · ((try simp only [go_sem, Nat.reduceEqDiff, reduceIte, ↓reduceIte, Nat.reduceLT, Nat.reduceAdd, Nat.reduceLeDiff, Int.reduceLT, Int.reduceLE, Nat.reduceMul, Nat.reduceBEq, Nat.reduceBNe, bne, beq_false, beq_true, Bool.not_eq_true, Bool.if_true_right, decide_not, reduceCtorEq, hP]); (first | done | exact rfl)))     | refine T_seq ?_ | refine T_block ?_ | refine T_scope ?_ | refine T_ret ?_ | refine T_skip ?_ | refine T_exit ?_ | refine T_label ?_     | refine T_condT rfl ?_ | refine T_condF rfl ?_     | refine T_condD rfl (fun _ => ?_) (fun _ => ?_)     | refine T_cond rfl (fun _ => ?_) (fun _ => ?_))
  · rename_i h
    exact ends_ret rfl rfl rfl (by simp [resD, checkS, h])
  · rename_i h
    refine T_for s.length (fun i (_ : Unit) => { env := [(0, .one (.p (eI s))), (3, .one (.p (.int .i64 i)))], σ := [] })
      (fun i _ => ∀ j m, j < i → s[j]? = some m → 1 ≤ m ∧ m ≤ 16) () (by intro j m hj; omega) (.refl _ _) fun i _ hi hc => ?_
    rcases nth hi with ⟨x, hlt, hx, hd⟩ | ⟨rfl, hd⟩
    · have hw := wrap_succ hlt hl.1
      repeat' (first     | refine T_then ?_ | refine then_ret ?_ | refine then_exit ?_ | refine then_goto ?_     | refine rnd_exit ?_ | refine rnd_ret ?_ | refine rnd_goto ?_     | refine noGo_normal ?_ | refine noGo_ret ?_ | refine noGo_exit ?_     | refine inB_normal ?_ | refine inB_ret ?_ | refine inB_goto ?_ | refine inB_exit ?_ | refine inB_exit_ne rfl ?_     | ((first | apply T_sr fw | apply T_reg fw); · ((try simp only [go_sem, Nat.reduceEqDiff, reduceIte, ↓reduceIte, Nat.reduceLT, Nat.reduceAdd, Nat.reduceLeDiff, Int.reduceLT, Int.reduceLE, Nat.reduceMul, Nat.reduceBEq, Nat.reduceBNe, hP, hx, hlt, hw]); (repeat ((first       | (refine ⟨true, false, rfl, fun h => absurd h (by decide), ?_⟩) | (refine ⟨false, false, rfl, fun h => absurd h (by decide), ?_⟩) | refine ⟨_, _, rfl, fun _ => rfl, ?_⟩); (try simp only [go_sem, Nat.reduceEqDiff, reduceIte, ↓reduceIte, Nat.reduceLT, Nat.reduceAdd, Nat.reduceLeDiff, Int.reduceLT, Int.reduceLE, Nat.reduceMul, Nat.reduceBEq, Nat.reduceBNe, hP, hx, hlt, hw]))); (first | done | exact rfl)))     | ((first | apply T_sdF fw (by rw [hP]; rfl) (by decide +kernel) | apply T_drF fw (by rw [hP]; rfl) (by decide +kernel)); · ((try simp only [TOps.flat, List.cons_append, List.nil_append]); (repeat ((first | refine Y_g0 ?_ | refine Y_g (by (try simp only [go_sem, Nat.reduceEqDiff, reduceIte, ↓reduceIte, Nat.reduceLT, Nat.reduceAdd, Nat.reduceLeDiff, Int.reduceLT, Int.reduceLE, Nat.reduceMul, Nat.reduceBEq, Nat.reduceBNe, Bool.not_eq_true, reduceCtorEq, beq_false, beq_true, hP, hx, hlt, hw]); (first | done | exact rfl)) ?_); (first | refine Y_skip ?_ | ((first | apply Y_q); (· ((try simp only [go_sem, Nat.reduceEqDiff, reduceIte, ↓reduceIte, Nat.reduceLT, Nat.reduceAdd, Nat.reduceLeDiff, Int.reduceLT, Int.reduceLE, Nat.reduceMul, Nat.reduceBEq, Nat.reduceBNe, Bool.not_eq_true, reduceCtorEq, beq_false, beq_true, hP, hx, hlt, hw]); (first | done | exact rfl))))))); apply RunF_nil; (try simp only [go_sem, Nat.reduceEqDiff, reduceIte, ↓reduceIte, Nat.reduceLT, Nat.reduceAdd, Nat.reduceLeDiff, Int.reduceLT, Int.reduceLE, Nat.reduceMul, Nat.reduceBEq, Nat.reduceBNe, Bool.not_eq_true, reduceCtorEq, beq_false, beq_true, hP, hx, hlt, hw]); (first | done | exact rfl)))     | ((first | apply T_sd fw (by rw [hP]; rfl) | apply T_dr fw (by rw [hP]; rfl)); · ((try simp only [go_sem, Nat.reduceEqDiff, reduceIte, ↓reduceIte, Nat.reduceLT, Nat.reduceAdd, Nat.reduceLeDiff, Int.reduceLT, Int.reduceLE, Nat.reduceMul, Nat.reduceBEq, Nat.reduceBNe, bne, beq_false, beq_true, Bool.not_eq_true, Bool.if_true_right, decide_not, reduceCtorEq, hP, hx, hlt, hw]); (first | done | exact rfl)))     | refine T_seq ?_ | refine T_block ?_ | refine T_scope ?_ | refine T_ret ?_ | refine T_skip ?_ | refine T_exit ?_ | refine T_label ?_     | refine T_condT rfl ?_ | refine T_condF rfl ?_     | refine T_condD rfl (fun _ => ?_) (fun _ => ?_)     | refine T_cond rfl (fun _ => ?_) (fun _ => ?_))
      · rename_i h2
        have h3 : chk s 1 = 0 := chk_bad (List.mem_of_getElem? hx) (by simpa using h2)
        exact ends_ret rfl rfl rfl (by simp [resD, checkS, h3])
      · rename_i h2
        refine rnd_next hlt () (fun j m hj hm => ?_) (.refl _ _)
        by_cases hji : j = i
        · subst hji
          rw [hx] at hm; cases hm
          simp at h2; omega
        · exact hc j m (by omega) hm
    · repeat' (first     | refine T_then ?_ | refine then_ret ?_ | refine then_exit ?_ | refine then_goto ?_     | refine rnd_exit ?_ | refine rnd_ret ?_ | refine rnd_goto ?_     | refine noGo_normal ?_ | refine noGo_ret ?_ | refine noGo_exit ?_     | refine inB_normal ?_ | refine inB_ret ?_ | refine inB_goto ?_ | refine inB_exit ?_ | refine inB_exit_ne rfl ?_     | ((first | apply T_sr fw | apply T_reg fw); · ((try simp only [go_sem, Nat.reduceEqDiff, reduceIte, ↓reduceIte, Nat.reduceLT, Nat.reduceAdd, Nat.reduceLeDiff, Int.reduceLT, Int.reduceLE, Nat.reduceMul, Nat.reduceBEq, Nat.reduceBNe, hP, Int.lt_irrefl, Nat.lt_irrefl]); (repeat ((first       | (refine ⟨true, false, rfl, fun h => absurd h (by decide), ?_⟩) | (refine ⟨false, false, rfl, fun h => absurd h (by decide), ?_⟩) | refine ⟨_, _, rfl, fun _ => rfl, ?_⟩       | (refine .inl ⟨_, _, ⟨_, _, _, _, _, _, rfl, rfl, rfl, p_ref02_product _⟩, ?_⟩)       | (refine ⟨_, ?_, rfl, fun _ => ⟨_, ⟨_, _, _, _, _, _, rfl, rfl, rfl, p_ref02_product _⟩, ?_⟩, ?_⟩; rotate_left; (· (simp only [go_sem, Nat.reduceEqDiff, reduceIte, ↓reduceIte, Nat.reduceLT, Nat.reduceAdd, Nat.reduceLeDiff, Int.reduceLT, Int.reduceLE, Nat.reduceMul, Nat.reduceBEq, Nat.reduceBNe, hP, Int.lt_irrefl, Nat.lt_irrefl]; first | done | exact rfl)))); (try simp only [go_sem, Nat.reduceEqDiff, reduceIte, ↓reduceIte, Nat.reduceLT, Nat.reduceAdd, Nat.reduceLeDiff, Int.reduceLT, Int.reduceLE, Nat.reduceMul, Nat.reduceBEq, Nat.reduceBNe, hP, Int.lt_irrefl, Nat.lt_irrefl]))); (first | done | exact rfl)))     | ((first | apply T_sdF fw (by rw [hP]; rfl) (by decide +kernel) | apply T_drF fw (by rw [hP]; rfl) (by decide +kernel)); · ((try simp only [TOps.flat, List.cons_append, List.nil_append]); (repeat ((first | refine Y_g0 ?_ | refine Y_g (by (try simp only [go_sem, Nat.reduceEqDiff, reduceIte, ↓reduceIte, Nat.reduceLT, Nat.reduceAdd, Nat.reduceLeDiff, Int.reduceLT, Int.reduceLE, Nat.reduceMul, Nat.reduceBEq, Nat.reduceBNe, Bool.not_eq_true, reduceCtorEq, beq_false, beq_true, hP, Int.lt_irrefl, Nat.lt_irrefl]); (first | done | exact rfl)) ?_); (first | refine Y_skip ?_ | ((first | apply Y_q | (refine Y_call ⟨_, _, _, _, _, _, rfl, rfl, rfl, (by rw [hP]; exact p_ref02_product _)⟩ ?_ ?_)); (· ((try simp only [go_sem, Nat.reduceEqDiff, reduceIte, ↓reduceIte, Nat.reduceLT, Nat.reduceAdd, Nat.reduceLeDiff, Int.reduceLT, Int.reduceLE, Nat.reduceMul, Nat.reduceBEq, Nat.reduceBNe, Bool.not_eq_true, reduceCtorEq, beq_false, beq_true, hP, Int.lt_irrefl, Nat.lt_irrefl]); (first | done | exact rfl))))))); apply RunF_nil; (try simp only [go_sem, Nat.reduceEqDiff, reduceIte, ↓reduceIte, Nat.reduceLT, Nat.reduceAdd, Nat.reduceLeDiff, Int.reduceLT, Int.reduceLE, Nat.reduceMul, Nat.reduceBEq, Nat.reduceBNe, Bool.not_eq_true, reduceCtorEq, beq_false, beq_true, hP, Int.lt_irrefl, Nat.lt_irrefl]); (first | done | exact rfl)))     | ((first | apply T_sd fw (by rw [hP]; rfl) | apply T_dr fw (by rw [hP]; rfl)); · ((try simp only [go_sem, Nat.reduceEqDiff, reduceIte, ↓reduceIte, Nat.reduceLT, Nat.reduceAdd, Nat.reduceLeDiff, Int.reduceLT, Int.reduceLE, Nat.reduceMul, Nat.reduceBEq, Nat.reduceBNe, bne, beq_false, beq_true, Bool.not_eq_true, Bool.if_true_right, decide_not, reduceCtorEq, hP, Int.lt_irrefl, Nat.lt_irrefl]); (repeat ((first       | (refine ⟨_, ⟨_, _, _, _, _, _, rfl, rfl, rfl, p_ref02_product _⟩, ?_⟩)); (try simp only [go_sem, Nat.reduceEqDiff, reduceIte, ↓reduceIte, Nat.reduceLT, Nat.reduceAdd, Nat.reduceLeDiff, Int.reduceLT, Int.reduceLE, Nat.reduceMul, Nat.reduceBEq, Nat.reduceBNe, bne, beq_false, beq_true, Bool.not_eq_true, Bool.if_true_right, decide_not, reduceCtorEq, hP, Int.lt_irrefl, Nat.lt_irrefl]))); (first | done | exact rfl)))     | refine T_seq ?_ | refine T_block ?_ | refine T_scope ?_ | refine T_ret ?_ | refine T_skip ?_ | refine T_exit ?_ | refine T_label ?_     | refine T_condT rfl ?_ | refine T_condF rfl ?_     | refine T_condD rfl (fun _ => ?_) (fun _ => ?_)     | refine T_cond rfl (fun _ => ?_) (fun _ => ?_))
      have hall : ∀ m ∈ s, 1 ≤ m ∧ m ≤ 16 := fun m hm => by
        obtain ⟨j, hj, rfl⟩ := List.getElem_of_mem hm
        exact hc j _ hj (List.getElem?_eq_getElem hj)
      have hpos := prod_pos (s := s) (by omega) hall
      have h4 := chk_all (a := 1) hall
      exact ends_ret rfl rfl rfl (by simp [resD, checkS, h4, hpos]; omega)
end Go.AM

