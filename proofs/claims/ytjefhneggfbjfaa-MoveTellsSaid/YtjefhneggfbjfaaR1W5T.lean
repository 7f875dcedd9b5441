import Derived.Test.YtjefhneggfbjfaaR1W2T
namespace Go.AM
open Go Go.Proofs
set_option maxRecDepth 100000
set_option linter.unusedSimpArgs false
set_option linter.unusedVariables false
def digs : List Int → Int → List Int
  | [], _ => []
  | n :: r, p => p.tmod n :: digs r (IntKind.i64.wrap (p.tdiv n))
def idxF (s : List Int) (p : Int) : List Int := (digs s.reverse p).reverse

theorem chk_pos : ∀ {s : List Int} {a : Int}, chk s a > 0 → ∀ m ∈ s, 1 ≤ m ∧ m ≤ 16
  | [], _, _, m, hm => by simp at hm
  | x :: r, a, h, m, hm => by
    simp only [chk] at h
    split at h
    · omega
    · rename_i hx
      rcases List.mem_cons.1 hm with rfl | hm
      · omega
      · exact chk_pos h m hm

theorem check_pos {s : List Int} (h : checkS s = true) : ∀ m ∈ s, 1 ≤ m ∧ m ≤ 16 := by
  simp only [checkS, Bool.and_eq_true, decide_eq_true_eq] at h
  exact chk_pos h.2.1
theorem check_len {s : List Int} (h : checkS s = true) : s.length ≤ 3 := by
  simp [checkS] at h; omega

theorem rep_set (a : Nat) (v : Int) (t : List Int) : (List.replicate (a + 1) (0 : Int) ++ t).set a v = List.replicate a 0 ++ v :: t := by
  rw [List.set_append_left _ _ (by simp), List.replicate_succ']
  rw [List.set_append_right _ _ (by simp)]
  simp

theorem p_shape_Index (s : List Int) (p : Int) : PureC Try.prog fi_shape_Index [dI s, dN p] (if (decide (p < 0) || decide (p ≥ sizeS s)) = true then .tup [dI [], dN 20] else .tup [dI (idxF s p), dN 0]) := by
  refine pure_shape_Index (by simp) fun G hP hn => ?_
  unfold a_shape_Index
  refine T_wf 0 fun hl => ?_
  simp only [initE, lk, dI, eI, DV.av, wf_one, wf_sl, if_true, List.length_map] at hl
  by_cases hck : checkS s = true
  · have hl3 := check_len hck
    have hM : MaxN = 140737488355328 := rfl
    have q1 : (s.length : Int) * ((8 : Nat) : Int) ≤ MaxN := by omega
    have q2 : (s.length : Int) ≤ MaxN := by omega
    repeat' (first     | refine T_then ?_ | refine then_ret ?_ | refine then_exit ?_ | refine then_goto ?_     | refine rnd_exit ?_ | refine rnd_ret ?_ | refine rnd_goto ?_     | refine noGo_normal ?_ | refine noGo_ret ?_ | refine noGo_exit ?_     | refine inB_normal ?_ | refine inB_ret ?_ | refine inB_goto ?_ | refine inB_exit ?_ | refine inB_exit_ne rfl ?_     | ((first | apply T_sr fw | apply T_reg fw); · ((try simp only [go_sem, Nat.reduceEqDiff, reduceIte, ↓reduceIte, Nat.reduceLT, Nat.reduceAdd, Nat.reduceLeDiff, Int.reduceLT, Int.reduceLE, Nat.reduceMul, Nat.reduceBEq, Nat.reduceBNe, hP, q1, q2, Int.le_refl]); (repeat ((first       | (refine ⟨true, false, rfl, fun h => absurd h (by decide), ?_⟩) | (refine ⟨false, false, rfl, fun h => absurd h (by decide), ?_⟩) | refine ⟨_, _, rfl, fun _ => rfl, ?_⟩       | (refine .inl ⟨_, _, ⟨_, _, _, _, _, _, rfl, rfl, rfl, p_shape_Size _⟩, ?_⟩)       | (refine ⟨_, ?_, rfl, fun _ => ⟨_, ⟨_, _, _, _, _, _, rfl, rfl, rfl, p_shape_Size _⟩, ?_⟩, ?_⟩; rotate_left; (· (simp only [go_sem, Nat.reduceEqDiff, reduceIte, ↓reduceIte, Nat.reduceLT, Nat.reduceAdd, Nat.reduceLeDiff, Int.reduceLT, Int.reduceLE, Nat.reduceMul, Nat.reduceBEq, Nat.reduceBNe, hP, q1, q2, Int.le_refl]; first | done | exact rfl)))); (try simp only [go_sem, Nat.reduceEqDiff, reduceIte, ↓reduceIte, Nat.reduceLT, Nat.reduceAdd, Nat.reduceLeDiff, Int.reduceLT, Int.reduceLE, Nat.reduceMul, Nat.reduceBEq, Nat.reduceBNe, hP, q1, q2, Int.le_refl]))); (first | done | exact rfl)))     | ((first | apply T_sdF fw (by rw [hP]; rfl) (by decide +kernel) | apply T_drF fw (by rw [hP]; rfl) (by decide +kernel)); · ((try simp only [TOps.flat, List.cons_append, List.nil_append]); (repeat ((first | refine Y_g0 ?_ | refine Y_g (by (try simp only [go_sem, Nat.reduceEqDiff, reduceIte, ↓reduceIte, Nat.reduceLT, Nat.reduceAdd, Nat.reduceLeDiff, Int.reduceLT, Int.reduceLE, Nat.reduceMul, Nat.reduceBEq, Nat.reduceBNe, Bool.not_eq_true, reduceCtorEq, beq_false, beq_true, hP, q1, q2, Int.le_refl]); (first | done | exact rfl)) ?_); (first | refine Y_skip ?_ | ((first | apply Y_q | (refine Y_call ⟨_, _, _, _, _, _, rfl, rfl, rfl, (by rw [hP]; exact p_shape_Size _)⟩ ?_ ?_)); (· ((try simp only [go_sem, Nat.reduceEqDiff, reduceIte, ↓reduceIte, Nat.reduceLT, Nat.reduceAdd, Nat.reduceLeDiff, Int.reduceLT, Int.reduceLE, Nat.reduceMul, Nat.reduceBEq, Nat.reduceBNe, Bool.not_eq_true, reduceCtorEq, beq_false, beq_true, hP, q1, q2, Int.le_refl]); (first | done | exact rfl))))))); apply RunF_nil; (try simp only [go_sem, Nat.reduceEqDiff, reduceIte, ↓reduceIte, Nat.reduceLT, Nat.reduceAdd, Nat.reduceLeDiff, Int.reduceLT, Int.reduceLE, Nat.reduceMul, Nat.reduceBEq, Nat.reduceBNe, Bool.not_eq_true, reduceCtorEq, beq_false, beq_true, hP, q1, q2, Int.le_refl]); (first | done | exact rfl)))     | ((first | apply T_sd fw (by rw [hP]; rfl) | apply T_dr fw (by rw [hP]; rfl)); · ((try simp only [go_sem, Nat.reduceEqDiff, reduceIte, ↓reduceIte, Nat.reduceLT, Nat.reduceAdd, Nat.reduceLeDiff, Int.reduceLT, Int.reduceLE, Nat.reduceMul, Nat.reduceBEq, Nat.reduceBNe, bne, beq_false, beq_true, Bool.not_eq_true, Bool.if_true_right, decide_not, reduceCtorEq, hP, q1, q2, Int.le_refl]); (repeat ((first       | (refine ⟨_, ⟨_, _, _, _, _, _, rfl, rfl, rfl, p_shape_Size _⟩, ?_⟩)); (try simp only [go_sem, Nat.reduceEqDiff, reduceIte, ↓reduceIte, Nat.reduceLT, Nat.reduceAdd, Nat.reduceLeDiff, Int.reduceLT, Int.reduceLE, Nat.reduceMul, Nat.reduceBEq, Nat.reduceBNe, bne, beq_false, beq_true, Bool.not_eq_true, Bool.if_true_right, decide_not, reduceCtorEq, hP, q1, q2, Int.le_refl]))); (first | done | exact rfl)))     | refine T_seq ?_ | refine T_block ?_ | refine T_scope ?_ | refine T_ret ?_ | refine T_skip ?_ | refine T_exit ?_ | refine T_label ?_     | refine T_condT rfl ?_ | refine T_condF rfl ?_     | refine T_condD rfl (fun _ => ?_) (fun _ => ?_)     | refine T_cond rfl (fun _ => ?_) (fun _ => ?_))
    · rename_i h
      exact ends_ret rfl rfl rfl (by simp only [resD]; rw [if_pos h]; rfl)
    · rename_i h
      refine T_for s.length (fun i (a : Int × List Int) => { env := [(0, .one (.p (eI s))), (1, .one (.p (.int .i64 a.1))), (6, .one (.msl 19 0 1 s.length (some s.length))), (21, .one (.p (.int .i64 s.length))), (22, .one (.p (.int .i64 i)))], σ := [(19, .arr true 1 (rI (List.replicate (s.length - i) 0 ++ a.2)))] })
        (fun i a => a.2.length = i ∧ (digs (s.reverse.drop i) a.1).reverse ++ a.2 = idxF s p) (p, []) ⟨rfl, by simp [idxF]⟩ (by simp; exact .refl _ _) fun i a hi hc => ?_
      obtain ⟨q, t⟩ := a
      obtain ⟨hc1, hc2⟩ := hc
      simp only at hc1 hc2
      rcases nth (s := s.reverse) (i := i) (by simpa using hi) with ⟨m, hlt, hm, hd⟩ | ⟨hi2, hd⟩
      · have hlt : i < s.length := by simpa using hlt
        have hm2 : s[s.length - 1 - i]? = some m := by rw [← hm, List.getElem?_reverse hlt]
        have hm1 : 1 ≤ m := (check_pos hck m (List.mem_of_getElem? hm2)).1
        have hm0 : ¬ m = 0 := by omega
        have w1 : IntKind.i64.wrap ((s.length : Int) - 1) = (s.length : Int) - 1 := wrap_in (by omega) (by omega)
        have w2 : IntKind.i64.wrap ((s.length : Int) - 1 - i) = ((s.length - 1 - i : Nat) : Int) := by rw [wrap_in (by omega) (by omega)]; omega
        have w3 := wrap_succ hlt hl.1
        have c1 : s.length - 1 - i < s.length := by omega
        have hrep : List.replicate (s.length - i) (0 : Int) = List.replicate (s.length - 1 - i + 1) 0 := by congr 1; omega
        have hz : (List.replicate (s.length - 1 - i + 1) (0 : Int) ++ t)[s.length - 1 - i]? = some 0 := by
          rw [List.getElem?_append_left (by simp)]; simp
        have hst := rep_set (s.length - 1 - i) (q.tmod m) t
        have hlen : (List.replicate (s.length - 1 - i + 1) (0 : Int) ++ t).length = s.length := by simp; omega
        rw [hrep]
        generalize List.replicate (s.length - 1 - i + 1) (0 : Int) ++ t = R at hz hst hlen
        repeat' (first     | refine T_then ?_ | refine then_ret ?_ | refine then_exit ?_ | refine then_goto ?_     | refine rnd_exit ?_ | refine rnd_ret ?_ | refine rnd_goto ?_     | refine noGo_normal ?_ | refine noGo_ret ?_ | refine noGo_exit ?_     | refine inB_normal ?_ | refine inB_ret ?_ | refine inB_goto ?_ | refine inB_exit ?_ | refine inB_exit_ne rfl ?_     | ((first | apply T_sr fw | apply T_reg fw); · ((try simp only [go_sem, Nat.reduceEqDiff, reduceIte, ↓reduceIte, Nat.reduceLT, Nat.reduceAdd, Nat.reduceLeDiff, Int.reduceLT, Int.reduceLE, Nat.reduceMul, Nat.reduceBEq, Nat.reduceBNe, hP, hlt, hm2, hm0, w1, w2, w3, c1, hz, hlen, rI_set]); (repeat ((first       | (refine ⟨true, false, rfl, fun h => absurd h (by decide), ?_⟩) | (refine ⟨false, false, rfl, fun h => absurd h (by decide), ?_⟩) | refine ⟨_, _, rfl, fun _ => rfl, ?_⟩); (try simp only [go_sem, Nat.reduceEqDiff, reduceIte, ↓reduceIte, Nat.reduceLT, Nat.reduceAdd, Nat.reduceLeDiff, Int.reduceLT, Int.reduceLE, Nat.reduceMul, Nat.reduceBEq, Nat.reduceBNe, hP, hlt, hm2, hm0, w1, w2, w3, c1, hz, hlen, rI_set]))); (first | done | exact rfl)))     | ((first | apply T_sdF fw (by rw [hP]; rfl) (by decide +kernel) | apply T_drF fw (by rw [hP]; rfl) (by decide +kernel)); · ((try simp only [TOps.flat, List.cons_append, List.nil_append]); (repeat ((first | refine Y_g0 ?_ | refine Y_g (by (try simp only [go_sem, Nat.reduceEqDiff, reduceIte, ↓reduceIte, Nat.reduceLT, Nat.reduceAdd, Nat.reduceLeDiff, Int.reduceLT, Int.reduceLE, Nat.reduceMul, Nat.reduceBEq, Nat.reduceBNe, Bool.not_eq_true, reduceCtorEq, beq_false, beq_true, hP, hlt, hm2, hm0, w1, w2, w3, c1, hz, hlen, rI_set]); (first | done | exact rfl)) ?_); (first | refine Y_skip ?_ | ((first | apply Y_q); (· ((try simp only [go_sem, Nat.reduceEqDiff, reduceIte, ↓reduceIte, Nat.reduceLT, Nat.reduceAdd, Nat.reduceLeDiff, Int.reduceLT, Int.reduceLE, Nat.reduceMul, Nat.reduceBEq, Nat.reduceBNe, Bool.not_eq_true, reduceCtorEq, beq_false, beq_true, hP, hlt, hm2, hm0, w1, w2, w3, c1, hz, hlen, rI_set]); (first | done | exact rfl))))))); apply RunF_nil; (try simp only [go_sem, Nat.reduceEqDiff, reduceIte, ↓reduceIte, Nat.reduceLT, Nat.reduceAdd, Nat.reduceLeDiff, Int.reduceLT, Int.reduceLE, Nat.reduceMul, Nat.reduceBEq, Nat.reduceBNe, Bool.not_eq_true, reduceCtorEq, beq_false, beq_true, hP, hlt, hm2, hm0, w1, w2, w3, c1, hz, hlen, rI_set]); (first | done | exact rfl)))     | ((first | apply T_sd fw (by rw [hP]; rfl) | apply T_dr fw (by rw [hP]; rfl)); · ((try simp only [go_sem, Nat.reduceEqDiff, reduceIte, ↓reduceIte, Nat.reduceLT, Nat.reduceAdd, Nat.reduceLeDiff, Int.reduceLT, Int.reduceLE, Nat.reduceMul, Nat.reduceBEq, Nat.reduceBNe, bne, beq_false, beq_true, Bool.not_eq_true, Bool.if_true_right, decide_not, reduceCtorEq, hP, hlt, hm2, hm0, w1, w2, w3, c1, hz, hlen, rI_set]); (first | done | exact rfl)))     | refine T_seq ?_ | refine T_block ?_ | refine T_scope ?_ | refine T_ret ?_ | refine T_skip ?_ | refine T_exit ?_ | refine T_label ?_     | refine T_condT rfl ?_ | refine T_condF rfl ?_     | refine T_condD rfl (fun _ => ?_) (fun _ => ?_)     | refine T_cond rfl (fun _ => ?_) (fun _ => ?_))
        refine rnd_next hlt (IntKind.i64.wrap (q.tdiv m), q.tmod m :: t) ⟨by simp [hc1], ?_⟩ ?_
        · rw [hd] at hc2
          simp only [digs, List.reverse_cons, List.append_assoc, List.singleton_append, List.cons_append, List.nil_append] at hc2
          exact hc2
        · rw [hst, show s.length - 1 - i = s.length - (i + 1) from by omega]
          exact .refl _ _
      · have hi3 : i = s.length := by simpa using hi2
        subst hi3
        repeat' (first     | refine T_then ?_ | refine then_ret ?_ | refine then_exit ?_ | refine then_goto ?_     | refine rnd_exit ?_ | refine rnd_ret ?_ | refine rnd_goto ?_     | refine noGo_normal ?_ | refine noGo_ret ?_ | refine noGo_exit ?_     | refine inB_normal ?_ | refine inB_ret ?_ | refine inB_goto ?_ | refine inB_exit ?_ | refine inB_exit_ne rfl ?_     | ((first | apply T_sr fw | apply T_reg fw); · ((try simp only [go_sem, Nat.reduceEqDiff, reduceIte, ↓reduceIte, Nat.reduceLT, Nat.reduceAdd, Nat.reduceLeDiff, Int.reduceLT, Int.reduceLE, Nat.reduceMul, Nat.reduceBEq, Nat.reduceBNe, hP, Int.lt_irrefl, Nat.lt_irrefl]); (repeat ((first       | (refine ⟨true, false, rfl, fun h => absurd h (by decide), ?_⟩) | (refine ⟨false, false, rfl, fun h => absurd h (by decide), ?_⟩) | refine ⟨_, _, rfl, fun _ => rfl, ?_⟩); (try simp only [go_sem, Nat.reduceEqDiff, reduceIte, ↓reduceIte, Nat.reduceLT, Nat.reduceAdd, Nat.reduceLeDiff, Int.reduceLT, Int.reduceLE, Nat.reduceMul, Nat.reduceBEq, Nat.reduceBNe, hP, Int.lt_irrefl, Nat.lt_irrefl]))); (first | done | exact rfl)))     | ((first | apply T_sdF fw (by rw [hP]; rfl) (by decide +kernel) | apply T_drF fw (by rw [hP]; rfl) (by decide +kernel)); · ((try simp only [TOps.flat, List.cons_append, List.nil_append]); (repeat ((first | refine Y_g0 ?_ | refine Y_g (by (try simp only [go_sem, Nat.reduceEqDiff, reduceIte, ↓reduceIte, Nat.reduceLT, Nat.reduceAdd, Nat.reduceLeDiff, Int.reduceLT, Int.reduceLE, Nat.reduceMul, Nat.reduceBEq, Nat.reduceBNe, Bool.not_eq_true, reduceCtorEq, beq_false, beq_true, hP, Int.lt_irrefl, Nat.lt_irrefl]); (first | done | exact rfl)) ?_); (first | refine Y_skip ?_ | ((first | apply Y_q); (· ((try simp only [go_sem, Nat.reduceEqDiff, reduceIte, ↓reduceIte, Nat.reduceLT, Nat.reduceAdd, Nat.reduceLeDiff, Int.reduceLT, Int.reduceLE, Nat.reduceMul, Nat.reduceBEq, Nat.reduceBNe, Bool.not_eq_true, reduceCtorEq, beq_false, beq_true, hP, Int.lt_irrefl, Nat.lt_irrefl]); (first | done | exact rfl))))))); apply RunF_nil; (try simp only [go_sem, Nat.reduceEqDiff, reduceIte, ↓reduceIte, Nat.reduceLT, Nat.reduceAdd, Nat.reduceLeDiff, Int.reduceLT, Int.reduceLE, Nat.reduceMul, Nat.reduceBEq, Nat.reduceBNe, Bool.not_eq_true, reduceCtorEq, beq_false, beq_true, hP, Int.lt_irrefl, Nat.lt_irrefl]); (first | done | exact rfl)))     | ((first | apply T_sd fw (by rw [hP]; rfl) | apply T_dr fw (by rw [hP]; rfl)); · ((try simp only [go_sem, Nat.reduceEqDiff, reduceIte, ↓reduceIte, Nat.reduceLT, Nat.reduceAdd, Nat.reduceLeDiff, Int.reduceLT, Int.reduceLE, Nat.reduceMul, Nat.reduceBEq, Nat.reduceBNe, bne, beq_false, beq_true, Bool.not_eq_true, Bool.if_true_right, decide_not, reduceCtorEq, hP, Int.lt_irrefl, Nat.lt_irrefl]); (first | done | exact rfl)))     | refine T_seq ?_ | refine T_block ?_ | refine T_scope ?_ | refine T_ret ?_ | refine T_skip ?_ | refine T_exit ?_ | refine T_label ?_     | refine T_condT rfl ?_ | refine T_condF rfl ?_     | refine T_condD rfl (fun _ => ?_) (fun _ => ?_)     | refine T_cond rfl (fun _ => ?_) (fun _ => ?_))
        have ht : t = idxF s p := by rw [← hc2, hd]; simp [digs]
        rw [if_neg (by rw [h]; simp)]
        rw [← ht]
        have e0 : List.replicate (s.length - s.length) (0 : Int) ++ t = t := by simp
        rw [e0]
        exact ends_list2 (rows := rI t) rfl rfl (by simp [hc1])
  · have hs0 : sizeS s = 0 := by simp [sizeS, hck]
    rw [hs0]
    repeat' (first     | refine T_then ?_ | refine then_ret ?_ | refine then_exit ?_ | refine then_goto ?_     | refine rnd_exit ?_ | refine rnd_ret ?_ | refine rnd_goto ?_     | refine noGo_normal ?_ | refine noGo_ret ?_ | refine noGo_exit ?_     | refine inB_normal ?_ | refine inB_ret ?_ | refine inB_goto ?_ | refine inB_exit ?_ | refine inB_exit_ne rfl ?_     | ((first | apply T_sr fw | apply T_reg fw); · ((try simp only [go_sem, Nat.reduceEqDiff, reduceIte, ↓reduceIte, Nat.reduceLT, Nat.reduceAdd, Nat.reduceLeDiff, Int.reduceLT, Int.reduceLE, Nat.reduceMul, Nat.reduceBEq, Nat.reduceBNe, hP, hs0]); (repeat ((first       | (refine ⟨true, false, rfl, fun h => absurd h (by decide), ?_⟩) | (refine ⟨false, false, rfl, fun h => absurd h (by decide), ?_⟩) | refine ⟨_, _, rfl, fun _ => rfl, ?_⟩       | (refine .inl ⟨_, _, ⟨_, _, _, _, _, _, rfl, rfl, rfl, p_shape_Size _⟩, ?_⟩)       | (refine ⟨_, ?_, rfl, fun _ => ⟨_, ⟨_, _, _, _, _, _, rfl, rfl, rfl, p_shape_Size _⟩, ?_⟩, ?_⟩; rotate_left; (· (simp only [go_sem, Nat.reduceEqDiff, reduceIte, ↓reduceIte, Nat.reduceLT, Nat.reduceAdd, Nat.reduceLeDiff, Int.reduceLT, Int.reduceLE, Nat.reduceMul, Nat.reduceBEq, Nat.reduceBNe, hP, hs0]; first | done | exact rfl)))); (try simp only [go_sem, Nat.reduceEqDiff, reduceIte, ↓reduceIte, Nat.reduceLT, Nat.reduceAdd, Nat.reduceLeDiff, Int.reduceLT, Int.reduceLE, Nat.reduceMul, Nat.reduceBEq, Nat.reduceBNe, hP, hs0]))); (first | done | exact rfl)))     | ((first | apply T_sdF fw (by rw [hP]; rfl) (by decide +kernel) | apply T_drF fw (by rw [hP]; rfl) (by decide +kernel)); · ((try simp only [TOps.flat, List.cons_append, List.nil_append]); (repeat ((first | refine Y_g0 ?_ | refine Y_g (by (try simp only [go_sem, Nat.reduceEqDiff, reduceIte, ↓reduceIte, Nat.reduceLT, Nat.reduceAdd, Nat.reduceLeDiff, Int.reduceLT, Int.reduceLE, Nat.reduceMul, Nat.reduceBEq, Nat.reduceBNe, Bool.not_eq_true, reduceCtorEq, beq_false, beq_true, hP, hs0]); (first | done | exact rfl)) ?_); (first | refine Y_skip ?_ | ((first | apply Y_q | (refine Y_call ⟨_, _, _, _, _, _, rfl, rfl, rfl, (by rw [hP]; exact p_shape_Size _)⟩ ?_ ?_)); (· ((try simp only [go_sem, Nat.reduceEqDiff, reduceIte, ↓reduceIte, Nat.reduceLT, Nat.reduceAdd, Nat.reduceLeDiff, Int.reduceLT, Int.reduceLE, Nat.reduceMul, Nat.reduceBEq, Nat.reduceBNe, Bool.not_eq_true, reduceCtorEq, beq_false, beq_true, hP, hs0]); (first | done | exact rfl))))))); apply RunF_nil; (try simp only [go_sem, Nat.reduceEqDiff, reduceIte, ↓reduceIte, Nat.reduceLT, Nat.reduceAdd, Nat.reduceLeDiff, Int.reduceLT, Int.reduceLE, Nat.reduceMul, Nat.reduceBEq, Nat.reduceBNe, Bool.not_eq_true, reduceCtorEq, beq_false, beq_true, hP, hs0]); (first | done | exact rfl)))     | ((first | apply T_sd fw (by rw [hP]; rfl) | apply T_dr fw (by rw [hP]; rfl)); · ((try simp only [go_sem, Nat.reduceEqDiff, reduceIte, ↓reduceIte, Nat.reduceLT, Nat.reduceAdd, Nat.reduceLeDiff, Int.reduceLT, Int.reduceLE, Nat.reduceMul, Nat.reduceBEq, Nat.reduceBNe, bne, beq_false, beq_true, Bool.not_eq_true, Bool.if_true_right, decide_not, reduceCtorEq, hP, hs0]); (repeat ((first       | (refine ⟨_, ⟨_, _, _, _, _, _, rfl, rfl, rfl, p_shape_Size _⟩, ?_⟩)); (try simp only [go_sem, Nat.reduceEqDiff, reduceIte, ↓reduceIte, Nat.reduceLT, Nat.reduceAdd, Nat.reduceLeDiff, Int.reduceLT, Int.reduceLE, Nat.reduceMul, Nat.reduceBEq, Nat.reduceBNe, bne, beq_false, beq_true, Bool.not_eq_true, Bool.if_true_right, decide_not, reduceCtorEq, hP, hs0]))); (first | done | exact rfl)))     | refine T_seq ?_ | refine T_block ?_ | refine T_scope ?_ | refine T_ret ?_ | refine T_skip ?_ | refine T_exit ?_ | refine T_label ?_     | refine T_condT rfl ?_ | refine T_condF rfl ?_     | refine T_condD rfl (fun _ => ?_) (fun _ => ?_)     | refine T_cond rfl (fun _ => ?_) (fun _ => ?_))
    · rename_i h
      exact ends_ret rfl rfl rfl (by simp only [resD]; rw [if_pos h]; rfl)
    · rename_i h
      simp only [Bool.or_eq_false_iff, decide_eq_false_iff_not] at h
      omega
end Go.AM

