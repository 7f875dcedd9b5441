import Derived.Test.YtphnlpfkenannaaGreatMx17
import Derived.Lib.Mul64
set_option linter.unusedVariables false
set_option linter.unusedSimpArgs false
namespace Go.AM
open Go Go.Proofs
set_option maxRecDepth 100000
abbrev dNE (p : Int × Int) : DV := .tup [dN p.1, dN p.2]
def plW : List Int → List Int → Int → Int × Int
  | n :: s, k :: x, a => if k < 0 ∨ k ≥ n then (0, 20) else plW s x (IntKind.i64.wrap (IntKind.i64.wrap (a * n) + k))
  | _, _, a => (a, 0)
def placeF (s x : List Int) : Int × Int := if (!checkS s || ((x.length : Int) != s.length)) = true then (0, 20) else plW s x 0
theorem p_shape_Place (s x : List Int) : PureC Tryz.prog fi_shape_Place [dI s, dI x] (dNE (placeF s x)) := by
  refine pure_shape_Place (by simp) fun G hP hn => ?_
  unfold a_shape_Place
  refine T_wf 0 fun hl => ?_
  simp only [initE, lk, dI, eI, DV.av, wf_one, wf_sl, if_true, List.length_map] at hl
  repeat' (first     | refine T_then ?_ | refine then_ret ?_ | refine then_exit ?_ | refine then_goto ?_     | refine rnd_exit ?_ | refine rnd_ret ?_ | refine rnd_goto ?_     | refine noGo_normal ?_ | refine noGo_ret ?_ | refine noGo_exit ?_ | refine jmp_normal ?_ | refine jmp_ret ?_ | refine jmp_exit ?_ | refine jmp_goto ?_     | refine inB_normal ?_ | refine inB_ret ?_ | refine inB_goto ?_ | refine inB_exit ?_ | refine inB_exit_ne rfl ?_     | ((first | apply T_sr fw | apply T_reg fw); · ((try simp only [go_sem, seval, reduceIte, ↓reduceIte, hP]); (repeat ((first       | (refine ⟨true, false, rfl, fun h => absurd h (by decide), ?_⟩) | (refine ⟨false, false, rfl, fun h => absurd h (by decide), ?_⟩) | refine ⟨_, _, rfl, fun _ => rfl, ?_⟩       | (refine .inl ⟨_, _, ⟨_, _, _, _, _, _, rfl, rfl, rfl, p_shape_Check _⟩, ?_⟩)       | (refine ⟨_, ?_, rfl, fun _ => ⟨_, ⟨_, _, _, _, _, _, rfl, rfl, rfl, p_shape_Check _⟩, ?_⟩, ?_⟩; rotate_left; (· (simp only [go_sem, seval, reduceIte, ↓reduceIte, hP]; first | done | exact rfl)))); (try simp only [go_sem, seval, reduceIte, ↓reduceIte, hP]))); (first | done | exact rfl)))     | ((first | apply T_sdF fw (by rw [hP]; rfl) (by decide +kernel) | apply T_drF fw (by rw [hP]; rfl) (by decide +kernel)); · ((try simp only [TOps.flat, List.cons_append, List.nil_append]); (repeat ((first | refine Y_g0 ?_ | refine Y_g (by (try simp only [go_sem, seval, reduceIte, ↓reduceIte, Bool.not_eq_true, reduceCtorEq, beq_false, beq_true, hP]); (first | done | exact rfl)) ?_); (first | refine Y_skip ?_ | ((first | apply Y_q | (refine Y_call ⟨_, _, _, _, _, _, rfl, rfl, rfl, (by rw [hP]; exact p_shape_Check _)⟩ ?_ ?_)); (· ((try simp only [go_sem, seval, reduceIte, ↓reduceIte, Bool.not_eq_true, reduceCtorEq, beq_false, beq_true, hP]); (first | done | exact rfl))))))); apply RunF_nil; (try simp only [go_sem, seval, reduceIte, ↓reduceIte, Bool.not_eq_true, reduceCtorEq, beq_false, beq_true, hP]); (first | done | exact rfl)))     | ((first | apply T_sd fw (by rw [hP]; rfl) | apply T_dr fw (by rw [hP]; rfl)); · ((try simp only [go_sem, seval, reduceIte, ↓reduceIte, bne, beq_false, beq_true, Bool.not_eq_true, Bool.if_true_right, decide_not, reduceCtorEq, hP]); (repeat ((first       | (refine ⟨_, ⟨_, _, _, _, _, _, rfl, rfl, rfl, p_shape_Check _⟩, ?_⟩)); (try simp only [go_sem, seval, reduceIte, ↓reduceIte, bne, beq_false, beq_true, Bool.not_eq_true, Bool.if_true_right, decide_not, reduceCtorEq, hP]))); (first | done | exact rfl)))     | refine T_seq ?_ | refine T_block ?_ | refine T_scopeJ 0 rfl ?_ | refine T_scope ?_ | refine T_goto ?_ | refine T_ret ?_ | refine T_skip ?_ | refine T_exit ?_ | refine T_label ?_     | refine T_condT rfl ?_ | refine T_condF rfl ?_     | refine T_condD rfl (fun _ => ?_) (fun _ => ?_)     | refine T_cond rfl (fun _ => ?_) (fun _ => ?_))
  · rename_i h
    exact ends_ret rfl rfl rfl (by simp only [resD, placeF]; rw [if_pos h])
  · rename_i h
    have hxl : x.length = s.length := by
      simp only [Bool.or_eq_false_iff, bne_eq_false_iff_eq] at h
      omega
    refine T_for s.length (fun i acc => { env := [(1, .one (.p (eI x))), (6, .one (.p (.int .i64 acc))), (19, .one (.p (eI s))), (20, .one (.p (.int .i64 s.length))), (21, .one (.p (.int .i64 i)))], σ := [] })
      (fun i acc => plW (s.drop i) (x.drop i) acc = plW s x 0) 0 rfl (.refl _ _) fun i acc hi hc => ?_
    rcases nth hi with ⟨m, hlt, hm, hd⟩ | ⟨rfl, hd⟩
    · rcases nth (s := x) (i := i) (by omega) with ⟨k, hlt2, hk, hd2⟩ | ⟨hi2, _⟩
      · have hw := wrap_succ hlt hl.1
        rw [hd, hd2] at hc
        simp only [plW] at hc
        repeat' (first     | refine T_then ?_ | refine then_ret ?_ | refine then_exit ?_ | refine then_goto ?_     | refine rnd_exit ?_ | refine rnd_ret ?_ | refine rnd_goto ?_     | refine noGo_normal ?_ | refine noGo_ret ?_ | refine noGo_exit ?_ | refine jmp_normal ?_ | refine jmp_ret ?_ | refine jmp_exit ?_ | refine jmp_goto ?_     | refine inB_normal ?_ | refine inB_ret ?_ | refine inB_goto ?_ | refine inB_exit ?_ | refine inB_exit_ne rfl ?_     | ((first | apply T_sr fw | apply T_reg fw); · ((try simp only [go_sem, seval, reduceIte, ↓reduceIte, hm, hk, hlt, hlt2, hw]); (repeat ((first       | (refine ⟨true, false, rfl, fun h => absurd h (by decide), ?_⟩) | (refine ⟨false, false, rfl, fun h => absurd h (by decide), ?_⟩) | refine ⟨_, _, rfl, fun _ => rfl, ?_⟩); (try simp only [go_sem, seval, reduceIte, ↓reduceIte, hm, hk, hlt, hlt2, hw]))); (first | done | exact rfl)))     | ((first | apply T_sdF fw (by rw [hP]; rfl) (by decide +kernel) | apply T_drF fw (by rw [hP]; rfl) (by decide +kernel)); · ((try simp only [TOps.flat, List.cons_append, List.nil_append]); (repeat ((first | refine Y_g0 ?_ | refine Y_g (by (try simp only [go_sem, seval, reduceIte, ↓reduceIte, Bool.not_eq_true, reduceCtorEq, beq_false, beq_true, hm, hk, hlt, hlt2, hw]); (first | done | exact rfl)) ?_); (first | refine Y_skip ?_ | ((first | apply Y_q); (· ((try simp only [go_sem, seval, reduceIte, ↓reduceIte, Bool.not_eq_true, reduceCtorEq, beq_false, beq_true, hm, hk, hlt, hlt2, hw]); (first | done | exact rfl))))))); apply RunF_nil; (try simp only [go_sem, seval, reduceIte, ↓reduceIte, Bool.not_eq_true, reduceCtorEq, beq_false, beq_true, hm, hk, hlt, hlt2, hw]); (first | done | exact rfl)))     | ((first | apply T_sd fw (by rw [hP]; rfl) | apply T_dr fw (by rw [hP]; rfl)); · ((try simp only [go_sem, seval, reduceIte, ↓reduceIte, bne, beq_false, beq_true, Bool.not_eq_true, Bool.if_true_right, decide_not, reduceCtorEq, hm, hk, hlt, hlt2, hw]); (first | done | exact rfl)))     | refine T_seq ?_ | refine T_block ?_ | refine T_scopeJ 0 rfl ?_ | refine T_scope ?_ | refine T_goto ?_ | refine T_ret ?_ | refine T_skip ?_ | refine T_exit ?_ | refine T_label ?_     | refine T_condT rfl ?_ | refine T_condF rfl ?_     | refine T_condD rfl (fun _ => ?_) (fun _ => ?_)     | refine T_cond rfl (fun _ => ?_) (fun _ => ?_))
        · rename_i h2
          refine ends_ret rfl rfl rfl ?_
          rw [if_pos (by simpa using h2)] at hc
          simp only [resD, placeF]
          rw [if_neg (by rw [h]; simp), ← hc]
        · rename_i h2
          rw [if_neg (by simpa using h2)] at hc
          exact rnd_next hlt _ hc (.refl _ _)
      · omega
    · rw [hd] at hc
      refine go trivial trivial ?_
      refine ends_ret rfl rfl rfl ?_
      simp only [plW] at hc
      simp only [resD, placeF]
      rw [if_neg (by rw [h]; simp), ← hc]
end Go.AM

namespace Go.AM
open Go Go.Proofs
set_option maxRecDepth 100000

theorem p_tensor_At (s d x : List Int) (h0 : ∀ p, checkT s d = true → placeF s x = (p, 0) → 0 ≤ p ∧ p < d.length) :
    PureC Tryz.prog fi_tensor_At [dT s d, dI x] (dNE (if (!checkT s d) = true then (0, 30) else if ((placeF s x).2 != 0) = true then (0, (placeF s x).2) else ((d[(placeF s x).1.toNat]?).getD 0, 0))) := by
  refine pure_tensor_At (by simp) fun G hP hn => ?_
  unfold a_tensor_At
  repeat' (first     | refine T_then ?_ | refine then_ret ?_ | refine then_exit ?_ | refine then_goto ?_     | refine rnd_exit ?_ | refine rnd_ret ?_ | refine rnd_goto ?_     | refine noGo_normal ?_ | refine noGo_ret ?_ | refine noGo_exit ?_ | refine jmp_normal ?_ | refine jmp_ret ?_ | refine jmp_exit ?_ | refine jmp_goto ?_     | refine inB_normal ?_ | refine inB_ret ?_ | refine inB_goto ?_ | refine inB_exit ?_ | refine inB_exit_ne rfl ?_     | ((first | apply T_sr fw | apply T_reg fw); · ((try simp only [go_sem, seval, reduceIte, ↓reduceIte, hP]); (repeat ((first       | (refine ⟨true, false, rfl, fun h => absurd h (by decide), ?_⟩) | (refine ⟨false, false, rfl, fun h => absurd h (by decide), ?_⟩) | refine ⟨_, _, rfl, fun _ => rfl, ?_⟩       | (refine .inl ⟨_, _, ⟨_, _, _, _, _, _, rfl, rfl, rfl, p_tensor_Check _ _⟩, ?_⟩)       | (refine .inl ⟨_, _, ⟨_, _, _, _, _, _, rfl, rfl, rfl, p_shape_Place _ _⟩, ?_⟩)       | (refine ⟨_, ?_, rfl, fun _ => ⟨_, ⟨_, _, _, _, _, _, rfl, rfl, rfl, p_tensor_Check _ _⟩, ?_⟩, ?_⟩; rotate_left; (· (simp only [go_sem, seval, reduceIte, ↓reduceIte, hP]; first | done | exact rfl)))       | (refine ⟨_, ?_, rfl, fun _ => ⟨_, ⟨_, _, _, _, _, _, rfl, rfl, rfl, p_shape_Place _ _⟩, ?_⟩, ?_⟩; rotate_left; (· (simp only [go_sem, seval, reduceIte, ↓reduceIte, hP]; first | done | exact rfl)))); (try simp only [go_sem, seval, reduceIte, ↓reduceIte, hP]))); (first | done | exact rfl)))     | ((first | apply T_sdF fw (by rw [hP]; rfl) (by decide +kernel) | apply T_drF fw (by rw [hP]; rfl) (by decide +kernel)); · ((try simp only [TOps.flat, List.cons_append, List.nil_append]); (repeat ((first | refine Y_g0 ?_ | refine Y_g (by (try simp only [go_sem, seval, reduceIte, ↓reduceIte, Bool.not_eq_true, reduceCtorEq, beq_false, beq_true, hP]); (first | done | exact rfl)) ?_); (first | refine Y_skip ?_ | ((first | apply Y_q | (refine Y_call ⟨_, _, _, _, _, _, rfl, rfl, rfl, (by rw [hP]; exact p_tensor_Check _ _)⟩ ?_ ?_) | (refine Y_call ⟨_, _, _, _, _, _, rfl, rfl, rfl, (by rw [hP]; exact p_shape_Place _ _)⟩ ?_ ?_)); (· ((try simp only [go_sem, seval, reduceIte, ↓reduceIte, Bool.not_eq_true, reduceCtorEq, beq_false, beq_true, hP]); (first | done | exact rfl))))))); apply RunF_nil; (try simp only [go_sem, seval, reduceIte, ↓reduceIte, Bool.not_eq_true, reduceCtorEq, beq_false, beq_true, hP]); (first | done | exact rfl)))     | ((first | apply T_sd fw (by rw [hP]; rfl) | apply T_dr fw (by rw [hP]; rfl)); · ((try simp only [go_sem, seval, reduceIte, ↓reduceIte, bne, beq_false, beq_true, Bool.not_eq_true, Bool.if_true_right, decide_not, reduceCtorEq, hP]); (repeat ((first       | (refine ⟨_, ⟨_, _, _, _, _, _, rfl, rfl, rfl, p_tensor_Check _ _⟩, ?_⟩)       | (refine ⟨_, ⟨_, _, _, _, _, _, rfl, rfl, rfl, p_shape_Place _ _⟩, ?_⟩)); (try simp only [go_sem, seval, reduceIte, ↓reduceIte, bne, beq_false, beq_true, Bool.not_eq_true, Bool.if_true_right, decide_not, reduceCtorEq, hP]))); (first | done | exact rfl)))     | refine T_seq ?_ | refine T_block ?_ | refine T_scopeJ 0 rfl ?_ | refine T_scope ?_ | refine T_goto ?_ | refine T_ret ?_ | refine T_skip ?_ | refine T_exit ?_ | refine T_label ?_     | refine T_condT rfl ?_ | refine T_condF rfl ?_     | refine T_condD rfl (fun _ => ?_) (fun _ => ?_)     | refine T_cond rfl (fun _ => ?_) (fun _ => ?_))
  · rename_i h
    exact ends_ret rfl rfl rfl (by simp only [resD]; rw [if_pos h])
  · rename_i h h2
    exact ends_ret rfl rfl rfl (by simp only [resD]; rw [if_neg (by rw [h]; simp), if_pos h2])
  · rename_i h h2
    have h3 := h0 (placeF s x).1 (by simpa using h) (by
      have : (placeF s x).2 = 0 := by simpa using h2
      rw [← this])
    have h4 : (placeF s x).1.toNat < d.length := by omega
    have h5 : d[(placeF s x).1.toNat]? = some d[(placeF s x).1.toNat] := List.getElem?_eq_getElem h4
    refine go (aa @h3.1 <| aa @h3.2 h5) trivial ?_
    exact ends_ret rfl rfl rfl (by simp only [resD]; rw [if_neg (by rw [h]; simp), if_neg (by rw [h2]; simp), h5]; rfl)
end Go.AM

namespace Go.AM
open Go Go.Proofs
set_option maxRecDepth 100000
def digs : List Int → Int → List Int
  | [], _ => []
  | n :: r, p => p.tmod n :: digs r (IntKind.i64.wrap (p.tdiv n))
def idxF (s : List Int) (p : Int) : List Int := (digs s.reverse p).reverse
theorem chk_pos : ∀ {s : List Int} {a : Int}, chk s a > 0 → ∀ m ∈ s, 1 ≤ m ∧ m ≤ 16
  | [], _, _, m, hm => by simp at hm
  | x :: r, a, h, m, hm => by
    simp only [chk] at h
    split at h
    · omega
    · rename_i hx
      rcases List.mem_cons.1 hm with rfl | hm
      · omega
      · exact chk_pos h m hm
theorem check_pos {s : List Int} (h : checkS s = true) : ∀ m ∈ s, 1 ≤ m ∧ m ≤ 16 := by
  simp only [checkS, Bool.and_eq_true, decide_eq_true_eq] at h
  exact chk_pos h.2.1
theorem check_len {s : List Int} (h : checkS s = true) : s.length ≤ 3 := by
  simp [checkS] at h; omega
theorem rep_set (a : Nat) (v : Int) (t : List Int) : (List.replicate (a + 1) (0 : Int) ++ t).set a v = List.replicate a 0 ++ v :: t := by
  rw [List.set_append_left _ _ (by simp), List.replicate_succ']
  rw [List.set_append_right _ _ (by simp)]
  simp
theorem p_shape_Index (s : List Int) (p : Int) : PureC Tryz.prog fi_shape_Index [dI s, dN p] (if (decide (p < 0) || decide (p ≥ sizeS s)) = true then .tup [dI [], dN 20] else .tup [dI (idxF s p), dN 0]) := by
  refine pure_shape_Index (by simp) fun G hP hn => ?_
  unfold a_shape_Index
  refine T_wf 0 fun hl => ?_
  simp only [initE, lk, dI, eI, DV.av, wf_one, wf_sl, if_true, List.length_map] at hl
  by_cases hck : checkS s = true
  · have hl3 := check_len hck
    have hM : MaxN = 140737488355328 := rfl
    have q1 : (s.length : Int) * 8 ≤ MaxN := by omega
    have q2 : (s.length : Int) ≤ MaxN := by omega
    repeat' (first     | refine T_then ?_ | refine then_ret ?_ | refine then_exit ?_ | refine then_goto ?_     | refine rnd_exit ?_ | refine rnd_ret ?_ | refine rnd_goto ?_     | refine noGo_normal ?_ | refine noGo_ret ?_ | refine noGo_exit ?_ | refine jmp_normal ?_ | refine jmp_ret ?_ | refine jmp_exit ?_ | refine jmp_goto ?_     | refine inB_normal ?_ | refine inB_ret ?_ | refine inB_goto ?_ | refine inB_exit ?_ | refine inB_exit_ne rfl ?_     | ((first | apply T_sr fw | apply T_reg fw); · ((try simp only [go_sem, seval, reduceIte, ↓reduceIte, hP, q1, q2, Int.le_refl]); (repeat ((first       | (refine ⟨true, false, rfl, fun h => absurd h (by decide), ?_⟩) | (refine ⟨false, false, rfl, fun h => absurd h (by decide), ?_⟩) | refine ⟨_, _, rfl, fun _ => rfl, ?_⟩       | (refine .inl ⟨_, _, ⟨_, _, _, _, _, _, rfl, rfl, rfl, p_shape_Size _⟩, ?_⟩)       | (refine ⟨_, ?_, rfl, fun _ => ⟨_, ⟨_, _, _, _, _, _, rfl, rfl, rfl, p_shape_Size _⟩, ?_⟩, ?_⟩; rotate_left; (· (simp only [go_sem, seval, reduceIte, ↓reduceIte, hP, q1, q2, Int.le_refl]; first | done | exact rfl)))); (try simp only [go_sem, seval, reduceIte, ↓reduceIte, hP, q1, q2, Int.le_refl]))); (first | done | exact rfl)))     | ((first | apply T_sdF fw (by rw [hP]; rfl) (by decide +kernel) | apply T_drF fw (by rw [hP]; rfl) (by decide +kernel)); · ((try simp only [TOps.flat, List.cons_append, List.nil_append]); (repeat ((first | refine Y_g0 ?_ | refine Y_g (by (try simp only [go_sem, seval, reduceIte, ↓reduceIte, Bool.not_eq_true, reduceCtorEq, beq_false, beq_true, hP, q1, q2, Int.le_refl]); (first | done | exact rfl)) ?_); (first | refine Y_skip ?_ | ((first | apply Y_q | (refine Y_call ⟨_, _, _, _, _, _, rfl, rfl, rfl, (by rw [hP]; exact p_shape_Size _)⟩ ?_ ?_)); (· ((try simp only [go_sem, seval, reduceIte, ↓reduceIte, Bool.not_eq_true, reduceCtorEq, beq_false, beq_true, hP, q1, q2, Int.le_refl]); (first | done | exact rfl))))))); apply RunF_nil; (try simp only [go_sem, seval, reduceIte, ↓reduceIte, Bool.not_eq_true, reduceCtorEq, beq_false, beq_true, hP, q1, q2, Int.le_refl]); (first | done | exact rfl)))     | ((first | apply T_sd fw (by rw [hP]; rfl) | apply T_dr fw (by rw [hP]; rfl)); · ((try simp only [go_sem, seval, reduceIte, ↓reduceIte, bne, beq_false, beq_true, Bool.not_eq_true, Bool.if_true_right, decide_not, reduceCtorEq, hP, q1, q2, Int.le_refl]); (repeat ((first       | (refine ⟨_, ⟨_, _, _, _, _, _, rfl, rfl, rfl, p_shape_Size _⟩, ?_⟩)); (try simp only [go_sem, seval, reduceIte, ↓reduceIte, bne, beq_false, beq_true, Bool.not_eq_true, Bool.if_true_right, decide_not, reduceCtorEq, hP, q1, q2, Int.le_refl]))); (first | done | exact rfl)))     | refine T_seq ?_ | refine T_block ?_ | refine T_scopeJ 0 rfl ?_ | refine T_scope ?_ | refine T_goto ?_ | refine T_ret ?_ | refine T_skip ?_ | refine T_exit ?_ | refine T_label ?_     | refine T_condT rfl ?_ | refine T_condF rfl ?_     | refine T_condD rfl (fun _ => ?_) (fun _ => ?_)     | refine T_cond rfl (fun _ => ?_) (fun _ => ?_))
    · rename_i h
      exact ends_ret rfl rfl rfl (by simp only [resD]; rw [if_pos h]; rfl)
    · rename_i h
      refine T_for s.length (fun i (a : Int × List Int) => { env := [(0, .one (.p (eI s))), (1, .one (.p (.int .i64 a.1))), (6, .one (.msl 19 0 1 s.length (some s.length))), (21, .one (.p (.int .i64 s.length))), (22, .one (.p (.int .i64 i)))], σ := [(19, .arr true 1 (rI (List.replicate (s.length - i) 0 ++ a.2)))] })
        (fun i a => a.2.length = i ∧ (digs (s.reverse.drop i) a.1).reverse ++ a.2 = idxF s p) (p, []) ⟨rfl, by simp [idxF]⟩ (by simp; exact .refl _ _) fun i a hi hc => ?_
      obtain ⟨q, t⟩ := a
      obtain ⟨hc1, hc2⟩ := hc
      simp only at hc1 hc2
      rcases nth (s := s.reverse) (i := i) (by simpa using hi) with ⟨m, hlt, hm, hd⟩ | ⟨hi2, hd⟩
      · have hlt : i < s.length := by simpa using hlt
        have hm2 : s[s.length - 1 - i]? = some m := by rw [← hm, List.getElem?_reverse hlt]
        have hm1 : 1 ≤ m := (check_pos hck m (List.mem_of_getElem? hm2)).1
        have hm0 : ¬ m = 0 := by omega
        have w1 : IntKind.i64.wrap ((s.length : Int) - 1) = (s.length : Int) - 1 := wrap_in (by omega) (by omega)
        have w2 : IntKind.i64.wrap ((s.length : Int) - 1 - i) = ((s.length - 1 - i : Nat) : Int) := by rw [wrap_in (by omega) (by omega)]; omega
        have w3 := wrap_succ hlt hl.1
        have c1 : s.length - 1 - i < s.length := by omega
        have hrep : List.replicate (s.length - i) (0 : Int) = List.replicate (s.length - 1 - i + 1) 0 := by congr 1; omega
        have hz : (List.replicate (s.length - 1 - i + 1) (0 : Int) ++ t)[s.length - 1 - i]? = some 0 := by
          rw [List.getElem?_append_left (by simp)]; simp
        have hst := rep_set (s.length - 1 - i) (q.tmod m) t
        have hlen : (List.replicate (s.length - 1 - i + 1) (0 : Int) ++ t).length = s.length := by simp; omega
        rw [hrep]
        generalize List.replicate (s.length - 1 - i + 1) (0 : Int) ++ t = R at hz hst hlen
        refine go (aa hlt <| aa hm2 <| aa hm0 <| aa w1 <| aa w2 <| aa w3 <| aa c1 <| aa hz <| aa hlen @rI_set) trivial ?_
        refine rnd_next hlt (IntKind.i64.wrap (q.tdiv m), q.tmod m :: t) ⟨by simp [hc1], ?_⟩ ?_
        · rw [hd] at hc2
          simp only [digs, List.reverse_cons, List.append_assoc, List.singleton_append, List.cons_append, List.nil_append] at hc2
          exact hc2
        · rw [hst, show s.length - 1 - i = s.length - (i + 1) from by omega]
          exact .refl _ _
      · have hi3 : i = s.length := by simpa using hi2
        subst hi3
        refine go trivial trivial ?_
        have ht : t = idxF s p := by rw [← hc2, hd]; simp [digs]
        rw [if_neg (by rw [h]; simp)]
        rw [← ht]
        have e0 : List.replicate (s.length - s.length) (0 : Int) ++ t = t := by simp
        try rw [e0]
        exact ends_list2 (rows := rI t) rfl rfl (by simp [hc1])
  · have hs0 : sizeS s = 0 := by simp [sizeS, hck]
    rw [hs0]
    repeat' (first     | refine T_then ?_ | refine then_ret ?_ | refine then_exit ?_ | refine then_goto ?_     | refine rnd_exit ?_ | refine rnd_ret ?_ | refine rnd_goto ?_     | refine noGo_normal ?_ | refine noGo_ret ?_ | refine noGo_exit ?_ | refine jmp_normal ?_ | refine jmp_ret ?_ | refine jmp_exit ?_ | refine jmp_goto ?_     | refine inB_normal ?_ | refine inB_ret ?_ | refine inB_goto ?_ | refine inB_exit ?_ | refine inB_exit_ne rfl ?_     | ((first | apply T_sr fw | apply T_reg fw); · ((try simp only [go_sem, seval, reduceIte, ↓reduceIte, hP, hs0]); (repeat ((first       | (refine ⟨true, false, rfl, fun h => absurd h (by decide), ?_⟩) | (refine ⟨false, false, rfl, fun h => absurd h (by decide), ?_⟩) | refine ⟨_, _, rfl, fun _ => rfl, ?_⟩       | (refine .inl ⟨_, _, ⟨_, _, _, _, _, _, rfl, rfl, rfl, p_shape_Size _⟩, ?_⟩)       | (refine ⟨_, ?_, rfl, fun _ => ⟨_, ⟨_, _, _, _, _, _, rfl, rfl, rfl, p_shape_Size _⟩, ?_⟩, ?_⟩; rotate_left; (· (simp only [go_sem, seval, reduceIte, ↓reduceIte, hP, hs0]; first | done | exact rfl)))); (try simp only [go_sem, seval, reduceIte, ↓reduceIte, hP, hs0]))); (first | done | exact rfl)))     | ((first | apply T_sdF fw (by rw [hP]; rfl) (by decide +kernel) | apply T_drF fw (by rw [hP]; rfl) (by decide +kernel)); · ((try simp only [TOps.flat, List.cons_append, List.nil_append]); (repeat ((first | refine Y_g0 ?_ | refine Y_g (by (try simp only [go_sem, seval, reduceIte, ↓reduceIte, Bool.not_eq_true, reduceCtorEq, beq_false, beq_true, hP, hs0]); (first | done | exact rfl)) ?_); (first | refine Y_skip ?_ | ((first | apply Y_q | (refine Y_call ⟨_, _, _, _, _, _, rfl, rfl, rfl, (by rw [hP]; exact p_shape_Size _)⟩ ?_ ?_)); (· ((try simp only [go_sem, seval, reduceIte, ↓reduceIte, Bool.not_eq_true, reduceCtorEq, beq_false, beq_true, hP, hs0]); (first | done | exact rfl))))))); apply RunF_nil; (try simp only [go_sem, seval, reduceIte, ↓reduceIte, Bool.not_eq_true, reduceCtorEq, beq_false, beq_true, hP, hs0]); (first | done | exact rfl)))     | ((first | apply T_sd fw (by rw [hP]; rfl) | apply T_dr fw (by rw [hP]; rfl)); · ((try simp only [go_sem, seval, reduceIte, ↓reduceIte, bne, beq_false, beq_true, Bool.not_eq_true, Bool.if_true_right, decide_not, reduceCtorEq, hP, hs0]); (repeat ((first       | (refine ⟨_, ⟨_, _, _, _, _, _, rfl, rfl, rfl, p_shape_Size _⟩, ?_⟩)); (try simp only [go_sem, seval, reduceIte, ↓reduceIte, bne, beq_false, beq_true, Bool.not_eq_true, Bool.if_true_right, decide_not, reduceCtorEq, hP, hs0]))); (first | done | exact rfl)))     | refine T_seq ?_ | refine T_block ?_ | refine T_scopeJ 0 rfl ?_ | refine T_scope ?_ | refine T_goto ?_ | refine T_ret ?_ | refine T_skip ?_ | refine T_exit ?_ | refine T_label ?_     | refine T_condT rfl ?_ | refine T_condF rfl ?_     | refine T_condD rfl (fun _ => ?_) (fun _ => ?_)     | refine T_cond rfl (fun _ => ?_) (fun _ => ?_))
    · rename_i h
      exact ends_ret rfl rfl rfl (by simp only [resD]; rw [if_pos h]; rfl)
    · rename_i h
      simp only [Bool.or_eq_false_iff, decide_eq_false_iff_not] at h
      omega
end Go.AM

namespace Go.AM
open Go Go.Proofs
set_option maxRecDepth 100000

def eqL : List Int → List Int → Bool
  | a :: s, b :: t => if (!(a == b)) = true then false else eqL s t
  | _, _ => true
def sameL (s t : List Int) : Bool := if ((s.length : Int) != t.length) = true then false else eqL s t
theorem p_slices_Equal (s t : List Int) : PureC Tryz.prog fi_slices_Equal_int_int [dI s, dI t] (dB (sameL s t)) := by
  refine pure_slices_Equal_int_int (by simp) fun G hP hn => ?_
  unfold a_slices_Equal_int_int
  refine T_wf 0 fun hl => ?_
  simp only [initE, lk, dI, eI, DV.av, wf_one, wf_sl, if_true, List.length_map] at hl
  repeat' (first     | refine T_then ?_ | refine then_ret ?_ | refine then_exit ?_ | refine then_goto ?_     | refine rnd_exit ?_ | refine rnd_ret ?_ | refine rnd_goto ?_     | refine noGo_normal ?_ | refine noGo_ret ?_ | refine noGo_exit ?_ | refine jmp_normal ?_ | refine jmp_ret ?_ | refine jmp_exit ?_ | refine jmp_goto ?_     | refine inB_normal ?_ | refine inB_ret ?_ | refine inB_goto ?_ | refine inB_exit ?_ | refine inB_exit_ne rfl ?_     | ((first | apply T_sr fw | apply T_reg fw); · ((try simp only [go_sem, seval, reduceIte, ↓reduceIte, hP]); (repeat ((first       | (refine ⟨true, false, rfl, fun h => absurd h (by decide), ?_⟩) | (refine ⟨false, false, rfl, fun h => absurd h (by decide), ?_⟩) | refine ⟨_, _, rfl, fun _ => rfl, ?_⟩); (try simp only [go_sem, seval, reduceIte, ↓reduceIte, hP]))); (first | done | exact rfl)))     | ((first | apply T_sdF fw (by rw [hP]; rfl) (by decide +kernel) | apply T_drF fw (by rw [hP]; rfl) (by decide +kernel)); · ((try simp only [TOps.flat, List.cons_append, List.nil_append]); (repeat ((first | refine Y_g0 ?_ | refine Y_g (by (try simp only [go_sem, seval, reduceIte, ↓reduceIte, Bool.not_eq_true, reduceCtorEq, beq_false, beq_true, hP]); (first | done | exact rfl)) ?_); (first | refine Y_skip ?_ | ((first | apply Y_q); (· ((try simp only [go_sem, seval, reduceIte, ↓reduceIte, Bool.not_eq_true, reduceCtorEq, beq_false, beq_true, hP]); (first | done | exact rfl))))))); apply RunF_nil; (try simp only [go_sem, seval, reduceIte, ↓reduceIte, Bool.not_eq_true, reduceCtorEq, beq_false, beq_true, hP]); (first | done | exact rfl)))     | ((first | apply T_sd fw (by rw [hP]; rfl) | apply T_dr fw (by rw [hP]; rfl)); · ((try simp only [go_sem, seval, reduceIte, ↓reduceIte, bne, beq_false, beq_true, Bool.not_eq_true, Bool.if_true_right, decide_not, reduceCtorEq, hP]); (first | done | exact rfl)))     | refine T_seq ?_ | refine T_block ?_ | refine T_scopeJ 0 rfl ?_ | refine T_scope ?_ | refine T_goto ?_ | refine T_ret ?_ | refine T_skip ?_ | refine T_exit ?_ | refine T_label ?_     | refine T_condT rfl ?_ | refine T_condF rfl ?_     | refine T_condD rfl (fun _ => ?_) (fun _ => ?_)     | refine T_cond rfl (fun _ => ?_) (fun _ => ?_))
  · rename_i h
    exact ends_ret rfl rfl rfl (by simp only [resD, sameL]; rw [if_pos h])
  · rename_i h
    have hxl : t.length = s.length := by
      simp only [bne_eq_false_iff_eq] at h
      omega
    refine T_for s.length (fun i (_ : Unit) => { env := [(0, .one (.p (eI s))), (1, .one (.p (eI t))), (12, .one (.p (.int .i64 s.length))), (13, .one (.p (.int .i64 i)))], σ := [] })
      (fun i _ => eqL (s.drop i) (t.drop i) = eqL s t) () rfl (.refl _ _) fun i _ hi hc => ?_
    rcases nth hi with ⟨m, hlt, hm, hd⟩ | ⟨rfl, hd⟩
    · rcases nth (s := t) (i := i) (by omega) with ⟨k, hlt2, hk, hd2⟩ | ⟨hi2, _⟩
      · have hw := wrap_succ hlt hl.1
        rw [hd, hd2] at hc
        simp only [eqL] at hc
        repeat' (first     | refine T_then ?_ | refine then_ret ?_ | refine then_exit ?_ | refine then_goto ?_     | refine rnd_exit ?_ | refine rnd_ret ?_ | refine rnd_goto ?_     | refine noGo_normal ?_ | refine noGo_ret ?_ | refine noGo_exit ?_ | refine jmp_normal ?_ | refine jmp_ret ?_ | refine jmp_exit ?_ | refine jmp_goto ?_     | refine inB_normal ?_ | refine inB_ret ?_ | refine inB_goto ?_ | refine inB_exit ?_ | refine inB_exit_ne rfl ?_     | ((first | apply T_sr fw | apply T_reg fw); · ((try simp only [go_sem, seval, reduceIte, ↓reduceIte, hP, hm, hk, hlt, hlt2, hw]); (repeat ((first       | (refine ⟨true, false, rfl, fun h => absurd h (by decide), ?_⟩) | (refine ⟨false, false, rfl, fun h => absurd h (by decide), ?_⟩) | refine ⟨_, _, rfl, fun _ => rfl, ?_⟩); (try simp only [go_sem, seval, reduceIte, ↓reduceIte, hP, hm, hk, hlt, hlt2, hw]))); (first | done | exact rfl)))     | ((first | apply T_sdF fw (by rw [hP]; rfl) (by decide +kernel) | apply T_drF fw (by rw [hP]; rfl) (by decide +kernel)); · ((try simp only [TOps.flat, List.cons_append, List.nil_append]); (repeat ((first | refine Y_g0 ?_ | refine Y_g (by (try simp only [go_sem, seval, reduceIte, ↓reduceIte, Bool.not_eq_true, reduceCtorEq, beq_false, beq_true, hP, hm, hk, hlt, hlt2, hw]); (first | done | exact rfl)) ?_); (first | refine Y_skip ?_ | ((first | apply Y_q); (· ((try simp only [go_sem, seval, reduceIte, ↓reduceIte, Bool.not_eq_true, reduceCtorEq, beq_false, beq_true, hP, hm, hk, hlt, hlt2, hw]); (first | done | exact rfl))))))); apply RunF_nil; (try simp only [go_sem, seval, reduceIte, ↓reduceIte, Bool.not_eq_true, reduceCtorEq, beq_false, beq_true, hP, hm, hk, hlt, hlt2, hw]); (first | done | exact rfl)))     | ((first | apply T_sd fw (by rw [hP]; rfl) | apply T_dr fw (by rw [hP]; rfl)); · ((try simp only [go_sem, seval, reduceIte, ↓reduceIte, bne, beq_false, beq_true, Bool.not_eq_true, Bool.if_true_right, decide_not, reduceCtorEq, hP, hm, hk, hlt, hlt2, hw]); (first | done | exact rfl)))     | refine T_seq ?_ | refine T_block ?_ | refine T_scopeJ 0 rfl ?_ | refine T_scope ?_ | refine T_goto ?_ | refine T_ret ?_ | refine T_skip ?_ | refine T_exit ?_ | refine T_label ?_     | refine T_condT rfl ?_ | refine T_condF rfl ?_     | refine T_condD rfl (fun _ => ?_) (fun _ => ?_)     | refine T_cond rfl (fun _ => ?_) (fun _ => ?_))
        · rename_i h2
          have h2 : (!(m == k)) = true := h2
          rw [if_pos h2] at hc
          exact ends_ret rfl rfl rfl (by simp only [resD, sameL]; rw [if_neg (by rw [h]; simp), ← hc])
        · rename_i h2
          have h2 : (!(m == k)) = false := h2
          rw [if_neg (by rw [h2]; simp)] at hc
          exact rnd_next hlt () hc (.refl _ _)
      · omega
    · rw [hd] at hc
      refine go trivial trivial ?_
      simp only [eqL] at hc
      exact ends_ret rfl rfl rfl (by simp only [resD, sameL]; rw [if_neg (by rw [h]; simp), ← hc])
end Go.AM

namespace Go.AM
open Go Go.Proofs
set_option maxRecDepth 100000

theorem p_ref02_Same (s t : List Int) : PureC Tryz.prog fi_fullerref02_Same [dI s, dI t] (dB (sameL s t)) := by
  refine pure_fullerref02_Same (by simp) fun G hP hn => ?_
  unfold a_fullerref02_Same
  refine T_wf 0 fun hl => ?_
  simp only [initE, lk, dI, eI, DV.av, wf_one, wf_sl, if_true, List.length_map] at hl
  repeat' (first     | refine T_then ?_ | refine then_ret ?_ | refine then_exit ?_ | refine then_goto ?_     | refine rnd_exit ?_ | refine rnd_ret ?_ | refine rnd_goto ?_     | refine noGo_normal ?_ | refine noGo_ret ?_ | refine noGo_exit ?_ | refine jmp_normal ?_ | refine jmp_ret ?_ | refine jmp_exit ?_ | refine jmp_goto ?_     | refine inB_normal ?_ | refine inB_ret ?_ | refine inB_goto ?_ | refine inB_exit ?_ | refine inB_exit_ne rfl ?_     | ((first | apply T_sr fw | apply T_reg fw); · ((try simp only [go_sem, seval, reduceIte, ↓reduceIte, hP]); (repeat ((first       | (refine ⟨true, false, rfl, fun h => absurd h (by decide), ?_⟩) | (refine ⟨false, false, rfl, fun h => absurd h (by decide), ?_⟩) | refine ⟨_, _, rfl, fun _ => rfl, ?_⟩); (try simp only [go_sem, seval, reduceIte, ↓reduceIte, hP]))); (first | done | exact rfl)))     | ((first | apply T_sdF fw (by rw [hP]; rfl) (by decide +kernel) | apply T_drF fw (by rw [hP]; rfl) (by decide +kernel)); · ((try simp only [TOps.flat, List.cons_append, List.nil_append]); (repeat ((first | refine Y_g0 ?_ | refine Y_g (by (try simp only [go_sem, seval, reduceIte, ↓reduceIte, Bool.not_eq_true, reduceCtorEq, beq_false, beq_true, hP]); (first | done | exact rfl)) ?_); (first | refine Y_skip ?_ | ((first | apply Y_q); (· ((try simp only [go_sem, seval, reduceIte, ↓reduceIte, Bool.not_eq_true, reduceCtorEq, beq_false, beq_true, hP]); (first | done | exact rfl))))))); apply RunF_nil; (try simp only [go_sem, seval, reduceIte, ↓reduceIte, Bool.not_eq_true, reduceCtorEq, beq_false, beq_true, hP]); (first | done | exact rfl)))     | ((first | apply T_sd fw (by rw [hP]; rfl) | apply T_dr fw (by rw [hP]; rfl)); · ((try simp only [go_sem, seval, reduceIte, ↓reduceIte, bne, beq_false, beq_true, Bool.not_eq_true, Bool.if_true_right, decide_not, reduceCtorEq, hP]); (first | done | exact rfl)))     | refine T_seq ?_ | refine T_block ?_ | refine T_scopeJ 0 rfl ?_ | refine T_scope ?_ | refine T_goto ?_ | refine T_ret ?_ | refine T_skip ?_ | refine T_exit ?_ | refine T_label ?_     | refine T_condT rfl ?_ | refine T_condF rfl ?_     | refine T_condD rfl (fun _ => ?_) (fun _ => ?_)     | refine T_cond rfl (fun _ => ?_) (fun _ => ?_))
  · rename_i h
    exact ends_ret rfl rfl rfl (by simp only [resD, sameL]; rw [if_pos h])
  · rename_i h
    have hxl : t.length = s.length := by
      simp only [bne_eq_false_iff_eq] at h
      omega
    refine T_for s.length (fun i (_ : Unit) => { env := [(0, .one (.p (eI s))), (1, .one (.p (eI t))), (5, .one (.p (.int .i64 i)))], σ := [] })
      (fun i _ => eqL (s.drop i) (t.drop i) = eqL s t) () rfl (.refl _ _) fun i _ hi hc => ?_
    rcases nth hi with ⟨m, hlt, hm, hd⟩ | ⟨rfl, hd⟩
    · rcases nth (s := t) (i := i) (by omega) with ⟨k, hlt2, hk, hd2⟩ | ⟨hi2, _⟩
      · have hw := wrap_succ hlt hl.1
        rw [hd, hd2] at hc
        simp only [eqL] at hc
        repeat' (first     | refine T_then ?_ | refine then_ret ?_ | refine then_exit ?_ | refine then_goto ?_     | refine rnd_exit ?_ | refine rnd_ret ?_ | refine rnd_goto ?_     | refine noGo_normal ?_ | refine noGo_ret ?_ | refine noGo_exit ?_ | refine jmp_normal ?_ | refine jmp_ret ?_ | refine jmp_exit ?_ | refine jmp_goto ?_     | refine inB_normal ?_ | refine inB_ret ?_ | refine inB_goto ?_ | refine inB_exit ?_ | refine inB_exit_ne rfl ?_     | ((first | apply T_sr fw | apply T_reg fw); · ((try simp only [go_sem, seval, reduceIte, ↓reduceIte, hP, hm, hk, hlt, hlt2, hw]); (repeat ((first       | (refine ⟨true, false, rfl, fun h => absurd h (by decide), ?_⟩) | (refine ⟨false, false, rfl, fun h => absurd h (by decide), ?_⟩) | refine ⟨_, _, rfl, fun _ => rfl, ?_⟩); (try simp only [go_sem, seval, reduceIte, ↓reduceIte, hP, hm, hk, hlt, hlt2, hw]))); (first | done | exact rfl)))     | ((first | apply T_sdF fw (by rw [hP]; rfl) (by decide +kernel) | apply T_drF fw (by rw [hP]; rfl) (by decide +kernel)); · ((try simp only [TOps.flat, List.cons_append, List.nil_append]); (repeat ((first | refine Y_g0 ?_ | refine Y_g (by (try simp only [go_sem, seval, reduceIte, ↓reduceIte, Bool.not_eq_true, reduceCtorEq, beq_false, beq_true, hP, hm, hk, hlt, hlt2, hw]); (first | done | exact rfl)) ?_); (first | refine Y_skip ?_ | ((first | apply Y_q); (· ((try simp only [go_sem, seval, reduceIte, ↓reduceIte, Bool.not_eq_true, reduceCtorEq, beq_false, beq_true, hP, hm, hk, hlt, hlt2, hw]); (first | done | exact rfl))))))); apply RunF_nil; (try simp only [go_sem, seval, reduceIte, ↓reduceIte, Bool.not_eq_true, reduceCtorEq, beq_false, beq_true, hP, hm, hk, hlt, hlt2, hw]); (first | done | exact rfl)))     | ((first | apply T_sd fw (by rw [hP]; rfl) | apply T_dr fw (by rw [hP]; rfl)); · ((try simp only [go_sem, seval, reduceIte, ↓reduceIte, bne, beq_false, beq_true, Bool.not_eq_true, Bool.if_true_right, decide_not, reduceCtorEq, hP, hm, hk, hlt, hlt2, hw]); (first | done | exact rfl)))     | refine T_seq ?_ | refine T_block ?_ | refine T_scopeJ 0 rfl ?_ | refine T_scope ?_ | refine T_goto ?_ | refine T_ret ?_ | refine T_skip ?_ | refine T_exit ?_ | refine T_label ?_     | refine T_condT rfl ?_ | refine T_condF rfl ?_     | refine T_condD rfl (fun _ => ?_) (fun _ => ?_)     | refine T_cond rfl (fun _ => ?_) (fun _ => ?_))
        · rename_i h2
          have h2 : (!(m == k)) = true := h2
          rw [if_pos h2] at hc
          exact ends_ret rfl rfl rfl (by simp only [resD, sameL]; rw [if_neg (by rw [h]; simp), ← hc])
        · rename_i h2
          have h2 : (!(m == k)) = false := h2
          rw [if_neg (by rw [h2]; simp)] at hc
          exact rnd_next hlt () hc (.refl _ _)
      · omega
    · rw [hd] at hc
      refine go trivial trivial ?_
      simp only [eqL] at hc
      exact ends_ret rfl rfl rfl (by simp only [resD, sameL]; rw [if_neg (by rw [h]; simp), ← hc])
end Go.AM

namespace Go.AM
open Go Go.Proofs
set_option maxRecDepth 100000
set_option maxHeartbeats 4000000

def fewT (s d : List Int) : Bool := decide (s.length ≤ 100) && decide (d.length ≤ 100)
theorem p_ref03_Few (s d : List Int) : PureC Tryz.prog fi_fullerref03_Few [dT s d] (dB (fewT s d)) := by
  refine pure_fullerref03_Few (by simp) fun G hP hn => ?_
  unfold a_fullerref03_Few
  repeat' (first     | refine T_then ?_ | refine then_ret ?_ | refine then_exit ?_ | refine then_goto ?_     | refine rnd_exit ?_ | refine rnd_ret ?_ | refine rnd_goto ?_     | refine noGo_normal ?_ | refine noGo_ret ?_ | refine noGo_exit ?_ | refine jmp_normal ?_ | refine jmp_ret ?_ | refine jmp_exit ?_ | refine jmp_goto ?_     | refine inB_normal ?_ | refine inB_ret ?_ | refine inB_goto ?_ | refine inB_exit ?_ | refine inB_exit_ne rfl ?_     | ((first | apply T_sr fw | apply T_reg fw); · ((try simp only [go_sem, seval, reduceIte, ↓reduceIte, hP]); (repeat ((first       | (refine ⟨true, false, rfl, fun h => absurd h (by decide), ?_⟩) | (refine ⟨false, false, rfl, fun h => absurd h (by decide), ?_⟩) | refine ⟨_, _, rfl, fun _ => rfl, ?_⟩); (try simp only [go_sem, seval, reduceIte, ↓reduceIte, hP]))); (first | done | exact rfl)))     | ((first | apply T_sdF fw (by rw [hP]; rfl) (by decide +kernel) | apply T_drF fw (by rw [hP]; rfl) (by decide +kernel)); · ((try simp only [TOps.flat, List.cons_append, List.nil_append]); (repeat ((first | refine Y_g0 ?_ | refine Y_g (by (try simp only [go_sem, seval, reduceIte, ↓reduceIte, Bool.not_eq_true, reduceCtorEq, beq_false, beq_true, hP]); (first | done | exact rfl)) ?_); (first | refine Y_skip ?_ | ((first | apply Y_q); (· ((try simp only [go_sem, seval, reduceIte, ↓reduceIte, Bool.not_eq_true, reduceCtorEq, beq_false, beq_true, hP]); (first | done | exact rfl))))))); apply RunF_nil; (try simp only [go_sem, seval, reduceIte, ↓reduceIte, Bool.not_eq_true, reduceCtorEq, beq_false, beq_true, hP]); (first | done | exact rfl)))     | ((first | apply T_sd fw (by rw [hP]; rfl) | apply T_dr fw (by rw [hP]; rfl)); · ((try simp only [go_sem, seval, reduceIte, ↓reduceIte, bne, beq_false, beq_true, Bool.not_eq_true, Bool.if_true_right, decide_not, reduceCtorEq, hP]); (first | done | exact rfl)))     | refine T_seq ?_ | refine T_block ?_ | refine T_scopeJ 0 rfl ?_ | refine T_scope ?_ | refine T_goto ?_ | refine T_ret ?_ | refine T_skip ?_ | refine T_exit ?_ | refine T_label ?_     | refine T_condT rfl ?_ | refine T_condF rfl ?_     | refine T_condD rfl (fun _ => ?_) (fun _ => ?_)     | refine T_cond rfl (fun _ => ?_) (fun _ => ?_))
  exact ends_ret rfl rfl rfl (by simp only [resD, fewT]; congr 3 <;> exact decide_eq_decide.2 (by omega))
end Go.AM

namespace Go.AM
open Go Go.Proofs
set_option maxRecDepth 100000
set_option maxHeartbeats 4000000

def I64 (n : Int) : Prop := -9223372036854775808 ≤ n ∧ n < 9223372036854775808
instance (n : Int) : Decidable (I64 n) := by unfold I64; exact inferInstance
abbrev dU (n : Nat) : DV := .one (.int .u64 (n : Int))
theorem w64_eq (n : Int) : IntKind.i64.wrap n = if n % 18446744073709551616 ≥ 9223372036854775808 then n % 18446744073709551616 - 18446744073709551616 else n % 18446744073709551616 := by
  simp only [IntKind.wrap, IntKind.bits, IntKind.signed]
  simp
theorem u64_eq (n : Int) : IntKind.u64.wrap n = n % 18446744073709551616 := by
  simp only [IntKind.wrap, IntKind.bits, IntKind.signed]
  simp
theorem u64_in {n : Int} (h0 : 0 ≤ n) (h1 : n < 18446744073709551616) : IntKind.u64.wrap n = n := by
  rw [u64_eq]; omega
theorem u64_nat {n : Nat} (h1 : n < 18446744073709551616) : IntKind.u64.wrap (n : Int) = (n : Int) := u64_in (by omega) (by omega)
theorem u64_and {x : Nat} (hx : x < 18446744073709551616) : andZ .u64 (x : Int) 4294967295 = ((x % 4294967296 : Nat) : Int) := by
  unfold andZ
  have e1 : (BitVec.ofInt IntKind.u64.bits (x : Int) &&& BitVec.ofInt IntKind.u64.bits 4294967295).toNat = x % 4294967296 := by
    rw [BitVec.toNat_and]
    have h2 : (BitVec.ofInt IntKind.u64.bits (x : Int)).toNat = x := by
      show (BitVec.ofInt 64 (x : Int)).toNat = x
      rw [BitVec.toNat_ofInt]; omega
    have h3 : (BitVec.ofInt IntKind.u64.bits 4294967295).toNat = 2 ^ 32 - 1 := by decide
    rw [h2, h3, Nat.and_two_pow_sub_one_eq_mod]
  rw [e1, u64_nat (by omega)]
theorem u64_or {x y : Nat} (hx : x < 4294967296) (hy : y < 4294967296) : orZ .u64 ((x * 4294967296 : Nat) : Int) (y : Int) = ((x * 4294967296 + y : Nat) : Int) := by
  unfold orZ
  have e1 : (BitVec.ofInt IntKind.u64.bits ((x * 4294967296 : Nat) : Int) ||| BitVec.ofInt IntKind.u64.bits (y : Int)).toNat = x * 4294967296 + y := by
    rw [BitVec.toNat_or]
    have h2 : (BitVec.ofInt IntKind.u64.bits ((x * 4294967296 : Nat) : Int)).toNat = x * 4294967296 := by
      show (BitVec.ofInt 64 _).toNat = _
      rw [BitVec.toNat_ofInt]; omega
    have h3 : (BitVec.ofInt IntKind.u64.bits (y : Int)).toNat = y := by
      show (BitVec.ofInt 64 _).toNat = _
      rw [BitVec.toNat_ofInt]; omega
    rw [h2, h3]
    have := Nat.shiftLeft_add_eq_or_of_lt (i := 32) (b := y) (by omega) x
    rw [Nat.shiftLeft_eq] at this
    exact this.symm
  rw [e1, u64_nat (by omega)]
theorem shr32 (x : Nat) : shrZ .u64 (x : Int) 32 = ((x / 4294967296 : Nat) : Int) := by
  unfold shrZ
  have : (2 : Int) ^ (min (32 : Int).toNat IntKind.u64.bits) = 4294967296 := by decide
  rw [this, Int.fdiv_eq_ediv_of_nonneg _ (by decide)]
  omega
theorem shl32 (x : Nat) : shlZ .u64 (x : Int) 32 = ((x % 4294967296 * 4294967296 : Nat) : Int) := by
  unfold shlZ
  have : (2 : Int) ^ (min (32 : Int).toNat IntKind.u64.bits) = 4294967296 := by decide
  rw [this, u64_eq]
  omega
def rng (n : Int) : Int × Int := if I64 n then (n, 0) else (0, 10)
def fAdd (a b : Int) : Int × Int := rng (a + b)
def fSub (a b : Int) : Int × Int := rng (a - b)
def fNeg (a : Int) : Int × Int := rng (0 - a)
def fMul (a b : Int) : Int × Int := rng (a * b / 4294967296)
theorem rng_in {n : Int} (h : I64 n) : rng n = (n, 0) := if_pos h
theorem rng_out {n : Int} (h : ¬ I64 n) : rng n = (0, 10) := if_neg h
theorem rng_range (n : Int) : I64 (rng n).1 := by
  by_cases h : I64 n
  · rw [rng_in h]; exact h
  · rw [rng_out h]; exact ⟨by decide, by decide⟩
theorem p_fix_told (n : Int) (b : Bool) : PureC Tryz.prog fi_fix_told [dN n, dB b] (dNE (if b then (n, 0) else (0, 10))) := by
  refine pure_fix_told (by simp) fun G hP hn => ?_
  unfold a_fix_told
  cases b
  · refine go trivial trivial ?_
    exact ends_ret rfl rfl rfl rfl
  · refine go trivial trivial ?_
    exact ends_ret rfl rfl rfl rfl
theorem p_fix_Add {a b : Int} (ha : I64 a) (hb : I64 b) : PureC Tryz.prog fi_fix_Add [dN a, dN b] (dNE (fAdd a b)) := by
  refine pure_fix_Add (by simp) fun G hP hn => ?_
  unfold a_fix_Add
  have hw := w64_eq (a + b)
  unfold I64 at ha hb
  have k1 : I64 (a + b) → fAdd a b = (IntKind.i64.wrap (a + b), 0) := fun h => by
    rw [wrap_in h.1 h.2]; exact rng_in h
  have k2 : ¬ I64 (a + b) → fAdd a b = (0, 10) := fun h => by
    exact rng_out h
  unfold I64 at k1 k2
  by_cases h1 : a < 0 <;> by_cases h2 : b < 0 <;> by_cases h3 : IntKind.i64.wrap (a + b) < 0
  all_goals
    refine go (aa h1 <| aa h2 h3) @p_fix_told ?_
    exact ends_ret rfl rfl rfl (by
      simp only [resD]
      first
        | (rw [k1 (by split at hw <;> omega)]; done)
        | (rw [k2 (by split at hw <;> omega)]; done)
        | (rw [k1 (by split at hw <;> omega)]; rfl)
        | (rw [k2 (by split at hw <;> omega)]; rfl))
theorem p_fix_size {a : Int} (ha : I64 a) : PureC Tryz.prog fi_fix_size [dN a] (dU a.natAbs) := by
  refine pure_fix_size (by simp) fun G hP hn => ?_
  unfold a_fix_size
  unfold I64 at ha
  by_cases h1 : a < 0
  · have w : IntKind.u64.wrap (0 - IntKind.u64.wrap a) = (a.natAbs : Int) := by rw [u64_eq a, u64_eq]; omega
    refine go (aa h1 @w) trivial ?_
    exact ends_ret rfl rfl rfl rfl
  · have w : IntKind.u64.wrap a = (a.natAbs : Int) := by rw [u64_eq a]; omega
    refine go (aa h1 @w) trivial ?_
    exact ends_ret rfl rfl rfl rfl
def apart (a b : Int) : Bool := decide (a ≠ 0) && (decide (b ≠ 0) && (decide (a < 0) != decide (b < 0)))
theorem p_fix_apart (a b : Int) : PureC Tryz.prog fi_fix_apart [dN a, dN b] (dB (apart a b)) := by
  refine pure_fix_apart (by simp) fun G hP hn => ?_
  unfold a_fix_apart
  by_cases h1 : a = 0
  · have h1' : (a != 0) = false := by simp [h1]
    refine go h1' trivial ?_
    exact ends_ret rfl rfl rfl (by simp [resD, apart, h1])
  · have h1' : (a != 0) = true := by simp [h1]
    by_cases h2 : b = 0
    · have h2' : (b != 0) = false := by simp [h2]
      refine go (aa h1' h2') trivial ?_
      exact ends_ret rfl rfl rfl (by simp [resD, apart, h2])
    · have h2' : (b != 0) = true := by simp [h2]
      by_cases h3 : a < 0 <;> by_cases h4 : b < 0
      all_goals
        refine go (aa h1' <| aa h2' <| aa h3 h4) trivial ?_
        exact ends_ret rfl rfl rfl (by simp [resD, apart, h1, h2, h3, h4])
end Go.AM

namespace Go.AM
open Go Go.Proofs
set_option maxRecDepth 100000
set_option maxHeartbeats 4000000

abbrev dUU (a b : Nat) : DV := .tup [dU a, dU b]
theorem p_bits_Mul64 {x y : Nat} (hx : x < 18446744073709551616) (hy : y < 18446744073709551616) : PureC Tryz.prog fi_math_bits_Mul64 [dU x, dU y] (dUU (x * y / 18446744073709551616) (x * y % 18446744073709551616)) := by
  refine pure_math_bits_Mul64 (by simp) fun G hP hn => ?_
  unfold a_math_bits_Mul64
  obtain ⟨l1, l2, l3, l4⟩ := Lib.mul64_hi x y hx hy
  have lq := Lib.half_mul_le (a := x / 4294967296) (b := y % 4294967296) (by omega) (by omega)
  have lr := Lib.half_mul_le (a := x % 4294967296) (b := y / 4294967296) (by omega) (by omega)
  have lp := Lib.half_mul_le (a := x / 4294967296) (b := y / 4294967296) (by omega) (by omega)
  have a1 := u64_and hx
  have a2 := u64_and hy
  have m1 : IntKind.u64.wrap (((x % 4294967296 : Nat) : Int) * ((y % 4294967296 : Nat) : Int)) = ((x % 4294967296 * (y % 4294967296) : Nat) : Int) := by rw [← Int.natCast_mul, u64_nat l1]
  have m2 : IntKind.u64.wrap (((x / 4294967296 : Nat) : Int) * ((y % 4294967296 : Nat) : Int)) = ((x / 4294967296 * (y % 4294967296) : Nat) : Int) := by rw [← Int.natCast_mul, u64_nat (by omega)]
  have m3 : IntKind.u64.wrap (((x % 4294967296 : Nat) : Int) * ((y / 4294967296 : Nat) : Int)) = ((x % 4294967296 * (y / 4294967296) : Nat) : Int) := by rw [← Int.natCast_mul, u64_nat (by omega)]
  have m4 : IntKind.u64.wrap (((x / 4294967296 : Nat) : Int) * ((y / 4294967296 : Nat) : Int)) = ((x / 4294967296 * (y / 4294967296) : Nat) : Int) := by rw [← Int.natCast_mul, u64_nat (by omega)]
  have m5 : IntKind.u64.wrap ((x : Int) * (y : Int)) = ((x * y % 18446744073709551616 : Nat) : Int) := by rw [← Int.natCast_mul, u64_eq]; omega
  have hh : x * y / 18446744073709551616 < 18446744073709551616 := by
    have : x * y ≤ 18446744073709551615 * 18446744073709551615 := Nat.mul_le_mul (by omega) (by omega)
    omega
  generalize x % 4294967296 * (y % 4294967296) = p0 at *
  generalize x / 4294967296 * (y % 4294967296) = p1 at *
  generalize x % 4294967296 * (y / 4294967296) = p2 at *
  generalize x / 4294967296 * (y / 4294967296) = p3 at *
  have s1 : IntKind.u64.wrap ((p1 : Int) + ((p0 / 4294967296 : Nat) : Int)) = ((p1 + p0 / 4294967296 : Nat) : Int) := by rw [← Int.natCast_add, u64_nat l2]
  have a3 := u64_and l2
  have s2 : IntKind.u64.wrap ((((p1 + p0 / 4294967296) % 4294967296 : Nat) : Int) + (p2 : Int)) = (((p1 + p0 / 4294967296) % 4294967296 + p2 : Nat) : Int) := by rw [← Int.natCast_add, u64_nat l3]
  have s3 : IntKind.u64.wrap ((p3 : Int) + (((p1 + p0 / 4294967296) / 4294967296 : Nat) : Int)) = ((p3 + (p1 + p0 / 4294967296) / 4294967296 : Nat) : Int) := by rw [← Int.natCast_add, u64_nat (by omega)]
  have s4 : IntKind.u64.wrap (((p3 + (p1 + p0 / 4294967296) / 4294967296 : Nat) : Int) + ((((p1 + p0 / 4294967296) % 4294967296 + p2) / 4294967296 : Nat) : Int)) = ((x * y / 18446744073709551616 : Nat) : Int) := by
    rw [← Int.natCast_add, l4, u64_nat hh]
  refine go (aa a1 <| aa a2 <| aa a3 <| aa @shr32 <| aa m1 <| aa m2 <| aa m3 <| aa m4 <| aa m5 <| aa s1 <| aa s2 <| aa s3 s4) trivial ?_
  exact ends_ret rfl rfl rfl rfl
def sgn (v : Nat) (rest below : Bool) : Int := if below then -((v : Int) + (if rest then 1 else 0)) else v
theorem m_signed_1 (t h l : Nat) (hl : l < 18446744073709551616) (hh : h < 18446744073709551615) : MutC Tryz.prog fi_fix_wide_signed_1 [.one (.ptr t 0 1 0)] [(t, .arr true 1 [[.int .u64 (h : Int)], [.int .u64 (l : Int)]])] (.tup [])
    [(t, .arr true 1 [[.int .u64 (((h * 18446744073709551616 + l + 1) / 18446744073709551616 : Nat) : Int)], [.int .u64 (((h * 18446744073709551616 + l + 1) % 18446744073709551616 : Nat) : Int)]])] [] := by
  refine mut_fix_wide_signed_1 (by simp) fun G ex hP hn hfr => ?_
  unfold a_fix_wide_signed_1
  have e1 : (l + 1) % 18446744073709551616 = (h * 18446744073709551616 + l + 1) % 18446744073709551616 := by omega
  have e2 : IntKind.u64.wrap ((h : Int) + (((l + 1) / 18446744073709551616 : Nat) : Int)) = (((h * 18446744073709551616 + l + 1) / 18446744073709551616 : Nat) : Int) := by rw [u64_eq]; omega
  repeat' (first | apply T_then | apply then_ret | apply then_exit | apply then_goto | apply rnd_exit | apply rnd_ret | apply rnd_goto | apply noGo_normal | apply noGo_ret | apply noGo_exit | apply jmp_normal | apply jmp_ret | apply jmp_exit | apply jmp_goto | apply inB_normal | apply inB_ret | apply inB_goto | apply inB_exit | refine inB_exit_ne rfl ?_ | ((first | apply T_srK fw | apply T_regK fw); · ((try simp only [TOps.flat, List.cons_append, List.nil_append]); repeat (first | apply X_g0 | apply X_g | apply S_keep | apply X_skip | apply X_skipN | apply X_q | apply X_st | apply X_n | apply X_s | apply SKs0 | apply SKs2 | apply SKs1 | refine ⟨⟨rfl, rfl⟩, ?_⟩ | refine ⟨⟨rfl, ?_⟩, ?_⟩ | refine ⟨?_, ?_⟩ | (· (try simp only [go_sem, seval, reduceIte, ↓reduceIte, Bool.not_eq_true, reduceCtorEq, beq_false, beq_true, hn, hP, e1, e2, Int.toNat_one, Int.toNat_zero, Nat.reducePow]); first | done | rfl)))) | apply T_seq | apply T_block | refine T_scopeJ 0 rfl ?_ | apply T_scope | apply T_goto | apply T_ret | apply T_skip | apply T_exit | apply T_label | refine T_condT rfl ?_ | refine T_condF rfl ?_ | refine T_condD rfl (fun _ => ?_) (fun _ => ?_) | refine T_cond rfl (fun _ => ?_) (fun _ => ?_))
  exact endsM_normal rfl rfl rfl (by simp [lo]) rfl
end Go.AM

