import Derived.Test.YtphnlpfkenannaaGreatMwR9M919
set_option linter.unusedVariables false
set_option linter.unusedSimpArgs false
namespace Go.AM
open Go Go.Proofs
set_option maxRecDepth 100000
set_option maxHeartbeats 4000000

def gJ (s d t e : List Int) (a : Nat) (k : Int) (x : List Int) : Int :=
  if (x[a]?).getD 0 < k then (atF s d (x.set a (w64 ((x[a]?).getD 0 + 0)))).1 else (atF t e (x.set a (w64 ((x[a]?).getD 0 + w64 (0 - k))))).1
theorem made_joined (s d t e s' : List Int) (n : Nat) (k : Int) (hn : n < s'.length) (p : Nat) (hp : p < (sizeS s').toNat) :
    PureC Tryz.prog fi_move_Join_1 ([dI (idxF s' p)] ++ [PV.box [.int .i64 n], .box [.int .i64 k], .box [eI s, eI d], .box [eI t, eI e]].map .one) (dN (gJ s d t e n k (idxF s' p))) := by
  have h1 := idxF_len hp
  have h2 : (idxF s' (p : Int))[n]? = some (idxF s' (p : Int))[n] := List.getElem?_eq_getElem (by omega)
  have := p_move_Join_1 s d t e (idxF s' p) n _ k (by omega) h2
  simp only [gJ, h2, Option.getD_some]
  exact this
def joinF (s d t e : List Int) (a : Int) : (List Int × List Int) × Int :=
  if checkT s d = true ∧ checkT t e = true then
    if a < 0 ∨ a ≥ s.length ∨ s.length ≠ t.length ∨ sameL (s.set a.toNat ((t[a.toNat]?).getD 0)) t = false ∨ checkS (s.set a.toNat (w64 ((s[a.toNat]?).getD 0 + (t[a.toNat]?).getD 0))) = false then bad 20
    else ((s.set a.toNat (w64 ((s[a.toNat]?).getD 0 + (t[a.toNat]?).getD 0)), mk (s.set a.toNat (w64 ((s[a.toNat]?).getD 0 + (t[a.toNat]?).getD 0))) (gJ s d t e a.toNat ((s[a.toNat]?).getD 0))), 0)
  else bad 30
theorem joinc0 (s d t e : List Int) (a : Int) (hc : checkT s d = false) : PureC Tryz.prog fi_move_Join [dT s d, dT t e, dN a] (dTE (joinF s d t e a)) := by
  refine pure_move_Join (by simp) fun G hP hn => ?_
  unfold a_move_Join
  refine go hc @p_tensor_Check ?_
  exact ends_ret rfl rfl rfl (by simp [joinF, resD, hc, bad])
theorem joinc1 (s d t e : List Int) (a : Int) (hc : checkT s d = true) (hc2 : checkT t e = false) : PureC Tryz.prog fi_move_Join [dT s d, dT t e, dN a] (dTE (joinF s d t e a)) := by
  refine pure_move_Join (by simp) fun G hP hn => ?_
  unfold a_move_Join
  refine go (aa hc hc2) @p_tensor_Check ?_
  exact ends_ret rfl rfl rfl (by simp [joinF, resD, hc, hc2, bad])
theorem joinc2 (s d t e : List Int) (a : Int) (hc : checkT s d = true) (hc2 : checkT t e = true) (h1 : a < 0) : PureC Tryz.prog fi_move_Join [dT s d, dT t e, dN a] (dTE (joinF s d t e a)) := by
  refine pure_move_Join (by simp) fun G hP hn => ?_
  unfold a_move_Join
  refine go (aa hc <| aa hc2 h1) @p_tensor_Check ?_
  exact ends_ret rfl rfl rfl (by simp [joinF, resD, hc, hc2, bad, h1])
theorem joinc3 (s d t e : List Int) (n : Nat) (hc : checkT s d = true) (hc2 : checkT t e = true) (hl2 : s.length ≤ 2 ^ 36) (h1 : ¬ (n : Int) < 0) (h2 : ¬ n < s.length) (h2' : s.length ≤ n) : PureC Tryz.prog fi_move_Join [dT s d, dT t e, dN n] (dTE (joinF s d t e n)) := by
  refine pure_move_Join (by simp) fun G hP hn => ?_
  unfold a_move_Join
  repeat' (first     | refine T_then ?_ | refine then_ret ?_ | refine then_exit ?_ | refine then_goto ?_     | refine rnd_exit ?_ | refine rnd_ret ?_ | refine rnd_goto ?_     | refine noGo_normal ?_ | refine noGo_ret ?_ | refine noGo_exit ?_ | refine jmp_normal ?_ | refine jmp_ret ?_ | refine jmp_exit ?_ | refine jmp_goto ?_     | refine inB_normal ?_ | refine inB_ret ?_ | refine inB_goto ?_ | refine inB_exit ?_ | refine inB_exit_ne rfl ?_     | ((first | apply T_sr fw | apply T_reg fw); · ((try simp only [go_sem, seval, reduceIte, ↓reduceIte, hP, hc, hc2, h1, ge_iff_le, Int.ofNat_le, h2, h2']); (repeat ((first       | (refine ⟨true, false, rfl, fun h => absurd h (by decide), ?_⟩) | (refine ⟨false, false, rfl, fun h => absurd h (by decide), ?_⟩) | refine ⟨_, _, rfl, fun _ => rfl, ?_⟩       | (refine .inl ⟨_, _, ⟨_, _, _, _, _, _, rfl, rfl, rfl, p_tensor_Check _ _⟩, ?_⟩)       | (refine ⟨_, ?_, rfl, fun _ => ⟨_, ⟨_, _, _, _, _, _, rfl, rfl, rfl, p_tensor_Check _ _⟩, ?_⟩, ?_⟩; rotate_left; (· (simp only [go_sem, seval, reduceIte, ↓reduceIte, hP, hc, hc2, h1, ge_iff_le, Int.ofNat_le, h2, h2']; first | done | exact rfl)))); (try simp only [go_sem, seval, reduceIte, ↓reduceIte, hP, hc, hc2, h1, ge_iff_le, Int.ofNat_le, h2, h2']))); (first | done | exact rfl)))     | ((first | apply T_sdF fw (by rw [hP]; rfl) (by decide +kernel) | apply T_drF fw (by rw [hP]; rfl) (by decide +kernel)); · ((try simp only [TOps.flat, List.cons_append, List.nil_append]); (repeat ((first | refine Y_g0 ?_ | refine Y_g (by (try simp only [go_sem, seval, reduceIte, ↓reduceIte, Bool.not_eq_true, reduceCtorEq, beq_false, beq_true, hP, hc, hc2, h1, ge_iff_le, Int.ofNat_le, h2, h2']); (first | done | exact rfl)) ?_); (first | refine Y_skip ?_ | ((first | apply Y_q | (refine Y_call ⟨_, _, _, _, _, _, rfl, rfl, rfl, (by rw [hP]; exact p_tensor_Check _ _)⟩ ?_ ?_)); (· ((try simp only [go_sem, seval, reduceIte, ↓reduceIte, Bool.not_eq_true, reduceCtorEq, beq_false, beq_true, hP, hc, hc2, h1, ge_iff_le, Int.ofNat_le, h2, h2']); (first | done | exact rfl))))))); apply RunF_nil; (try simp only [go_sem, seval, reduceIte, ↓reduceIte, Bool.not_eq_true, reduceCtorEq, beq_false, beq_true, hP, hc, hc2, h1, ge_iff_le, Int.ofNat_le, h2, h2']); (first | done | exact rfl)))      | refine T_seq ?_ | refine T_block ?_ | refine T_scopeJ 0 rfl ?_ | refine T_scope ?_ | refine T_goto ?_ | refine T_ret ?_ | refine T_skip ?_ | refine T_exit ?_ | refine T_label ?_     | refine T_condT rfl ?_ | refine T_condF rfl ?_     | refine T_condD rfl (fun _ => ?_) (fun _ => ?_)     | refine T_cond rfl (fun _ => ?_) (fun _ => ?_))
  exact ends_ret rfl rfl rfl (by simp [joinF, resD, hc, hc2, bad, h2'])
theorem joinc4 (s d t e : List Int) (n : Nat) (hc : checkT s d = true) (hc2 : checkT t e = true) (hl2 : s.length ≤ 2 ^ 36) (h1 : ¬ (n : Int) < 0) (h2 : n < s.length) (h2' : ¬ s.length ≤ n) (hl : ¬ s.length = t.length) (hl' : ((s.length : Int) != (t.length : Int)) = true) : PureC Tryz.prog fi_move_Join [dT s d, dT t e, dN n] (dTE (joinF s d t e n)) := by
  refine pure_move_Join (by simp) fun G hP hn => ?_
  unfold a_move_Join
  repeat' (first     | refine T_then ?_ | refine then_ret ?_ | refine then_exit ?_ | refine then_goto ?_     | refine rnd_exit ?_ | refine rnd_ret ?_ | refine rnd_goto ?_     | refine noGo_normal ?_ | refine noGo_ret ?_ | refine noGo_exit ?_ | refine jmp_normal ?_ | refine jmp_ret ?_ | refine jmp_exit ?_ | refine jmp_goto ?_     | refine inB_normal ?_ | refine inB_ret ?_ | refine inB_goto ?_ | refine inB_exit ?_ | refine inB_exit_ne rfl ?_     | ((first | apply T_sr fw | apply T_reg fw); · ((try simp only [go_sem, seval, reduceIte, ↓reduceIte, hP, hc, hc2, h1, ge_iff_le, Int.ofNat_le, h2, h2', hl, hl']); (repeat ((first       | (refine ⟨true, false, rfl, fun h => absurd h (by decide), ?_⟩) | (refine ⟨false, false, rfl, fun h => absurd h (by decide), ?_⟩) | refine ⟨_, _, rfl, fun _ => rfl, ?_⟩       | (refine .inl ⟨_, _, ⟨_, _, _, _, _, _, rfl, rfl, rfl, p_tensor_Check _ _⟩, ?_⟩)       | (refine ⟨_, ?_, rfl, fun _ => ⟨_, ⟨_, _, _, _, _, _, rfl, rfl, rfl, p_tensor_Check _ _⟩, ?_⟩, ?_⟩; rotate_left; (· (simp only [go_sem, seval, reduceIte, ↓reduceIte, hP, hc, hc2, h1, ge_iff_le, Int.ofNat_le, h2, h2', hl, hl']; first | done | exact rfl)))); (try simp only [go_sem, seval, reduceIte, ↓reduceIte, hP, hc, hc2, h1, ge_iff_le, Int.ofNat_le, h2, h2', hl, hl']))); (first | done | exact rfl)))     | ((first | apply T_sdF fw (by rw [hP]; rfl) (by decide +kernel) | apply T_drF fw (by rw [hP]; rfl) (by decide +kernel)); · ((try simp only [TOps.flat, List.cons_append, List.nil_append]); (repeat ((first | refine Y_g0 ?_ | refine Y_g (by (try simp only [go_sem, seval, reduceIte, ↓reduceIte, Bool.not_eq_true, reduceCtorEq, beq_false, beq_true, hP, hc, hc2, h1, ge_iff_le, Int.ofNat_le, h2, h2', hl, hl']); (first | done | exact rfl)) ?_); (first | refine Y_skip ?_ | ((first | apply Y_q | (refine Y_call ⟨_, _, _, _, _, _, rfl, rfl, rfl, (by rw [hP]; exact p_tensor_Check _ _)⟩ ?_ ?_)); (· ((try simp only [go_sem, seval, reduceIte, ↓reduceIte, Bool.not_eq_true, reduceCtorEq, beq_false, beq_true, hP, hc, hc2, h1, ge_iff_le, Int.ofNat_le, h2, h2', hl, hl']); (first | done | exact rfl))))))); apply RunF_nil; (try simp only [go_sem, seval, reduceIte, ↓reduceIte, Bool.not_eq_true, reduceCtorEq, beq_false, beq_true, hP, hc, hc2, h1, ge_iff_le, Int.ofNat_le, h2, h2', hl, hl']); (first | done | exact rfl)))      | refine T_seq ?_ | refine T_block ?_ | refine T_scopeJ 0 rfl ?_ | refine T_scope ?_ | refine T_goto ?_ | refine T_ret ?_ | refine T_skip ?_ | refine T_exit ?_ | refine T_label ?_     | refine T_condT rfl ?_ | refine T_condF rfl ?_     | refine T_condD rfl (fun _ => ?_) (fun _ => ?_)     | refine T_cond rfl (fun _ => ?_) (fun _ => ?_))
  exact ends_ret rfl rfl rfl (by simp [joinF, resD, hc, hc2, bad, hl])
theorem joinc5 (s d t e : List Int) (n : Nat) (hc : checkT s d = true) (hc2 : checkT t e = true) (hl2 : s.length ≤ 2 ^ 36) (h1 : ¬ (n : Int) < 0) (h2 : n < s.length) (h2' : ¬ s.length ≤ n) (hl : s.length = t.length) (h5 : n < t.length) (k m : Int) (hx : s[n]? = some k) (hy : t[n]? = some m) (hq : sameL (s.set n m) t = false) : PureC Tryz.prog fi_move_Join [dT s d, dT t e, dN n] (dTE (joinF s d t e n)) := by
  refine pure_move_Join (by simp) fun G hP hn => ?_
  have hb : ((s.length : Int) != (t.length : Int)) = false := by rw [hl]; simp
  unfold a_move_Join
  repeat' (first     | refine T_then ?_ | refine then_ret ?_ | refine then_exit ?_ | refine then_goto ?_     | refine rnd_exit ?_ | refine rnd_ret ?_ | refine rnd_goto ?_     | refine noGo_normal ?_ | refine noGo_ret ?_ | refine noGo_exit ?_ | refine jmp_normal ?_ | refine jmp_ret ?_ | refine jmp_exit ?_ | refine jmp_goto ?_     | refine inB_normal ?_ | refine inB_ret ?_ | refine inB_goto ?_ | refine inB_exit ?_ | refine inB_exit_ne rfl ?_     | ((first | apply T_sr fw | apply T_reg fw); · ((try simp only [go_sem, seval, reduceIte, ↓reduceIte, hP, hc, hc2, h1, ge_iff_le, Int.ofNat_le, h2, h2', hb, h5, hx, hy, hq]); (repeat ((first       | (refine ⟨true, false, rfl, fun h => absurd h (by decide), ?_⟩) | (refine ⟨false, false, rfl, fun h => absurd h (by decide), ?_⟩) | refine ⟨_, _, rfl, fun _ => rfl, ?_⟩       | (refine .inl ⟨_, _, ⟨_, _, _, _, _, _, rfl, rfl, rfl, p_tensor_Check _ _⟩, ?_⟩)       | (refine .inl ⟨_, _, ⟨_, _, _, _, _, _, rfl, rfl, rfl, p_move_sided s n m hl2 h2⟩, ?_⟩)       | (refine .inl ⟨_, _, ⟨_, _, _, _, _, _, rfl, rfl, rfl, p_slices_Equal _ _⟩, ?_⟩)       | (refine ⟨_, ?_, rfl, fun _ => ⟨_, ⟨_, _, _, _, _, _, rfl, rfl, rfl, p_tensor_Check _ _⟩, ?_⟩, ?_⟩; rotate_left; (· (simp only [go_sem, seval, reduceIte, ↓reduceIte, hP, hc, hc2, h1, ge_iff_le, Int.ofNat_le, h2, h2', hb, h5, hx, hy, hq]; first | done | exact rfl)))       | (refine ⟨_, ?_, rfl, fun _ => ⟨_, ⟨_, _, _, _, _, _, rfl, rfl, rfl, p_move_sided s n m hl2 h2⟩, ?_⟩, ?_⟩; rotate_left; (· (simp only [go_sem, seval, reduceIte, ↓reduceIte, hP, hc, hc2, h1, ge_iff_le, Int.ofNat_le, h2, h2', hb, h5, hx, hy, hq]; first | done | exact rfl)))       | (refine ⟨_, ?_, rfl, fun _ => ⟨_, ⟨_, _, _, _, _, _, rfl, rfl, rfl, p_slices_Equal _ _⟩, ?_⟩, ?_⟩; rotate_left; (· (simp only [go_sem, seval, reduceIte, ↓reduceIte, hP, hc, hc2, h1, ge_iff_le, Int.ofNat_le, h2, h2', hb, h5, hx, hy, hq]; first | done | exact rfl)))); (try simp only [go_sem, seval, reduceIte, ↓reduceIte, hP, hc, hc2, h1, ge_iff_le, Int.ofNat_le, h2, h2', hb, h5, hx, hy, hq]))); (first | done | exact rfl)))     | ((first | apply T_sdF fw (by rw [hP]; rfl) (by decide +kernel) | apply T_drF fw (by rw [hP]; rfl) (by decide +kernel)); · ((try simp only [TOps.flat, List.cons_append, List.nil_append]); (repeat ((first | refine Y_g0 ?_ | refine Y_g (by (try simp only [go_sem, seval, reduceIte, ↓reduceIte, Bool.not_eq_true, reduceCtorEq, beq_false, beq_true, hP, hc, hc2, h1, ge_iff_le, Int.ofNat_le, h2, h2', hb, h5, hx, hy, hq]); (first | done | exact rfl)) ?_); (first | refine Y_skip ?_ | ((first | apply Y_q | (refine Y_call ⟨_, _, _, _, _, _, rfl, rfl, rfl, (by rw [hP]; exact p_tensor_Check _ _)⟩ ?_ ?_) | (refine Y_call ⟨_, _, _, _, _, _, rfl, rfl, rfl, (by rw [hP]; exact p_move_sided s n m hl2 h2)⟩ ?_ ?_) | (refine Y_call ⟨_, _, _, _, _, _, rfl, rfl, rfl, (by rw [hP]; exact p_slices_Equal _ _)⟩ ?_ ?_)); (· ((try simp only [go_sem, seval, reduceIte, ↓reduceIte, Bool.not_eq_true, reduceCtorEq, beq_false, beq_true, hP, hc, hc2, h1, ge_iff_le, Int.ofNat_le, h2, h2', hb, h5, hx, hy, hq]); (first | done | exact rfl))))))); apply RunF_nil; (try simp only [go_sem, seval, reduceIte, ↓reduceIte, Bool.not_eq_true, reduceCtorEq, beq_false, beq_true, hP, hc, hc2, h1, ge_iff_le, Int.ofNat_le, h2, h2', hb, h5, hx, hy, hq]); (first | done | exact rfl)))      | refine T_seq ?_ | refine T_block ?_ | refine T_scopeJ 0 rfl ?_ | refine T_scope ?_ | refine T_goto ?_ | refine T_ret ?_ | refine T_skip ?_ | refine T_exit ?_ | refine T_label ?_     | refine T_condT rfl ?_ | refine T_condF rfl ?_     | refine T_condD rfl (fun _ => ?_) (fun _ => ?_)     | refine T_cond rfl (fun _ => ?_) (fun _ => ?_))
  exact ends_ret rfl rfl rfl (by simp [joinF, resD, hc, hc2, bad, hl, hy, hq])
theorem joinc6 (s d t e : List Int) (n : Nat) (hc : checkT s d = true) (hc2 : checkT t e = true) (hl2 : s.length ≤ 2 ^ 36) (h1 : ¬ (n : Int) < 0) (h2 : n < s.length) (h2' : ¬ s.length ≤ n) (hl : s.length = t.length) (h5 : n < t.length) (k m : Int) (hx : s[n]? = some k) (hy : t[n]? = some m) (hq : sameL (s.set n m) t = true) (hz : checkS (s.set n (w64 (k + m))) = false) : PureC Tryz.prog fi_move_Join [dT s d, dT t e, dN n] (dTE (joinF s d t e n)) := by
  refine pure_move_Join (by simp) fun G hP hn => ?_
  have hb : ((s.length : Int) != (t.length : Int)) = false := by rw [hl]; simp
  unfold a_move_Join
  repeat' (first     | refine T_then ?_ | refine then_ret ?_ | refine then_exit ?_ | refine then_goto ?_     | refine rnd_exit ?_ | refine rnd_ret ?_ | refine rnd_goto ?_     | refine noGo_normal ?_ | refine noGo_ret ?_ | refine noGo_exit ?_ | refine jmp_normal ?_ | refine jmp_ret ?_ | refine jmp_exit ?_ | refine jmp_goto ?_     | refine inB_normal ?_ | refine inB_ret ?_ | refine inB_goto ?_ | refine inB_exit ?_ | refine inB_exit_ne rfl ?_     | ((first | apply T_sr fw | apply T_reg fw); · ((try simp only [go_sem, seval, reduceIte, ↓reduceIte, hP, hc, hc2, h1, ge_iff_le, Int.ofNat_le, h2, h2', hb, h5, hx, hy, hq, hz]); (repeat ((first       | (refine ⟨true, false, rfl, fun h => absurd h (by decide), ?_⟩) | (refine ⟨false, false, rfl, fun h => absurd h (by decide), ?_⟩) | refine ⟨_, _, rfl, fun _ => rfl, ?_⟩       | (refine .inl ⟨_, _, ⟨_, _, _, _, _, _, rfl, rfl, rfl, p_tensor_Check _ _⟩, ?_⟩)       | (refine .inl ⟨_, _, ⟨_, _, _, _, _, _, rfl, rfl, rfl, p_move_sided s n m hl2 h2⟩, ?_⟩)       | (refine .inl ⟨_, _, ⟨_, _, _, _, _, _, rfl, rfl, rfl, p_slices_Equal _ _⟩, ?_⟩)       | (refine .inl ⟨_, _, ⟨_, _, _, _, _, _, rfl, rfl, rfl, p_move_sided s n (w64 (k + m)) hl2 h2⟩, ?_⟩)       | (refine .inl ⟨_, _, ⟨_, _, _, _, _, _, rfl, rfl, rfl, p_shape_Check _⟩, ?_⟩)       | (refine ⟨_, ?_, rfl, fun _ => ⟨_, ⟨_, _, _, _, _, _, rfl, rfl, rfl, p_tensor_Check _ _⟩, ?_⟩, ?_⟩; rotate_left; (· (simp only [go_sem, seval, reduceIte, ↓reduceIte, hP, hc, hc2, h1, ge_iff_le, Int.ofNat_le, h2, h2', hb, h5, hx, hy, hq, hz]; first | done | exact rfl)))       | (refine ⟨_, ?_, rfl, fun _ => ⟨_, ⟨_, _, _, _, _, _, rfl, rfl, rfl, p_move_sided s n m hl2 h2⟩, ?_⟩, ?_⟩; rotate_left; (· (simp only [go_sem, seval, reduceIte, ↓reduceIte, hP, hc, hc2, h1, ge_iff_le, Int.ofNat_le, h2, h2', hb, h5, hx, hy, hq, hz]; first | done | exact rfl)))       | (refine ⟨_, ?_, rfl, fun _ => ⟨_, ⟨_, _, _, _, _, _, rfl, rfl, rfl, p_slices_Equal _ _⟩, ?_⟩, ?_⟩; rotate_left; (· (simp only [go_sem, seval, reduceIte, ↓reduceIte, hP, hc, hc2, h1, ge_iff_le, Int.ofNat_le, h2, h2', hb, h5, hx, hy, hq, hz]; first | done | exact rfl)))       | (refine ⟨_, ?_, rfl, fun _ => ⟨_, ⟨_, _, _, _, _, _, rfl, rfl, rfl, p_move_sided s n (w64 (k + m)) hl2 h2⟩, ?_⟩, ?_⟩; rotate_left; (· (simp only [go_sem, seval, reduceIte, ↓reduceIte, hP, hc, hc2, h1, ge_iff_le, Int.ofNat_le, h2, h2', hb, h5, hx, hy, hq, hz]; first | done | exact rfl)))       | (refine ⟨_, ?_, rfl, fun _ => ⟨_, ⟨_, _, _, _, _, _, rfl, rfl, rfl, p_shape_Check _⟩, ?_⟩, ?_⟩; rotate_left; (· (simp only [go_sem, seval, reduceIte, ↓reduceIte, hP, hc, hc2, h1, ge_iff_le, Int.ofNat_le, h2, h2', hb, h5, hx, hy, hq, hz]; first | done | exact rfl)))); (try simp only [go_sem, seval, reduceIte, ↓reduceIte, hP, hc, hc2, h1, ge_iff_le, Int.ofNat_le, h2, h2', hb, h5, hx, hy, hq, hz]))); (first | done | exact rfl)))     | ((first | apply T_sdF fw (by rw [hP]; rfl) (by decide +kernel) | apply T_drF fw (by rw [hP]; rfl) (by decide +kernel)); · ((try simp only [TOps.flat, List.cons_append, List.nil_append]); (repeat ((first | refine Y_g0 ?_ | refine Y_g (by (try simp only [go_sem, seval, reduceIte, ↓reduceIte, Bool.not_eq_true, reduceCtorEq, beq_false, beq_true, hP, hc, hc2, h1, ge_iff_le, Int.ofNat_le, h2, h2', hb, h5, hx, hy, hq, hz]); (first | done | exact rfl)) ?_); (first | refine Y_skip ?_ | ((first | apply Y_q | (refine Y_call ⟨_, _, _, _, _, _, rfl, rfl, rfl, (by rw [hP]; exact p_tensor_Check _ _)⟩ ?_ ?_) | (refine Y_call ⟨_, _, _, _, _, _, rfl, rfl, rfl, (by rw [hP]; exact p_move_sided s n m hl2 h2)⟩ ?_ ?_) | (refine Y_call ⟨_, _, _, _, _, _, rfl, rfl, rfl, (by rw [hP]; exact p_slices_Equal _ _)⟩ ?_ ?_) | (refine Y_call ⟨_, _, _, _, _, _, rfl, rfl, rfl, (by rw [hP]; exact p_move_sided s n (w64 (k + m)) hl2 h2)⟩ ?_ ?_) | (refine Y_call ⟨_, _, _, _, _, _, rfl, rfl, rfl, (by rw [hP]; exact p_shape_Check _)⟩ ?_ ?_)); (· ((try simp only [go_sem, seval, reduceIte, ↓reduceIte, Bool.not_eq_true, reduceCtorEq, beq_false, beq_true, hP, hc, hc2, h1, ge_iff_le, Int.ofNat_le, h2, h2', hb, h5, hx, hy, hq, hz]); (first | done | exact rfl))))))); apply RunF_nil; (try simp only [go_sem, seval, reduceIte, ↓reduceIte, Bool.not_eq_true, reduceCtorEq, beq_false, beq_true, hP, hc, hc2, h1, ge_iff_le, Int.ofNat_le, h2, h2', hb, h5, hx, hy, hq, hz]); (first | done | exact rfl)))      | refine T_seq ?_ | refine T_block ?_ | refine T_scopeJ 0 rfl ?_ | refine T_scope ?_ | refine T_goto ?_ | refine T_ret ?_ | refine T_skip ?_ | refine T_exit ?_ | refine T_label ?_     | refine T_condT rfl ?_ | refine T_condF rfl ?_     | refine T_condD rfl (fun _ => ?_) (fun _ => ?_)     | refine T_cond rfl (fun _ => ?_) (fun _ => ?_))
  exact ends_ret rfl rfl rfl (by simp [joinF, resD, hc, hc2, bad, hx, hy, hz])
theorem joinc7 (s d t e : List Int) (n : Nat) (hc : checkT s d = true) (hc2 : checkT t e = true) (hl2 : s.length ≤ 2 ^ 36) (h1 : ¬ (n : Int) < 0) (h2 : n < s.length) (h2' : ¬ s.length ≤ n) (hl : s.length = t.length) (h5 : n < t.length) (k m : Int) (hx : s[n]? = some k) (hy : t[n]? = some m) (hq : sameL (s.set n m) t = true) (hz : checkS (s.set n (w64 (k + m))) = true)
    (hm : PureC Tryz.prog fi_move_made [dI (s.set n (w64 (k + m))), .one (.fn fi_move_Join_1 [] [.box [.int .i64 n], .box [.int .i64 k], .box [eI s, eI d], .box [eI t, eI e]])] (.tup [dT (s.set n (w64 (k + m))) (mk (s.set n (w64 (k + m))) (gJ s d t e n k)), dN 0])) : PureC Tryz.prog fi_move_Join [dT s d, dT t e, dN n] (dTE (joinF s d t e n)) := by
  refine pure_move_Join (by simp) fun G hP hn => ?_
  have hb : ((s.length : Int) != (t.length : Int)) = false := by rw [hl]; simp
  unfold a_move_Join
  repeat' (first     | refine T_then ?_ | refine then_ret ?_ | refine then_exit ?_ | refine then_goto ?_     | refine rnd_exit ?_ | refine rnd_ret ?_ | refine rnd_goto ?_     | refine noGo_normal ?_ | refine noGo_ret ?_ | refine noGo_exit ?_ | refine jmp_normal ?_ | refine jmp_ret ?_ | refine jmp_exit ?_ | refine jmp_goto ?_     | refine inB_normal ?_ | refine inB_ret ?_ | refine inB_goto ?_ | refine inB_exit ?_ | refine inB_exit_ne rfl ?_     | ((first | apply T_sr fw | apply T_reg fw); · ((try simp only [go_sem, seval, reduceIte, ↓reduceIte, hP, hc, hc2, h1, ge_iff_le, Int.ofNat_le, h2, h2', hb, h5, hx, hy, hq, hz]); (repeat ((first       | (refine ⟨true, false, rfl, fun h => absurd h (by decide), ?_⟩) | (refine ⟨false, false, rfl, fun h => absurd h (by decide), ?_⟩) | refine ⟨_, _, rfl, fun _ => rfl, ?_⟩       | (refine .inl ⟨_, _, ⟨_, _, _, _, _, _, rfl, rfl, rfl, p_tensor_Check _ _⟩, ?_⟩)       | (refine .inl ⟨_, _, ⟨_, _, _, _, _, _, rfl, rfl, rfl, p_move_sided s n m hl2 h2⟩, ?_⟩)       | (refine .inl ⟨_, _, ⟨_, _, _, _, _, _, rfl, rfl, rfl, p_slices_Equal _ _⟩, ?_⟩)       | (refine .inl ⟨_, _, ⟨_, _, _, _, _, _, rfl, rfl, rfl, p_move_sided s n (w64 (k + m)) hl2 h2⟩, ?_⟩)       | (refine .inl ⟨_, _, ⟨_, _, _, _, _, _, rfl, rfl, rfl, p_shape_Check _⟩, ?_⟩)       | (refine .inl ⟨_, _, ⟨_, _, _, _, _, _, rfl, rfl, rfl, hm⟩, ?_⟩)       | (refine ⟨_, ?_, rfl, fun _ => ⟨_, ⟨_, _, _, _, _, _, rfl, rfl, rfl, p_tensor_Check _ _⟩, ?_⟩, ?_⟩; rotate_left; (· (simp only [go_sem, seval, reduceIte, ↓reduceIte, hP, hc, hc2, h1, ge_iff_le, Int.ofNat_le, h2, h2', hb, h5, hx, hy, hq, hz]; first | done | exact rfl)))       | (refine ⟨_, ?_, rfl, fun _ => ⟨_, ⟨_, _, _, _, _, _, rfl, rfl, rfl, p_move_sided s n m hl2 h2⟩, ?_⟩, ?_⟩; rotate_left; (· (simp only [go_sem, seval, reduceIte, ↓reduceIte, hP, hc, hc2, h1, ge_iff_le, Int.ofNat_le, h2, h2', hb, h5, hx, hy, hq, hz]; first | done | exact rfl)))       | (refine ⟨_, ?_, rfl, fun _ => ⟨_, ⟨_, _, _, _, _, _, rfl, rfl, rfl, p_slices_Equal _ _⟩, ?_⟩, ?_⟩; rotate_left; (· (simp only [go_sem, seval, reduceIte, ↓reduceIte, hP, hc, hc2, h1, ge_iff_le, Int.ofNat_le, h2, h2', hb, h5, hx, hy, hq, hz]; first | done | exact rfl)))       | (refine ⟨_, ?_, rfl, fun _ => ⟨_, ⟨_, _, _, _, _, _, rfl, rfl, rfl, p_move_sided s n (w64 (k + m)) hl2 h2⟩, ?_⟩, ?_⟩; rotate_left; (· (simp only [go_sem, seval, reduceIte, ↓reduceIte, hP, hc, hc2, h1, ge_iff_le, Int.ofNat_le, h2, h2', hb, h5, hx, hy, hq, hz]; first | done | exact rfl)))       | (refine ⟨_, ?_, rfl, fun _ => ⟨_, ⟨_, _, _, _, _, _, rfl, rfl, rfl, p_shape_Check _⟩, ?_⟩, ?_⟩; rotate_left; (· (simp only [go_sem, seval, reduceIte, ↓reduceIte, hP, hc, hc2, h1, ge_iff_le, Int.ofNat_le, h2, h2', hb, h5, hx, hy, hq, hz]; first | done | exact rfl)))       | (refine ⟨_, ?_, rfl, fun _ => ⟨_, ⟨_, _, _, _, _, _, rfl, rfl, rfl, hm⟩, ?_⟩, ?_⟩; rotate_left; (· (simp only [go_sem, seval, reduceIte, ↓reduceIte, hP, hc, hc2, h1, ge_iff_le, Int.ofNat_le, h2, h2', hb, h5, hx, hy, hq, hz]; first | done | exact rfl)))); (try simp only [go_sem, seval, reduceIte, ↓reduceIte, hP, hc, hc2, h1, ge_iff_le, Int.ofNat_le, h2, h2', hb, h5, hx, hy, hq, hz]))); (first | done | exact rfl)))     | ((first | apply T_sdF fw (by rw [hP]; rfl) (by decide +kernel) | apply T_drF fw (by rw [hP]; rfl) (by decide +kernel)); · ((try simp only [TOps.flat, List.cons_append, List.nil_append]); (repeat ((first | refine Y_g0 ?_ | refine Y_g (by (try simp only [go_sem, seval, reduceIte, ↓reduceIte, Bool.not_eq_true, reduceCtorEq, beq_false, beq_true, hP, hc, hc2, h1, ge_iff_le, Int.ofNat_le, h2, h2', hb, h5, hx, hy, hq, hz]); (first | done | exact rfl)) ?_); (first | refine Y_skip ?_ | ((first | apply Y_q | (refine Y_call ⟨_, _, _, _, _, _, rfl, rfl, rfl, (by rw [hP]; exact p_tensor_Check _ _)⟩ ?_ ?_) | (refine Y_call ⟨_, _, _, _, _, _, rfl, rfl, rfl, (by rw [hP]; exact p_move_sided s n m hl2 h2)⟩ ?_ ?_) | (refine Y_call ⟨_, _, _, _, _, _, rfl, rfl, rfl, (by rw [hP]; exact p_slices_Equal _ _)⟩ ?_ ?_) | (refine Y_call ⟨_, _, _, _, _, _, rfl, rfl, rfl, (by rw [hP]; exact p_move_sided s n (w64 (k + m)) hl2 h2)⟩ ?_ ?_) | (refine Y_call ⟨_, _, _, _, _, _, rfl, rfl, rfl, (by rw [hP]; exact p_shape_Check _)⟩ ?_ ?_) | (refine Y_call ⟨_, _, _, _, _, _, rfl, rfl, rfl, (by rw [hP]; exact hm)⟩ ?_ ?_)); (· ((try simp only [go_sem, seval, reduceIte, ↓reduceIte, Bool.not_eq_true, reduceCtorEq, beq_false, beq_true, hP, hc, hc2, h1, ge_iff_le, Int.ofNat_le, h2, h2', hb, h5, hx, hy, hq, hz]); (first | done | exact rfl))))))); apply RunF_nil; (try simp only [go_sem, seval, reduceIte, ↓reduceIte, Bool.not_eq_true, reduceCtorEq, beq_false, beq_true, hP, hc, hc2, h1, ge_iff_le, Int.ofNat_le, h2, h2', hb, h5, hx, hy, hq, hz]); (first | done | exact rfl)))      | refine T_seq ?_ | refine T_block ?_ | refine T_scopeJ 0 rfl ?_ | refine T_scope ?_ | refine T_goto ?_ | refine T_ret ?_ | refine T_skip ?_ | refine T_exit ?_ | refine T_label ?_     | refine T_condT rfl ?_ | refine T_condF rfl ?_     | refine T_condD rfl (fun _ => ?_) (fun _ => ?_)     | refine T_cond rfl (fun _ => ?_) (fun _ => ?_))
  exact ends_ret rfl rfl rfl (by simp [joinF, resD, hc, hc2, h1, show ¬ t.length ≤ n from by omega, hl, hx, hy, hq, hz])
theorem p_move_Join (s d t e : List Int) (a : Int) : PureC Tryz.prog fi_move_Join [dT s d, dT t e, dN a] (dTE (joinF s d t e a)) := by
  cases hc : checkT s d
  · exact joinc0 s d t e a hc
  · have hl := (checkT_iff.1 hc).1.1
    have hl2 : s.length ≤ 2 ^ 36 := by omega
    cases hc2 : checkT t e
    · exact joinc1 s d t e a hc hc2
    · by_cases h1 : a < 0
      · exact joinc2 s d t e a hc hc2 h1
      · obtain ⟨n, rfl⟩ := Int.eq_ofNat_of_zero_le (by omega : 0 ≤ a)
        by_cases h2 : n < s.length
        · have h2' : ¬ s.length ≤ n := by omega
          by_cases hl : s.length = t.length
          · have h5 : n < t.length := by omega
            have hx : s[n]? = some s[n] := List.getElem?_eq_getElem h2
            have hy : t[n]? = some t[n] := List.getElem?_eq_getElem h5
            cases hq : sameL (s.set n t[n]) t
            · exact joinc5 s d t e n hc hc2 hl2 h1 h2 h2' hl h5 _ _ hx hy hq
            · cases hz : checkS (s.set n (w64 (s[n] + t[n])))
              · exact joinc6 s d t e n hc hc2 hl2 h1 h2 h2' hl h5 _ _ hx hy hq hz
              · exact joinc7 s d t e n hc hc2 hl2 h1 h2 h2' hl h5 _ _ hx hy hq hz (p_move_made (s.set n (w64 (s[n] + t[n]))) fi_move_Join_1 [.box [.int .i64 n], .box [.int .i64 s[n]], .box [eI s, eI d], .box [eI t, eI e]] _ (made_joined s d t e _ n _ (by simpa using h2)))
          · exact joinc4 s d t e n hc hc2 hl2 h1 h2 h2' hl (by simp; omega)
        · exact joinc3 s d t e n hc hc2 hl2 h1 h2 (by omega)
end Go.AM

namespace Go.AM
open Go Go.Proofs
set_option maxRecDepth 100000
set_option maxHeartbeats 4000000

def fewT (s d : List Int) : Bool := decide (s.length ≤ 100) && decide (d.length ≤ 100)
theorem p_ref03_Few (s d : List Int) : PureC Tryz.prog fi_fullerref03_Few [dT s d] (dB (fewT s d)) := by
  refine pure_fullerref03_Few (by simp) fun G hP hn => ?_
  unfold a_fullerref03_Few
  repeat' (first     | refine T_then ?_ | refine then_ret ?_ | refine then_exit ?_ | refine then_goto ?_     | refine rnd_exit ?_ | refine rnd_ret ?_ | refine rnd_goto ?_     | refine noGo_normal ?_ | refine noGo_ret ?_ | refine noGo_exit ?_ | refine jmp_normal ?_ | refine jmp_ret ?_ | refine jmp_exit ?_ | refine jmp_goto ?_     | refine inB_normal ?_ | refine inB_ret ?_ | refine inB_goto ?_ | refine inB_exit ?_ | refine inB_exit_ne rfl ?_     | ((first | apply T_sr fw | apply T_reg fw); · ((try simp only [go_sem, seval, reduceIte, ↓reduceIte, hP]); (repeat ((first       | (refine ⟨true, false, rfl, fun h => absurd h (by decide), ?_⟩) | (refine ⟨false, false, rfl, fun h => absurd h (by decide), ?_⟩) | refine ⟨_, _, rfl, fun _ => rfl, ?_⟩); (try simp only [go_sem, seval, reduceIte, ↓reduceIte, hP]))); (first | done | exact rfl)))     | ((first | apply T_sdF fw (by rw [hP]; rfl) (by decide +kernel) | apply T_drF fw (by rw [hP]; rfl) (by decide +kernel)); · ((try simp only [TOps.flat, List.cons_append, List.nil_append]); (repeat ((first | refine Y_g0 ?_ | refine Y_g (by (try simp only [go_sem, seval, reduceIte, ↓reduceIte, Bool.not_eq_true, reduceCtorEq, beq_false, beq_true, hP]); (first | done | exact rfl)) ?_); (first | refine Y_skip ?_ | ((first | apply Y_q); (· ((try simp only [go_sem, seval, reduceIte, ↓reduceIte, Bool.not_eq_true, reduceCtorEq, beq_false, beq_true, hP]); (first | done | exact rfl))))))); apply RunF_nil; (try simp only [go_sem, seval, reduceIte, ↓reduceIte, Bool.not_eq_true, reduceCtorEq, beq_false, beq_true, hP]); (first | done | exact rfl)))     | ((first | apply T_sd fw (by rw [hP]; rfl) | apply T_dr fw (by rw [hP]; rfl)); · ((try simp only [go_sem, seval, reduceIte, ↓reduceIte, bne, beq_false, beq_true, Bool.not_eq_true, Bool.if_true_right, decide_not, reduceCtorEq, hP]); (first | done | exact rfl)))     | refine T_seq ?_ | refine T_block ?_ | refine T_scopeJ 0 rfl ?_ | refine T_scope ?_ | refine T_goto ?_ | refine T_ret ?_ | refine T_skip ?_ | refine T_exit ?_ | refine T_label ?_     | refine T_condT rfl ?_ | refine T_condF rfl ?_     | refine T_condD rfl (fun _ => ?_) (fun _ => ?_)     | refine T_cond rfl (fun _ => ?_) (fun _ => ?_))
  exact ends_ret rfl rfl rfl (by simp only [resD, fewT]; congr 3 <;> exact decide_eq_decide.2 (by omega))
def sameT (s d t e : List Int) : Bool := sameL s t && sameL d e
theorem p_ref03_Same (s d t e : List Int) : PureC Tryz.prog fi_fullerref03_Same [dT s d, dT t e] (dB (sameT s d t e)) := by
  refine pure_fullerref03_Same (by simp) fun G hP hn => ?_
  unfold a_fullerref03_Same
  repeat' (first     | refine T_then ?_ | refine then_ret ?_ | refine then_exit ?_ | refine then_goto ?_     | refine rnd_exit ?_ | refine rnd_ret ?_ | refine rnd_goto ?_     | refine noGo_normal ?_ | refine noGo_ret ?_ | refine noGo_exit ?_ | refine jmp_normal ?_ | refine jmp_ret ?_ | refine jmp_exit ?_ | refine jmp_goto ?_     | refine inB_normal ?_ | refine inB_ret ?_ | refine inB_goto ?_ | refine inB_exit ?_ | refine inB_exit_ne rfl ?_     | ((first | apply T_sr fw | apply T_reg fw); · ((try simp only [go_sem, seval, reduceIte, ↓reduceIte, hP]); (repeat ((first       | (refine ⟨true, false, rfl, fun h => absurd h (by decide), ?_⟩) | (refine ⟨false, false, rfl, fun h => absurd h (by decide), ?_⟩) | refine ⟨_, _, rfl, fun _ => rfl, ?_⟩       | (refine .inl ⟨_, _, ⟨_, _, _, _, _, _, rfl, rfl, rfl, p_ref02_Same _ _⟩, ?_⟩)       | (refine ⟨_, ?_, rfl, fun _ => ⟨_, ⟨_, _, _, _, _, _, rfl, rfl, rfl, p_ref02_Same _ _⟩, ?_⟩, ?_⟩; rotate_left; (· (simp only [go_sem, seval, reduceIte, ↓reduceIte, hP]; first | done | exact rfl)))); (try simp only [go_sem, seval, reduceIte, ↓reduceIte, hP]))); (first | done | exact rfl)))     | ((first | apply T_sdF fw (by rw [hP]; rfl) (by decide +kernel) | apply T_drF fw (by rw [hP]; rfl) (by decide +kernel)); · ((try simp only [TOps.flat, List.cons_append, List.nil_append]); (repeat ((first | refine Y_g0 ?_ | refine Y_g (by (try simp only [go_sem, seval, reduceIte, ↓reduceIte, Bool.not_eq_true, reduceCtorEq, beq_false, beq_true, hP]); (first | done | exact rfl)) ?_); (first | refine Y_skip ?_ | ((first | apply Y_q | (refine Y_call ⟨_, _, _, _, _, _, rfl, rfl, rfl, (by rw [hP]; exact p_ref02_Same _ _)⟩ ?_ ?_)); (· ((try simp only [go_sem, seval, reduceIte, ↓reduceIte, Bool.not_eq_true, reduceCtorEq, beq_false, beq_true, hP]); (first | done | exact rfl))))))); apply RunF_nil; (try simp only [go_sem, seval, reduceIte, ↓reduceIte, Bool.not_eq_true, reduceCtorEq, beq_false, beq_true, hP]); (first | done | exact rfl)))     | ((first | apply T_sd fw (by rw [hP]; rfl) | apply T_dr fw (by rw [hP]; rfl)); · ((try simp only [go_sem, seval, reduceIte, ↓reduceIte, bne, beq_false, beq_true, Bool.not_eq_true, Bool.if_true_right, decide_not, reduceCtorEq, hP]); (repeat ((first       | (refine ⟨_, ⟨_, _, _, _, _, _, rfl, rfl, rfl, p_ref02_Same _ _⟩, ?_⟩)); (try simp only [go_sem, seval, reduceIte, ↓reduceIte, bne, beq_false, beq_true, Bool.not_eq_true, Bool.if_true_right, decide_not, reduceCtorEq, hP]))); (first | done | exact rfl)))     | refine T_seq ?_ | refine T_block ?_ | refine T_scopeJ 0 rfl ?_ | refine T_scope ?_ | refine T_goto ?_ | refine T_ret ?_ | refine T_skip ?_ | refine T_exit ?_ | refine T_label ?_     | refine T_condT rfl ?_ | refine T_condF rfl ?_     | refine T_condD rfl (fun _ => ?_) (fun _ => ?_)     | refine T_cond rfl (fun _ => ?_) (fun _ => ?_))
  exact ends_ret rfl rfl rfl (by simp only [resD, sameT])
end Go.AM

namespace Go.AM
open Go Go.Proofs

theorem mk_len {s : List Int} (h : ShapeOk s) (g : List Int → Int) : ((mk s g).length : Int) = prd s := by
  have := prd_pos h.2.1
  simp only [mk, List.length_map, List.length_range, sizeS_ok h]
  omega
theorem mk_get {s : List Int} (h : ShapeOk s) (g : List Int → Int) {p : Nat} (hp : (p : Int) < prd s) : (mk s g)[p]? = some (g (ix s p)) := by
  have := h.2.2
  simp only [mk, sizeS_ok h, List.getElem?_map]
  rw [List.getElem?_range (by omega)]
  simp only [Option.map_some, Option.some.injEq]
  rw [idxF_eq h.2.1 (by omega) (by omega)]
theorem mk_check {s : List Int} (h : ShapeOk s) (g : List Int → Int) : checkT s (mk s g) = true := checkT_iff.2 ⟨h, mk_len h g⟩
theorem mk_at {s x : List Int} (h : ShapeOk s) (hx : InIdx s x) (g : List Int → Int) : atF s (mk s g) x = (g x, 0) := by
  have hl := pl_lt hx
  rw [atF_ok (mk_check h g) hx, mk_get h g (by omega)]
  have : ((pl s x 0).toNat : Int) = pl s x 0 := by omega
  rw [this, ix_pl0 hx h.2.1]
  rfl
theorem mk_congr {s : List Int} (h : ShapeOk s) {g g' : List Int → Int} (hg : ∀ x, InIdx s x → g x = g' x) : mk s g = mk s g' := by
  apply List.ext_getElem?
  intro p
  by_cases hp : (p : Int) < prd s
  · rw [mk_get h g hp, mk_get h g' hp, hg _ (ix_in h.2.1)]
  · have h1 := mk_len h g
    have h2 := mk_len h g'
    rw [List.getElem?_eq_none (by omega), List.getElem?_eq_none (by omega)]
theorem mk_self {s d : List Int} (h : checkT s d = true) : mk s (fun x => (atF s d x).1) = d := by
  have hs := (checkT_iff.1 h).1
  have hd := (checkT_iff.1 h).2
  apply List.ext_getElem?
  intro p
  by_cases hp : (p : Int) < prd s
  · rw [mk_get hs _ hp, atF_ok h (ix_in hs.2.1), pl_ix_lt hs.2.1 (by omega) hp]
    simp only [Int.toNat_natCast]
    rw [List.getElem?_eq_getElem (by omega)]
    rfl
  · have h1 := mk_len hs fun x => (atF s d x).1
    rw [List.getElem?_eq_none (by omega), List.getElem?_eq_none (by omega)]
theorem tens_ext {s d e : List Int} (h1 : checkT s d = true) (h2 : checkT s e = true) (h : ∀ x, InIdx s x → (atF s d x).1 = (atF s e x).1) : d = e := by
  rw [← mk_self h1, ← mk_self h2]
  exact mk_congr (checkT_iff.1 h1).1 h
theorem InIdx.append {s x t y : List Int} (h : InIdx s x) (k : InIdx t y) : InIdx (s ++ t) (x ++ y) := by
  induction h with
  | nil => exact k
  | cons h0 h1 _ ih => exact .cons h0 h1 ih
theorem InIdx.reverse {s x : List Int} (h : InIdx s x) : InIdx s.reverse x.reverse := by
  induction h with
  | nil => exact .nil
  | cons h0 h1 _ ih =>
    simp only [List.reverse_cons]
    exact ih.append (.cons h0 h1 .nil)
theorem ShapeOk.reverse {s : List Int} (h : ShapeOk s) : ShapeOk s.reverse := ⟨by simpa using h.1, h.2.1.reverse, by rw [prd_reverse]; exact h.2.2⟩
theorem turnF_ok {s d : List Int} (h : checkT s d = true) : turnF s d = ((s.reverse, mk s.reverse fun x => (atF s d x.reverse).1), 0) := by
  unfold turnF; rw [if_pos h]
def turnD (s d : List Int) : List Int := mk s.reverse fun x => (atF s d x.reverse).1
theorem turnD_check {s d : List Int} (h : checkT s d = true) : checkT s.reverse (turnD s d) = true := mk_check (checkT_iff.1 h).1.reverse _
theorem turnD_turnD {s d : List Int} (h : checkT s d = true) : turnD s.reverse (turnD s d) = d := by
  have hs := (checkT_iff.1 h).1
  unfold turnD
  rw [List.reverse_reverse]
  have : ∀ x, InIdx s x → (atF s.reverse (mk s.reverse fun x => (atF s d x.reverse).1) x.reverse).1 = (atF s d x).1 := fun x hx => by
    rw [mk_at hs.reverse hx.reverse, List.reverse_reverse]
  rw [mk_congr hs this, mk_self h]
theorem turn_turn {s d : List Int} (h : checkT s d = true) : turnF s.reverse (turnD s d) = ((s, d), 0) := by
  rw [turnF_ok (turnD_check h)]
  have := turnD_turnD h
  unfold turnD at this
  unfold turnD
  rw [this, List.reverse_reverse]
theorem sameL_refl (l : List Int) : sameL l l = true := by
  unfold sameL
  have : ∀ l : List Int, eqL l l = true := by
    intro l
    induction l with
    | nil => rfl
    | cons a l ih => simp [eqL, ih]
  simp [this]
theorem eqL_iff : ∀ {s t : List Int}, s.length = t.length → (eqL s t = true ↔ s = t)
  | [], [], _ => by simp [eqL]
  | a :: s, b :: t, h => by
    simp only [eqL]
    by_cases hab : a = b
    · subst hab; simp [eqL_iff (s := s) (t := t) (by simpa using h)]
    · simp [hab]
theorem sameL_iff {s t : List Int} : sameL s t = true ↔ s = t := by
  unfold sameL
  by_cases h : s.length = t.length
  · rw [if_neg (by simp [h]), eqL_iff h]
  · rw [if_pos (by simp; omega)]
    constructor
    · intro h'; cases h'
    · intro h'; exact absurd (by rw [h']) h
theorem sameT_refl (s d : List Int) : sameT s d s d = true := by unfold sameT; rw [sameL_refl, sameL_refl]; rfl
end Go.AM

namespace Go.AM
open Go Go.Proofs

theorem inIdx_iff : ∀ {s x : List Int}, InIdx s x ↔ s.length = x.length ∧ ∀ (i : Nat) (m k : Int), s[i]? = some m → x[i]? = some k → 0 ≤ k ∧ k < m
  | [], [] => ⟨fun _ => ⟨rfl, fun i m k h => by simp at h⟩, fun _ => .nil⟩
  | [], _ :: _ => ⟨fun h => (by cases h), fun h => by simp at h⟩
  | _ :: _, [] => ⟨fun h => (by cases h), fun h => by simp at h⟩
  | m :: s, k :: x => by
    constructor
    · intro h
      cases h with
      | cons h0 h1 h =>
        have := inIdx_iff.1 h
        refine ⟨by simp [this.1], fun i m' k' hm hk => ?_⟩
        cases i with
        | zero => simp at hm hk; subst hm hk; exact ⟨h0, h1⟩
        | succ i => exact this.2 i m' k' (by simpa using hm) (by simpa using hk)
    · rintro ⟨h1, h2⟩
      have := h2 0 m k rfl rfl
      exact .cons this.1 this.2 (inIdx_iff.2 ⟨by simpa using h1, fun i m' k' hm hk => h2 (i + 1) m' k' (by simpa using hm) (by simpa using hk)⟩)
theorem InIdx.get {s x : List Int} (h : InIdx s x) {n : Nat} {m : Int} (hm : s[n]? = some m) : ∃ k, x[n]? = some k ∧ 0 ≤ k ∧ k < m := by
  have h1 := inIdx_iff.1 h
  have hn := (List.getElem?_eq_some_iff.1 hm).1
  have hk : x[n]? = some (x[n]'(by omega)) := List.getElem?_eq_getElem (by omega)
  exact ⟨_, hk, h1.2 n _ _ hm hk⟩
theorem InIdx.set {s x : List Int} (h : InIdx s x) (n : Nat) {m k : Int} (h0 : 0 ≤ k) (h1 : k < m) : InIdx (s.set n m) (x.set n k) := by
  have h2 := inIdx_iff.1 h
  refine inIdx_iff.2 ⟨by simp [h2.1], fun i m' k' hm hk => ?_⟩
  by_cases hi : i = n
  · subst hi
    rw [List.getElem?_set] at hm hk
    simp at hm hk
    omega
  · rw [List.getElem?_set_ne (Ne.symm hi)] at hm hk
    exact h2.2 i m' k' hm hk
theorem set_self {s : List Int} {n : Nat} {m : Int} (h : s[n]? = some m) : s.set n m = s := by
  apply List.ext_getElem?
  intro i
  by_cases hi : i = n
  · subst hi
    rw [List.getElem?_set_self (List.getElem?_eq_some_iff.1 h).1, h]
  · rw [List.getElem?_set_ne (Ne.symm hi)]
theorem InIdx.reset {s x : List Int} {n : Nat} {m m' k' : Int} (h : InIdx (s.set n m') x) (hm : s[n]? = some m) (h0 : 0 ≤ k') (h1 : k' < m) : InIdx s (x.set n k') := by
  have := h.set n h0 h1
  rw [List.set_set, set_self hm] at this
  exact this
theorem Sides.set {s : List Int} (h : Sides s) (n : Nat) {m : Int} (h1 : 1 ≤ m ∧ m ≤ 16) : Sides (s.set n m) := by
  intro k hk
  rcases List.mem_or_eq_of_mem_set hk with hk | rfl
  · exact h k hk
  · exact h1
theorem prd_set : ∀ {s : List Int} {n : Nat} {m k : Int}, s[n]? = some m → prd (s.set n k) * m = prd s * k
  | [], n, m, k, h => by simp at h
  | a :: s, 0, m, k, h => by
    simp at h; subst h
    simp only [List.set_cons_zero, prd]
    rw [Int.mul_right_comm, Int.mul_comm k a, Int.mul_assoc, Int.mul_comm k, ← Int.mul_assoc]
  | a :: s, n + 1, m, k, h => by
    simp only [List.set_cons_succ, prd]
    rw [Int.mul_assoc, prd_set (s := s) (by simpa using h), Int.mul_assoc]
theorem prd_set_le {s : List Int} {n : Nat} {m k : Int} (hs : Sides s) (h : s[n]? = some m) (h1 : 1 ≤ k ∧ k ≤ m) : prd (s.set n k) ≤ prd s := by
  have hp := prd_set (k := k) h
  have h2 := prd_pos hs
  have hm : 0 < m := by omega
  have h3 : prd s * k ≤ prd s * m := Int.mul_le_mul_of_nonneg_left h1.2 (by omega)
  rw [← hp] at h3
  exact Int.le_of_mul_le_mul_right h3 hm
theorem ShapeOk.cut {s : List Int} (h : ShapeOk s) {n : Nat} {m k : Int} (hm : s[n]? = some m) (h1 : 1 ≤ k ∧ k ≤ m) : ShapeOk (s.set n k) := by
  have hb := h.2.1 m (List.mem_of_getElem? hm)
  exact ⟨by simpa using h.1, h.2.1.set n ⟨h1.1, by omega⟩, by have := prd_set_le h.2.1 hm h1; have := h.2.2; omega⟩
def cutD (s d : List Int) (n : Nat) (k f : Int) : List Int := mk (s.set n k) (gS s d n f)
theorem sliceF_ok {s d : List Int} {n : Nat} {m f t : Int} (hc : checkT s d = true) (hm : s[n]? = some m) (h : 0 ≤ f ∧ f < t ∧ t ≤ m) :
    sliceF s d n f t = ((s.set n (t - f), cutD s d n (t - f) f), 0) := by
  have hb := (checkT_iff.1 hc).1.2.1 m (List.mem_of_getElem? hm)
  have hn := (List.getElem?_eq_some_iff.1 hm).1
  unfold sliceF
  have hw : w64 (t - f) = t - f := wrap_in (by omega) (by omega)
  rw [if_pos hc, if_neg (by simp [hm]; omega), hw]
  simp [cutD]
theorem cut_check {s d : List Int} {n : Nat} {m f t : Int} (hc : checkT s d = true) (hm : s[n]? = some m) (h : 0 ≤ f ∧ f < t ∧ t ≤ m) : checkT (s.set n (t - f)) (cutD s d n (t - f) f) = true :=
  mk_check ((checkT_iff.1 hc).1.cut hm (by omega)) _
theorem gS_in {s d x : List Int} {n : Nat} {k f : Int} (hk : x[n]? = some k) (h0 : -9223372036854775808 ≤ k + f) (h1 : k + f < 9223372036854775808) : gS s d n f x = (atF s d (x.set n (k + f))).1 := by
  have hw : w64 (k + f) = k + f := wrap_in h0 h1
  simp [gS, hk, hw]
theorem cut_at {s d x : List Int} {n : Nat} {m f t k : Int} (hc : checkT s d = true) (hm : s[n]? = some m) (h : 0 ≤ f ∧ f < t ∧ t ≤ m) (hx : InIdx (s.set n (t - f)) x) (hk : x[n]? = some k) :
    atF (s.set n (t - f)) (cutD s d n (t - f) f) x = atF s d (x.set n (k + f)) ∧ InIdx s (x.set n (k + f)) ∧ 0 ≤ k ∧ k < t - f := by
  have hb := (checkT_iff.1 hc).1.2.1 m (List.mem_of_getElem? hm)
  have hn := (List.getElem?_eq_some_iff.1 hm).1
  obtain ⟨k', hk', h0, h1⟩ := hx.get (n := n) (m := t - f) (List.getElem?_set_self hn)
  rw [hk] at hk'; cases hk'
  have hin : InIdx s (x.set n (k + f)) := hx.reset hm (by omega) (by omega)
  refine ⟨?_, hin, h0, h1⟩
  rw [cutD, mk_at ((checkT_iff.1 hc).1.cut hm (by omega)) hx, gS_in hk (by omega) (by omega), atF_ok hc hin]
end Go.AM

namespace Go.AM
open Go Go.Proofs

def joinD (s d t e : List Int) (n : Nat) (k m : Int) : List Int := mk (s.set n (k + m)) (gJ s d t e n k)
structure Joins (s d t e : List Int) (n : Nat) (k m : Int) : Prop where
  one : checkT s d = true
  two : checkT t e = true
  hk : s[n]? = some k
  hm : t[n]? = some m
  like : t = s.set n m
  ok : ShapeOk (s.set n (k + m))
theorem Joins.kb {s d t e : List Int} {n : Nat} {k m : Int} (h : Joins s d t e n k m) : 1 ≤ k ∧ k ≤ 16 := (checkT_iff.1 h.one).1.2.1 k (List.mem_of_getElem? h.hk)
theorem Joins.mb {s d t e : List Int} {n : Nat} {k m : Int} (h : Joins s d t e n k m) : 1 ≤ m ∧ m ≤ 16 := (checkT_iff.1 h.two).1.2.1 m (List.mem_of_getElem? h.hm)
theorem Joins.lt {s d t e : List Int} {n : Nat} {k m : Int} (h : Joins s d t e n k m) : n < s.length := (List.getElem?_eq_some_iff.1 h.hk).1
theorem join_ok {s d t e : List Int} {n : Nat} {k m : Int} (h : Joins s d t e n k m) : joinF s d t e n = ((s.set n (k + m), joinD s d t e n k m), 0) := by
  have hk := h.kb; have hm := h.mb; have hn := h.lt
  have hw : w64 (k + m) = k + m := wrap_in (by omega) (by omega)
  have hl : s.length = t.length := by rw [h.like]; simp
  have h1 : sameL (s.set n m) t = true := sameL_iff.2 h.like.symm
  have h2 : checkS (s.set n (k + m)) = true := checkS_iff.2 h.ok
  unfold joinF
  rw [if_pos ⟨h.one, h.two⟩, if_neg]
  · simp [h.hk, h.hm, hw, joinD]
  · simp only [Int.toNat_natCast, h.hk, h.hm, Option.getD_some, hw, h1, h2, hl, not_or]
    refine ⟨by omega, by omega, by simp, by simp, by simp⟩
theorem joinD_check {s d t e : List Int} {n : Nat} {k m : Int} (h : Joins s d t e n k m) : checkT (s.set n (k + m)) (joinD s d t e n k m) = true := mk_check h.ok _
theorem join_at {s d t e x : List Int} {n : Nat} {k m i : Int} (h : Joins s d t e n k m) (hx : InIdx (s.set n (k + m)) x) (hi : x[n]? = some i) :
    (i < k → InIdx s x ∧ atF (s.set n (k + m)) (joinD s d t e n k m) x = atF s d x) ∧
    (k ≤ i → InIdx t (x.set n (i - k)) ∧ atF (s.set n (k + m)) (joinD s d t e n k m) x = atF t e (x.set n (i - k))) := by
  have hkb := h.kb; have hmb := h.mb; have hn := h.lt
  obtain ⟨i', hi', h0, h1⟩ := hx.get (n := n) (m := k + m) (List.getElem?_set_self hn)
  rw [hi] at hi'; cases hi'
  rw [joinD, mk_at h.ok hx]
  refine ⟨fun hlt => ?_, fun hle => ?_⟩
  · have hin : InIdx s x := by
      have := hx.reset h.hk (k' := i) h0 hlt
      rwa [set_self hi] at this
    refine ⟨hin, ?_⟩
    have hw : w64 (i + 0) = i := by rw [Int.add_zero]; exact wrap_in (by omega) (by omega)
    unfold gJ
    rw [hi]
    simp only [Option.getD_some]
    rw [if_pos hlt, hw, set_self hi, atF_ok h.one hin]
  · have hin : InIdx t (x.set n (i - k)) := by
      have := hx.set n (m := m) (k := i - k) (by omega) (by omega)
      rw [List.set_set] at this
      rw [h.like]; exact this
    refine ⟨hin, ?_⟩
    have hw : w64 (0 - k) = -k := by rw [Int.zero_sub]; exact wrap_in (by omega) (by omega)
    have hw2 : w64 (i + -k) = i - k := (wrap_in (n := i + -k) (by omega) (by omega)).trans (by omega)
    unfold gJ
    rw [hi]
    simp only [Option.getD_some]
    rw [if_neg (by omega), hw, hw2, atF_ok h.two hin]
theorem parts_join {s d : List Int} {n : Nat} {m a : Int} (hc : checkT s d = true) (hm : s[n]? = some m) (h : 1 ≤ a ∧ a < m) :
    joinF (s.set n (a - 0)) (cutD s d n (a - 0) 0) (s.set n (m - a)) (cutD s d n (m - a) a) n = ((s, d), 0) := by
  have hn := (List.getElem?_eq_some_iff.1 hm).1
  have hs := (checkT_iff.1 hc).1
  have h1 : 0 ≤ (0 : Int) ∧ 0 < a ∧ a ≤ m := by omega
  have h2 : 0 ≤ a ∧ a < m ∧ m ≤ m := by omega
  have hz : (s.set n (a - 0)).set n (a + (m - a)) = s := by rw [List.set_set, show a + (m - a) = m from by omega, set_self hm]
  have J : Joins (s.set n (a - 0)) (cutD s d n (a - 0) 0) (s.set n (m - a)) (cutD s d n (m - a) a) n a (m - a) := by
    refine ⟨cut_check hc hm h1, cut_check hc hm h2, by rw [List.getElem?_set_self hn, Int.sub_zero], List.getElem?_set_self hn, by rw [List.set_set], by rw [hz]; exact hs⟩
  rw [join_ok J, hz]
  have key : joinD (s.set n (a - 0)) (cutD s d n (a - 0) 0) (s.set n (m - a)) (cutD s d n (m - a) a) n a (m - a) = d := by
    have hck := joinD_check J
    rw [hz] at hck
    refine tens_ext hck hc fun x hx => ?_
    obtain ⟨i, hi, h0, h3⟩ := hx.get hm
    have hx' : InIdx ((s.set n (a - 0)).set n (a + (m - a))) x := by rw [hz]; exact hx
    have hat := join_at J hx' hi
    rw [hz] at hat
    by_cases hlt : i < a
    · obtain ⟨q1, q2⟩ := hat.1 hlt
      have := (cut_at hc hm h1 q1 hi).1
      rw [q2, this, Int.add_zero, set_self hi]
    · obtain ⟨q1, q2⟩ := hat.2 (by omega)
      have hxn : n < x.length := (List.getElem?_eq_some_iff.1 hi).1
      have := (cut_at hc hm h2 q1 (List.getElem?_set_self hxn)).1
      rw [q2, this, List.set_set, show i - a + a = i from by omega, set_self hi]
  rw [key]
end Go.AM

namespace Go.AM
open Go Go.Proofs

theorem c_sameT (s d : List Int) : PureC Tryz.prog fi_fullerref03_Same [dT s d, dT s d] (dB true) := by
  have := p_ref03_Same s d s d; rw [sameT_refl] at this; exact this
theorem c_same' (s : List Int) : PureC Tryz.prog fi_fullerref02_Same [dI s, dI s] (dB true) := by
  have := p_ref02_Same s s; rw [sameL_refl] at this; exact this
end Go.AM

