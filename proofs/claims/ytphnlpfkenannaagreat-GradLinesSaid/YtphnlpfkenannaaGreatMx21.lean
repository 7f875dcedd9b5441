import Derived.Test.YtphnlpfkenannaaGreatMx20
set_option linter.unusedVariables false
set_option linter.unusedSimpArgs false
namespace Go.AM
open Go Go.Proofs
set_option maxRecDepth 100000
set_option maxHeartbeats 4000000

def gJ (s d t e : List Int) (a : Nat) (k : Int) (x : List Int) : Int :=
  if (x[a]?).getD 0 < k then (atF s d (x.set a (w64 ((x[a]?).getD 0 + 0)))).1 else (atF t e (x.set a (w64 ((x[a]?).getD 0 + w64 (0 - k))))).1
theorem made_joined (s d t e s' : List Int) (n : Nat) (k : Int) (hn : n < s'.length) (p : Nat) (hp : p < (sizeS s').toNat) :
    PureC Tryz.prog fi_move_Join_1 ([dI (idxF s' p)] ++ [PV.box [.int .i64 n], .box [.int .i64 k], .box [eI s, eI d], .box [eI t, eI e]].map .one) (dN (gJ s d t e n k (idxF s' p))) := by
  have h1 := idxF_len hp
  have h2 : (idxF s' (p : Int))[n]? = some (idxF s' (p : Int))[n] := List.getElem?_eq_getElem (by omega)
  have := p_move_Join_1 s d t e (idxF s' p) n _ k (by omega) h2
  simp only [gJ, h2, Option.getD_some]
  exact this
def joinF (s d t e : List Int) (a : Int) : (List Int × List Int) × Int :=
  if checkT s d = true ∧ checkT t e = true then
    if a < 0 ∨ a ≥ s.length ∨ s.length ≠ t.length ∨ sameL (s.set a.toNat ((t[a.toNat]?).getD 0)) t = false ∨ checkS (s.set a.toNat (w64 ((s[a.toNat]?).getD 0 + (t[a.toNat]?).getD 0))) = false then bad 20
    else ((s.set a.toNat (w64 ((s[a.toNat]?).getD 0 + (t[a.toNat]?).getD 0)), mk (s.set a.toNat (w64 ((s[a.toNat]?).getD 0 + (t[a.toNat]?).getD 0))) (gJ s d t e a.toNat ((s[a.toNat]?).getD 0))), 0)
  else bad 30
theorem joinc0 (s d t e : List Int) (a : Int) (hc : checkT s d = false) : PureC Tryz.prog fi_move_Join [dT s d, dT t e, dN a] (dTE (joinF s d t e a)) := by
  refine pure_move_Join (by simp) fun G hP hn => ?_
  unfold a_move_Join
  refine go hc @p_tensor_Check ?_
  exact ends_ret rfl rfl rfl (by simp [joinF, resD, hc, bad])
theorem joinc1 (s d t e : List Int) (a : Int) (hc : checkT s d = true) (hc2 : checkT t e = false) : PureC Tryz.prog fi_move_Join [dT s d, dT t e, dN a] (dTE (joinF s d t e a)) := by
  refine pure_move_Join (by simp) fun G hP hn => ?_
  unfold a_move_Join
  refine go (aa hc hc2) @p_tensor_Check ?_
  exact ends_ret rfl rfl rfl (by simp [joinF, resD, hc, hc2, bad])
theorem joinc2 (s d t e : List Int) (a : Int) (hc : checkT s d = true) (hc2 : checkT t e = true) (h1 : a < 0) : PureC Tryz.prog fi_move_Join [dT s d, dT t e, dN a] (dTE (joinF s d t e a)) := by
  refine pure_move_Join (by simp) fun G hP hn => ?_
  unfold a_move_Join
  refine go (aa hc <| aa hc2 h1) @p_tensor_Check ?_
  exact ends_ret rfl rfl rfl (by simp [joinF, resD, hc, hc2, bad, h1])
theorem joinc3 (s d t e : List Int) (n : Nat) (hc : checkT s d = true) (hc2 : checkT t e = true) (hl2 : s.length ≤ 2 ^ 36) (h1 : ¬ (n : Int) < 0) (h2 : ¬ n < s.length) (h2' : s.length ≤ n) : PureC Tryz.prog fi_move_Join [dT s d, dT t e, dN n] (dTE (joinF s d t e n)) := by
  refine pure_move_Join (by simp) fun G hP hn => ?_
  unfold a_move_Join
  repeat' (first     | refine T_then ?_ | refine then_ret ?_ | refine then_exit ?_ | refine then_goto ?_     | refine rnd_exit ?_ | refine rnd_ret ?_ | refine rnd_goto ?_     | refine noGo_normal ?_ | refine noGo_ret ?_ | refine noGo_exit ?_ | refine jmp_normal ?_ | refine jmp_ret ?_ | refine jmp_exit ?_ | refine jmp_goto ?_     | refine inB_normal ?_ | refine inB_ret ?_ | refine inB_goto ?_ | refine inB_exit ?_ | refine inB_exit_ne rfl ?_     | ((first | apply T_sr fw | apply T_reg fw); · ((try simp only [go_sem, seval, reduceIte, ↓reduceIte, hP, hc, hc2, h1, ge_iff_le, Int.ofNat_le, h2, h2']); (repeat ((first       | (refine ⟨true, false, rfl, fun h => absurd h (by decide), ?_⟩) | (refine ⟨false, false, rfl, fun h => absurd h (by decide), ?_⟩) | refine ⟨_, _, rfl, fun _ => rfl, ?_⟩       | (refine .inl ⟨_, _, ⟨_, _, _, _, _, _, rfl, rfl, rfl, p_tensor_Check _ _⟩, ?_⟩)       | (refine ⟨_, ?_, rfl, fun _ => ⟨_, ⟨_, _, _, _, _, _, rfl, rfl, rfl, p_tensor_Check _ _⟩, ?_⟩, ?_⟩; rotate_left; (· (simp only [go_sem, seval, reduceIte, ↓reduceIte, hP, hc, hc2, h1, ge_iff_le, Int.ofNat_le, h2, h2']; first | done | exact rfl)))); (try simp only [go_sem, seval, reduceIte, ↓reduceIte, hP, hc, hc2, h1, ge_iff_le, Int.ofNat_le, h2, h2']))); (first | done | exact rfl)))     | ((first | apply T_sdF fw (by rw [hP]; rfl) (by decide +kernel) | apply T_drF fw (by rw [hP]; rfl) (by decide +kernel)); · ((try simp only [TOps.flat, List.cons_append, List.nil_append]); (repeat ((first | refine Y_g0 ?_ | refine Y_g (by (try simp only [go_sem, seval, reduceIte, ↓reduceIte, Bool.not_eq_true, reduceCtorEq, beq_false, beq_true, hP, hc, hc2, h1, ge_iff_le, Int.ofNat_le, h2, h2']); (first | done | exact rfl)) ?_); (first | refine Y_skip ?_ | ((first | apply Y_q | (refine Y_call ⟨_, _, _, _, _, _, rfl, rfl, rfl, (by rw [hP]; exact p_tensor_Check _ _)⟩ ?_ ?_)); (· ((try simp only [go_sem, seval, reduceIte, ↓reduceIte, Bool.not_eq_true, reduceCtorEq, beq_false, beq_true, hP, hc, hc2, h1, ge_iff_le, Int.ofNat_le, h2, h2']); (first | done | exact rfl))))))); apply RunF_nil; (try simp only [go_sem, seval, reduceIte, ↓reduceIte, Bool.not_eq_true, reduceCtorEq, beq_false, beq_true, hP, hc, hc2, h1, ge_iff_le, Int.ofNat_le, h2, h2']); (first | done | exact rfl)))      | refine T_seq ?_ | refine T_block ?_ | refine T_scopeJ 0 rfl ?_ | refine T_scope ?_ | refine T_goto ?_ | refine T_ret ?_ | refine T_skip ?_ | refine T_exit ?_ | refine T_label ?_     | refine T_condT rfl ?_ | refine T_condF rfl ?_     | refine T_condD rfl (fun _ => ?_) (fun _ => ?_)     | refine T_cond rfl (fun _ => ?_) (fun _ => ?_))
  exact ends_ret rfl rfl rfl (by simp [joinF, resD, hc, hc2, bad, h2'])
theorem joinc4 (s d t e : List Int) (n : Nat) (hc : checkT s d = true) (hc2 : checkT t e = true) (hl2 : s.length ≤ 2 ^ 36) (h1 : ¬ (n : Int) < 0) (h2 : n < s.length) (h2' : ¬ s.length ≤ n) (hl : ¬ s.length = t.length) (hl' : ((s.length : Int) != (t.length : Int)) = true) : PureC Tryz.prog fi_move_Join [dT s d, dT t e, dN n] (dTE (joinF s d t e n)) := by
  refine pure_move_Join (by simp) fun G hP hn => ?_
  unfold a_move_Join
  repeat' (first     | refine T_then ?_ | refine then_ret ?_ | refine then_exit ?_ | refine then_goto ?_     | refine rnd_exit ?_ | refine rnd_ret ?_ | refine rnd_goto ?_     | refine noGo_normal ?_ | refine noGo_ret ?_ | refine noGo_exit ?_ | refine jmp_normal ?_ | refine jmp_ret ?_ | refine jmp_exit ?_ | refine jmp_goto ?_     | refine inB_normal ?_ | refine inB_ret ?_ | refine inB_goto ?_ | refine inB_exit ?_ | refine inB_exit_ne rfl ?_     | ((first | apply T_sr fw | apply T_reg fw); · ((try simp only [go_sem, seval, reduceIte, ↓reduceIte, hP, hc, hc2, h1, ge_iff_le, Int.ofNat_le, h2, h2', hl, hl']); (repeat ((first       | (refine ⟨true, false, rfl, fun h => absurd h (by decide), ?_⟩) | (refine ⟨false, false, rfl, fun h => absurd h (by decide), ?_⟩) | refine ⟨_, _, rfl, fun _ => rfl, ?_⟩       | (refine .inl ⟨_, _, ⟨_, _, _, _, _, _, rfl, rfl, rfl, p_tensor_Check _ _⟩, ?_⟩)       | (refine ⟨_, ?_, rfl, fun _ => ⟨_, ⟨_, _, _, _, _, _, rfl, rfl, rfl, p_tensor_Check _ _⟩, ?_⟩, ?_⟩; rotate_left; (· (simp only [go_sem, seval, reduceIte, ↓reduceIte, hP, hc, hc2, h1, ge_iff_le, Int.ofNat_le, h2, h2', hl, hl']; first | done | exact rfl)))); (try simp only [go_sem, seval, reduceIte, ↓reduceIte, hP, hc, hc2, h1, ge_iff_le, Int.ofNat_le, h2, h2', hl, hl']))); (first | done | exact rfl)))     | ((first | apply T_sdF fw (by rw [hP]; rfl) (by decide +kernel) | apply T_drF fw (by rw [hP]; rfl) (by decide +kernel)); · ((try simp only [TOps.flat, List.cons_append, List.nil_append]); (repeat ((first | refine Y_g0 ?_ | refine Y_g (by (try simp only [go_sem, seval, reduceIte, ↓reduceIte, Bool.not_eq_true, reduceCtorEq, beq_false, beq_true, hP, hc, hc2, h1, ge_iff_le, Int.ofNat_le, h2, h2', hl, hl']); (first | done | exact rfl)) ?_); (first | refine Y_skip ?_ | ((first | apply Y_q | (refine Y_call ⟨_, _, _, _, _, _, rfl, rfl, rfl, (by rw [hP]; exact p_tensor_Check _ _)⟩ ?_ ?_)); (· ((try simp only [go_sem, seval, reduceIte, ↓reduceIte, Bool.not_eq_true, reduceCtorEq, beq_false, beq_true, hP, hc, hc2, h1, ge_iff_le, Int.ofNat_le, h2, h2', hl, hl']); (first | done | exact rfl))))))); apply RunF_nil; (try simp only [go_sem, seval, reduceIte, ↓reduceIte, Bool.not_eq_true, reduceCtorEq, beq_false, beq_true, hP, hc, hc2, h1, ge_iff_le, Int.ofNat_le, h2, h2', hl, hl']); (first | done | exact rfl)))      | refine T_seq ?_ | refine T_block ?_ | refine T_scopeJ 0 rfl ?_ | refine T_scope ?_ | refine T_goto ?_ | refine T_ret ?_ | refine T_skip ?_ | refine T_exit ?_ | refine T_label ?_     | refine T_condT rfl ?_ | refine T_condF rfl ?_     | refine T_condD rfl (fun _ => ?_) (fun _ => ?_)     | refine T_cond rfl (fun _ => ?_) (fun _ => ?_))
  exact ends_ret rfl rfl rfl (by simp [joinF, resD, hc, hc2, bad, hl])
theorem joinc5 (s d t e : List Int) (n : Nat) (hc : checkT s d = true) (hc2 : checkT t e = true) (hl2 : s.length ≤ 2 ^ 36) (h1 : ¬ (n : Int) < 0) (h2 : n < s.length) (h2' : ¬ s.length ≤ n) (hl : s.length = t.length) (h5 : n < t.length) (k m : Int) (hx : s[n]? = some k) (hy : t[n]? = some m) (hq : sameL (s.set n m) t = false) : PureC Tryz.prog fi_move_Join [dT s d, dT t e, dN n] (dTE (joinF s d t e n)) := by
  refine pure_move_Join (by simp) fun G hP hn => ?_
  have hb : ((s.length : Int) != (t.length : Int)) = false := by rw [hl]; simp
  unfold a_move_Join
  repeat' (first     | refine T_then ?_ | refine then_ret ?_ | refine then_exit ?_ | refine then_goto ?_     | refine rnd_exit ?_ | refine rnd_ret ?_ | refine rnd_goto ?_     | refine noGo_normal ?_ | refine noGo_ret ?_ | refine noGo_exit ?_ | refine jmp_normal ?_ | refine jmp_ret ?_ | refine jmp_exit ?_ | refine jmp_goto ?_     | refine inB_normal ?_ | refine inB_ret ?_ | refine inB_goto ?_ | refine inB_exit ?_ | refine inB_exit_ne rfl ?_     | ((first | apply T_sr fw | apply T_reg fw); · ((try simp only [go_sem, seval, reduceIte, ↓reduceIte, hP, hc, hc2, h1, ge_iff_le, Int.ofNat_le, h2, h2', hb, h5, hx, hy, hq]); (repeat ((first       | (refine ⟨true, false, rfl, fun h => absurd h (by decide), ?_⟩) | (refine ⟨false, false, rfl, fun h => absurd h (by decide), ?_⟩) | refine ⟨_, _, rfl, fun _ => rfl, ?_⟩       | (refine .inl ⟨_, _, ⟨_, _, _, _, _, _, rfl, rfl, rfl, p_tensor_Check _ _⟩, ?_⟩)       | (refine .inl ⟨_, _, ⟨_, _, _, _, _, _, rfl, rfl, rfl, p_move_sided s n m hl2 h2⟩, ?_⟩)       | (refine .inl ⟨_, _, ⟨_, _, _, _, _, _, rfl, rfl, rfl, p_slices_Equal _ _⟩, ?_⟩)       | (refine ⟨_, ?_, rfl, fun _ => ⟨_, ⟨_, _, _, _, _, _, rfl, rfl, rfl, p_tensor_Check _ _⟩, ?_⟩, ?_⟩; rotate_left; (· (simp only [go_sem, seval, reduceIte, ↓reduceIte, hP, hc, hc2, h1, ge_iff_le, Int.ofNat_le, h2, h2', hb, h5, hx, hy, hq]; first | done | exact rfl)))       | (refine ⟨_, ?_, rfl, fun _ => ⟨_, ⟨_, _, _, _, _, _, rfl, rfl, rfl, p_move_sided s n m hl2 h2⟩, ?_⟩, ?_⟩; rotate_left; (· (simp only [go_sem, seval, reduceIte, ↓reduceIte, hP, hc, hc2, h1, ge_iff_le, Int.ofNat_le, h2, h2', hb, h5, hx, hy, hq]; first | done | exact rfl)))       | (refine ⟨_, ?_, rfl, fun _ => ⟨_, ⟨_, _, _, _, _, _, rfl, rfl, rfl, p_slices_Equal _ _⟩, ?_⟩, ?_⟩; rotate_left; (· (simp only [go_sem, seval, reduceIte, ↓reduceIte, hP, hc, hc2, h1, ge_iff_le, Int.ofNat_le, h2, h2', hb, h5, hx, hy, hq]; first | done | exact rfl)))); (try simp only [go_sem, seval, reduceIte, ↓reduceIte, hP, hc, hc2, h1, ge_iff_le, Int.ofNat_le, h2, h2', hb, h5, hx, hy, hq]))); (first | done | exact rfl)))     | ((first | apply T_sdF fw (by rw [hP]; rfl) (by decide +kernel) | apply T_drF fw (by rw [hP]; rfl) (by decide +kernel)); · ((try simp only [TOps.flat, List.cons_append, List.nil_append]); (repeat ((first | refine Y_g0 ?_ | refine Y_g (by (try simp only [go_sem, seval, reduceIte, ↓reduceIte, Bool.not_eq_true, reduceCtorEq, beq_false, beq_true, hP, hc, hc2, h1, ge_iff_le, Int.ofNat_le, h2, h2', hb, h5, hx, hy, hq]); (first | done | exact rfl)) ?_); (first | refine Y_skip ?_ | ((first | apply Y_q | (refine Y_call ⟨_, _, _, _, _, _, rfl, rfl, rfl, (by rw [hP]; exact p_tensor_Check _ _)⟩ ?_ ?_) | (refine Y_call ⟨_, _, _, _, _, _, rfl, rfl, rfl, (by rw [hP]; exact p_move_sided s n m hl2 h2)⟩ ?_ ?_) | (refine Y_call ⟨_, _, _, _, _, _, rfl, rfl, rfl, (by rw [hP]; exact p_slices_Equal _ _)⟩ ?_ ?_)); (· ((try simp only [go_sem, seval, reduceIte, ↓reduceIte, Bool.not_eq_true, reduceCtorEq, beq_false, beq_true, hP, hc, hc2, h1, ge_iff_le, Int.ofNat_le, h2, h2', hb, h5, hx, hy, hq]); (first | done | exact rfl))))))); apply RunF_nil; (try simp only [go_sem, seval, reduceIte, ↓reduceIte, Bool.not_eq_true, reduceCtorEq, beq_false, beq_true, hP, hc, hc2, h1, ge_iff_le, Int.ofNat_le, h2, h2', hb, h5, hx, hy, hq]); (first | done | exact rfl)))      | refine T_seq ?_ | refine T_block ?_ | refine T_scopeJ 0 rfl ?_ | refine T_scope ?_ | refine T_goto ?_ | refine T_ret ?_ | refine T_skip ?_ | refine T_exit ?_ | refine T_label ?_     | refine T_condT rfl ?_ | refine T_condF rfl ?_     | refine T_condD rfl (fun _ => ?_) (fun _ => ?_)     | refine T_cond rfl (fun _ => ?_) (fun _ => ?_))
  exact ends_ret rfl rfl rfl (by simp [joinF, resD, hc, hc2, bad, hl, hy, hq])
theorem joinc6 (s d t e : List Int) (n : Nat) (hc : checkT s d = true) (hc2 : checkT t e = true) (hl2 : s.length ≤ 2 ^ 36) (h1 : ¬ (n : Int) < 0) (h2 : n < s.length) (h2' : ¬ s.length ≤ n) (hl : s.length = t.length) (h5 : n < t.length) (k m : Int) (hx : s[n]? = some k) (hy : t[n]? = some m) (hq : sameL (s.set n m) t = true) (hz : checkS (s.set n (w64 (k + m))) = false) : PureC Tryz.prog fi_move_Join [dT s d, dT t e, dN n] (dTE (joinF s d t e n)) := by
  refine pure_move_Join (by simp) fun G hP hn => ?_
  have hb : ((s.length : Int) != (t.length : Int)) = false := by rw [hl]; simp
  unfold a_move_Join
  repeat' (first     | refine T_then ?_ | refine then_ret ?_ | refine then_exit ?_ | refine then_goto ?_     | refine rnd_exit ?_ | refine rnd_ret ?_ | refine rnd_goto ?_     | refine noGo_normal ?_ | refine noGo_ret ?_ | refine noGo_exit ?_ | refine jmp_normal ?_ | refine jmp_ret ?_ | refine jmp_exit ?_ | refine jmp_goto ?_     | refine inB_normal ?_ | refine inB_ret ?_ | refine inB_goto ?_ | refine inB_exit ?_ | refine inB_exit_ne rfl ?_     | ((first | apply T_sr fw | apply T_reg fw); · ((try simp only [go_sem, seval, reduceIte, ↓reduceIte, hP, hc, hc2, h1, ge_iff_le, Int.ofNat_le, h2, h2', hb, h5, hx, hy, hq, hz]); (repeat ((first       | (refine ⟨true, false, rfl, fun h => absurd h (by decide), ?_⟩) | (refine ⟨false, false, rfl, fun h => absurd h (by decide), ?_⟩) | refine ⟨_, _, rfl, fun _ => rfl, ?_⟩       | (refine .inl ⟨_, _, ⟨_, _, _, _, _, _, rfl, rfl, rfl, p_tensor_Check _ _⟩, ?_⟩)       | (refine .inl ⟨_, _, ⟨_, _, _, _, _, _, rfl, rfl, rfl, p_move_sided s n m hl2 h2⟩, ?_⟩)       | (refine .inl ⟨_, _, ⟨_, _, _, _, _, _, rfl, rfl, rfl, p_slices_Equal _ _⟩, ?_⟩)       | (refine .inl ⟨_, _, ⟨_, _, _, _, _, _, rfl, rfl, rfl, p_move_sided s n (w64 (k + m)) hl2 h2⟩, ?_⟩)       | (refine .inl ⟨_, _, ⟨_, _, _, _, _, _, rfl, rfl, rfl, p_shape_Check _⟩, ?_⟩)       | (refine ⟨_, ?_, rfl, fun _ => ⟨_, ⟨_, _, _, _, _, _, rfl, rfl, rfl, p_tensor_Check _ _⟩, ?_⟩, ?_⟩; rotate_left; (· (simp only [go_sem, seval, reduceIte, ↓reduceIte, hP, hc, hc2, h1, ge_iff_le, Int.ofNat_le, h2, h2', hb, h5, hx, hy, hq, hz]; first | done | exact rfl)))       | (refine ⟨_, ?_, rfl, fun _ => ⟨_, ⟨_, _, _, _, _, _, rfl, rfl, rfl, p_move_sided s n m hl2 h2⟩, ?_⟩, ?_⟩; rotate_left; (· (simp only [go_sem, seval, reduceIte, ↓reduceIte, hP, hc, hc2, h1, ge_iff_le, Int.ofNat_le, h2, h2', hb, h5, hx, hy, hq, hz]; first | done | exact rfl)))       | (refine ⟨_, ?_, rfl, fun _ => ⟨_, ⟨_, _, _, _, _, _, rfl, rfl, rfl, p_slices_Equal _ _⟩, ?_⟩, ?_⟩; rotate_left; (· (simp only [go_sem, seval, reduceIte, ↓reduceIte, hP, hc, hc2, h1, ge_iff_le, Int.ofNat_le, h2, h2', hb, h5, hx, hy, hq, hz]; first | done | exact rfl)))       | (refine ⟨_, ?_, rfl, fun _ => ⟨_, ⟨_, _, _, _, _, _, rfl, rfl, rfl, p_move_sided s n (w64 (k + m)) hl2 h2⟩, ?_⟩, ?_⟩; rotate_left; (· (simp only [go_sem, seval, reduceIte, ↓reduceIte, hP, hc, hc2, h1, ge_iff_le, Int.ofNat_le, h2, h2', hb, h5, hx, hy, hq, hz]; first | done | exact rfl)))       | (refine ⟨_, ?_, rfl, fun _ => ⟨_, ⟨_, _, _, _, _, _, rfl, rfl, rfl, p_shape_Check _⟩, ?_⟩, ?_⟩; rotate_left; (· (simp only [go_sem, seval, reduceIte, ↓reduceIte, hP, hc, hc2, h1, ge_iff_le, Int.ofNat_le, h2, h2', hb, h5, hx, hy, hq, hz]; first | done | exact rfl)))); (try simp only [go_sem, seval, reduceIte, ↓reduceIte, hP, hc, hc2, h1, ge_iff_le, Int.ofNat_le, h2, h2', hb, h5, hx, hy, hq, hz]))); (first | done | exact rfl)))     | ((first | apply T_sdF fw (by rw [hP]; rfl) (by decide +kernel) | apply T_drF fw (by rw [hP]; rfl) (by decide +kernel)); · ((try simp only [TOps.flat, List.cons_append, List.nil_append]); (repeat ((first | refine Y_g0 ?_ | refine Y_g (by (try simp only [go_sem, seval, reduceIte, ↓reduceIte, Bool.not_eq_true, reduceCtorEq, beq_false, beq_true, hP, hc, hc2, h1, ge_iff_le, Int.ofNat_le, h2, h2', hb, h5, hx, hy, hq, hz]); (first | done | exact rfl)) ?_); (first | refine Y_skip ?_ | ((first | apply Y_q | (refine Y_call ⟨_, _, _, _, _, _, rfl, rfl, rfl, (by rw [hP]; exact p_tensor_Check _ _)⟩ ?_ ?_) | (refine Y_call ⟨_, _, _, _, _, _, rfl, rfl, rfl, (by rw [hP]; exact p_move_sided s n m hl2 h2)⟩ ?_ ?_) | (refine Y_call ⟨_, _, _, _, _, _, rfl, rfl, rfl, (by rw [hP]; exact p_slices_Equal _ _)⟩ ?_ ?_) | (refine Y_call ⟨_, _, _, _, _, _, rfl, rfl, rfl, (by rw [hP]; exact p_move_sided s n (w64 (k + m)) hl2 h2)⟩ ?_ ?_) | (refine Y_call ⟨_, _, _, _, _, _, rfl, rfl, rfl, (by rw [hP]; exact p_shape_Check _)⟩ ?_ ?_)); (· ((try simp only [go_sem, seval, reduceIte, ↓reduceIte, Bool.not_eq_true, reduceCtorEq, beq_false, beq_true, hP, hc, hc2, h1, ge_iff_le, Int.ofNat_le, h2, h2', hb, h5, hx, hy, hq, hz]); (first | done | exact rfl))))))); apply RunF_nil; (try simp only [go_sem, seval, reduceIte, ↓reduceIte, Bool.not_eq_true, reduceCtorEq, beq_false, beq_true, hP, hc, hc2, h1, ge_iff_le, Int.ofNat_le, h2, h2', hb, h5, hx, hy, hq, hz]); (first | done | exact rfl)))      | refine T_seq ?_ | refine T_block ?_ | refine T_scopeJ 0 rfl ?_ | refine T_scope ?_ | refine T_goto ?_ | refine T_ret ?_ | refine T_skip ?_ | refine T_exit ?_ | refine T_label ?_     | refine T_condT rfl ?_ | refine T_condF rfl ?_     | refine T_condD rfl (fun _ => ?_) (fun _ => ?_)     | refine T_cond rfl (fun _ => ?_) (fun _ => ?_))
  exact ends_ret rfl rfl rfl (by simp [joinF, resD, hc, hc2, bad, hx, hy, hz])
theorem joinc7 (s d t e : List Int) (n : Nat) (hc : checkT s d = true) (hc2 : checkT t e = true) (hl2 : s.length ≤ 2 ^ 36) (h1 : ¬ (n : Int) < 0) (h2 : n < s.length) (h2' : ¬ s.length ≤ n) (hl : s.length = t.length) (h5 : n < t.length) (k m : Int) (hx : s[n]? = some k) (hy : t[n]? = some m) (hq : sameL (s.set n m) t = true) (hz : checkS (s.set n (w64 (k + m))) = true)
    (hm : PureC Tryz.prog fi_move_made [dI (s.set n (w64 (k + m))), .one (.fn fi_move_Join_1 [] [.box [.int .i64 n], .box [.int .i64 k], .box [eI s, eI d], .box [eI t, eI e]])] (.tup [dT (s.set n (w64 (k + m))) (mk (s.set n (w64 (k + m))) (gJ s d t e n k)), dN 0])) : PureC Tryz.prog fi_move_Join [dT s d, dT t e, dN n] (dTE (joinF s d t e n)) := by
  refine pure_move_Join (by simp) fun G hP hn => ?_
  have hb : ((s.length : Int) != (t.length : Int)) = false := by rw [hl]; simp
  unfold a_move_Join
  repeat' (first     | refine T_then ?_ | refine then_ret ?_ | refine then_exit ?_ | refine then_goto ?_     | refine rnd_exit ?_ | refine rnd_ret ?_ | refine rnd_goto ?_     | refine noGo_normal ?_ | refine noGo_ret ?_ | refine noGo_exit ?_ | refine jmp_normal ?_ | refine jmp_ret ?_ | refine jmp_exit ?_ | refine jmp_goto ?_     | refine inB_normal ?_ | refine inB_ret ?_ | refine inB_goto ?_ | refine inB_exit ?_ | refine inB_exit_ne rfl ?_     | ((first | apply T_sr fw | apply T_reg fw); · ((try simp only [go_sem, seval, reduceIte, ↓reduceIte, hP, hc, hc2, h1, ge_iff_le, Int.ofNat_le, h2, h2', hb, h5, hx, hy, hq, hz]); (repeat ((first       | (refine ⟨true, false, rfl, fun h => absurd h (by decide), ?_⟩) | (refine ⟨false, false, rfl, fun h => absurd h (by decide), ?_⟩) | refine ⟨_, _, rfl, fun _ => rfl, ?_⟩       | (refine .inl ⟨_, _, ⟨_, _, _, _, _, _, rfl, rfl, rfl, p_tensor_Check _ _⟩, ?_⟩)       | (refine .inl ⟨_, _, ⟨_, _, _, _, _, _, rfl, rfl, rfl, p_move_sided s n m hl2 h2⟩, ?_⟩)       | (refine .inl ⟨_, _, ⟨_, _, _, _, _, _, rfl, rfl, rfl, p_slices_Equal _ _⟩, ?_⟩)       | (refine .inl ⟨_, _, ⟨_, _, _, _, _, _, rfl, rfl, rfl, p_move_sided s n (w64 (k + m)) hl2 h2⟩, ?_⟩)       | (refine .inl ⟨_, _, ⟨_, _, _, _, _, _, rfl, rfl, rfl, p_shape_Check _⟩, ?_⟩)       | (refine .inl ⟨_, _, ⟨_, _, _, _, _, _, rfl, rfl, rfl, hm⟩, ?_⟩)       | (refine ⟨_, ?_, rfl, fun _ => ⟨_, ⟨_, _, _, _, _, _, rfl, rfl, rfl, p_tensor_Check _ _⟩, ?_⟩, ?_⟩; rotate_left; (· (simp only [go_sem, seval, reduceIte, ↓reduceIte, hP, hc, hc2, h1, ge_iff_le, Int.ofNat_le, h2, h2', hb, h5, hx, hy, hq, hz]; first | done | exact rfl)))       | (refine ⟨_, ?_, rfl, fun _ => ⟨_, ⟨_, _, _, _, _, _, rfl, rfl, rfl, p_move_sided s n m hl2 h2⟩, ?_⟩, ?_⟩; rotate_left; (· (simp only [go_sem, seval, reduceIte, ↓reduceIte, hP, hc, hc2, h1, ge_iff_le, Int.ofNat_le, h2, h2', hb, h5, hx, hy, hq, hz]; first | done | exact rfl)))       | (refine ⟨_, ?_, rfl, fun _ => ⟨_, ⟨_, _, _, _, _, _, rfl, rfl, rfl, p_slices_Equal _ _⟩, ?_⟩, ?_⟩; rotate_left; (· (simp only [go_sem, seval, reduceIte, ↓reduceIte, hP, hc, hc2, h1, ge_iff_le, Int.ofNat_le, h2, h2', hb, h5, hx, hy, hq, hz]; first | done | exact rfl)))       | (refine ⟨_, ?_, rfl, fun _ => ⟨_, ⟨_, _, _, _, _, _, rfl, rfl, rfl, p_move_sided s n (w64 (k + m)) hl2 h2⟩, ?_⟩, ?_⟩; rotate_left; (· (simp only [go_sem, seval, reduceIte, ↓reduceIte, hP, hc, hc2, h1, ge_iff_le, Int.ofNat_le, h2, h2', hb, h5, hx, hy, hq, hz]; first | done | exact rfl)))       | (refine ⟨_, ?_, rfl, fun _ => ⟨_, ⟨_, _, _, _, _, _, rfl, rfl, rfl, p_shape_Check _⟩, ?_⟩, ?_⟩; rotate_left; (· (simp only [go_sem, seval, reduceIte, ↓reduceIte, hP, hc, hc2, h1, ge_iff_le, Int.ofNat_le, h2, h2', hb, h5, hx, hy, hq, hz]; first | done | exact rfl)))       | (refine ⟨_, ?_, rfl, fun _ => ⟨_, ⟨_, _, _, _, _, _, rfl, rfl, rfl, hm⟩, ?_⟩, ?_⟩; rotate_left; (· (simp only [go_sem, seval, reduceIte, ↓reduceIte, hP, hc, hc2, h1, ge_iff_le, Int.ofNat_le, h2, h2', hb, h5, hx, hy, hq, hz]; first | done | exact rfl)))); (try simp only [go_sem, seval, reduceIte, ↓reduceIte, hP, hc, hc2, h1, ge_iff_le, Int.ofNat_le, h2, h2', hb, h5, hx, hy, hq, hz]))); (first | done | exact rfl)))     | ((first | apply T_sdF fw (by rw [hP]; rfl) (by decide +kernel) | apply T_drF fw (by rw [hP]; rfl) (by decide +kernel)); · ((try simp only [TOps.flat, List.cons_append, List.nil_append]); (repeat ((first | refine Y_g0 ?_ | refine Y_g (by (try simp only [go_sem, seval, reduceIte, ↓reduceIte, Bool.not_eq_true, reduceCtorEq, beq_false, beq_true, hP, hc, hc2, h1, ge_iff_le, Int.ofNat_le, h2, h2', hb, h5, hx, hy, hq, hz]); (first | done | exact rfl)) ?_); (first | refine Y_skip ?_ | ((first | apply Y_q | (refine Y_call ⟨_, _, _, _, _, _, rfl, rfl, rfl, (by rw [hP]; exact p_tensor_Check _ _)⟩ ?_ ?_) | (refine Y_call ⟨_, _, _, _, _, _, rfl, rfl, rfl, (by rw [hP]; exact p_move_sided s n m hl2 h2)⟩ ?_ ?_) | (refine Y_call ⟨_, _, _, _, _, _, rfl, rfl, rfl, (by rw [hP]; exact p_slices_Equal _ _)⟩ ?_ ?_) | (refine Y_call ⟨_, _, _, _, _, _, rfl, rfl, rfl, (by rw [hP]; exact p_move_sided s n (w64 (k + m)) hl2 h2)⟩ ?_ ?_) | (refine Y_call ⟨_, _, _, _, _, _, rfl, rfl, rfl, (by rw [hP]; exact p_shape_Check _)⟩ ?_ ?_) | (refine Y_call ⟨_, _, _, _, _, _, rfl, rfl, rfl, (by rw [hP]; exact hm)⟩ ?_ ?_)); (· ((try simp only [go_sem, seval, reduceIte, ↓reduceIte, Bool.not_eq_true, reduceCtorEq, beq_false, beq_true, hP, hc, hc2, h1, ge_iff_le, Int.ofNat_le, h2, h2', hb, h5, hx, hy, hq, hz]); (first | done | exact rfl))))))); apply RunF_nil; (try simp only [go_sem, seval, reduceIte, ↓reduceIte, Bool.not_eq_true, reduceCtorEq, beq_false, beq_true, hP, hc, hc2, h1, ge_iff_le, Int.ofNat_le, h2, h2', hb, h5, hx, hy, hq, hz]); (first | done | exact rfl)))      | refine T_seq ?_ | refine T_block ?_ | refine T_scopeJ 0 rfl ?_ | refine T_scope ?_ | refine T_goto ?_ | refine T_ret ?_ | refine T_skip ?_ | refine T_exit ?_ | refine T_label ?_     | refine T_condT rfl ?_ | refine T_condF rfl ?_     | refine T_condD rfl (fun _ => ?_) (fun _ => ?_)     | refine T_cond rfl (fun _ => ?_) (fun _ => ?_))
  exact ends_ret rfl rfl rfl (by simp [joinF, resD, hc, hc2, h1, show ¬ t.length ≤ n from by omega, hl, hx, hy, hq, hz])
theorem p_move_Join (s d t e : List Int) (a : Int) : PureC Tryz.prog fi_move_Join [dT s d, dT t e, dN a] (dTE (joinF s d t e a)) := by
  cases hc : checkT s d
  · exact joinc0 s d t e a hc
  · have hl := (checkT_iff.1 hc).1.1
    have hl2 : s.length ≤ 2 ^ 36 := by omega
    cases hc2 : checkT t e
    · exact joinc1 s d t e a hc hc2
    · by_cases h1 : a < 0
      · exact joinc2 s d t e a hc hc2 h1
      · obtain ⟨n, rfl⟩ := Int.eq_ofNat_of_zero_le (by omega : 0 ≤ a)
        by_cases h2 : n < s.length
        · have h2' : ¬ s.length ≤ n := by omega
          by_cases hl : s.length = t.length
          · have h5 : n < t.length := by omega
            have hx : s[n]? = some s[n] := List.getElem?_eq_getElem h2
            have hy : t[n]? = some t[n] := List.getElem?_eq_getElem h5
            cases hq : sameL (s.set n t[n]) t
            · exact joinc5 s d t e n hc hc2 hl2 h1 h2 h2' hl h5 _ _ hx hy hq
            · cases hz : checkS (s.set n (w64 (s[n] + t[n])))
              · exact joinc6 s d t e n hc hc2 hl2 h1 h2 h2' hl h5 _ _ hx hy hq hz
              · exact joinc7 s d t e n hc hc2 hl2 h1 h2 h2' hl h5 _ _ hx hy hq hz (p_move_made (s.set n (w64 (s[n] + t[n]))) fi_move_Join_1 [.box [.int .i64 n], .box [.int .i64 s[n]], .box [eI s, eI d], .box [eI t, eI e]] _ (made_joined s d t e _ n _ (by simpa using h2)))
          · exact joinc4 s d t e n hc hc2 hl2 h1 h2 h2' hl (by simp; omega)
        · exact joinc3 s d t e n hc hc2 hl2 h1 h2 (by omega)
end Go.AM

namespace Go.AM
open Go Go.Proofs

theorem mk_len {s : List Int} (h : ShapeOk s) (g : List Int → Int) : ((mk s g).length : Int) = prd s := by
  have := prd_pos h.2.1
  simp only [mk, List.length_map, List.length_range, sizeS_ok h]
  omega
theorem mk_get {s : List Int} (h : ShapeOk s) (g : List Int → Int) {p : Nat} (hp : (p : Int) < prd s) : (mk s g)[p]? = some (g (ix s p)) := by
  have := h.2.2
  simp only [mk, sizeS_ok h, List.getElem?_map]
  rw [List.getElem?_range (by omega)]
  simp only [Option.map_some, Option.some.injEq]
  rw [idxF_eq h.2.1 (by omega) (by omega)]
theorem InIdx.append {s x t y : List Int} (h : InIdx s x) (k : InIdx t y) : InIdx (s ++ t) (x ++ y) := by
  induction h with
  | nil => exact k
  | cons h0 h1 _ ih => exact .cons h0 h1 ih
theorem InIdx.reverse {s x : List Int} (h : InIdx s x) : InIdx s.reverse x.reverse := by
  induction h with
  | nil => exact .nil
  | cons h0 h1 _ ih =>
    simp only [List.reverse_cons]
    exact ih.append (.cons h0 h1 .nil)
theorem ShapeOk.reverse {s : List Int} (h : ShapeOk s) : ShapeOk s.reverse := ⟨by simpa using h.1, h.2.1.reverse, by rw [prd_reverse]; exact h.2.2⟩
theorem sameL_refl (l : List Int) : sameL l l = true := by
  unfold sameL
  have : ∀ l : List Int, eqL l l = true := by
    intro l
    induction l with
    | nil => rfl
    | cons a l ih => simp [eqL, ih]
  simp [this]
theorem eqL_iff : ∀ {s t : List Int}, s.length = t.length → (eqL s t = true ↔ s = t)
  | [], [], _ => by simp [eqL]
  | a :: s, b :: t, h => by
    simp only [eqL]
    by_cases hab : a = b
    · subst hab; simp [eqL_iff (s := s) (t := t) (by simpa using h)]
    · simp [hab]
theorem sameL_iff {s t : List Int} : sameL s t = true ↔ s = t := by
  unfold sameL
  by_cases h : s.length = t.length
  · rw [if_neg (by simp [h]), eqL_iff h]
  · rw [if_pos (by simp; omega)]
    constructor
    · intro h'; cases h'
    · intro h'; exact absurd (by rw [h']) h
end Go.AM

namespace Go.AM
open Go Go.Proofs
set_option maxRecDepth 100000
set_option maxHeartbeats 4000000

def I64s (d : List Int) : Prop := ∀ n ∈ d, I64 n
theorem I64s.get {d : List Int} (h : I64s d) {i : Nat} {x : Int} (hx : d[i]? = some x) : I64 x := h x (List.mem_of_getElem? hx)
theorem I64s.nil : I64s [] := fun n hn => by simp at hn
theorem I64s.append {d e : List Int} (h : I64s d) (k : I64s e) : I64s (d ++ e) := fun n hn => by
  rcases List.mem_append.1 hn with h1 | h1
  · exact h n h1
  · exact k n h1
def coll (f : Nat → Int × Int) : Nat → Nat → List Int → List Int × Int
  | 0, _, acc => (acc, 0)
  | n + 1, a, acc => if (f a).2 = 0 then coll f n (a + 1) (acc ++ [(f a).1]) else ([], (f a).2)
theorem coll_ok {f : Nat → Int × Int} : ∀ {n a : Nat} {acc : List Int}, (∀ k, k < n → (f (a + k)).2 = 0) → coll f n a acc = (acc ++ (List.range n).map (fun k => (f (a + k)).1), 0)
  | 0, a, acc, _ => by simp [coll]
  | n + 1, a, acc, h => by
    have h0 := h 0 (by omega)
    simp only [Nat.add_zero] at h0
    simp only [coll]
    rw [if_pos h0, coll_ok (fun k hk => by have := h (k + 1) (by omega); rwa [show a + (k + 1) = a + 1 + k from by omega] at this)]
    rw [List.range_succ_eq_map, List.map_cons, List.map_map]
    simp only [List.append_assoc, List.cons_append, List.nil_append, Nat.add_zero]
    congr 3
    apply List.map_congr_left
    intro k _
    simp only [Function.comp]
    rw [show a + 1 + k = a + (k + 1) from by omega]
theorem coll_err {f : Nat → Int × Int} : ∀ {n a : Nat} {acc : List Int} {k : Nat}, k < n → (∀ j, j < k → (f (a + j)).2 = 0) → (f (a + k)).2 ≠ 0 → coll f n a acc = ([], (f (a + k)).2)
  | n + 1, a, acc, 0, _, _, h => by
    simp only [coll, Nat.add_zero] at h ⊢
    rw [if_neg h]
  | n + 1, a, acc, k + 1, hk, hj, h => by
    have h0 := hj 0 (by omega)
    simp only [Nat.add_zero] at h0
    simp only [coll]
    rw [if_pos h0, coll_err (k := k) (by omega) (fun j hj' => by have := hj (j + 1) (by omega); rwa [show a + (j + 1) = a + 1 + j from by omega] at this) (by rwa [show a + 1 + k = a + (k + 1) from by omega])]
    rw [show a + 1 + k = a + (k + 1) from by omega]
theorem coll_cases (f : Nat → Int × Int) (n : Nat) : (∀ k, k < n → (f k).2 = 0) ∨ ∃ k, k < n ∧ (∀ j, j < k → (f j).2 = 0) ∧ (f k).2 ≠ 0 := by
  induction n with
  | zero => exact .inl fun k hk => by omega
  | succ n ih =>
    rcases ih with h | ⟨k, hk, h1, h2⟩
    · by_cases hn : (f n).2 = 0
      · exact .inl fun k hk => by
          by_cases hkn : k = n
          · subst hkn; exact hn
          · exact h k (by omega)
      · exact .inr ⟨n, by omega, h, hn⟩
    · exact .inr ⟨k, by omega, h1, h2⟩
def dot (x y : Nat → Int) : Nat → Nat → Int → Int × Int
  | 0, _, s => (s, 0)
  | n + 1, k, s => if (fMul (x k) (y k)).2 = 0 then (if (fAdd s (fMul (x k) (y k)).1).2 = 0 then dot x y n (k + 1) (fAdd s (fMul (x k) (y k)).1).1 else (0, (fAdd s (fMul (x k) (y k)).1).2))
    else (0, (fMul (x k) (y k)).2)
theorem fAdd_range (a b : Int) : I64 (fAdd a b).1 := rng_range _
theorem fMul_range (a b : Int) : I64 (fMul a b).1 := rng_range _
theorem dot_range (x y : Nat → Int) : ∀ (n k : Nat) (s : Int), I64 s → I64 (dot x y n k s).1
  | 0, _, s, h => h
  | n + 1, k, s, h => by
    have z : I64 0 := ⟨by decide, by decide⟩
    simp only [dot]
    split
    · split
      · exact dot_range x y n _ _ (fAdd_range _ _)
      · exact z
    · exact z
abbrev rT (l : List (List Int × List Int)) : List (List PV) := l.map fun p => [eI p.1, eI p.2]
theorem p_matmul_may (l : List (List Int × List Int)) : PureC Tryz.prog fi_matmul_may [.one (.sl (rT l))] (dN (if l.all (fun p => checkT p.1 p.2) then 0 else 30)) := by
  refine pure_matmul_may (by simp) fun G hP hn => ?_
  unfold a_matmul_may
  refine T_wf 0 fun hl => ?_
  simp only [initE, lk, DV.av, wf_one, wf_sl, if_true, List.length_map] at hl
  refine go trivial trivial ?_
  refine T_for l.length (fun i (_ : Unit) => { env := [(5, .one (.p (.sl (rT l)))), (6, .one (.p (.int .i64 l.length))), (7, .one (.p (.int .i64 i)))], σ := [] })
    (fun i _ => l.all (fun p => checkT p.1 p.2) = (l.drop i).all (fun p => checkT p.1 p.2)) () rfl (.refl _ _) fun i _ hi hc => ?_
  rcases nth hi with ⟨x, hlt, hx, hd⟩ | ⟨rfl, hd⟩
  · have hw := wrap_succ hlt hl.1
    rw [hd] at hc
    simp only [List.all_cons] at hc
    cases hx1 : checkT x.1 x.2
    · refine go (aa hx <| aa hlt <| aa hw hx1) @p_tensor_Check ?_
      exact ends_ret rfl rfl rfl (by rw [hc, hx1]; rfl)
    · refine go (aa hx <| aa hlt <| aa hw hx1) @p_tensor_Check ?_
      exact rnd_next hlt () (by rw [hc, hx1]; simp) (Weak.sub fun p hp => by simp at hp)
  · rw [hd] at hc
    refine go trivial trivial ?_
    exact ends_ret rfl rfl rfl (by rw [hc]; rfl)
theorem p_matmul_Mul_1 {s d : List Int} {i k n : Nat} {x : Int} (hx : d[i * n + k]? = some x) (hm : i * n + k < 4611686018427387904) :
    PureC Tryz.prog fi_matmul_Mul_1 [dN i, dN k, bxT s d, bxN n] (dN x) := by
  refine pure_matmul_Mul_1 (by simp) fun G hP hn => ?_
  unfold a_matmul_Mul_1
  have hlt := (List.getElem?_eq_some_iff.1 hx).1
  have w1 : IntKind.i64.wrap ((i : Int) * (n : Int)) = ((i * n : Nat) : Int) := by rw [← Int.natCast_mul, wrap_in (by omega) (by omega)]
  have w2 : IntKind.i64.wrap (((i * n : Nat) : Int) + (k : Int)) = ((i * n + k : Nat) : Int) := by rw [← Int.natCast_add, wrap_in (by omega) (by omega)]
  refine go (aa w1 <| aa w2 <| aa hx hlt) trivial ?_
  exact ends_ret rfl rfl rfl rfl
theorem p_matmul_Mul_2 {t e : List Int} {k j p : Nat} {m x : Int} (hx : e[k * p + j]? = some x) (hm : k * p + j < 4611686018427387904) :
    PureC Tryz.prog fi_matmul_Mul_2 [dN k, dN j, bxT t e, .one (.box [.int .i64 m, .int .i64 p])] (dN x) := by
  refine pure_matmul_Mul_2 (by simp) fun G hP hn => ?_
  unfold a_matmul_Mul_2
  have hlt := (List.getElem?_eq_some_iff.1 hx).1
  have w1 : IntKind.i64.wrap ((k : Int) * (p : Int)) = ((k * p : Nat) : Int) := by rw [← Int.natCast_mul, wrap_in (by omega) (by omega)]
  have w2 : IntKind.i64.wrap (((k * p : Nat) : Int) + (j : Int)) = ((k * p + j : Nat) : Int) := by rw [← Int.natCast_add, wrap_in (by omega) (by omega)]
  refine go (aa w1 <| aa w2 <| aa hx hlt) trivial ?_
  exact ends_ret rfl rfl rfl rfl
end Go.AM

