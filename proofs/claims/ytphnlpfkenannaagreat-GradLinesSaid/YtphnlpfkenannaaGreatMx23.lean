import Derived.Test.YtphnlpfkenannaaGreatMx22
set_option linter.unusedVariables false
set_option linter.unusedSimpArgs false
namespace Go.AM
open Go Go.Proofs
set_option maxRecDepth 100000
set_option maxHeartbeats 4000000

def fitsS (a b : List Int) : Bool := (joinSF a b).2 == 0 && sameL (joinSF a b).1 b
theorem p_shape_Fits (a b : List Int) : PureC Tryz.prog fi_shape_Fits [dI a, dI b] (dB (fitsS a b)) := by
  refine pure_shape_Fits (by simp) fun G hP hn => ?_
  unfold a_shape_Fits
  have k := p_shape_Join a b
  have ke := p_slices_Equal (joinSF a b).1 b
  have hf : fitsS a b = ((joinSF a b).2 == 0 && sameL (joinSF a b).1 b) := rfl
  generalize joinSF a b = r at *
  cases e : (r.2 == 0)
  · refine go @e (aa k ke) ?_
    exact ends_ret rfl rfl rfl (by rw [hf, e]; rfl)
  · refine go @e (aa k ke) ?_
    exact ends_ret rfl rfl rfl (by rw [hf, e]; rfl)
def stp : List Int → List Int
  | [] => []
  | m :: r => (if m > 1 then prd r else 0) :: stp r
theorem stp_len : ∀ s : List Int, (stp s).length = s.length
  | [] => rfl
  | m :: r => by simp [stp, stp_len r]
def stepsL (s : List Int) (n : Nat) : List Int := List.replicate (n - s.length) 0 ++ stp s
def dotL : List Int → List Int → Int → Int
  | n :: x, m :: t, a => dotL x t (a + n * m)
  | _, _, a => a
def fromAt (s g : List Int) (p : Int) : Int := dotL (idxF g p) (stepsL s g.length) 0
def allF (s g : List Int) : List (List DV) := (List.range (sizeS g).toNat).map fun p => [dN ((p : Nat) : Int), dN (fromAt s g ((p : Nat) : Int))]
theorem allF_get (s g : List Int) (k : Nat) (h : k < (sizeS g).toNat) : (allF s g)[k]? = some [dN k, dN (fromAt s g k)] := by simp [allF, h]
theorem allF_len (s g : List Int) : (allF s g).length = (sizeS g).toNat := by simp [allF]
theorem p_tensor_from (s g : List Int) : PureC Tryz.prog fi_tensor_from [dI s, dI g] (.one (.fn fi_tensor_from_1 [] [.box [eI g], .box [eI s]])) := by
  refine pure_tensor_from (by simp) fun G hP hn => ?_
  unfold a_tensor_from
  refine go trivial trivial ?_
  exact ends_ret rfl rfl rfl rfl
theorem prd_drop_le {s : List Int} (h : ShapeOk s) (n : Nat) : 1 ≤ prd (s.drop n) ∧ prd (s.drop n) ≤ 64 := by
  have h1 : prd s = prd (s.take n) * prd (s.drop n) := by rw [← prd_append, List.take_append_drop]
  have h2 := prd_pos (s := s.drop n) (fun m hm => h.2.1 m (List.mem_of_mem_drop hm))
  have h3 := prd_pos (s := s.take n) (fun m hm => h.2.1 m (List.mem_of_mem_take hm))
  have h4 := h.2.2
  have : 1 * prd (s.drop n) ≤ prd (s.take n) * prd (s.drop n) := Int.mul_le_mul_of_nonneg_right h3 (by omega)
  omega
theorem stp_bound {s : List Int} (h : ShapeOk s) : ∀ (n : Nat) (x : Int), x ∈ stp (s.drop n) → 0 ≤ x ∧ x ≤ 64 := by
  have key : ∀ (k : Nat) (n : Nat), s.length - n = k → ∀ x, x ∈ stp (s.drop n) → 0 ≤ x ∧ x ≤ 64 := by
    intro k
    induction k with
    | zero => intro n hn x hx; rw [List.drop_of_length_le (by omega)] at hx; simp [stp] at hx
    | succ k ih =>
      intro n hn x hx
      rw [List.drop_eq_getElem_cons (by omega)] at hx
      simp only [stp, List.mem_cons] at hx
      rcases hx with rfl | hx
      · have := prd_drop_le h (n + 1)
        split <;> omega
      · exact ih (n + 1) (by omega) x hx
  exact fun n => key _ n rfl
theorem steps_len {s : List Int} {n : Nat} (h : s.length ≤ n) : (stepsL s n).length = n := by simp [stepsL, stp_len]; omega
theorem steps_bound {s : List Int} (h : ShapeOk s) {n i : Nat} {x : Int} (hx : (stepsL s n)[i]? = some x) : 0 ≤ x ∧ x ≤ 64 := by
  have := List.mem_of_getElem? hx
  unfold stepsL at this
  rcases List.mem_append.1 this with hm | hm
  · have := (List.mem_replicate.1 hm).2; omega
  · exact stp_bound h 0 x (by simpa using hm)
theorem q_tensor_from_1 {s g : List Int} (hs : ShapeOk s) (hg : ShapeOk g) (hl : s.length ≤ g.length) : SeqC Tryz.prog fi_tensor_from_1 [.box [eI g], .box [eI s]] (allF s g) := by
  refine seqC_of call_tensor_from_1 func_tensor_from_1 (by rfl) is_tensor_from_1 ok_tensor_from_1 rv_tensor_from_1 (Nat.le_of_ble_eq_true (by rfl)) fun R l σ fr G ex hP hnt hR hno hA fam hex hy => ?_
  have hnt : G.nt = 77 := hnt
  refine T_room 15 fun ρ hρ hlo hnr hxr => ?_
  simp only [AS.ren, List.map, AV.ren, AC.ren, initV, Nat.zero_add, Nat.reduceAdd] at hlo hnr hxr ⊢
  generalize hS0 : renS ρ (σ 0) = S0 at *
  generalize hE : ex.map (AV.ren ρ) = E at *
  unfold a_tensor_from_1
  have hM : MaxN = 140737488355328 := rfl
  have h3 := hg.1
  have q1 : (g.length : Int) * 8 ≤ MaxN := by omega
  have q2 : (g.length : Int) ≤ MaxN := by omega
  have hnr' := hnr
  simp only [AO.nr] at hnr'
  have hsl := hs.1
  have w0 : IntKind.i64.wrap ((s.length : Int) - 1) = (s.length : Int) - 1 := wrap_in (by omega) (by omega)
  repeat' (first     | refine T_then ?_ | refine then_ret ?_ | refine then_exit ?_ | refine then_goto ?_     | refine rnd_exit ?_ | refine rnd_ret ?_ | refine rnd_goto ?_     | refine noGo_normal ?_ | refine noGo_ret ?_ | refine noGo_exit ?_ | refine jmp_normal ?_ | refine jmp_ret ?_ | refine jmp_exit ?_ | refine jmp_goto ?_     | refine inB_normal ?_ | refine inB_ret ?_ | refine inB_goto ?_ | refine inB_exit ?_ | refine inB_exit_ne rfl ?_     | ((first | apply T_srE fw | apply T_regE fw); · ((try simp only [go_sem, seval, reduceIte, ↓reduceIte, hP, hlo, hnr', hxr, scr_ex hxr, w0, q1, q2, Int.le_refl]); (repeat ((first       | (refine ⟨true, false, rfl, fun h => absurd h (by decide), ?_⟩) | (refine ⟨false, false, rfl, fun h => absurd h (by decide), ?_⟩) | refine ⟨_, _, rfl, fun _ => rfl, ?_⟩); (try simp only [go_sem, seval, reduceIte, ↓reduceIte, hP, hlo, hnr', hxr, scr_ex hxr, w0, q1, q2, Int.le_refl]))); (first | done | exact rfl)))     | ((first | apply T_sdF fw (by rw [hP]; rfl) (by decide +kernel) | apply T_drF fw (by rw [hP]; rfl) (by decide +kernel)); · ((try simp only [TOps.flat, List.cons_append, List.nil_append]); (repeat ((first | refine Y_g0 ?_ | refine Y_g (by (try simp only [go_sem, seval, reduceIte, ↓reduceIte, Bool.not_eq_true, reduceCtorEq, beq_false, beq_true, hP, hlo, hnr', hxr, scr_ex hxr, w0, q1, q2, Int.le_refl]); (first | done | exact rfl)) ?_); (first | refine Y_skip ?_ | ((first | apply Y_q); (· ((try simp only [go_sem, seval, reduceIte, ↓reduceIte, Bool.not_eq_true, reduceCtorEq, beq_false, beq_true, hP, hlo, hnr', hxr, scr_ex hxr, w0, q1, q2, Int.le_refl]); (first | done | exact rfl))))))); apply RunF_nil; (try simp only [go_sem, seval, reduceIte, ↓reduceIte, Bool.not_eq_true, reduceCtorEq, beq_false, beq_true, hP, hlo, hnr', hxr, scr_ex hxr, w0, q1, q2, Int.le_refl]); (first | done | exact rfl)))     | ((first | apply T_sd fw (by rw [hP]; rfl) | apply T_dr fw (by rw [hP]; rfl)); · ((try simp only [go_sem, seval, reduceIte, ↓reduceIte, bne, beq_false, beq_true, Bool.not_eq_true, Bool.if_true_right, decide_not, reduceCtorEq, hP, hlo, hnr', hxr, scr_ex hxr, w0, q1, q2, Int.le_refl]); (first | done | exact rfl)))     | refine T_seq ?_ | refine T_block ?_ | refine T_scopeJ 0 rfl ?_ | refine T_scope ?_ | refine T_goto ?_ | refine T_ret ?_ | refine T_skip ?_ | refine T_exit ?_ | refine T_label ?_     | refine T_condT rfl ?_ | refine T_condF rfl ?_     | refine T_condD rfl (fun _ => ?_) (fun _ => ?_)     | refine T_cond rfl (fun _ => ?_) (fun _ => ?_))
  refine T_for s.length (fun _ (a : Int × Int × List Int) => { env := [(0, .one (.raw (.func (.yield l) #[] #[]))), (1, .one (.p (.box [eI g]))), (2, .one (.p (.box [eI s]))), (4, .one (.msl 15 0 1 g.length (some g.length))), (5, .one (.p (.int .i64 a.1))), (6, .one (.p (.int .i64 a.2.1)))], σ := (15, .arr true 1 (rI a.2.2)) :: S0, ex := E })
    (fun k a => a.1 = (s.length : Int) - 1 - k ∧ a.2.1 = prd (s.drop (s.length - k)) ∧ a.2.2 = List.replicate (g.length - k) 0 ++ stp (s.drop (s.length - k))) ((s.length : Int) - 1, 1, List.replicate g.length 0)
    ⟨by simp, by simp [prd], by simp [stp]⟩ ?_ fun k a hk ha => ?_
  · refine Weak.sto (s := { env := _, σ := _, ex := E }) fun t => .inl ?_
    simp [lo, rI]
  obtain ⟨i5, st, R'⟩ := a
  obtain ⟨h5, hst, hR'⟩ := ha
  simp only at h5 hst hR'
  by_cases hlt : k < s.length
  · obtain ⟨j, hj⟩ : ∃ j, j = s.length - 1 - k := ⟨_, rfl⟩
    have h5' : i5 = (j : Int) := by omega
    subst h5'
    have hjl : j < s.length := by omega
    have hd : s.drop j = s[j] :: s.drop (j + 1) := List.drop_eq_getElem_cons hjl
    have hx : s[j]? = some s[j] := List.getElem?_eq_getElem hjl
    rw [show s.length - k = j + 1 from by omega] at hst hR'
    have hm := hs.2.1 _ (List.getElem_mem hjl)
    have hb := prd_drop_le hs j
    have hb2 := prd_drop_le hs (j + 1)
    have hp : prd (s.drop j) = s[j] * prd (s.drop (j + 1)) := by rw [hd]; rfl
    have hstp : stp (s.drop j) = (if s[j] > 1 then prd (s.drop (j + 1)) else 0) :: stp (s.drop (j + 1)) := by rw [hd]; rfl
    rw [← hst] at hp hstp hb2
    have w1 : IntKind.i64.wrap (st * s[j]) = st * s[j] := by rw [Int.mul_comm]; exact wrap_in (by omega) (by omega)
    have w2 : IntKind.i64.wrap ((j : Int) - 1) = (j : Int) - 1 := wrap_in (by omega) (by omega)
    have w3 : IntKind.i64.wrap ((g.length : Int) - (s.length : Int)) = ((g.length - s.length : Nat) : Int) := by rw [wrap_in (by omega) (by omega)]; omega
    have w4 : IntKind.i64.wrap (((g.length - s.length : Nat) : Int) + (j : Int)) = ((g.length - 1 - k : Nat) : Int) := by rw [wrap_in (by omega) (by omega)]; omega
    have hrep : List.replicate (g.length - k) (0 : Int) = List.replicate (g.length - 1 - k + 1) 0 := by congr 1; omega
    rw [hrep] at hR'
    have hz : R'[g.length - 1 - k]? = some 0 := by
      rw [hR', List.getElem?_append_left (by simp)]; simp
    have hset := rep_set (g.length - 1 - k) st (stp (s.drop (j + 1)))
    rw [← hR'] at hset
    have hlen : R'.length = g.length := by rw [hR']; simp [stp_len]; omega
    have c0 : ((j : Int) ≥ 0) = True := by simp
    have c2 : g.length - 1 - k < g.length := by omega
    have inv1 : (j : Int) - 1 = (s.length : Int) - 1 - ((k + 1 : Nat) : Int) := by omega
    have inv2 : st * s[j] = prd (s.drop (s.length - (k + 1))) := by rw [show s.length - (k + 1) = j from by omega, hp, Int.mul_comm]
    by_cases hm1 : s[j] > 1
    · repeat' (first     | refine T_then ?_ | refine then_ret ?_ | refine then_exit ?_ | refine then_goto ?_     | refine rnd_exit ?_ | refine rnd_ret ?_ | refine rnd_goto ?_     | refine noGo_normal ?_ | refine noGo_ret ?_ | refine noGo_exit ?_ | refine jmp_normal ?_ | refine jmp_ret ?_ | refine jmp_exit ?_ | refine jmp_goto ?_     | refine inB_normal ?_ | refine inB_ret ?_ | refine inB_goto ?_ | refine inB_exit ?_ | refine inB_exit_ne rfl ?_     | ((first | apply T_srE fw | apply T_regE fw); · ((try simp only [go_sem, seval, reduceIte, ↓reduceIte, hP, c0, hx, hjl, hm1, w1, w2, w3, w4, hz, hlen, c2, rI_set]); (repeat ((first       | (refine ⟨true, false, rfl, fun h => absurd h (by decide), ?_⟩) | (refine ⟨false, false, rfl, fun h => absurd h (by decide), ?_⟩) | refine ⟨_, _, rfl, fun _ => rfl, ?_⟩); (try simp only [go_sem, seval, reduceIte, ↓reduceIte, hP, c0, hx, hjl, hm1, w1, w2, w3, w4, hz, hlen, c2, rI_set]))); (first | done | exact rfl)))     | ((first | apply T_sdF fw (by rw [hP]; rfl) (by decide +kernel) | apply T_drF fw (by rw [hP]; rfl) (by decide +kernel)); · ((try simp only [TOps.flat, List.cons_append, List.nil_append]); (repeat ((first | refine Y_g0 ?_ | refine Y_g (by (try simp only [go_sem, seval, reduceIte, ↓reduceIte, Bool.not_eq_true, reduceCtorEq, beq_false, beq_true, hP, c0, hx, hjl, hm1, w1, w2, w3, w4, hz, hlen, c2, rI_set]); (first | done | exact rfl)) ?_); (first | refine Y_skip ?_ | ((first | apply Y_q); (· ((try simp only [go_sem, seval, reduceIte, ↓reduceIte, Bool.not_eq_true, reduceCtorEq, beq_false, beq_true, hP, c0, hx, hjl, hm1, w1, w2, w3, w4, hz, hlen, c2, rI_set]); (first | done | exact rfl))))))); apply RunF_nil; (try simp only [go_sem, seval, reduceIte, ↓reduceIte, Bool.not_eq_true, reduceCtorEq, beq_false, beq_true, hP, c0, hx, hjl, hm1, w1, w2, w3, w4, hz, hlen, c2, rI_set]); (first | done | exact rfl)))     | ((first | apply T_sd fw (by rw [hP]; rfl) | apply T_dr fw (by rw [hP]; rfl)); · ((try simp only [go_sem, seval, reduceIte, ↓reduceIte, bne, beq_false, beq_true, Bool.not_eq_true, Bool.if_true_right, decide_not, reduceCtorEq, hP, c0, hx, hjl, hm1, w1, w2, w3, w4, hz, hlen, c2, rI_set]); (first | done | exact rfl)))     | refine T_seq ?_ | refine T_block ?_ | refine T_scopeJ 0 rfl ?_ | refine T_scope ?_ | refine T_goto ?_ | refine T_ret ?_ | refine T_skip ?_ | refine T_exit ?_ | refine T_label ?_     | refine T_condT rfl ?_ | refine T_condF rfl ?_     | refine T_condD rfl (fun _ => ?_) (fun _ => ?_)     | refine T_cond rfl (fun _ => ?_) (fun _ => ?_))
      refine rnd_next hlt ((j : Int) - 1, st * s[j], R'.set (g.length - 1 - k) st) ⟨inv1, inv2, ?_⟩ (Weak.sto (s := { env := _, σ := _, ex := E }) fun t => .inl ?_)
      · rw [hset, show s.length - (k + 1) = j from by omega, hstp, if_pos hm1, show g.length - (k + 1) = g.length - 1 - k from by omega]
      · simp only [lo]; split <;> rfl
    · repeat' (first     | refine T_then ?_ | refine then_ret ?_ | refine then_exit ?_ | refine then_goto ?_     | refine rnd_exit ?_ | refine rnd_ret ?_ | refine rnd_goto ?_     | refine noGo_normal ?_ | refine noGo_ret ?_ | refine noGo_exit ?_ | refine jmp_normal ?_ | refine jmp_ret ?_ | refine jmp_exit ?_ | refine jmp_goto ?_     | refine inB_normal ?_ | refine inB_ret ?_ | refine inB_goto ?_ | refine inB_exit ?_ | refine inB_exit_ne rfl ?_     | ((first | apply T_srE fw | apply T_regE fw); · ((try simp only [go_sem, seval, reduceIte, ↓reduceIte, hP, c0, hx, hjl, hm1, w1, w2, w3, w4]); (repeat ((first       | (refine ⟨true, false, rfl, fun h => absurd h (by decide), ?_⟩) | (refine ⟨false, false, rfl, fun h => absurd h (by decide), ?_⟩) | refine ⟨_, _, rfl, fun _ => rfl, ?_⟩); (try simp only [go_sem, seval, reduceIte, ↓reduceIte, hP, c0, hx, hjl, hm1, w1, w2, w3, w4]))); (first | done | exact rfl)))     | ((first | apply T_sdF fw (by rw [hP]; rfl) (by decide +kernel) | apply T_drF fw (by rw [hP]; rfl) (by decide +kernel)); · ((try simp only [TOps.flat, List.cons_append, List.nil_append]); (repeat ((first | refine Y_g0 ?_ | refine Y_g (by (try simp only [go_sem, seval, reduceIte, ↓reduceIte, Bool.not_eq_true, reduceCtorEq, beq_false, beq_true, hP, c0, hx, hjl, hm1, w1, w2, w3, w4]); (first | done | exact rfl)) ?_); (first | refine Y_skip ?_ | ((first | apply Y_q); (· ((try simp only [go_sem, seval, reduceIte, ↓reduceIte, Bool.not_eq_true, reduceCtorEq, beq_false, beq_true, hP, c0, hx, hjl, hm1, w1, w2, w3, w4]); (first | done | exact rfl))))))); apply RunF_nil; (try simp only [go_sem, seval, reduceIte, ↓reduceIte, Bool.not_eq_true, reduceCtorEq, beq_false, beq_true, hP, c0, hx, hjl, hm1, w1, w2, w3, w4]); (first | done | exact rfl)))     | ((first | apply T_sd fw (by rw [hP]; rfl) | apply T_dr fw (by rw [hP]; rfl)); · ((try simp only [go_sem, seval, reduceIte, ↓reduceIte, bne, beq_false, beq_true, Bool.not_eq_true, Bool.if_true_right, decide_not, reduceCtorEq, hP, c0, hx, hjl, hm1, w1, w2, w3, w4]); (first | done | exact rfl)))     | refine T_seq ?_ | refine T_block ?_ | refine T_scopeJ 0 rfl ?_ | refine T_scope ?_ | refine T_goto ?_ | refine T_ret ?_ | refine T_skip ?_ | refine T_exit ?_ | refine T_label ?_     | refine T_condT rfl ?_ | refine T_condF rfl ?_     | refine T_condD rfl (fun _ => ?_) (fun _ => ?_)     | refine T_cond rfl (fun _ => ?_) (fun _ => ?_))
      refine rnd_next hlt ((j : Int) - 1, st * s[j], R') ⟨inv1, inv2, ?_⟩ (.refl _ _)
      rw [show s.length - (k + 1) = j from by omega, hstp, if_neg hm1, hR', show g.length - (k + 1) = g.length - 1 - k from by omega, List.replicate_succ']
      simp
  have hke : k = s.length := by omega
  rw [hke, Nat.sub_self, List.drop_zero] at hR'
  have c0 : ¬ i5 ≥ 0 := by omega
  repeat' (first     | refine T_then ?_ | refine then_ret ?_ | refine then_exit ?_ | refine then_goto ?_     | refine rnd_exit ?_ | refine rnd_ret ?_ | refine rnd_goto ?_     | refine noGo_normal ?_ | refine noGo_ret ?_ | refine noGo_exit ?_ | refine jmp_normal ?_ | refine jmp_ret ?_ | refine jmp_exit ?_ | refine jmp_goto ?_     | refine inB_normal ?_ | refine inB_ret ?_ | refine inB_goto ?_ | refine inB_exit ?_ | refine inB_exit_ne rfl ?_     | ((first | apply T_srE fw | apply T_regE fw); · ((try simp only [go_sem, seval, reduceIte, ↓reduceIte, hP, c0]); (repeat ((first       | (refine ⟨true, false, rfl, fun h => absurd h (by decide), ?_⟩) | (refine ⟨false, false, rfl, fun h => absurd h (by decide), ?_⟩) | refine ⟨_, _, rfl, fun _ => rfl, ?_⟩       | (refine .inl ⟨_, _, ⟨_, _, _, _, _, _, rfl, rfl, rfl, p_shape_Size _⟩, ?_⟩)       | (refine ⟨_, ?_, rfl, fun _ => ⟨_, ⟨_, _, _, _, _, _, rfl, rfl, rfl, p_shape_Size _⟩, ?_⟩, ?_⟩; rotate_left; (· (simp only [go_sem, seval, reduceIte, ↓reduceIte, hP, c0]; first | done | exact rfl)))); (try simp only [go_sem, seval, reduceIte, ↓reduceIte, hP, c0]))); (first | done | exact rfl)))     | ((first | apply T_sdF fw (by rw [hP]; rfl) (by decide +kernel) | apply T_drF fw (by rw [hP]; rfl) (by decide +kernel)); · ((try simp only [TOps.flat, List.cons_append, List.nil_append]); (repeat ((first | refine Y_g0 ?_ | refine Y_g (by (try simp only [go_sem, seval, reduceIte, ↓reduceIte, Bool.not_eq_true, reduceCtorEq, beq_false, beq_true, hP, c0]); (first | done | exact rfl)) ?_); (first | refine Y_skip ?_ | ((first | apply Y_q | (refine Y_call ⟨_, _, _, _, _, _, rfl, rfl, rfl, (by rw [hP]; exact p_shape_Size _)⟩ ?_ ?_)); (· ((try simp only [go_sem, seval, reduceIte, ↓reduceIte, Bool.not_eq_true, reduceCtorEq, beq_false, beq_true, hP, c0]); (first | done | exact rfl))))))); apply RunF_nil; (try simp only [go_sem, seval, reduceIte, ↓reduceIte, Bool.not_eq_true, reduceCtorEq, beq_false, beq_true, hP, c0]); (first | done | exact rfl)))     | ((first | apply T_sd fw (by rw [hP]; rfl) | apply T_dr fw (by rw [hP]; rfl)); · ((try simp only [go_sem, seval, reduceIte, ↓reduceIte, bne, beq_false, beq_true, Bool.not_eq_true, Bool.if_true_right, decide_not, reduceCtorEq, hP, c0]); (repeat ((first       | (refine ⟨_, ⟨_, _, _, _, _, _, rfl, rfl, rfl, p_shape_Size _⟩, ?_⟩)); (try simp only [go_sem, seval, reduceIte, ↓reduceIte, bne, beq_false, beq_true, Bool.not_eq_true, Bool.if_true_right, decide_not, reduceCtorEq, hP, c0]))); (first | done | exact rfl)))     | refine T_seq ?_ | refine T_block ?_ | refine T_scopeJ 0 rfl ?_ | refine T_scope ?_ | refine T_goto ?_ | refine T_ret ?_ | refine T_skip ?_ | refine T_exit ?_ | refine T_label ?_     | refine T_condT rfl ?_ | refine T_condF rfl ?_     | refine T_condD rfl (fun _ => ?_) (fun _ => ?_)     | refine T_cond rfl (fun _ => ?_) (fun _ => ?_))
  have hRs : R' = stepsL s g.length := hR'
  have hRl : R'.length = g.length := by rw [hRs]; exact steps_len hl
  refine T_weak (Weak.freeze (i := 4) rfl (toD_list (n := 5) (rows := rI R') (m := true) rfl (by simp [hRl]))) ?_
  simp only [if_true]
  refine T_weak (s' := { env := [(0, .one (.raw (.func (.yield l) #[] #[]))), (1, .one (.p (.box [eI g]))), (4, .one (.p (eI R'))), (45, .one (.p (.int .i64 (sizeS g)))), (46, .one (.p (.int .i64 0)))], σ := S0, ex := E })
    ((Weak.pick [0, 1, 4, 45, 46]).trans (Weak.sto (s := { env := _, σ := _, ex := E }) fun t => ?_)) ?_
  · by_cases h : t = 15
    · exact .inr (by rw [h]; exact hlo)
    · exact .inl (by simp [lo, h])
  refine T_weak (Weak.ren hρ) ?_
  simp only [AS.ren, List.map, AV.ren, AC.ren]
  have hS1 : renS ρ S0 = σ 0 := by rw [← hS0, renS_renS hρ]
  have hE1 : E.map (AV.ren ρ) = ex := by
    rw [← hE, List.map_map]
    conv => rhs; rw [← List.map_id ex]
    exact List.map_congr_left fun v _ => AV.ren_ren hρ v
  rw [hS1, hE1]
  have hz2 := sizeS_nn g
  refine T_for (sizeS g).toNat (fun i (_ : Unit) => { env := [(0, .one (.raw (.func (.yield l) #[] #[]))), (1, .one (.p (.box [eI g]))), (4, .one (.p (eI R'))), (45, .one (.p (.int .i64 (sizeS g)))), (46, .one (.p (.int .i64 i)))], σ := σ i, ex := ex })
    (fun _ _ => True) () trivial (.refl _ _) fun i _ hi _ => ?_
  by_cases hlt2 : i < (sizeS g).toNat
  rotate_left
  · have c1 : ¬ (i : Int) < sizeS g := by omega
    have e1 : i = (allF s g).length := by rw [allF_len]; omega
    repeat' (first     | refine T_then ?_ | refine then_ret ?_ | refine then_exit ?_ | refine then_goto ?_     | refine rnd_exit ?_ | refine rnd_ret ?_ | refine rnd_goto ?_     | refine noGo_normal ?_ | refine noGo_ret ?_ | refine noGo_exit ?_ | refine jmp_normal ?_ | refine jmp_ret ?_ | refine jmp_exit ?_ | refine jmp_goto ?_     | refine inB_normal ?_ | refine inB_ret ?_ | refine inB_goto ?_ | refine inB_exit ?_ | refine inB_exit_ne rfl ?_     | ((first | apply T_srE fw | apply T_regE fw); · ((try simp only [go_sem, seval, reduceIte, ↓reduceIte, hP, c1]); (repeat ((first       | (refine ⟨true, false, rfl, fun h => absurd h (by decide), ?_⟩) | (refine ⟨false, false, rfl, fun h => absurd h (by decide), ?_⟩) | refine ⟨_, _, rfl, fun _ => rfl, ?_⟩); (try simp only [go_sem, seval, reduceIte, ↓reduceIte, hP, c1]))); (first | done | exact rfl)))     | ((first | apply T_sdF fw (by rw [hP]; rfl) (by decide +kernel) | apply T_drF fw (by rw [hP]; rfl) (by decide +kernel)); · ((try simp only [TOps.flat, List.cons_append, List.nil_append]); (repeat ((first | refine Y_g0 ?_ | refine Y_g (by (try simp only [go_sem, seval, reduceIte, ↓reduceIte, Bool.not_eq_true, reduceCtorEq, beq_false, beq_true, hP, c1]); (first | done | exact rfl)) ?_); (first | refine Y_skip ?_ | ((first | apply Y_q); (· ((try simp only [go_sem, seval, reduceIte, ↓reduceIte, Bool.not_eq_true, reduceCtorEq, beq_false, beq_true, hP, c1]); (first | done | exact rfl))))))); apply RunF_nil; (try simp only [go_sem, seval, reduceIte, ↓reduceIte, Bool.not_eq_true, reduceCtorEq, beq_false, beq_true, hP, c1]); (first | done | exact rfl)))     | ((first | apply T_sd fw (by rw [hP]; rfl) | apply T_dr fw (by rw [hP]; rfl)); · ((try simp only [go_sem, seval, reduceIte, ↓reduceIte, bne, beq_false, beq_true, Bool.not_eq_true, Bool.if_true_right, decide_not, reduceCtorEq, hP, c1]); (first | done | exact rfl)))     | refine T_seq ?_ | refine T_block ?_ | refine T_scopeJ 0 rfl ?_ | refine T_scope ?_ | refine T_goto ?_ | refine T_ret ?_ | refine T_skip ?_ | refine T_exit ?_ | refine T_label ?_     | refine T_condT rfl ?_ | refine T_condF rfl ?_     | refine T_condD rfl (fun _ => ?_) (fun _ => ?_)     | refine T_cond rfl (fun _ => ?_) (fun _ => ?_))
    exact ⟨.inl rfl, by rw [e1], rfl⟩
  have c1 : (i : Int) < sizeS g := by omega
  have w1 : IntKind.i64.wrap ((i : Int) + 1) = ((i + 1 : Nat) : Int) := by rw [wrap_in (by omega) (by omega)]; rfl
  have hpx : PureC Tryz.prog fi_shape_Index [dI g, dN i] (.tup [dI (idxF g i), dN 0]) := by
    have := p_shape_Index g i
    rw [if_neg (by simp; omega)] at this
    exact this
  have hyi := hy i _ (allF_get s g i hlt2)
  have hix : InIdx g (idxF g i) := by rw [idxF_eq hg.2.1 (by omega) (by omega)]; exact ix_in hg.2.1
  have hfa : fromAt s g i = dotL (idxF g i) R' 0 := by rw [hRs]; rfl
  have hxl := hix.length
  generalize idxF g (i : Int) = x at *
  repeat' (first     | refine T_then ?_ | refine then_ret ?_ | refine then_exit ?_ | refine then_goto ?_     | refine rnd_exit ?_ | refine rnd_ret ?_ | refine rnd_goto ?_     | refine noGo_normal ?_ | refine noGo_ret ?_ | refine noGo_exit ?_ | refine jmp_normal ?_ | refine jmp_ret ?_ | refine jmp_exit ?_ | refine jmp_goto ?_     | refine inB_normal ?_ | refine inB_ret ?_ | refine inB_goto ?_ | refine inB_exit ?_ | refine inB_exit_ne rfl ?_     | ((first | apply T_srE fw | apply T_regE fw); · ((try simp only [go_sem, seval, reduceIte, ↓reduceIte, hP, c1, w1]); (repeat ((first       | (refine ⟨true, false, rfl, fun h => absurd h (by decide), ?_⟩) | (refine ⟨false, false, rfl, fun h => absurd h (by decide), ?_⟩) | refine ⟨_, _, rfl, fun _ => rfl, ?_⟩       | (refine .inl ⟨_, _, ⟨_, _, _, _, _, _, rfl, rfl, rfl, hpx⟩, ?_⟩)       | (refine ⟨_, ?_, rfl, fun _ => ⟨_, ⟨_, _, _, _, _, _, rfl, rfl, rfl, hpx⟩, ?_⟩, ?_⟩; rotate_left; (· (simp only [go_sem, seval, reduceIte, ↓reduceIte, hP, c1, w1]; first | done | exact rfl)))); (try simp only [go_sem, seval, reduceIte, ↓reduceIte, hP, c1, w1]))); (first | done | exact rfl)))     | ((first | apply T_sdF fw (by rw [hP]; rfl) (by decide +kernel) | apply T_drF fw (by rw [hP]; rfl) (by decide +kernel)); · ((try simp only [TOps.flat, List.cons_append, List.nil_append]); (repeat ((first | refine Y_g0 ?_ | refine Y_g (by (try simp only [go_sem, seval, reduceIte, ↓reduceIte, Bool.not_eq_true, reduceCtorEq, beq_false, beq_true, hP, c1, w1]); (first | done | exact rfl)) ?_); (first | refine Y_skip ?_ | ((first | apply Y_q | (refine Y_call ⟨_, _, _, _, _, _, rfl, rfl, rfl, (by rw [hP]; exact hpx)⟩ ?_ ?_)); (· ((try simp only [go_sem, seval, reduceIte, ↓reduceIte, Bool.not_eq_true, reduceCtorEq, beq_false, beq_true, hP, c1, w1]); (first | done | exact rfl))))))); apply RunF_nil; (try simp only [go_sem, seval, reduceIte, ↓reduceIte, Bool.not_eq_true, reduceCtorEq, beq_false, beq_true, hP, c1, w1]); (first | done | exact rfl)))     | ((first | apply T_sd fw (by rw [hP]; rfl) | apply T_dr fw (by rw [hP]; rfl)); · ((try simp only [go_sem, seval, reduceIte, ↓reduceIte, bne, beq_false, beq_true, Bool.not_eq_true, Bool.if_true_right, decide_not, reduceCtorEq, hP, c1, w1]); (repeat ((first       | (refine ⟨_, ⟨_, _, _, _, _, _, rfl, rfl, rfl, hpx⟩, ?_⟩)); (try simp only [go_sem, seval, reduceIte, ↓reduceIte, bne, beq_false, beq_true, Bool.not_eq_true, Bool.if_true_right, decide_not, reduceCtorEq, hP, c1, w1]))); (first | done | exact rfl)))     | refine T_seq ?_ | refine T_block ?_ | refine T_scopeJ 0 rfl ?_ | refine T_scope ?_ | refine T_goto ?_ | refine T_ret ?_ | refine T_skip ?_ | refine T_exit ?_ | refine T_label ?_     | refine T_condT rfl ?_ | refine T_condF rfl ?_     | refine T_condD rfl (fun _ => ?_) (fun _ => ?_)     | refine T_cond rfl (fun _ => ?_) (fun _ => ?_))
  refine T_for x.length (fun j (at_ : Int) => { env := [(0, .one (.raw (.func (.yield l) #[] #[]))), (1, .one (.p (.box [eI g]))), (4, .one (.p (eI R'))), (7, .one (.p (.int .i64 i))), (10, .one (.p (.int .i64 at_))), (45, .one (.p (.int .i64 (sizeS g)))), (46, .one (.p (.int .i64 i))), (55, .one (.p (eI x))), (56, .one (.p (.int .i64 x.length))), (57, .one (.p (.int .i64 j)))], σ := σ i, ex := ex })
    (fun j at_ => 0 ≤ at_ ∧ at_ ≤ j * 1024 ∧ dotL (x.drop j) (R'.drop j) at_ = fromAt s g i) 0 ⟨by omega, by omega, by rw [hfa]; rfl⟩ (.refl _ _) fun j at_ hj hat => ?_
  obtain ⟨a0, a1, hdot⟩ := hat
  have hg3 := hg.1
  by_cases hjl : j < x.length
  · have c2 : (j : Int) < (x.length : Int) := by omega
    have w2 : IntKind.i64.wrap ((j : Int) + 1) = ((j + 1 : Nat) : Int) := by rw [wrap_in (by omega) (by omega)]; rfl
    have hjR : j < R'.length := by omega
    have hx : x[j]? = some x[j] := List.getElem?_eq_getElem hjl
    have hr : R'[j]? = some R'[j] := List.getElem?_eq_getElem hjR
    have hgj : g[j]? = some g[j] := List.getElem?_eq_getElem (by omega)
    obtain ⟨k', hk', k0, k1⟩ := hix.get hgj
    rw [hx] at hk'; cases hk'
    have hgb := hg.2.1 _ (List.mem_of_getElem? hgj)
    have hrb : 0 ≤ R'[j] ∧ R'[j] ≤ 64 := steps_bound hs (n := g.length) (i := j) (by rw [← hRs]; exact hr)
    rw [List.drop_eq_getElem_cons hjl, List.drop_eq_getElem_cons hjR] at hdot
    simp only [dotL] at hdot
    have hpr : 0 ≤ x[j] * R'[j] ∧ x[j] * R'[j] ≤ 1024 := by
      refine ⟨Int.mul_nonneg k0 hrb.1, ?_⟩
      have h1 : x[j] * R'[j] ≤ 16 * R'[j] := Int.mul_le_mul_of_nonneg_right (by omega) hrb.1
      omega
    have w3 : IntKind.i64.wrap (x[j] * R'[j]) = x[j] * R'[j] := wrap_in (by omega) (by omega)
    generalize x[j] = xj at *
    generalize R'[j] = rj at *
    generalize hpq : xj * rj = pr at *
    have w4 : IntKind.i64.wrap (at_ + pr) = at_ + pr := wrap_in (by omega) (by omega)
    repeat' (first     | refine T_then ?_ | refine then_ret ?_ | refine then_exit ?_ | refine then_goto ?_     | refine rnd_exit ?_ | refine rnd_ret ?_ | refine rnd_goto ?_     | refine noGo_normal ?_ | refine noGo_ret ?_ | refine noGo_exit ?_ | refine jmp_normal ?_ | refine jmp_ret ?_ | refine jmp_exit ?_ | refine jmp_goto ?_     | refine inB_normal ?_ | refine inB_ret ?_ | refine inB_goto ?_ | refine inB_exit ?_ | refine inB_exit_ne rfl ?_     | ((first | apply T_srE fw | apply T_regE fw); · ((try simp only [go_sem, seval, reduceIte, ↓reduceIte, hP, c2, w2, hx, hr, hjl, hjR, w3, hpq, w4]); (repeat ((first       | (refine ⟨true, false, rfl, fun h => absurd h (by decide), ?_⟩) | (refine ⟨false, false, rfl, fun h => absurd h (by decide), ?_⟩) | refine ⟨_, _, rfl, fun _ => rfl, ?_⟩); (try simp only [go_sem, seval, reduceIte, ↓reduceIte, hP, c2, w2, hx, hr, hjl, hjR, w3, hpq, w4]))); (first | done | exact rfl)))     | ((first | apply T_sdF fw (by rw [hP]; rfl) (by decide +kernel) | apply T_drF fw (by rw [hP]; rfl) (by decide +kernel)); · ((try simp only [TOps.flat, List.cons_append, List.nil_append]); (repeat ((first | refine Y_g0 ?_ | refine Y_g (by (try simp only [go_sem, seval, reduceIte, ↓reduceIte, Bool.not_eq_true, reduceCtorEq, beq_false, beq_true, hP, c2, w2, hx, hr, hjl, hjR, w3, hpq, w4]); (first | done | exact rfl)) ?_); (first | refine Y_skip ?_ | ((first | apply Y_q); (· ((try simp only [go_sem, seval, reduceIte, ↓reduceIte, Bool.not_eq_true, reduceCtorEq, beq_false, beq_true, hP, c2, w2, hx, hr, hjl, hjR, w3, hpq, w4]); (first | done | exact rfl))))))); apply RunF_nil; (try simp only [go_sem, seval, reduceIte, ↓reduceIte, Bool.not_eq_true, reduceCtorEq, beq_false, beq_true, hP, c2, w2, hx, hr, hjl, hjR, w3, hpq, w4]); (first | done | exact rfl)))     | ((first | apply T_sd fw (by rw [hP]; rfl) | apply T_dr fw (by rw [hP]; rfl)); · ((try simp only [go_sem, seval, reduceIte, ↓reduceIte, bne, beq_false, beq_true, Bool.not_eq_true, Bool.if_true_right, decide_not, reduceCtorEq, hP, c2, w2, hx, hr, hjl, hjR, w3, hpq, w4]); (first | done | exact rfl)))     | refine T_seq ?_ | refine T_block ?_ | refine T_scopeJ 0 rfl ?_ | refine T_scope ?_ | refine T_goto ?_ | refine T_ret ?_ | refine T_skip ?_ | refine T_exit ?_ | refine T_label ?_     | refine T_condT rfl ?_ | refine T_condF rfl ?_     | refine T_condD rfl (fun _ => ?_) (fun _ => ?_)     | refine T_cond rfl (fun _ => ?_) (fun _ => ?_))
    exact rnd_next hjl (at_ + pr) ⟨by omega, by push_cast; omega, hdot⟩ (.refl _ _)
  · have hje : j = x.length := by omega
    have c2 : ¬ (j : Int) < (x.length : Int) := by omega
    rw [hje, List.drop_of_length_le (Nat.le_refl _)] at hdot
    simp only [dotL] at hdot
    rw [← hdot] at hyi
    repeat' (first     | refine T_then ?_ | refine then_ret ?_ | refine then_exit ?_ | refine then_goto ?_     | refine rnd_exit ?_ | refine rnd_ret ?_ | refine rnd_goto ?_     | refine noGo_normal ?_ | refine noGo_ret ?_ | refine noGo_exit ?_ | refine jmp_normal ?_ | refine jmp_ret ?_ | refine jmp_exit ?_ | refine jmp_goto ?_     | refine inB_normal ?_ | refine inB_ret ?_ | refine inB_goto ?_ | refine inB_exit ?_ | refine inB_exit_ne rfl ?_     | ((first | apply T_srE fw | apply T_regE fw); · ((try simp only [go_sem, seval, reduceIte, ↓reduceIte, hP, c2]); (repeat ((first       | (refine ⟨true, false, rfl, fun h => absurd h (by decide), ?_⟩) | (refine ⟨false, false, rfl, fun h => absurd h (by decide), ?_⟩) | refine ⟨_, _, rfl, fun _ => rfl, ?_⟩); (try simp only [go_sem, seval, reduceIte, ↓reduceIte, hP, c2]))); (first | done | exact rfl)))     | ((first | apply T_sdF fw (by rw [hP]; rfl) (by decide +kernel) | apply T_drF fw (by rw [hP]; rfl) (by decide +kernel)); · ((try simp only [TOps.flat, List.cons_append, List.nil_append]); (repeat ((first | refine Y_g0 ?_ | refine Y_g (by (try simp only [go_sem, seval, reduceIte, ↓reduceIte, Bool.not_eq_true, reduceCtorEq, beq_false, beq_true, hP, c2]); (first | done | exact rfl)) ?_); (first | refine Y_skip ?_ | ((first | apply Y_q); (· ((try simp only [go_sem, seval, reduceIte, ↓reduceIte, Bool.not_eq_true, reduceCtorEq, beq_false, beq_true, hP, c2]); (first | done | exact rfl))))))); apply RunF_nil; (try simp only [go_sem, seval, reduceIte, ↓reduceIte, Bool.not_eq_true, reduceCtorEq, beq_false, beq_true, hP, c2]); (first | done | exact rfl)))     | ((first | apply T_sd fw (by rw [hP]; rfl) | apply T_dr fw (by rw [hP]; rfl)); · ((try simp only [go_sem, seval, reduceIte, ↓reduceIte, bne, beq_false, beq_true, Bool.not_eq_true, Bool.if_true_right, decide_not, reduceCtorEq, hP, c2]); (first | done | exact rfl)))     | refine T_seq ?_ | refine T_block ?_ | refine T_scopeJ 0 rfl ?_ | refine T_scope ?_ | refine T_goto ?_ | refine T_ret ?_ | refine T_skip ?_ | refine T_exit ?_ | refine T_label ?_     | refine T_condT rfl ?_ | refine T_condF rfl ?_     | refine T_condD rfl (fun _ => ?_) (fun _ => ?_)     | refine T_cond rfl (fun _ => ?_) (fun _ => ?_))
    have hd : ∀ (d : Nat), d < 77 → ∀ t, some d = some t → t < G.nt := fun d hd t ht => by cases ht; omega
    refine T_steps fw (S := { env := [(0, .one (.raw (.func (.yield l) #[] #[]))), (1, .one (.p (.box [eI g]))), (4, .one (.p (eI R'))), (45, .one (.p (.int .i64 (sizeS g)))), (46, .one (.p (.int .i64 i))), (75, .one (.p (.bool false)))], σ := σ (i + 1), ex := ex })
      (.q (hd _ (by decide)) rfl (.q (hd _ (by decide)) rfl (.q (hd _ (by decide)) rfl (.yld (hd _ (by decide)) (yStep fam hR hno hA hyi hex rfl rfl fun d i => lk_has (by simp only [putd, get, lk, List.all_cons, List.all_nil]; simp [AV.has, AC.has, lk]) i) (.q (hd _ (by decide)) rfl (.weak (Weak.drop.trans (Weak.pick [0, 1, 4, 45, 46, 75])) .nil)))))) ?_
    repeat' (first     | refine T_then ?_ | refine then_ret ?_ | refine then_exit ?_ | refine then_goto ?_     | refine rnd_exit ?_ | refine rnd_ret ?_ | refine rnd_goto ?_     | refine noGo_normal ?_ | refine noGo_ret ?_ | refine noGo_exit ?_ | refine jmp_normal ?_ | refine jmp_ret ?_ | refine jmp_exit ?_ | refine jmp_goto ?_     | refine inB_normal ?_ | refine inB_ret ?_ | refine inB_goto ?_ | refine inB_exit ?_ | refine inB_exit_ne rfl ?_     | ((first | apply T_srE fw | apply T_regE fw); · ((try simp only [go_sem, seval, reduceIte, ↓reduceIte, hP, w1]); (repeat ((first       | (refine ⟨true, false, rfl, fun h => absurd h (by decide), ?_⟩) | (refine ⟨false, false, rfl, fun h => absurd h (by decide), ?_⟩) | refine ⟨_, _, rfl, fun _ => rfl, ?_⟩); (try simp only [go_sem, seval, reduceIte, ↓reduceIte, hP, w1]))); (first | done | exact rfl)))     | ((first | apply T_sdF fw (by rw [hP]; rfl) (by decide +kernel) | apply T_drF fw (by rw [hP]; rfl) (by decide +kernel)); · ((try simp only [TOps.flat, List.cons_append, List.nil_append]); (repeat ((first | refine Y_g0 ?_ | refine Y_g (by (try simp only [go_sem, seval, reduceIte, ↓reduceIte, Bool.not_eq_true, reduceCtorEq, beq_false, beq_true, hP, w1]); (first | done | exact rfl)) ?_); (first | refine Y_skip ?_ | ((first | apply Y_q); (· ((try simp only [go_sem, seval, reduceIte, ↓reduceIte, Bool.not_eq_true, reduceCtorEq, beq_false, beq_true, hP, w1]); (first | done | exact rfl))))))); apply RunF_nil; (try simp only [go_sem, seval, reduceIte, ↓reduceIte, Bool.not_eq_true, reduceCtorEq, beq_false, beq_true, hP, w1]); (first | done | exact rfl)))     | ((first | apply T_sd fw (by rw [hP]; rfl) | apply T_dr fw (by rw [hP]; rfl)); · ((try simp only [go_sem, seval, reduceIte, ↓reduceIte, bne, beq_false, beq_true, Bool.not_eq_true, Bool.if_true_right, decide_not, reduceCtorEq, hP, w1]); (first | done | exact rfl)))     | refine T_seq ?_ | refine T_block ?_ | refine T_scopeJ 0 rfl ?_ | refine T_scope ?_ | refine T_goto ?_ | refine T_ret ?_ | refine T_skip ?_ | refine T_exit ?_ | refine T_label ?_     | refine T_condT rfl ?_ | refine T_condF rfl ?_     | refine T_condD rfl (fun _ => ?_) (fun _ => ?_)     | refine T_cond rfl (fun _ => ?_) (fun _ => ?_))
    exact rnd_next hlt2 () trivial (.refl _ _)
end Go.AM

namespace Go.AM
open Go Go.Proofs
set_option maxRecDepth 100000
set_option maxHeartbeats 4000000

theorem side_pos {s : List Int} (h : ShapeOk s) (i : Nat) : 1 ≤ sideS s i := by
  by_cases hi : i < s.length
  · have := sideS_lt hi
    exact (h.2.1 _ (List.mem_of_getElem? this)).1
  · rw [sideS_ge (by omega)]; omega
theorem side_ext {s t : List Int} (hl : s.length = t.length) (h : ∀ i, i < s.length → sideS s i = sideS t i) : s = t := by
  have key : s.reverse = t.reverse := by
    apply List.ext_getElem?
    intro i
    by_cases hi : i < s.length
    · have := h i hi
      unfold sideS at this
      rw [List.getElem?_eq_getElem (by simpa using hi), List.getElem?_eq_getElem (by simp; omega)] at this ⊢
      simpa using this
    · rw [List.getElem?_eq_none (by simp; omega), List.getElem?_eq_none (by simp; omega)]
  have := congrArg List.reverse key
  simpa using this
theorem side_joinSh {a b : List Int} {k i : Nat} (hi : i < k) : sideS (joinSh a b k) i = maxS a b i := by
  unfold sideS joinSh
  rw [List.reverse_reverse, List.getElem?_map, List.getElem?_range hi]; rfl
structure JoinOk (a b r : List Int) : Prop where
  ha : ShapeOk a
  hb : ShapeOk b
  hr : ShapeOk r
  len : r.length = max a.length b.length
  side : ∀ i, sideS r i = max (sideS a i) (sideS b i)
  ok : ∀ i, sideS a i = sideS b i ∨ sideS a i = 1 ∨ sideS b i = 1
theorem clash_iff {x y : Int} : clash x y = false ↔ x = y ∨ x = 1 ∨ y = 1 := by
  unfold clash
  by_cases h1 : x = y <;> by_cases h2 : x = 1 <;> by_cases h3 : y = 1 <;> simp [h1, h2, h3]
theorem joinOk_of {a b : List Int} (h : joinOk a b = true) : JoinOk a b (joinSh a b (max a.length b.length)) := by
  unfold joinOk at h
  simp only [Bool.and_eq_true, List.all_eq_true, List.mem_range] at h
  obtain ⟨h1, h2, h3, h4⟩ := h
  refine ⟨checkS_iff.1 h1, checkS_iff.1 h2, checkS_iff.1 h4, joinSh_len _ _ _, fun i => ?_, fun i => ?_⟩
  · by_cases hi : i < max a.length b.length
    · exact side_joinSh hi
    · rw [sideS_ge (by rw [joinSh_len]; omega), sideS_ge (s := a) (by omega), sideS_ge (s := b) (by omega)]; rfl
  · by_cases hi : i < max a.length b.length
    · have := h3 i hi
      rw [Bool.not_eq_true'] at this
      exact clash_iff.1 this
    · left; rw [sideS_ge (s := a) (by omega), sideS_ge (s := b) (by omega)]
theorem JoinOk.eq {a b r : List Int} (h : JoinOk a b r) : joinSF a b = (r, 0) := by
  have hr : joinSh a b (max a.length b.length) = r := side_ext (by rw [joinSh_len, h.len]) fun i hi => by
    rw [joinSh_len] at hi
    rw [side_joinSh hi, h.side i]; rfl
  have hk : joinOk a b = true := by
    unfold joinOk
    rw [checkS_iff.2 h.ha, checkS_iff.2 h.hb, hr, checkS_iff.2 h.hr]
    have : ((List.range (max a.length b.length)).all fun i => !clash (sideS a i) (sideS b i)) = true := by
      rw [List.all_eq_true]
      intro i _
      rw [clash_iff.2 (h.ok i)]; rfl
    rw [this]; rfl
  unfold joinSF
  rw [if_pos hk, hr]
theorem join_or (a b : List Int) : (∃ r, JoinOk a b r ∧ joinSF a b = (r, 0)) ∨ ((¬ ∃ r, JoinOk a b r) ∧ joinSF a b = ([], 20)) := by
  by_cases h : joinOk a b = true
  · exact .inl ⟨_, joinOk_of h, (joinOk_of h).eq⟩
  · have e : joinSF a b = ([], 20) := by unfold joinSF; rw [if_neg h]
    refine .inr ⟨?_, e⟩
    rintro ⟨r, k⟩
    rw [k.eq] at e; simp at e
theorem JoinOk.comm {a b r : List Int} (h : JoinOk a b r) : JoinOk b a r :=
  ⟨h.hb, h.ha, h.hr, by rw [h.len]; omega, fun i => by rw [h.side i]; omega, fun i => by have := h.ok i; omega⟩
theorem JoinOk.left {a b r : List Int} (h : JoinOk a b r) : JoinOk a r r :=
  ⟨h.ha, h.hr, h.hr, by have := h.len; omega, fun i => by have := h.side i; omega, fun i => by
    have h1 := h.side i; have h2 := h.ok i; have h3 := side_pos h.ha i; have h4 := side_pos h.hb i; omega⟩
theorem JoinOk.right {a b r : List Int} (h : JoinOk a b r) : JoinOk b r r := h.comm.left
theorem JoinOk.self {s : List Int} (h : ShapeOk s) : JoinOk s s s := ⟨h, h, h, by omega, fun i => by omega, fun i => .inl rfl⟩
theorem shape_nil : ShapeOk [] := checkS_iff.1 (by decide)
theorem JoinOk.nil {s : List Int} (h : ShapeOk s) : JoinOk [] s s :=
  ⟨shape_nil, h, h, by simp, fun i => by have := side_pos h i; rw [sideS_ge (s := []) (by simp)]; omega, fun i => .inr (.inl (sideS_ge (by simp)))⟩
theorem JoinOk.trans {a b r : List Int} (h : JoinOk a b b) (k : JoinOk b r r) : JoinOk a r r :=
  ⟨h.ha, k.hb, k.hr, by have := h.len; have := k.len; omega, fun i => by have := h.side i; have := k.side i; omega, fun i => by
    have h1 := h.side i; have h2 := h.ok i; have h3 := side_pos h.ha i; have h4 := side_pos h.hb i
    have k1 := k.side i; have k2 := k.ok i; have k4 := side_pos k.hb i; omega⟩
theorem fits_of {s g : List Int} (h : JoinOk s g g) : fitsS s g = true := by
  unfold fitsS; rw [h.eq]; simp [sameL_refl]
theorem of_fits {s g : List Int} (h : fitsS s g = true) : JoinOk s g g := by
  unfold fitsS at h
  rcases join_or s g with ⟨r, k, e⟩ | ⟨_, e⟩
  · rw [e] at h
    simp only [beq_self_eq_true, Bool.true_and] at h
    have := sameL_iff.1 h
    subst this
    exact k
  · rw [e] at h; simp at h
def clip : List Int → List Int → List Int
  | m :: s, k :: x => (if m > 1 then k else 0) :: clip s x
  | _, _ => []
def FitR (s g : List Int) : Prop := All2 (fun m k => m = k ∨ m = 1) s g
theorem clip_in : ∀ {s g x : List Int}, Sides s → FitR s g → InIdx g x → InIdx s (clip s x)
  | [], _, _, _, h, _ => by cases h; cases ‹InIdx _ _›; exact .nil
  | m :: s, _, _, hs, h, hx => by
    cases h with
    | cons h t => cases hx with
      | cons k0 k1 hx =>
        have := hs.head
        refine .cons ?_ ?_ (clip_in hs.tail t hx)
        · split <;> omega
        · split <;> omega
theorem dot_clip : ∀ {s g x : List Int} {a : Int}, Sides s → FitR s g → InIdx g x → dotL x (stp s) a = a + pl s (clip s x) 0
  | [], _, _, a, _, h, hx => by cases h; cases hx; simp [dotL, stp, clip, pl]
  | m :: s, _, _, a, hs, h, hx => by
    cases h with
    | cons h t => cases hx with
      | @cons _ k _ _ k0 k1 hx =>
        have ih := dot_clip (a := a + k * (if m > 1 then prd s else 0)) hs.tail t hx
        have h2 := pl_add (clip_in hs.tail t hx) (0 * m + (if m > 1 then k else 0))
        simp only [dotL, stp, clip, pl]
        rw [ih, h2]
        split <;> simp <;> omega
theorem dot_skip : ∀ {n : Nat} {x1 x2 t : List Int} {a : Int}, x1.length = n → dotL (x1 ++ x2) (List.replicate n 0 ++ t) a = dotL x2 t a
  | 0, [], _, _, _, _ => rfl
  | n + 1, k :: x1, x2, t, a, h => by
    simp only [List.cons_append, List.replicate_succ, dotL, Int.mul_zero, Int.add_zero]
    exact dot_skip (by simpa using h)
theorem JoinOk.fitR {s g : List Int} (h : JoinOk s g g) : s.length ≤ g.length ∧ FitR s (g.drop (g.length - s.length)) := by
  have hl : s.length ≤ g.length := by have := h.len; omega
  refine ⟨hl, All2.of_get (by simp; omega) fun i m k hm hk => ?_⟩
  have hi := (List.getElem?_eq_some_iff.1 hm).1
  have e1 := sideS_lt (s := s) (i := s.length - 1 - i) (by omega)
  have e2 := sideS_lt (s := g) (i := s.length - 1 - i) (by omega)
  rw [show s.length - 1 - (s.length - 1 - i) = i from by omega, hm] at e1
  rw [List.getElem?_drop] at hk
  rw [show g.length - 1 - (s.length - 1 - i) = g.length - s.length + i from by omega, hk] at e2
  have h1 := h.side (s.length - 1 - i); have h2 := h.ok (s.length - 1 - i); have h3 := side_pos h.ha (s.length - 1 - i); have h4 := side_pos h.hb (s.length - 1 - i)
  simp only [Option.some.injEq] at e1 e2
  omega
theorem InIdx.drop {s x : List Int} (h : InIdx s x) : ∀ n, InIdx (s.drop n) (x.drop n) := by
  induction h with
  | nil => intro n; simp; exact .nil
  | cons k0 k1 h ih =>
    intro n
    cases n with
    | zero => exact .cons k0 k1 h
    | succ n => exact ih n
def fromX (s x : List Int) : List Int := clip s (x.drop (x.length - s.length))
theorem fromX_in {s g x : List Int} (h : JoinOk s g g) (hx : InIdx g x) : InIdx s (fromX s x) := by
  have hf := h.fitR
  have hxl := hx.length
  unfold fromX
  rw [← hxl]
  exact clip_in h.ha.2.1 hf.2 (hx.drop _)
theorem fromAt_eq {s g : List Int} (h : JoinOk s g g) {p : Nat} (hp : (p : Int) < prd g) : fromAt s g p = pl s (fromX s (ix g p)) 0 := by
  have hf := h.fitR
  have hix : InIdx g (ix g p) := ix_in h.hb.2.1
  have hxl := hix.length
  have h64 := h.hb.2.2
  unfold fromAt fromX stepsL
  rw [idxF_eq h.hb.2.1 (by omega) (by omega)]
  generalize ix g (p : Int) = x at *
  rw [← hxl]
  conv => lhs; rw [← List.take_append_drop (g.length - s.length) x]
  rw [dot_skip (by simp; omega), dot_clip h.ha.2.1 hf.2 (hix.drop _), Int.zero_add]
theorem fromAt_lt {s g : List Int} (h : JoinOk s g g) {p : Nat} (hp : (p : Int) < prd g) : 0 ≤ fromAt s g p ∧ fromAt s g p < prd s := by
  rw [fromAt_eq h hp]
  exact pl_lt (fromX_in h (ix_in h.hb.2.1))
def spreadD (s d g : List Int) : List Int := mk g fun x => (atF s d (fromX s x)).1
def spreadN (s d g : List Int) (n : Nat) : List Int := (List.range n).map fun p => (d[(fromAt s g ((p : Nat) : Int)).toNat]?).getD 0
theorem spreadN_eq {s d g : List Int} (h : JoinOk s g g) (hc : checkT s d = true) : spreadN s d g (sizeS g).toNat = spreadD s d g := by
  unfold spreadN spreadD mk
  apply List.map_congr_left
  intro p hp
  have hp := List.mem_range.1 hp
  have hsz := sizeS_ok h.hb
  have h64 := h.hb.2.2
  have hlt : (p : Int) < prd g := by omega
  have hix : InIdx g (ix g p) := ix_in h.hb.2.1
  rw [fromAt_eq h hlt, idxF_eq h.hb.2.1 (by omega) (by omega)]
  show _ = (atF s d (fromX s (ix g p))).1
  rw [atF_ok hc (fromX_in h hix)]
end Go.AM

