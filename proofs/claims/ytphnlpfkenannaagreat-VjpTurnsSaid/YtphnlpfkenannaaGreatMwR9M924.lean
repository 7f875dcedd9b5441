import Derived.Test.YtphnlpfkenannaaGreatMwR9M923
set_option linter.unusedVariables false
set_option linter.unusedSimpArgs false
namespace Go.AM
open Go Go.Proofs
set_option maxRecDepth 100000
set_option maxHeartbeats 4000000

def fullF (s : List Int) (n : Int) : (List Int × List Int) × Int := if checkS s = true then ((s, List.replicate (sizeS s).toNat n), 0) else bad 20
theorem sizeS_nat (s : List Int) : sizeS s = (((sizeS s).toNat : Nat) : Int) := by have := sizeS_nn s; omega
theorem sizeS_one {s : List Int} (h : checkS s = true) : 1 ≤ (sizeS s).toNat ∧ (sizeS s).toNat ≤ 64 := by
  have h1 := checkS_iff.1 h
  have h2 := sizeS_ok h1
  have h3 := prd_pos h1.2.1
  have h4 := h1.2.2
  omega
theorem c_size {s : List Int} : PureC Tryz.prog fi_shape_Size [dI s] (dN (((sizeS s).toNat : Nat) : Int)) := by
  have := p_shape_Size s
  rw [sizeS_nat s] at this; exact this
theorem m_tensor_Full' {s : List Int} (n : Int) (h : checkS s = true) : MutC Tryz.prog fi_tensor_Full [.one (.p (eI s)), .one (.p (.int .i64 n))] []
    (.tup [.agg [.msl 5 0 1 s.length none, .msl 30 0 1 (sizeS s).toNat (some (sizeS s).toNat)], .one (.p (.int .i64 0))])
    [(5, .arr true 1 (rI s)), (30, .arr true 1 (rI (List.replicate (sizeS s).toNat n)))] [4, 13, 5, 30] := by
  refine mut_tensor_Full (by simp) fun G ex hP hn hfr => ?_
  unfold a_tensor_Full
  have hs := check_len h
  have kc := p_shape_Check s
  rw [h] at kc
  have kl := m_slices_Clone s (by omega)
  have ks := c_size (s := s)
  have hk := sizeS_one h
  have kr := m_slices_Repeat n (sizeS s).toNat hk.1 hk.2
  have hfr4 := hfr 4 (by simp)
  have hfr13 := hfr 13 (by simp)
  have hfr5 := hfr 5 (by simp)
  have hfr30 := hfr 30 (by simp)
  have hfrA : ∀ x ∈ ex, AV.has 5 x = false := by simpa using hfr5
  have hfrB : ∀ x ∈ ex, AV.has 30 x = false := by simpa using hfr30
  generalize (sizeS s).toNat = k at *
  refine go (aa hfr5 <| aa hfr30 <| aa hfr4 <| aa hfr13 <| aa (scr_ex hfr5) <| aa (scr_ex hfr30) <| aa hfrA hfrB) (aa kc <| aa ks <| aa kl kr) ?_
  refine endsM_ret rfl rfl rfl (fun p hp => ?_) rfl
  simp only [List.mem_cons, List.not_mem_nil, or_false] at hp
  rcases hp with rfl | rfl <;> rfl
theorem m_tensor_Full {s : List Int} (n : Int) (h : checkS s = true) : MutC Tryz.prog fi_tensor_Full [.one (.p (eI s)), .one (.p (.int .i64 n))] []
    (.tup [.agg [.msl 5 0 1 s.length none, .msl 30 0 1 (sizeS s).toNat (some (sizeS s).toNat)], .one (.p (.int .i64 0))])
    [(5, .arr true 1 (rI s)), (30, .arr true 1 (rI (List.replicate (sizeS s).toNat n)))] [5, 30] :=
  ((m_tensor_Full' n h).hide 4 rfl rfl rfl rfl (by simp)).hide 13 rfl rfl rfl rfl (by simp)
theorem p_tensor_Full (s : List Int) (n : Int) : PureC Tryz.prog fi_tensor_Full [dI s, dN n] (dTE (fullF s n)) := by
  refine pure_tensor_Full (by simp) fun G hP hn => ?_
  unfold a_tensor_Full
  have kc := p_shape_Check s
  cases h : checkS s
  · refine go h kc ?_
    exact ends_ret rfl rfl rfl (by simp [fullF, h, bad, resD])
  · rw [h] at kc
    have hs := check_len h
    have kl := m_slices_Clone s (by omega)
    have ks := c_size (s := s)
    have hk := sizeS_one h
    have hf : fullF s n = ((s, List.replicate (sizeS s).toNat n), 0) := by unfold fullF; rw [if_pos h]
    have kr := m_slices_Repeat n (sizeS s).toNat hk.1 hk.2
    generalize (sizeS s).toNat = k at *
    refine go trivial (aa kc <| aa ks <| aa kl kr) ?_
    exact ends_twoM (t1 := 5) (t2 := 30) (by decide) rfl rfl rfl (by simp) (by simp) (.inr ⟨_, rfl, rfl⟩) (by rw [hf]; rfl)
end Go.AM

namespace Go.AM
open Go Go.Proofs
set_option maxRecDepth 100000
set_option maxHeartbeats 4000000

def spreadF (s d g : List Int) : (List Int × List Int) × Int :=
  if checkT s d = true then (if fitsS s g = true then ((g, spreadD s d g), 0) else bad 20) else bad 30
theorem spreadN_len (s d g : List Int) (k : Nat) : (spreadN s d g k).length = k := by simp [spreadN]
theorem spreadN_succ (s d g : List Int) (k : Nat) : spreadN s d g (k + 1) = spreadN s d g k ++ [(d[(fromAt s g ((k : Nat) : Int)).toNat]?).getD 0] := by
  simp [spreadN, List.range_succ]
def spD (s d g : List Int) (k : Nat) : List Int := spreadN s d g k ++ List.replicate ((sizeS g).toNat - k) 0
theorem spD_len {s d g : List Int} {k : Nat} (h : k ≤ (sizeS g).toNat) : (spD s d g k).length = (sizeS g).toNat := by simp [spD, spreadN_len]; omega
theorem spD_set {s d g : List Int} {k : Nat} (h : k < (sizeS g).toNat) : (spD s d g k).set k ((d[(fromAt s g ((k : Nat) : Int)).toNat]?).getD 0) = spD s d g (k + 1) := by
  unfold spD
  rw [spreadN_succ, List.set_append_right _ _ (by rw [spreadN_len]; omega), spreadN_len, Nat.sub_self]
  rw [show (sizeS g).toNat - k = ((sizeS g).toNat - (k + 1)) + 1 from by omega, List.replicate_succ]
  simp
def spS (s d g : List Int) (k : Nat) : Sto :=
  [(2, .cells true [.p (eI s), .p (eI d)]), (4, .cells true [.nils, .nils]), (6, .cells true [.msl 5 0 1 g.length none, .msl 30 0 1 (sizeS g).toNat (some (sizeS g).toNat)]), (5, .arr true 1 (rI g)), (30, .arr true 1 (rI (spD s d g k)))]
theorem sp_fam (s d g : List Int) : Fam (spS s d g) [] := by
  refine ⟨fun k p hp => ?_, fun k t ht => ?_, fun k d hd => ?_, fun k t d hd ht => ?_⟩
  · simp only [spS, List.mem_cons, List.not_mem_nil, or_false] at hp
    rcases hp with rfl | rfl | rfl | rfl | rfl <;> rfl
  · by_cases h : t ∈ (spS s d g k).map (·.1)
    · exact h
    · exact absurd (lo_none h) ht
  · simp at hd
  · simp at hd
theorem p_tensor_Spread (s d g : List Int) : PureC Tryz.prog fi_tensor_Spread [dT s d, dI g] (dTE (spreadF s d g)) := by
  refine pure_tensor_Spread (by simp) fun G hP hn => ?_
  unfold a_tensor_Spread
  have kc := p_tensor_Check s d
  cases h1 : checkT s d
  · rw [h1] at kc
    have hf : spreadF s d g = bad 30 := by unfold spreadF; rw [if_neg (by simp [h1])]
    refine go trivial kc ?_
    exact ends_ret rfl rfl rfl (by rw [hf]; rfl)
  rw [h1] at kc
  have kf := p_shape_Fits s g
  cases h2 : fitsS s g
  · rw [h2] at kf
    have hf : spreadF s d g = bad 20 := by unfold spreadF; rw [if_pos h1, if_neg (by simp [h2])]
    refine go trivial (aa kc kf) ?_
    exact ends_ret rfl rfl rfl (by rw [hf]; rfl)
  rw [h2] at kf
  have hj := of_fits h2
  have kF := m_tensor_Full (s := g) 0 (checkS_iff.2 hj.hb)
  have kfrom := p_tensor_from s g
  refine go trivial (aa kc <| aa kf <| aa kF kfrom) ?_
  refine T_range rfl (by rw [hP]; exact q_tensor_from_1 hj.ha hj.hb hj.fitR.1) (spS s d g) [] (by rw [hn]; rfl) (fun x hx => by
    simp only [allF, List.mem_map] at hx
    obtain ⟨p, _, rfl⟩ := hx
    rfl) (fun t => ?_) (sp_fam s d g) (fun t ht => ?_) (fun d hd => by simp at hd) ?_ ?_
  · left
    have : spD s d g 0 = List.replicate (sizeS g).toNat 0 := by simp [spD, spreadN]
    simp only [spS, this, lo]
  · by_cases h : t ∈ (spS s d g 0).map (·.1)
    · exact h
    · exact absurd (lo_none h) ht
  · intro k v hv F n G' G'' ex fw h1' h2' h3' h4' hfr
    have hP : G''.P = Tryz.prog := h3'.trans hP
    have hk : k < (sizeS g).toNat := by
      have := (List.getElem?_eq_some_iff.1 hv).1
      rwa [allF_len] at this
    rw [allF_get s g k hk] at hv
    cases hv
    have hsz := sizeS_ok hj.hb
    have hlt := fromAt_lt hj (p := k) (by omega)
    have hdl := (checkT_iff.1 h1).2
    obtain ⟨q, hq⟩ := Int.eq_ofNat_of_zero_le hlt.1
    have hset := spD_set (s := s) (d := d) hk
    have hlen := spD_len (s := s) (d := d) (Nat.le_of_lt hk)
    rw [hq, Int.toNat_natCast] at hset
    have hql : q < d.length := by omega
    have hx : d[q]? = some d[q] := List.getElem?_eq_getElem hql
    rw [hx] at hset
    simp only [Option.getD_some] at hset
    obtain ⟨z, hz⟩ : ∃ z, (spD s d g k)[k]? = some z := ⟨_, List.getElem?_eq_getElem (by omega)⟩
    simp only [putE, List.map, spS, hq]
    generalize (sizeS g).toNat = N at *
    generalize spD s d g k = R at *
    repeat' (first     | refine T_then ?_ | refine then_ret ?_ | refine then_exit ?_ | refine then_goto ?_     | refine rnd_exit ?_ | refine rnd_ret ?_ | refine rnd_goto ?_     | refine noGo_normal ?_ | refine noGo_ret ?_ | refine noGo_exit ?_ | refine jmp_normal ?_ | refine jmp_ret ?_ | refine jmp_exit ?_ | refine jmp_goto ?_     | refine inB_normal ?_ | refine inB_ret ?_ | refine inB_goto ?_ | refine inB_exit ?_ | refine inB_exit_ne rfl ?_     | ((first | apply T_sr fw | apply T_reg fw); · ((try simp only [go_sem, seval, reduceIte, ↓reduceIte, hP]); (repeat ((first       | (refine ⟨true, false, rfl, fun h => absurd h (by decide), ?_⟩) | (refine ⟨false, false, rfl, fun h => absurd h (by decide), ?_⟩) | refine ⟨_, _, rfl, fun _ => rfl, ?_⟩); (try simp only [go_sem, seval, reduceIte, ↓reduceIte, hP]))); (first | done | exact rfl)))     | ((first | apply T_sdF fw (by rw [hP]; rfl) (by decide +kernel) | apply T_drF fw (by rw [hP]; rfl) (by decide +kernel)); · ((try simp only [TOps.flat, List.cons_append, List.nil_append]); (repeat ((first | refine Y_g0 ?_ | refine Y_g (by (try simp only [go_sem, seval, reduceIte, ↓reduceIte, Bool.not_eq_true, reduceCtorEq, beq_false, beq_true, hP]); (first | done | exact rfl)) ?_); (first | refine Y_skip ?_ | ((first | apply Y_q); (· ((try simp only [go_sem, seval, reduceIte, ↓reduceIte, Bool.not_eq_true, reduceCtorEq, beq_false, beq_true, hP]); (first | done | exact rfl))))))); apply RunF_nil; (try simp only [go_sem, seval, reduceIte, ↓reduceIte, Bool.not_eq_true, reduceCtorEq, beq_false, beq_true, hP]); (first | done | exact rfl)))     | ((first | apply T_sd fw (by rw [hP]; rfl) | apply T_dr fw (by rw [hP]; rfl)); · ((try simp only [go_sem, seval, reduceIte, ↓reduceIte, bne, beq_false, beq_true, Bool.not_eq_true, Bool.if_true_right, decide_not, reduceCtorEq, hP]); (first | done | exact rfl)))     | refine T_seq ?_ | refine T_block ?_ | refine T_scopeJ 0 rfl ?_ | refine T_scope ?_ | refine T_goto ?_ | refine T_ret ?_ | refine T_skip ?_ | refine T_exit ?_ | refine T_label ?_     | refine T_condT rfl ?_ | refine T_condF rfl ?_     | refine T_condD rfl (fun _ => ?_) (fun _ => ?_)     | refine T_cond rfl (fun _ => ?_) (fun _ => ?_))
    refine ⟨rfl, ?_⟩
    apply T_block
    apply T_dr fw (by rw [hP]; rfl)
    · simp only [go_sem, seval, reduceIte, ↓reduceIte, bne, beq_false, beq_true, Bool.not_eq_true, Bool.if_true_right, decide_not, reduceCtorEq, hP, all1, hx, hql, hz, hlen, hk, rI_set]
      exact rfl
    refine go trivial trivial ?_
    refine ⟨rfl, fun p hp => ?_, rfl⟩
    simp only [List.mem_cons, List.not_mem_nil, or_false] at hp
    rcases hp with rfl | rfl | rfl | rfl | rfl
    · rfl
    · rfl
    · rfl
    · rfl
    · simp [lo, hset]
  · simp only [List.cons_append, List.nil_append, spS, allF_len]
    have he : spD s d g (sizeS g).toNat = spreadD s d g := by unfold spD; rw [Nat.sub_self, spreadN_eq hj h1]; simp
    have hsl : (spreadD s d g).length = (sizeS g).toNat := by rw [← he]; exact spD_len (Nat.le_refl _)
    rw [he]
    generalize (sizeS g).toNat = N at *
    refine go trivial trivial ?_
    exact ends_twoM (t1 := 5) (t2 := 30) (by decide) rfl rfl rfl (by simp) (by simp [hsl]) (.inr ⟨_, rfl, rfl⟩) (by unfold spreadF; rw [if_pos h1, if_pos h2]; rfl)
end Go.AM

namespace Go.AM
open Go Go.Proofs
set_option maxRecDepth 100000
set_option maxHeartbeats 4000000

abbrev dL (A S B : Int) : DV := .agg [.int .i64 A, .int .i64 S, .int .i64 B]
def lanesF (s d : List Int) (a : Int) : (Int × Int × Int) × Int :=
  if checkT s d = true then (if a < 0 ∨ a ≥ s.length then ((0, 0, 0), 20) else ((sizeS (s.take a.toNat), (s[a.toNat]?).getD 0, sizeS (s.drop (a.toNat + 1))), 0)) else ((0, 0, 0), 30)
theorem rI_take (s : List Int) (n : Nat) : (rI s).take n = rI (s.take n) := by simp [List.map_take]
theorem rI_drop (s : List Int) (n : Nat) : (rI s).drop n = rI (s.drop n) := by simp [List.map_drop]
theorem p_reduce_lanes (s d : List Int) (a : Int) : PureC Tryz.prog fi_reduce_lanes [dT s d, dN a] (.tup [dL (lanesF s d a).1.1 (lanesF s d a).1.2.1 (lanesF s d a).1.2.2, dN (lanesF s d a).2]) := by
  refine pure_reduce_lanes (by simp) fun G hP hn => ?_
  unfold a_reduce_lanes
  have kc := p_tensor_Check s d
  cases hc : checkT s d
  · rw [hc] at kc
    refine go trivial kc ?_
    exact ends_ret rfl rfl rfl (by simp [lanesF, hc, resD])
  rw [hc] at kc
  by_cases h1 : a < 0
  · refine go h1 kc ?_
    exact ends_ret rfl rfl rfl (by simp [lanesF, hc, h1, resD])
  by_cases h2 : a ≥ s.length
  · refine go (aa h1 h2) kc ?_
    exact ends_ret rfl rfl rfl (by simp [lanesF, hc, h1, h2, resD])
  obtain ⟨n, rfl⟩ := Int.eq_ofNat_of_zero_le (by omega : 0 ≤ a)
  have hlt : n < s.length := by omega
  have hx : s[n]? = some s[n] := List.getElem?_eq_getElem hlt
  have hl := check_len (checkS_iff.2 (checkT_iff.1 hc).1)
  have w1 : IntKind.i64.wrap ((n : Int) + 1) = ((n + 1 : Nat) : Int) := by rw [wrap_in (by omega) (by omega)]; rfl
  have c1 : (n : Int) ≤ s.length := by omega
  have c2 : ((n + 1 : Nat) : Int) ≤ s.length := by omega
  have t1 := rI_take s n
  have t2 := rI_drop s (n + 1)
  have t3 : (s.length : Int).toNat = s.length := rfl
  have t4 : (rI s).take s.length = rI s := by rw [List.take_of_length_le (by simp)]
  refine go (aa h1 <| aa h2 <| aa w1 <| aa c1 <| aa c2 <| aa t1 <| aa t2 <| aa t3 <| aa t4 <| aa hx hlt) (aa kc @p_shape_Size) ?_
  have t5 : List.take (s.length - (n + 1)) (rI (List.drop (n + 1) s)) = rI (List.drop (n + 1) s) := List.take_of_length_le (by simp)
  refine go (aa h1 h2) kc ?_
  apply T_dr fw (by rw [hP]; rfl)
  · simp only [go_sem, seval, reduceIte, ↓reduceIte, bne, beq_false, beq_true, Bool.not_eq_true, Bool.if_true_right, decide_not, reduceCtorEq, hP, all1, h1, h2, w1, c1, c2, t1, t2, t3, t4, t5, hx, hlt, Int.le_refl]
    refine ⟨_, ⟨_, _, _, _, _, _, rfl, rfl, rfl, p_shape_Size _⟩, ?_⟩
    simp only [go_sem, seval, reduceIte, ↓reduceIte, bne, beq_false, beq_true, Bool.not_eq_true, Bool.if_true_right, decide_not, reduceCtorEq, hP, all1, h1, h2, w1, c1, c2, t1, t2, t3, t4, t5, hx, hlt, Int.le_refl]
    refine ⟨_, ⟨_, _, _, _, _, _, rfl, rfl, rfl, p_shape_Size _⟩, ?_⟩
    simp only [go_sem, seval, reduceIte, ↓reduceIte, bne, beq_false, beq_true, Bool.not_eq_true, Bool.if_true_right, decide_not, reduceCtorEq, hP, all1, h1, h2, w1, c1, c2, t1, t2, t3, t4, t5, hx, hlt, Int.le_refl]
    exact rfl
  refine go trivial trivial ?_
  exact ends_ret rfl rfl rfl (by simp [lanesF, hc, h1, hx, resD, hlt, show ¬ s.length ≤ n from by omega])
def laneAt (S B p i : Nat) : Nat := (p / B * S + i) * B + p % B
theorem p_reduce_lane_at (A S B p i : Nat) (hS : S ≤ 16) (hB : B ≤ 64) (hB0 : 0 < B) (hp : p ≤ 4096) (hi : i ≤ 64) : PureC Tryz.prog fi_reduce_lane_at [dL A S B, dN p, dN i] (dN (laneAt S B p i)) := by
  refine pure_reduce_lane_at (by simp) fun G hP hn => ?_
  unfold a_reduce_lane_at
  have b0 : ((B : Int) = 0) = False := by simp; omega
  have hq := Nat.div_le_self p B
  have hr : p % B < B := Nat.mod_lt _ hB0
  have qd : IntKind.i64.wrap ((p : Int).tdiv (B : Int)) = ((p / B : Nat) : Int) := by
    rw [Int.tdiv_eq_ediv_of_nonneg (by omega), ← Int.natCast_ediv]
    generalize p / B = q at hq ⊢
    exact wrap_in (by omega) (by omega)
  have qm : (p : Int).tmod (B : Int) = ((p % B : Nat) : Int) := by rw [Int.tmod_eq_emod_of_nonneg (by omega)]; omega
  unfold laneAt
  generalize p / B = q at *
  generalize p % B = r at *
  have m1 : q * S ≤ 4096 * 16 := Nat.mul_le_mul (by omega) hS
  have w1 : IntKind.i64.wrap ((q : Int) * (S : Int)) = ((q * S : Nat) : Int) := by rw [← Int.natCast_mul]; exact wrap_in (by omega) (by omega)
  have w2 : IntKind.i64.wrap (((q * S : Nat) : Int) + (i : Int)) = ((q * S + i : Nat) : Int) := by rw [← Int.natCast_add]; exact wrap_in (by omega) (by omega)
  have m2 : (q * S + i) * B ≤ (4096 * 16 + 64) * 64 := Nat.mul_le_mul (by omega) hB
  have w3 : IntKind.i64.wrap (((q * S + i : Nat) : Int) * (B : Int)) = (((q * S + i) * B : Nat) : Int) := by rw [← Int.natCast_mul]; exact wrap_in (by omega) (by omega)
  have w4 : IntKind.i64.wrap ((((q * S + i) * B : Nat) : Int) + (r : Int)) = (((q * S + i) * B + r : Nat) : Int) := by rw [← Int.natCast_add]; exact wrap_in (by omega) (by omega)
  refine go (aa b0 <| aa @qd <| aa @qm <| aa w1 <| aa w2 <| aa w3 w4) trivial ?_
  exact ends_ret rfl rfl rfl rfl
theorem p_reduce_none (n : Int) : PureC Tryz.prog fi_reduce_none [dN n] (dN 0) := by
  refine pure_reduce_none (by simp) fun G hP hn => ?_
  unfold a_reduce_none
  refine go trivial trivial ?_
  exact ends_ret rfl rfl rfl rfl
theorem p_reduce_same (n : Int) : PureC Tryz.prog fi_reduce_same [dN n] (dN n) := by
  refine pure_reduce_same (by simp) fun G hP hn => ?_
  unfold a_reduce_same
  refine go trivial trivial ?_
  exact ends_ret rfl rfl rfl rfl
theorem p_reduce_done (n k : Int) : PureC Tryz.prog fi_reduce_done [dN n, dN k] (dNE (n, 0)) := by
  refine pure_reduce_done (by simp) fun G hP hn => ?_
  unfold a_reduce_done
  refine go trivial trivial ?_
  exact ends_ret rfl rfl rfl rfl
end Go.AM

namespace Go.AM
open Go Go.Proofs
set_option maxRecDepth 100000
set_option maxHeartbeats 4000000

theorem m_slices_Delete {s : List Int} {n : Nat} (h : n < s.length) (hs : s.length ≤ 64) : MutC Tryz.prog fi_slices_Delete_int_int [.one (.msl 5 0 1 s.length none), .one (.p (.int .i64 n)), .one (.p (.int .i64 ((n + 1 : Nat) : Int)))] [(5, .arr true 1 (rI s))]
    (.one (.msl 5 0 1 (s.length - 1) none)) [(5, .arr true 1 (rI (s.eraseIdx n ++ [0])))] [] := by
  refine mut_slices_Delete_int_int (by simp) fun G ex hP hn hfr => ?_
  unfold a_slices_Delete_int_int
  by_cases h1 : s.length = 1
  · obtain ⟨x, rfl⟩ : ∃ x, s = [x] := match s, h1 with | [x], _ => ⟨x, rfl⟩
    obtain rfl : n = 0 := by simpa using h
    have hM : (0 : Nat) ≤ MaxN := Nat.zero_le _
    have e0 : ((0 : Int) == 1) = false := rfl
    repeat' (first | apply T_then | apply then_ret | apply then_exit | apply then_goto | apply rnd_exit | apply rnd_ret | apply rnd_goto | apply noGo_normal | apply noGo_ret | apply noGo_exit | apply jmp_normal | apply jmp_ret | apply jmp_exit | apply jmp_goto | apply inB_normal | apply inB_ret | apply inB_goto | apply inB_exit | refine inB_exit_ne rfl ?_ | ((first | apply T_srK fw | apply T_regK fw); · ((try simp only [TOps.flat, List.cons_append, List.nil_append]); repeat (first | apply X_g0 | apply X_g | apply S_keep | apply X_skip | apply X_skipN | apply X_q | apply X_st | apply X_n | apply X_s | apply SKs0 | apply SKs2 | apply SKs1 | refine ⟨⟨rfl, rfl⟩, ?_⟩ | refine ⟨⟨rfl, ?_⟩, ?_⟩ | refine ⟨?_, ?_⟩ | (· (try simp only [go_sem, seval, reduceIte, ↓reduceIte, Bool.not_eq_true, reduceCtorEq, beq_false, beq_true, hn, hP, e0, hM, Nat.le_refl, Int.le_refl]); first | done | rfl)))) | apply T_seq | apply T_block | refine T_scopeJ 0 rfl ?_ | apply T_scope | apply T_goto | apply T_ret | apply T_skip | apply T_exit | apply T_label | refine T_condT rfl ?_ | refine T_condF rfl ?_ | refine T_condD rfl (fun _ => ?_) (fun _ => ?_) | refine T_cond rfl (fun _ => ?_) (fun _ => ?_))
    apply T_dr fw (by rw [hP]; rfl)
    · simp only [go_sem, seval, reduceIte, ↓reduceIte, bne, beq_false, beq_true, Bool.not_eq_true, Bool.if_true_right, decide_not, reduceCtorEq, hP, e0, hM, all1, Nat.le_refl, Int.le_refl]
      exact rfl
    refine go (aa e0 hM) trivial ?_
    refine endsM_ret rfl rfl rfl (fun p hp => ?_) rfl
    simp only [List.mem_cons, List.not_mem_nil, or_false] at hp
    rcases hp with rfl
    rfl
  have c13 : ¬ s.length - 1 = 0 := by omega
  have c14 : s.length - 1 < s.length := by omega
  have c1 : (n : Int) ≤ ((n + 1 : Nat) : Int) := by omega
  have c2 : ((n + 1 : Nat) : Int) ≤ s.length := by omega
  have c2' : n + 1 ≤ s.length := by omega
  have c3 : (n : Int) ≤ s.length := by omega
  have c3' : n ≤ s.length := by omega
  have e0 : ((n : Int) == ((n + 1 : Nat) : Int)) = false := by simp; omega
  have t0 : (s.length : Int).toNat = s.length := rfl
  have t1 := rI_take s n
  have t2 := rI_drop s (n + 1)
  have t5 : List.take (s.length - (n + 1)) (rI (List.drop (n + 1) s)) = rI (List.drop (n + 1) s) := List.take_of_length_le (by simp)
  have c4 : ¬ n = s.length := by omega
  have c5 : n + 1 + (s.length - (n + 1)) = s.length := by omega
  have c6 : n + (s.length - (n + 1)) ≤ s.length := by omega
  refine go (aa c1 <| aa c2 <| aa c3 <| aa e0 t0) trivial ?_
  have hM : MaxN = 140737488355328 := rfl
  have c8 : s.length - 1 ≤ MaxN := by omega
  have c8' : n ≤ MaxN := by omega
  have c9 : n + (s.length - (n + 1)) = s.length - 1 := by omega
  have c10 : s.length - 1 ≤ s.length := by omega
  have e3 : rI (List.take n s) ++ rI (List.drop (n + 1) s) ++ List.drop (s.length - 1) (rI s) = rI (s.eraseIdx n ++ s.drop (s.length - 1)) := by
    rw [rI_drop, List.eraseIdx_eq_take_drop_succ]; simp
  have g1 : (s.eraseIdx n ++ s.drop (s.length - 1)).length = s.length := by rw [List.length_append, List.length_eraseIdx_of_lt h, List.length_drop]; omega
  have g2 : s.length - (s.length - 1) = 1 := by omega
  have g3 : s.length - 1 + 1 = s.length := by omega
  have c11 : ((s.length - 1 : Nat) : Int) ≤ s.length := by omega
  have c12 : ¬ s.length - 1 = s.length := by omega
  have e4 : List.take (s.length - 1) (rI (s.eraseIdx n ++ s.drop (s.length - 1))) ++ [[PV.int .i64 0]] ++ List.drop (s.length - 1 + 1) (rI (s.eraseIdx n ++ s.drop (s.length - 1))) = rI (s.eraseIdx n ++ [0]) := by
    have d1 : List.drop (s.length - 1 + 1) (rI (s.eraseIdx n ++ s.drop (s.length - 1))) = [] := List.drop_of_length_le (by rw [List.length_map, g1]; omega)
    rw [d1, List.append_nil, rI_take, List.take_append_of_le_length (by rw [List.length_eraseIdx_of_lt h]; omega), List.take_of_length_le (by rw [List.length_eraseIdx_of_lt h]; omega)]
    simp
  generalize hR : s.eraseIdx n ++ s.drop (s.length - 1) = R at *
  by_cases c7 : n + 1 < s.length
  · apply T_dr fw (by rw [hP]; rfl)
    · simp only [go_sem, seval, reduceIte, ↓reduceIte, bne, beq_false, beq_true, Bool.not_eq_true, Bool.if_true_right, decide_not, reduceCtorEq, hP, all1, c1, c2, c2', c3, c3', c4, c5, c7, c8, c8', c9, c10, List.length_drop, e0, t0, t1, t2, t5, Nat.le_refl, Int.le_refl]
      exact rfl
    apply T_then
    refine T_weak (s' := { env := [(0, .one (.msl 5 0 1 (s.length - 1) none)), (7, .one (.p (.int .i64 s.length)))], σ := [(5, .arr true 1 (rI R))], ex := ex }) ?_ ?_
    · exact Weak.sub fun p hp => by
        simp only [List.mem_cons, List.not_mem_nil, or_false] at hp
        rcases hp with rfl
        rw [← e3]; rfl
    refine go (aa c8 <| aa c10 <| aa c11 <| aa c12 <| aa c13 <| aa c14 <| aa g1 <| aa g2 <| aa g3 t0) trivial ?_
    refine endsM_ret rfl rfl rfl (fun p hp => ?_) rfl
    simp only [List.mem_cons, List.not_mem_nil, or_false] at hp
    rcases hp with rfl
    rw [g3] at e4
    exact congrArg (AO.arr true 1) e4
  · apply T_dr fw (by rw [hP]; rfl)
    · simp only [go_sem, seval, reduceIte, ↓reduceIte, bne, beq_false, beq_true, Bool.not_eq_true, Bool.if_true_right, decide_not, reduceCtorEq, hP, all1, c1, c2, c2', c3, c3', c4, c5, c7, c8, c8', c9, c10, List.length_drop, e0, t0, t1, t2, t5, Nat.le_refl, Int.le_refl]
      exact rfl
    apply T_then
    refine T_weak (s' := { env := [(0, .one (.msl 5 0 1 (s.length - 1) none)), (7, .one (.p (.int .i64 s.length)))], σ := [(5, .arr true 1 (rI R))], ex := ex }) ?_ ?_
    · have hn1 : n = s.length - 1 := by omega
      rw [← e3, ← hn1, List.drop_of_length_le (l := s) (by omega)]
      exact Weak.sub fun p hp => by
        simp only [List.mem_cons, List.not_mem_nil, or_false] at hp
        rcases hp with rfl
        simp [lo]
    refine go (aa c8 <| aa c10 <| aa c11 <| aa c12 <| aa c13 <| aa c14 <| aa g1 <| aa g2 <| aa g3 t0) trivial ?_
    refine endsM_ret rfl rfl rfl (fun p hp => ?_) rfl
    simp only [List.mem_cons, List.not_mem_nil, or_false] at hp
    rcases hp with rfl
    rw [g3] at e4
    exact congrArg (AO.arr true 1) e4
end Go.AM

namespace Go.AM
open Go Go.Proofs
set_option maxRecDepth 100000
set_option maxHeartbeats 4000000

theorem toD_take {n t k len : Nat} {cap : Option Nat} {σ : Sto} {m : Bool} {rows : List (List PV)} (h2 : lo σ t = .arr m k rows) (hl : len ≤ rows.length) :
    toP (n + 1) (.msl t 0 k len cap) σ = some (.sl (rows.take len), if m then (t, .arr false k rows) :: σ else σ) := by
  simp only [toP, h2]
  simp [hl]
theorem ends_twoT {rv : List RV} {s : AS} {t1 t2 k1 k2 l1 l2 : Nat} {cap1 cap2 : Option Nat} {rows1 rows2 : List (List PV)} {tl : List AV} {ds : List DV} {r : DV} (hne : t1 ≠ t2)
    (h1 : evRV rv s.env s.σ = some (.agg [.msl t1 0 k1 l1 cap1, .msl t2 0 k2 l2 cap2] :: tl)) (h2 : lo s.σ t1 = .arr true k1 rows1) (h3 : lo s.σ t2 = .arr true k2 rows2) (hl1 : l1 ≤ rows1.length) (hl2 : l2 ≤ rows2.length)
    (ht : (tl = [] ∧ ds = []) ∨ ∃ v, tl = [.one (.p v)] ∧ ds = [.one v]) (hr : r = resD (.agg [.sl (rows1.take l1), .sl (rows2.take l2)] :: ds)) :
    Ends rv r .ret s := by
  have h4 : foldP (toP 6) [.msl t1 0 k1 l1 cap1, .msl t2 0 k2 l2 cap2] s.σ = some ([.sl (rows1.take l1), .sl (rows2.take l2)], (t2, .arr false k2 rows2) :: (t1, .arr false k1 rows1) :: s.σ) := by
    have e1 := toD_take (n := 5) (cap := cap1) h2 hl1
    have e2 := toD_take (n := 5) (cap := cap2) (σ := (t1, .arr false k1 rows1) :: s.σ) (t := t2) (k := k2) (rows := rows2) (m := true) (by rw [← h3]; simp [lo, hne.symm]) hl2
    simp only [if_true] at e1 e2
    simp only [foldP, e1, e2]
  rcases ht with ⟨rfl, rfl⟩ | ⟨v, rfl, rfl⟩
  · exact ends_ret (ds := [.agg [.sl (rows1.take l1), .sl (rows2.take l2)]]) (σ' := (t2, .arr false k2 rows2) :: (t1, .arr false k1 rows1) :: s.σ) h1 (by simp only [toDs, toD, h4]) rfl hr.symm
  · exact ends_ret (ds := [.agg [.sl (rows1.take l1), .sl (rows2.take l2)], .one v]) (σ' := (t2, .arr false k2 rows2) :: (t1, .arr false k1 rows1) :: s.σ) h1 (by simp only [toDs, toD, h4]; rfl) rfl hr.symm
def foldE (W : Int → Int → Int × Int) (y : Nat → Int) : Nat → Nat → Int → Int × Int
  | 0, _, s => (s, 0)
  | n + 1, k, s => if (W s (y k)).2 = 0 then foldE W y n (k + 1) (W s (y k)).1 else (0, (W s (y k)).2)
def laneR (W E : Int → Int → Int × Int) (F : Int → Int) (S B : Nat) (d : List Int) (p : Nat) : Int × Int :=
  if (foldE W (fun i => gt d (laneAt S B p i)) S 0 (F (gt d (laneAt S B p 0)))).2 = 0 then E (foldE W (fun i => gt d (laneAt S B p i)) S 0 (F (gt d (laneAt S B p 0)))).1 S
  else (0, (foldE W (fun i => gt d (laneAt S B p i)) S 0 (F (gt d (laneAt S B p 0)))).2)
def togetherF (W E : Int → Int → Int × Int) (F : Int → Int) (s d : List Int) (a : Int) : (List Int × List Int) × Int :=
  if checkT s d = true then (if a < 0 ∨ a ≥ s.length then bad 20 else
    (if (coll (laneR W E F ((s[a.toNat]?).getD 0).toNat (sizeS (s.drop (a.toNat + 1))).toNat d) ((sizeS (s.take a.toNat)).toNat * (sizeS (s.drop (a.toNat + 1))).toNat) 0 []).2 = 0 then
      ((s.eraseIdx a.toNat, (coll (laneR W E F ((s[a.toNat]?).getD 0).toNat (sizeS (s.drop (a.toNat + 1))).toNat d) ((sizeS (s.take a.toNat)).toNat * (sizeS (s.drop (a.toNat + 1))).toNat) 0 []).1), 0)
    else bad (coll (laneR W E F ((s[a.toNat]?).getD 0).toNat (sizeS (s.drop (a.toNat + 1))).toNat d) ((sizeS (s.take a.toNat)).toNat * (sizeS (s.drop (a.toNat + 1))).toNat) 0 []).2)) else bad 30
theorem prd_split (s : List Int) {n : Nat} (h : n < s.length) : prd s = prd (s.take n) * (s[n] * prd (s.drop (n + 1))) := by
  have : s = s.take n ++ (s[n] :: s.drop (n + 1)) := by rw [← List.drop_eq_getElem_cons h, List.take_append_drop]
  conv => lhs; rw [this]
  rw [prd_append]; rfl
theorem ShapeOk.take {s : List Int} (h : ShapeOk s) (n : Nat) : ShapeOk (s.take n) := by
  refine ⟨by have := h.1; simp; omega, fun m hm => h.2.1 m (List.mem_of_mem_take hm), ?_⟩
  have h1 : prd s = prd (s.take n) * prd (s.drop n) := by rw [← prd_append, List.take_append_drop]
  have h2 := prd_pos (s := s.drop n) (fun m hm => h.2.1 m (List.mem_of_mem_drop hm))
  have h3 := prd_pos (s := s.take n) (fun m hm => h.2.1 m (List.mem_of_mem_take hm))
  have h4 := h.2.2
  have : prd (s.take n) * 1 ≤ prd (s.take n) * prd (s.drop n) := Int.mul_le_mul_of_nonneg_left h2 (by omega)
  omega
theorem ShapeOk.drop {s : List Int} (h : ShapeOk s) (n : Nat) : ShapeOk (s.drop n) := by
  refine ⟨by have := h.1; simp; omega, fun m hm => h.2.1 m (List.mem_of_mem_drop hm), ?_⟩
  have h1 : prd s = prd (s.take n) * prd (s.drop n) := by rw [← prd_append, List.take_append_drop]
  have h2 := prd_pos (s := s.drop n) (fun m hm => h.2.1 m (List.mem_of_mem_drop hm))
  have h3 := prd_pos (s := s.take n) (fun m hm => h.2.1 m (List.mem_of_mem_take hm))
  have h4 := h.2.2
  have : 1 * prd (s.drop n) ≤ prd (s.take n) * prd (s.drop n) := Int.mul_le_mul_of_nonneg_right h3 (by omega)
  omega
structure Lanes (s d : List Int) (n A S B : Nat) : Prop where
  hc : checkT s d = true
  hn : n < s.length
  hA : sizeS (s.take n) = A
  hS : s[n]? = some (S : Int)
  hB : sizeS (s.drop (n + 1)) = B
  a1 : 1 ≤ A
  s1 : 1 ≤ S
  b1 : 1 ≤ B
  s2 : S ≤ 16
  len : d.length = A * S * B
  le : A * S * B ≤ 64
theorem Lanes.of {s d : List Int} {n : Nat} (hc : checkT s d = true) (hn : n < s.length) : ∃ A S B, Lanes s d n A S B := by
  obtain ⟨h1, h2⟩ := checkT_iff.1 hc
  have hA := sizeS_ok (h1.take n)
  have hB := sizeS_ok (h1.drop (n + 1))
  have pA := prd_pos (h1.take n).2.1
  have pB := prd_pos (h1.drop (n + 1)).2.1
  have pS := h1.2.1 _ (List.getElem_mem hn)
  have hp := prd_split s hn
  obtain ⟨A, eA⟩ := Int.eq_ofNat_of_zero_le (by omega : 0 ≤ prd (s.take n))
  obtain ⟨B, eB⟩ := Int.eq_ofNat_of_zero_le (by omega : 0 ≤ prd (s.drop (n + 1)))
  obtain ⟨S, eS⟩ := Int.eq_ofNat_of_zero_le (by omega : 0 ≤ s[n])
  rw [eA, eB, eS] at hp
  have hp2 : prd s = ((A * S * B : Nat) : Int) := by rw [hp]; push_cast; rw [Int.mul_assoc]
  have h3 := h1.2.2
  exact ⟨A, S, B, hc, hn, by rw [hA, eA], by rw [List.getElem?_eq_getElem hn, eS], by rw [hB, eB], by omega, by omega, by omega, by omega, by omega, by omega⟩
theorem Lanes.lt {s d : List Int} {n A S B : Nat} (h : Lanes s d n A S B) {p i : Nat} (hp : p < A * B) (hi : i < S) : laneAt S B p i < d.length := by
  rw [h.len]
  have hb := h.b1
  have h1 : p / B < A := by rw [Nat.div_lt_iff_lt_mul (by omega)]; exact hp
  have h2 : p % B < B := Nat.mod_lt _ (by omega)
  exact row_lt (row_lt h1 hi) h2
theorem Lanes.AB {s d : List Int} {n A S B : Nat} (h : Lanes s d n A S B) : A * B ≤ 64 := by
  have h1 : A * 1 * B ≤ A * S * B := Nat.mul_le_mul_right B (Nat.mul_le_mul_left A h.s1)
  have := h.le
  rw [Nat.mul_one] at h1
  omega
theorem Lanes.B64 {s d : List Int} {n A S B : Nat} (h : Lanes s d n A S B) : B ≤ 64 := by
  have h1 : 1 * B ≤ A * B := Nat.mul_le_mul_right B h.a1
  have := h.AB
  omega
theorem p_reduce_together {gw ge gf : FuncId} {W E : Int → Int → Int × Int} {F : Int → Int} (hW : ∀ a b, I64 a → I64 b → PureC Tryz.prog gw [dN a, dN b] (dNE (W a b))) (hWr : ∀ a b, I64 a → I64 b → I64 (W a b).1)
    (hE : ∀ (a : Int) (S : Nat), I64 a → 1 ≤ S → S ≤ 16 → PureC Tryz.prog ge [dN a, dN S] (dNE (E a S))) (hF : ∀ a, I64 a → PureC Tryz.prog gf [dN a] (dN (F a))) (hFr : ∀ a, I64 a → I64 (F a))
    (s d : List Int) (a : Int) (hd : I64s d) :
    PureC Tryz.prog fi_reduce_together [dT s d, dN a, .agg [.fn gw [] [], .fn ge [] []], .one (.fn gf [] [])] (dTE (togetherF W E F s d a)) := by
  refine pure_reduce_together (by simp) fun G hP hn => ?_
  unfold a_reduce_together
  have kl := p_reduce_lanes s d a
  cases hc : checkT s d
  · have hl : lanesF s d a = ((0, 0, 0), 30) := by unfold lanesF; rw [if_neg (by simp [hc])]
    have hf : togetherF W E F s d a = bad 30 := by unfold togetherF; rw [if_neg (by simp [hc])]
    rw [hl] at kl
    refine go trivial kl ?_
    exact ends_ret rfl rfl rfl (by rw [hf]; rfl)
  by_cases ha : a < 0 ∨ a ≥ s.length
  · have hl : lanesF s d a = ((0, 0, 0), 20) := by unfold lanesF; rw [if_pos hc, if_pos ha]
    have hf : togetherF W E F s d a = bad 20 := by unfold togetherF; rw [if_pos hc, if_pos ha]
    rw [hl] at kl
    refine go trivial kl ?_
    exact ends_ret rfl rfl rfl (by rw [hf]; rfl)
  obtain ⟨n, rfl⟩ := Int.eq_ofNat_of_zero_le (by omega : 0 ≤ a)
  have hlt : n < s.length := by omega
  obtain ⟨A, S, B, L⟩ := Lanes.of hc hlt
  have hl : lanesF s d n = (((A : Int), (S : Int), (B : Int)), 0) := by
    unfold lanesF; rw [if_pos hc, if_neg ha]; simp only [Int.toNat_natCast, L.hA, L.hB, L.hS, Option.getD_some]
  rw [hl] at kl
  have hlen := check_len (checkS_iff.2 (checkT_iff.1 hc).1)
  have kC := m_slices_Clone s (by omega)
  have kD := m_slices_Delete hlt (by omega)
  have w1 : IntKind.i64.wrap ((n : Int) + 1) = ((n + 1 : Nat) : Int) := by rw [wrap_in (by omega) (by omega)]; rfl
  have hAB := L.AB
  have w2 : IntKind.i64.wrap ((A : Int) * (B : Int)) = ((A * B : Nat) : Int) := by rw [← Int.natCast_mul]; exact wrap_in (by omega) (by omega)
  refine go (aa w1 w2) (aa kl <| aa kC kD) ?_
  have htog : togetherF W E F s d n = if (coll (laneR W E F S B d) (A * B) 0 []).2 = 0 then ((s.eraseIdx n, (coll (laneR W E F S B d) (A * B) 0 []).1), 0) else bad (coll (laneR W E F S B d) (A * B) 0 []).2 := by
    unfold togetherF
    rw [if_pos hc, if_neg ha]
    simp only [Int.toNat_natCast, L.hA, L.hB, L.hS, Option.getD_some]
  have fin2 : ∀ er : Int, coll (laneR W E F S B d) (A * B) 0 [] = ([], er) → er ≠ 0 → togetherF W E F s d n = bad er := fun er h1 h2 => by rw [htog, h1]; exact if_neg h2
  refine T_weak (Weak.nilC 12 100 1 1 rfl rfl rfl rfl) ?_
  refine T_for (A * B) (fun p acc => { env := [(3, .one (.p (.fn gf [] []))), (4, .one (.ptr 4 0 2 0)), (6, .one (.ptr 6 0 2 0)), (8, .one (.ptr 8 0 2 0)), (10, .one (.ptr 10 0 3 0)), (12, .one (.ptr 12 0 2 0)), (38, .one (.p (.int .i64 ((A * B : Nat) : Int)))), (39, .one (.p (.int .i64 p)))], σ := [(4, .cells true [.p (eI s), .p (eI d)]), (6, .cells true [.p (.fn gw [] []), .p (.fn ge [] [])]), (8, .cells true [.nils, .nils]), (10, .cells true [.p (.int .i64 A), .p (.int .i64 S), .p (.int .i64 B)]), (12, .cells true [.msl 5 0 1 (s.length - 1) none, .msl 100 0 1 p none]), (5, .arr true 1 (rI (s.eraseIdx n ++ [0]))), (100, .arr true 1 (rI acc))] })
    (fun p acc => acc.length = p ∧ coll (laneR W E F S B d) (A * B - p) p acc = coll (laneR W E F S B d) (A * B) 0 []) [] ⟨rfl, rfl⟩ ?_ fun p acc hp hinv => ?_
  · refine Weak.sub fun q hq => ?_
    simp only [List.mem_cons, List.not_mem_nil, or_false] at hq
    rcases hq with rfl | rfl | rfl | rfl | rfl | rfl | rfl <;> rfl
  obtain ⟨hal, hcol⟩ := hinv
  have hs16 := L.s2
  have hb64 := L.B64
  have hb1 := L.b1
  have hs1 := L.s1
  by_cases hlt2 : p < A * B
  rotate_left
  · have c1 : ¬ (p : Int) < ((A * B : Nat) : Int) := by omega
    have hpe : p = A * B := by omega
    rw [hpe, Nat.sub_self] at hcol
    simp only [coll] at hcol
    refine go c1 trivial ?_
    refine ends_twoT (t1 := 5) (t2 := 100) (by decide) rfl rfl rfl (by rw [List.length_map, List.length_append, List.length_eraseIdx_of_lt hlt]; simp) (by simp [hal]) (.inr ⟨_, rfl, rfl⟩) ?_
    rw [htog, ← hcol, if_pos rfl]
    have e1 : (rI (s.eraseIdx n ++ [0])).take (s.length - 1) = rI (s.eraseIdx n) := by
      rw [rI_take, List.take_append_of_le_length (by rw [List.length_eraseIdx_of_lt hlt]; omega), List.take_of_length_le (by rw [List.length_eraseIdx_of_lt hlt]; omega)]
    have e2 : (rI acc).take p = rI acc := List.take_of_length_le (by simp [hal])
    rw [e1, e2]; rfl
  have c1 : (p : Int) < ((A * B : Nat) : Int) := by omega
  have w3 : IntKind.i64.wrap ((p : Int) + 1) = ((p + 1 : Nat) : Int) := by rw [wrap_in (by omega) (by omega)]; rfl
  have kat0 : PureC Tryz.prog fi_reduce_lane_at [dL A S B, dN p, dN 0] (dN (laneAt S B p 0)) := p_reduce_lane_at A S B p 0 hs16 hb64 hb1 (by omega) (by omega)
  have hl0 := L.lt hlt2 (i := 0) (by omega)
  have hx0 : d[laneAt S B p 0]? = some (gt d (laneAt S B p 0)) := by unfold gt; rw [List.getElem?_eq_getElem hl0]; rfl
  have kF := hF (gt d (laneAt S B p 0)) (gt_range hd _)
  have hfr := hFr (gt d (laneAt S B p 0)) (gt_range hd _)
  rw [show A * B - p = (A * B - (p + 1)) + 1 from by omega] at hcol
  simp only [coll] at hcol
  have hlane : laneR W E F S B d p = laneR W E F S B d p := rfl
  conv at hlane => rhs; unfold laneR
  generalize F (gt d (laneAt S B p 0)) = n0 at *
  generalize gt d (laneAt S B p 0) = x0 at *
  refine go (aa c1 <| aa hx0 hl0) (aa kat0 kF) ?_
  refine T_for S (fun i v => { env := [(3, .one (.p (.fn gf [] []))), (4, .one (.ptr 4 0 2 0)), (6, .one (.ptr 6 0 2 0)), (8, .one (.ptr 8 0 2 0)), (10, .one (.ptr 10 0 3 0)), (12, .one (.ptr 12 0 2 0)), (13, .one (.p (.int .i64 p))), (14, .one (.p (.int .i64 v))), (38, .one (.p (.int .i64 ((A * B : Nat) : Int)))), (39, .one (.p (.int .i64 p))), (52, .one (.p (.int .i64 S))), (53, .one (.p (.int .i64 i)))], σ := [(4, .cells true [.p (eI s), .p (eI d)]), (6, .cells true [.p (.fn gw [] []), .p (.fn ge [] [])]), (8, .cells true [.nils, .nils]), (10, .cells true [.p (.int .i64 A), .p (.int .i64 S), .p (.int .i64 B)]), (12, .cells true [.msl 5 0 1 (s.length - 1) none, .msl 100 0 1 p none]), (5, .arr true 1 (rI (s.eraseIdx n ++ [0]))), (100, .arr true 1 (rI acc))] })
    (fun i v => I64 v ∧ foldE W (fun i => gt d (laneAt S B p i)) (S - i) i v = foldE W (fun i => gt d (laneAt S B p i)) S 0 n0) n0 ⟨hfr, rfl⟩ (.refl _ _) fun i v hi hv => ?_
  obtain ⟨hv, hfold⟩ := hv
  by_cases hiS : i < S
  · have c2 : (i : Int) < (S : Int) := by omega
    have w4 : IntKind.i64.wrap ((i : Int) + 1) = ((i + 1 : Nat) : Int) := by rw [wrap_in (by omega) (by omega)]; rfl
    have kat := p_reduce_lane_at A S B p i hs16 hb64 hb1 (by omega) (by omega)
    have hli := L.lt hlt2 (i := i) hiS
    have hxi : d[laneAt S B p i]? = some (gt d (laneAt S B p i)) := by unfold gt; rw [List.getElem?_eq_getElem hli]; rfl
    have hy := gt_range hd (laneAt S B p i)
    have kW := hW v (gt d (laneAt S B p i)) hv hy
    have hWr' := hWr v (gt d (laneAt S B p i)) hv hy
    rw [show S - i = (S - (i + 1)) + 1 from by omega] at hfold
    simp only [foldE] at hfold
    generalize gt d (laneAt S B p i) = y at *
    by_cases e1 : (W v y).2 = 0
    · rw [if_pos e1] at hfold
      have e1' : ((W v y).2 != 0) = false := by simp [e1]
      refine go (aa c2 <| aa w4 <| aa hxi <| aa hli e1') (aa kat kW) ?_
      exact rnd_next hiS _ ⟨hWr', hfold⟩ (Weak.sub fun q hq => by
        simp only [List.mem_cons, List.not_mem_nil, or_false] at hq
        rcases hq with rfl | rfl | rfl | rfl | rfl | rfl | rfl <;> rfl)
    · rw [if_neg e1] at hfold
      have e1' : ((W v y).2 != 0) = true := by simp [e1]
      rw [← hfold] at hlane
      simp only [e1, if_false] at hlane
      rw [hlane] at hcol
      simp only [e1, if_false] at hcol
      refine go (aa c2 <| aa w4 <| aa hxi <| aa hli e1') (aa kat kW) ?_
      exact ends_ret rfl rfl rfl (by rw [fin2 _ hcol.symm e1]; rfl)
  · have c2 : ¬ (i : Int) < (S : Int) := by omega
    have hie : i = S := by omega
    rw [hie, Nat.sub_self] at hfold
    simp only [foldE] at hfold
    rw [← hfold] at hlane
    simp only [if_true] at hlane
    rw [hlane] at hcol
    have kE := hE v S hv hs1 hs16
    by_cases e1 : (E v S).2 = 0
    · rw [if_pos e1] at hcol
      have e1' : ((E v S).2 != 0) = false := by simp [e1]
      have c4 : (p + 1) * 8 ≤ 2 ^ 40 := by omega
      have c5 : p + 1 ≤ 2 ^ 40 := by omega
      refine go (aa c2 <| aa w3 <| aa e1' <| aa hal <| aa c4 c5) kE ?_
      refine rnd_next hlt2 (acc ++ [(E v S).1]) ⟨by simp [hal], hcol⟩ (Weak.sub fun q hq => ?_)
      simp only [List.mem_cons, List.not_mem_nil, or_false] at hq
      rcases hq with rfl | rfl | rfl | rfl | rfl | rfl | rfl
      · rfl
      · rfl
      · rfl
      · rfl
      · rfl
      · rfl
      · simp [lo, rI]
    · rw [if_neg e1] at hcol
      have e1' : ((E v S).2 != 0) = true := by simp [e1]
      refine go (aa c2 e1') kE ?_
      exact ends_ret rfl rfl rfl (by rw [fin2 _ hcol.symm e1]; rfl)
def sumS (s d : List Int) (a : Int) : (List Int × List Int) × Int := togetherF fAdd (fun n _ => (n, 0)) (fun _ => 0) s d a
theorem p_reduce_Sum (s d : List Int) (a : Int) (hd : I64s d) : PureC Tryz.prog fi_reduce_Sum [dT s d, dN a] (dTE (sumS s d a)) := by
  refine pure_reduce_Sum (by simp) fun G hP hn => ?_
  unfold a_reduce_Sum
  have k := p_reduce_together (W := fAdd) (E := fun n _ => (n, 0)) (F := fun _ => 0) (fun a b ha hb => p_fix_Add ha hb) (fun a b _ _ => fAdd_range a b) (fun a S _ _ _ => p_reduce_done a S) (fun a _ => p_reduce_none a) (fun _ _ => i64_0) s d a hd
  refine go trivial k ?_
  exact ends_ret rfl rfl rfl rfl
end Go.AM

namespace Go.AM
open Go Go.Proofs
set_option maxRecDepth 100000

theorem pl_append {s x : List Int} (h : InIdx s x) (t y : List Int) : ∀ a : Int, pl (s ++ t) (x ++ y) a = pl t y (pl s x a) := by
  induction h with
  | nil => intro a; rfl
  | cons h0 h1 h ih => intro a; simp only [List.cons_append, pl]; exact ih _
theorem ix_append (t : List Int) (ht : 0 ≤ prd t) : ∀ (s : List Int) (p : Int), ix (s ++ t) p = ix s (p / prd t) ++ ix t p
  | [], p => rfl
  | m :: s, p => by
    simp only [List.cons_append, ix, prd_append]
    rw [ix_append t ht s p]
    congr 1
    rw [Int.mul_comm, ← Int.ediv_ediv_of_nonneg ht]
def insL (l : List Int) (n : Nat) (k : Int) : List Int := l.take n ++ k :: l.drop n
theorem split_at {s : List Int} {n : Nat} {S : Int} (h : s[n]? = some S) : s = s.take n ++ S :: s.drop (n + 1) := by
  obtain ⟨hlt, he⟩ := List.getElem?_eq_some_iff.1 h
  rw [← he, ← List.drop_eq_getElem_cons hlt, List.take_append_drop]
theorem ix_len (s : List Int) (p : Int) : (ix s p).length = s.length := by
  induction s with
  | nil => rfl
  | cons m s ih => simp [ix, ih]
theorem Lanes.at {s d : List Int} {n A S B : Nat} (L : Lanes s d n A S B) {p i : Nat} (hp : p < A * B) (hi : i < S) :
    InIdx s (insL (ix (s.eraseIdx n) p) n i) ∧ atF s d (insL (ix (s.eraseIdx n) p) n i) = (gt d (laneAt S B p i), 0) := by
  have hok := (checkT_iff.1 L.hc).1
  have o1 := hok.take n
  have o2 := hok.drop (n + 1)
  have pA : prd (s.take n) = A := by rw [← sizeS_ok o1]; exact L.hA
  have pB : prd (s.drop (n + 1)) = B := by rw [← sizeS_ok o2]; exact L.hB
  have hb1 := L.b1
  have hx : insL (ix (s.eraseIdx n) p) n i = ix (s.take n) ((p : Int) / B) ++ (i : Int) :: ix (s.drop (n + 1)) p := by
    rw [List.eraseIdx_eq_take_drop_succ, ix_append _ (by omega), pB]
    have hl : (ix (s.take n) ((p : Int) / B)).length = n := by rw [ix_len, List.length_take]; have := L.hn; omega
    unfold insL
    rw [List.take_append_of_le_length (by omega), List.take_of_length_le (by omega), List.drop_append_of_le_length (by omega), List.drop_of_length_le (by omega)]
    rfl
  rw [hx]
  have i1 := ix_in o1.2.1 (p := (p : Int) / B)
  have i2 := ix_in o2.2.1 (p := (p : Int))
  have hsp := split_at L.hS
  have hin : InIdx s (ix (s.take n) ((p : Int) / B) ++ (i : Int) :: ix (s.drop (n + 1)) p) := by
    conv => arg 1; rw [hsp]
    exact i1.append (.cons (by omega) (by omega) i2)
  refine ⟨hin, ?_⟩
  rw [atF_ok L.hc hin]
  have hq : (p : Int) / B < A := by
    have : p / B < A := (Nat.div_lt_iff_lt_mul (by omega)).2 hp
    exact_mod_cast this
  have hp0 : (0 : Int) ≤ (p : Int) / B := Int.ediv_nonneg (by omega) (by omega)
  have hpl : pl s (ix (s.take n) ((p : Int) / B) ++ (i : Int) :: ix (s.drop (n + 1)) p) 0 = (laneAt S B p i : Int) := by
    conv => lhs; arg 1; rw [hsp]
    rw [pl_append i1]
    simp only [pl]
    rw [pl_add i2, pl_ix o2.2.1, pl_ix o1.2.1, pA, pB, Int.emod_eq_of_lt hp0 hq]
    unfold laneAt
    simp
  rw [hpl]; rfl
end Go.AM

namespace Go.AM
open Go Go.Proofs
set_option maxRecDepth 100000
set_option maxHeartbeats 4000000

def lenN (x : Nat) : Nat := if x = 0 then 0 else x.log2 + 1
theorem lenN_step {x k : Nat} (h : 2 ^ k ≤ x) : lenN x = lenN (x / 2 ^ k) + k := by
  have h0 : 0 < 2 ^ k := Nat.two_pow_pos k
  have hx : x ≠ 0 := by omega
  have hq : x / 2 ^ k ≠ 0 := by
    have := Nat.div_pos h h0
    omega
  unfold lenN
  rw [if_neg hx, if_neg hq]
  have h1 := (Nat.log2_eq_iff hq).1 rfl
  generalize (x / 2 ^ k).log2 = m at *
  have h2 : 2 ^ m * 2 ^ k ≤ x := Nat.le_trans (Nat.mul_le_mul_right _ h1.1) (Nat.div_mul_le_self x _)
  have h3 : x < 2 ^ (m + 1) * 2 ^ k := by
    rw [← Nat.div_lt_iff_lt_mul h0]; exact h1.2
  rw [← Nat.pow_add] at h2 h3
  have : x.log2 = m + k := (Nat.log2_eq_iff hx).2 ⟨h2, by rw [show m + k + 1 = m + 1 + k from by omega]; exact h3⟩
  omega
theorem lenN_lt {x : Nat} {n : Nat} (h : x < 2 ^ n) : lenN x ≤ n := by
  unfold lenN
  split
  · omega
  · rename_i hx
    have := (Nat.log2_eq_iff hx).1 rfl
    have h2 : 2 ^ x.log2 < 2 ^ n := Nat.lt_of_le_of_lt this.1 h
    have := (Nat.pow_lt_pow_iff_right (by decide : 1 < 2)).1 h2
    omega
theorem lenN_pow {x : Nat} (h : x ≠ 0) (hx : x < 18446744073709551616) : lenN x ≤ 64 ∧ 1 ≤ lenN x ∧ 9223372036854775808 ≤ x * 2 ^ (64 - lenN x) ∧ x * 2 ^ (64 - lenN x) < 18446744073709551616 := by
  have h1 := lenN_lt (n := 64) (x := x) (by omega)
  have h2 : lenN x = x.log2 + 1 := if_neg h
  have h3 := (Nat.log2_eq_iff h).1 rfl
  refine ⟨h1, by omega, ?_, ?_⟩
  · have : 2 ^ x.log2 * 2 ^ (64 - lenN x) ≤ x * 2 ^ (64 - lenN x) := Nat.mul_le_mul_right _ h3.1
    rw [← Nat.pow_add, show x.log2 + (64 - lenN x) = 63 from by omega] at this
    omega
  · have : x * 2 ^ (64 - lenN x) < 2 ^ (x.log2 + 1) * 2 ^ (64 - lenN x) := Nat.mul_lt_mul_of_pos_right h3.2 (Nat.two_pow_pos _)
    rw [← Nat.pow_add, show x.log2 + 1 + (64 - lenN x) = 64 from by omega] at this
    omega
structure Knuth (v1 v0 u u1 : Nat) : Prop where
  h1 : 2147483648 ≤ v1
  h2 : v1 < 4294967296
  h3 : v0 < 4294967296
  h4 : u < v1 * 4294967296 + v0
  h5 : u1 < 4294967296
def Knuth.q {v1 v0 u u1 : Nat} (_ : Knuth v1 v0 u u1) : Nat := (u * 4294967296 + u1) / (v1 * 4294967296 + v0)
theorem Knuth.q_lt {v1 v0 u u1 : Nat} (h : Knuth v1 v0 u u1) : h.q < 4294967296 := by
  have := h.h1; have := h.h4; have := h.h5
  unfold Knuth.q
  rw [Nat.div_lt_iff_lt_mul (by omega)]
  omega
theorem Knuth.lt_iff {v1 v0 u u1 : Nat} (h : Knuth v1 v0 u u1) {q r : Nat} (hq : q * v1 + r = u) : h.q < q ↔ q * v0 > 4294967296 * r + u1 := by
  have := h.h1
  unfold Knuth.q
  rw [Nat.div_lt_iff_lt_mul (by omega), Nat.mul_add, ← Nat.mul_assoc, ← hq]
  generalize q * v1 = P
  generalize q * v0 = A
  omega
theorem Knuth.start {v1 v0 u u1 : Nat} (h : Knuth v1 v0 u u1) : u / v1 * v1 + u % v1 = u ∧ h.q ≤ u / v1 ∧ u % v1 < 4294967296 := by
  have h1 := h.h1
  refine ⟨by rw [Nat.mul_comm]; exact Nat.div_add_mod u v1, ?_, by have := Nat.mod_lt u (y := v1) (by omega); have := h.h2; omega⟩
  rw [Nat.le_div_iff_mul_le (by omega)]
  have h2 : h.q * (v1 * 4294967296 + v0) ≤ u * 4294967296 + u1 := Nat.div_mul_le_self _ _
  rw [Nat.mul_add, ← Nat.mul_assoc] at h2
  have := h.h5
  generalize h.q * v1 = P at *
  generalize h.q * v0 = A at *
  omega
theorem Knuth.small {v1 v0 u u1 : Nat} (h : Knuth v1 v0 u u1) {q r : Nat} (hq : q * v1 + r = u) (hr : 4294967296 ≤ r) : q < 4294967296 ∧ q ≤ h.q := by
  have h1 := h.h1; have h2 := h.h2; have h3 := h.h3; have h4 := h.h4
  have hlt : q * v1 < 4294967296 * v1 := by
    rw [Nat.mul_comm 4294967296 v1]
    omega
  have hqb : q < 4294967296 := Nat.lt_of_mul_lt_mul_right hlt
  refine ⟨hqb, ?_⟩
  have : ¬ h.q < q := by
    rw [h.lt_iff hq]
    have hA : q * v0 ≤ 4294967296 * v0 := Nat.mul_le_mul_right v0 (by omega)
    omega
  omega
theorem Knuth.rest {v1 v0 u u1 : Nat} (h : Knuth v1 v0 u u1) : u * 4294967296 + u1 = h.q * (v1 * 4294967296 + v0) + (u * 4294967296 + u1) % (v1 * 4294967296 + v0) ∧ (u * 4294967296 + u1) % (v1 * 4294967296 + v0) < v1 * 4294967296 + v0 := by
  have h1 := h.h1
  refine ⟨?_, Nat.mod_lt _ (by omega)⟩
  unfold Knuth.q
  have := Nat.div_add_mod (u * 4294967296 + u1) (v1 * 4294967296 + v0)
  rw [Nat.mul_comm] at this
  exact this.symm
def tabL : Array UInt8 := #[0, 1, 2, 2, 3, 3, 3, 3, 4, 4, 4, 4, 4, 4, 4, 4, 5, 5, 5, 5, 5, 5, 5, 5, 5, 5, 5, 5, 5, 5, 5, 5, 6, 6, 6, 6, 6, 6, 6, 6, 6, 6, 6, 6, 6, 6, 6, 6, 6, 6, 6, 6, 6, 6, 6, 6, 6, 6, 6, 6, 6, 6, 6, 6, 7, 7, 7, 7, 7, 7, 7, 7, 7, 7, 7, 7, 7, 7, 7, 7, 7, 7, 7, 7, 7, 7, 7, 7, 7, 7, 7, 7, 7, 7, 7, 7, 7, 7, 7, 7, 7, 7, 7, 7, 7, 7, 7, 7, 7, 7, 7, 7, 7, 7, 7, 7, 7, 7, 7, 7, 7, 7, 7, 7, 7, 7, 7, 7, 8, 8, 8, 8, 8, 8, 8, 8, 8, 8, 8, 8, 8, 8, 8, 8, 8, 8, 8, 8, 8, 8, 8, 8, 8, 8, 8, 8, 8, 8, 8, 8, 8, 8, 8, 8, 8, 8, 8, 8, 8, 8, 8, 8, 8, 8, 8, 8, 8, 8, 8, 8, 8, 8, 8, 8, 8, 8, 8, 8, 8, 8, 8, 8, 8, 8, 8, 8, 8, 8, 8, 8, 8, 8, 8, 8, 8, 8, 8, 8, 8, 8, 8, 8, 8, 8, 8, 8, 8, 8, 8, 8, 8, 8, 8, 8, 8, 8, 8, 8, 8, 8, 8, 8, 8, 8, 8, 8, 8, 8, 8, 8, 8, 8, 8, 8, 8, 8, 8, 8, 8, 8, 8, 8, 8, 8, 8, 8]
theorem tab_lenN : ∀ x : Nat, x < 256 → tabL[x]? = some (UInt8.ofNat (lenN x)) := by decide +kernel
end Go.AM

