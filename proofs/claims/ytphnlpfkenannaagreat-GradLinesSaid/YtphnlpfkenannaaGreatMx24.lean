import Derived.Test.YtphnlpfkenannaaGreatMx23
set_option linter.unusedVariables false
set_option linter.unusedSimpArgs false
namespace Go.AM
open Go Go.Proofs
set_option maxRecDepth 100000
set_option maxHeartbeats 4000000

theorem p_bits_Mul {x y : Nat} (hx : x < 18446744073709551616) (hy : y < 18446744073709551616) : PureC Tryz.prog fi_math_bits_Mul [dU x, dU y] (dUU (x * y / 18446744073709551616) (x * y % 18446744073709551616)) := by
  refine pure_math_bits_Mul (by simp) fun G hP hn => ?_
  unfold a_math_bits_Mul
  have k := p_bits_Mul64 hx hy
  have w1 := u64_nat hx
  have w2 := u64_nat hy
  have w3 : IntKind.u64.wrap ((x * y / 18446744073709551616 : Nat) : Int) = ((x * y / 18446744073709551616 : Nat) : Int) := u64_nat (by
    have : x * y < 18446744073709551616 * 18446744073709551616 := Nat.mul_lt_mul'' hx hy
    omega)
  have w4 : IntKind.u64.wrap ((x * y % 18446744073709551616 : Nat) : Int) = ((x * y % 18446744073709551616 : Nat) : Int) := u64_nat (by omega)
  generalize x * y / 18446744073709551616 = h at *
  generalize x * y % 18446744073709551616 = l at *
  refine go (aa w1 <| aa w2 <| aa w3 w4) k ?_
  exact ends_ret rfl rfl rfl rfl
def repL (v : Int) (k n : Nat) : List Int := List.replicate n v ++ List.replicate (k - n) 0
theorem m_slices_Repeat (v : Int) (k : Nat) (h1 : 1 ≤ k) (h2 : k ≤ 64) : MutC Tryz.prog fi_slices_Repeat_int_int [.one (.msl 13 0 1 1 none), .one (.p (.int .i64 k))] [(13, .arr true 1 (rI [v]))]
    (.one (.msl 30 0 1 k (some k))) [(13, .arr true 1 (rI [v])), (30, .arr true 1 (rI (List.replicate k v)))] [30] := by
  refine mut_slices_Repeat_int_int (by simp) fun G ex hP hn hfr => ?_
  unfold a_slices_Repeat_int_int
  have hfr := hfr 30 (by simp)
  have kb := p_bits_Mul (x := 1) (y := k) (by omega) (by omega)
  rw [Nat.one_mul, show k / 18446744073709551616 = 0 from by omega, show k % 18446744073709551616 = k from by omega] at kb
  have w1 : IntKind.u64.wrap (1 : Int) = 1 := by decide
  have w2 := u64_nat (n := k) (by omega)
  have w3 : IntKind.i64.wrap (k : Int) = (k : Int) := wrap_in (by omega) (by omega)
  have c0 : ¬ (k : Int) < 0 := by omega
  have c1 : ¬ (k : Int) > 9223372036854775807 := by omega
  have hM : MaxN = 140737488355328 := rfl
  have q1 : (k : Int) * 8 ≤ MaxN := by omega
  have q2 : (k : Int) ≤ MaxN := by omega
  have m1 : min (1 : Int) (k : Int) = 1 := by omega
  refine go (aa w1 <| aa w2 <| aa w3 <| aa c0 <| aa c1 <| aa m1 <| aa q1 <| aa q2 <| aa hfr (scr_ex hfr)) kb ?_
  have e0 : List.take k [[PV.int IntKind.i64 v]] = [[PV.int IntKind.i64 v]] := List.take_of_length_le (by simpa using h1)
  refine T_for k (fun i (n : Nat) => { env := [(7, .one (.msl 30 0 1 k (some k))), (8, .one (.p (.int .i64 n)))], σ := [(30, .arr true 1 (rI (repL v k n))), (13, .arr true 1 (rI [v]))], ex := ex })
    (fun i n => i < n ∧ n ≤ k) 1 ⟨by omega, h1⟩ ?_ fun i n hi hc => ?_
  · refine Weak.sub fun p hp => ?_
    simp only [List.mem_cons, List.not_mem_nil, or_false] at hp
    rcases hp with rfl | rfl
    · simp [lo, e0, repL, rI]
    · rfl
  obtain ⟨c1, c2⟩ := hc
  by_cases hlt : n < k
  · have c3 : (n : Int) < k := by omega
    have c4 : (n : Int) ≤ k := by omega
    refine go (aa c3 <| aa c4 c2) trivial ?_
    have n0 : ¬ n = 0 := by omega
    have n1 : ¬ n = k := by omega
    have hl : (repL v k n).length = k := by simp [repL]; omega
    have c5 : n + (k - n) = k := by omega
    have e1 : (List.take (k - n) (List.take n (rI (repL v k n)))) = rI (List.replicate (min n (k - n)) v) := by
      simp [repL, rI, List.take_append_of_le_length, List.take_replicate, Nat.min_comm]
    have e2 : (List.take n (rI (repL v k n))).length = n := by simp [hl]; omega
    have w4 : IntKind.i64.wrap ((n : Int) + min (n : Int) ((k - n : Nat) : Int)) = ((n + min n (k - n) : Nat) : Int) := by rw [wrap_in (by omega) (by omega)]; omega
    have e3 : List.take n (rI (repL v k n)) ++ rI (List.replicate (min n (k - n)) v) ++ List.drop (n + min n (k - n)) (rI (repL v k n)) = rI (repL v k (n + min n (k - n))) := by
      rw [← List.map_take, ← List.map_drop, ← List.map_append, ← List.map_append]
      congr 1
      unfold repL
      rw [List.take_append_of_le_length (by simp), List.take_of_length_le (by simp), List.drop_append, List.drop_of_length_le (by simp), List.nil_append, List.length_replicate, List.drop_replicate, List.replicate_append_replicate]
      congr 2
      omega
    apply T_dr fw (by rw [hP]; rfl)
    · simp only [go_sem, seval, reduceIte, ↓reduceIte, bne, beq_false, beq_true, Bool.not_eq_true, Bool.if_true_right, decide_not, reduceCtorEq, hP, all1, n0, n1, hlt, hl, c3, c4, c2, c5, e1, e2, w4, Nat.le_refl, Int.le_refl]
      exact rfl
    refine go trivial trivial ?_
    refine rnd_next (by omega) (n + min n (k - n)) ⟨by omega, by omega⟩ (Weak.sub fun p hp => ?_)
    simp only [List.mem_cons, List.not_mem_nil, or_false] at hp
    rcases hp with rfl | rfl
    · rw [← e3]; simp [lo]
    · rfl
  · have c3 : ¬ (n : Int) < k := by omega
    have hnk : n = k := by omega
    refine go c3 trivial ?_
    refine endsM_ret rfl rfl rfl (fun p hp => ?_) rfl
    simp only [List.mem_cons, List.not_mem_nil, or_false] at hp
    rcases hp with rfl | rfl
    · rfl
    · simp [lo, hnk, repL]
end Go.AM

namespace Go.AM
open Go Go.Proofs
set_option maxRecDepth 100000
set_option maxHeartbeats 4000000

def fullF (s : List Int) (n : Int) : (List Int × List Int) × Int := if checkS s = true then ((s, List.replicate (sizeS s).toNat n), 0) else bad 20
theorem sizeS_nat (s : List Int) : sizeS s = (((sizeS s).toNat : Nat) : Int) := by have := sizeS_nn s; omega
theorem sizeS_one {s : List Int} (h : checkS s = true) : 1 ≤ (sizeS s).toNat ∧ (sizeS s).toNat ≤ 64 := by
  have h1 := checkS_iff.1 h
  have h2 := sizeS_ok h1
  have h3 := prd_pos h1.2.1
  have h4 := h1.2.2
  omega
theorem c_size {s : List Int} : PureC Tryz.prog fi_shape_Size [dI s] (dN (((sizeS s).toNat : Nat) : Int)) := by
  have := p_shape_Size s
  rw [sizeS_nat s] at this; exact this
theorem m_tensor_Full' {s : List Int} (n : Int) (h : checkS s = true) : MutC Tryz.prog fi_tensor_Full [.one (.p (eI s)), .one (.p (.int .i64 n))] []
    (.tup [.agg [.msl 5 0 1 s.length none, .msl 30 0 1 (sizeS s).toNat (some (sizeS s).toNat)], .one (.p (.int .i64 0))])
    [(5, .arr true 1 (rI s)), (30, .arr true 1 (rI (List.replicate (sizeS s).toNat n)))] [4, 13, 5, 30] := by
  refine mut_tensor_Full (by simp) fun G ex hP hn hfr => ?_
  unfold a_tensor_Full
  have hs := check_len h
  have kc := p_shape_Check s
  rw [h] at kc
  have kl := m_slices_Clone s (by omega)
  have ks := c_size (s := s)
  have hk := sizeS_one h
  have kr := m_slices_Repeat n (sizeS s).toNat hk.1 hk.2
  have hfr4 := hfr 4 (by simp)
  have hfr13 := hfr 13 (by simp)
  have hfr5 := hfr 5 (by simp)
  have hfr30 := hfr 30 (by simp)
  have hfrA : ∀ x ∈ ex, AV.has 5 x = false := by simpa using hfr5
  have hfrB : ∀ x ∈ ex, AV.has 30 x = false := by simpa using hfr30
  generalize (sizeS s).toNat = k at *
  refine go (aa hfr5 <| aa hfr30 <| aa hfr4 <| aa hfr13 <| aa (scr_ex hfr5) <| aa (scr_ex hfr30) <| aa hfrA hfrB) (aa kc <| aa ks <| aa kl kr) ?_
  refine endsM_ret rfl rfl rfl (fun p hp => ?_) rfl
  simp only [List.mem_cons, List.not_mem_nil, or_false] at hp
  rcases hp with rfl | rfl <;> rfl
theorem m_tensor_Full {s : List Int} (n : Int) (h : checkS s = true) : MutC Tryz.prog fi_tensor_Full [.one (.p (eI s)), .one (.p (.int .i64 n))] []
    (.tup [.agg [.msl 5 0 1 s.length none, .msl 30 0 1 (sizeS s).toNat (some (sizeS s).toNat)], .one (.p (.int .i64 0))])
    [(5, .arr true 1 (rI s)), (30, .arr true 1 (rI (List.replicate (sizeS s).toNat n)))] [5, 30] :=
  ((m_tensor_Full' n h).hide 4 rfl rfl rfl rfl (by simp)).hide 13 rfl rfl rfl rfl (by simp)
theorem p_tensor_Full (s : List Int) (n : Int) : PureC Tryz.prog fi_tensor_Full [dI s, dN n] (dTE (fullF s n)) := by
  refine pure_tensor_Full (by simp) fun G hP hn => ?_
  unfold a_tensor_Full
  have kc := p_shape_Check s
  cases h : checkS s
  · refine go h kc ?_
    exact ends_ret rfl rfl rfl (by simp [fullF, h, bad, resD])
  · rw [h] at kc
    have hs := check_len h
    have kl := m_slices_Clone s (by omega)
    have ks := c_size (s := s)
    have hk := sizeS_one h
    have hf : fullF s n = ((s, List.replicate (sizeS s).toNat n), 0) := by unfold fullF; rw [if_pos h]
    have kr := m_slices_Repeat n (sizeS s).toNat hk.1 hk.2
    generalize (sizeS s).toNat = k at *
    refine go trivial (aa kc <| aa ks <| aa kl kr) ?_
    exact ends_twoM (t1 := 5) (t2 := 30) (by decide) rfl rfl rfl (by simp) (by simp) (.inr ⟨_, rfl, rfl⟩) (by rw [hf]; rfl)
end Go.AM

namespace Go.AM
open Go Go.Proofs
set_option maxRecDepth 100000
set_option maxHeartbeats 4000000

def spreadF (s d g : List Int) : (List Int × List Int) × Int :=
  if checkT s d = true then (if fitsS s g = true then ((g, spreadD s d g), 0) else bad 20) else bad 30
theorem spreadN_len (s d g : List Int) (k : Nat) : (spreadN s d g k).length = k := by simp [spreadN]
theorem spreadN_succ (s d g : List Int) (k : Nat) : spreadN s d g (k + 1) = spreadN s d g k ++ [(d[(fromAt s g ((k : Nat) : Int)).toNat]?).getD 0] := by
  simp [spreadN, List.range_succ]
def spD (s d g : List Int) (k : Nat) : List Int := spreadN s d g k ++ List.replicate ((sizeS g).toNat - k) 0
theorem spD_len {s d g : List Int} {k : Nat} (h : k ≤ (sizeS g).toNat) : (spD s d g k).length = (sizeS g).toNat := by simp [spD, spreadN_len]; omega
theorem spD_set {s d g : List Int} {k : Nat} (h : k < (sizeS g).toNat) : (spD s d g k).set k ((d[(fromAt s g ((k : Nat) : Int)).toNat]?).getD 0) = spD s d g (k + 1) := by
  unfold spD
  rw [spreadN_succ, List.set_append_right _ _ (by rw [spreadN_len]; omega), spreadN_len, Nat.sub_self]
  rw [show (sizeS g).toNat - k = ((sizeS g).toNat - (k + 1)) + 1 from by omega, List.replicate_succ]
  simp
def spS (s d g : List Int) (k : Nat) : Sto :=
  [(2, .cells true [.p (eI s), .p (eI d)]), (4, .cells true [.nils, .nils]), (6, .cells true [.msl 5 0 1 g.length none, .msl 30 0 1 (sizeS g).toNat (some (sizeS g).toNat)]), (5, .arr true 1 (rI g)), (30, .arr true 1 (rI (spD s d g k)))]
theorem sp_fam (s d g : List Int) : Fam (spS s d g) [] := by
  refine ⟨fun k p hp => ?_, fun k t ht => ?_, fun k d hd => ?_, fun k t d hd ht => ?_⟩
  · simp only [spS, List.mem_cons, List.not_mem_nil, or_false] at hp
    rcases hp with rfl | rfl | rfl | rfl | rfl <;> rfl
  · by_cases h : t ∈ (spS s d g k).map (·.1)
    · exact h
    · exact absurd (lo_none h) ht
  · simp at hd
  · simp at hd
theorem p_tensor_Spread (s d g : List Int) : PureC Tryz.prog fi_tensor_Spread [dT s d, dI g] (dTE (spreadF s d g)) := by
  refine pure_tensor_Spread (by simp) fun G hP hn => ?_
  unfold a_tensor_Spread
  have kc := p_tensor_Check s d
  cases h1 : checkT s d
  · rw [h1] at kc
    have hf : spreadF s d g = bad 30 := by unfold spreadF; rw [if_neg (by simp [h1])]
    refine go trivial kc ?_
    exact ends_ret rfl rfl rfl (by rw [hf]; rfl)
  rw [h1] at kc
  have kf := p_shape_Fits s g
  cases h2 : fitsS s g
  · rw [h2] at kf
    have hf : spreadF s d g = bad 20 := by unfold spreadF; rw [if_pos h1, if_neg (by simp [h2])]
    refine go trivial (aa kc kf) ?_
    exact ends_ret rfl rfl rfl (by rw [hf]; rfl)
  rw [h2] at kf
  have hj := of_fits h2
  have kF := m_tensor_Full (s := g) 0 (checkS_iff.2 hj.hb)
  have kfrom := p_tensor_from s g
  refine go trivial (aa kc <| aa kf <| aa kF kfrom) ?_
  refine T_range rfl (by rw [hP]; exact q_tensor_from_1 hj.ha hj.hb hj.fitR.1) (spS s d g) [] (by rw [hn]; rfl) (fun x hx => by
    simp only [allF, List.mem_map] at hx
    obtain ⟨p, _, rfl⟩ := hx
    rfl) (fun t => ?_) (sp_fam s d g) (fun t ht => ?_) (fun d hd => by simp at hd) ?_ ?_
  · left
    have : spD s d g 0 = List.replicate (sizeS g).toNat 0 := by simp [spD, spreadN]
    simp only [spS, this, lo]
  · by_cases h : t ∈ (spS s d g 0).map (·.1)
    · exact h
    · exact absurd (lo_none h) ht
  · intro k v hv F n G' G'' ex fw h1' h2' h3' h4' hfr
    have hP : G''.P = Tryz.prog := h3'.trans hP
    have hk : k < (sizeS g).toNat := by
      have := (List.getElem?_eq_some_iff.1 hv).1
      rwa [allF_len] at this
    rw [allF_get s g k hk] at hv
    cases hv
    have hsz := sizeS_ok hj.hb
    have hlt := fromAt_lt hj (p := k) (by omega)
    have hdl := (checkT_iff.1 h1).2
    obtain ⟨q, hq⟩ := Int.eq_ofNat_of_zero_le hlt.1
    have hset := spD_set (s := s) (d := d) hk
    have hlen := spD_len (s := s) (d := d) (Nat.le_of_lt hk)
    rw [hq, Int.toNat_natCast] at hset
    have hql : q < d.length := by omega
    have hx : d[q]? = some d[q] := List.getElem?_eq_getElem hql
    rw [hx] at hset
    simp only [Option.getD_some] at hset
    obtain ⟨z, hz⟩ : ∃ z, (spD s d g k)[k]? = some z := ⟨_, List.getElem?_eq_getElem (by omega)⟩
    simp only [putE, List.map, spS, hq]
    generalize (sizeS g).toNat = N at *
    generalize spD s d g k = R at *
    repeat' (first     | refine T_then ?_ | refine then_ret ?_ | refine then_exit ?_ | refine then_goto ?_     | refine rnd_exit ?_ | refine rnd_ret ?_ | refine rnd_goto ?_     | refine noGo_normal ?_ | refine noGo_ret ?_ | refine noGo_exit ?_ | refine jmp_normal ?_ | refine jmp_ret ?_ | refine jmp_exit ?_ | refine jmp_goto ?_     | refine inB_normal ?_ | refine inB_ret ?_ | refine inB_goto ?_ | refine inB_exit ?_ | refine inB_exit_ne rfl ?_     | ((first | apply T_sr fw | apply T_reg fw); · ((try simp only [go_sem, seval, reduceIte, ↓reduceIte, hP]); (repeat ((first       | (refine ⟨true, false, rfl, fun h => absurd h (by decide), ?_⟩) | (refine ⟨false, false, rfl, fun h => absurd h (by decide), ?_⟩) | refine ⟨_, _, rfl, fun _ => rfl, ?_⟩); (try simp only [go_sem, seval, reduceIte, ↓reduceIte, hP]))); (first | done | exact rfl)))     | ((first | apply T_sdF fw (by rw [hP]; rfl) (by decide +kernel) | apply T_drF fw (by rw [hP]; rfl) (by decide +kernel)); · ((try simp only [TOps.flat, List.cons_append, List.nil_append]); (repeat ((first | refine Y_g0 ?_ | refine Y_g (by (try simp only [go_sem, seval, reduceIte, ↓reduceIte, Bool.not_eq_true, reduceCtorEq, beq_false, beq_true, hP]); (first | done | exact rfl)) ?_); (first | refine Y_skip ?_ | ((first | apply Y_q); (· ((try simp only [go_sem, seval, reduceIte, ↓reduceIte, Bool.not_eq_true, reduceCtorEq, beq_false, beq_true, hP]); (first | done | exact rfl))))))); apply RunF_nil; (try simp only [go_sem, seval, reduceIte, ↓reduceIte, Bool.not_eq_true, reduceCtorEq, beq_false, beq_true, hP]); (first | done | exact rfl)))     | ((first | apply T_sd fw (by rw [hP]; rfl) | apply T_dr fw (by rw [hP]; rfl)); · ((try simp only [go_sem, seval, reduceIte, ↓reduceIte, bne, beq_false, beq_true, Bool.not_eq_true, Bool.if_true_right, decide_not, reduceCtorEq, hP]); (first | done | exact rfl)))     | refine T_seq ?_ | refine T_block ?_ | refine T_scopeJ 0 rfl ?_ | refine T_scope ?_ | refine T_goto ?_ | refine T_ret ?_ | refine T_skip ?_ | refine T_exit ?_ | refine T_label ?_     | refine T_condT rfl ?_ | refine T_condF rfl ?_     | refine T_condD rfl (fun _ => ?_) (fun _ => ?_)     | refine T_cond rfl (fun _ => ?_) (fun _ => ?_))
    refine ⟨rfl, ?_⟩
    apply T_block
    apply T_dr fw (by rw [hP]; rfl)
    · simp only [go_sem, seval, reduceIte, ↓reduceIte, bne, beq_false, beq_true, Bool.not_eq_true, Bool.if_true_right, decide_not, reduceCtorEq, hP, all1, hx, hql, hz, hlen, hk, rI_set]
      exact rfl
    refine go trivial trivial ?_
    refine ⟨rfl, fun p hp => ?_, rfl⟩
    simp only [List.mem_cons, List.not_mem_nil, or_false] at hp
    rcases hp with rfl | rfl | rfl | rfl | rfl
    · rfl
    · rfl
    · rfl
    · rfl
    · simp [lo, hset]
  · simp only [List.cons_append, List.nil_append, spS, allF_len]
    have he : spD s d g (sizeS g).toNat = spreadD s d g := by unfold spD; rw [Nat.sub_self, spreadN_eq hj h1]; simp
    have hsl : (spreadD s d g).length = (sizeS g).toNat := by rw [← he]; exact spD_len (Nat.le_refl _)
    rw [he]
    generalize (sizeS g).toNat = N at *
    refine go trivial trivial ?_
    exact ends_twoM (t1 := 5) (t2 := 30) (by decide) rfl rfl rfl (by simp) (by simp [hsl]) (.inr ⟨_, rfl, rfl⟩) (by unfold spreadF; rw [if_pos h1, if_pos h2]; rfl)
end Go.AM

namespace Go.AM
open Go Go.Proofs
set_option maxRecDepth 100000
set_option maxHeartbeats 4000000

def twoF (W : Int → Int → Int × Int) (s d t e : List Int) : (List Int × List Int) × Int :=
  if checkT s d = true ∧ checkT t e = true then (if (joinSF s t).2 = 0 then eachF (joinSF s t).1 (fun p => W (gt (spreadD s d (joinSF s t).1) p) (gt (spreadD t e (joinSF s t).1) p)) else bad 20) else bad 30
def oneF (W : Int → Int × Int) (s d : List Int) : (List Int × List Int) × Int := if checkT s d = true then eachF s (fun p => W (gt d p)) else bad 30
theorem gt_some {d : List Int} {p : Nat} (h : p < d.length) : d[p]? = some (gt d p) := by unfold gt; rw [List.getElem?_eq_getElem h]; rfl
theorem spread_I64 {s d g : List Int} (h : I64s d) : I64s (spreadD s d g) := I64s.mk fun x => atF_range h
theorem spread_len {s d g : List Int} (h : ShapeOk g) : (spreadD s d g).length = (sizeS g).toNat := by
  have := mk_len h (fun x => (atF s d (fromX s x)).1)
  have h2 := sizeS_ok h
  unfold spreadD; omega
theorem p_elem_Two' {op : Int} {f : FuncId} {W : Int → Int → Int × Int} (hop : (op = 10 ∧ f = fi_fix_Add) ∨ (op = 11 ∧ f = fi_fix_Sub) ∨ (op = 12 ∧ f = fi_fix_Mul) ∨ (op = 13 ∧ f = fi_fix_Div))
    (s d t e : List Int) (hd : I64s d) (he : I64s e) (hW : ∀ p, p < (sizeS (joinSF s t).1).toNat → PureC Tryz.prog f [dN (gt (spreadD s d (joinSF s t).1) p), dN (gt (spreadD t e (joinSF s t).1) p)] (dNE (W (gt (spreadD s d (joinSF s t).1) p) (gt (spreadD t e (joinSF s t).1) p)))) :
    PureC Tryz.prog fi_elem_Two [dN op, dT s d, dT t e] (dTE (twoF W s d t e)) := by
  refine pure_elem_Two (by simp) fun G hP hn => ?_
  unfold a_elem_Two
  have kk := p_elem_kinds
  unfold kindsM at kk
  have kc1 := p_tensor_Check s d
  have kc2 := p_tensor_Check t e
  have kj := p_shape_Join s t
  have kx := p_tensor_Spread s d (joinSF s t).1
  have ky := p_tensor_Spread t e (joinSF s t).1
  rcases hop with ⟨rfl, rfl⟩ | ⟨rfl, rfl⟩ | ⟨rfl, rfl⟩ | ⟨rfl, rfl⟩
  all_goals
    cases h1 : checkT s d
    · have hf : twoF W s d t e = bad 30 := by unfold twoF; rw [if_neg (by simp [h1])]
      rw [h1] at kc1
      refine go trivial (aa kk kc1) ?_
      exact ends_ret rfl rfl rfl (by rw [hf]; rfl)
    cases h2 : checkT t e
    · have hf : twoF W s d t e = bad 30 := by unfold twoF; rw [if_neg (by simp [h2])]
      rw [h1] at kc1
      rw [h2] at kc2
      refine go trivial (aa kk <| aa kc1 kc2) ?_
      exact ends_ret rfl rfl rfl (by rw [hf]; rfl)
    rw [h1] at kc1
    rw [h2] at kc2
    rcases join_or s t with ⟨r, hj, hr⟩ | ⟨_, hr⟩
    rotate_left
    · have hf : twoF W s d t e = bad 20 := by unfold twoF; rw [if_pos ⟨h1, h2⟩, hr, if_neg (by simp)]
      rw [hr] at kj
      refine go trivial (aa kk <| aa kc1 <| aa kc2 kj) ?_
      exact ends_ret rfl rfl rfl (by rw [hf]; rfl)
    · have hf : twoF W s d t e = eachF r (fun p => W (gt (spreadD s d r) p) (gt (spreadD t e r) p)) := by unfold twoF; rw [if_pos ⟨h1, h2⟩, hr, if_pos rfl]
      rw [hr] at kj kx ky hW
      have hx : spreadF s d r = ((r, spreadD s d r), 0) := by unfold spreadF; rw [if_pos h1, if_pos (fits_of hj.left)]
      have hy : spreadF t e r = ((r, spreadD t e r), 0) := by unfold spreadF; rw [if_pos h2, if_pos (fits_of hj.right)]
      rw [hx] at kx
      rw [hy] at ky
      have lx := spread_len (s := s) (d := d) hj.hr
      have ly := spread_len (s := t) (d := e) hj.hr
      have ix := spread_I64 (s := s) (g := r) hd
      have iy := spread_I64 (s := t) (g := r) he
      generalize spreadD s d r = xd at *
      generalize spreadD t e r = yd at *
      have kE := fun (k1 : PV) (f2 : FuncId) (hW : ∀ p, p < (sizeS r).toNat → PureC Tryz.prog f2 [dN (gt xd p), dN (gt yd p)] (dNE (W (gt xd p) (gt yd p)))) => p_elem_each (f := fi_elem_Two_1) (caps := [.box [k1, .fn f2 [] []], .box [eI r, eI xd], .box [eI r, eI yd]]) (s := r) (h := fun p => W (gt xd p) (gt yd p)) (by have := hj.hr.1; omega)
        (fun p hp => p_elem_Two_1 (gt_some (by omega)) (gt_some (by omega)) (hW p hp))
      refine go trivial (aa kk <| aa kc1 <| aa kc2 <| aa kj <| aa kx <| aa ky (kE _ _ hW)) ?_
      exact ends_ret rfl rfl rfl (by rw [hf]; rfl)
theorem p_elem_Two {op : Int} {f : FuncId} {W : Int → Int → Int × Int} (hop : (op = 10 ∧ f = fi_fix_Add) ∨ (op = 11 ∧ f = fi_fix_Sub) ∨ (op = 12 ∧ f = fi_fix_Mul) ∨ (op = 13 ∧ f = fi_fix_Div))
    (hW : ∀ a b, I64 a → I64 b → PureC Tryz.prog f [dN a, dN b] (dNE (W a b))) (s d t e : List Int) (hd : I64s d) (he : I64s e) : PureC Tryz.prog fi_elem_Two [dN op, dT s d, dT t e] (dTE (twoF W s d t e)) :=
  p_elem_Two' hop s d t e hd he fun p _ => hW _ _ (gt_range (spread_I64 hd) p) (gt_range (spread_I64 he) p)
end Go.AM

namespace Go.AM
open Go Go.Proofs
set_option maxRecDepth 100000
set_option maxHeartbeats 4000000

theorem p_elem_One {op : Int} {f : FuncId} {W : Int → Int × Int} (hop : (op = 20 ∧ f = fi_fix_Neg) ∨ (op = 21 ∧ f = fi_elem_kinds_1) ∨ (op = 22 ∧ f = fi_fix_Pow) ∨ (op = 23 ∧ f = fi_fix_Sqrt))
    (hW : ∀ a, I64 a → PureC Tryz.prog f [dN a] (dNE (W a))) (s d : List Int) (hd : I64s d) : PureC Tryz.prog fi_elem_One [dN op, dT s d] (dTE (oneF W s d)) := by
  refine pure_elem_One (by simp) fun G hP hn => ?_
  unfold a_elem_One
  have kk := p_elem_kinds
  unfold kindsM at kk
  have kc1 := p_tensor_Check s d
  rcases hop with ⟨rfl, rfl⟩ | ⟨rfl, rfl⟩ | ⟨rfl, rfl⟩ | ⟨rfl, rfl⟩
  all_goals
    cases h1 : checkT s d
    · have hf : oneF W s d = bad 30 := by unfold oneF; rw [if_neg (by simp [h1])]
      rw [h1] at kc1
      refine go trivial (aa kk kc1) ?_
      exact ends_ret rfl rfl rfl (by rw [hf]; rfl)
    · rw [h1] at kc1
      have hf : oneF W s d = eachF s (fun p => W (gt d p)) := by unfold oneF; rw [if_pos h1]
      have hc := checkT_iff.1 h1
      have hsz := sizeS_ok hc.1
      have kE := fun (k2 : PV) (f2 : FuncId) (hW : ∀ a, I64 a → PureC Tryz.prog f2 [dN a] (dNE (W a))) => p_elem_each (f := fi_elem_One_1) (caps := [.box [.fn f2 [] [], k2], .box [eI s, eI d]]) (s := s) (h := fun p => W (gt d p)) (by have := hc.1.1; omega)
        (fun p hp => p_elem_One_1 (gt_some (by omega)) (hW _ (gt_range hd p)))
      refine go trivial (aa kk <| aa kc1 (kE _ _ hW)) ?_
      exact ends_ret rfl rfl rfl (by rw [hf]; rfl)
end Go.AM

namespace Go.AM
open Go Go.Proofs
set_option maxRecDepth 100000
set_option maxHeartbeats 4000000

theorem i64s_dec {l : List Int} (h : (l.all fun n => decide (I64 n)) = true) : I64s l := fun n hn => by simpa using List.all_eq_true.1 h n hn
end Go.AM

namespace Go.AM
open Go Go.Proofs
set_option maxRecDepth 100000
set_option maxHeartbeats 4000000

theorem k_Add {s d t e : List Int} (hd : I64s d) (he : I64s e) : PureC Tryz.prog fi_elem_Two [dN 10, dT s d, dT t e] (dTE (twoF fAdd s d t e)) := p_elem_Two (.inl ⟨rfl, rfl⟩) (fun _ _ ha hb => p_fix_Add ha hb) s d t e hd he
theorem k_Sub {s d t e : List Int} (hd : I64s d) (he : I64s e) : PureC Tryz.prog fi_elem_Two [dN 11, dT s d, dT t e] (dTE (twoF fSub s d t e)) := p_elem_Two (.inr (.inl ⟨rfl, rfl⟩)) (fun _ _ ha hb => p_fix_Sub ha hb) s d t e hd he
theorem k_Mul {s d t e : List Int} (hd : I64s d) (he : I64s e) : PureC Tryz.prog fi_elem_Two [dN 12, dT s d, dT t e] (dTE (twoF fMul s d t e)) := p_elem_Two (.inr (.inr (.inl ⟨rfl, rfl⟩))) (fun _ _ ha hb => p_fix_Mul ha hb) s d t e hd he
theorem k_Neg {s d : List Int} (hd : I64s d) : PureC Tryz.prog fi_elem_One [dN 20, dT s d] (dTE (oneF fNeg s d)) := p_elem_One (.inl ⟨rfl, rfl⟩) (fun _ ha => p_fix_Neg ha) s d hd
theorem k_Relu {s d : List Int} (hd : I64s d) : PureC Tryz.prog fi_elem_One [dN 21, dT s d] (dTE (oneF fRelu s d)) := p_elem_One (.inr (.inl ⟨rfl, rfl⟩)) (fun _ _ => p_relu _) s d hd
end Go.AM

namespace Go.AM
open Go Go.Proofs
set_option maxRecDepth 100000
set_option maxHeartbeats 4000000

def val (s d x : List Int) : Int := (atF s d x).1
theorem eachF_ok {s : List Int} {h : Nat → Int × Int} (k : ∀ p, p < (sizeS s).toNat → (h p).2 = 0) : eachF s h = ((s, (List.range (sizeS s).toNat).map fun p => (h p).1), 0) := by
  unfold eachF
  rw [coll_ok (fun p hp => by rw [Nat.zero_add]; exact k p hp)]
  simp
theorem eachF_inv {s : List Int} {h : Nat → Int × Int} (k : (eachF s h).2 = 0) : ∀ p, p < (sizeS s).toNat → (h p).2 = 0 := by
  rcases coll_cases h (sizeS s).toNat with c | ⟨j, hj, c1, c2⟩
  · exact c
  · exfalso
    have := coll_err (f := h) (n := (sizeS s).toNat) (a := 0) (acc := []) hj (fun i hi => by rw [Nat.zero_add]; exact c1 i hi) (by rw [Nat.zero_add]; exact c2)
    rw [Nat.zero_add] at this
    unfold eachF at k
    rw [this, if_neg c2] at k
    exact c2 k
theorem spread_gt {s d r : List Int} (h : ShapeOk r) {p : Nat} (hp : p < (sizeS r).toNat) : gt (spreadD s d r) p = val s d (fromX s (ix r p)) := by
  have hsz := sizeS_ok h
  unfold gt spreadD
  rw [mk_get h _ (by omega)]; rfl
theorem place_of {r x : List Int} (h : ShapeOk r) (hx : InIdx r x) : ∃ p, p < (sizeS r).toNat ∧ ix r ((p : Nat) : Int) = x := by
  have h1 := pl_lt hx
  have hsz := sizeS_ok h
  obtain ⟨p, hp⟩ := Int.eq_ofNat_of_zero_le h1.1
  exact ⟨p, by omega, by rw [← hp]; exact ix_pl0 hx h.2.1⟩
theorem mk_places {r : List Int} (h : ShapeOk r) (g : List Int → Int) : ((List.range (sizeS r).toNat).map fun p => g (ix r ((p : Nat) : Int))) = mk r g := by
  have h64 := sizeS_nn r
  unfold mk
  apply List.map_congr_left
  intro p hp
  have := List.mem_range.1 hp
  rw [idxF_eq h.2.1 (by omega) (by omega)]
theorem two_ok {W : Int → Int → Int × Int} {s d t e r : List Int} (h1 : checkT s d = true) (h2 : checkT t e = true) (hj : JoinOk s t r) (hW : ∀ x, InIdx r x → (W (val s d (fromX s x)) (val t e (fromX t x))).2 = 0) :
    twoF W s d t e = ((r, mk r fun x => (W (val s d (fromX s x)) (val t e (fromX t x))).1), 0) := by
  unfold twoF
  rw [if_pos ⟨h1, h2⟩, hj.eq, if_pos rfl]
  have hh : ∀ p, p < (sizeS r).toNat → W (gt (spreadD s d r) p) (gt (spreadD t e r) p) = W (val s d (fromX s (ix r p))) (val t e (fromX t (ix r p))) := fun p hp => by rw [spread_gt hj.hr hp, spread_gt hj.hr hp]
  rw [eachF_ok (fun p hp => by rw [hh p hp]; exact hW _ (ix_in hj.hr.2.1))]
  congr 2
  rw [← mk_places hj.hr]
  exact List.map_congr_left fun p hp => by rw [hh p (List.mem_range.1 hp)]
theorem two_inv {W : Int → Int → Int × Int} {s d t e : List Int} (h : (twoF W s d t e).2 = 0) : checkT s d = true ∧ checkT t e = true ∧ ∃ r, JoinOk s t r ∧ (∀ x, InIdx r x → (W (val s d (fromX s x)) (val t e (fromX t x))).2 = 0) ∧
    twoF W s d t e = ((r, mk r fun x => (W (val s d (fromX s x)) (val t e (fromX t x))).1), 0) := by
  by_cases hc : checkT s d = true ∧ checkT t e = true
  · refine ⟨hc.1, hc.2, ?_⟩
    rcases join_or s t with ⟨r, hj, hr⟩ | ⟨_, hr⟩
    · have hf : twoF W s d t e = eachF r (fun p => W (gt (spreadD s d r) p) (gt (spreadD t e r) p)) := by unfold twoF; rw [if_pos hc, hr, if_pos rfl]
      rw [hf] at h
      have hk := eachF_inv h
      have hW : ∀ x, InIdx r x → (W (val s d (fromX s x)) (val t e (fromX t x))).2 = 0 := fun x hx => by
        obtain ⟨p, hp, rfl⟩ := place_of hj.hr hx
        have := hk p hp
        rwa [spread_gt hj.hr hp, spread_gt hj.hr hp] at this
      exact ⟨r, hj, hW, two_ok hc.1 hc.2 hj hW⟩
    · unfold twoF at h; rw [if_pos hc, hr, if_neg (by simp)] at h; simp [bad] at h
  · unfold twoF at h; rw [if_neg hc] at h; simp [bad] at h
theorem coll_range {f : Nat → Int × Int} (hf : ∀ p, I64 (f p).1) : ∀ (n a : Nat) (acc : List Int), I64s acc → I64s (coll f n a acc).1
  | 0, _, _, h => h
  | n + 1, a, acc, h => by
    simp only [coll]
    split
    · exact coll_range hf n _ _ (h.append fun x hx => by rw [List.mem_singleton.1 hx]; exact hf a)
    · exact I64s.nil
theorem each_range {s : List Int} {h : Nat → Int × Int} (hf : ∀ p, I64 (h p).1) : I64s (eachF s h).1.2 := by
  unfold eachF
  split
  · exact coll_range hf _ _ _ I64s.nil
  · exact I64s.nil
theorem two_range {W : Int → Int → Int × Int} (hW : ∀ a b, I64 (W a b).1) (s d t e : List Int) : I64s (twoF W s d t e).1.2 := by
  unfold twoF
  split
  · split
    · exact each_range fun p => hW _ _
    · exact I64s.nil
  · exact I64s.nil
theorem one_range {W : Int → Int × Int} (hW : ∀ a, I64 (W a).1) (s d : List Int) : I64s (oneF W s d).1.2 := by
  unfold oneF
  split
  · exact each_range fun p => hW _
  · exact I64s.nil
theorem full_is {s : List Int} (v : Int) (h : checkS s = true) : fullF s v = ((s, List.replicate (sizeS s).toNat v), 0) := by unfold fullF; rw [if_pos h]
theorem sub_self {s d : List Int} (h : checkT s d = true) : twoF fSub s d s d = fullF s 0 := by
  have hs := (checkT_iff.1 h).1
  have hv : ∀ v : Int, fSub v v = (0, 0) := fun v => by unfold fSub; rw [Int.sub_self]; exact rng_in i64_0
  rw [two_ok h h (JoinOk.self hs) (fun x _ => by rw [hv]), full_is 0 (checkS_iff.2 hs)]
  simp only [hv]
  congr 2
  unfold mk
  rw [List.map_const']; simp
end Go.AM

namespace Go.AM
open Go Go.Proofs
set_option maxRecDepth 100000

abbrev Tn := List Int × List Int
def gT (ps : List Tn) (p : Nat) : Tn := (ps[p]?).getD ([], [])
end Go.AM

namespace Go.AM
open Go Go.Proofs
set_option maxRecDepth 100000
set_option maxHeartbeats 4000000

abbrev dL (A S B : Int) : DV := .agg [.int .i64 A, .int .i64 S, .int .i64 B]
def lanesF (s d : List Int) (a : Int) : (Int × Int × Int) × Int :=
  if checkT s d = true then (if a < 0 ∨ a ≥ s.length then ((0, 0, 0), 20) else ((sizeS (s.take a.toNat), (s[a.toNat]?).getD 0, sizeS (s.drop (a.toNat + 1))), 0)) else ((0, 0, 0), 30)
theorem rI_take (s : List Int) (n : Nat) : (rI s).take n = rI (s.take n) := by simp [List.map_take]
theorem rI_drop (s : List Int) (n : Nat) : (rI s).drop n = rI (s.drop n) := by simp [List.map_drop]
theorem p_reduce_lanes (s d : List Int) (a : Int) : PureC Tryz.prog fi_reduce_lanes [dT s d, dN a] (.tup [dL (lanesF s d a).1.1 (lanesF s d a).1.2.1 (lanesF s d a).1.2.2, dN (lanesF s d a).2]) := by
  refine pure_reduce_lanes (by simp) fun G hP hn => ?_
  unfold a_reduce_lanes
  have kc := p_tensor_Check s d
  cases hc : checkT s d
  · rw [hc] at kc
    refine go trivial kc ?_
    exact ends_ret rfl rfl rfl (by simp [lanesF, hc, resD])
  rw [hc] at kc
  by_cases h1 : a < 0
  · refine go h1 kc ?_
    exact ends_ret rfl rfl rfl (by simp [lanesF, hc, h1, resD])
  by_cases h2 : a ≥ s.length
  · refine go (aa h1 h2) kc ?_
    exact ends_ret rfl rfl rfl (by simp [lanesF, hc, h1, h2, resD])
  obtain ⟨n, rfl⟩ := Int.eq_ofNat_of_zero_le (by omega : 0 ≤ a)
  have hlt : n < s.length := by omega
  have hx : s[n]? = some s[n] := List.getElem?_eq_getElem hlt
  have hl := check_len (checkS_iff.2 (checkT_iff.1 hc).1)
  have w1 : IntKind.i64.wrap ((n : Int) + 1) = ((n + 1 : Nat) : Int) := by rw [wrap_in (by omega) (by omega)]; rfl
  have c1 : (n : Int) ≤ s.length := by omega
  have c2 : ((n + 1 : Nat) : Int) ≤ s.length := by omega
  have t1 := rI_take s n
  have t2 := rI_drop s (n + 1)
  have t3 : (s.length : Int).toNat = s.length := rfl
  have t4 : (rI s).take s.length = rI s := by rw [List.take_of_length_le (by simp)]
  refine go (aa h1 <| aa h2 <| aa w1 <| aa c1 <| aa c2 <| aa t1 <| aa t2 <| aa t3 <| aa t4 <| aa hx hlt) (aa kc @p_shape_Size) ?_
  have t5 : List.take (s.length - (n + 1)) (rI (List.drop (n + 1) s)) = rI (List.drop (n + 1) s) := List.take_of_length_le (by simp)
  refine go (aa h1 h2) kc ?_
  apply T_dr fw (by rw [hP]; rfl)
  · simp only [go_sem, seval, reduceIte, ↓reduceIte, bne, beq_false, beq_true, Bool.not_eq_true, Bool.if_true_right, decide_not, reduceCtorEq, hP, all1, h1, h2, w1, c1, c2, t1, t2, t3, t4, t5, hx, hlt, Int.le_refl]
    refine ⟨_, ⟨_, _, _, _, _, _, rfl, rfl, rfl, p_shape_Size _⟩, ?_⟩
    simp only [go_sem, seval, reduceIte, ↓reduceIte, bne, beq_false, beq_true, Bool.not_eq_true, Bool.if_true_right, decide_not, reduceCtorEq, hP, all1, h1, h2, w1, c1, c2, t1, t2, t3, t4, t5, hx, hlt, Int.le_refl]
    refine ⟨_, ⟨_, _, _, _, _, _, rfl, rfl, rfl, p_shape_Size _⟩, ?_⟩
    simp only [go_sem, seval, reduceIte, ↓reduceIte, bne, beq_false, beq_true, Bool.not_eq_true, Bool.if_true_right, decide_not, reduceCtorEq, hP, all1, h1, h2, w1, c1, c2, t1, t2, t3, t4, t5, hx, hlt, Int.le_refl]
    exact rfl
  refine go trivial trivial ?_
  exact ends_ret rfl rfl rfl (by simp [lanesF, hc, h1, hx, resD, hlt, show ¬ s.length ≤ n from by omega])
def laneAt (S B p i : Nat) : Nat := (p / B * S + i) * B + p % B
theorem p_reduce_lane_at (A S B p i : Nat) (hS : S ≤ 16) (hB : B ≤ 64) (hB0 : 0 < B) (hp : p ≤ 4096) (hi : i ≤ 64) : PureC Tryz.prog fi_reduce_lane_at [dL A S B, dN p, dN i] (dN (laneAt S B p i)) := by
  refine pure_reduce_lane_at (by simp) fun G hP hn => ?_
  unfold a_reduce_lane_at
  have b0 : ((B : Int) = 0) = False := by simp; omega
  have hq := Nat.div_le_self p B
  have hr : p % B < B := Nat.mod_lt _ hB0
  have qd : IntKind.i64.wrap ((p : Int).tdiv (B : Int)) = ((p / B : Nat) : Int) := by
    rw [Int.tdiv_eq_ediv_of_nonneg (by omega), ← Int.natCast_ediv]
    generalize p / B = q at hq ⊢
    exact wrap_in (by omega) (by omega)
  have qm : (p : Int).tmod (B : Int) = ((p % B : Nat) : Int) := by rw [Int.tmod_eq_emod_of_nonneg (by omega)]; omega
  unfold laneAt
  generalize p / B = q at *
  generalize p % B = r at *
  have m1 : q * S ≤ 4096 * 16 := Nat.mul_le_mul (by omega) hS
  have w1 : IntKind.i64.wrap ((q : Int) * (S : Int)) = ((q * S : Nat) : Int) := by rw [← Int.natCast_mul]; exact wrap_in (by omega) (by omega)
  have w2 : IntKind.i64.wrap (((q * S : Nat) : Int) + (i : Int)) = ((q * S + i : Nat) : Int) := by rw [← Int.natCast_add]; exact wrap_in (by omega) (by omega)
  have m2 : (q * S + i) * B ≤ (4096 * 16 + 64) * 64 := Nat.mul_le_mul (by omega) hB
  have w3 : IntKind.i64.wrap (((q * S + i : Nat) : Int) * (B : Int)) = (((q * S + i) * B : Nat) : Int) := by rw [← Int.natCast_mul]; exact wrap_in (by omega) (by omega)
  have w4 : IntKind.i64.wrap ((((q * S + i) * B : Nat) : Int) + (r : Int)) = (((q * S + i) * B + r : Nat) : Int) := by rw [← Int.natCast_add]; exact wrap_in (by omega) (by omega)
  refine go (aa b0 <| aa @qd <| aa @qm <| aa w1 <| aa w2 <| aa w3 w4) trivial ?_
  exact ends_ret rfl rfl rfl rfl
theorem p_reduce_none (n : Int) : PureC Tryz.prog fi_reduce_none [dN n] (dN 0) := by
  refine pure_reduce_none (by simp) fun G hP hn => ?_
  unfold a_reduce_none
  refine go trivial trivial ?_
  exact ends_ret rfl rfl rfl rfl
theorem p_reduce_same (n : Int) : PureC Tryz.prog fi_reduce_same [dN n] (dN n) := by
  refine pure_reduce_same (by simp) fun G hP hn => ?_
  unfold a_reduce_same
  refine go trivial trivial ?_
  exact ends_ret rfl rfl rfl rfl
theorem p_reduce_done (n k : Int) : PureC Tryz.prog fi_reduce_done [dN n, dN k] (dNE (n, 0)) := by
  refine pure_reduce_done (by simp) fun G hP hn => ?_
  unfold a_reduce_done
  refine go trivial trivial ?_
  exact ends_ret rfl rfl rfl rfl
end Go.AM

namespace Go.AM
open Go Go.Proofs
set_option maxRecDepth 100000
set_option maxHeartbeats 4000000

theorem m_slices_Delete {s : List Int} {n : Nat} (h : n < s.length) (hs : s.length ≤ 64) : MutC Tryz.prog fi_slices_Delete_int_int [.one (.msl 5 0 1 s.length none), .one (.p (.int .i64 n)), .one (.p (.int .i64 ((n + 1 : Nat) : Int)))] [(5, .arr true 1 (rI s))]
    (.one (.msl 5 0 1 (s.length - 1) none)) [(5, .arr true 1 (rI (s.eraseIdx n ++ [0])))] [] := by
  refine mut_slices_Delete_int_int (by simp) fun G ex hP hn hfr => ?_
  unfold a_slices_Delete_int_int
  by_cases h1 : s.length = 1
  · obtain ⟨x, rfl⟩ : ∃ x, s = [x] := match s, h1 with | [x], _ => ⟨x, rfl⟩
    obtain rfl : n = 0 := by simpa using h
    have hM : (0 : Nat) ≤ MaxN := Nat.zero_le _
    have e0 : ((0 : Int) == 1) = false := rfl
    repeat' (first | apply T_then | apply then_ret | apply then_exit | apply then_goto | apply rnd_exit | apply rnd_ret | apply rnd_goto | apply noGo_normal | apply noGo_ret | apply noGo_exit | apply jmp_normal | apply jmp_ret | apply jmp_exit | apply jmp_goto | apply inB_normal | apply inB_ret | apply inB_goto | apply inB_exit | refine inB_exit_ne rfl ?_ | ((first | apply T_srK fw | apply T_regK fw); · ((try simp only [TOps.flat, List.cons_append, List.nil_append]); repeat (first | apply X_g0 | apply X_g | apply S_keep | apply X_skip | apply X_skipN | apply X_q | apply X_st | apply X_n | apply X_s | apply SKs0 | apply SKs2 | apply SKs1 | refine ⟨⟨rfl, rfl⟩, ?_⟩ | refine ⟨⟨rfl, ?_⟩, ?_⟩ | refine ⟨?_, ?_⟩ | (· (try simp only [go_sem, seval, reduceIte, ↓reduceIte, Bool.not_eq_true, reduceCtorEq, beq_false, beq_true, hn, hP, e0, hM, Nat.le_refl, Int.le_refl]); first | done | rfl)))) | apply T_seq | apply T_block | refine T_scopeJ 0 rfl ?_ | apply T_scope | apply T_goto | apply T_ret | apply T_skip | apply T_exit | apply T_label | refine T_condT rfl ?_ | refine T_condF rfl ?_ | refine T_condD rfl (fun _ => ?_) (fun _ => ?_) | refine T_cond rfl (fun _ => ?_) (fun _ => ?_))
    apply T_dr fw (by rw [hP]; rfl)
    · simp only [go_sem, seval, reduceIte, ↓reduceIte, bne, beq_false, beq_true, Bool.not_eq_true, Bool.if_true_right, decide_not, reduceCtorEq, hP, e0, hM, all1, Nat.le_refl, Int.le_refl]
      exact rfl
    refine go (aa e0 hM) trivial ?_
    refine endsM_ret rfl rfl rfl (fun p hp => ?_) rfl
    simp only [List.mem_cons, List.not_mem_nil, or_false] at hp
    rcases hp with rfl
    rfl
  have c13 : ¬ s.length - 1 = 0 := by omega
  have c14 : s.length - 1 < s.length := by omega
  have c1 : (n : Int) ≤ ((n + 1 : Nat) : Int) := by omega
  have c2 : ((n + 1 : Nat) : Int) ≤ s.length := by omega
  have c2' : n + 1 ≤ s.length := by omega
  have c3 : (n : Int) ≤ s.length := by omega
  have c3' : n ≤ s.length := by omega
  have e0 : ((n : Int) == ((n + 1 : Nat) : Int)) = false := by simp; omega
  have t0 : (s.length : Int).toNat = s.length := rfl
  have t1 := rI_take s n
  have t2 := rI_drop s (n + 1)
  have t5 : List.take (s.length - (n + 1)) (rI (List.drop (n + 1) s)) = rI (List.drop (n + 1) s) := List.take_of_length_le (by simp)
  have c4 : ¬ n = s.length := by omega
  have c5 : n + 1 + (s.length - (n + 1)) = s.length := by omega
  have c6 : n + (s.length - (n + 1)) ≤ s.length := by omega
  refine go (aa c1 <| aa c2 <| aa c3 <| aa e0 t0) trivial ?_
  have hM : MaxN = 140737488355328 := rfl
  have c8 : s.length - 1 ≤ MaxN := by omega
  have c8' : n ≤ MaxN := by omega
  have c9 : n + (s.length - (n + 1)) = s.length - 1 := by omega
  have c10 : s.length - 1 ≤ s.length := by omega
  have e3 : rI (List.take n s) ++ rI (List.drop (n + 1) s) ++ List.drop (s.length - 1) (rI s) = rI (s.eraseIdx n ++ s.drop (s.length - 1)) := by
    rw [rI_drop, List.eraseIdx_eq_take_drop_succ]; simp
  have g1 : (s.eraseIdx n ++ s.drop (s.length - 1)).length = s.length := by rw [List.length_append, List.length_eraseIdx_of_lt h, List.length_drop]; omega
  have g2 : s.length - (s.length - 1) = 1 := by omega
  have g3 : s.length - 1 + 1 = s.length := by omega
  have c11 : ((s.length - 1 : Nat) : Int) ≤ s.length := by omega
  have c12 : ¬ s.length - 1 = s.length := by omega
  have e4 : List.take (s.length - 1) (rI (s.eraseIdx n ++ s.drop (s.length - 1))) ++ [[PV.int .i64 0]] ++ List.drop (s.length - 1 + 1) (rI (s.eraseIdx n ++ s.drop (s.length - 1))) = rI (s.eraseIdx n ++ [0]) := by
    have d1 : List.drop (s.length - 1 + 1) (rI (s.eraseIdx n ++ s.drop (s.length - 1))) = [] := List.drop_of_length_le (by rw [List.length_map, g1]; omega)
    rw [d1, List.append_nil, rI_take, List.take_append_of_le_length (by rw [List.length_eraseIdx_of_lt h]; omega), List.take_of_length_le (by rw [List.length_eraseIdx_of_lt h]; omega)]
    simp
  generalize hR : s.eraseIdx n ++ s.drop (s.length - 1) = R at *
  by_cases c7 : n + 1 < s.length
  · apply T_dr fw (by rw [hP]; rfl)
    · simp only [go_sem, seval, reduceIte, ↓reduceIte, bne, beq_false, beq_true, Bool.not_eq_true, Bool.if_true_right, decide_not, reduceCtorEq, hP, all1, c1, c2, c2', c3, c3', c4, c5, c7, c8, c8', c9, c10, List.length_drop, e0, t0, t1, t2, t5, Nat.le_refl, Int.le_refl]
      exact rfl
    apply T_then
    refine T_weak (s' := { env := [(0, .one (.msl 5 0 1 (s.length - 1) none)), (7, .one (.p (.int .i64 s.length)))], σ := [(5, .arr true 1 (rI R))], ex := ex }) ?_ ?_
    · exact Weak.sub fun p hp => by
        simp only [List.mem_cons, List.not_mem_nil, or_false] at hp
        rcases hp with rfl
        rw [← e3]; rfl
    refine go (aa c8 <| aa c10 <| aa c11 <| aa c12 <| aa c13 <| aa c14 <| aa g1 <| aa g2 <| aa g3 t0) trivial ?_
    refine endsM_ret rfl rfl rfl (fun p hp => ?_) rfl
    simp only [List.mem_cons, List.not_mem_nil, or_false] at hp
    rcases hp with rfl
    rw [g3] at e4
    exact congrArg (AO.arr true 1) e4
  · apply T_dr fw (by rw [hP]; rfl)
    · simp only [go_sem, seval, reduceIte, ↓reduceIte, bne, beq_false, beq_true, Bool.not_eq_true, Bool.if_true_right, decide_not, reduceCtorEq, hP, all1, c1, c2, c2', c3, c3', c4, c5, c7, c8, c8', c9, c10, List.length_drop, e0, t0, t1, t2, t5, Nat.le_refl, Int.le_refl]
      exact rfl
    apply T_then
    refine T_weak (s' := { env := [(0, .one (.msl 5 0 1 (s.length - 1) none)), (7, .one (.p (.int .i64 s.length)))], σ := [(5, .arr true 1 (rI R))], ex := ex }) ?_ ?_
    · have hn1 : n = s.length - 1 := by omega
      rw [← e3, ← hn1, List.drop_of_length_le (l := s) (by omega)]
      exact Weak.sub fun p hp => by
        simp only [List.mem_cons, List.not_mem_nil, or_false] at hp
        rcases hp with rfl
        simp [lo]
    refine go (aa c8 <| aa c10 <| aa c11 <| aa c12 <| aa c13 <| aa c14 <| aa g1 <| aa g2 <| aa g3 t0) trivial ?_
    refine endsM_ret rfl rfl rfl (fun p hp => ?_) rfl
    simp only [List.mem_cons, List.not_mem_nil, or_false] at hp
    rcases hp with rfl
    rw [g3] at e4
    exact congrArg (AO.arr true 1) e4
end Go.AM

