import Derived.Test.YtphnlpfkenannaaGreatMx32
set_option linter.unusedVariables false
set_option linter.unusedSimpArgs false
namespace Go.AM
open Go Go.Proofs
set_option maxRecDepth 100000
set_option maxHeartbeats 16000000

theorem MutC.out {P : Program} {f : FuncId} {vs : List AV} {σ σ' σ2 : Sto} {r : AV} {fr : List Nat} (h : MutC P f vs σ r σ' fr) (he : ∀ t, lo σ2 t = lo σ' t) : MutC P f vs σ r σ2 fr := by
  refine ⟨h.enters, fun A τ w xs ex exs h1 h2 h3 h4 h5 h6 => (h.calls A τ w xs ex exs h1 h2 h3 h4 h5 h6).mono ?_⟩
  rintro e w' ⟨x, A', τ', k1, k2, k3, k4, k5, k6⟩
  exact ⟨x, A', τ', k1, k2, fun t => by rw [he]; exact k3 t, fun t t' b n1 n2 hne hm hb => k4 t t' b (by rw [← he]; exact n1) (by rw [← he]; exact n2) hne (by rw [← he]; exact hm) hb, k5, k6⟩
theorem p_GradNone (l : List Nd) (input : Tn) (ps : List Tn) (n : Int) (hi64 : I64s input.2) (hp64 : ∀ x ∈ ps, I64s x.2) (hn64 : ∀ n ∈ l, I64s n.nums) (hN : I64 n) :
    PureC Tryz.prog fi_fullerlaw15_GradNone [dNds l, dT input.1 input.2, dTs ps, dN n] (dB true) := by
  refine pure_fullerlaw15_GradNone (by simp) fun G hP hn => ?_
  refine T_wf 0 fun h00 => ?_
  refine T_wf 2 fun h20 => ?_
  have h0 : l.length ≤ MaxN := by simpa using wf_rows (rows := l.map rNd) h00
  have h2 : ps.length ≤ MaxN := by simpa using wf_rows (rows := rTn ps) h20
  clear h00 h20
  have hM : MaxN = 140737488355328 := rfl
  have kf := p_few15 l input ps h0 h2
  cases f1 : (fewN l && (fewT input.1 input.2 && fewTs 10 ps))
  · rw [f1] at kf
    refine go trivial (aa @p_awake15 kf) ?_
    exact ends_ret rfl rfl rfl rfl
  rw [f1] at kf
  by_cases f3 : (l.length : Int) > 23
  · refine go f3 (aa @p_awake15 kf) ?_
    exact ends_ret rfl rfl rfl rfl
  obtain ⟨hl2, hl30⟩ := fewN_iff (Bool.and_eq_true .. ▸ f1).1
  have hlA : ∀ n ∈ l, n.args.length ≤ MaxN := fun n hn => by have := (hl2 n hn).1; omega
  have kA := p_eval_All l input ps h0 hlA h2 hi64 hp64 hn64
  obtain ⟨Gs, x, at_, e, kG, hA, hB⟩ := k_const (l := l) (input := input) (ps := ps) n (by omega) hlA h2 hi64 hp64 hn64 hN
  generalize evAll l input ps = R at *
  obtain ⟨R1, R2, R3⟩ := R
  simp only at kA hA hB
  obtain ⟨i1, i2⟩ := input
  simp only at kA kG kf
  have al3 : (l.map rNd).all (fun r => r.length == 3) = true := by simp
  have b1 : (l.length + 1) * 56 ≤ 2 ^ 40 := by omega
  have b2 : l.length + 1 ≤ 2 ^ 40 := by omega
  have b3 : l.length * 56 ≤ 2 ^ 40 := by omega
  have b4 : l.length ≤ 2 ^ 40 := by omega
  have hrow : (l ++ [cN n]).map rNd = l.map rNd ++ [[.int .i64 3, .sl [], .sl [[.int .i64 n]]]] := by rw [List.map_append]; rfl
  have kM0 : MutC Tryz.prog fi_grad_All [.one (.msl 40 0 3 (l.length + 1) none), .agg [.p (eI i1), .p (eI i2)], .one (.p (.sl (rTn ps)))] [(40, .arr true 3 (l.map rNd ++ [[.int .i64 3, .sl [], .sl [[.int .i64 n]]]]))] (dG Gs x at_ e).av [(40, .arr false 3 (l.map rNd ++ [[.int .i64 3, .sl [], .sl [[.int .i64 n]]]])), (40, .arr true 3 (l.map rNd ++ [[.int .i64 3, .sl [], .sl [[.int .i64 n]]]]))] [] := by
    refine MutC.ofPure (ds := [dNds (l ++ [cN n]), dT i1 i2, dTs ps]) kG ?_
    have t1 : toP 6 (.msl 40 0 3 (l.length + 1) none) [(40, .arr true 3 (l.map rNd ++ [[.int .i64 3, .sl [], .sl [[.int .i64 n]]]]))] = _ := toD_list (n := 5) rfl (by simp)
    simp only [toDs, toD, t1]
    rw [← hrow]
    rfl
  have kM := kM0.out (σ2 := [(40, .arr false 3 (l.map rNd ++ [[.int .i64 3, .sl [], .sl [[.int .i64 n]]]]))]) (fun t => by simp only [lo]; split <;> rfl)
  clear kM0 kG
  have hc : (l ≠ [] ∧ R3 ≠ 0) ∨ ((l = [] ∨ R3 = 0) ∧ ¬ (l ≠ [] ∧ R3 ≠ 0)) := by
    by_cases h1 : l = []
    · exact .inr ⟨.inl h1, fun h => h.1 h1⟩
    · by_cases h2 : R3 = 0
      · exact .inr ⟨.inr h2, fun h => h.2 h2⟩
      · exact .inl ⟨h1, h2⟩
  rcases hc with ⟨h1, h2⟩ | ⟨h1, h2⟩
  · have he := hB h1 h2
    subst he
    have e1 : (e != 0) = true := by simp [h2]
    have e2 : (l.length : Int) > 0 := by have := List.length_pos_iff.2 h1; omega
    refine go f3 (aa @p_awake15 <| aa kf kA) ?_
    apply T_drP fw (by rw [hP]; rfl)
    · simp only [go_sem, seval, reduceIte, ↓reduceIte, bne, beq_false, beq_true, Bool.not_eq_true, Bool.if_true_right, decide_not, reduceCtorEq, hP, hn, al3, b1, b2, b3, b4]
      refine RunP_S rfl ⟨_, _, _, _, rfl, rfl, kM⟩ rfl ?_
      simp only [go_sem, seval, reduceIte, ↓reduceIte, bne, beq_false, beq_true, Bool.not_eq_true, Bool.if_true_right, decide_not, reduceCtorEq, hP, hn]
      exact rfl
    refine go (aa e1 e2) trivial ?_
    exact ends_ret rfl rfl rfl rfl
  obtain ⟨g1, g2, hGl, hZ⟩ := hA h1
  subst g1
  have g2' := g2.symm
  subst g2'
  have hc2 : (R3 != 0) = false ∨ ((R3 != 0) = true ∧ ¬ (l.length : Int) > 0) := by
    by_cases h3 : R3 = 0
    · left; simp [h3]
    · right
      refine ⟨by simp [h3], ?_⟩
      rcases h1 with rfl | h1
      · simp
      · exact absurd h1 h3
  clear h1 h2 hA hB
  rcases hc2 with e1 | ⟨e1, e2⟩
  · skip
    refine go f3 (aa @p_awake15 <| aa kf kA) ?_
    apply T_drP fw (by rw [hP]; rfl)
    · simp only [go_sem, seval, reduceIte, ↓reduceIte, bne, beq_false, beq_true, Bool.not_eq_true, Bool.if_true_right, decide_not, reduceCtorEq, hP, hn, al3, b1, b2, b3, b4]
      refine RunP_S rfl ⟨_, _, _, _, rfl, rfl, kM⟩ rfl ?_
      simp only [go_sem, seval, reduceIte, ↓reduceIte, bne, beq_false, beq_true, Bool.not_eq_true, Bool.if_true_right, decide_not, reduceCtorEq, hP, hn]
      exact rfl
    refine go e1 trivial ?_
    refine T_for 8 (fun i (_ : Unit) => { env := [(3, aN n), (9, .one (.p (.bool true))), (13, .one (.p (.sl (rTn Gs)))), (14, aN n), (16, aN 0), (17, aN i)], σ := [] })
      (fun _ _ => True) () trivial ?_ fun i _ hi _ => ?_
    · refine Weak.sub fun q hq => ?_
      exact absurd hq List.not_mem_nil
    by_cases hlt : i < 8
    rotate_left
    · obtain rfl : i = 8 := by omega
      have c1 : ¬ ((8 : Nat) : Int) < 8 := by omega
      refine go hGl trivial ?_
      exact ends_ret rfl rfl rfl rfl
    have c1 : (i : Int) < 8 := by omega
    have w1 : IntKind.i64.wrap ((i : Int) + 1) = ((i + 1 : Nat) : Int) := by rw [wrap_in (by omega) (by omega)]; rfl
    have hx := gT_some (ps := Gs) (p := i) (by omega)
    have hz : ∀ j (hj : j < (gT Gs i).2.length), (gT Gs i).2[j]? = some 0 := fun j hj => by
      rw [List.getElem?_eq_getElem hj, (hZ (gT Gs i) (List.mem_of_getElem? hx)).1 _ (List.getElem_mem hj)]
    have hd64 := (hZ (gT Gs i) (List.mem_of_getElem? hx)).2
    generalize gT Gs i = q at *
    obtain ⟨q1, q2⟩ := q
    simp only at hz hd64
    refine go (aa hGl c1) trivial ?_
    refine T_for q2.length (fun j (_ : Unit) => { env := [(3, aN n), (9, .one (.p (.bool true))), (13, .one (.p (.sl (rTn Gs)))), (14, aN n), (16, aN 0), (17, aN i), (18, aN j)], σ := [] })
      (fun _ _ => True) () trivial ?_ fun j _ hj _ => ?_
    · refine Weak.sub fun q hq => ?_
      exact absurd hq List.not_mem_nil
    by_cases hlj : j < q2.length
    · have d1 : (j : Int) < q2.length := by omega
      have v1 : IntKind.i64.wrap ((j : Int) + 1) = ((j + 1 : Nat) : Int) := by rw [wrap_in (by omega) (by omega)]; rfl
      have hy := hz j hlj
      refine go (aa hGl <| aa c1 <| aa hx <| aa hlt <| aa d1 <| aa hlj <| aa hy v1) trivial ?_
      exact rnd_next hlj () trivial (Weak.sub fun q hq => absurd hq List.not_mem_nil)
    have d1 : ¬ (j : Int) < q2.length := by omega
    refine go (aa hGl <| aa c1 <| aa hx <| aa hlt <| aa d1 w1) trivial ?_
    exact rnd_next hlt () trivial (Weak.sub fun q hq => absurd hq List.not_mem_nil)
  · skip
    refine go f3 (aa @p_awake15 <| aa kf kA) ?_
    apply T_drP fw (by rw [hP]; rfl)
    · simp only [go_sem, seval, reduceIte, ↓reduceIte, bne, beq_false, beq_true, Bool.not_eq_true, Bool.if_true_right, decide_not, reduceCtorEq, hP, hn, al3, b1, b2, b3, b4]
      refine RunP_S rfl ⟨_, _, _, _, rfl, rfl, kM⟩ rfl ?_
      simp only [go_sem, seval, reduceIte, ↓reduceIte, bne, beq_false, beq_true, Bool.not_eq_true, Bool.if_true_right, decide_not, reduceCtorEq, hP, hn]
      exact rfl
    refine go (aa e1 e2) trivial ?_
    refine T_for 8 (fun i (_ : Unit) => { env := [(3, aN n), (9, .one (.p (.bool true))), (13, .one (.p (.sl (rTn Gs)))), (14, aN n), (16, aN 0), (17, aN i)], σ := [] })
      (fun _ _ => True) () trivial ?_ fun i _ hi _ => ?_
    · refine Weak.sub fun q hq => ?_
      exact absurd hq List.not_mem_nil
    by_cases hlt : i < 8
    rotate_left
    · obtain rfl : i = 8 := by omega
      have c1 : ¬ ((8 : Nat) : Int) < 8 := by omega
      refine go hGl trivial ?_
      exact ends_ret rfl rfl rfl rfl
    have c1 : (i : Int) < 8 := by omega
    have w1 : IntKind.i64.wrap ((i : Int) + 1) = ((i + 1 : Nat) : Int) := by rw [wrap_in (by omega) (by omega)]; rfl
    have hx := gT_some (ps := Gs) (p := i) (by omega)
    have hz : ∀ j (hj : j < (gT Gs i).2.length), (gT Gs i).2[j]? = some 0 := fun j hj => by
      rw [List.getElem?_eq_getElem hj, (hZ (gT Gs i) (List.mem_of_getElem? hx)).1 _ (List.getElem_mem hj)]
    have hd64 := (hZ (gT Gs i) (List.mem_of_getElem? hx)).2
    generalize gT Gs i = q at *
    obtain ⟨q1, q2⟩ := q
    simp only at hz hd64
    refine go (aa hGl c1) trivial ?_
    refine T_for q2.length (fun j (_ : Unit) => { env := [(3, aN n), (9, .one (.p (.bool true))), (13, .one (.p (.sl (rTn Gs)))), (14, aN n), (16, aN 0), (17, aN i), (18, aN j)], σ := [] })
      (fun _ _ => True) () trivial ?_ fun j _ hj _ => ?_
    · refine Weak.sub fun q hq => ?_
      exact absurd hq List.not_mem_nil
    by_cases hlj : j < q2.length
    · have d1 : (j : Int) < q2.length := by omega
      have v1 : IntKind.i64.wrap ((j : Int) + 1) = ((j + 1 : Nat) : Int) := by rw [wrap_in (by omega) (by omega)]; rfl
      have hy := hz j hlj
      refine go (aa hGl <| aa c1 <| aa hx <| aa hlt <| aa d1 <| aa hlj <| aa hy v1) trivial ?_
      exact rnd_next hlj () trivial (Weak.sub fun q hq => absurd hq List.not_mem_nil)
    have d1 : ¬ (j : Int) < q2.length := by omega
    refine go (aa hGl <| aa c1 <| aa hx <| aa hlt <| aa d1 w1) trivial ?_
    exact rnd_next hlt () trivial (Weak.sub fun q hq => absurd hq List.not_mem_nil)
end Go.AM

