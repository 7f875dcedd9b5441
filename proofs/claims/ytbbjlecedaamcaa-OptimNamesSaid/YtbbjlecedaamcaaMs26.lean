import Derived.Test.YtbbjlecedaamcaaMs25
set_option linter.unusedVariables false
set_option linter.unusedSimpArgs false
namespace Go.AM
open Go
theorem X_callT {G : Ground} {os : List FOp} {K : AS → Prop} {d : Nat} {g : Option (Nat × Bool)} {e : Env} {σ : Sto} {ex : List AV} {f : Opd} {az : List Opd} {id : FuncId} {ds : List DV} {r : DV} (hd : d < G.nt) (h1 : get e f = .one (.p (.fn id [] []))) (hc : PureC G.P id ds r)
    (k : ∃ σ', toDs 6 (gets e az) σ = some (ds, σ') ∧ SK G os K { env := (d, r.av) :: e, σ := σ', ex := ex }) : SKb G true ⟨some d, g, .call f az⟩ os K { env := e, σ := σ, ex := ex } :=
  let ⟨σ', h2, k⟩ := k; X_call hd ⟨_, id, [], [], σ, ds, h1, rfl, h2, by simpa using hc⟩ k
theorem exS {p q : Sto → Prop} (σ' : Sto) (h : p σ') (k : q σ') : ∃ σ', p σ' ∧ q σ' := ⟨σ', h, k⟩
theorem goT {A B P Q : Prop} (F : A) (C : B) (k : Q) (h : A → B → Bx Q → P := by
  intro F C k
  repeat' (first | apply T_then | apply then_ret | apply then_exit | apply then_goto | apply rnd_exit | apply rnd_ret | apply rnd_goto | apply noGo_normal | apply noGo_ret | apply noGo_exit | apply jmp_normal | apply jmp_ret | apply jmp_exit | apply jmp_goto | apply inB_normal | apply inB_ret | apply inB_goto | apply inB_exit | refine inB_exit_ne rfl ?_ | ((first | apply T_srK fw | apply T_regK fw); · ((try simp only [TOps.flat, List.cons_append, List.nil_append]); repeat (first | apply X_g0 | apply X_g | apply S_keep | apply X_skip | apply X_skipN | refine X_callT ?_ rfl (by rw [hP]; first | assumption | apply C | apply C.1 | apply C.2 | apply C.2.1 | apply C.2.2.1 | apply C.2.2.2.1 | apply C.2.2.2.2.1 | apply C.2.2.2.2.2.1 | apply C.2.2.2.2.2.2.1 | apply C.2.2.2.2.2.2.2.1 | apply C.2.2.2.2.2.2.2.2.1 | apply C.2.2.2.2.2.2.2.2.2.1 | apply C.2.2.2.2.2.2.2.2.2.2.1 | apply C.2.2.2.2.2.2.2.2.2.2.2.1 | apply C.2.2 | apply C.2.2.2 | apply C.2.2.2.2 | apply C.2.2.2.2.2 | apply C.2.2.2.2.2.2 | apply C.2.2.2.2.2.2.2 | apply C.2.2.2.2.2.2.2.2 | apply C.2.2.2.2.2.2.2.2.2 | apply C.2.2.2.2.2.2.2.2.2.2 | apply C.2.2.2.2.2.2.2.2.2.2.2) ?_ | apply exS | refine X_callI ?_ ⟨_, _, _, _, _, _, _, rfl, rfl, rfl, (by rw [hP]; first | assumption | apply C | apply C.1 | apply C.2 | apply C.2.1 | apply C.2.2.1 | apply C.2.2.2.1 | apply C.2.2.2.2.1 | apply C.2.2.2.2.2.1 | apply C.2.2.2.2.2.2.1 | apply C.2.2.2.2.2.2.2.1 | apply C.2.2.2.2.2.2.2.2.1 | apply C.2.2.2.2.2.2.2.2.2.1 | apply C.2.2.2.2.2.2.2.2.2.2.1 | apply C.2.2.2.2.2.2.2.2.2.2.2.1 | apply C.2.2 | apply C.2.2.2 | apply C.2.2.2.2 | apply C.2.2.2.2.2 | apply C.2.2.2.2.2.2 | apply C.2.2.2.2.2.2.2 | apply C.2.2.2.2.2.2.2.2 | apply C.2.2.2.2.2.2.2.2.2 | apply C.2.2.2.2.2.2.2.2.2.2 | apply C.2.2.2.2.2.2.2.2.2.2.2), rfl, (by rw [hP]; first | assumption | apply C | apply C.1 | apply C.2 | apply C.2.1 | apply C.2.2.1 | apply C.2.2.2.1 | apply C.2.2.2.2.1 | apply C.2.2.2.2.2.1 | apply C.2.2.2.2.2.2.1 | apply C.2.2.2.2.2.2.2.1 | apply C.2.2.2.2.2.2.2.2.1 | apply C.2.2.2.2.2.2.2.2.2.1 | apply C.2.2.2.2.2.2.2.2.2.2.1 | apply C.2.2.2.2.2.2.2.2.2.2.2.1 | apply C.2.2 | apply C.2.2.2 | apply C.2.2.2.2 | apply C.2.2.2.2.2 | apply C.2.2.2.2.2.2 | apply C.2.2.2.2.2.2.2 | apply C.2.2.2.2.2.2.2.2 | apply C.2.2.2.2.2.2.2.2.2 | apply C.2.2.2.2.2.2.2.2.2.2 | apply C.2.2.2.2.2.2.2.2.2.2.2)⟩ ?_ | refine X_callM ?_ (callM_mk rfl rfl (by rw [hP]; first | assumption | apply C | apply C.1 | apply C.2 | apply C.2.1 | apply C.2.2.1 | apply C.2.2.2.1 | apply C.2.2.2.2.1 | apply C.2.2.2.2.2.1 | apply C.2.2.2.2.2.2.1 | apply C.2.2.2.2.2.2.2.1 | apply C.2.2.2.2.2.2.2.2.1 | apply C.2.2.2.2.2.2.2.2.2.1 | apply C.2.2.2.2.2.2.2.2.2.2.1 | apply C.2.2.2.2.2.2.2.2.2.2.2.1 | apply C.2.2 | apply C.2.2.2 | apply C.2.2.2.2 | apply C.2.2.2.2.2 | apply C.2.2.2.2.2.2 | apply C.2.2.2.2.2.2.2 | apply C.2.2.2.2.2.2.2.2 | apply C.2.2.2.2.2.2.2.2.2 | apply C.2.2.2.2.2.2.2.2.2.2 | apply C.2.2.2.2.2.2.2.2.2.2.2) (by simp [lo]) (by simp) (by simp [AS.nr, AV.has, AC.has, AC.has.hasL, AO.nr, lo, DV.av] <;> assumption)) ?_ | apply X_q | apply X_st | apply X_n | apply X_s | apply SKs0 | apply SKs2 | apply SKs1 | refine ⟨⟨rfl, rfl⟩, ?_⟩ | refine ⟨⟨rfl, ?_⟩, ?_⟩ | refine ⟨?_, ?_⟩ | (· (try simp only [toDs, toD, toP, foldP, go_sem, seval, reduceIte, ↓reduceIte, Bool.not_eq_true, reduceCtorEq, beq_false, beq_true, hn, hP, Int.lt_irrefl, Int.le_refl, Nat.lt_irrefl, Nat.le_refl, List.length_set, Int.toNat_one, Int.toNat_zero, F]); first | done | rfl)))) | ((first | apply T_sdF fw (by rw [hP]; rfl) (by decide +kernel) | apply T_drF fw (by rw [hP]; rfl) (by decide +kernel)); · ((try simp only [TOps.flat, List.cons_append, List.nil_append]); repeat (first | apply Y_g0 | apply Y_g | apply Y_skip | apply Y_q | refine Y_call ⟨_, _, _, _, _, _, rfl, rfl, rfl, by rw [hP]; first | assumption | apply C | apply C.1 | apply C.2 | apply C.2.1 | apply C.2.2.1 | apply C.2.2.2.1 | apply C.2.2.2.2.1 | apply C.2.2.2.2.2.1 | apply C.2.2.2.2.2.2.1 | apply C.2.2.2.2.2.2.2.1 | apply C.2.2.2.2.2.2.2.2.1 | apply C.2.2.2.2.2.2.2.2.2.1 | apply C.2.2.2.2.2.2.2.2.2.2.1 | apply C.2.2.2.2.2.2.2.2.2.2.2.1 | apply C.2.2 | apply C.2.2.2 | apply C.2.2.2.2 | apply C.2.2.2.2.2 | apply C.2.2.2.2.2.2 | apply C.2.2.2.2.2.2.2 | apply C.2.2.2.2.2.2.2.2 | apply C.2.2.2.2.2.2.2.2.2 | apply C.2.2.2.2.2.2.2.2.2.2 | apply C.2.2.2.2.2.2.2.2.2.2.2⟩ ?_ ?_ | refine RunF_nil (P := G.P) ?_ | (· (try simp only [go_sem, seval, reduceIte, ↓reduceIte, Bool.not_eq_true, reduceCtorEq, beq_false, beq_true, hn, hP, Int.lt_irrefl, Int.le_refl, Nat.lt_irrefl, Nat.le_refl, List.length_set, Int.toNat_one, Int.toNat_zero, F]); first | done | rfl)))) | ((first | apply T_sd fw (by rw [hP]; rfl) | apply T_dr fw (by rw [hP]; rfl)); · ((try simp only [go_sem, seval, reduceIte, ↓reduceIte, bne, beq_false, beq_true, Bool.not_eq_true, Bool.if_true_right, decide_not, reduceCtorEq, hP, Int.lt_irrefl, Int.le_refl, Nat.lt_irrefl, Nat.le_refl, List.length_set, Int.toNat_one, Int.toNat_zero, F]); (repeat ((first | (refine ⟨_, ⟨_, _, _, _, _, _, rfl, rfl, rfl, (by first | assumption | apply C | apply C.1 | apply C.2 | apply C.2.1 | apply C.2.2.1 | apply C.2.2.2.1 | apply C.2.2.2.2.1 | apply C.2.2.2.2.2.1 | apply C.2.2.2.2.2.2.1 | apply C.2.2.2.2.2.2.2.1 | apply C.2.2.2.2.2.2.2.2.1 | apply C.2.2.2.2.2.2.2.2.2.1 | apply C.2.2.2.2.2.2.2.2.2.2.1 | apply C.2.2.2.2.2.2.2.2.2.2.2.1 | apply C.2.2 | apply C.2.2.2 | apply C.2.2.2.2 | apply C.2.2.2.2.2 | apply C.2.2.2.2.2.2 | apply C.2.2.2.2.2.2.2 | apply C.2.2.2.2.2.2.2.2 | apply C.2.2.2.2.2.2.2.2.2 | apply C.2.2.2.2.2.2.2.2.2.2 | apply C.2.2.2.2.2.2.2.2.2.2.2)⟩, ?_⟩)); (try simp only [go_sem, seval, reduceIte, ↓reduceIte, bne, beq_false, beq_true, Bool.not_eq_true, Bool.if_true_right, decide_not, reduceCtorEq, hP, Int.lt_irrefl, Int.le_refl, Nat.lt_irrefl, Nat.le_refl, List.length_set, Int.toNat_one, Int.toNat_zero, F]))); (first | done | exact rfl))) | apply T_seq | apply T_block | refine T_scopeJ 0 rfl ?_ | apply T_scope | apply T_goto | apply T_ret | apply T_skip | apply T_exit | apply T_label | refine T_condT rfl ?_ | refine T_condF rfl ?_)
  exact k.of) : P := h F C ⟨k⟩
end Go.AM

namespace Go.AM
open Go Go.Proofs
set_option maxRecDepth 100000
set_option maxHeartbeats 4000000

theorem i64t_dec {ps : List Tn} (h : (ps.all fun t => t.2.all fun n => decide (I64 n)) = true) : I64t ps := fun p x hx => by
  unfold gT at hx
  cases e : ps[p]? with
  | none => rw [e] at hx; simp at hx
  | some t =>
    rw [e] at hx
    have := List.all_eq_true.1 h t (List.mem_of_getElem? e)
    simpa using List.all_eq_true.1 this x hx
theorem aw1 : writesF 1 4294967296 0 0 [0] [([], [4294967296])] [([], [8589934592])] = ([(0, ([], [-4294967296]))], 0) := by decide +kernel
theorem aw2 : writesF 3 4294967296 0 1 [0] [([], [4294967296])] [([], [8589934592])] = ([(0, ([], [4294967295]))], 0) := by decide +kernel
theorem aw3 : writesF 2 0 0 0 [0] [([], [4294967296])] [([], [8589934592])] = ([], 130) := by decide +kernel
theorem aw4 : writesF 0 0 0 0 [] [] [] = ([], 1) := by decide +kernel
theorem aw5 : readsF 2 0 [1, 3] = ([1, 3, 5, 7], 0) := by decide +kernel
theorem p_awake19 : PureC Try.prog fi_fullerlaw19_awake [] (dB true) := by
  refine pure_fullerlaw19_awake (by simp) fun G hP hn => ?_
  have b0 : I64 0 := by decide
  have b1 : I64 1 := by decide
  have bo : I64 4294967296 := by decide
  have hp : I64t [([], [4294967296])] := i64t_dec (by decide)
  have hg : I64t [([], [8589934592])] := i64t_dec (by decide)
  have k1 := p_optim_Writes (k := 1) (r := 4294967296) (m := 0) (c := 0) (l := [0]) (by decide) hp hg bo b0 b0
  rw [aw1] at k1
  have k2 := p_optim_Writes (k := 3) (r := 4294967296) (m := 0) (c := 1) (l := [0]) (by decide) hp hg bo b0 b1
  rw [aw2] at k2
  have k3 := p_optim_Writes (k := 2) (r := 0) (m := 0) (c := 0) (l := [0]) (by decide) hp hg b0 b0 b0
  rw [aw3] at k3
  have k4 := p_optim_Writes (k := 0) (r := 0) (m := 0) (c := 0) (l := []) (ps := []) (gs := []) (by decide) (i64t_dec rfl) (i64t_dec rfl) b0 b0 b0
  rw [aw4] at k4
  have k5 := p_optim_Reads 2 0 0 0 [1, 3] (by decide) (fun p hp => by simp at hp; rcases hp with rfl | rfl <;> decide)
  rw [aw5] at k5
  have j1 := c_same' [-4294967296]
  have j2 := c_same' [4294967295]
  have j3 := c_same' [1, 3, 5, 7]
  refine goF trivial trivial ?_
  exact ends_ret rfl rfl rfl rfl
theorem wf_rows {rows : List (List PV)} (h : AV.wf (.one (.p (.sl rows)))) : rows.length ≤ MaxN := by
  rw [wf_one, wf_sl] at h; exact h.1
theorem writes_len (k r m c : Int) (l : List Int) (ps gs : List Tn) : (writesF k r m c l ps gs).1.length ≤ 2 * l.length := by
  by_cases h : (writesF k r m c l ps gs).2 = 0
  · rw [(writes_each h).2]
    by_cases h2 : k = 2
    · simp [h2]; omega
    · simp [h2]; omega
  · rw [writesF_bad h]; simp
theorem reads_len (k c : Int) (l : List Int) : (readsF k c l).1.length ≤ 2 * l.length := by
  unfold readsF
  split
  · split
    · simp; omega
    · simp; omega
  · simp
theorem p_OptimNames (k r m c : Int) (l : List Int) (ps gs : List Tn) (hr : I64 r) (hm : I64 m) (hc : I64 c) (hps : I64t ps) (hgs : I64t gs) :
    PureC Try.prog fi_fullerlaw19_OptimNames [dO k r m c, dI l, dTs ps, dTs gs] (dB true) := by
  refine pure_fullerlaw19_OptimNames (by simp) fun G hP hn => ?_
  refine T_wf 1 fun hL0 => ?_
  refine T_wf 2 fun h10 => ?_
  refine T_wf 3 fun h20 => ?_
  have hL : l.length ≤ MaxN := by simpa using wf_rows (rows := rI l) hL0
  have h1 : ps.length ≤ MaxN := by simpa using wf_rows (rows := rTn ps) h10
  have h2 : gs.length ≤ MaxN := by simpa using wf_rows (rows := rTn gs) h20
  clear hL0 h10 h20
  have hM : MaxN = 140737488355328 := rfl
  have kf1 := p_ref09_Few ps 10 h1
  have kf2 := p_ref09_Few gs 10 h2
  by_cases hl : (l.length : Int) > 30
  · refine go hl @p_awake19 ?_
    exact ends_ret rfl rfl rfl rfl
  cases hf1 : fewTs 10 ps
  · rw [hf1] at kf1
    refine go hl (aa @p_awake19 kf1) ?_
    exact ends_ret rfl rfl rfl rfl
  rw [hf1] at kf1
  cases hf2 : fewTs 10 gs
  · rw [hf2] at kf2
    refine go hl (aa @p_awake19 <| aa kf1 kf2) ?_
    exact ends_ret rfl rfl rfl rfl
  rw [hf2] at kf2
  have kW := p_optim_Writes (k := k) (l := l) (by omega) hps hgs hr hm hc
  have kO := fun (i : Nat) (hi : i < l.length) => p_optim_Writes (k := k) (l := [l[i]]) (by simp) hps hgs hr hm hc
  have key : (writesF k r m c l ps gs).2 = 0 → ∀ (i : Nat) (hi : i < l.length), (writesF k r m c [l[i]] ps gs).2 = 0 := fun h i hi => by
    rw [(writes_each h).1 _ (List.getElem_mem hi)]
  have key2 : (writesF k r m c l ps gs).2 = 0 → (writesF k r m c l ps gs).1 = l.map (fun p => (p, (stepF k r m c ps gs p.toNat).1.1)) ++ (if k = 2 then l.map (fun p => (p + 4, (stepF k r m c ps gs p.toNat).1.2)) else []) := fun h => by
    have := (writes_each h).2
    exact congrArg Prod.fst this
  have key3 : ∀ p : Int, (writesF k r m c [p] ps gs).2 = 0 → (writesF k r m c [p] ps gs).1 = [(p, (stepF k r m c ps gs p.toNat).1.1)] ++ (if k = 2 then [(p + 4, (stepF k r m c ps gs p.toNat).1.2)] else []) := fun p h => congrArg Prod.fst (writes_one h)
  generalize hA : writesF k r m c l ps gs = A at *
  generalize hst : (fun p : Int => (stepF k r m c ps gs p.toNat).1) = st at *
  have hst' : ∀ p : Int, (stepF k r m c ps gs p.toNat).1 = st p := fun p => by rw [← hst]
  simp only [hst'] at key2 key3
  refine go hl (aa @p_awake19 <| aa kf1 <| aa kf2 kW) ?_
  refine T_nils 12 100 3 rfl rfl rfl ?_
  refine T_nils 13 101 3 rfl rfl rfl ?_
  refine T_for l.length (fun i (b : List Wr) => { env := [(1, .one (.p (eI l))), (2, .one (.p (.sl (rTn ps)))), (3, .one (.p (.sl (rTn gs)))), (4, .one (.ptr 4 0 4 0)), (9, .one (.p (.bool true))), (10, .one (.p (.sl (rW A.1)))), (11, .one (.p (.int .i64 A.2))), (12, .one (.msl 100 0 3 i none)), (13, .one (.msl 101 0 3 b.length none)), (14, .one (.p (.int .i64 i)))], σ := [(4, .cells true [.p (.int .i64 k), .p (.int .i64 r), .p (.int .i64 m), .p (.int .i64 c)]), (100, .arr true 3 (rW ((l.take i).map fun p => (p, (st p).1)))), (101, .arr true 3 (rW b))] })
    (fun i b => b.length ≤ i ∧ b = if k = 2 then (l.take i).map (fun p => (p + 4, (st p).2)) else []) [] ⟨Nat.le_refl _, by simp⟩ ?_ fun i b hi hinv => ?_
  · refine (Weak.pick [1, 2, 3, 4, 9, 10, 11, 12, 13, 14]).trans (Weak.sub fun q hq => ?_)
    simp only [List.mem_cons, List.not_mem_nil, or_false] at hq
    rcases hq with rfl | rfl | rfl <;> rfl
  obtain ⟨hbl, hb⟩ := hinv
  have hal : ((l.take i).map fun p => (p, (st p).1)).length = i := by rw [List.length_map, List.length_take]; omega
  by_cases hlt : i < l.length
  · have c1 : (i : Int) < l.length := by omega
    have c2 : ((i + 1 : Nat) : Int) ≤ l.length := by omega
    have c3 : (i : Int) ≤ ((i + 1 : Nat) : Int) := by omega
    have w1 : IntKind.i64.wrap ((i : Int) + 1) = ((i + 1 : Nat) : Int) := by rw [wrap_in (by omega) (by omega)]; rfl
    have t0 : (l.length : Int).toNat = l.length := rfl
    have t1 : List.take (i + 1 - i) (List.drop i (rI l)) = rI [l[i]] := by
      rw [Nat.add_sub_cancel_left, ← List.map_drop, List.drop_eq_getElem_cons hlt]; rfl
    have t2 : List.take 1 (List.drop i (rI l)) = rI [l[i]] := by
      rw [← List.map_drop, List.drop_eq_getElem_cons hlt]; rfl
    have kOi := kO i hlt
    by_cases e1 : (writesF k r m c [l[i]] ps gs).2 = 0
    rotate_left
    · have e1' : ((writesF k r m c [l[i]] ps gs).2 != 0) = true := by simp [e1]
      have e2 : (A.2 != 0) = true := by
        simp only [bne_iff_ne, ne_eq]
        exact fun h => e1 (key h i hlt)
      generalize writesF k r m c [l[i]] ps gs = B at *
      generalize l[i] = x at *
      refine go (aa c1 <| aa c2 <| aa c3 <| aa w1 <| aa t0 <| aa t1 <| aa t2 <| aa @all1 <| aa e1' e2) kOi ?_
      exact ends_ret rfl rfl rfl rfl
    · have e1' : ((writesF k r m c [l[i]] ps gs).2 != 0) = false := by simp [e1]
      have hB := key3 l[i] e1
      have htk : l.take (i + 1) = l.take i ++ [l[i]] := by rw [List.take_add_one, List.getElem?_eq_getElem hlt]; rfl
      have d1 : (i + 1) * 56 ≤ 2 ^ 40 := by omega
      have d2 : i + 1 ≤ 2 ^ 40 := by omega
      have d3 : (b.length + 1) * 56 ≤ 2 ^ 40 := by omega
      have d4 : b.length + 1 ≤ 2 ^ 40 := by omega
      have d5 : b.length * 56 ≤ 2 ^ 40 := by omega
      have d6 : b.length ≤ 2 ^ 40 := by omega
      have hfs : (l.take (i + 1)).map (fun p => (p, (st p).1)) = (l.take i).map (fun p => (p, (st p).1)) ++ [(l[i], (st l[i]).1)] := by rw [htk, List.map_append]; rfl
      have hbs : (l.take (i + 1)).map (fun p => (p + 4, (st p).2)) = (l.take i).map (fun p => (p + 4, (st p).2)) ++ [(l[i] + 4, (st l[i]).2)] := by rw [htk, List.map_append]; rfl
      clear kO key key2 key3 hst'
      by_cases k2 : k = 2
      · rw [if_pos k2] at hB hb
        have kB : PureC Try.prog fi_optim_Writes [dO k r m c, dI [l[i]], dTs ps, dTs gs] (.tup [dWs [(l[i], (st l[i]).1), (l[i] + 4, (st l[i]).2)], dN (writesF k r m c [l[i]] ps gs).2]) := by
          have := kOi; rw [hB] at this; exact this
        clear kOi hB
        rw [← hb] at hbs
        generalize (writesF k r m c [l[i]] ps gs).2 = er at *
        generalize (l.take i).map (fun p => (p, (st p).1)) = fs at *
        generalize hu : (st l[i]).1 = u at *
        generalize hv : (st l[i]).2 = v at *
        generalize l[i] = x at *
        refine go (aa c1 <| aa c2 <| aa c3 <| aa w1 <| aa t0 <| aa t1 <| aa t2 <| aa @all1 <| aa e1' <| aa hal <| aa d1 <| aa d2 <| aa d3 d4) kB ?_
        refine rnd_next hlt (b ++ [(x + 4, v)]) ⟨by simp; omega, by rw [if_pos k2]; exact hbs.symm⟩ ?_
        simp only [List.length_append, List.length_cons, List.length_nil, Nat.zero_add]
        refine Weak.sub fun q hq => ?_
        simp only [List.mem_cons, List.not_mem_nil, or_false] at hq
        rcases hq with rfl | rfl | rfl
        · rfl
        · rw [hfs]; simp [lo]
        · simp [lo]
      · rw [if_neg k2] at hB hb
        have kB : PureC Try.prog fi_optim_Writes [dO k r m c, dI [l[i]], dTs ps, dTs gs] (.tup [dWs [(l[i], (st l[i]).1)], dN (writesF k r m c [l[i]] ps gs).2]) := by
          have := kOi; rw [hB] at this; exact this
        clear kOi hB
        generalize (writesF k r m c [l[i]] ps gs).2 = er at *
        generalize (l.take i).map (fun p => (p, (st p).1)) = fs at *
        generalize hu : (st l[i]).1 = u at *
        generalize l[i] = x at *
        refine go (aa c1 <| aa c2 <| aa c3 <| aa w1 <| aa t0 <| aa t1 <| aa t2 <| aa @all1 <| aa e1' <| aa hal <| aa d1 <| aa d2 <| aa d5 d6) kB ?_
        refine rnd_next hlt b ⟨by omega, by rw [if_neg k2]; exact hb⟩ ?_
        refine Weak.sub fun q hq => ?_
        simp only [List.mem_cons, List.not_mem_nil, or_false] at hq
        rcases hq with rfl | rfl | rfl
        · rfl
        · rw [hfs]; simp [lo]
        · simp [lo]
  · have c1 : ¬ (i : Int) < l.length := by omega
    have hti : l.take i = l := List.take_of_length_le (by omega)
    rw [hti] at hb hal ⊢
    by_cases e0 : A.2 = 0
    rotate_left
    · have e0' : (A.2 != 0) = true := by simp [e0]
      refine go (aa c1 e0') trivial ?_
      exact ends_ret rfl rfl rfl rfl
    · have e0' : (A.2 != 0) = false := by simp [e0]
      have hA1 := key2 e0
      rw [← hb] at hA1
      have hlen : (l.map (fun p => (p, (st p).1)) ++ b).length = i + b.length := by rw [List.length_append, hal]
      have t5 : List.take b.length (rW b) = rW b := List.take_of_length_le (by simp)
      have kS : PureC Try.prog fi_fullerref19_Same [dWs A.1, .one (.sl (List.take (i + b.length) (rW (l.map (fun p => (p, (st p).1))) ++ rW b)))] (dB true) := by
        rw [List.take_of_length_le (by simp; simp at hal; omega), ← List.map_append, ← hA1]
        exact c_sameW A.1 (by rw [hA1, hlen]; omega)
      have d5 : (i + b.length) * 56 ≤ 2 ^ 40 := by omega
      have d6 : i + b.length ≤ 2 ^ 40 := by omega
      generalize l.map (fun p => (p, (st p).1)) = fs at *
      have d7 : i + b.length ≤ fs.length + b.length := by omega
      refine goT (aa c1 <| aa e0' <| aa hal <| aa t5 <| aa d5 <| aa d6 <| aa d7 (Nat.le_refl (i + b.length))) kS ?_
      exact ends_ret rfl rfl rfl rfl
end Go.AM

namespace Go.AM
open Go Go.Proofs
set_option maxRecDepth 100000
set_option maxHeartbeats 4000000

def chF (R : List Int) (ps : List Tn) (o : Tn) (i : Nat) : List Tn := (List.range i).map fun (j : Nat) => if R.contains (j : Int) = true then gT ps j else o
theorem chF_succ (R : List Int) (ps : List Tn) (o : Tn) (i : Nat) : chF R ps o (i + 1) = chF R ps o i ++ [if R.contains (i : Int) = true then gT ps i else o] := by unfold chF; rw [List.range_succ, List.map_append]; rfl
theorem chF_len (R : List Int) (ps : List Tn) (o : Tn) (i : Nat) : (chF R ps o i).length = i := by simp [chF]
theorem chF_get {R : List Int} {ps : List Tn} {o : Tn} {n j : Nat} (h : j < n) : gT (chF R ps o n) j = if R.contains (j : Int) = true then gT ps j else o := by
  unfold gT chF; rw [List.getElem?_map, List.getElem?_range h]; rfl
theorem p_OptimWrites (k r m c : Int) (l : List Int) (ps gs : List Tn) (os od : List Int) (hr : I64 r) (hm : I64 m) (hc : I64 c) (hlb : ∀ p ∈ l, I64 p) (hps : I64t ps) (hgs : I64t gs) (hod : I64s od) :
    PureC Try.prog fi_fullerlaw19_OptimWrites [dO k r m c, dI l, dTs ps, dTs gs, dT os od] (dB true) := by
  refine pure_fullerlaw19_OptimWrites (by simp) fun G hP hn => ?_
  refine T_wf 1 fun hL0 => ?_
  refine T_wf 2 fun h10 => ?_
  refine T_wf 3 fun h20 => ?_
  have hL : l.length ≤ MaxN := by simpa using wf_rows (rows := rI l) hL0
  have h1 : ps.length ≤ MaxN := by simpa using wf_rows (rows := rTn ps) h10
  have h2 : gs.length ≤ MaxN := by simpa using wf_rows (rows := rTn gs) h20
  clear hL0 h10 h20
  have hM : MaxN = 140737488355328 := rfl
  have kf1 := p_ref09_Few ps 10 h1
  have kf2 := p_ref09_Few gs 10 h2
  have kf3 := p_ref03_Few os od
  by_cases hl : (l.length : Int) > 30
  · refine go hl @p_awake19 ?_
    exact ends_ret rfl rfl rfl rfl
  cases hf1 : fewTs 10 ps
  · rw [hf1] at kf1
    refine go hl (aa @p_awake19 kf1) ?_
    exact ends_ret rfl rfl rfl rfl
  rw [hf1] at kf1
  cases hf2 : fewTs 10 gs
  · rw [hf2] at kf2
    refine go hl (aa @p_awake19 <| aa kf1 kf2) ?_
    exact ends_ret rfl rfl rfl rfl
  rw [hf2] at kf2
  cases hf3 : fewT os od
  · rw [hf3] at kf3
    refine go hl (aa @p_awake19 <| aa kf1 <| aa kf2 kf3) ?_
    exact ends_ret rfl rfl rfl rfl
  rw [hf3] at kf3
  have hp10 : ps.length ≤ 10 := by
    unfold fewTs at hf1; simp at hf1; have := hf1.2; omega
  have kR := p_optim_Reads k r m c l (by omega) hlb
  have kW := p_optim_Writes (k := k) (l := l) (by omega) hps hgs hr hm hc
  by_cases e0 : (writesF k r m c l ps gs).2 = 0
  rotate_left
  · have hb := writesF_bad e0
    have hor : (readsF k c l).2 = 0 ∨ (writesF k r m c l ps gs).2 = (readsF k c l).2 := by
      unfold readsF writesF
      split
      · exact .inl rfl
      · exact .inr rfl
    rw [hb] at kW
    have e0' : ((writesF k r m c l ps gs).2 != 0) = true := by simp [e0]
    generalize (writesF k r m c l ps gs).2 = f at *
    generalize readsF k c l = R at *
    by_cases e1 : R.2 = 0
    · have e1' : (R.2 == 0) = true := by simp [e1]
      refine go (aa hl <| aa e0' e1') (aa @p_awake19 <| aa kf1 <| aa kf2 <| aa kf3 <| aa kR kW) ?_
      exact ends_ret rfl rfl rfl rfl
    · have e1' : (R.2 == 0) = false := by simp [e1]
      have e2 : (f == R.2) = true := by rcases hor with h | h; exact absurd h e1; simp [h]
      refine go (aa hl <| aa e0' <| aa e1' e2) (aa @p_awake19 <| aa kf1 <| aa kf2 <| aa kf3 <| aa kR kW) ?_
      exact ends_ret rfl rfl rfl rfl
  have e0' : ((writesF k r m c l ps gs).2 != 0) = false := by simp [e0]
  obtain ⟨r1, r2, r3, r4⟩ := writes_reads e0
  have hlen := writes_len k r m c l ps gs
  have hWC : ∀ qs : List Tn, I64t qs → PureC Try.prog fi_optim_Writes [dO k r m c, dI l, dTs qs, dTs gs] (.tup [dWs (writesF k r m c l qs gs).1, dN (writesF k r m c l qs gs).2]) := fun qs hq => p_optim_Writes (by omega) hq hgs hr hm hc
  have hch : writesF k r m c l (chF (readsF k c l).1 ps (os, od) ps.length) gs = writesF k r m c l ps gs := r4 _ (chF_len ..) fun p hp => by
    have hpw : p ∈ (writesF k r m c l ps gs).1.map Prod.fst := by rw [r2]; exact hp
    obtain ⟨w, hw, rfl⟩ := List.mem_map.1 hpw
    obtain ⟨q1, q2, _, _⟩ := r3 w hw
    have e : ((w.1.toNat : Nat) : Int) = w.1 := by omega
    rw [chF_get (by omega), e, if_pos (by simpa using hp)]
  have kC := hWC (chF (readsF k c l).1 ps (os, od) ps.length) (fun p => by
    by_cases hp : p < ps.length
    · rw [chF_get hp]
      split
      · exact hps p
      · exact hod
    · unfold gT; rw [List.getElem?_eq_none (by rw [chF_len]; omega)]; exact I64s.nil)
  rw [hch] at kC
  have kS := c_sameW (writesF k r m c l ps gs).1 (by omega)
  have hrl : (readsF k c l).1.length = (writesF k r m c l ps gs).1.length := by rw [← r2, List.length_map]
  have hri : ∀ (i : Nat) (hi : i < (writesF k r m c l ps gs).1.length), (readsF k c l).1[i]? = some ((writesF k r m c l ps gs).1[i]).1 := fun i hi => by
    rw [← r2, List.getElem?_map, List.getElem?_eq_getElem hi]; rfl
  have hrm := reads_len k c l
  generalize writesF k r m c l ps gs = A at *
  generalize readsF k c l = R at *
  have e1 : (R.2 != 0) = false := by simp [r1]
  have e2 : ((A.1.length : Int) != (R.1.length : Int)) = false := by simp [hrl]
  refine go (aa hl <| aa e0' <| aa e1 e2) (aa @p_awake19 <| aa kf1 <| aa kf2 <| aa kf3 <| aa kR kW) ?_
  refine T_for A.1.length (fun i (_ : Unit) => { env := [(1, .one (.p (eI l))), (2, .one (.p (.sl (rTn ps)))), (3, .one (.p (.sl (rTn gs)))), (5, .one (.ptr 5 0 4 0)), (9, .one (.ptr 9 0 2 0)), (11, .one (.p (.bool true))), (12, .one (.p (eI R.1))), (14, .one (.p (.sl (rW A.1)))), (16, .one (.p (.int .i64 i)))], σ := [(5, .cells true [.p (.int .i64 k), .p (.int .i64 r), .p (.int .i64 m), .p (.int .i64 c)]), (9, .cells true [.p (eI os), .p (eI od)])] })
    (fun _ _ => True) () trivial (.refl _ _) fun i _ hi _ => ?_
  by_cases hlt : i < A.1.length
  · have c1 : (i : Int) < A.1.length := by omega
    have w1 : IntKind.i64.wrap ((i : Int) + 1) = ((i + 1 : Nat) : Int) := by rw [wrap_in (by omega) (by omega)]; rfl
    have hx := List.getElem?_eq_getElem hlt
    have hy := hri i hlt
    obtain ⟨q1, q2, q3, q4⟩ := r3 _ (List.getElem_mem hlt)
    obtain ⟨q, hq⟩ := Int.eq_ofNat_of_zero_le q1
    rw [hq] at hy q2 q3 q4
    have hqs : q < ps.length := by omega
    have hz := gT_some hqs
    rw [Int.toNat_natCast] at q3 q4
    have k1 := c_same' (gT ps q).1
    have e3 : ((A.1[i].2.2.length : Int) != ((gT ps q).2.length : Int)) = false := by simp [q4]
    have e4 : ((q : Int) != (q : Int)) = false := by simp
    have c2 : ¬ (q : Int) < 0 := by omega
    have c3 : ¬ (q : Int) ≥ (ps.length : Int) := by omega
    have c4 : (q : Int) < (ps.length : Int) := by omega
    have c5 : (i : Int) < (R.1.length : Int) := by omega
    have c6 : i < R.1.length := by omega
    have hx' : A.1[i]? = some ((q : Int), ((gT ps q).1, A.1[i].2.2)) := by
      rw [hx]
      have : A.1[i] = ((q : Int), ((gT ps q).1, A.1[i].2.2)) := Prod.ext hq (Prod.ext q3 rfl)
      exact congrArg some this
    clear hx hq q3
    generalize A.1[i].2.2 = da at *
    generalize gT ps q = t at *
    refine go (aa c1 <| aa c2 <| aa c3 <| aa c4 <| aa c5 <| aa c6 <| aa hlt <| aa @hx' <| aa hy <| aa hz <| aa hqs <| aa w1 <| aa e3 e4) k1 ?_
    exact rnd_next hlt () trivial (.refl _ _)
  have c1 : ¬ (i : Int) < A.1.length := by omega
  refine go c1 trivial ?_
  refine T_nils 18 102 2 rfl rfl rfl ?_
  refine T_for ps.length (fun i (_ : Unit) => { env := [(1, .one (.p (eI l))), (2, .one (.p (.sl (rTn ps)))), (3, .one (.p (.sl (rTn gs)))), (5, .one (.ptr 5 0 4 0)), (9, .one (.ptr 9 0 2 0)), (11, .one (.p (.bool true))), (12, .one (.p (eI R.1))), (14, .one (.p (.sl (rW A.1)))), (18, .one (.msl 102 0 2 i none)), (19, .one (.p (.int .i64 i)))], σ := [(5, .cells true [.p (.int .i64 k), .p (.int .i64 r), .p (.int .i64 m), .p (.int .i64 c)]), (9, .cells true [.p (eI os), .p (eI od)]), (102, .arr true 2 (rTn (chF R.1 ps (os, od) i)))] })
    (fun _ _ => True) () trivial ?_ fun j _ hj _ => ?_
  · refine (Weak.pick [1, 2, 3, 5, 9, 11, 12, 14, 18, 19]).trans (Weak.sub fun q hq => ?_)
    simp only [List.mem_cons, List.not_mem_nil, or_false] at hq
    rcases hq with rfl | rfl | rfl <;> rfl
  have hcl := chF_len R.1 ps (os, od) j
  by_cases hlj : j < ps.length
  · have c2 : (j : Int) < ps.length := by omega
    have w1 : IntKind.i64.wrap ((j : Int) + 1) = ((j + 1 : Nat) : Int) := by rw [wrap_in (by omega) (by omega)]; rfl
    have hz := gT_some hlj
    have kI := p_ref10_In R.1 j (by omega)
    have hsu := chF_succ R.1 ps (os, od) j
    have d1 : (j + 1) * 48 ≤ 2 ^ 40 := by omega
    have d2 : j + 1 ≤ 2 ^ 40 := by omega
    cases hcj : R.1.contains (j : Int)
    · rw [hcj] at kI hsu
      simp only [Bool.false_eq_true, if_false] at hsu
      generalize chF R.1 ps (os, od) j = ch at *
      refine go (aa c2 <| aa hlj <| aa w1 <| aa hz <| aa hcl <| aa d1 d2) kI ?_
      refine rnd_next hlj () trivial (Weak.sub fun z hz => ?_)
      simp only [List.mem_cons, List.not_mem_nil, or_false] at hz
      rcases hz with rfl | rfl | rfl
      · rfl
      · rfl
      · rw [hsu]; simp [lo]
    · rw [hcj] at kI hsu
      simp only [if_true] at hsu
      generalize chF R.1 ps (os, od) j = ch at *
      generalize gT ps j = t at *
      refine go (aa c2 <| aa hlj <| aa w1 <| aa hz <| aa hcl <| aa d1 d2) kI ?_
      refine rnd_next hlj () trivial (Weak.sub fun z hz => ?_)
      simp only [List.mem_cons, List.not_mem_nil, or_false] at hz
      rcases hz with rfl | rfl | rfl
      · rfl
      · rfl
      · rw [hsu]; simp [lo]
  · have c2 : ¬ (j : Int) < ps.length := by omega
    obtain rfl : j = ps.length := by omega
    have kC' : PureC Try.prog fi_optim_Writes [dO k r m c, dI l, .one (.sl (List.take ps.length (rTn (chF R.1 ps (os, od) ps.length)))), dTs gs] (.tup [dWs A.1, dN A.2]) := by
      rw [List.take_of_length_le (by rw [List.length_map, chF_len]; exact Nat.le_refl _)]; exact kC
    have e5 : (A.2 == 0) = true := by simp [e0]
    generalize chF R.1 ps (os, od) ps.length = ch at *
    refine goT (aa c2 <| aa e5 <| aa hcl (Nat.le_refl ps.length)) (aa kC' kS) ?_
    exact ends_ret rfl rfl rfl rfl
end Go.AM

