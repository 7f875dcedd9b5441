import Derived.Test.YtphnlpfkenannaaGreatMx29
set_option linter.unusedVariables false
set_option linter.unusedSimpArgs false
namespace Go.AM
open Go Go.Proofs
set_option maxRecDepth 100000
set_option maxHeartbeats 8000000

abbrev cC (n : Nd) (t : List Tn) (o g : Tn) (e : Int) : List AC := [.p (.int .i64 n.op), .p (eI n.args), .p (eI n.nums), .p (.sl (rTn t)), .p (eI o.1), .p (eI o.2), .p (eI g.1), .p (eI g.2), .p (.int .i64 e)]
abbrev cS (n : Nd) (t : List Tn) (o g : Tn) (e : Int) : Sto := [(72, .cells true (cC n t o g e))]
abbrev cP : AV := .one (.ptr 72 0 9 0)
abbrev aT (r : Tn) : AV := .agg [.p (eI r.1), .p (eI r.2)]
abbrev aN (n : Int) : AV := .one (.p (.int .i64 n))
abbrev aB (n : Int) : AV := .one (.p (.box [.int .i64 n]))
variable {n : Nd} {t : List Tn} {o g : Tn}
theorem end72 {e : Int} {σ : Sto} (h : lo σ 72 = .cells true (cC n t o g e)) : ∀ p ∈ cS n t o g e, lo σ p.1 = p.2 := fun p hp => by rw [List.mem_singleton.1 hp]; exact h
theorem m_keep' (r : Tn) (e : Int) : MutC Tryz.prog fi_vjp_call_keep [cP, aT r, aN e] (cS n t o g 0) (aT r) (cS n t o g e) [4, 6] := by
  refine mut_vjp_call_keep (by simp) fun G ex hP hn hfr => ?_
  have hf4 := hfr 4 (by simp)
  have hf6 := hfr 6 (by simp)
  refine go (aa hf4 hf6) trivial ?_
  exact endsM_ret rfl rfl rfl (end72 rfl) rfl
theorem m_keep (r : Tn) (e : Int) : MutC Tryz.prog fi_vjp_call_keep [cP, aT r, aN e] (cS n t o g 0) (aT r) (cS n t o g e) [] := ((m_keep' r e).hide 4 rfl rfl rfl rfl (by simp)).hide 6 rfl rfl rfl rfl (by simp)
theorem m_two' {op : Int} {x y r : Tn} {e : Int} (h : PureC Tryz.prog fi_elem_Two [dN op, dT x.1 x.2, dT y.1 y.2] (dTE (r, e))) : MutC Tryz.prog fi_vjp_call_two [cP, aN op, aT x, aT y] (cS n t o g 0) (aT r) (cS n t o g e) [6, 7, 8] := by
  refine mut_vjp_call_two (by simp) fun G ex hP hn hfr => ?_
  have hf6 := hfr 6 (by simp)
  have hf7 := hfr 7 (by simp)
  have hf8 := hfr 8 (by simp)
  have kk := m_keep (n := n) (t := t) (o := o) (g := g) r e
  refine go (aa hf6 <| aa hf7 hf8) (aa h kk) ?_
  exact endsM_ret rfl rfl rfl (end72 rfl) rfl
theorem m_two {op : Int} {x y r : Tn} {e : Int} (h : PureC Tryz.prog fi_elem_Two [dN op, dT x.1 x.2, dT y.1 y.2] (dTE (r, e))) : MutC Tryz.prog fi_vjp_call_two [cP, aN op, aT x, aT y] (cS n t o g 0) (aT r) (cS n t o g e) [] := (((m_two' h).hide 6 rfl rfl rfl rfl (by simp)).hide 7 rfl rfl rfl rfl (by simp)).hide 8 rfl rfl rfl rfl (by simp)
theorem m_folded' {x r : Tn} {e : Int} {k : Nat} (hk : k < t.length) (h : PureC Tryz.prog fi_tensor_Fold [dT x.1 x.2, dI (gT t k).1] (dTE (r, e))) : MutC Tryz.prog fi_vjp_call_folded [cP, aT x, aN k] (cS n t o g 0) (aT r) (cS n t o g e) [4, 6] := by
  refine mut_vjp_call_folded (by simp) fun G ex hP hn hfr => ?_
  have hf4 := hfr 4 (by simp)
  have hf6 := hfr 6 (by simp)
  have hx := gT_some hk
  have hk2 : (k : Int) < (t.length : Int) := by omega
  generalize gT t k = q at *
  refine go (aa hf4 hf6) trivial ?_
  apply T_drP fw (by rw [hP]; rfl)
  · simp only [go_sem, seval, reduceIte, ↓reduceIte, bne, beq_false, beq_true, Bool.not_eq_true, Bool.if_true_right, decide_not, reduceCtorEq, hP, hn, hx, hk, hk2, hf4, hf6]
    refine RunP_P rfl rfl ⟨_, _, _, _, _, _, rfl, rfl, rfl, h⟩ rfl ?_
    simp only [go_sem, seval, reduceIte, ↓reduceIte, bne, beq_false, beq_true, Bool.not_eq_true, Bool.if_true_right, decide_not, reduceCtorEq, hP, hn, hx, hk, hk2, hf4, hf6]
    refine RunP_S rfl ⟨_, _, _, _, rfl, rfl, m_keep r e⟩ rfl ?_
    simp only [go_sem, seval, reduceIte, ↓reduceIte, bne, beq_false, beq_true, Bool.not_eq_true, Bool.if_true_right, decide_not, reduceCtorEq, hP, hn, hx, hk, hk2, hf4, hf6]
    exact rfl
  refine go (aa hf4 hf6) trivial ?_
  exact endsM_ret rfl rfl rfl (end72 rfl) rfl
theorem m_folded {x r : Tn} {e : Int} {k : Nat} (hk : k < t.length) (h : PureC Tryz.prog fi_tensor_Fold [dT x.1 x.2, dI (gT t k).1] (dTE (r, e))) : MutC Tryz.prog fi_vjp_call_folded [cP, aT x, aN k] (cS n t o g 0) (aT r) (cS n t o g e) [] := ((m_folded' hk h).hide 4 rfl rfl rfl rfl (by simp)).hide 6 rfl rfl rfl rfl (by simp)
theorem m_same' {r : Tn} {e : Int} {k : Nat} (hk : k < t.length) (h : PureC Tryz.prog fi_tensor_Fold [dT g.1 g.2, dI (gT t k).1] (dTE (r, e))) : MutC Tryz.prog fi_vjp_same_1 [cP, aB k] (cS n t o g 0) (aT r) (cS n t o g e) [3] := by
  refine mut_vjp_same_1 (by simp) fun G ex hP hn hfr => ?_
  have hf3 := hfr 3 (by simp)
  have kk := m_folded (n := n) (t := t) (o := o) (g := g) hk h
  refine go hf3 trivial ?_
  apply T_drP fw (by rw [hP]; rfl)
  · simp only [go_sem, seval, reduceIte, ↓reduceIte, bne, beq_false, beq_true, Bool.not_eq_true, Bool.if_true_right, decide_not, reduceCtorEq, hP, hn, hf3]
    refine RunP_S rfl ⟨_, _, _, _, rfl, rfl, kk⟩ rfl ?_
    simp only [go_sem, seval, reduceIte, ↓reduceIte, bne, beq_false, beq_true, Bool.not_eq_true, Bool.if_true_right, decide_not, reduceCtorEq, hP, hn, hf3]
    exact rfl
  refine go hf3 trivial ?_
  exact endsM_ret rfl rfl rfl (end72 rfl) rfl
theorem m_same {r : Tn} {e : Int} {k : Nat} (hk : k < t.length) (h : PureC Tryz.prog fi_tensor_Fold [dT g.1 g.2, dI (gT t k).1] (dTE (r, e))) : MutC Tryz.prog fi_vjp_same_1 [cP, aB k] (cS n t o g 0) (aT r) (cS n t o g e) [] := (m_same' hk h).hide 3 rfl rfl rfl rfl (by simp)
theorem m_by' {op : Int} {x r : Tn} {e : Int} {w k : Nat} (hw : w < t.length) (hk : k < t.length) (h1 : PureC Tryz.prog fi_elem_Two [dN op, dT g.1 g.2, dT (gT t w).1 (gT t w).2] (dTE (x, 0))) (h : PureC Tryz.prog fi_tensor_Fold [dT x.1 x.2, dI (gT t k).1] (dTE (r, e))) : MutC Tryz.prog fi_vjp_by_1 [cP, aB op, aB w, aB k] (cS n t o g 0) (aT r) (cS n t o g e) [5] := by
  refine mut_vjp_by_1 (by simp) fun G ex hP hn hfr => ?_
  have hf5 := hfr 5 (by simp)
  have k1 := m_two (n := n) (t := t) (o := o) (g := g) h1
  have kk := m_folded (n := n) (t := t) (o := o) (g := g) hk h
  have hx := gT_some hw
  have hw2 : (w : Int) < (t.length : Int) := by omega
  clear h1 h
  generalize gT t w = q at *
  refine go hf5 trivial ?_
  apply T_drP fw (by rw [hP]; rfl)
  · simp only [go_sem, seval, reduceIte, ↓reduceIte, bne, beq_false, beq_true, Bool.not_eq_true, Bool.if_true_right, decide_not, reduceCtorEq, hP, hn, hx, hw, hw2, hf5]
    refine RunP_S rfl ⟨_, _, _, _, rfl, rfl, k1⟩ rfl ?_
    simp only [go_sem, seval, reduceIte, ↓reduceIte, bne, beq_false, beq_true, Bool.not_eq_true, Bool.if_true_right, decide_not, reduceCtorEq, hP, hn, hx, hw, hw2, hf5]
    refine RunP_S rfl ⟨_, _, _, _, rfl, rfl, kk⟩ rfl ?_
    simp only [go_sem, seval, reduceIte, ↓reduceIte, bne, beq_false, beq_true, Bool.not_eq_true, Bool.if_true_right, decide_not, reduceCtorEq, hP, hn, hx, hw, hw2, hf5]
    exact rfl
  refine go hf5 trivial ?_
  exact endsM_ret rfl rfl rfl (end72 rfl) rfl
theorem m_by {op : Int} {x r : Tn} {e : Int} {w k : Nat} (hw : w < t.length) (hk : k < t.length) (h1 : PureC Tryz.prog fi_elem_Two [dN op, dT g.1 g.2, dT (gT t w).1 (gT t w).2] (dTE (x, 0))) (h : PureC Tryz.prog fi_tensor_Fold [dT x.1 x.2, dI (gT t k).1] (dTE (r, e))) : MutC Tryz.prog fi_vjp_by_1 [cP, aB op, aB w, aB k] (cS n t o g 0) (aT r) (cS n t o g e) [] := (m_by' hw hk h1 h).hide 5 rfl rfl rfl rfl (by simp)
section
variable {op : Int} {args nums : List Int} {a k : Nat} {v : Int}
end
end Go.AM

namespace Go.AM
open Go Go.Proofs
set_option maxRecDepth 100000
set_option maxHeartbeats 8000000

theorem gT_none {ps : List Tn} {p : Nat} (h : ps.length ≤ p) : gT ps p = ([], []) := by unfold gT; rw [List.getElem?_eq_none h]; rfl
theorem p_eval_Node (n : Nd) (t : List Tn) (input : Tn) (ps : List Tn) (hl : t.length ≤ 1000) (ht : ∀ x ∈ t, I64s x.2) (hps : ps.length ≤ MaxN) : PureC Tryz.prog fi_eval_Node [dNd n, dTs t, dT input.1 input.2, dTs ps] (dTE (nodeF n t input ps)) := by
  refine pure_eval_Node (by simp) fun G hP hn => ?_
  obtain ⟨op, args, nums⟩ := n
  obtain ⟨i1, i2⟩ := input
  have hM : MaxN = 140737488355328 := rfl
  refine go trivial trivial ?_
  refine T_nils 10 100 1 rfl rfl rfl ?_
  refine T_for t.length (fun i (acc : List (List Int)) => { env := [(1, .one (.p (.sl (rTn t)))), (3, .one (.p (.sl (rTn ps)))), (4, .one (.ptr 4 0 3 0)), (6, .one (.ptr 6 0 2 0)), (8, .one (.ptr 8 0 2 0)), (10, .one (.msl 100 0 1 i none)), (17, .one (.p (.sl (rTn t)))), (18, .one (.p (.int .i64 t.length))), (19, .one (.p (.int .i64 i)))], σ := [(4, .cells true [.p (.int .i64 op), .p (eI args), .p (eI nums)]), (6, .cells true [.p (eI i1), .p (eI i2)]), (8, .cells true [.nils, .nils]), (100, .arr true 1 (rS acc))] })
    (fun i acc => acc = (t.take i).map (·.1) ∧ (t.take i).all (fun x => checkT x.1 x.2) = true) [] ⟨by simp, by simp⟩ ?_ fun i acc hi hinv => ?_
  · refine (Weak.pick [1, 3, 4, 6, 8, 10, 17, 18, 19]).trans (Weak.sub fun q hq => ?_)
    simp only [List.mem_cons, List.not_mem_nil, or_false] at hq
    rcases hq with rfl | rfl | rfl | rfl <;> rfl
  obtain ⟨hacc, hall⟩ := hinv
  have hal : acc.length = i := by rw [hacc, List.length_map, List.length_take]; omega
  by_cases hlt : i < t.length
  · have c1 : (i : Int) < t.length := by omega
    have w1 : IntKind.i64.wrap ((i : Int) + 1) = ((i + 1 : Nat) : Int) := by rw [wrap_in (by omega) (by omega)]; rfl
    have hx := gT_some hlt
    have hg : t[i] = gT t i := by unfold gT; rw [List.getElem?_eq_getElem hlt]; rfl
    have kt := p_tensor_Check (gT t i).1 (gT t i).2
    have hta : t.take (i + 1) = t.take i ++ [gT t i] := by rw [List.take_add_one, hx]; rfl
    have c4 : (i + 1) * 24 ≤ 2 ^ 40 := by omega
    have c5 : i + 1 ≤ 2 ^ 40 := by omega
    cases hc : checkT (gT t i).1 (gT t i).2
    · rw [hc] at kt
      have hr : nodeF ⟨op, args, nums⟩ t (i1, i2) ps = bad 30 := by
        unfold nodeF
        rw [if_neg (fun h => by
          have := List.all_eq_true.1 h (gT t i) (hg ▸ List.getElem_mem hlt)
          rw [hc] at this; cases this)]
      rw [hr]
      clear hr hta hg
      generalize gT t i = q at *
      refine go (aa c1 <| aa hlt hx) kt ?_
      exact ends_ret rfl rfl rfl rfl
    · rw [hc] at kt
      have hn1 : acc ++ [(gT t i).1] = (t.take (i + 1)).map (·.1) := by rw [hta, List.map_append, hacc]; rfl
      have hn2 : (t.take (i + 1)).all (fun x => checkT x.1 x.2) = true := by rw [hta, List.all_append, hall]; simp [hc]
      clear hta hg
      generalize gT t i = q at *
      refine go (aa c1 <| aa hlt <| aa hx <| aa w1 <| aa hal <| aa c4 c5) kt ?_
      refine rnd_next hlt (acc ++ [q.1]) ⟨hn1, hn2⟩ (Weak.sub fun z hz => ?_)
      simp only [List.mem_cons, List.not_mem_nil, or_false] at hz
      rcases hz with rfl | rfl | rfl | rfl
      · rfl
      · rfl
      · rfl
      · simp [lo, rS]
  obtain rfl : i = t.length := by omega
  rw [List.take_length] at hacc hall
  subst hacc
  have c1 : ¬ (t.length : Int) < t.length := by omega
  have kN := p_infer_Node ⟨op, args, nums⟩ (t.map (·.1)) (by rw [List.length_map]; omega)
  simp only at kN
  refine T_weak (Weak.freeze (i := 10) rfl (toD_list (n := 5) rfl (by simp))) ?_
  simp only [lo, Nat.reduceEqDiff, if_true, if_false, if_pos]
  unfold nodeF
  rw [if_pos hall]
  simp only
  by_cases h0 : inferOk op nums (t.map (·.1)) = true
  rotate_left
  · have hI : inferF op nums (t.map (·.1)) = ([], 20) := inferF_no (by simpa using h0)
    rw [hI] at kN ⊢
    rw [if_neg (show ¬ (([], 20) : List Int × Int).2 = 0 by decide)]
    refine go c1 kN ?_
    exact ends_ret rfl rfl rfl rfl
  have hI : inferF op nums (t.map (·.1)) = ((ruleF op (t.map (·.1)) nums).1, 0) := by unfold inferF; rw [if_pos h0]
  obtain ⟨k, hk, hkl, hw, _, _⟩ := inferOk_kind h0
  rw [List.length_map] at hkl
  rw [hI] at kN ⊢
  rw [if_pos rfl]
  generalize hz : (ruleF op (t.map (·.1)) nums).1 = z at *
  clear hI h0 hz
  by_cases o1 : op = 1
  · subst o1
    rw [if_pos rfl]
    have kg := p_eval_given (i1, i2) z
    generalize givenF (i1, i2) z = R at *
    refine go c1 (aa kN kg) ?_
    exact ends_ret rfl rfl rfl rfl
  rw [if_neg o1]
  by_cases o2 : op = 2
  · subst o2
    rw [if_pos rfl]
    obtain ⟨p, r, rfl, hp0, hp8⟩ : ∃ p r, nums = p :: r ∧ 0 ≤ p ∧ p < 8 := by
      have : k = (0, -2) := by have := hk.symm; rw [show kindF 2 = some (0, -2) from rfl] at this; exact Option.some.inj this
      subst this
      unfold wellF at hw
      simp only [if_true] at hw
      cases nums with
      | nil => cases hw
      | cons p r =>
        have := of_decide_eq_true (Bool.and_eq_true .. ▸ hw).1
        exact ⟨p, r, rfl, this.1, this.2⟩
    obtain ⟨m, rfl⟩ := Int.eq_ofNat_of_zero_le hp0
    have e0 : (hd ((m : Int) :: r) 0).toNat = m := rfl
    rw [e0]
    by_cases hm : m < ps.length
    · have q1 : (m : Int) < ps.length := by omega
      have hx := gT_some hm
      have kg := p_eval_given (gT ps m) z
      generalize givenF (gT ps m) z = R at *
      generalize gT ps m = q at *
      refine go (aa c1 <| aa q1 <| aa hx hm) (aa kN kg) ?_
      exact ends_ret rfl rfl rfl rfl
    · have q1 : ¬ (m : Int) < ps.length := by omega
      rw [gT_none (by omega)]
      have kg : PureC Tryz.prog fi_eval_given [dT [] [], dI z] (dTE (givenF ([], []) z)) := p_eval_given ([], []) z
      generalize givenF ([], []) z = R at *
      refine go (aa c1 q1) (aa kN kg) ?_
      exact ends_ret rfl rfl rfl rfl
  rw [if_neg o2]
  by_cases o3 : op = 3
  · subst o3
    rw [if_pos rfl]
    obtain ⟨p, rfl⟩ : ∃ p, nums = [p] := by
      have : k = (0, 1) := by have := hk.symm; rw [show kindF 3 = some (0, 1) from rfl] at this; exact Option.some.inj this
      subst this
      have h1 : nums.length = 1 := by
        unfold wellF at hw
        rw [if_neg (by decide), if_neg (by decide)] at hw
        have : (nums.length : Int) = 1 := by simpa using hw
        omega
      match nums, h1 with
      | [p], _ => exact ⟨p, rfl⟩
    have kg : PureC Tryz.prog fi_tensor_Full [dI [], dN p] (dTE (fullF [] p)) := p_tensor_Full [] p
    have e0 : hd [p] 0 = p := rfl
    rw [e0]
    generalize fullF [] p = R at *
    refine go c1 (aa kN kg) ?_
    exact ends_ret rfl rfl rfl rfl
  rw [if_neg o3]
  obtain ⟨f, caps, hlk, kW⟩ := eval_rule hk o1 o2 o3 hkl hw ht
  have hfind := find_evE op evL
  rw [hlk, Option.map_some] at hfind
  have kR := p_eval_rules
  have e1 : (op == 1) = false := by simp [o1]
  have e2 : (op == 2) = false := by simp [o2]
  have e3 : (op == 3) = false := by simp [o3]
  generalize evF op t nums = R at *
  clear hlk hk hw hkl
  refine go (aa c1 <| aa e1 <| aa e2 <| aa e3 hfind) (aa kN <| aa kR kW) ?_
  exact ends_ret rfl rfl rfl rfl
end Go.AM

namespace Go.AM
open Go
theorem X_nFl {G : Ground} {os : List FOp} {K : AS → Prop} {d : Nat} {g : Option (Nat × Bool)} {e : Env} {σ : Sto} {ex : List AV} {s l : Nat} {z : List PV} {ps : List (Nat × Opd)} {k len : Nat} {rows : List (List PV)} (hd : d < G.nt) (h : evN (.lit s (l + 1) z ps) e d = some (.arr true k rows, .one (.msl d 0 k len none))) (hl : len = rows.length)
    (kk : (lo σ d = .none ∧ AS.nr d { env := e, σ := σ, ex := ex } = true) ∧ SK G os K { env := (d, .one (.p (.sl rows))) :: e, σ := σ, ex := ex }) : SKb G true ⟨some d, g, .n (.lit s (l + 1) z ps)⟩ os K { env := e, σ := σ, ex := ex } := X_nF hd h hl kk
theorem goL {A B P Q : Prop} (F : A) (C : B) (k : Q) (h : A → B → Bx Q → P := by
  intro F C k
  repeat' (first | apply T_then | apply then_ret | apply then_exit | apply then_goto | apply rnd_exit | apply rnd_ret | apply rnd_goto | apply noGo_normal | apply noGo_ret | apply noGo_exit | apply jmp_normal | apply jmp_ret | apply jmp_exit | apply jmp_goto | apply inB_normal | apply inB_ret | apply inB_goto | apply inB_exit | refine inB_exit_ne rfl ?_ | ((first | apply T_srK fw | apply T_regK fw); · ((try simp only [TOps.flat, List.cons_append, List.nil_append]); repeat (first | apply X_g0 | apply X_g | apply S_keep | apply X_skip | apply X_skipN | refine X_call ?_ ⟨_, _, _, _, _, _, rfl, rfl, rfl, by rw [hP]; first | assumption | apply C | apply C.1 | apply C.2 | apply C.2.1 | apply C.2.2.1 | apply C.2.2.2.1 | apply C.2.2.2.2.1 | apply C.2.2.2.2.2.1 | apply C.2.2.2.2.2.2.1 | apply C.2.2.2.2.2.2.2.1 | apply C.2.2.2.2.2.2.2.2.1 | apply C.2.2.2.2.2.2.2.2.2.1 | apply C.2.2.2.2.2.2.2.2.2.2.1 | apply C.2.2.2.2.2.2.2.2.2.2.2.1 | apply C.2.2 | apply C.2.2.2 | apply C.2.2.2.2 | apply C.2.2.2.2.2 | apply C.2.2.2.2.2.2 | apply C.2.2.2.2.2.2.2 | apply C.2.2.2.2.2.2.2.2 | apply C.2.2.2.2.2.2.2.2.2 | apply C.2.2.2.2.2.2.2.2.2.2 | apply C.2.2.2.2.2.2.2.2.2.2.2⟩ ?_ | refine X_callI ?_ ⟨_, _, _, _, _, _, _, rfl, rfl, rfl, (by rw [hP]; first | assumption | apply C | apply C.1 | apply C.2 | apply C.2.1 | apply C.2.2.1 | apply C.2.2.2.1 | apply C.2.2.2.2.1 | apply C.2.2.2.2.2.1 | apply C.2.2.2.2.2.2.1 | apply C.2.2.2.2.2.2.2.1 | apply C.2.2.2.2.2.2.2.2.1 | apply C.2.2.2.2.2.2.2.2.2.1 | apply C.2.2.2.2.2.2.2.2.2.2.1 | apply C.2.2.2.2.2.2.2.2.2.2.2.1 | apply C.2.2 | apply C.2.2.2 | apply C.2.2.2.2 | apply C.2.2.2.2.2 | apply C.2.2.2.2.2.2 | apply C.2.2.2.2.2.2.2 | apply C.2.2.2.2.2.2.2.2 | apply C.2.2.2.2.2.2.2.2.2 | apply C.2.2.2.2.2.2.2.2.2.2 | apply C.2.2.2.2.2.2.2.2.2.2.2), rfl, (by rw [hP]; first | assumption | apply C | apply C.1 | apply C.2 | apply C.2.1 | apply C.2.2.1 | apply C.2.2.2.1 | apply C.2.2.2.2.1 | apply C.2.2.2.2.2.1 | apply C.2.2.2.2.2.2.1 | apply C.2.2.2.2.2.2.2.1 | apply C.2.2.2.2.2.2.2.2.1 | apply C.2.2.2.2.2.2.2.2.2.1 | apply C.2.2.2.2.2.2.2.2.2.2.1 | apply C.2.2.2.2.2.2.2.2.2.2.2.1 | apply C.2.2 | apply C.2.2.2 | apply C.2.2.2.2 | apply C.2.2.2.2.2 | apply C.2.2.2.2.2.2 | apply C.2.2.2.2.2.2.2 | apply C.2.2.2.2.2.2.2.2 | apply C.2.2.2.2.2.2.2.2.2 | apply C.2.2.2.2.2.2.2.2.2.2 | apply C.2.2.2.2.2.2.2.2.2.2.2)⟩ ?_ | refine X_callM ?_ (callM_mk rfl rfl (by rw [hP]; first | assumption | apply C | apply C.1 | apply C.2 | apply C.2.1 | apply C.2.2.1 | apply C.2.2.2.1 | apply C.2.2.2.2.1 | apply C.2.2.2.2.2.1 | apply C.2.2.2.2.2.2.1 | apply C.2.2.2.2.2.2.2.1 | apply C.2.2.2.2.2.2.2.2.1 | apply C.2.2.2.2.2.2.2.2.2.1 | apply C.2.2.2.2.2.2.2.2.2.2.1 | apply C.2.2.2.2.2.2.2.2.2.2.2.1 | apply C.2.2 | apply C.2.2.2 | apply C.2.2.2.2 | apply C.2.2.2.2.2 | apply C.2.2.2.2.2.2 | apply C.2.2.2.2.2.2.2 | apply C.2.2.2.2.2.2.2.2 | apply C.2.2.2.2.2.2.2.2.2 | apply C.2.2.2.2.2.2.2.2.2.2 | apply C.2.2.2.2.2.2.2.2.2.2.2) (by simp [lo]) (by simp) (by simp [AS.nr, AV.has, AC.has, AC.has.hasL, AO.nr, lo, DV.av] <;> assumption)) ?_ | apply X_q | apply X_st | apply X_nFl | apply X_n | apply X_s | apply SKs0 | apply SKs2 | apply SKs1 | refine ⟨⟨rfl, rfl⟩, ?_⟩ | refine ⟨⟨rfl, ?_⟩, ?_⟩ | refine ⟨?_, ?_⟩ | (· (try simp only [go_sem, seval, reduceIte, ↓reduceIte, Bool.not_eq_true, reduceCtorEq, beq_false, beq_true, hn, hP, Int.lt_irrefl, Int.le_refl, Nat.lt_irrefl, Nat.le_refl, List.length_set, Int.toNat_one, Int.toNat_zero, F]); first | done | rfl)))) | ((first | apply T_sdF fw (by rw [hP]; rfl) (by decide +kernel) | apply T_drF fw (by rw [hP]; rfl) (by decide +kernel)); · ((try simp only [TOps.flat, List.cons_append, List.nil_append]); repeat (first | apply Y_g0 | apply Y_g | apply Y_skip | apply Y_q | refine Y_call ⟨_, _, _, _, _, _, rfl, rfl, rfl, by rw [hP]; first | assumption | apply C | apply C.1 | apply C.2 | apply C.2.1 | apply C.2.2.1 | apply C.2.2.2.1 | apply C.2.2.2.2.1 | apply C.2.2.2.2.2.1 | apply C.2.2.2.2.2.2.1 | apply C.2.2.2.2.2.2.2.1 | apply C.2.2.2.2.2.2.2.2.1 | apply C.2.2.2.2.2.2.2.2.2.1 | apply C.2.2.2.2.2.2.2.2.2.2.1 | apply C.2.2.2.2.2.2.2.2.2.2.2.1 | apply C.2.2 | apply C.2.2.2 | apply C.2.2.2.2 | apply C.2.2.2.2.2 | apply C.2.2.2.2.2.2 | apply C.2.2.2.2.2.2.2 | apply C.2.2.2.2.2.2.2.2 | apply C.2.2.2.2.2.2.2.2.2 | apply C.2.2.2.2.2.2.2.2.2.2 | apply C.2.2.2.2.2.2.2.2.2.2.2⟩ ?_ ?_ | refine RunF_nil (P := G.P) ?_ | (· (try simp only [go_sem, seval, reduceIte, ↓reduceIte, Bool.not_eq_true, reduceCtorEq, beq_false, beq_true, hn, hP, Int.lt_irrefl, Int.le_refl, Nat.lt_irrefl, Nat.le_refl, List.length_set, Int.toNat_one, Int.toNat_zero, F]); first | done | rfl)))) | ((first | apply T_sd fw (by rw [hP]; rfl) | apply T_dr fw (by rw [hP]; rfl)); · ((try simp only [go_sem, seval, reduceIte, ↓reduceIte, bne, beq_false, beq_true, Bool.not_eq_true, Bool.if_true_right, decide_not, reduceCtorEq, hP, Int.lt_irrefl, Int.le_refl, Nat.lt_irrefl, Nat.le_refl, List.length_set, Int.toNat_one, Int.toNat_zero, F]); (repeat ((first | (refine ⟨_, ⟨_, _, _, _, _, _, rfl, rfl, rfl, (by first | assumption | apply C | apply C.1 | apply C.2 | apply C.2.1 | apply C.2.2.1 | apply C.2.2.2.1 | apply C.2.2.2.2.1 | apply C.2.2.2.2.2.1 | apply C.2.2.2.2.2.2.1 | apply C.2.2.2.2.2.2.2.1 | apply C.2.2.2.2.2.2.2.2.1 | apply C.2.2.2.2.2.2.2.2.2.1 | apply C.2.2.2.2.2.2.2.2.2.2.1 | apply C.2.2.2.2.2.2.2.2.2.2.2.1 | apply C.2.2 | apply C.2.2.2 | apply C.2.2.2.2 | apply C.2.2.2.2.2 | apply C.2.2.2.2.2.2 | apply C.2.2.2.2.2.2.2 | apply C.2.2.2.2.2.2.2.2 | apply C.2.2.2.2.2.2.2.2.2 | apply C.2.2.2.2.2.2.2.2.2.2 | apply C.2.2.2.2.2.2.2.2.2.2.2)⟩, ?_⟩)); (try simp only [go_sem, seval, reduceIte, ↓reduceIte, bne, beq_false, beq_true, Bool.not_eq_true, Bool.if_true_right, decide_not, reduceCtorEq, hP, Int.lt_irrefl, Int.le_refl, Nat.lt_irrefl, Nat.le_refl, List.length_set, Int.toNat_one, Int.toNat_zero, F]))); (first | done | exact rfl))) | apply T_seq | apply T_block | refine T_scopeJ 0 rfl ?_ | apply T_scope | apply T_goto | apply T_ret | apply T_skip | apply T_exit | apply T_label | refine T_condT rfl ?_ | refine T_condF rfl ?_)
  exact k.of) : P := h F C ⟨k⟩
end Go.AM

namespace Go.AM
open Go Go.Proofs
set_option maxRecDepth 100000
set_option maxHeartbeats 16000000

abbrev vsV (k : Int) : PV := .fn fi_vjp_same_1 [] [.box [.int .i64 k]]
abbrev vbV (op w k : Int) : PV := .fn fi_vjp_by_1 [] [.box [.int .i64 op], .box [.int .i64 w], .box [.int .i64 k]]
abbrev vfV (f : FuncId) : PV := .fn f [] []
def vjL : List (Int × List PV) := [(10, [vsV 0, vsV 1]), (11, [vsV 0, vfV fi_vjp_rules_1]), (12, [vbV 12 1 0, vbV 12 0 1]), (13, [vbV 13 1 0, vfV fi_vjp_rules_2]), (20, [vfV fi_vjp_rules_3]), (21, [vfV fi_vjp_relu]), (22, [vfV fi_vjp_slopes]), (23, [vfV fi_vjp_roots]),
  (30, [vfV fi_vjp_rules_4, vfV fi_vjp_rules_5]), (40, [vfV fi_vjp_rules_6]), (41, [vfV fi_vjp_rules_7]), (42, [vfV fi_vjp_rules_8]), (43, [vfV fi_vjp_rules_9, vfV fi_vjp_rules_10]), (50, [vfV fi_vjp_rules_11]), (51, [vfV fi_vjp_middle]), (52, [vfV fi_vjp_most])]
abbrev rF (l : List PV) : List (List PV) := l.map fun v => [v]
def vjE : List (Int × Bool × List PV) := vjL.map fun p => (p.1, false, [.sl (rF p.2)])
theorem find_vjE (op : Int) : findE op vjE = (lkI op vjL).map fun l => (false, [.sl (rF l)]) := find_map (fun l : List PV => (false, [PV.sl (rF l)])) op vjL
theorem p_vjp_same (k : Int) : PureC Tryz.prog fi_vjp_same [dN k] (.one (vsV k)) := by
  refine pure_vjp_same (by simp) fun G hP hn => ?_
  refine go trivial trivial ?_
  exact ends_ret rfl rfl rfl rfl
theorem p_vjp_by (op w k : Int) : PureC Tryz.prog fi_vjp_by [dN op, dN w, dN k] (.one (vbV op w k)) := by
  refine pure_vjp_by (by simp) fun G hP hn => ?_
  refine go trivial trivial ?_
  exact ends_ret rfl rfl rfl rfl
theorem p_vjp_rules : PureC Tryz.prog fi_vjp_rules [] (.one (.map vjE)) := by
  refine pure_vjp_rules (by simp) fun G hP hn => ?_
  have k0 := p_vjp_same 0
  have k1 := p_vjp_same 1
  have b0 := p_vjp_by 12 1 0
  have b1 := p_vjp_by 12 0 1
  have b2 := p_vjp_by 13 1 0
  refine goL trivial (aa k0 <| aa k1 <| aa b0 <| aa b1 b2) ?_
  exact ends_ret rfl rfl rfl rfl
def runR : List (Tn × Int) → List Tn → List Tn × Int
  | [], acc => (acc, 0)
  | r :: l, acc => if r.2 = 0 then runR l (acc ++ [r.1]) else ([], r.2)
def backP (n : Nd) (t : List Tn) (o g : Tn) (rs : List (Tn × Int)) : List Tn × Int :=
  if (checkT o.1 o.2 && (checkT g.1 g.2 && t.all (fun x => checkT x.1 x.2))) = true then
    (if (inferF n.op n.nums (t.map (·.1))).2 = 0 then
      (if sameL o.1 (inferF n.op n.nums (t.map (·.1))).1 = true ∧ sameL g.1 (inferF n.op n.nums (t.map (·.1))).1 = true then runR rs [] else ([], 20))
    else ([], (inferF n.op n.nums (t.map (·.1))).2)) else ([], 30)
def RuleOk (n : Nd) (t : List Tn) (o g : Tn) (v : PV) (r : Tn × Int) : Prop := ∃ f caps, v = .fn f [] caps ∧ MutC Tryz.prog f ([cP] ++ caps.map fun c => .one (.p c)) (cS n t o g 0) (aT r.1) (cS n t o g r.2) []
def Pass (n : Nd) (t : List Tn) (o g : Tn) : Prop := checkT o.1 o.2 = true ∧ checkT g.1 g.2 = true ∧ t.all (fun x => checkT x.1 x.2) = true ∧ (inferF n.op n.nums (t.map (·.1))).2 = 0 ∧ o.1 = (inferF n.op n.nums (t.map (·.1))).1 ∧ g.1 = (inferF n.op n.nums (t.map (·.1))).1
theorem p_vjp_Back (n : Nd) (t : List Tn) (o g : Tn) (fs : List PV) (rs : List (Tn × Int)) (hl : t.length ≤ 1000) (hfs : (lkI n.op vjL).getD [] = fs) (hf2 : fs.length ≤ 2) (hlen : rs.length = fs.length)
    (hr : Pass n t o g → ∀ k (hk : k < fs.length), RuleOk n t o g fs[k] (rs[k]'(by omega))) :
    PureC Tryz.prog fi_vjp_Back [dNd n, dTs t, dT o.1 o.2, dT g.1 g.2] (.tup [dTs (backP n t o g rs).1, dN (backP n t o g rs).2]) := by
  refine pure_vjp_Back (by simp) fun G hP hn => ?_
  have hM : MaxN = 140737488355328 := rfl
  have kco := p_tensor_Check o.1 o.2
  have kcg := p_tensor_Check g.1 g.2
  obtain ⟨op, args, nums⟩ := n
  obtain ⟨o1, o2⟩ := o
  obtain ⟨g1, g2⟩ := g
  simp only at kco kcg hfs
  by_cases h12 : checkT o1 o2 = true ∧ checkT g1 g2 = true
  rotate_left
  · have hres : backP ⟨op, args, nums⟩ t (o1, o2) (g1, g2) rs = ([], 30) := by
      unfold backP
      rw [if_neg (fun h => h12 (by
        simp only [Bool.and_eq_true] at h
        exact ⟨h.1, h.2.1⟩))]
    rw [hres]
    have hE : checkT o1 o2 = false ∨ (checkT o1 o2 = true ∧ checkT g1 g2 = false) := by
      cases c1 : checkT o1 o2
      · exact .inl rfl
      · cases c2 : checkT g1 g2
        · exact .inr ⟨rfl, rfl⟩
        · exact absurd ⟨c1, c2⟩ h12
    clear hr hres h12 hfs
    rcases hE with c1 | ⟨c1, c2⟩
    · rw [c1] at kco
      refine go trivial kco ?_
      refine T_nils 10 100 1 rfl rfl rfl ?_
      refine T_for t.length (fun i (acc : List (List Int)) => { env := [(1, .one (.p (.sl (rTn t)))), (4, .one (.ptr 4 0 3 0)), (6, .one (.ptr 6 0 2 0)), (7, .one (.ptr 7 0 2 0)), (8, .one .nils), (10, .one (.msl 100 0 1 i none)), (11, .one (.p (.bool true))), (27, .one (.p (.sl (rTn t)))), (28, .one (.p (.int .i64 t.length))), (29, .one (.p (.int .i64 i)))], σ := [(4, .cells true [.p (.int .i64 op), .p (eI args), .p (eI nums)]), (6, .cells true [.p (eI o1), .p (eI o2)]), (7, .cells true [.p (eI g1), .p (eI g2)]), (100, .arr true 1 (rS acc))] })
        (fun i acc => acc.length = i) [] rfl ?_ fun i acc hi hal => ?_
      · refine (Weak.pick [1, 4, 6, 7, 8, 10, 11, 27, 28, 29]).trans (Weak.sub fun q hq => ?_)
        simp only [List.mem_cons, List.not_mem_nil, or_false] at hq
        rcases hq with rfl | rfl | rfl | rfl <;> rfl
      by_cases hlt : i < t.length
      · have c1 : (i : Int) < t.length := by omega
        have w1 : IntKind.i64.wrap ((i : Int) + 1) = ((i + 1 : Nat) : Int) := by rw [wrap_in (by omega) (by omega)]; rfl
        have hx := gT_some hlt
        have c4 : (i + 1) * 24 ≤ 2 ^ 40 := by omega
        have c5 : i + 1 ≤ 2 ^ 40 := by omega
        generalize gT t i = q at *
        refine go (aa c1 <| aa hlt <| aa hx <| aa w1 <| aa hal <| aa c4 c5) trivial ?_
        refine rnd_next hlt (acc ++ [q.1]) (by simp [hal]) (Weak.sub fun z hz => ?_)
        simp only [List.mem_cons, List.not_mem_nil, or_false] at hz
        rcases hz with rfl | rfl | rfl | rfl
        · rfl
        · rfl
        · rfl
        · simp [lo, rS]
      · have d1 : ¬ (i : Int) < t.length := by omega
        refine go d1 trivial ?_
        exact ends_ret rfl rfl rfl rfl
    · rw [c1] at kco
      rw [c2] at kcg
      refine go trivial (aa kco kcg) ?_
      refine T_nils 10 100 1 rfl rfl rfl ?_
      refine T_for t.length (fun i (acc : List (List Int)) => { env := [(1, .one (.p (.sl (rTn t)))), (4, .one (.ptr 4 0 3 0)), (6, .one (.ptr 6 0 2 0)), (7, .one (.ptr 7 0 2 0)), (8, .one .nils), (10, .one (.msl 100 0 1 i none)), (11, .one (.p (.bool true))), (27, .one (.p (.sl (rTn t)))), (28, .one (.p (.int .i64 t.length))), (29, .one (.p (.int .i64 i)))], σ := [(4, .cells true [.p (.int .i64 op), .p (eI args), .p (eI nums)]), (6, .cells true [.p (eI o1), .p (eI o2)]), (7, .cells true [.p (eI g1), .p (eI g2)]), (100, .arr true 1 (rS acc))] })
        (fun i acc => acc.length = i) [] rfl ?_ fun i acc hi hal => ?_
      · refine (Weak.pick [1, 4, 6, 7, 8, 10, 11, 27, 28, 29]).trans (Weak.sub fun q hq => ?_)
        simp only [List.mem_cons, List.not_mem_nil, or_false] at hq
        rcases hq with rfl | rfl | rfl | rfl <;> rfl
      by_cases hlt : i < t.length
      · have c1 : (i : Int) < t.length := by omega
        have w1 : IntKind.i64.wrap ((i : Int) + 1) = ((i + 1 : Nat) : Int) := by rw [wrap_in (by omega) (by omega)]; rfl
        have hx := gT_some hlt
        have c4 : (i + 1) * 24 ≤ 2 ^ 40 := by omega
        have c5 : i + 1 ≤ 2 ^ 40 := by omega
        generalize gT t i = q at *
        refine go (aa c1 <| aa hlt <| aa hx <| aa w1 <| aa hal <| aa c4 c5) trivial ?_
        refine rnd_next hlt (acc ++ [q.1]) (by simp [hal]) (Weak.sub fun z hz => ?_)
        simp only [List.mem_cons, List.not_mem_nil, or_false] at hz
        rcases hz with rfl | rfl | rfl | rfl
        · rfl
        · rfl
        · rfl
        · simp [lo, rS]
      · have d1 : ¬ (i : Int) < t.length := by omega
        refine go d1 trivial ?_
        exact ends_ret rfl rfl rfl rfl
  obtain ⟨c1, c2⟩ := h12
  rw [c1] at kco
  rw [c2] at kcg
  refine go trivial (aa kco kcg) ?_
  refine T_nils 10 100 1 rfl rfl rfl ?_
  refine T_for t.length (fun i (acc : List (List Int)) => { env := [(1, .one (.p (.sl (rTn t)))), (4, .one (.ptr 4 0 3 0)), (6, .one (.ptr 6 0 2 0)), (7, .one (.ptr 7 0 2 0)), (8, .one .nils), (10, .one (.msl 100 0 1 i none)), (11, .one (.p (.bool (!(t.take i).all (fun x => checkT x.1 x.2))))), (27, .one (.p (.sl (rTn t)))), (28, .one (.p (.int .i64 t.length))), (29, .one (.p (.int .i64 i)))], σ := [(4, .cells true [.p (.int .i64 op), .p (eI args), .p (eI nums)]), (6, .cells true [.p (eI o1), .p (eI o2)]), (7, .cells true [.p (eI g1), .p (eI g2)]), (100, .arr true 1 (rS acc))] })
    (fun i acc => acc = (t.take i).map (·.1)) [] (by simp) ?_ fun i acc hi hacc => ?_
  · refine (Weak.pick [1, 4, 6, 7, 8, 10, 11, 27, 28, 29]).trans (Weak.sub fun q hq => ?_)
    simp only [List.mem_cons, List.not_mem_nil, or_false] at hq
    rcases hq with rfl | rfl | rfl | rfl <;> rfl
  have hal : acc.length = i := by rw [hacc, List.length_map, List.length_take]; omega
  by_cases hlt : i < t.length
  · have c1 : (i : Int) < t.length := by omega
    have w1 : IntKind.i64.wrap ((i : Int) + 1) = ((i + 1 : Nat) : Int) := by rw [wrap_in (by omega) (by omega)]; rfl
    have hx := gT_some hlt
    have kt := p_tensor_Check (gT t i).1 (gT t i).2
    have hta : t.take (i + 1) = t.take i ++ [gT t i] := by rw [List.take_add_one, hx]; rfl
    have hn1 : acc ++ [(gT t i).1] = (t.take (i + 1)).map (·.1) := by rw [hta, List.map_append, hacc]; rfl
    have hn2 : (t.take (i + 1)).all (fun x => checkT x.1 x.2) = ((t.take i).all (fun x => checkT x.1 x.2) && checkT (gT t i).1 (gT t i).2) := by rw [hta, List.all_append]; simp
    have c4 : (i + 1) * 24 ≤ 2 ^ 40 := by omega
    have c5 : i + 1 ≤ 2 ^ 40 := by omega
    clear hr hta
    generalize gT t i = q at *
    generalize (t.take i).all (fun x => checkT x.1 x.2) = W at *
    generalize checkT q.1 q.2 = C at *
    cases W
    · refine go (aa c1 <| aa hlt <| aa hx <| aa w1 <| aa hal <| aa c4 c5) kt ?_
      refine rnd_next hlt (acc ++ [q.1]) hn1 ?_
      rw [hn2]
      refine Weak.sub fun z hz => ?_
      simp only [List.mem_cons, List.not_mem_nil, or_false] at hz
      rcases hz with rfl | rfl | rfl | rfl
      · rfl
      · rfl
      · rfl
      · simp [lo, rS]
    · cases C
      all_goals
        refine go (aa c1 <| aa hlt <| aa hx <| aa w1 <| aa hal <| aa c4 c5) kt ?_
        refine rnd_next hlt (acc ++ [q.1]) hn1 ?_
        rw [hn2]
        refine Weak.sub fun z hz => ?_
        simp only [List.mem_cons, List.not_mem_nil, or_false] at hz
        rcases hz with rfl | rfl | rfl | rfl
        · rfl
        · rfl
        · rfl
        · simp [lo, rS]
  obtain rfl : i = t.length := by omega
  rw [List.take_length] at hacc
  simp only [List.take_length]
  subst hacc
  have d1 : ¬ (t.length : Int) < t.length := by omega
  cases hall : t.all (fun x => checkT x.1 x.2)
  · have hres : backP ⟨op, args, nums⟩ t (o1, o2) (g1, g2) rs = ([], 30) := by
      unfold backP; rw [if_neg (by rw [hall]; simp)]
    rw [hres]
    refine go d1 trivial ?_
    exact ends_ret rfl rfl rfl rfl
  have kN := p_infer_Node ⟨op, args, nums⟩ (t.map (·.1)) (by rw [List.length_map]; omega)
  simp only at kN
  refine T_weak (Weak.freeze (i := 10) rfl (toD_list (n := 5) rfl (by simp))) ?_
  simp only [lo, Nat.reduceEqDiff, if_true, if_false, if_pos]
  have hres : backP ⟨op, args, nums⟩ t (o1, o2) (g1, g2) rs = (if (inferF op nums (t.map (·.1))).2 = 0 then
      (if sameL o1 (inferF op nums (t.map (·.1))).1 = true ∧ sameL g1 (inferF op nums (t.map (·.1))).1 = true then runR rs [] else ([], 20))
    else ([], (inferF op nums (t.map (·.1))).2)) := by
    unfold backP; rw [if_pos (by rw [c1, c2, hall]; rfl)]
  rw [hres]
  have hr' : (inferF op nums (t.map (·.1))).2 = 0 → o1 = (inferF op nums (t.map (·.1))).1 → g1 = (inferF op nums (t.map (·.1))).1 → ∀ k (hk : k < fs.length), RuleOk ⟨op, args, nums⟩ t (o1, o2) (g1, g2) fs[k] (rs[k]'(by omega)) := fun a b c => hr ⟨c1, c2, hall, a, b, c⟩
  clear hr hres
  generalize inferF op nums (t.map (·.1)) = I at *
  obtain ⟨z, e⟩ := I
  simp only at kN hr' ⊢
  by_cases he : e = 0
  rotate_left
  · have e1 : (e != 0) = true := by simp [he]
    rw [if_neg he]
    refine go (aa d1 e1) kN ?_
    exact ends_ret rfl rfl rfl rfl
  subst he
  rw [if_pos rfl]
  have ke1 := p_slices_Equal o1 z
  have ke2 := p_slices_Equal g1 z
  cases s1 : sameL o1 z
  · rw [s1] at ke1
    rw [if_neg (by simp)]
    refine go d1 (aa kN ke1) ?_
    exact ends_ret rfl rfl rfl rfl
  rw [s1] at ke1
  cases s2 : sameL g1 z
  · rw [s2] at ke2
    rw [if_neg (by simp)]
    refine go d1 (aa kN <| aa ke1 ke2) ?_
    exact ends_ret rfl rfl rfl rfl
  rw [s2] at ke2
  rw [if_pos ⟨rfl, rfl⟩]
  have hR := hr' rfl (sameL_iff.1 s1) (sameL_iff.1 s2)
  clear hr'
  have kV := p_vjp_rules
  have hfind := find_vjE op
  cases hlk : lkI op vjL with
  | none =>
    rw [hlk] at hfs
    subst hfs
    have : rs = [] := List.length_eq_zero_iff.1 hlen
    subst this
    rw [hlk, Option.map_none] at hfind
    refine go (aa d1 hfind) (aa kN <| aa ke1 <| aa ke2 kV) ?_
    refine T_for 0 (fun i (_ : Unit) => { env := [(8, .one .nils), (76, .one .nils), (77, .one (.p (.int .i64 0))), (78, .one (.p (.int .i64 i)))], σ := [] })
      (fun _ _ => True) () trivial ?_ fun i _ hi _ => ?_
    · exact Weak.pick [8, 76, 77, 78] |>.trans (Weak.sub fun q hq => absurd hq List.not_mem_nil)
    obtain rfl : i = 0 := by omega
    refine go trivial trivial ?_
    exact ends_ret rfl rfl rfl rfl
  | some fs' =>
    rw [hlk] at hfs
    simp only [Option.getD_some] at hfs
    subst hfs
    rw [hlk, Option.map_some] at hfind
    refine go (aa d1 hfind) (aa kN <| aa ke1 <| aa ke2 kV) ?_
    refine T_nils 8 101 2 rfl rfl rfl ?_
    clear hfind hlk kV kN ke1 ke2 s1 s2 hall d1 c1 c2
    refine T_for fs'.length (fun i (acc : List Tn) => { env := [(8, .one (.msl 101 0 2 i none)), (15, .one (.ptr 72 0 9 0)), (76, .one (.p (.sl (rF fs')))), (77, .one (.p (.int .i64 fs'.length))), (78, .one (.p (.int .i64 i)))], σ := [(72, .cells true (cC ⟨op, args, nums⟩ t (o1, o2) (g1, g2) 0)), (101, .arr true 2 (rTn acc))] })
      (fun i acc => acc.length = i ∧ runR (rs.drop i) acc = runR rs []) [] ⟨rfl, rfl⟩ ?_ fun i acc hi hinv => ?_
    · refine (Weak.pick [8, 15, 76, 77, 78]).trans (Weak.sub fun q hq => ?_)
      simp only [List.mem_cons, List.not_mem_nil, or_false] at hq
      rcases hq with rfl | rfl <;> rfl
    obtain ⟨hal, hinv⟩ := hinv
    by_cases hlt : i < fs'.length
    rotate_left
    · have c1 : ¬ (i : Int) < fs'.length := by omega
      rw [List.drop_of_length_le (by omega)] at hinv
      simp only [runR] at hinv
      rw [← hinv]
      refine go c1 trivial ?_
      exact ends_list2 rfl rfl (by simp [hal])
    have c1 : (i : Int) < fs'.length := by omega
    have w1 : IntKind.i64.wrap ((i : Int) + 1) = ((i + 1 : Nat) : Int) := by rw [wrap_in (by omega) (by omega)]; rfl
    have hx : fs'[i]? = some fs'[i] := List.getElem?_eq_getElem hlt
    obtain ⟨f, caps, hv, km⟩ := hR i hlt
    rw [List.drop_eq_getElem_cons (by omega)] at hinv
    simp only [runR] at hinv
    rw [hv] at hx
    generalize rs[i] = r at *
    obtain ⟨r, e⟩ := r
    simp only at hinv km
    have c4 : (i + 1) * 48 ≤ 2 ^ 40 := by omega
    have c5 : i + 1 ≤ 2 ^ 40 := by omega
    clear hR hv
    by_cases he : e = 0
    · subst he
      rw [if_pos rfl] at hinv
      refine go (aa c1 <| aa w1 <| aa hx <| aa hlt <| aa hal <| aa c4 c5) km ?_
      refine rnd_next hlt (acc ++ [r]) ⟨by simp [hal], hinv⟩ (Weak.sub fun q hq => ?_)
      simp only [List.mem_cons, List.not_mem_nil, or_false] at hq
      rcases hq with rfl | rfl
      · rfl
      · simp [lo, rTn]
    · rw [if_neg he] at hinv
      have e1 : (e != 0) = true := by simp [he]
      rw [← hinv]
      refine go (aa c1 <| aa hx <| aa hlt e1) km ?_
      exact ends_ret rfl rfl rfl rfl
end Go.AM

