import Derived.Test.YtphnlpfkenannaaGreatMv28
set_option linter.unusedVariables false
set_option linter.unusedSimpArgs false
namespace Go.AM
open Go Go.Proofs
set_option maxRecDepth 100000
set_option maxHeartbeats 4000000

abbrev dTold (r : Tn × Int) : DV := .agg [eI r.1.1, eI r.1.2, .int .i64 r.2]
theorem p_eval_of (r : Tn × Int) : PureC Tryz.prog fi_eval_of_api_Tensor [dT r.1.1 r.1.2, dN r.2] (dTold r) := by
  refine pure_eval_of_api_Tensor (by simp) fun G hP hn => ?_
  refine go trivial trivial ?_
  exact ends_ret rfl rfl rfl rfl
theorem p_eval_matmul (s d t e : List Int) (l : List Tn) (nums : List Int) (hd : I64s d) (he : I64s e) : PureC Tryz.prog fi_eval_rules_1 [dTs ((s, d) :: (t, e) :: l), dI nums] (dTold (mulF s d t e)) := by
  refine pure_eval_rules_1 (by simp) fun G hP hn => ?_
  have km := p_matmul_Mul s d t e hd he
  generalize mulF s d t e = R at *
  have ko := p_eval_of R
  refine go trivial (aa km ko) ?_
  exact ends_ret rfl rfl rfl rfl
theorem p_eval_reshape (s d : List Int) (l : List Tn) (nums : List Int) : PureC Tryz.prog fi_eval_rules_2 [dTs ((s, d) :: l), dI nums] (dTold (reshapeF s d nums)) := by
  refine pure_eval_rules_2 (by simp) fun G hP hn => ?_
  have km := p_move_Reshape s d nums
  generalize reshapeF s d nums = R at *
  have ko := p_eval_of R
  refine go trivial (aa km ko) ?_
  exact ends_ret rfl rfl rfl rfl
theorem p_eval_turn (s d : List Int) (l : List Tn) (nums : List Int) : PureC Tryz.prog fi_eval_rules_3 [dTs ((s, d) :: l), dI nums] (dTold (turnF s d)) := by
  refine pure_eval_rules_3 (by simp) fun G hP hn => ?_
  have km := p_move_Turn s d
  generalize turnF s d = R at *
  have ko := p_eval_of R
  refine go trivial (aa km ko) ?_
  exact ends_ret rfl rfl rfl rfl
theorem p_eval_slice (s d : List Int) (l : List Tn) (a f t : Int) : PureC Tryz.prog fi_eval_rules_4 [dTs ((s, d) :: l), dI [a, f, t]] (dTold (sliceF s d a f t)) := by
  refine pure_eval_rules_4 (by simp) fun G hP hn => ?_
  have km := p_move_Slice s d a f t
  generalize sliceF s d a f t = R at *
  have ko := p_eval_of R
  refine go trivial (aa km ko) ?_
  exact ends_ret rfl rfl rfl rfl
theorem p_eval_join (s d t e : List Int) (l : List Tn) (a : Int) (r : List Int) : PureC Tryz.prog fi_eval_rules_5 [dTs ((s, d) :: (t, e) :: l), dI (a :: r)] (dTold (joinF s d t e a)) := by
  refine pure_eval_rules_5 (by simp) fun G hP hn => ?_
  have km := p_move_Join s d t e a
  generalize joinF s d t e a = R at *
  have ko := p_eval_of R
  refine go trivial (aa km ko) ?_
  exact ends_ret rfl rfl rfl rfl
theorem p_eval_side_1 {f : FuncId} {R : Tn × Int} (s d : List Int) (l : List Tn) (a : Int) (r : List Int) (hf : PureC Tryz.prog f [dT s d, dN a] (dTE R)) : PureC Tryz.prog fi_eval_side_1 [dTs ((s, d) :: l), dI (a :: r), .one (.box [.fn f [] []])] (dTold R) := by
  refine pure_eval_side_1 (by simp) fun G hP hn => ?_
  have ko := p_eval_of R
  refine go trivial (aa hf ko) ?_
  exact ends_ret rfl rfl rfl rfl
theorem p_eval_two_1 {op : Int} {R : Tn × Int} (s d t e : List Int) (l : List Tn) (nums : List Int) (hf : PureC Tryz.prog fi_elem_Two [dN op, dT s d, dT t e] (dTE R)) : PureC Tryz.prog fi_eval_two_1 [dTs ((s, d) :: (t, e) :: l), dI nums, .one (.box [.int .i64 op])] (dTold R) := by
  refine pure_eval_two_1 (by simp) fun G hP hn => ?_
  have ko := p_eval_of R
  refine go trivial (aa hf ko) ?_
  exact ends_ret rfl rfl rfl rfl
theorem p_eval_one_1 {op : Int} {R : Tn × Int} (s d : List Int) (l : List Tn) (nums : List Int) (hf : PureC Tryz.prog fi_elem_One [dN op, dT s d] (dTE R)) : PureC Tryz.prog fi_eval_one_1 [dTs ((s, d) :: l), dI nums, .one (.box [.int .i64 op])] (dTold R) := by
  refine pure_eval_one_1 (by simp) fun G hP hn => ?_
  have ko := p_eval_of R
  refine go trivial (aa hf ko) ?_
  exact ends_ret rfl rfl rfl rfl
theorem p_eval_given (t : Tn) (z : List Int) : PureC Tryz.prog fi_eval_given [dT t.1 t.2, dI z] (dTE (givenF t z)) := by
  refine pure_eval_given (by simp) fun G hP hn => ?_
  obtain ⟨s, d⟩ := t
  have kt := p_tensor_Check s d
  have ke := p_slices_Equal s z
  unfold givenF
  simp only
  cases h1 : checkT s d
  · rw [h1] at kt
    rw [if_neg (by simp)]
    refine go trivial kt ?_
    exact ends_ret rfl rfl rfl rfl
  rw [h1] at kt
  cases h2 : sameL s z
  · rw [h2] at ke
    rw [if_neg (by simp)]
    refine go trivial (aa kt ke) ?_
    exact ends_ret rfl rfl rfl rfl
  rw [h2] at ke
  rw [if_pos ⟨rfl, rfl⟩]
  have hok := (checkT_iff.1 h1).1
  have hs := check_len (checkS_iff.2 hok)
  have hz : d.length ≤ 64 := by have := (checkT_iff.1 h1).2; have := hok.2.2; omega
  have k1 := p_slices_Clone s (by omega)
  have k2 := p_slices_Clone d (by omega)
  refine go trivial (aa kt <| aa ke <| aa k1 k2) ?_
  exact ends_ret rfl rfl rfl rfl
abbrev esV (f : FuncId) : PV := .fn fi_eval_side_1 [] [.box [.fn f [] []]]
abbrev etV (op : Int) : PV := .fn fi_eval_two_1 [] [.box [.int .i64 op]]
abbrev eoV (op : Int) : PV := .fn fi_eval_one_1 [] [.box [.int .i64 op]]
def evL : List (Int × PV) := [(30, .fn fi_eval_rules_1 [] []), (40, .fn fi_eval_rules_2 [] []), (41, .fn fi_eval_rules_3 [] []), (42, .fn fi_eval_rules_4 [] []), (43, .fn fi_eval_rules_5 [] []), (50, esV fi_reduce_Sum), (51, esV fi_reduce_Mean), (52, esV fi_reduce_Max),
  (10, etV 10), (11, etV 11), (12, etV 12), (13, etV 13), (20, eoV 20), (21, eoV 21), (22, eoV 22), (23, eoV 23)]
def evE (l : List (Int × PV)) : List (Int × Bool × List PV) := l.map fun p => (p.1, false, [p.2])
theorem find_evE (op : Int) (l : List (Int × PV)) : findE op (evE l) = (lkI op l).map fun v => (false, [v]) := find_map (fun v : PV => (false, [v])) op l
theorem p_eval_side (f : FuncId) : PureC Tryz.prog fi_eval_side [.one (.fn f [] [])] (.one (esV f)) := by
  refine pure_eval_side (by simp) fun G hP hn => ?_
  refine go trivial trivial ?_
  exact ends_ret rfl rfl rfl rfl
theorem p_eval_two (op : Int) : PureC Tryz.prog fi_eval_two [dN op] (.one (etV op)) := by
  refine pure_eval_two (by simp) fun G hP hn => ?_
  refine go trivial trivial ?_
  exact ends_ret rfl rfl rfl rfl
theorem p_eval_one (op : Int) : PureC Tryz.prog fi_eval_one [dN op] (.one (eoV op)) := by
  refine pure_eval_one (by simp) fun G hP hn => ?_
  refine go trivial trivial ?_
  exact ends_ret rfl rfl rfl rfl
theorem p_eval_rules : PureC Tryz.prog fi_eval_rules [] (.one (.map (evE evL))) := by
  refine pure_eval_rules (by simp) fun G hP hn => ?_
  have k1 := p_eval_side fi_reduce_Sum
  have k2 := p_eval_side fi_reduce_Mean
  have k3 := p_eval_side fi_reduce_Max
  have kt := p_eval_two
  have ko := p_eval_one
  refine go trivial (aa k1 <| aa k2 k3) ?_
  refine T_for 4 (fun i (_ : Unit) => { env := [(1, .one (.mmap 6)), (11, .one (.msl 11 0 1 4 none)), (12, .one (.p (.int .i64 4))), (13, .one (.p (.int .i64 i)))], σ := [(6, .map true (evE (evL.take (8 + i)))), (11, .arr true 1 (rI [10, 11, 12, 13]))] })
    (fun _ _ => True) () trivial ?_ fun i _ hi _ => ?_
  · refine Weak.sub fun q hq => ?_
    simp only [List.mem_cons, List.not_mem_nil, or_false] at hq
    rcases hq with rfl | rfl <;> rfl
  by_cases h4 : i < 4
  · have hc : i = 0 ∨ i = 1 ∨ i = 2 ∨ i = 3 := by omega
    have q10 := kt 10
    have q11 := kt 11
    have q12 := kt 12
    have q13 := kt 13
    rcases hc with rfl | rfl | rfl | rfl
    all_goals
      refine go trivial (aa q10 <| aa q11 <| aa q12 q13) ?_
      refine rnd_next h4 () trivial (Weak.sub fun q hq => ?_)
      simp only [List.mem_cons, List.not_mem_nil, or_false] at hq
      rcases hq with rfl | rfl <;> rfl
  obtain rfl : i = 4 := by omega
  refine go trivial trivial ?_
  refine T_for 4 (fun i (_ : Unit) => { env := [(1, .one (.mmap 6)), (22, .one (.msl 22 0 1 4 none)), (23, .one (.p (.int .i64 4))), (24, .one (.p (.int .i64 i)))], σ := [(6, .map true (evE (evL.take (12 + i)))), (22, .arr true 1 (rI [20, 21, 22, 23]))] })
    (fun _ _ => True) () trivial ?_ fun i _ hi _ => ?_
  · refine Weak.sub fun q hq => ?_
    simp only [List.mem_cons, List.not_mem_nil, or_false] at hq
    rcases hq with rfl | rfl <;> rfl
  by_cases h5 : i < 4
  · have hc : i = 0 ∨ i = 1 ∨ i = 2 ∨ i = 3 := by omega
    have q20 := ko 20
    have q21 := ko 21
    have q22 := ko 22
    have q23 := ko 23
    rcases hc with rfl | rfl | rfl | rfl
    all_goals
      refine go trivial (aa q20 <| aa q21 <| aa q22 q23) ?_
      refine rnd_next h5 () trivial (Weak.sub fun q hq => ?_)
      simp only [List.mem_cons, List.not_mem_nil, or_false] at hq
      rcases hq with rfl | rfl <;> rfl
  obtain rfl : i = 4 := by omega
  refine go trivial trivial ?_
  exact ends_ret rfl rfl rfl rfl
end Go.AM

namespace Go.AM
open Go Go.Proofs
set_option maxRecDepth 100000
set_option maxHeartbeats 8000000

theorem eval_rule {op : Int} {k : Int × Int} {t : List Tn} {nums : List Int} (hk : kindF op = some k) (h1 : op ≠ 1) (h2 : op ≠ 2) (h3 : op ≠ 3) (hl : (t.length : Int) = k.1) (hw : wellF nums k.2 = true) (ht : ∀ x ∈ t, I64s x.2) :
    ∃ f caps, lkI op evL = some (.fn f [] caps) ∧ PureC Tryz.prog f ([dTs t, dI nums] ++ caps.map .one) (dTold (evF op t nums)) := by
  have hc := kind_cases hk
  simp only [List.mem_cons, Prod.mk.injEq, List.not_mem_nil, or_false] at hc
  have one : k.1 = 1 → ∃ s d, t = [(s, d)] ∧ I64s d := fun h => by
    have : t.length = 1 := by omega
    match t, this, ht with
    | [(s, d)], _, ht => exact ⟨s, d, rfl, ht (s, d) (by simp)⟩
  have two : k.1 = 2 → ∃ s d u e, t = [(s, d), (u, e)] ∧ I64s d ∧ I64s e := fun h => by
    have : t.length = 2 := by omega
    match t, this, ht with
    | [(s, d), (u, e)], _, ht => exact ⟨s, d, u, e, rfl, ht (s, d) (by simp), ht (u, e) (by simp)⟩
  have num : ∀ m : Int, k.2 = m → m ≠ -2 → m ≠ -1 → (nums.length : Int) = m := fun m h h1 h2 => by
    rw [h] at hw; unfold wellF at hw; rw [if_neg h1, if_neg h2] at hw; simpa using hw
  rcases hc with ⟨rfl, rfl⟩ | ⟨rfl, rfl⟩ | ⟨rfl, rfl⟩ | ⟨rfl, rfl⟩ | ⟨rfl, rfl⟩ | ⟨rfl, rfl⟩ | ⟨rfl, rfl⟩ | ⟨rfl, rfl⟩ | ⟨rfl, rfl⟩ | ⟨rfl, rfl⟩ | ⟨rfl, rfl⟩ | ⟨rfl, rfl⟩ | ⟨rfl, rfl⟩ | ⟨rfl, rfl⟩ | ⟨rfl, rfl⟩ | ⟨rfl, rfl⟩ | ⟨rfl, rfl⟩ | ⟨rfl, rfl⟩ | ⟨rfl, rfl⟩
  · exact absurd rfl h1
  · exact absurd rfl h2
  · exact absurd rfl h3
  · obtain ⟨s, d, u, e, rfl, hd, he⟩ := two rfl
    exact ⟨_, _, rfl, p_eval_two_1 s d u e [] nums (k_Add hd he)⟩
  · obtain ⟨s, d, u, e, rfl, hd, he⟩ := two rfl
    exact ⟨_, _, rfl, p_eval_two_1 s d u e [] nums (k_Sub hd he)⟩
  · obtain ⟨s, d, u, e, rfl, hd, he⟩ := two rfl
    exact ⟨_, _, rfl, p_eval_two_1 s d u e [] nums (k_Mul hd he)⟩
  · obtain ⟨s, d, u, e, rfl, hd, he⟩ := two rfl
    exact ⟨_, _, rfl, p_eval_two_1 s d u e [] nums (k_Div hd he)⟩
  · obtain ⟨s, d, rfl, hd⟩ := one rfl
    exact ⟨_, _, rfl, p_eval_one_1 s d [] nums (k_Neg hd)⟩
  · obtain ⟨s, d, rfl, hd⟩ := one rfl
    exact ⟨_, _, rfl, p_eval_one_1 s d [] nums (k_Relu hd)⟩
  · obtain ⟨s, d, rfl, hd⟩ := one rfl
    exact ⟨_, _, rfl, p_eval_one_1 s d [] nums (k_Pow hd)⟩
  · obtain ⟨s, d, rfl, hd⟩ := one rfl
    exact ⟨_, _, rfl, p_eval_one_1 s d [] nums (k_Sqrt hd)⟩
  · obtain ⟨s, d, u, e, rfl, hd, he⟩ := two rfl
    exact ⟨_, _, rfl, p_eval_matmul s d u e [] nums hd he⟩
  · obtain ⟨s, d, rfl, hd⟩ := one rfl
    exact ⟨_, _, rfl, p_eval_reshape s d [] nums⟩
  · obtain ⟨s, d, rfl, hd⟩ := one rfl
    exact ⟨_, _, rfl, p_eval_turn s d [] nums⟩
  · obtain ⟨s, d, rfl, hd⟩ := one rfl
    have h3 := num 3 rfl (by decide) (by decide)
    obtain ⟨p, f, u, rfl⟩ : ∃ p f u, nums = [p, f, u] := match nums, h3 with | [p, f, u], _ => ⟨p, f, u, rfl⟩
    exact ⟨_, _, rfl, p_eval_slice s d [] p f u⟩
  · obtain ⟨s, d, u, e, rfl, hd, he⟩ := two rfl
    have h3 := num 1 rfl (by decide) (by decide)
    obtain ⟨p, rfl⟩ : ∃ p, nums = [p] := match nums, h3 with | [p], _ => ⟨p, rfl⟩
    exact ⟨_, _, rfl, p_eval_join s d u e [] p []⟩
  · obtain ⟨s, d, rfl, hd⟩ := one rfl
    have h3 := num 1 rfl (by decide) (by decide)
    obtain ⟨p, rfl⟩ : ∃ p, nums = [p] := match nums, h3 with | [p], _ => ⟨p, rfl⟩
    exact ⟨_, _, rfl, p_eval_side_1 s d [] p [] (p_reduce_Sum s d p hd)⟩
  · obtain ⟨s, d, rfl, hd⟩ := one rfl
    have h3 := num 1 rfl (by decide) (by decide)
    obtain ⟨p, rfl⟩ : ∃ p, nums = [p] := match nums, h3 with | [p], _ => ⟨p, rfl⟩
    exact ⟨_, _, rfl, p_eval_side_1 s d [] p [] (p_reduce_Mean s d p hd)⟩
  · obtain ⟨s, d, rfl, hd⟩ := one rfl
    have h3 := num 1 rfl (by decide) (by decide)
    obtain ⟨p, rfl⟩ : ∃ p, nums = [p] := match nums, h3 with | [p], _ => ⟨p, rfl⟩
    exact ⟨_, _, rfl, p_eval_side_1 s d [] p [] (p_reduce_Max s d p hd)⟩
end Go.AM

namespace Go.AM
open Go Go.Proofs
set_option maxRecDepth 100000
set_option maxHeartbeats 8000000

theorem gT_none {ps : List Tn} {p : Nat} (h : ps.length ≤ p) : gT ps p = ([], []) := by unfold gT; rw [List.getElem?_eq_none h]; rfl
theorem p_eval_Node (n : Nd) (t : List Tn) (input : Tn) (ps : List Tn) (hl : t.length ≤ 1000) (ht : ∀ x ∈ t, I64s x.2) (hps : ps.length ≤ MaxN) : PureC Tryz.prog fi_eval_Node [dNd n, dTs t, dT input.1 input.2, dTs ps] (dTE (nodeF n t input ps)) := by
  refine pure_eval_Node (by simp) fun G hP hn => ?_
  obtain ⟨op, args, nums⟩ := n
  obtain ⟨i1, i2⟩ := input
  have hM : MaxN = 140737488355328 := rfl
  refine go trivial trivial ?_
  refine T_nils 10 100 1 rfl rfl rfl ?_
  refine T_for t.length (fun i (acc : List (List Int)) => { env := [(1, .one (.p (.sl (rTn t)))), (3, .one (.p (.sl (rTn ps)))), (4, .one (.ptr 4 0 3 0)), (6, .one (.ptr 6 0 2 0)), (8, .one (.ptr 8 0 2 0)), (10, .one (.msl 100 0 1 i none)), (17, .one (.p (.sl (rTn t)))), (18, .one (.p (.int .i64 t.length))), (19, .one (.p (.int .i64 i)))], σ := [(4, .cells true [.p (.int .i64 op), .p (eI args), .p (eI nums)]), (6, .cells true [.p (eI i1), .p (eI i2)]), (8, .cells true [.nils, .nils]), (100, .arr true 1 (rS acc))] })
    (fun i acc => acc = (t.take i).map (·.1) ∧ (t.take i).all (fun x => checkT x.1 x.2) = true) [] ⟨by simp, by simp⟩ ?_ fun i acc hi hinv => ?_
  · refine (Weak.pick [1, 3, 4, 6, 8, 10, 17, 18, 19]).trans (Weak.sub fun q hq => ?_)
    simp only [List.mem_cons, List.not_mem_nil, or_false] at hq
    rcases hq with rfl | rfl | rfl | rfl <;> rfl
  obtain ⟨hacc, hall⟩ := hinv
  have hal : acc.length = i := by rw [hacc, List.length_map, List.length_take]; omega
  by_cases hlt : i < t.length
  · have c1 : (i : Int) < t.length := by omega
    have w1 : IntKind.i64.wrap ((i : Int) + 1) = ((i + 1 : Nat) : Int) := by rw [wrap_in (by omega) (by omega)]; rfl
    have hx := gT_some hlt
    have hg : t[i] = gT t i := by unfold gT; rw [List.getElem?_eq_getElem hlt]; rfl
    have kt := p_tensor_Check (gT t i).1 (gT t i).2
    have hta : t.take (i + 1) = t.take i ++ [gT t i] := by rw [List.take_add_one, hx]; rfl
    have c4 : (i + 1) * 24 ≤ 2 ^ 40 := by omega
    have c5 : i + 1 ≤ 2 ^ 40 := by omega
    cases hc : checkT (gT t i).1 (gT t i).2
    · rw [hc] at kt
      have hr : nodeF ⟨op, args, nums⟩ t (i1, i2) ps = bad 30 := by
        unfold nodeF
        rw [if_neg (fun h => by
          have := List.all_eq_true.1 h (gT t i) (hg ▸ List.getElem_mem hlt)
          rw [hc] at this; cases this)]
      rw [hr]
      clear hr hta hg
      generalize gT t i = q at *
      refine go (aa c1 <| aa hlt hx) kt ?_
      exact ends_ret rfl rfl rfl rfl
    · rw [hc] at kt
      have hn1 : acc ++ [(gT t i).1] = (t.take (i + 1)).map (·.1) := by rw [hta, List.map_append, hacc]; rfl
      have hn2 : (t.take (i + 1)).all (fun x => checkT x.1 x.2) = true := by rw [hta, List.all_append, hall]; simp [hc]
      clear hta hg
      generalize gT t i = q at *
      refine go (aa c1 <| aa hlt <| aa hx <| aa w1 <| aa hal <| aa c4 c5) kt ?_
      refine rnd_next hlt (acc ++ [q.1]) ⟨hn1, hn2⟩ (Weak.sub fun z hz => ?_)
      simp only [List.mem_cons, List.not_mem_nil, or_false] at hz
      rcases hz with rfl | rfl | rfl | rfl
      · rfl
      · rfl
      · rfl
      · simp [lo, rS]
  obtain rfl : i = t.length := by omega
  rw [List.take_length] at hacc hall
  subst hacc
  have c1 : ¬ (t.length : Int) < t.length := by omega
  have kN := p_infer_Node ⟨op, args, nums⟩ (t.map (·.1)) (by rw [List.length_map]; omega)
  simp only at kN
  refine T_weak (Weak.freeze (i := 10) rfl (toD_list (n := 5) rfl (by simp))) ?_
  simp only [lo, Nat.reduceEqDiff, if_true, if_false, if_pos]
  unfold nodeF
  rw [if_pos hall]
  simp only
  by_cases h0 : inferOk op nums (t.map (·.1)) = true
  rotate_left
  · have hI : inferF op nums (t.map (·.1)) = ([], 20) := inferF_no (by simpa using h0)
    rw [hI] at kN ⊢
    rw [if_neg (show ¬ (([], 20) : List Int × Int).2 = 0 by decide)]
    refine go c1 kN ?_
    exact ends_ret rfl rfl rfl rfl
  have hI : inferF op nums (t.map (·.1)) = ((ruleF op (t.map (·.1)) nums).1, 0) := by unfold inferF; rw [if_pos h0]
  obtain ⟨k, hk, hkl, hw, _, _⟩ := inferOk_kind h0
  rw [List.length_map] at hkl
  rw [hI] at kN ⊢
  rw [if_pos rfl]
  generalize hz : (ruleF op (t.map (·.1)) nums).1 = z at *
  clear hI h0 hz
  by_cases o1 : op = 1
  · subst o1
    rw [if_pos rfl]
    have kg := p_eval_given (i1, i2) z
    generalize givenF (i1, i2) z = R at *
    refine go c1 (aa kN kg) ?_
    exact ends_ret rfl rfl rfl rfl
  rw [if_neg o1]
  by_cases o2 : op = 2
  · subst o2
    rw [if_pos rfl]
    obtain ⟨p, r, rfl, hp0, hp8⟩ : ∃ p r, nums = p :: r ∧ 0 ≤ p ∧ p < 8 := by
      have : k = (0, -2) := by have := hk.symm; rw [show kindF 2 = some (0, -2) from rfl] at this; exact Option.some.inj this
      subst this
      unfold wellF at hw
      simp only [if_true] at hw
      cases nums with
      | nil => cases hw
      | cons p r =>
        have := of_decide_eq_true (Bool.and_eq_true .. ▸ hw).1
        exact ⟨p, r, rfl, this.1, this.2⟩
    obtain ⟨m, rfl⟩ := Int.eq_ofNat_of_zero_le hp0
    have e0 : (hd ((m : Int) :: r) 0).toNat = m := rfl
    rw [e0]
    by_cases hm : m < ps.length
    · have q1 : (m : Int) < ps.length := by omega
      have hx := gT_some hm
      have kg := p_eval_given (gT ps m) z
      generalize givenF (gT ps m) z = R at *
      generalize gT ps m = q at *
      refine go (aa c1 <| aa q1 <| aa hx hm) (aa kN kg) ?_
      exact ends_ret rfl rfl rfl rfl
    · have q1 : ¬ (m : Int) < ps.length := by omega
      rw [gT_none (by omega)]
      have kg : PureC Tryz.prog fi_eval_given [dT [] [], dI z] (dTE (givenF ([], []) z)) := p_eval_given ([], []) z
      generalize givenF ([], []) z = R at *
      refine go (aa c1 q1) (aa kN kg) ?_
      exact ends_ret rfl rfl rfl rfl
  rw [if_neg o2]
  by_cases o3 : op = 3
  · subst o3
    rw [if_pos rfl]
    obtain ⟨p, rfl⟩ : ∃ p, nums = [p] := by
      have : k = (0, 1) := by have := hk.symm; rw [show kindF 3 = some (0, 1) from rfl] at this; exact Option.some.inj this
      subst this
      have h1 : nums.length = 1 := by
        unfold wellF at hw
        rw [if_neg (by decide), if_neg (by decide)] at hw
        have : (nums.length : Int) = 1 := by simpa using hw
        omega
      match nums, h1 with
      | [p], _ => exact ⟨p, rfl⟩
    have kg : PureC Tryz.prog fi_tensor_Full [dI [], dN p] (dTE (fullF [] p)) := p_tensor_Full [] p
    have e0 : hd [p] 0 = p := rfl
    rw [e0]
    generalize fullF [] p = R at *
    refine go c1 (aa kN kg) ?_
    exact ends_ret rfl rfl rfl rfl
  rw [if_neg o3]
  obtain ⟨f, caps, hlk, kW⟩ := eval_rule hk o1 o2 o3 hkl hw ht
  have hfind := find_evE op evL
  rw [hlk, Option.map_some] at hfind
  have kR := p_eval_rules
  have e1 : (op == 1) = false := by simp [o1]
  have e2 : (op == 2) = false := by simp [o2]
  have e3 : (op == 3) = false := by simp [o3]
  generalize evF op t nums = R at *
  clear hlk hk hw hkl
  refine go (aa c1 <| aa e1 <| aa e2 <| aa e3 hfind) (aa kN <| aa kR kW) ?_
  exact ends_ret rfl rfl rfl rfl
end Go.AM

namespace Go.AM
open Go Go.Proofs
set_option maxRecDepth 100000
set_option maxHeartbeats 8000000

theorem ends_list3 {rv : List RV} {s : AS} {t k len : Nat} {cap : Option Nat} {m : Bool} {rows : List (List PV)} {v w : PV} (h1 : evRV rv s.env s.σ = some [.one (.msl t 0 k len cap), .one (.p v), .one (.p w)]) (h2 : lo s.σ t = .arr m k rows) (hl : len = rows.length) :
    Ends rv (.tup [.one (.sl rows), .one v, .one w]) .ret s :=
  ends_ret (ds := [.one (.sl rows), .one v, .one w]) (σ' := if m then (t, .arr false k rows) :: s.σ else s.σ) h1 (by
    have e1 := toD_list (n := 5) (cap := cap) h2 hl
    simp only [toDs, toD, e1]; rfl) rfl rfl
theorem gs_get {s : List (List Int)} {m : Nat} (h : m < s.length) : s[m]? = some (gs s m) := by unfold gs; rw [Int.toNat_natCast, List.getElem?_eq_getElem h]; rfl
theorem arity_le {n : Nd} {k : Int × Int} (hk : kindF n.op = some k) (h : (n.args.length : Int) = k.1) : n.args.length ≤ 2 := by
  have := arity_of hk; omega
theorem checkG_len {l : List Nd} (h : checkG l = true) : l.length ≤ 24 := by
  unfold checkG at h
  simp only [Bool.and_eq_true, decide_eq_true_eq] at h
  exact h.2.2
theorem p_infer_Shapes (l : List Nd) (hl : l.length ≤ MaxN) (hl2 : ∀ n ∈ l, n.args.length ≤ MaxN) : PureC Tryz.prog fi_infer_Shapes [dNds l] (.tup [dSS (shapesF l).1, dN (shapesF l).2.1, dN (shapesF l).2.2]) := by
  refine pure_infer_Shapes (by simp) fun G hP hn => ?_
  have hM : MaxN = 140737488355328 := rfl
  have kc := p_graph_Check l hl hl2
  unfold shapesF
  cases hc : checkG l
  · rw [hc] at kc
    rw [if_neg (by simp)]
    refine go trivial kc ?_
    exact ends_ret rfl rfl rfl rfl
  rw [hc] at kc
  rw [if_pos rfl]
  have hargs := fun (j : Nat) (hj : j < l.length) => checkG_args hc hj
  have h24 := checkG_len hc
  refine go trivial kc ?_
  refine T_nils 2 100 1 rfl rfl rfl ?_
  refine T_for l.length (fun i (out : List (List Int)) => { env := [(2, .one (.msl 100 0 1 i none)), (3, .one (.p (.int .i64 (-1)))), (4, .one (.p (.int .i64 0))), (15, .one (.p (.sl (l.map rNd)))), (16, .one (.p (.int .i64 l.length))), (17, .one (.p (.int .i64 i)))], σ := [(100, .arr true 1 (rS out))] })
    (fun i out => out.length = i ∧ shapesL (l.drop i) out = shapesL l []) [] ⟨rfl, rfl⟩ ?_ fun i out hi hinv => ?_
  · refine (Weak.pick [2, 3, 4, 15, 16, 17]).trans (Weak.sub fun q hq => ?_)
    simp only [List.mem_cons, List.not_mem_nil, or_false] at hq
    rcases hq with rfl <;> rfl
  obtain ⟨hol, hinv⟩ := hinv
  by_cases hlt : i < l.length
  rotate_left
  · have c1 : ¬ (i : Int) < l.length := by omega
    rw [List.drop_of_length_le (by omega)] at hinv
    simp only [shapesL] at hinv
    rw [← hinv]
    refine go c1 trivial ?_
    exact ends_list3 rfl rfl (by simp [hol])
  have c1 : (i : Int) < l.length := by omega
  have w1 : IntKind.i64.wrap ((i : Int) + 1) = ((i + 1 : Nat) : Int) := by rw [wrap_in (by omega) (by omega)]; rfl
  have hx := nd_some hlt
  obtain ⟨hb, k, hk, hkl, _⟩ := hargs i hlt
  have h2 := arity_le hk hkl
  rw [List.drop_eq_getElem_cons hlt] at hinv
  generalize l[i] = n at *
  obtain ⟨op, args, nums⟩ := n
  simp only [shapesL] at hinv
  simp only at hb h2
  clear hk hkl kc hc hargs
  refine go (aa c1 <| aa hx hlt) trivial ?_
  refine T_nils 7 101 1 rfl rfl rfl ?_
  refine T_for args.length (fun j (acc : List (List Int)) => { env := [(2, .one (.msl 100 0 1 i none)), (3, .one (.p (.int .i64 (-1)))), (4, .one (.p (.int .i64 0))), (5, .one (.p (.int .i64 i))), (6, .one (.ptr 6 0 3 0)), (7, .one (.msl 101 0 1 j none)), (15, .one (.p (.sl (l.map rNd)))), (16, .one (.p (.int .i64 l.length))), (17, .one (.p (.int .i64 i))), (23, .one (.p (eI args))), (24, .one (.p (.int .i64 args.length))), (25, .one (.p (.int .i64 j)))], σ := [(100, .arr true 1 (rS out)), (6, .cells true [.p (.int .i64 op), .p (eI args), .p (eI nums)]), (101, .arr true 1 (rS acc))] })
    (fun j acc => acc = (args.take j).map (gs out)) [] (by simp) ?_ fun j acc hj hacc => ?_
  · refine (Weak.pick [2, 3, 4, 5, 6, 7, 15, 16, 17, 23, 24, 25]).trans (Weak.sub fun q hq => ?_)
    simp only [List.mem_cons, List.not_mem_nil, or_false] at hq
    rcases hq with rfl | rfl | rfl <;> rfl
  have hal : acc.length = j := by rw [hacc, List.length_map, List.length_take]; omega
  by_cases hlj : j < args.length
  · have d1 : (j : Int) < args.length := by omega
    have v1 : IntKind.i64.wrap ((j : Int) + 1) = ((j + 1 : Nat) : Int) := by rw [wrap_in (by omega) (by omega)]; rfl
    have ha := hb args[j] (List.getElem_mem hlj)
    obtain ⟨m, hm⟩ := Int.eq_ofNat_of_zero_le ha.1
    have hy : args[j]? = some (m : Int) := by rw [List.getElem?_eq_getElem hlj, hm]
    have hmi : m < i := by omega
    have d2 : (m : Int) < i := by omega
    have hg := gs_get (s := out) (m := m) (by omega)
    have hn1 : acc ++ [gs out m] = (args.take (j + 1)).map (gs out) := by rw [List.take_add_one, hy, List.map_append, hacc]; rfl
    have c4 : (j + 1) * 24 ≤ 2 ^ 40 := by omega
    have c5 : j + 1 ≤ 2 ^ 40 := by omega
    have hmo : m < out.length := by omega
    generalize gs out m = z at *
    refine go (aa d1 <| aa v1 <| aa hlj <| aa hy <| aa hmi <| aa d2 <| aa hg <| aa hmo <| aa hal <| aa c4 c5) trivial ?_
    refine rnd_next hlj (acc ++ [z]) hn1 (Weak.sub fun q hq => ?_)
    simp only [List.mem_cons, List.not_mem_nil, or_false] at hq
    rcases hq with rfl | rfl | rfl
    · rfl
    · rfl
    · simp [lo, rS]
  obtain rfl : j = args.length := by omega
  rw [List.take_length] at hacc
  have d1 : ¬ (args.length : Int) < args.length := by omega
  have kN := p_infer_Node ⟨op, args, nums⟩ acc (by omega)
  simp only at kN
  rw [← hacc] at hinv
  refine T_weak (Weak.freeze (i := 7) rfl (toD_list (n := 5) rfl (by simp [hal]))) ?_
  simp only [lo, Nat.reduceEqDiff, if_true, if_false, if_pos]
  generalize inferF op nums acc = R at *
  obtain ⟨R1, R2⟩ := R
  simp only at kN hinv
  by_cases he : R2 = 0
  · subst he
    rw [if_pos rfl] at hinv
    have c4 : (i + 1) * 24 ≤ 2 ^ 40 := by omega
    have c5 : i + 1 ≤ 2 ^ 40 := by omega
    refine go (aa d1 <| aa w1 <| aa hol <| aa c4 c5) kN ?_
    refine rnd_next hlt (out ++ [R1]) ⟨by simp [hol], hinv⟩ (Weak.sub fun q hq => ?_)
    simp only [List.mem_cons, List.not_mem_nil, or_false] at hq
    rcases hq with rfl
    simp [lo, rS]
  · rw [if_neg he] at hinv
    have e1 : (R2 != 0) = true := by simp [he]
    rw [← hinv, hol]
    refine go (aa d1 e1) kN ?_
    exact ends_ret rfl rfl rfl rfl
end Go.AM

namespace Go.AM
open Go Go.Proofs

theorem ShapeOk.eraseIdx {s : List Int} (h : ShapeOk s) (n : Nat) : ShapeOk (s.eraseIdx n) := by
  by_cases hn : n < s.length
  · have e := prd_split s hn
    have e2 : s.eraseIdx n = s.take n ++ s.drop (n + 1) := List.eraseIdx_eq_take_drop_succ s n
    have h1 := (h.take n).2.2
    have hs := h.2.1 s[n] (List.getElem_mem hn)
    have p1 := h.take n
    have p2 := h.drop (n + 1)
    have b1 : 1 ≤ prd (s.take n) := prd_pos p1.2.1
    have b2 : 1 ≤ prd (s.drop (n + 1)) := prd_pos p2.2.1
    refine ⟨?_, fun m hm => h.2.1 m (List.mem_of_mem_eraseIdx hm), ?_⟩
    · rw [List.length_eraseIdx]; split <;> (have := h.1; omega)
    · rw [e2, prd_append]
      have h64 := h.2.2
      rw [e] at h64
      have h5 : prd (s.take n) * prd (s.drop (n + 1)) ≤ prd (s.take n) * (s[n] * prd (s.drop (n + 1))) :=
        Int.mul_le_mul_of_nonneg_left (by
          have := Int.mul_le_mul_of_nonneg_right hs.1 (by omega : 0 ≤ prd (s.drop (n + 1)))
          omega) (by omega)
      omega
  · rw [List.eraseIdx_of_length_le (by omega)]; exact h
theorem gs_ok {s : List (List Int)} (h : s.all checkS = true) (i : Nat) : checkS (gs s i) = true := by
  unfold gs
  rw [Int.toNat_natCast]
  cases hi : s[i]? with
  | none => exact (by decide : checkS [] = true)
  | some x => exact List.all_eq_true.1 h x (List.mem_of_getElem? hi)
theorem w64_small {n : Int} (h : -1000 ≤ n ∧ n ≤ 1000) : w64 n = n := wrap_in (by omega) (by omega)
theorem infer_check {op : Int} {nums : List Int} {s : List (List Int)} (h : (inferF op nums s).2 = 0) : checkS (inferF op nums s).1 = true := by
  unfold inferF at h ⊢
  by_cases h1 : inferOk op nums s = true
  rotate_left
  · rw [if_neg h1] at h; simp at h
  rw [if_pos h1]
  obtain ⟨k, hk, hl, hw, hs, hr⟩ := inferOk_kind h1
  have g0 := gs_ok hs 0
  have g1 := gs_ok hs 1
  have hc := kind_cases hk
  simp only [List.mem_cons, Prod.mk.injEq, List.not_mem_nil, or_false] at hc
  have two : ∀ a b : List Int, ((joinSF a b).2 == 0) = true → checkS (joinSF a b).1 = true := fun a b h => by
    rcases join_or a b with ⟨r, hj, he⟩ | ⟨_, he⟩
    · rw [he]; exact checkS_iff.2 hj.hr
    · rw [he] at h; simp at h
  have side : ∀ f : Nat → List Int → List Int × Bool, (∀ n m, n < (gs s 0).length → (f n m).2 = true → checkS (f n m).1 = true) → (sidedF s nums f).2 = true → checkS (sidedF s nums f).1 = true := fun f hf h => by
    unfold sidedF at h ⊢
    by_cases h2 : hd nums 0 < 0 ∨ hd nums 0 ≥ ((gs s 0).length : Int)
    · rw [if_pos h2] at h; simp at h
    · rw [if_neg h2] at h ⊢; exact hf _ _ (by omega) h
  have er : ∀ (n : Nat) (m : List Int), n < (gs s 0).length → (((gs s 0).eraseIdx n, true) : List Int × Bool).2 = true → checkS ((gs s 0).eraseIdx n, true).1 = true := fun n _ _ _ => checkS_iff.2 ((checkS_iff.1 g0).eraseIdx n)
  rcases hc with ⟨rfl, rfl⟩ | ⟨rfl, rfl⟩ | ⟨rfl, rfl⟩ | ⟨rfl, rfl⟩ | ⟨rfl, rfl⟩ | ⟨rfl, rfl⟩ | ⟨rfl, rfl⟩ | ⟨rfl, rfl⟩ | ⟨rfl, rfl⟩ | ⟨rfl, rfl⟩ | ⟨rfl, rfl⟩ | ⟨rfl, rfl⟩ | ⟨rfl, rfl⟩ | ⟨rfl, rfl⟩ | ⟨rfl, rfl⟩ | ⟨rfl, rfl⟩ | ⟨rfl, rfl⟩ | ⟨rfl, rfl⟩ | ⟨rfl, rfl⟩
  · exact hw
  · show checkS nums.tail = true
    unfold wellF at hw
    simp only [if_true] at hw
    cases nums with
    | nil => cases hw
    | cons p r => exact (Bool.and_eq_true .. ▸ hw).2
  · rfl
  · exact two _ _ hr
  · exact two _ _ hr
  · exact two _ _ hr
  · exact two _ _ hr
  · exact g0
  · exact g0
  · exact g0
  · exact g0
  · have hr' : (productF (gs s 0) (gs s 1)).2 = true := hr
    show checkS (productF (gs s 0) (gs s 1)).1 = true
    revert hr'
    unfold productF
    split
    · split
      · exact fun h => h
      · exact fun h => by cases h
    · exact fun h => by cases h
  · exact hw
  · exact checkS_iff.2 (checkS_iff.1 g0).reverse
  · have hr' : (sidedF s nums (partF (gs s 0))).2 = true := hr
    show checkS (sidedF s nums (partF (gs s 0))).1 = true
    refine side _ (fun n m hn h => ?_) hr'
    unfold partF at h ⊢
    by_cases h2 : hd m 0 < 0 ∨ hd m 0 ≥ hd m 1 ∨ hd m 1 > hd (gs s 0) n
    · rw [if_pos h2] at h; cases h
    · rw [if_neg h2]
      have e : (gs s 0)[n]? = some (gs s 0)[n] := List.getElem?_eq_getElem hn
      have e2 : hd (gs s 0) n = (gs s 0)[n] := by unfold hd; rw [e]; rfl
      have := (checkS_iff.1 g0).2.1 _ (List.getElem_mem hn)
      rw [w64_small (by omega)]
      exact checkS_iff.2 ((checkS_iff.1 g0).cut e (by omega))
  · have hr' : (sidedF s nums (fun n _ => behindF (gs s 0) (gs s 1) n)).2 = true := hr
    show checkS (sidedF s nums (fun n _ => behindF (gs s 0) (gs s 1) n)).1 = true
    refine side _ (fun n m hn h => ?_) hr'
    unfold behindF at h ⊢
    split
    · rename_i h2; rw [if_pos h2] at h; exact h
    · rename_i h2; rw [if_neg h2] at h; cases h
  all_goals
    have hr' : (sidedF s nums (fun n _ => ((gs s 0).eraseIdx n, true))).2 = true := hr
    show checkS (sidedF s nums (fun n _ => ((gs s 0).eraseIdx n, true))).1 = true
    exact side _ er hr'
theorem shapesL_check : ∀ (l : List Nd) (out : List (List Int)), out.all checkS = true → (shapesL l out).2.2 = 0 → (shapesL l out).1.all checkS = true
  | [], out, h, _ => h
  | n :: l, out, h, hz => by
    simp only [shapesL] at hz ⊢
    split
    · rename_i h1
      rw [if_pos h1] at hz
      exact shapesL_check l _ (by rw [List.all_append, h]; simp [infer_check h1]) hz
    · rename_i h1; rw [if_neg h1] at hz; exact absurd hz h1
end Go.AM

namespace Go.AM
open Go Go.Proofs
set_option maxRecDepth 100000
set_option maxHeartbeats 4000000

theorem cel_zero {n p : Nat} {d : List Int} {i j : Nat} (hj : j < p) : cel n p d (tab n p fun _ _ => 0) i j = (0, 0) := by
  unfold cel
  exact dot_none i64_0 fun k hk => by rw [Nat.zero_add]; exact gt_tab hk hj
theorem mul_zero {m n p : Nat} {d e : List Int} (h1 : checkT [(m : Int), (n : Int)] d = true) (h2 : checkT [(n : Int), (p : Int)] (tab n p fun _ _ => 0) = true) (h3 : checkS [(m : Int), (p : Int)] = true) :
    mulF [(m : Int), (n : Int)] d [(n : Int), (p : Int)] (tab n p fun _ _ => 0) = (([(m : Int), (p : Int)], List.replicate (m * p) 0), 0) := by
  rw [mul_go h1 h2 h3 (fun i j hi hj => by rw [cel_zero hj])]
  unfold prod
  rw [tab_congr (g' := fun _ _ => 0) (fun i j hi hj => by rw [cel_zero hj])]
  congr 2
  unfold tab
  rw [List.map_const']; simp
end Go.AM

namespace Go.AM
open Go Go.Proofs
set_option maxRecDepth 100000
set_option maxHeartbeats 4000000

theorem join_range {s d t e : List Int} {a : Int} (hd : I64s d) (he : I64s e) : I64s (joinF s d t e a).1.2 := by
  unfold joinF
  split
  · split
    · exact I64s.nil
    · exact I64s.mk fun x => by
        unfold gJ
        split
        · exact atF_range hd
        · exact atF_range he
  · exact I64s.nil
theorem slice_range {s d : List Int} {a f t : Int} (hd : I64s d) : I64s (sliceF s d a f t).1.2 := by
  unfold sliceF
  split
  · split
    · exact I64s.nil
    · exact I64s.mk fun x => atF_range hd
  · exact I64s.nil
end Go.AM

namespace Go.AM
open Go Go.Proofs

theorem together_range {W E : Int → Int → Int × Int} {F : Int → Int} {s d : List Int} {a : Int} (hd : I64s d) (hW : ∀ a b, I64 a → I64 b → I64 (W a b).1) (hE : ∀ a S, I64 a → I64 (E a S).1) (hF : ∀ a, I64 a → I64 (F a)) : I64s (togetherF W E F s d a).1.2 := by
  have hfold : ∀ (y : Nat → Int), (∀ i, I64 (y i)) → ∀ (n k : Nat) (s : Int), I64 s → I64 (foldE W y n k s).1 := fun y hy n => by
    induction n with
    | zero => exact fun _ _ h => h
    | succ n ih =>
      intro k s h
      simp only [foldE]
      split
      · exact ih _ _ (hW _ _ h (hy _))
      · exact i64_0
  have hl : ∀ (S B p : Nat), I64 (laneR W E F S B d p).1 := fun S B p => by
    unfold laneR
    split
    · exact hE _ _ (hfold _ (fun i => gt_range hd _) _ _ _ (hF _ (gt_range hd _)))
    · exact i64_0
  unfold togetherF
  split
  · split
    · exact I64s.nil
    · split
      · exact coll_range (fun p => hl _ _ p) _ _ _ I64s.nil
      · exact I64s.nil
  · exact I64s.nil
theorem max_range {a b : Int} (ha : I64 a) (hb : I64 b) : I64 (max a b) := by rw [Int.max_def]; split <;> assumption
theorem mulF_range (s d t e : List Int) : I64s (mulF s d t e).1.2 := by
  unfold mulF
  split
  · split
    · split
      · split
        · exact coll_range (fun p => dot_range _ _ _ _ _ i64_0) _ _ _ I64s.nil
        · exact I64s.nil
      · exact I64s.nil
    · exact I64s.nil
  · exact I64s.nil
theorem reshape_range {s d z : List Int} (h : I64s d) : I64s (reshapeF s d z).1.2 := by
  unfold reshapeF
  split
  · split
    · exact h
    · exact I64s.nil
  · exact I64s.nil
theorem gT_range {t : List Tn} (h : ∀ x ∈ t, I64s x.2) (p : Nat) : I64s (gT t p).2 := by
  unfold gT
  cases hp : t[p]? with
  | none => exact I64s.nil
  | some x => exact h x (List.mem_of_getElem? hp)
theorem evF_range {op : Int} {t : List Tn} {nums : List Int} (ht : ∀ x ∈ t, I64s x.2) : I64s (evF op t nums).1.2 := by
  have h0 := gT_range ht 0
  have h1 := gT_range ht 1
  unfold evF
  by_cases h : op = 10
  · rw [if_pos h]
    exact two_range fAdd_range _ _ _ _
  rw [if_neg h]; clear h
  by_cases h : op = 11
  · rw [if_pos h]
    exact two_range (fun a b => rng_range _) _ _ _ _
  rw [if_neg h]; clear h
  by_cases h : op = 12
  · rw [if_pos h]
    exact two_range fMul_range _ _ _ _
  rw [if_neg h]; clear h
  by_cases h : op = 13
  · rw [if_pos h]
    exact two_range fDiv_range _ _ _ _
  rw [if_neg h]; clear h
  by_cases h : op = 20
  · rw [if_pos h]
    exact one_range (fun a => rng_range _) _ _
  rw [if_neg h]; clear h
  by_cases h : op = 21
  · rw [if_pos h]
    intro v hv
    unfold oneF eachF at hv
    split at hv
    · split at hv
      · have hr : ∀ (n a : Nat) (acc : List Int), I64s acc → I64s (coll (fun p => fRelu (gt (gT t 0).2 p)) n a acc).1 := fun n => by
          induction n with
          | zero => exact fun _ _ h => h
          | succ n ih =>
            intro a acc h
            simp only [coll]
            split
            · exact ih _ _ (h.append fun x hx => by rw [List.mem_singleton.1 hx]; exact max_range (gt_range h0 _) i64_0)
            · exact I64s.nil
        exact hr _ _ _ I64s.nil v hv
      · exact absurd hv List.not_mem_nil
    · exact absurd hv List.not_mem_nil
  rw [if_neg h]; clear h
  by_cases h : op = 22
  · rw [if_pos h]
    exact one_range fPow_range _ _
  rw [if_neg h]; clear h
  by_cases h : op = 23
  · rw [if_pos h]
    exact one_range fSqrt_range _ _
  rw [if_neg h]; clear h
  by_cases h : op = 30
  · rw [if_pos h]
    exact mulF_range _ _ _ _
  rw [if_neg h]; clear h
  by_cases h : op = 40
  · rw [if_pos h]
    exact reshape_range h0
  rw [if_neg h]; clear h
  by_cases h : op = 41
  · rw [if_pos h]
    exact turnF_range h0
  rw [if_neg h]; clear h
  by_cases h : op = 42
  · rw [if_pos h]
    exact slice_range h0
  rw [if_neg h]; clear h
  by_cases h : op = 43
  · rw [if_pos h]
    exact join_range h0 h1
  rw [if_neg h]; clear h
  by_cases h : op = 50
  · rw [if_pos h]
    exact together_range h0 (fun a b _ _ => fAdd_range a b) (fun a _ h => h) (fun _ _ => i64_0)
  rw [if_neg h]; clear h
  by_cases h : op = 51
  · rw [if_pos h]
    unfold meanS
    split
    · exact together_range h0 (fun a b _ _ => fAdd_range a b) (fun a _ h => fDiv_range _ _) (fun _ _ => i64_0)
    · exact I64s.nil
  rw [if_neg h]; clear h
  exact together_range h0 (fun a b ha hb => max_range ha hb) (fun a _ h => h) (fun _ h => h)
theorem nodeF_range {n : Nd} {t : List Tn} {input : Tn} {ps : List Tn} (ht : ∀ x ∈ t, I64s x.2) (hi : I64s input.2) (hp : ∀ x ∈ ps, I64s x.2) (hn : I64s n.nums) : I64s (nodeF n t input ps).1.2 := by
  have gv : ∀ (x : Tn) (s : List Int), I64s x.2 → I64s (givenF x s).1.2 := fun x s h => by unfold givenF; split; exact h; exact I64s.nil
  have h0 : I64 (hd n.nums 0) := gt_range hn 0
  unfold nodeF
  split
  · split
    · split
      · exact gv _ _ hi
      · split
        · exact gv _ _ (gT_range hp _)
        · split
          · unfold fullF
            split
            · intro v hv; rw [List.eq_of_mem_replicate hv]; exact h0
            · exact I64s.nil
          · exact evF_range ht
    · exact I64s.nil
  · exact I64s.nil
theorem evLst_range {input : Tn} {ps : List Tn} (hi : I64s input.2) (hp : ∀ x ∈ ps, I64s x.2) : ∀ (l : List Nd) (out : List Tn), (∀ n ∈ l, I64s n.nums) → (∀ x ∈ out, I64s x.2) → ∀ x ∈ (evLst input ps l out).1, I64s x.2
  | [], out, _, h => h
  | n :: l, out, hl, h => by
    simp only [evLst]
    split
    · refine evLst_range hi hp l _ (fun x hx => hl x (List.mem_cons_of_mem _ hx)) fun x hx => ?_
      rcases List.mem_append.1 hx with hx | hx
      · exact h x hx
      · rw [List.mem_singleton.1 hx]
        refine nodeF_range (fun y hy => ?_) hi hp (hl n List.mem_cons_self)
        obtain ⟨a, _, rfl⟩ := List.mem_map.1 hy
        exact gT_range h _
    · exact fun x hx => absurd hx List.not_mem_nil
def more (l : List Nd) : List Nd := l ++ [⟨11, [(l.length : Int) - 1, (l.length : Int) - 1], []⟩, ⟨20, [(l.length : Int) - 1], []⟩, ⟨20, [(l.length : Int) + 1], []⟩]
theorem checkG_more {l : List Nd} (h0 : 0 < l.length) (h20 : l.length ≤ 20) : checkG (more l) = checkG l := by
  have hs : ∀ (i : Nat) (m : Shs) (op : Int) (zs : List Int) (k : Int), (op = 11 ∧ k = 2 ∨ op = 20 ∧ k = 1) → (zs.length : Int) = k → (∀ a ∈ zs, 0 ≤ a ∧ a < (i : Int)) → stepG i m ⟨op, zs, []⟩ = some m := fun i m op zs k h1 h2 h3 => by
    have hk : kindF op = some (k, 0) := by rcases h1 with ⟨rfl, rfl⟩ | ⟨rfl, rfl⟩ <;> rfl
    have hnm : nameF ⟨op, zs, []⟩ = (0, false) := by rcases h1 with ⟨rfl, rfl⟩ | ⟨rfl, rfl⟩ <;> rfl
    unfold stepG
    simp only [hk]
    rw [if_pos ⟨h2, rfl, by rw [List.all_eq_true]; intro a ha; simpa using h3 a ha⟩, hnm]
    rfl
  unfold checkG more
  rw [walkG_append]
  cases hw : walkG 0 [] l with
  | none => simp
  | some m =>
    simp only [Option.bind, walkG]
    rw [hs _ _ 11 _ 2 (.inl ⟨rfl, rfl⟩) rfl (by intro a ha; simp at ha; omega)]
    simp only
    rw [hs _ _ 20 _ 1 (.inr ⟨rfl, rfl⟩) rfl (by intro a ha; simp at ha; omega)]
    simp only
    rw [hs _ _ 20 _ 1 (.inr ⟨rfl, rfl⟩) rfl (by intro a ha; simp at ha; omega)]
    simp only [Option.isSome_some, Bool.true_and, List.length_append, List.length_cons, List.length_nil]
    rw [decide_eq_true (by omega), decide_eq_true (by omega)]
theorem infer_two {g : List Int} (h : checkS g = true) : inferF 11 [] [g, g] = (g, 0) := by
  have e : joinSF g g = (g, 0) := (JoinOk.self (checkS_iff.1 h)).eq
  have er : ruleF 11 [g, g] [] = (g, true) := by
    show ((joinSF g g).1, (joinSF g g).2 == 0) = _
    rw [e]; rfl
  unfold inferF inferOk
  rw [show kindF 11 = some (2, 0) from rfl, er]
  simp [h, wellF]
theorem infer_one {g : List Int} (h : checkS g = true) : inferF 20 [] [g] = (g, 0) := by
  unfold inferF inferOk
  rw [show kindF 20 = some (1, 0) from rfl, show ruleF 20 [g] [] = (g, true) from rfl]
  simp [h, wellF]
theorem gs_last {A : List (List Int)} {k : Nat} (hA : A.length = k) (B : List (List Int)) (j : Nat) : gs (A ++ B) ((k + j : Nat) : Int) = (B[j]?).getD [] := by
  unfold gs; rw [Int.toNat_natCast, List.getElem?_append_right (by omega)]; congr 2; omega
theorem gs_left {A : List (List Int)} {i : Nat} (hA : i < A.length) (B : List (List Int)) : gs (A ++ B) (i : Int) = gs A (i : Int) := by
  unfold gs; rw [Int.toNat_natCast, List.getElem?_append_left hA]
theorem gT_last {A : List Tn} {k : Nat} (hA : A.length = k) (B : List Tn) (j : Nat) : gT (A ++ B) (k + j) = (B[j]?).getD ([], []) := by
  unfold gT; rw [List.getElem?_append_right (by omega)]; congr 2; omega
theorem gT_left {A : List Tn} {i : Nat} (hA : i < A.length) (B : List Tn) : gT (A ++ B) i = gT A i := by
  unfold gT; rw [List.getElem?_append_left hA]
theorem shapes_more {l : List Nd} (h0 : 0 < l.length) (h20 : l.length ≤ 20) : (shapesF (more l)).2 = (shapesF l).2 := by
  have hc := checkG_more h0 h20
  unfold shapesF
  rw [hc]
  split
  · unfold more
    rw [shapesL_append]
    split
    · rename_i hz
      obtain ⟨q1, q2, _⟩ := shapesL_len l [] hz
      have hk := shapesL_check l [] rfl hz
      generalize hA : (shapesL l []).1 = A at *
      have hAl : A.length = l.length := by simpa using q1
      have e0 : (((l.length : Int) - 1)) = ((l.length - 1 : Nat) : Int) := by omega
      have e1 : ((l.length : Int) + 1) = ((l.length + 1 : Nat) : Int) := by omega
      have hg := gs_ok hk (l.length - 1)
      rw [e0, e1]
      simp only [shapesL, List.map_cons, List.map_nil]
      generalize hgg : gs A ((l.length - 1 : Nat) : Int) = g at *
      rw [infer_two hg]
      simp only [if_true]
      rw [gs_left (by omega), hgg, infer_one hg]
      simp only [if_true]
      rw [List.append_assoc, gs_last hAl]
      rw [show ((([g] ++ [g] : List (List Int))[1]?).getD []) = g from rfl, infer_one hg]
      simp only [if_true]
      exact Prod.ext q2.symm hz.symm
    · rfl
  · rfl
theorem evAll_other {l : List Nd} {input : Tn} {ps : List Tn} (h0 : 0 < l.length) (h20 : l.length ≤ 20) (hi : I64s input.2) (hp : ∀ x ∈ ps, I64s x.2) (hl : ∀ n ∈ l, I64s n.nums) :
    ((evAll l input ps).2.2 ≠ 0 → (evAll (more l) input ps).2.2 = (evAll l input ps).2.2) ∧
    ((evAll l input ps).2.2 = 0 → (evAll (more l) input ps).2.2 = 0 → ∃ s d nd, checkT s d = true ∧ gT (evAll l input ps).1 (l.length - 1) = (s, d) ∧ (evAll (more l) input ps).1 = (evAll l input ps).1 ++ [(s, List.replicate d.length 0), (s, nd), (s, d)]) := by
  have hm := shapes_more h0 h20
  unfold evAll
  rw [hm]
  by_cases hz : (shapesF l).2.2 = 0
  rotate_left
  · rw [if_neg hz, if_neg hz]; exact ⟨fun _ => rfl, fun h => absurd h hz⟩
  rw [if_pos hz, if_pos hz]
  unfold more
  rw [evLst_append]
  by_cases hy : (evLst input ps l []).2.2 = 0
  rotate_left
  · rw [if_neg hy]; exact ⟨fun _ => rfl, fun h => absurd h hy⟩
  rw [if_pos hy]
  refine ⟨fun h => absurd hy h, fun _ => ?_⟩
  obtain ⟨q1, _, _⟩ := evLst_len input ps l [] hy
  have hr := evLst_range hi hp l [] hl (fun x hx => absurd hx List.not_mem_nil)
  generalize (evLst input ps l []).1 = A at *
  have hAl : A.length = l.length := by simpa using q1
  have hx := gT_range hr (l.length - 1)
  have e0 : (((l.length : Int) - 1)) = ((l.length - 1 : Nat) : Int) := by omega
  have e1 : ((l.length : Int) + 1) = ((l.length + 1 : Nat) : Int) := by omega
  rw [e0, e1]
  simp only [evLst, List.map_cons, List.map_nil, Int.toNat_natCast]
  generalize hgg : gT A (l.length - 1) = x at *
  obtain ⟨s, d⟩ := x
  intro h
  by_cases h1 : (nodeF ⟨11, [((l.length - 1 : Nat) : Int), ((l.length - 1 : Nat) : Int)], []⟩ [(s, d), (s, d)] input ps).2 = 0
  rotate_left
  · rw [if_neg h1] at h; exact absurd h h1
  rw [if_pos h1] at h ⊢
  obtain ⟨w1, w2, _⟩ := nodeF_ok h1
  have hck : checkT s d = true := by simpa using w1
  have hcs := (checkT_iff.1 hck).1
  have n1 : ∀ zs, nodeF ⟨11, zs, []⟩ [(s, d), (s, d)] input ps = ((s, List.replicate d.length 0), 0) := fun zs => by
    have ev : evF 11 [(s, d), (s, d)] [] = twoF fSub s d s d := rfl
    unfold nodeF
    simp only [List.map_cons, List.map_nil]
    rw [if_pos w1, infer_two (checkS_iff.2 hcs), if_pos rfl, if_neg (by decide), if_neg (by decide), if_neg (by decide), ev, sub_self hck, full_is 0 (checkS_iff.2 hcs)]
    have : (sizeS s).toNat = d.length := by have := (checkT_iff.1 hck).2; have := sizeS_ok hcs; omega
    rw [this]
  rw [n1] at h ⊢
  simp only at h ⊢
  have nn : ∀ (zs : List Int) (y : List Int), checkT s y = true → nodeF ⟨20, zs, []⟩ [(s, y)] input ps = oneF fNeg s y := fun zs y hy => by
    have ev : evF 20 [(s, y)] [] = oneF fNeg s y := rfl
    unfold nodeF
    simp only [List.map_cons, List.map_nil]
    rw [if_pos (by simp [hy]), infer_one (checkS_iff.2 hcs), if_pos rfl, if_neg (by decide), if_neg (by decide), if_neg (by decide), ev]
  rw [gT_left (by omega), hgg, nn _ d hck] at h ⊢
  by_cases h2 : (oneF fNeg s d).2 = 0
  rotate_left
  · rw [if_neg h2] at h; exact absurd h h2
  obtain ⟨nd, p1, p2, p3⟩ := neg_neg_map hx h2
  rw [p1] at h ⊢
  simp only [if_true] at h ⊢
  have hcn : checkT s nd = true := by
    have : checkT s nd = true ∨ (oneF fNeg s nd).2 = 30 := by
      unfold oneF
      cases hc : checkT s nd
      · right; simp [bad]
      · left; rfl
    rcases this with h | h
    · exact h
    · rw [p3] at h; simp at h
  rw [List.append_assoc, gT_last hAl, show ((([((s, List.replicate d.length 0) : Tn)] ++ [((s, nd) : Tn)] : List Tn)[1]?).getD ([], [])) = (s, nd) from rfl, nn _ nd hcn, p3]
  exact ⟨s, d, nd, hck, rfl, by simp⟩
end Go.AM

