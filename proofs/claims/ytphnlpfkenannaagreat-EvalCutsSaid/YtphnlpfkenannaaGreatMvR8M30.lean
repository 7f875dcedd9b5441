import Derived.Test.YtphnlpfkenannaaGreatMv30
set_option linter.unusedVariables false
set_option linter.unusedSimpArgs false
namespace Go.AM
open Go Go.Proofs
set_option maxRecDepth 100000
set_option maxHeartbeats 16000000

theorem node_args (R : List Tn) (args : List Int) (j : Nat) (h : j < args.length) (acc : List Tn) (hacc : acc = (args.take j).map (fun a => gT R a.toNat)) : acc ++ [gT R args[j].toNat] = (args.take (j + 1)).map (fun a => gT R a.toNat) := by
  rw [List.take_add_one, List.getElem?_eq_getElem h, List.map_append, hacc]; rfl
theorem p_EvalCuts (l : List Nd) (input : Tn) (ps : List Tn) (n : Nat) (hn256 : n < 256) (hi64 : I64s input.2) (hp64 : ∀ x ∈ ps, I64s x.2) (hn64 : ∀ n ∈ l, I64s n.nums) :
    PureC Tryz.prog fi_fullerlaw13_EvalCuts [dNds l, dT input.1 input.2, dTs ps, .one (.int .u8 n)] (dB true) := by
  refine pure_fullerlaw13_EvalCuts (by simp) fun G hP hn => ?_
  refine T_wf 0 fun h00 => ?_
  refine T_wf 2 fun h20 => ?_
  have h0 : l.length ≤ MaxN := by simpa using wf_rows (rows := l.map rNd) h00
  have h2 : ps.length ≤ MaxN := by simpa using wf_rows (rows := rTn ps) h20
  clear h00 h20
  have hM : MaxN = 140737488355328 := rfl
  have kf := p_ref10_Few l h0
  have kg := p_few13 input ps h2
  cases f1 : fewN l
  · rw [f1] at kf
    refine go trivial (aa @p_awake13 kf) ?_
    exact ends_ret rfl rfl rfl rfl
  rw [f1] at kf
  cases f2 : (fewT input.1 input.2 && fewTs 10 ps)
  · rw [f2] at kg
    refine go trivial (aa @p_awake13 <| aa kf kg) ?_
    exact ends_ret rfl rfl rfl rfl
  rw [f2] at kg
  obtain ⟨hl2, hl30⟩ := fewN_iff f1
  have hlA : ∀ n ∈ l, n.args.length ≤ MaxN := fun n hn => by have := (hl2 n hn).1; omega
  have kA := p_eval_All l input ps h0 hlA h2 hi64 hp64 hn64
  by_cases hz : (evAll l input ps).2.2 = 0
  rotate_left
  · obtain ⟨q1, q2⟩ := evAll_bad hz
    have e1 : ((evAll l input ps).2.2 != 0) = true := by simp [hz]
    rw [q1] at kA
    generalize evAll l input ps = R at *
    refine go (aa e1 q2) (aa @p_awake13 <| aa kf <| aa kg kA) ?_
    exact ends_ret rfl rfl rfl rfl
  obtain ⟨s1, _, s3, s4⟩ := evAll_ok hz
  obtain ⟨hck, _, t3, t4⟩ := shapesF_ok s1
  have hsh := evAll_shapes hz
  have kS := p_infer_Shapes l h0 hlA
  rw [s1, t4, hsh] at kS
  rw [s4, hz] at kA
  have hpos : 0 < l.length := by
    unfold checkG at hck
    simp only [Bool.and_eq_true, decide_eq_true_eq] at hck
    exact hck.2.1
  obtain ⟨K, hK, hKl, hK1⟩ : ∃ K, K = 1 + n % l.length ∧ K ≤ l.length ∧ 1 ≤ K := ⟨_, rfl, by have := Nat.mod_lt n hpos; omega, by omega⟩
  have hT := evAll_take (input := input) (ps := ps) hz hK1 hKl
  have kT := p_eval_All (l.take K) input ps (by rw [List.length_take]; omega) (fun n hn => hlA n (List.mem_of_mem_take hn)) h2 hi64 hp64 (fun n hn => hn64 n (List.mem_of_mem_take hn))
  rw [hT] at kT
  have hnode := fun (i : Nat) (hi : i < l.length) => evAll_node hz hi (checkG_args hck hi).1
  have hkm : K - 1 < l.length := by omega
  have hnd := hnode (K - 1) hkm
  have hrg : ∀ x ∈ (evAll l input ps).1, I64s x.2 := by
    rw [(evAll_ok hz).2.1]; exact evLst_range hi64 hp64 l [] hn64 (fun x hx => absurd hx List.not_mem_nil)
  have hargs := checkG_args hck hkm
  obtain ⟨hb, kk, hk, hkl, _⟩ := hargs
  have ha2 := arity_le hk hkl
  have hxl := nd_some hkm
  generalize hndv : l[K - 1] = nd at *
  obtain ⟨op, args, nums⟩ := nd
  simp only at hb ha2 hnd
  clear hk hkl hnode hT hsh s1 s4 t3 t4 hck hz hl2 hlA f1 f2 hn64
  generalize (evAll l input ps).1 = R at *
  have hRl : R.length = l.length := s3
  have ksame := c_sameTs (R.take K) (by rw [List.length_take]; omega)
  have kN := p_eval_Node ⟨op, args, nums⟩ (args.map fun a => gT R a.toNat) input ps (by rw [List.length_map]; omega) (fun x hx => by
    obtain ⟨a, _, rfl⟩ := List.mem_map.1 hx
    exact gT_range hrg _) h2
  rw [hnd] at kN
  have kfin := c_sameT (gT R (K - 1)).1 (gT R (K - 1)).2
  obtain ⟨i1, i2⟩ := input
  simp only at kN kT kA kg
  -- facts of numbers
  have m1 : (max 1 (l.length : Int)) = (l.length : Int) := by omega
  have m2 : ((n : Int).tmod (l.length : Int)) = ((n % l.length : Nat) : Int) := by rw [Int.tmod_eq_emod_of_nonneg (by omega)]; rfl
  have m3 : IntKind.i64.wrap ((n % l.length : Nat) : Int) = ((n % l.length : Nat) : Int) := by have := Nat.mod_lt n hpos; exact wrap_in (by omega) (by omega)
  have m4 : IntKind.i64.wrap (1 + ((n % l.length : Nat) : Int)) = (K : Int) := by
    have e : (1 : Int) + ((n % l.length : Nat) : Int) = ((1 + n % l.length : Nat) : Int) := by rw [Int.natCast_add]; rfl
    rw [e, ← hK]; exact wrap_in (by omega) (by omega)
  have m5 : IntKind.i64.wrap (n : Int) = (n : Int) := wrap_in (by omega) (by omega)
  have m6 : ((l.length : Int) == 0) = false := by rw [beq_eq_false_iff_ne]; omega
  have m6' : ¬ (l.length : Int) = 0 := by omega
  have m7 : IntKind.i64.wrap ((K : Int) - 1) = ((K - 1 : Nat) : Int) := by rw [wrap_in (by omega) (by omega)]; omega
  have e2 : ((R.length : Int) != (l.length : Int)) = false := by simp [hRl]
  have e3 : ((l.length : Int) != (l.length : Int)) = false := by simp
  have e4 : ¬ (K : Int) > (l.length : Int) := by omega
  have g1 : (K : Int) ≤ (l.length : Int) := by omega
  have g2 : (0 : Int) ≤ (K : Int) := by omega
  have tk1 : List.take K (l.map rNd) = (l.take K).map rNd := by rw [List.map_take]
  have tk2 : List.take K (rTn R) = rTn (R.take K) := (List.map_take ..).symm
  have tl : ((R.take K).length : Int) = (K : Int) := by rw [List.length_take]; omega
  have e5 : ((K : Int) != (K : Int)) = false := by simp
  have al3 : (l.map rNd).all (fun r => r.length == 3) = true := by simp
  have al2 : (rTn R).all (fun r => r.length == 2) = true := by simp
  have g3 : (K : Int) ≤ (R.length : Int) := by omega
  refine go (aa m1 <| aa m2 <| aa m3 <| aa m4 <| aa m5 <| aa m6 <| aa m6' <| aa e2 <| aa e3 <| aa e4 <| aa e5 <| aa g1 <| aa g2 <| aa g3 <| aa @tk1 <| aa @tk2 <| aa @tl <| aa @al3 <| aa @al2 hRl) (aa @p_awake13 <| aa kf <| aa kg <| aa kA <| aa kS <| aa kT ksame) ?_
  clear m1 m2 m3 m4 m5 m6 m6' e2 e3 e4 e5 tk1 tk2 tl al3 al2 kT kS kA ksame kf
  refine T_for l.length (fun i (_ : Unit) => { env := [(0, .one (.p (.sl (l.map rNd)))), (2, .one (.p (.sl (rTn ps)))), (5, .one (.ptr 5 0 2 0)), (9, .one (.p (.bool true))), (10, .one (.p (.sl (rTn R)))), (11, .one (.p (.int .i64 (-1)))), (13, .one (.p (.sl (rS (R.map (·.1)))))), (16, .one (.p (.int .i64 K))), (20, .one (.p (.int .i64 i)))], σ := [(5, .cells true [.p (eI i1), .p (eI i2)])] })
    (fun _ _ => True) () trivial (.refl _ _) fun i _ hi _ => ?_
  by_cases hlt : i < l.length
  · have c1 : (i : Int) < l.length := by omega
    have w1 : IntKind.i64.wrap ((i : Int) + 1) = ((i + 1 : Nat) : Int) := by rw [wrap_in (by omega) (by omega)]; rfl
    have hx := gT_some (ps := R) (p := i) (by omega)
    have ks := c_same' (gT R i).1
    have c2 : (i : Int) < R.length := by omega
    have c3 : i < R.length := by omega
    generalize gT R i = q at *
    refine go (aa c1 <| aa w1 <| aa hx <| aa c2 c3) ks ?_
    exact rnd_next hlt () trivial (.refl _ _)
  obtain rfl : i = l.length := by omega
  have c1 : ¬ (l.length : Int) < l.length := by omega
  refine go c1 trivial ?_
  refine T_nils 21 100 2 rfl rfl rfl ?_
  have n1 : ((K - 1 : Nat) : Int) < (l.length : Int) := by omega
  have n2 : ((K - 1 : Nat) : Int) < (R.length : Int) := by omega
  refine T_for args.length (fun j (acc : List Tn) => { env := [(0, .one (.p (.sl (l.map rNd)))), (2, .one (.p (.sl (rTn ps)))), (5, .one (.ptr 5 0 2 0)), (9, .one (.p (.bool true))), (10, .one (.p (.sl (rTn R)))), (11, .one (.p (.int .i64 (-1)))), (16, .one (.p (.int .i64 K))), (21, .one (.msl 100 0 2 j none)), (22, .one (.p (.int .i64 j)))], σ := [(5, .cells true [.p (eI i1), .p (eI i2)]), (100, .arr true 2 (rTn acc))] })
    (fun j acc => acc = (args.take j).map (fun a => gT R a.toNat)) [] (by simp) ?_ fun j acc hj hacc => ?_
  · refine (Weak.pick [0, 2, 5, 9, 10, 11, 16, 21, 22]).trans (Weak.sub fun q hq => ?_)
    simp only [List.mem_cons, List.not_mem_nil, or_false] at hq
    rcases hq with rfl | rfl <;> rfl
  have hal : acc.length = j := by rw [hacc, List.length_map, List.length_take]; omega
  by_cases hlj : j < args.length
  · have d1 : (j : Int) < args.length := by omega
    have v1 : IntKind.i64.wrap ((j : Int) + 1) = ((j + 1 : Nat) : Int) := by rw [wrap_in (by omega) (by omega)]; rfl
    have ha := hb args[j] (List.getElem_mem hlj)
    obtain ⟨m, hm⟩ := Int.eq_ofNat_of_zero_le ha.1
    have hy : args[j]? = some (m : Int) := by rw [List.getElem?_eq_getElem hlj, hm]
    have hmi : m < R.length := by omega
    have d2 : (m : Int) < R.length := by omega
    have hg := gT_some (ps := R) (p := m) (by omega)
    have hn1 := node_args R args j hlj acc hacc
    rw [hm, Int.toNat_natCast] at hn1
    have c4 : (j + 1) * 48 ≤ 2 ^ 40 := by omega
    have c5 : j + 1 ≤ 2 ^ 40 := by omega
    generalize gT R m = z at *
    refine go (aa d1 <| aa v1 <| aa hlj <| aa hy <| aa hmi <| aa d2 <| aa hg <| aa hal <| aa c4 <| aa c5 <| aa m7 <| aa n1 <| aa hxl hkm) trivial ?_
    refine rnd_next hlj (acc ++ [z]) hn1 (Weak.sub fun q hq => ?_)
    simp only [List.mem_cons, List.not_mem_nil, or_false] at hq
    rcases hq with rfl | rfl
    · rfl
    · simp [lo, rTn]
  obtain rfl : j = args.length := by omega
  rw [List.take_length] at hacc
  rw [← hacc] at kN
  have d1 : ¬ (args.length : Int) < args.length := by omega
  have hy := gT_some (ps := R) (p := K - 1) (by omega)
  have n3 : K - 1 < R.length := by omega
  refine T_weak (Weak.freeze (i := 21) rfl (toD_list (n := 5) rfl (by simp [hal]))) ?_
  simp only [lo, Nat.reduceEqDiff, if_true, if_false, if_pos]
  generalize gT R (K - 1) = z at *
  refine go (aa d1 <| aa m7 <| aa n1 <| aa n2 <| aa n3 <| aa hxl <| aa hkm hy) (aa kN kfin) ?_
  exact ends_ret rfl rfl rfl rfl
end Go.AM

