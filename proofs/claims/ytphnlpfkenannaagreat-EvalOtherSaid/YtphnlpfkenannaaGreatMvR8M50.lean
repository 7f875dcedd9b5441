import Derived.Test.YtphnlpfkenannaaGreatMv30
set_option linter.unusedVariables false
set_option linter.unusedSimpArgs false
namespace Go.AM
open Go Go.Proofs
set_option maxRecDepth 100000
set_option maxHeartbeats 16000000

theorem more_ok {l : List Nd} (hl : ∀ n ∈ l, n.args.length ≤ MaxN) : ∀ n ∈ more l, n.args.length ≤ MaxN := fun n hn => by
  have hM : MaxN = 140737488355328 := rfl
  unfold more at hn
  rcases List.mem_append.1 hn with hn | hn
  · exact hl n hn
  · simp only [List.mem_cons, List.not_mem_nil, or_false] at hn
    rcases hn with rfl | rfl | rfl
    · show 2 ≤ _; omega
    · show 1 ≤ _; omega
    · show 1 ≤ _; omega
theorem more_64 {l : List Nd} (hl : ∀ n ∈ l, I64s n.nums) : ∀ n ∈ more l, I64s n.nums := fun n hn => by
  unfold more at hn
  rcases List.mem_append.1 hn with hn | hn
  · exact hl n hn
  · simp only [List.mem_cons, List.not_mem_nil, or_false] at hn
    rcases hn with rfl | rfl | rfl <;> exact I64s.nil
theorem p_EvalOther (l : List Nd) (input : Tn) (ps : List Tn) (hi64 : I64s input.2) (hp64 : ∀ x ∈ ps, I64s x.2) (hn64 : ∀ n ∈ l, I64s n.nums) :
    PureC Tryz.prog fi_fullerlaw13_EvalOther [dNds l, dT input.1 input.2, dTs ps] (dB true) := by
  refine pure_fullerlaw13_EvalOther (by simp) fun G hP hn => ?_
  refine T_wf 0 fun h00 => ?_
  refine T_wf 2 fun h20 => ?_
  have h0 : l.length ≤ MaxN := by simpa using wf_rows (rows := l.map rNd) h00
  have h2 : ps.length ≤ MaxN := by simpa using wf_rows (rows := rTn ps) h20
  clear h00 h20
  have hM : MaxN = 140737488355328 := rfl
  have kf := p_ref10_Few l h0
  have kg := p_few13 input ps h2
  cases f1 : fewN l
  · rw [f1] at kf
    refine go trivial (aa @p_awake13 kf) ?_
    exact ends_ret rfl rfl rfl rfl
  rw [f1] at kf
  cases f2 : (fewT input.1 input.2 && fewTs 10 ps)
  · rw [f2] at kg
    refine go trivial (aa @p_awake13 <| aa kf kg) ?_
    exact ends_ret rfl rfl rfl rfl
  rw [f2] at kg
  by_cases f3 : (l.length : Int) > 20
  · refine go f3 (aa @p_awake13 <| aa kf kg) ?_
    exact ends_ret rfl rfl rfl rfl
  by_cases f4 : l.length = 0
  · have q4 : ((l.length : Int) == 0) = true := by simp [f4]
    refine go (aa f3 q4) (aa @p_awake13 <| aa kf kg) ?_
    exact ends_ret rfl rfl rfl rfl
  have q4 : ((l.length : Int) == 0) = false := by rw [beq_eq_false_iff_ne]; omega
  obtain ⟨hl2, hl30⟩ := fewN_iff f1
  have hlA : ∀ n ∈ l, n.args.length ≤ MaxN := fun n hn => by have := (hl2 n hn).1; omega
  have kA := p_eval_All l input ps h0 hlA h2 hi64 hp64 hn64
  have hml : (more l).length = l.length + 3 := by unfold more; simp
  have kB := p_eval_All (more l) input ps (by omega) (more_ok hlA) h2 hi64 hp64 (more_64 hn64)
  obtain ⟨ho1, ho2⟩ := evAll_other (input := input) (ps := ps) (l := l) (by omega) (by omega) hi64 hp64 hn64
  have hok := fun (h : (evAll l input ps).2.2 = 0) => (evAll_ok h).2.2.1
  have hmr : (more l).map rNd = l.map rNd ++ [[.int .i64 11, .sl [[.int .i64 ((l.length : Int) - 1)], [.int .i64 ((l.length : Int) - 1)]], .sl []], [.int .i64 20, .sl [[.int .i64 ((l.length : Int) - 1)]], .sl []], [.int .i64 20, .sl [[.int .i64 ((l.length : Int) + 1)]], .sl []]] := by unfold more; rw [List.map_append]; rfl
  have kB' : PureC Tryz.prog fi_eval_All [.one (.sl ((more l).map rNd)), dT input.1 input.2, dTs ps] (.tup [dTs (evAll (more l) input ps).1, dN (evAll (more l) input ps).2.1, dN (evAll (more l) input ps).2.2]) := kB
  rw [hmr] at kB'
  clear kB hl2 hlA f1 f2 hn64 hml hmr
  have w1 : IntKind.i64.wrap ((l.length : Int) - 1) = (l.length : Int) - 1 := wrap_in (by omega) (by omega)
  have w2 : IntKind.i64.wrap ((l.length : Int) + 1) = (l.length : Int) + 1 := wrap_in (by omega) (by omega)
  have w3 : IntKind.i64.wrap ((l.length : Int) + 3) = (l.length : Int) + 3 := wrap_in (by omega) (by omega)
  have w4 : IntKind.i64.wrap ((l.length : Int) + 2) = (l.length : Int) + 2 := wrap_in (by omega) (by omega)
  have al3 : (l.map rNd).all (fun r => r.length == 3) = true := by simp
  have b1 : (l.length + 3) * 56 ≤ 2 ^ 40 := by omega
  have b2 : l.length + 3 ≤ 2 ^ 40 := by omega
  have b3 : l.length * 56 ≤ 2 ^ 40 := by omega
  have b4 : l.length ≤ 2 ^ 40 := by omega
  obtain ⟨i1, i2⟩ := input
  simp only at kA kB' kg
  generalize evAll l (i1, i2) ps = A at *
  generalize evAll (more l) (i1, i2) ps = B at *
  obtain ⟨A1, A2, A3⟩ := A
  obtain ⟨B1, B2, B3⟩ := B
  simp only at ho1 ho2 hok kA kB'
  refine goL (aa f3 <| aa q4 <| aa w1 <| aa w2 <| aa @al3 <| aa b1 <| aa b2 <| aa b3 b4) (aa @p_awake13 <| aa kf <| aa kg kA) ?_
  refine T_weak (Weak.freeze (i := 9) rfl (toD_list (n := 5) rfl (by simp))) ?_
  simp only [lo, Nat.reduceEqDiff, if_true, if_false, if_pos]
  generalize l.map rNd ++ [[.int .i64 11, .sl [[.int .i64 ((l.length : Int) - 1)], [.int .i64 ((l.length : Int) - 1)]], .sl []], [.int .i64 20, .sl [[.int .i64 ((l.length : Int) - 1)]], .sl []], [.int .i64 20, .sl [[.int .i64 ((l.length : Int) + 1)]], .sl []]] = M at *
  by_cases hz : A3 = 0
  rotate_left
  · have hB := ho1 hz
    subst hB
    have e1 : (B3 != 0) = true := by simp [hz]
    have e2 : (B3 == 0) = false := by simp [hz]
    refine go (aa e1 e2) kB' ?_
    exact ends_ret rfl rfl rfl rfl
  subst hz
  by_cases hb : B3 = 0
  rotate_left
  · have e1 : (B3 != 0) = true := by simp [hb]
    refine go e1 kB' ?_
    exact ends_ret rfl rfl rfl rfl
  subst hb
  obtain ⟨s, d, nd, hck, g1, g2⟩ := ho2 rfl rfl
  have hd64 : d.length ≤ 64 := by have := (checkT_iff.1 hck).1.2.2; have := (checkT_iff.1 hck).2; omega
  have hAl : A1.length = l.length := hok rfl
  have hBl : B1.length = l.length + 3 := by rw [g2, List.length_append, hAl]; rfl
  have x1 : A1[l.length - 1]? = some (s, d) := by rw [gT_some (ps := A1) (by omega), g1]
  have x2 : B1[l.length]? = some (s, List.replicate d.length 0) := by rw [g2, List.getElem?_append_right (by omega), hAl, Nat.sub_self]; rfl
  have x3 : B1[l.length + 2]? = some (s, d) := by rw [g2, List.getElem?_append_right (by omega), hAl, Nat.add_sub_cancel_left]; rfl
  have kS := c_sameT s d
  have hZl : (List.replicate d.length (0 : Int)).length = d.length := List.length_replicate
  have hZ : ∀ i, i < d.length → (List.replicate d.length (0 : Int))[i]? = some 0 := fun i hi => by rw [List.getElem?_replicate, if_pos hi]
  generalize List.replicate d.length (0 : Int) = Z at *
  clear g1 g2 ho1 ho2 hok w1 w2 w3 w4 al3 b1 b2 b3 b4
  have v0 : ((l.length : Int) != (l.length : Int)) = false := by simp
  have v1 : IntKind.i64.wrap ((l.length : Int) - 1) = ((l.length - 1 : Nat) : Int) := by rw [wrap_in (by omega) (by omega)]; omega
  have v2 : IntKind.i64.wrap ((l.length : Int) + 2) = ((l.length + 2 : Nat) : Int) := by rw [wrap_in (by omega) (by omega)]; rfl
  have v3 : IntKind.i64.wrap ((l.length : Int) + 3) = ((l.length + 3 : Nat) : Int) := by rw [wrap_in (by omega) (by omega)]; rfl
  have v4 : (((l.length + 3 : Nat) : Int) != ((l.length + 3 : Nat) : Int)) = false := by simp
  have y1 : ((l.length - 1 : Nat) : Int) < (l.length : Int) := by omega
  have y2 : (l.length : Int) < ((l.length + 3 : Nat) : Int) := by omega
  have y3 : ((l.length + 2 : Nat) : Int) < ((l.length + 3 : Nat) : Int) := by omega
  have z1 : l.length - 1 < l.length := by omega
  have z2 : l.length < l.length + 3 := by omega
  have z3 : l.length + 2 < l.length + 3 := by omega
  refine go (aa v0 <| aa v3 <| aa v4 <| aa hAl hBl) kB' ?_
  refine T_for d.length (fun i (_ : Unit) => { env := [(7, .one (.p (.bool true))), (8, .one (.p (.int .i64 l.length))), (10, .one (.p (.sl (rTn A1)))), (13, .one (.p (.sl (rTn B1)))), (16, .one (.p (.int .i64 i)))], σ := [] })
    (fun _ _ => True) () trivial ?_ fun i _ hi _ => ?_
  · refine Weak.sub fun q hq => ?_
    exact absurd hq List.not_mem_nil
  by_cases hlt : i < d.length
  · have c1 : (i : Int) < d.length := by omega
    have w1 : IntKind.i64.wrap ((i : Int) + 1) = ((i + 1 : Nat) : Int) := by
      rw [wrap_in (by omega) (by omega)]; rfl
    have hx := hZ i hlt
    have c2 : i < Z.length := by omega
    refine go (aa c1 <| aa w1 <| aa hx <| aa c2 <| aa hZl <| aa hBl <| aa x2 <| aa y2 z2) trivial ?_
    exact rnd_next hlt () trivial (Weak.sub fun q hq => absurd hq List.not_mem_nil)
  obtain rfl : i = d.length := by omega
  have c1 : ¬ (d.length : Int) < d.length := by omega
  refine go (aa c1 <| aa hZl <| aa hBl <| aa hAl <| aa x1 <| aa x2 <| aa x3 <| aa v1 <| aa v2 <| aa y1 <| aa y2 <| aa y3 <| aa z1 <| aa z2 z3) kS ?_
  exact ends_ret rfl rfl rfl rfl
end Go.AM

