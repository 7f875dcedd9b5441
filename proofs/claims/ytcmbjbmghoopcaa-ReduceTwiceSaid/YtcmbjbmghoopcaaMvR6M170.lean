import Derived.Test.YtcmbjbmghoopcaaMv5
set_option linter.unusedVariables false
set_option linter.unusedSimpArgs false
namespace Go.AM
open Go Go.Proofs
set_option maxRecDepth 100000
set_option maxHeartbeats 4000000

theorem p_ReduceTwice (s d : List Int) (hd : I64s d) : PureC Try.prog fi_fullerlaw06_ReduceTwice [dT s d] (dB true) := by
  refine pure_fullerlaw06_ReduceTwice (by simp) fun G hP hn => ?_
  cases f1 : fewT s d
  · refine go f1 (aa @p_awake6 @p_ref03_Few) ?_
    exact ends_ret rfl rfl rfl rfl
  have kc := p_tensor_Check s d
  cases hc : checkT s d
  · rw [hc] at kc
    refine go f1 (aa @p_awake6 <| aa @p_ref03_Few kc) ?_
    exact ends_ret rfl rfl rfl rfl
  rw [hc] at kc
  by_cases h2 : s.length = 2
  rotate_left
  · have e2 : ((s.length : Int) != 2) = true := by simp; omega
    refine go (aa f1 e2) (aa @p_awake6 <| aa @p_ref03_Few kc) ?_
    exact ends_ret rfl rfl rfl rfl
  have e2 : ((s.length : Int) != 2) = false := by simp [h2]
  have hdl := (checkT_iff.1 hc).2
  have hd64 := (checkT_iff.1 hc).1.2.2
  refine go (aa f1 e2) (aa @p_awake6 <| aa @p_ref03_Few kc) ?_
  refine T_for d.length (fun i (_ : Unit) => { env := [(1, .one (.ptr 1 0 2 0)), (3, .one (.p (.bool true))), (4, .one (.p (.int .i64 i)))], σ := [(1, .cells true [.p (eI s), .p (eI d)])] })
    (fun i _ => ∀ j, j < i → -1099511627776 ≤ gt d j ∧ gt d j ≤ 1099511627776) () (fun j hj => by omega) (.refl _ _) fun i _ hi hinv => ?_
  by_cases hlt : i < d.length
  · have c1 : (i : Int) < d.length := by omega
    have w1 : IntKind.i64.wrap ((i : Int) + 1) = ((i + 1 : Nat) : Int) := by rw [wrap_in (by omega) (by omega)]; rfl
    have hx := gt_at hlt
    by_cases x1 : gt d i < -1099511627776
    · generalize gt d i = x at *
      refine go (aa c1 <| aa hx <| aa hlt x1) trivial ?_
      exact ends_ret rfl rfl rfl rfl
    · by_cases x2 : gt d i > 1099511627776
      · generalize gt d i = x at *
        refine go (aa c1 <| aa hx <| aa hlt <| aa x1 x2) trivial ?_
        exact ends_ret rfl rfl rfl rfl
      · have hnx : ∀ j, j < i + 1 → -1099511627776 ≤ gt d j ∧ gt d j ≤ 1099511627776 := fun j hj => by
          by_cases hji : j = i
          · subst hji; omega
          · exact hinv j (by omega)
        generalize gt d i = x at *
        refine go (aa c1 <| aa hx <| aa hlt <| aa x1 <| aa x2 w1) trivial ?_
        exact rnd_next hlt () hnx (.refl _ _)
  have c1 : ¬ (i : Int) < d.length := by omega
  have hsm : Sm d := fun j => by
    by_cases hj : j < i
    · exact hinv j hj
    · have : gt d j = 0 := by unfold gt; rw [List.getElem?_eq_none (by omega)]; rfl
      omega
  obtain ⟨S, T, rfl⟩ : ∃ S T, s = [S, T] := match s, h2 with | [S, T], _ => ⟨S, T, rfl⟩
  obtain ⟨a, b, x, y, r, u, v, q, s0, s1, s2, s3, m0, m1, m2, m3, ix, iy, iu, iv⟩ := (twice hc hsm).of
  have k1 := p_reduce_Sum [S, T] d 0 hd
  rw [s0] at k1
  have k2 := p_reduce_Sum [(b : Int)] x 0 ix
  rw [s1] at k2
  have k3 := p_reduce_Sum [S, T] d 1 hd
  rw [s2] at k3
  have k4 := p_reduce_Sum [(a : Int)] y 0 iy
  rw [s3] at k4
  have j1 := p_reduce_Max [S, T] d 0 hd
  rw [m0] at j1
  have j2 := p_reduce_Max [(b : Int)] u 0 iu
  rw [m1] at j2
  have j3 := p_reduce_Max [S, T] d 1 hd
  rw [m2] at j3
  have j4 := p_reduce_Max [(a : Int)] v 0 iv
  rw [m3] at j4
  have g1 := c_sameT [] [r]
  have g2 := c_sameT [] [q]
  refine go c1 trivial ?_
  exact ends_ret rfl rfl rfl rfl
end Go.AM

