import Derived.Test.YtjefhneggfbjfaaR1Z1T
import Derived.Test.YtjefhneggfbjfaaR1P3T
namespace Go.AM
open Go Go.Proofs
set_option linter.unusedSimpArgs false
set_option linter.unusedVariables false

theorem c_turn {s d : List Int} (h : checkT s d = true) : PureC Try.prog fi_move_Turn [dT s d] (.tup [dT s.reverse (turnD s d), dN 0]) := by
  have := p_move_Turn s d; rw [turnF_ok h] at this; exact this
theorem c_turn2 {s d : List Int} (h : checkT s d = true) : PureC Try.prog fi_move_Turn [dT s.reverse (turnD s d)] (.tup [dT s d, dN 0]) := by
  have := p_move_Turn s.reverse (turnD s d); rw [turn_turn h] at this; exact this

theorem c_at {s d : List Int} (h : checkT s d = true) (x : List Int) : PureC Try.prog fi_tensor_At [dT s.reverse (turnD s d), dI x.reverse] (dNE (atF s d x)) := by
  have := p_tensorAt s.reverse (turnD s d) x.reverse; rw [turnD_at h] at this; exact this
theorem c_sameT (s d : List Int) : PureC Try.prog fi_fullerref03_Same [dT s d, dT s d] (dB true) := by
  have := p_ref03_Same s d s d; rw [sameT_refl] at this; exact this
theorem c_same' (s : List Int) : PureC Try.prog fi_fullerref02_Same [dI s, dI s] (dB true) := by
  have := p_ref02_Same s s; rw [sameL_refl] at this; exact this
theorem c_chk {s d : List Int} (h : checkT s d = true) : PureC Try.prog fi_tensor_Check [dT s.reverse (turnD s d)] (dB true) := by
  have := p_tensor_Check s.reverse (turnD s d); rw [turnD_check h] at this; exact this

theorem c_slice {s d : List Int} {n : Nat} {m f t : Int} (hc : checkT s d = true) (hm : s[n]? = some m) (h : 0 ≤ f ∧ f < t ∧ t ≤ m) :
    PureC Try.prog fi_move_Slice [dT s d, dN n, dN f, dN t] (.tup [dT (s.set n (t - f)) (cutD s d n (t - f) f), dN 0]) := by
  have := p_move_Slice s d n f t; rw [sliceF_ok hc hm h] at this; exact this
theorem c_sliceB {s d : List Int} {n : Nat} {m f t : Int} (hc : checkT s d = true) (hm : s[n]? = some m) (h : ¬ (0 ≤ f ∧ f < t ∧ t ≤ m)) :
    PureC Try.prog fi_move_Slice [dT s d, dN n, dN f, dN t] (.tup [dT [] [], dN 20]) := by
  have := p_move_Slice s d n f t; rw [sliceF_bad hc hm h] at this; exact this

end Go.AM

