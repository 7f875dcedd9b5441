import Derived.Test.YtjefhneggfbjfaaR1D
namespace Go.AM
open Go Go.Proofs Go.Proofs.Ytjefhneggfbjfaa
set_option linter.unusedSimpArgs false
set_option linter.unusedVariables false

theorem wf_u8 {n : Int} (h : (Lit.int .u8 n).wf = true) : 0 ≤ n ∧ n < 256 := by
  simp only [Lit.wf, IntKind.has, IntKind.min, IntKind.max, IntKind.bits, IntKind.signed] at h
  simp at h
  omega

theorem arg_U {d : DV} (h : ArgOk Try.prog 5 d) : ∃ n : Int, d = .one (.int .u8 n) ∧ 0 ≤ n ∧ n < 256 := by
  have hu := Try.underlying5
  unfold ArgOk at h
  rw [hu] at h
  obtain ⟨v, rfl, h⟩ := h
  generalize hv : [v] = l at h
  cases h with
  | bool b ht => rw [hu] at ht; cases ht
  | int n ht hw => rw [hu] at ht; cases ht; cases hv; exact ⟨n, rfl, wf_u8 hw⟩
  | str s ht => rw [hu] at ht; cases ht
  | sl rows ht h => rw [hu] at ht; cases ht
  | st parts ht h => rw [hu] at ht; cases ht
end Go.AM
