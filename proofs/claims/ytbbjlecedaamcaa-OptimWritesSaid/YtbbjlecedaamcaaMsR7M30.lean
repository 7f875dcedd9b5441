/-
  PROVED: 'OptimWrites' returns true for every input, and each argument reads afterwards as it read before ('Rows.OptimWritesSaid').
  CONDITIONS: those of the given row alone.
-/
import Derived.Test.YtbbjlecedaamcaaMs27
set_option linter.unusedVariables false
set_option linter.unusedSimpArgs false

namespace Go.AM
open Go Go.Proofs Go.Proofs.Ytbbjlecedaamcaa
set_option maxRecDepth 100000
set_option linter.unusedSimpArgs false
set_option linter.unusedVariables false

theorem law_optimWrites (xs : List DV) (h : All2 (ArgOk Try.prog) Try.f3.params.toList xs) : PureC Try.prog 3 xs (.one (.bool true)) := by
  rw [Try.params3] at h
  cases h with | cons h1 h => cases h with | cons h2 h => cases h with | cons h3 h => cases h with | cons h4 h => cases h with | cons h5 h => cases h with | nil =>
    obtain ⟨k, r, m, c, rfl, rk, rr, rm, rc⟩ := arg_O h1
    obtain ⟨l, rfl, rl⟩ := arg_I h2
    obtain ⟨ps, rfl, rps⟩ := arg_Ts h3
    obtain ⟨gs, rfl, rgs⟩ := arg_Ts h4
    obtain ⟨os, od, rfl, ros, rod⟩ := arg_T h5
    exact p_OptimWrites k r m c l ps gs os od rr rm rc rl rps rgs rod

theorem lifted_optimWrites (os : Os) (started : os.Started) (H : Type) (enc : TypeId × Value → H) :
    ReturnsInHanded {} Try.checked os 3 .any (Rows.optimWritesSpec.pre6 enc Try.prog Try.f3 Rows.optimWritesRow.domain false) (Rows.optimWritesSpec.post enc Try.prog Try.f3 false true false false) :=
  law_lifted (C := Try.checked) 9 own started (by kernel_rfl) Try.func3
    (ChangeSpec.witness6 (enc := enc) (C := Try.checked) false ⟨#[], #[.agg #[.int .i64 0, .int .i64 0, .int .i64 0, .int .i64 0], .slice none 0 0, .slice none 0 0, .slice none 0 0, .agg #[.slice none 0 0, .slice none 0 0]], []⟩ 8 (by kernel_rfl) (by kernel_rfl) (by kernel_rfl) (by kernel_rfl))
    laidOut (by kernel_rfl) (by kernel_rfl) rfl rfl (by kernel_rfl) (fun ds h => by
      match ds, h with
      | [a, b, c, d, e], _ => rfl) law_optimWrites
end Go.AM
namespace Go.Proofs.Ytbbjlecedaamcaa
open Go
theorem optimWrites_holds : Rows.OptimWritesSaid :=
  OpenClaim.holds_of_wide 3 Try.f3 rfl rfl rfl rfl rfl rfl rfl ⟨rfl, rfl, rfl, rfl, rfl⟩ rfl rfl rfl rfl rfl (by kernel_rfl) Try.func3 (by kernel_rfl)
    (of_decide_eq_true (by kernel_rfl)) (by unfold Func.isWrapper; first | (rw [if_pos (by decide +kernel)]; kernel_rfl) | (rw [if_neg (by decide +kernel)]; exact ⟨rfl, rfl⟩))
    (fun os started H enc _ => Go.AM.lifted_optimWrites os started H enc)
#print axioms optimWrites_holds
end Go.Proofs.Ytbbjlecedaamcaa

