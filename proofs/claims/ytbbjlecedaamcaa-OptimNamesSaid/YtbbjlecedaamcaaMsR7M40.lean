/-
  PROVED: 'OptimNames' returns true for every input, and each argument reads afterwards as it read before ('Rows.OptimNamesSaid').
  CONDITIONS: those of the given row alone.
-/
import Derived.Test.YtbbjlecedaamcaaMs27
set_option linter.unusedVariables false
set_option linter.unusedSimpArgs false

namespace Go.AM
open Go Go.Proofs Go.Proofs.Ytbbjlecedaamcaa
set_option maxRecDepth 100000
set_option linter.unusedSimpArgs false
set_option linter.unusedVariables false

theorem law_optimNames (xs : List DV) (h : All2 (ArgOk Try.prog) Try.f4.params.toList xs) : PureC Try.prog 4 xs (.one (.bool true)) := by
  rw [Try.params4] at h
  cases h with | cons h1 h => cases h with | cons h2 h => cases h with | cons h3 h => cases h with | cons h4 h => cases h with | nil =>
    obtain ⟨k, r, m, c, rfl, rk, rr, rm, rc⟩ := arg_O h1
    obtain ⟨l, rfl, rl⟩ := arg_I h2
    obtain ⟨ps, rfl, rps⟩ := arg_Ts h3
    obtain ⟨gs, rfl, rgs⟩ := arg_Ts h4
    exact p_OptimNames k r m c l ps gs rr rm rc rps rgs

theorem lifted_optimNames (os : Os) (started : os.Started) (H : Type) (enc : TypeId × Value → H) :
    ReturnsInHanded {} Try.checked os 4 .any (Rows.optimNamesSpec.pre6 enc Try.prog Try.f4 Rows.optimNamesRow.domain false) (Rows.optimNamesSpec.post enc Try.prog Try.f4 false true false false) :=
  law_lifted (C := Try.checked) 9 own started (by kernel_rfl) Try.func4
    (ChangeSpec.witness6 (enc := enc) (C := Try.checked) false ⟨#[], #[.agg #[.int .i64 0, .int .i64 0, .int .i64 0, .int .i64 0], .slice none 0 0, .slice none 0 0, .slice none 0 0], []⟩ 8 (by kernel_rfl) (by kernel_rfl) (by kernel_rfl) (by kernel_rfl))
    laidOut (by kernel_rfl) (by kernel_rfl) rfl rfl (by kernel_rfl) (fun ds h => by
      match ds, h with
      | [a, b, c, d], _ => rfl) law_optimNames
end Go.AM
namespace Go.Proofs.Ytbbjlecedaamcaa
open Go
theorem optimNames_holds : Rows.OptimNamesSaid :=
  OpenClaim.holds_of_wide 4 Try.f4 rfl rfl rfl rfl rfl rfl rfl ⟨rfl, rfl, rfl, rfl, rfl⟩ rfl rfl rfl rfl rfl (by kernel_rfl) Try.func4 (by kernel_rfl)
    (of_decide_eq_true (by kernel_rfl)) (by unfold Func.isWrapper; first | (rw [if_pos (by decide +kernel)]; kernel_rfl) | (rw [if_neg (by decide +kernel)]; exact ⟨rfl, rfl⟩))
    (fun os started H enc _ => Go.AM.lifted_optimNames os started H enc)
#print axioms optimNames_holds
end Go.Proofs.Ytbbjlecedaamcaa

