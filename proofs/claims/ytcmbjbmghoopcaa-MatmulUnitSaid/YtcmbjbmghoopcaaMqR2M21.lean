/-
  PROVED: 'MatmulUnit' returns true for every input, and each argument reads afterwards as it read before ('Rows.MatmulUnitSaid').
  CONDITIONS: those of the given row alone.
-/
import Derived.Test.YtcmbjbmghoopcaaMqR2M20
set_option linter.unusedVariables false
set_option linter.unusedSimpArgs false

namespace Go.AM
open Go Go.Proofs Go.Proofs.Ytcmbjbmghoopcaa
set_option maxRecDepth 100000
set_option linter.unusedSimpArgs false
set_option linter.unusedVariables false

theorem law_matmulUnit (xs : List DV) (h : All2 (ArgOk Try.prog) Try.f4.params.toList xs) : PureC Try.prog 4 xs (.one (.bool true)) := by
  rw [Try.params4] at h
  cases h with | cons h1 h => cases h with | nil =>
    obtain ⟨s, d, rfl, rs, rd⟩ := arg_T h1
    exact p_MatmulUnit s d rd

theorem lifted_matmulUnit (os : Os) (started : os.Started) (H : Type) (enc : TypeId × Value → H) :
    ReturnsInHanded {} Try.checked os 4 .any (Rows.matmulUnitSpec.pre6 enc Try.prog Try.f4 Rows.matmulUnitRow.domain false) (Rows.matmulUnitSpec.post enc Try.prog Try.f4 false true false false) :=
  law_lifted (C := Try.checked) 9 own started (by kernel_rfl) Try.func4
    (ChangeSpec.witness6 (enc := enc) (C := Try.checked) false ⟨#[], #[.agg #[.slice none 0 0, .slice none 0 0]], []⟩ 8 (by kernel_rfl) (by kernel_rfl) (by kernel_rfl) (by kernel_rfl))
    laidOut (by kernel_rfl) (by kernel_rfl) rfl rfl (by kernel_rfl) (fun ds h => by
      match ds, h with
      | [a], _ => rfl) law_matmulUnit
end Go.AM
namespace Go.Proofs.Ytcmbjbmghoopcaa
open Go
theorem matmulUnit_holds : Rows.MatmulUnitSaid :=
  OpenClaim.holds_of_wide 4 Try.f4 rfl rfl rfl rfl rfl rfl rfl ⟨rfl, rfl, rfl, rfl, rfl⟩ rfl rfl rfl rfl rfl (by kernel_rfl) Try.func4 (by kernel_rfl)
    (of_decide_eq_true (by kernel_rfl)) (by unfold Func.isWrapper; first | (rw [if_pos (by decide +kernel)]; kernel_rfl) | (rw [if_neg (by decide +kernel)]; exact ⟨rfl, rfl⟩))
    (fun os started H enc _ => Go.AM.lifted_matmulUnit os started H enc)
#print axioms matmulUnit_holds
end Go.Proofs.Ytcmbjbmghoopcaa

