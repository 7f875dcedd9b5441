/-
  PROVED: 'MatmulZero' returns true for every input, and each argument reads afterwards as it read before ('Rows.MatmulZeroSaid').
  CONDITIONS: those of the given row alone.
-/
import Derived.Test.YtcmbjbmghoopcaaMqR2M40
set_option linter.unusedVariables false
set_option linter.unusedSimpArgs false

namespace Go.AM
open Go Go.Proofs Go.Proofs.Ytcmbjbmghoopcaa
set_option maxRecDepth 100000
set_option linter.unusedSimpArgs false
set_option linter.unusedVariables false

theorem law_matmulZero (xs : List DV) (h : All2 (ArgOk Try.prog) Try.f6.params.toList xs) : PureC Try.prog 6 xs (.one (.bool true)) := by
  rw [Try.params6] at h
  cases h with | cons h1 h => cases h with | cons h2 h => cases h with | nil =>
    obtain ⟨s, d, rfl, rs, rd⟩ := arg_T h1
    obtain ⟨t, e, rfl, rt, re⟩ := arg_T h2
    exact p_MatmulZero s d t e rd re

theorem lifted_matmulZero (os : Os) (started : os.Started) (H : Type) (enc : TypeId × Value → H) :
    ReturnsInHanded {} Try.checked os 6 .any (Rows.matmulZeroSpec.pre6 enc Try.prog Try.f6 Rows.matmulZeroRow.domain false) (Rows.matmulZeroSpec.post enc Try.prog Try.f6 false true false false) :=
  law_lifted (C := Try.checked) 9 own started (by kernel_rfl) Try.func6
    (ChangeSpec.witness6 (enc := enc) (C := Try.checked) false ⟨#[], #[.agg #[.slice none 0 0, .slice none 0 0], .agg #[.slice none 0 0, .slice none 0 0]], []⟩ 8 (by kernel_rfl) (by kernel_rfl) (by kernel_rfl) (by kernel_rfl))
    laidOut (by kernel_rfl) (by kernel_rfl) rfl rfl (by kernel_rfl) (fun ds h => by
      match ds, h with
      | [a, b], _ => rfl) law_matmulZero
end Go.AM
namespace Go.Proofs.Ytcmbjbmghoopcaa
open Go
theorem matmulZero_holds : Rows.MatmulZeroSaid :=
  OpenClaim.holds_of_wide 6 Try.f6 rfl rfl rfl rfl rfl rfl rfl ⟨rfl, rfl, rfl, rfl, rfl⟩ rfl rfl rfl rfl rfl (by kernel_rfl) Try.func6 (by kernel_rfl)
    (of_decide_eq_true (by kernel_rfl)) (by unfold Func.isWrapper; first | (rw [if_pos (by decide +kernel)]; kernel_rfl) | (rw [if_neg (by decide +kernel)]; exact ⟨rfl, rfl⟩))
    (fun os started H enc _ => Go.AM.lifted_matmulZero os started H enc)
#print axioms matmulZero_holds
end Go.Proofs.Ytcmbjbmghoopcaa

