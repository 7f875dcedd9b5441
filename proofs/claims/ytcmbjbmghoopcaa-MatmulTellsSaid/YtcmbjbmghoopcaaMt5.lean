/-
  PROVED: 'MatmulTells' returns true for every input, and each argument reads afterwards as it read before ('Rows.MatmulTellsSaid').
  CONDITIONS: those of the given row alone.
-/
import Derived.Test.YtcmbjbmghoopcaaMt4
set_option linter.unusedVariables false
set_option linter.unusedSimpArgs false

namespace Go.AM
open Go Go.Proofs Go.Proofs.Ytcmbjbmghoopcaa
set_option maxRecDepth 100000
set_option linter.unusedSimpArgs false
set_option linter.unusedVariables false

theorem law_matmulTells (xs : List DV) (h : All2 (ArgOk Try.prog) Try.f3.params.toList xs) : PureC Try.prog 3 xs (.one (.bool true)) := by
  rw [Try.params3] at h
  cases h with | cons h1 h => cases h with | cons h2 h => cases h with | nil =>
    obtain ⟨s, d, rfl, rs, rd⟩ := arg_T h1
    obtain ⟨t, e, rfl, rt, re⟩ := arg_T h2
    exact p_MatmulTells s d t e rd re

theorem lifted_matmulTells (os : Os) (started : os.Started) (H : Type) (enc : TypeId × Value → H) :
    ReturnsInHanded {} Try.checked os 3 .any (Rows.matmulTellsSpec.pre6 enc Try.prog Try.f3 Rows.matmulTellsRow.domain false) (Rows.matmulTellsSpec.post enc Try.prog Try.f3 false true false false) :=
  law_lifted (C := Try.checked) 9 own started (by kernel_rfl) Try.func3
    (ChangeSpec.witness6 (enc := enc) (C := Try.checked) false ⟨#[], #[.agg #[.slice none 0 0, .slice none 0 0], .agg #[.slice none 0 0, .slice none 0 0]], []⟩ 8 (by kernel_rfl) (by kernel_rfl) (by kernel_rfl) (by kernel_rfl))
    laidOut (by kernel_rfl) (by kernel_rfl) rfl rfl (by kernel_rfl) (fun ds h => by
      match ds, h with
      | [a, b], _ => rfl) law_matmulTells
end Go.AM
namespace Go.Proofs.Ytcmbjbmghoopcaa
open Go
theorem matmulTells_holds : Rows.MatmulTellsSaid :=
  OpenClaim.holds_of_wide 3 Try.f3 rfl rfl rfl rfl rfl rfl rfl ⟨rfl, rfl, rfl, rfl, rfl⟩ rfl rfl rfl rfl rfl (by kernel_rfl) Try.func3 (by kernel_rfl)
    (of_decide_eq_true (by kernel_rfl)) (by unfold Func.isWrapper; first | (rw [if_pos (by decide +kernel)]; kernel_rfl) | (rw [if_neg (by decide +kernel)]; exact ⟨rfl, rfl⟩))
    (fun os started H enc _ => Go.AM.lifted_matmulTells os started H enc)
#print axioms matmulTells_holds
end Go.Proofs.Ytcmbjbmghoopcaa

