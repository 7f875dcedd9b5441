/-
  PROVED: 'ReduceTwice' returns true for every input, and each argument reads afterwards as it read before ('Rows.ReduceTwiceSaid').
  CONDITIONS: those of the given row alone.
-/
import Derived.Test.YtcmbjbmghoopcaaMvR6M170
set_option linter.unusedVariables false
set_option linter.unusedSimpArgs false

namespace Go.AM
open Go Go.Proofs Go.Proofs.Ytcmbjbmghoopcaa
set_option maxRecDepth 100000
set_option linter.unusedSimpArgs false
set_option linter.unusedVariables false

theorem law_reduceTwice (xs : List DV) (h : All2 (ArgOk Try.prog) Try.f17.params.toList xs) : PureC Try.prog 17 xs (.one (.bool true)) := by
  rw [Try.params17] at h
  cases h with | cons h1 h => cases h with | nil =>
    obtain ⟨s, d, rfl, rs, rd⟩ := arg_T h1
    exact p_ReduceTwice s d rd

theorem lifted_reduceTwice (os : Os) (started : os.Started) (H : Type) (enc : TypeId × Value → H) :
    ReturnsInHanded {} Try.checked os 17 .any (Rows.reduceTwiceSpec.pre6 enc Try.prog Try.f17 Rows.reduceTwiceRow.domain false) (Rows.reduceTwiceSpec.post enc Try.prog Try.f17 false true false false) :=
  law_lifted (C := Try.checked) 9 own started (by kernel_rfl) Try.func17
    (ChangeSpec.witness6 (enc := enc) (C := Try.checked) false ⟨#[], #[.agg #[.slice none 0 0, .slice none 0 0]], []⟩ 8 (by kernel_rfl) (by kernel_rfl) (by kernel_rfl) (by kernel_rfl))
    laidOut (by kernel_rfl) (by kernel_rfl) rfl rfl (by kernel_rfl) (fun ds h => by
      match ds, h with
      | [a], _ => rfl) law_reduceTwice
end Go.AM
namespace Go.Proofs.Ytcmbjbmghoopcaa
open Go
theorem reduceTwice_holds : Rows.ReduceTwiceSaid :=
  OpenClaim.holds_of_wide 17 Try.f17 rfl rfl rfl rfl rfl rfl rfl ⟨rfl, rfl, rfl, rfl, rfl⟩ rfl rfl rfl rfl rfl (by kernel_rfl) Try.func17 (by kernel_rfl)
    (of_decide_eq_true (by kernel_rfl)) (by unfold Func.isWrapper; first | (rw [if_pos (by decide +kernel)]; kernel_rfl) | (rw [if_neg (by decide +kernel)]; exact ⟨rfl, rfl⟩))
    (fun os started H enc _ => Go.AM.lifted_reduceTwice os started H enc)
#print axioms reduceTwice_holds
end Go.Proofs.Ytcmbjbmghoopcaa

