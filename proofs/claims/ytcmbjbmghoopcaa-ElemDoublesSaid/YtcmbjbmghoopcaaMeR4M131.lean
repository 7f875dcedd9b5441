/-
  PROVED: 'ElemDoubles' returns true for every input, and each argument reads afterwards as it read before ('Rows.ElemDoublesSaid').
  CONDITIONS: those of the given row alone.
-/
import Derived.Test.YtcmbjbmghoopcaaMeR4M130
set_option linter.unusedVariables false
set_option linter.unusedSimpArgs false

namespace Go.AM
open Go Go.Proofs Go.Proofs.Ytcmbjbmghoopcaa
set_option maxRecDepth 100000
set_option linter.unusedSimpArgs false
set_option linter.unusedVariables false

theorem law_elemDoubles (xs : List DV) (h : All2 (ArgOk Try.prog) Try.f13.params.toList xs) : PureC Try.prog 13 xs (.one (.bool true)) := by
  rw [Try.params13] at h
  cases h with | cons h1 h => cases h with | cons h2 h => cases h with | nil =>
    obtain ⟨s, d, rfl, rs, rd⟩ := arg_T h1
    obtain ⟨t, e, rfl, rt, re⟩ := arg_T h2
    exact p_ElemDoubles s d t e rd re

theorem lifted_elemDoubles (os : Os) (started : os.Started) (H : Type) (enc : TypeId × Value → H) :
    ReturnsInHanded {} Try.checked os 13 .any (Rows.elemDoublesSpec.pre6 enc Try.prog Try.f13 Rows.elemDoublesRow.domain false) (Rows.elemDoublesSpec.post enc Try.prog Try.f13 false true false false) :=
  law_lifted (C := Try.checked) 9 own started (by kernel_rfl) Try.func13
    (ChangeSpec.witness6 (enc := enc) (C := Try.checked) false ⟨#[], #[.agg #[.slice none 0 0, .slice none 0 0], .agg #[.slice none 0 0, .slice none 0 0]], []⟩ 8 (by kernel_rfl) (by kernel_rfl) (by kernel_rfl) (by kernel_rfl))
    laidOut (by kernel_rfl) (by kernel_rfl) rfl rfl (by kernel_rfl) (fun ds h => by
      match ds, h with
      | [a, b], _ => rfl) law_elemDoubles
end Go.AM
namespace Go.Proofs.Ytcmbjbmghoopcaa
open Go
theorem elemDoubles_holds : Rows.ElemDoublesSaid :=
  OpenClaim.holds_of_wide 13 Try.f13 rfl rfl rfl rfl rfl rfl rfl ⟨rfl, rfl, rfl, rfl, rfl⟩ rfl rfl rfl rfl rfl (by kernel_rfl) Try.func13 (by kernel_rfl)
    (of_decide_eq_true (by kernel_rfl)) (by unfold Func.isWrapper; first | (rw [if_pos (by decide +kernel)]; kernel_rfl) | (rw [if_neg (by decide +kernel)]; exact ⟨rfl, rfl⟩))
    (fun os started H enc _ => Go.AM.lifted_elemDoubles os started H enc)
#print axioms elemDoubles_holds
end Go.Proofs.Ytcmbjbmghoopcaa

