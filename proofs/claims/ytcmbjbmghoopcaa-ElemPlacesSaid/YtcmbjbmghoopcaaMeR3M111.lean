/-
  PROVED: 'ElemPlaces' returns true for every input, and each argument reads afterwards as it read before ('Rows.ElemPlacesSaid').
  CONDITIONS: those of the given row alone.
-/
import Derived.Test.YtcmbjbmghoopcaaMeR3M110
set_option linter.unusedVariables false
set_option linter.unusedSimpArgs false

namespace Go.AM
open Go Go.Proofs Go.Proofs.Ytcmbjbmghoopcaa
set_option maxRecDepth 100000
set_option linter.unusedSimpArgs false
set_option linter.unusedVariables false

theorem law_elemPlaces (xs : List DV) (h : All2 (ArgOk Try.prog) Try.f11.params.toList xs) : PureC Try.prog 11 xs (.one (.bool true)) := by
  rw [Try.params11] at h
  cases h with | cons h1 h => cases h with | cons h2 h => cases h with | cons h3 h => cases h with | nil =>
    obtain ⟨s, d, rfl, rs, rd⟩ := arg_T h1
    obtain ⟨t, e, rfl, rt, re⟩ := arg_T h2
    obtain ⟨a, rfl, ra⟩ := arg_U h3
    exact p_ElemPlaces s d t e a rd re ra

theorem lifted_elemPlaces (os : Os) (started : os.Started) (H : Type) (enc : TypeId × Value → H) :
    ReturnsInHanded {} Try.checked os 11 .any (Rows.elemPlacesSpec.pre6 enc Try.prog Try.f11 Rows.elemPlacesRow.domain false) (Rows.elemPlacesSpec.post enc Try.prog Try.f11 false true false false) :=
  law_lifted (C := Try.checked) 9 own started (by kernel_rfl) Try.func11
    (ChangeSpec.witness6 (enc := enc) (C := Try.checked) false ⟨#[], #[.agg #[.slice none 0 0, .slice none 0 0], .agg #[.slice none 0 0, .slice none 0 0], .int .u8 0], []⟩ 8 (by kernel_rfl) (by kernel_rfl) (by kernel_rfl) (by kernel_rfl))
    laidOut (by kernel_rfl) (by kernel_rfl) rfl rfl (by kernel_rfl) (fun ds h => by
      match ds, h with
      | [a, b, c], _ => rfl) law_elemPlaces
end Go.AM
namespace Go.Proofs.Ytcmbjbmghoopcaa
open Go
theorem elemPlaces_holds : Rows.ElemPlacesSaid :=
  OpenClaim.holds_of_wide 11 Try.f11 rfl rfl rfl rfl rfl rfl rfl ⟨rfl, rfl, rfl, rfl, rfl⟩ rfl rfl rfl rfl rfl (by kernel_rfl) Try.func11 (by kernel_rfl)
    (of_decide_eq_true (by kernel_rfl)) (by unfold Func.isWrapper; first | (rw [if_pos (by decide +kernel)]; kernel_rfl) | (rw [if_neg (by decide +kernel)]; exact ⟨rfl, rfl⟩))
    (fun os started H enc _ => Go.AM.lifted_elemPlaces os started H enc)
#print axioms elemPlaces_holds
end Go.Proofs.Ytcmbjbmghoopcaa

