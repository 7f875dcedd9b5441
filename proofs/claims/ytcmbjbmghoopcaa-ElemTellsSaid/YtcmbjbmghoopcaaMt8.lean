/-
  PROVED: 'ElemTells' returns true for every input, and each argument reads afterwards as it read before ('Rows.ElemTellsSaid').
  CONDITIONS: those of the given row alone.
-/
import Derived.Test.YtcmbjbmghoopcaaMt7
set_option linter.unusedVariables false
set_option linter.unusedSimpArgs false

namespace Go.AM
open Go Go.Proofs Go.Proofs.Ytcmbjbmghoopcaa
set_option maxRecDepth 100000
set_option linter.unusedSimpArgs false
set_option linter.unusedVariables false

theorem law_elemTells (xs : List DV) (h : All2 (ArgOk Try.prog) Try.f9.params.toList xs) : PureC Try.prog 9 xs (.one (.bool true)) := by
  rw [Try.params9] at h
  cases h with | cons h1 h => cases h with | cons h2 h => cases h with | cons h3 h => cases h with | nil =>
    obtain ⟨a, rfl, ra⟩ := arg_N h1
    obtain ⟨s, d, rfl, rs, rd⟩ := arg_T h2
    obtain ⟨t, e, rfl, rt, re⟩ := arg_T h3
    exact p_ElemTells a s d t e rd re

theorem lifted_elemTells (os : Os) (started : os.Started) (H : Type) (enc : TypeId × Value → H) :
    ReturnsInHanded {} Try.checked os 9 .any (Rows.elemTellsSpec.pre6 enc Try.prog Try.f9 Rows.elemTellsRow.domain false) (Rows.elemTellsSpec.post enc Try.prog Try.f9 false true false false) :=
  law_lifted (C := Try.checked) 9 own started (by kernel_rfl) Try.func9
    (ChangeSpec.witness6 (enc := enc) (C := Try.checked) false ⟨#[], #[.int .i64 0, .agg #[.slice none 0 0, .slice none 0 0], .agg #[.slice none 0 0, .slice none 0 0]], []⟩ 8 (by kernel_rfl) (by kernel_rfl) (by kernel_rfl) (by kernel_rfl))
    laidOut (by kernel_rfl) (by kernel_rfl) rfl rfl (by kernel_rfl) (fun ds h => by
      match ds, h with
      | [a, b, c], _ => rfl) law_elemTells
end Go.AM
namespace Go.Proofs.Ytcmbjbmghoopcaa
open Go
theorem elemTells_holds : Rows.ElemTellsSaid :=
  OpenClaim.holds_of_wide 9 Try.f9 rfl rfl rfl rfl rfl rfl rfl ⟨rfl, rfl, rfl, rfl, rfl⟩ rfl rfl rfl rfl rfl (by kernel_rfl) Try.func9 (by kernel_rfl)
    (of_decide_eq_true (by kernel_rfl)) (by unfold Func.isWrapper; first | (rw [if_pos (by decide +kernel)]; kernel_rfl) | (rw [if_neg (by decide +kernel)]; exact ⟨rfl, rfl⟩))
    (fun os started H enc _ => Go.AM.lifted_elemTells os started H enc)
#print axioms elemTells_holds
end Go.Proofs.Ytcmbjbmghoopcaa

