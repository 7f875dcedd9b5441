/-
  PROVED: 'ElemTurns' returns true for every input, and each argument reads afterwards as it read before ('Rows.ElemTurnsSaid').
  CONDITIONS: those of the given row alone.
-/
import Derived.Test.YtcmbjbmghoopcaaMeR3M100
set_option linter.unusedVariables false
set_option linter.unusedSimpArgs false

namespace Go.AM
open Go Go.Proofs Go.Proofs.Ytcmbjbmghoopcaa
set_option maxRecDepth 100000
set_option linter.unusedSimpArgs false
set_option linter.unusedVariables false

theorem law_elemTurns (xs : List DV) (h : All2 (ArgOk Try.prog) Try.f10.params.toList xs) : PureC Try.prog 10 xs (.one (.bool true)) := by
  rw [Try.params10] at h
  cases h with | cons h1 h => cases h with | cons h2 h => cases h with | nil =>
    obtain ⟨s, d, rfl, rs, rd⟩ := arg_T h1
    obtain ⟨t, e, rfl, rt, re⟩ := arg_T h2
    exact p_ElemTurns s d t e rd re

theorem lifted_elemTurns (os : Os) (started : os.Started) (H : Type) (enc : TypeId × Value → H) :
    ReturnsInHanded {} Try.checked os 10 .any (Rows.elemTurnsSpec.pre6 enc Try.prog Try.f10 Rows.elemTurnsRow.domain false) (Rows.elemTurnsSpec.post enc Try.prog Try.f10 false true false false) :=
  law_lifted (C := Try.checked) 9 own started (by kernel_rfl) Try.func10
    (ChangeSpec.witness6 (enc := enc) (C := Try.checked) false ⟨#[], #[.agg #[.slice none 0 0, .slice none 0 0], .agg #[.slice none 0 0, .slice none 0 0]], []⟩ 8 (by kernel_rfl) (by kernel_rfl) (by kernel_rfl) (by kernel_rfl))
    laidOut (by kernel_rfl) (by kernel_rfl) rfl rfl (by kernel_rfl) (fun ds h => by
      match ds, h with
      | [a, b], _ => rfl) law_elemTurns
end Go.AM
namespace Go.Proofs.Ytcmbjbmghoopcaa
open Go
theorem elemTurns_holds : Rows.ElemTurnsSaid :=
  OpenClaim.holds_of_wide 10 Try.f10 rfl rfl rfl rfl rfl rfl rfl ⟨rfl, rfl, rfl, rfl, rfl⟩ rfl rfl rfl rfl rfl (by kernel_rfl) Try.func10 (by kernel_rfl)
    (of_decide_eq_true (by kernel_rfl)) (by unfold Func.isWrapper; first | (rw [if_pos (by decide +kernel)]; kernel_rfl) | (rw [if_neg (by decide +kernel)]; exact ⟨rfl, rfl⟩))
    (fun os started H enc _ => Go.AM.lifted_elemTurns os started H enc)
#print axioms elemTurns_holds
end Go.Proofs.Ytcmbjbmghoopcaa

