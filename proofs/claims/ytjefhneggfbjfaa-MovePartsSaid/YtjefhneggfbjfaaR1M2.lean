/-
  PROVED: 'MoveParts' returns true for every input, and each argument reads afterwards as it read before ('Rows.MovePartsSaid').
  CONDITIONS: those of the given row alone.
-/
import Derived.Test.YtjefhneggfbjfaaR1L5
import Derived.Test.YtjefhneggfbjfaaR1D
namespace Go.AM
open Go Go.Proofs Go.Proofs.Ytjefhneggfbjfaa
set_option maxRecDepth 100000
set_option linter.unusedSimpArgs false
set_option linter.unusedVariables false

theorem law_moveParts (xs : List DV) (h : All2 (ArgOk Try.prog) Try.f5.params.toList xs) : PureC Try.prog 5 xs (.one (.bool true)) := by
  rw [Try.params5] at h
  cases h with | cons h1 h => cases h with | cons h2 h => cases h with | cons h3 h => cases h with | cons h4 h => cases h with | nil =>
    obtain ⟨s, d, rfl, rs, rd⟩ := arg_T h1
    obtain ⟨t, e, rfl, rt, re⟩ := arg_T h2
    obtain ⟨a, rfl, ra⟩ := arg_N h3
    obtain ⟨b, rfl, rb⟩ := arg_N h4
    exact p_MoveParts s d t e a b

theorem lifted_moveParts (os : Os) (started : os.Started) (H : Type) (enc : TypeId × Value → H) :
    ReturnsInHanded {} Try.checked os 5 .any (Rows.movePartsSpec.pre6 enc Try.prog Try.f5 Rows.movePartsRow.domain false) (Rows.movePartsSpec.post enc Try.prog Try.f5 false true false false) :=
  law_lifted (C := Try.checked) 9 own started (by kernel_rfl) Try.func5
    (ChangeSpec.witness6 (enc := enc) (C := Try.checked) false ⟨#[], #[.agg #[.slice none 0 0, .slice none 0 0], .agg #[.slice none 0 0, .slice none 0 0], .int .i64 0, .int .i64 0], []⟩ 8 (by kernel_rfl) (by kernel_rfl) (by kernel_rfl) (by kernel_rfl))
    laidOut (by kernel_rfl) (by kernel_rfl) rfl rfl (by kernel_rfl) (fun ds h => by
      match ds, h with
      | [a, b, c, d], _ => rfl) law_moveParts
end Go.AM
namespace Go.Proofs.Ytjefhneggfbjfaa
open Go
theorem moveParts_holds : Rows.MovePartsSaid :=
  OpenClaim.holds_of_wide 5 Try.f5 rfl rfl rfl rfl rfl rfl rfl ⟨rfl, rfl, rfl, rfl, rfl⟩ rfl rfl rfl rfl rfl (by kernel_rfl) Try.func5 (by kernel_rfl)
    (of_decide_eq_true (by kernel_rfl)) (by unfold Func.isWrapper; first | (rw [if_pos (by decide +kernel)]; kernel_rfl) | (rw [if_neg (by decide +kernel)]; exact ⟨rfl, rfl⟩))
    (fun os started H enc _ => Go.AM.lifted_moveParts os started H enc)
#print axioms moveParts_holds
end Go.Proofs.Ytjefhneggfbjfaa

