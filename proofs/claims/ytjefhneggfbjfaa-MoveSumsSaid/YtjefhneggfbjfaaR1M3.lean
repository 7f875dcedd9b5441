/-
  PROVED: 'MoveSums' returns true for every input, and each argument reads afterwards as it read before ('Rows.MoveSumsSaid').
  CONDITIONS: those of the given row alone.
-/
import Derived.Test.YtjefhneggfbjfaaR1L6
import Derived.Test.YtjefhneggfbjfaaR1D2
namespace Go.AM
open Go Go.Proofs Go.Proofs.Ytjefhneggfbjfaa
set_option maxRecDepth 100000
set_option linter.unusedSimpArgs false
set_option linter.unusedVariables false

theorem law_moveSums (xs : List DV) (h : All2 (ArgOk Try.prog) Try.f7.params.toList xs) : PureC Try.prog 7 xs (.one (.bool true)) := by
  rw [Try.params7] at h
  cases h with | cons h1 h => cases h with | cons h2 h => cases h with | cons h3 h => cases h with | cons h4 h => cases h with | cons h5 h => cases h with | nil =>
    obtain ⟨s, d, rfl, rs, rd⟩ := arg_T h1
    obtain ⟨x, rfl, rx⟩ := arg_N h2
    obtain ⟨a, rfl, ra⟩ := arg_U h3
    obtain ⟨b, rfl, rb⟩ := arg_U h4
    obtain ⟨c, rfl, rc⟩ := arg_U h5
    exact p_MoveSums s d x a b c ra rb rc

theorem lifted_moveSums (os : Os) (started : os.Started) (H : Type) (enc : TypeId × Value → H) :
    ReturnsInHanded {} Try.checked os 7 .any (Rows.moveSumsSpec.pre6 enc Try.prog Try.f7 Rows.moveSumsRow.domain false) (Rows.moveSumsSpec.post enc Try.prog Try.f7 false true false false) :=
  law_lifted (C := Try.checked) 9 own started (by kernel_rfl) Try.func7
    (ChangeSpec.witness6 (enc := enc) (C := Try.checked) false ⟨#[], #[.agg #[.slice none 0 0, .slice none 0 0], .int .i64 0, .int .u8 0, .int .u8 0, .int .u8 0], []⟩ 8 (by kernel_rfl) (by kernel_rfl) (by kernel_rfl) (by kernel_rfl))
    laidOut (by kernel_rfl) (by kernel_rfl) rfl rfl (by kernel_rfl) (fun ds h => by
      match ds, h with
      | [a, b, c, d, e], _ => rfl) law_moveSums
end Go.AM
namespace Go.Proofs.Ytjefhneggfbjfaa
open Go
theorem moveSums_holds : Rows.MoveSumsSaid :=
  OpenClaim.holds_of_wide 7 Try.f7 rfl rfl rfl rfl rfl rfl rfl ⟨rfl, rfl, rfl, rfl, rfl⟩ rfl rfl rfl rfl rfl (by kernel_rfl) Try.func7 (by kernel_rfl)
    (of_decide_eq_true (by kernel_rfl)) (by unfold Func.isWrapper; first | (rw [if_pos (by decide +kernel)]; kernel_rfl) | (rw [if_neg (by decide +kernel)]; exact ⟨rfl, rfl⟩))
    (fun os started H enc _ => Go.AM.lifted_moveSums os started H enc)
#print axioms moveSums_holds
end Go.Proofs.Ytjefhneggfbjfaa

