/-
  PROVED: 'MovePads' returns true for every input, and each argument reads afterwards as it read before ('Rows.MovePadsSaid').
  CONDITIONS: those of the given row alone.
-/
import Derived.Test.YtjefhneggfbjfaaR1L7
import Derived.Test.YtjefhneggfbjfaaR1D
namespace Go.AM
open Go Go.Proofs Go.Proofs.Ytjefhneggfbjfaa
set_option maxRecDepth 100000
set_option linter.unusedSimpArgs false
set_option linter.unusedVariables false

theorem law_movePads (xs : List DV) (h : All2 (ArgOk Try.prog) Try.f6.params.toList xs) : PureC Try.prog 6 xs (.one (.bool true)) := by
  rw [Try.params6] at h
  cases h with | cons h1 h => cases h with | cons h2 h => cases h with | cons h3 h => cases h with | cons h4 h => cases h with | nil =>
    obtain ⟨s, d, rfl, rs, rd⟩ := arg_T h1
    obtain ⟨a, rfl, ra⟩ := arg_N h2
    obtain ⟨f, rfl, rf⟩ := arg_N h3
    obtain ⟨z, rfl, rz⟩ := arg_N h4
    exact p_MovePads s d a f z

theorem lifted_movePads (os : Os) (started : os.Started) (H : Type) (enc : TypeId × Value → H) :
    ReturnsInHanded {} Try.checked os 6 .any (Rows.movePadsSpec.pre6 enc Try.prog Try.f6 Rows.movePadsRow.domain false) (Rows.movePadsSpec.post enc Try.prog Try.f6 false true false false) :=
  law_lifted (C := Try.checked) 9 own started (by kernel_rfl) Try.func6
    (ChangeSpec.witness6 (enc := enc) (C := Try.checked) false ⟨#[], #[.agg #[.slice none 0 0, .slice none 0 0], .int .i64 0, .int .i64 0, .int .i64 0], []⟩ 8 (by kernel_rfl) (by kernel_rfl) (by kernel_rfl) (by kernel_rfl))
    laidOut (by kernel_rfl) (by kernel_rfl) rfl rfl (by kernel_rfl) (fun ds h => by
      match ds, h with
      | [a, b, c, d], _ => rfl) law_movePads
end Go.AM
namespace Go.Proofs.Ytjefhneggfbjfaa
open Go
theorem movePads_holds : Rows.MovePadsSaid :=
  OpenClaim.holds_of_wide 6 Try.f6 rfl rfl rfl rfl rfl rfl rfl ⟨rfl, rfl, rfl, rfl, rfl⟩ rfl rfl rfl rfl rfl (by kernel_rfl) Try.func6 (by kernel_rfl)
    (of_decide_eq_true (by kernel_rfl)) (by unfold Func.isWrapper; first | (rw [if_pos (by decide +kernel)]; kernel_rfl) | (rw [if_neg (by decide +kernel)]; exact ⟨rfl, rfl⟩))
    (fun os started H enc _ => Go.AM.lifted_movePads os started H enc)
#print axioms movePads_holds
end Go.Proofs.Ytjefhneggfbjfaa

