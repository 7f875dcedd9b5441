/-
  PROVED: 'MoveTells' returns true for every input, and each argument reads afterwards as it read before ('Rows.MoveTellsSaid').
  CONDITIONS: those of the given row alone.
-/
import Derived.Test.YtjefhneggfbjfaaR1L8T
import Derived.Test.YtjefhneggfbjfaaR1DT

namespace Go.AM
open Go Go.Proofs Go.Proofs.Ytjefhneggfbjfaa
set_option maxRecDepth 100000
set_option linter.unusedSimpArgs false
set_option linter.unusedVariables false

theorem law_moveTells (xs : List DV) (h : All2 (ArgOk Try.prog) Try.f3.params.toList xs) : PureC Try.prog 3 xs (.one (.bool true)) := by
  rw [Try.params3] at h
  cases h with | cons h1 h => cases h with | cons h2 h => cases h with | cons h3 h => cases h with | cons h4 h => cases h with | cons h5 h => cases h with | cons h6 h => cases h with | nil =>
    obtain ⟨s, d, rfl, rs, rd⟩ := arg_T h1
    obtain ⟨t, e, rfl, rt, re⟩ := arg_T h2
    obtain ⟨z, rfl, rz⟩ := arg_I h3
    obtain ⟨a, rfl, ra⟩ := arg_N h4
    obtain ⟨f, rfl, rf⟩ := arg_N h5
    obtain ⟨g, rfl, rg⟩ := arg_N h6
    exact p_MoveTells s d t e z a f g

theorem lifted_moveTells (os : Os) (started : os.Started) (H : Type) (enc : TypeId × Value → H) :
    ReturnsInHanded {} Try.checked os 3 .any (Rows.moveTellsSpec.pre6 enc Try.prog Try.f3 Rows.moveTellsRow.domain false) (Rows.moveTellsSpec.post enc Try.prog Try.f3 false true false false) :=
  law_lifted (C := Try.checked) 9 own started (by kernel_rfl) Try.func3
    (ChangeSpec.witness6 (enc := enc) (C := Try.checked) false ⟨#[], #[.agg #[.slice none 0 0, .slice none 0 0], .agg #[.slice none 0 0, .slice none 0 0], .slice none 0 0, .int .i64 0, .int .i64 0, .int .i64 0], []⟩ 8 (by kernel_rfl) (by kernel_rfl) (by kernel_rfl) (by kernel_rfl))
    laidOut (by kernel_rfl) (by kernel_rfl) rfl rfl (by kernel_rfl) (fun ds h => by
      match ds, h with
      | [a, b, c, d, e, f], _ => rfl) law_moveTells
end Go.AM
namespace Go.Proofs.Ytjefhneggfbjfaa
open Go
theorem moveTells_holds : Rows.MoveTellsSaid :=
  OpenClaim.holds_of_wide 3 Try.f3 rfl rfl rfl rfl rfl rfl rfl ⟨rfl, rfl, rfl, rfl, rfl⟩ rfl rfl rfl rfl rfl (by kernel_rfl) Try.func3 (by kernel_rfl)
    (of_decide_eq_true (by kernel_rfl)) (by unfold Func.isWrapper; first | (rw [if_pos (by decide +kernel)]; kernel_rfl) | (rw [if_neg (by decide +kernel)]; exact ⟨rfl, rfl⟩))
    (fun os started H enc _ => Go.AM.lifted_moveTells os started H enc)
#print axioms moveTells_holds
end Go.Proofs.Ytjefhneggfbjfaa


