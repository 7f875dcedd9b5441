/-
  PROVED: 'ReduceParts' returns true for every input, and each argument reads afterwards as it read before ('Rows.ReducePartsSaid').
  CONDITIONS: those of the given row alone.
-/
import Derived.Test.YtcmbjbmghoopcaaMvR6M180
set_option linter.unusedVariables false
set_option linter.unusedSimpArgs false

namespace Go.AM
open Go Go.Proofs Go.Proofs.Ytcmbjbmghoopcaa
set_option maxRecDepth 100000
set_option linter.unusedSimpArgs false
set_option linter.unusedVariables false

theorem law_reduceParts (xs : List DV) (h : All2 (ArgOk Try.prog) Try.f18.params.toList xs) : PureC Try.prog 18 xs (.one (.bool true)) := by
  rw [Try.params18] at h
  cases h with | cons h1 h => cases h with | cons h2 h => cases h with | cons h3 h => cases h with | nil =>
    obtain ⟨s, d, rfl, rs, rd⟩ := arg_T h1
    obtain ⟨a, rfl, ra⟩ := arg_N h2
    obtain ⟨x, rfl, rx⟩ := arg_U h3
    exact p_ReduceParts s d a x rd rx

theorem lifted_reduceParts (os : Os) (started : os.Started) (H : Type) (enc : TypeId × Value → H) :
    ReturnsInHanded {} Try.checked os 18 .any (Rows.reducePartsSpec.pre6 enc Try.prog Try.f18 Rows.reducePartsRow.domain false) (Rows.reducePartsSpec.post enc Try.prog Try.f18 false true false false) :=
  law_lifted (C := Try.checked) 9 own started (by kernel_rfl) Try.func18
    (ChangeSpec.witness6 (enc := enc) (C := Try.checked) false ⟨#[], #[.agg #[.slice none 0 0, .slice none 0 0], .int .i64 0, .int .u8 0], []⟩ 8 (by kernel_rfl) (by kernel_rfl) (by kernel_rfl) (by kernel_rfl))
    laidOut (by kernel_rfl) (by kernel_rfl) rfl rfl (by kernel_rfl) (fun ds h => by
      match ds, h with
      | [a, b, c], _ => rfl) law_reduceParts
end Go.AM
namespace Go.Proofs.Ytcmbjbmghoopcaa
open Go
theorem reduceParts_holds : Rows.ReducePartsSaid :=
  OpenClaim.holds_of_wide 18 Try.f18 rfl rfl rfl rfl rfl rfl rfl ⟨rfl, rfl, rfl, rfl, rfl⟩ rfl rfl rfl rfl rfl (by kernel_rfl) Try.func18 (by kernel_rfl)
    (of_decide_eq_true (by kernel_rfl)) (by unfold Func.isWrapper; first | (rw [if_pos (by decide +kernel)]; kernel_rfl) | (rw [if_neg (by decide +kernel)]; exact ⟨rfl, rfl⟩))
    (fun os started H enc _ => Go.AM.lifted_reduceParts os started H enc)
#print axioms reduceParts_holds
end Go.Proofs.Ytcmbjbmghoopcaa

