/-
  PROVED: 'GradLines' returns true for every input, and each argument reads afterwards as it read before ('Rows.GradLinesSaid').
  CONDITIONS: those of the given row alone.
-/
import Derived.Test.YtphnlpfkenannaaGreatMxR10M110
set_option linter.unusedVariables false
set_option linter.unusedSimpArgs false

namespace Go.AM
open Go Go.Proofs Go.Proofs.YtphnlpfkenannaaGreat
set_option maxRecDepth 100000
set_option linter.unusedSimpArgs false
set_option linter.unusedVariables false

theorem law_gradLines (xs : List DV) (h : All2 (ArgOk Tryz.prog) Tryz.f11.params.toList xs) : PureC Tryz.prog 11 xs (.one (.bool true)) := by
  rw [Tryz.params11] at h
  cases h with | cons h1 h => cases h with | cons h2 h => cases h with | cons h3 h => cases h with | nil =>
    obtain ⟨t, rfl, rt⟩ := arg_U h1
    obtain ⟨u, rfl, ru⟩ := arg_N h2
    obtain ⟨n, rfl, rn⟩ := arg_N h3
    exact p_GradLines t u n rt ru rn

theorem lifted_gradLines (os : Os) (started : os.Started) (H : Type) (enc : TypeId × Value → H) :
    ReturnsInHanded {} Tryz.checked os 11 .any (Rows.gradLinesSpec.pre6 enc Tryz.prog Tryz.f11 Rows.gradLinesRow.domain false) (Rows.gradLinesSpec.post enc Tryz.prog Tryz.f11 false true false false) :=
  law_lifted (C := Tryz.checked) 9 own started (by kernel_rfl) Tryz.func11
    (ChangeSpec.witness6 (enc := enc) (C := Tryz.checked) false ⟨#[], #[.int .u8 0, .int .i64 0, .int .i64 0], []⟩ 8 (by kernel_rfl) (by kernel_rfl) (by kernel_rfl) (by kernel_rfl))
    laidOut (by kernel_rfl) (by kernel_rfl) rfl rfl (by kernel_rfl) (fun ds h => by
      match ds, h with
      | [a, b, c], _ => rfl) law_gradLines
end Go.AM
namespace Go.Proofs.YtphnlpfkenannaaGreat
open Go
theorem gradLines_holds : Rows.GradLinesSaid :=
  OpenClaim.holds_of_wide 11 Tryz.f11 rfl rfl rfl rfl rfl rfl rfl ⟨rfl, rfl, rfl, rfl, rfl⟩ rfl rfl rfl rfl rfl (by kernel_rfl) Tryz.func11 (by kernel_rfl)
    (of_decide_eq_true (by kernel_rfl)) (by unfold Func.isWrapper; first | (rw [if_pos (by decide +kernel)]; kernel_rfl) | (rw [if_neg (by decide +kernel)]; exact ⟨rfl, rfl⟩))
    (fun os started H enc _ => Go.AM.lifted_gradLines os started H enc)
#print axioms gradLines_holds
end Go.Proofs.YtphnlpfkenannaaGreat

