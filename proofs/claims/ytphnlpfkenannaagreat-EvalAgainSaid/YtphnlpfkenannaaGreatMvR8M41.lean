/-
  PROVED: 'EvalAgain' returns true for every input, and each argument reads afterwards as it read before ('Rows.EvalAgainSaid').
  CONDITIONS: those of the given row alone.
-/
import Derived.Test.YtphnlpfkenannaaGreatMvR8M40
set_option linter.unusedVariables false
set_option linter.unusedSimpArgs false

namespace Go.AM
open Go Go.Proofs Go.Proofs.YtphnlpfkenannaaGreat
set_option maxRecDepth 100000
set_option linter.unusedSimpArgs false
set_option linter.unusedVariables false

theorem law_evalAgain (xs : List DV) (h : All2 (ArgOk Tryz.prog) Tryz.f4.params.toList xs) : PureC Tryz.prog 4 xs (.one (.bool true)) := by
  rw [Tryz.params4] at h
  cases h with | cons h1 h => cases h with | cons h2 h => cases h with | cons h3 h => cases h with | nil =>
    obtain ⟨l, rfl, rl⟩ := arg_Nds h1
    obtain ⟨i, d, rfl, ri, rd⟩ := arg_T h2
    obtain ⟨ps, rfl, rps⟩ := arg_Ts h3
    exact p_EvalAgain l (i, d) ps rd rps (fun n hn => (rl n hn).2.2)

theorem lifted_evalAgain (os : Os) (started : os.Started) (H : Type) (enc : TypeId × Value → H) :
    ReturnsInHanded {} Tryz.checked os 4 .any (Rows.evalAgainSpec.pre6 enc Tryz.prog Tryz.f4 Rows.evalAgainRow.domain false) (Rows.evalAgainSpec.post enc Tryz.prog Tryz.f4 false true false false) :=
  law_lifted (C := Tryz.checked) 9 own started (by kernel_rfl) Tryz.func4
    (ChangeSpec.witness6 (enc := enc) (C := Tryz.checked) false ⟨#[], #[.slice none 0 0, .agg #[.slice none 0 0, .slice none 0 0], .slice none 0 0], []⟩ 8 (by kernel_rfl) (by kernel_rfl) (by kernel_rfl) (by kernel_rfl))
    laidOut (by kernel_rfl) (by kernel_rfl) rfl rfl (by kernel_rfl) (fun ds h => by
      match ds, h with
      | [a, b, c], _ => rfl) law_evalAgain
end Go.AM
namespace Go.Proofs.YtphnlpfkenannaaGreat
open Go
theorem evalAgain_holds : Rows.EvalAgainSaid :=
  OpenClaim.holds_of_wide 4 Tryz.f4 rfl rfl rfl rfl rfl rfl rfl ⟨rfl, rfl, rfl, rfl, rfl⟩ rfl rfl rfl rfl rfl (by kernel_rfl) Tryz.func4 (by kernel_rfl)
    (of_decide_eq_true (by kernel_rfl)) (by unfold Func.isWrapper; first | (rw [if_pos (by decide +kernel)]; kernel_rfl) | (rw [if_neg (by decide +kernel)]; exact ⟨rfl, rfl⟩))
    (fun os started H enc _ => Go.AM.lifted_evalAgain os started H enc)
#print axioms evalAgain_holds
end Go.Proofs.YtphnlpfkenannaaGreat

