/-
  PROVED: 'EvalCuts' returns true for every input, and each argument reads afterwards as it read before ('Rows.EvalCutsSaid').
  CONDITIONS: those of the given row alone.
-/
import Derived.Test.YtphnlpfkenannaaGreatMvR8M30
set_option linter.unusedVariables false
set_option linter.unusedSimpArgs false

namespace Go.AM
open Go Go.Proofs Go.Proofs.YtphnlpfkenannaaGreat
set_option maxRecDepth 100000
set_option linter.unusedSimpArgs false
set_option linter.unusedVariables false

theorem law_evalCuts (xs : List DV) (h : All2 (ArgOk Tryz.prog) Tryz.f3.params.toList xs) : PureC Tryz.prog 3 xs (.one (.bool true)) := by
  rw [Tryz.params3] at h
  cases h with | cons h1 h => cases h with | cons h2 h => cases h with | cons h3 h => cases h with | cons h4 h => cases h with | nil =>
    obtain ⟨l, rfl, rl⟩ := arg_Nds h1
    obtain ⟨i, d, rfl, ri, rd⟩ := arg_T h2
    obtain ⟨ps, rfl, rps⟩ := arg_Ts h3
    obtain ⟨n, rfl, rn⟩ := arg_U h4
    exact p_EvalCuts l (i, d) ps n rn rd rps (fun n hn => (rl n hn).2.2)

theorem lifted_evalCuts (os : Os) (started : os.Started) (H : Type) (enc : TypeId × Value → H) :
    ReturnsInHanded {} Tryz.checked os 3 .any (Rows.evalCutsSpec.pre6 enc Tryz.prog Tryz.f3 Rows.evalCutsRow.domain false) (Rows.evalCutsSpec.post enc Tryz.prog Tryz.f3 false true false false) :=
  law_lifted (C := Tryz.checked) 9 own started (by kernel_rfl) Tryz.func3
    (ChangeSpec.witness6 (enc := enc) (C := Tryz.checked) false ⟨#[], #[.slice none 0 0, .agg #[.slice none 0 0, .slice none 0 0], .slice none 0 0, .int .u8 0], []⟩ 8 (by kernel_rfl) (by kernel_rfl) (by kernel_rfl) (by kernel_rfl))
    laidOut (by kernel_rfl) (by kernel_rfl) rfl rfl (by kernel_rfl) (fun ds h => by
      match ds, h with
      | [a, b, c, d], _ => rfl) law_evalCuts
end Go.AM
namespace Go.Proofs.YtphnlpfkenannaaGreat
open Go
theorem evalCuts_holds : Rows.EvalCutsSaid :=
  OpenClaim.holds_of_wide 3 Tryz.f3 rfl rfl rfl rfl rfl rfl rfl ⟨rfl, rfl, rfl, rfl, rfl⟩ rfl rfl rfl rfl rfl (by kernel_rfl) Tryz.func3 (by kernel_rfl)
    (of_decide_eq_true (by kernel_rfl)) (by unfold Func.isWrapper; first | (rw [if_pos (by decide +kernel)]; kernel_rfl) | (rw [if_neg (by decide +kernel)]; exact ⟨rfl, rfl⟩))
    (fun os started H enc _ => Go.AM.lifted_evalCuts os started H enc)
#print axioms evalCuts_holds
end Go.Proofs.YtphnlpfkenannaaGreat

