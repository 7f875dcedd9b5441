/-
  PROVED: 'GradNone' returns true for every input, and each argument reads afterwards as it read before ('Rows.GradNoneSaid').
  CONDITIONS: those of the given row alone.
-/
import Derived.Test.YtphnlpfkenannaaGreatMxR10M140
set_option linter.unusedVariables false
set_option linter.unusedSimpArgs false

namespace Go.AM
open Go Go.Proofs Go.Proofs.YtphnlpfkenannaaGreat
set_option maxRecDepth 100000
set_option linter.unusedSimpArgs false
set_option linter.unusedVariables false

theorem law_gradNone (xs : List DV) (h : All2 (ArgOk Tryz.prog) Tryz.f14.params.toList xs) : PureC Tryz.prog 14 xs (.one (.bool true)) := by
  rw [Tryz.params14] at h
  cases h with | cons h1 h => cases h with | cons h2 h => cases h with | cons h3 h => cases h with | cons h4 h => cases h with | nil =>
    obtain ⟨l, rfl, rl⟩ := arg_Nds h1
    obtain ⟨i, d, rfl, ri, rd⟩ := arg_T h2
    obtain ⟨ps, rfl, rps⟩ := arg_Ts h3
    obtain ⟨n, rfl, rn⟩ := arg_N h4
    exact p_GradNone l (i, d) ps n rd rps (fun n hn => (rl n hn).2.2) rn

theorem lifted_gradNone (os : Os) (started : os.Started) (H : Type) (enc : TypeId × Value → H) :
    ReturnsInHanded {} Tryz.checked os 14 .any (Rows.gradNoneSpec.pre6 enc Tryz.prog Tryz.f14 Rows.gradNoneRow.domain false) (Rows.gradNoneSpec.post enc Tryz.prog Tryz.f14 false true false false) :=
  law_lifted (C := Tryz.checked) 9 own started (by kernel_rfl) Tryz.func14
    (ChangeSpec.witness6 (enc := enc) (C := Tryz.checked) false ⟨#[], #[.slice none 0 0, .agg #[.slice none 0 0, .slice none 0 0], .slice none 0 0, .int .i64 0], []⟩ 8 (by kernel_rfl) (by kernel_rfl) (by kernel_rfl) (by kernel_rfl))
    laidOut (by kernel_rfl) (by kernel_rfl) rfl rfl (by kernel_rfl) (fun ds h => by
      match ds, h with
      | [a, b, c, d], _ => rfl) law_gradNone
end Go.AM
namespace Go.Proofs.YtphnlpfkenannaaGreat
open Go
theorem gradNone_holds : Rows.GradNoneSaid :=
  OpenClaim.holds_of_wide 14 Tryz.f14 rfl rfl rfl rfl rfl rfl rfl ⟨rfl, rfl, rfl, rfl, rfl⟩ rfl rfl rfl rfl rfl (by kernel_rfl) Tryz.func14 (by kernel_rfl)
    (of_decide_eq_true (by kernel_rfl)) (by unfold Func.isWrapper; first | (rw [if_pos (by decide +kernel)]; kernel_rfl) | (rw [if_neg (by decide +kernel)]; exact ⟨rfl, rfl⟩))
    (fun os started H enc _ => Go.AM.lifted_gradNone os started H enc)
#print axioms gradNone_holds
end Go.Proofs.YtphnlpfkenannaaGreat

