/-
  PROVED: 'VjpTurns' returns true for every input, and each argument reads afterwards as it read before ('Rows.VjpTurnsSaid').
  CONDITIONS: those of the given row alone.
-/
import Derived.Test.YtphnlpfkenannaaGreatMwR9M931
set_option linter.unusedVariables false
set_option linter.unusedSimpArgs false

namespace Go.AM
open Go Go.Proofs Go.Proofs.YtphnlpfkenannaaGreat
set_option maxRecDepth 100000
set_option linter.unusedSimpArgs false
set_option linter.unusedVariables false

theorem law_vjpTurns (xs : List DV) (h : All2 (ArgOk Tryz.prog) Tryz.f9.params.toList xs) : PureC Tryz.prog 9 xs (.one (.bool true)) := by
  rw [Tryz.params9] at h
  cases h with | cons h1 h => cases h with | cons h2 h => cases h with | cons h3 h => cases h with | cons h4 h => cases h with | cons h5 h => cases h with | nil =>
    obtain ⟨a1, a2, rfl, ra1, ra2⟩ := arg_T h1
    obtain ⟨b1, b2, rfl, rb1, rb2⟩ := arg_T h2
    obtain ⟨g1, g2, rfl, rg1, rg2⟩ := arg_T h3
    obtain ⟨x, rfl, rx⟩ := arg_N h4
    obtain ⟨n, rfl, rn⟩ := arg_U h5
    exact p_VjpTurns (a1, a2) (b1, b2) (g1, g2) x n rn ra2 rb2 rg2 rx

theorem lifted_vjpTurns (os : Os) (started : os.Started) (H : Type) (enc : TypeId × Value → H) :
    ReturnsInHanded {} Tryz.checked os 9 .any (Rows.vjpTurnsSpec.pre6 enc Tryz.prog Tryz.f9 Rows.vjpTurnsRow.domain false) (Rows.vjpTurnsSpec.post enc Tryz.prog Tryz.f9 false true false false) :=
  law_lifted (C := Tryz.checked) 9 own started (by kernel_rfl) Tryz.func9
    (ChangeSpec.witness6 (enc := enc) (C := Tryz.checked) false ⟨#[], #[.agg #[.slice none 0 0, .slice none 0 0], .agg #[.slice none 0 0, .slice none 0 0], .agg #[.slice none 0 0, .slice none 0 0], .int .i64 0, .int .u8 0], []⟩ 8 (by kernel_rfl) (by kernel_rfl) (by kernel_rfl) (by kernel_rfl))
    laidOut (by kernel_rfl) (by kernel_rfl) rfl rfl (by kernel_rfl) (fun ds h => by
      match ds, h with
      | [a, b, c, d, e], _ => rfl) law_vjpTurns
end Go.AM
namespace Go.Proofs.YtphnlpfkenannaaGreat
open Go
theorem vjpTurns_holds : Rows.VjpTurnsSaid :=
  OpenClaim.holds_of_wide 9 Tryz.f9 rfl rfl rfl rfl rfl rfl rfl ⟨rfl, rfl, rfl, rfl, rfl⟩ rfl rfl rfl rfl rfl (by kernel_rfl) Tryz.func9 (by kernel_rfl)
    (of_decide_eq_true (by kernel_rfl)) (by unfold Func.isWrapper; first | (rw [if_pos (by decide +kernel)]; kernel_rfl) | (rw [if_neg (by decide +kernel)]; exact ⟨rfl, rfl⟩))
    (fun os started H enc _ => Go.AM.lifted_vjpTurns os started H enc)
#print axioms vjpTurns_holds
end Go.Proofs.YtphnlpfkenannaaGreat

