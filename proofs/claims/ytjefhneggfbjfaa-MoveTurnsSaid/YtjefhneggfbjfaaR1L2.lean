/-
  PROVED: 'fullerlaw05.MoveTurns' returns true for every input, and each argument reads afterwards as it read before ('Rows.MoveTurnsSaid').
  CONDITIONS: those of the given row alone.
-/
import Derived.Test.YtjefhneggfbjfaaR1L1
import Derived.Test.YtjefhneggfbjfaaAmL
import Derived.Test.YtjefhneggfbjfaaRows
namespace Go.AM
open Go Go.Proofs Go.Proofs.Ytjefhneggfbjfaa
set_option maxRecDepth 100000
set_option linter.unusedSimpArgs false
set_option linter.unusedVariables false

theorem wf_i64 {n : Int} (h : (Lit.int .i64 n).wf = true) : -9223372036854775808 ≤ n ∧ n < 9223372036854775808 := by
  simp only [Lit.wf, IntKind.has, IntKind.min, IntKind.max, IntKind.bits, IntKind.signed] at h
  simp at h
  omega

theorem conf_int {v : List PV} (h : Conf Try.prog 3 v) : ∃ n : Int, v = [.int .i64 n] ∧ -9223372036854775808 ≤ n ∧ n < 9223372036854775808 := by
  have hu := Try.underlying3
  cases h with
  | bool b ht => rw [hu] at ht; cases ht
  | int n ht hw => rw [hu] at ht; cases ht; exact ⟨n, rfl, wf_i64 hw⟩
  | str s ht => rw [hu] at ht; cases ht
  | sl rows ht h => rw [hu] at ht; cases ht
  | st parts ht h => rw [hu] at ht; cases ht

def i64s (s : List Int) : Prop := ∀ n ∈ s, -9223372036854775808 ≤ n ∧ n < 9223372036854775808

theorem conf_rows : ∀ {rows : List (List PV)}, (∀ r ∈ rows, Conf Try.prog 3 r) → ∃ s : List Int, rows = rI s ∧ i64s s
  | [], _ => ⟨[], rfl, fun n hn => by simp at hn⟩
  | r :: rows, h => by
    obtain ⟨n, rfl, hn⟩ := conf_int (h r (by simp))
    obtain ⟨s, rfl, hs⟩ := conf_rows (rows := rows) fun r hr => h r (by simp [hr])
    exact ⟨n :: s, rfl, fun m hm => by
      rcases List.mem_cons.1 hm with rfl | hm
      · exact hn
      · exact hs m hm⟩

theorem conf_ints {v : List PV} (h : Conf Try.prog 22 v) : ∃ s : List Int, v = [eI s] ∧ i64s s := by
  have hu := Try.underlying22
  cases h with
  | bool b ht => rw [hu] at ht; cases ht
  | int n ht hw => rw [hu] at ht; cases ht
  | str s ht => rw [hu] at ht; cases ht
  | sl rows ht h =>
    rw [hu] at ht; cases ht
    obtain ⟨s, rfl, hs⟩ := conf_rows h
    exact ⟨s, rfl, hs⟩
  | st parts ht h => rw [hu] at ht; cases ht

theorem conf_T {v : List PV} (h : Conf Try.prog 24 v) : ∃ s d : List Int, v = [eI s, eI d] ∧ i64s s ∧ i64s d := by
  have hu := Try.underlying24
  cases h with
  | bool b ht => rw [hu] at ht; cases ht
  | int n ht hw => rw [hu] at ht; cases ht
  | str s ht => rw [hu] at ht; cases ht
  | sl rows ht h => rw [hu] at ht; cases ht
  | st parts ht h =>
    rw [hu] at ht; cases ht
    cases h with | cons h1 h => cases h with | cons h2 h => cases h with | nil =>
      obtain ⟨s, rfl, hs⟩ := conf_ints h1
      obtain ⟨d, rfl, hd⟩ := conf_ints h2
      exact ⟨s, d, rfl, hs, hd⟩

theorem arg_T {d : DV} (h : ArgOk Try.prog 24 d) : ∃ s e : List Int, d = dT s e ∧ i64s s ∧ i64s e := by
  unfold ArgOk at h
  rw [Try.underlying24] at h
  obtain ⟨vs, rfl, h⟩ := h
  obtain ⟨s, e, rfl, hs, he⟩ := conf_T h
  exact ⟨s, e, rfl, hs, he⟩
theorem arg_I {d : DV} (h : ArgOk Try.prog 22 d) : ∃ s : List Int, d = dI s ∧ i64s s := by
  unfold ArgOk at h
  rw [Try.underlying22] at h
  obtain ⟨v, rfl, h⟩ := h
  obtain ⟨s, e, hs⟩ := conf_ints h
  cases e
  exact ⟨s, rfl, hs⟩
theorem arg_N {d : DV} (h : ArgOk Try.prog 3 d) : ∃ n : Int, d = dN n ∧ -9223372036854775808 ≤ n ∧ n < 9223372036854775808 := by
  unfold ArgOk at h
  rw [Try.underlying3] at h
  obtain ⟨v, rfl, h⟩ := h
  obtain ⟨s, e, hs⟩ := conf_int h
  cases e
  exact ⟨s, rfl, hs⟩

theorem own : ownKnob Try.prog.godebug = none := by kernel_rfl
theorem laidOut : laidOutB Try.prog = true := by kernel_rfl

theorem turns_law (xs : List DV) (h : All2 (ArgOk Try.prog) Try.f4.params.toList xs) : PureC Try.prog 4 xs (.one (.bool true)) := by
  rw [Try.params4] at h
  cases h with | cons h1 h => cases h with | cons h2 h => cases h with | cons h3 h => cases h with | nil =>
    obtain ⟨s, d, rfl, _⟩ := arg_T h1
    obtain ⟨z, rfl, _⟩ := arg_I h2
    obtain ⟨x, rfl, _⟩ := arg_I h3
    exact p_MoveTurns s d z x

theorem turns_lifted (os : Os) (started : os.Started) (H : Type) (enc : TypeId × Value → H) :
    ReturnsInHanded {} Try.checked os 4 .any (Rows.moveTurnsSpec.pre6 enc Try.prog Try.f4 Rows.moveTurnsRow.domain false) (Rows.moveTurnsSpec.post enc Try.prog Try.f4 false true false false) :=
  law_lifted (C := Try.checked) 9 own started (by kernel_rfl) Try.func4
    (ChangeSpec.witness6 (enc := enc) (C := Try.checked) false ⟨#[], #[.agg #[.slice none 0 0, .slice none 0 0], .slice none 0 0, .slice none 0 0], []⟩ 8 (by kernel_rfl) (by kernel_rfl) (by kernel_rfl) (by kernel_rfl))
    laidOut (by kernel_rfl) (by kernel_rfl) rfl rfl (by kernel_rfl) (fun ds h => by
      match ds, h with
      | [a, b, c], _ => rfl) turns_law
end Go.AM
namespace Go.Proofs.Ytjefhneggfbjfaa
open Go
theorem moveTurns_holds : Rows.MoveTurnsSaid :=
  OpenClaim.holds_of_wide 4 Try.f4 rfl rfl rfl rfl rfl rfl rfl ⟨rfl, rfl, rfl, rfl, rfl⟩ rfl rfl rfl rfl rfl (by kernel_rfl) Try.func4 (by kernel_rfl)
    (of_decide_eq_true (by kernel_rfl)) (by unfold Func.isWrapper; first | (rw [if_pos (by decide +kernel)]; kernel_rfl) | (rw [if_neg (by decide +kernel)]; exact ⟨rfl, rfl⟩))
    (fun os started H enc _ => Go.AM.turns_lifted os started H enc)
#print axioms moveTurns_holds
end Go.Proofs.Ytjefhneggfbjfaa
