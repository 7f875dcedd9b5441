import Derived.Test.YtjefhneggfbjfaaR1W9T
import Derived.Test.YtjefhneggfbjfaaAmL
import Derived.Test.YtjefhneggfbjfaaRows
namespace Go.AM
open Go Go.Proofs Go.Proofs.Ytjefhneggfbjfaa
set_option maxRecDepth 100000
set_option linter.unusedSimpArgs false
set_option linter.unusedVariables false

theorem wf_i64 {n : Int} (h : (Lit.int .i64 n).wf = true) : -9223372036854775808 ≤ n ∧ n < 9223372036854775808 := by
  simp only [Lit.wf, IntKind.has, IntKind.min, IntKind.max, IntKind.bits, IntKind.signed] at h
  simp at h
  omega

theorem conf_int {v : List PV} (h : Conf Try.prog 3 v) : ∃ n : Int, v = [.int .i64 n] ∧ -9223372036854775808 ≤ n ∧ n < 9223372036854775808 := by
  have hu := Try.underlying3
  cases h with
  | bool b ht => rw [hu] at ht; cases ht
  | int n ht hw => rw [hu] at ht; cases ht; exact ⟨n, rfl, wf_i64 hw⟩
  | str s ht => rw [hu] at ht; cases ht
  | sl rows ht h => rw [hu] at ht; cases ht
  | st parts ht h => rw [hu] at ht; cases ht

def i64s (s : List Int) : Prop := ∀ n ∈ s, -9223372036854775808 ≤ n ∧ n < 9223372036854775808

theorem conf_rows : ∀ {rows : List (List PV)}, (∀ r ∈ rows, Conf Try.prog 3 r) → ∃ s : List Int, rows = rI s ∧ i64s s
  | [], _ => ⟨[], rfl, fun n hn => by simp at hn⟩
  | r :: rows, h => by
    obtain ⟨n, rfl, hn⟩ := conf_int (h r (by simp))
    obtain ⟨s, rfl, hs⟩ := conf_rows (rows := rows) fun r hr => h r (by simp [hr])
    exact ⟨n :: s, rfl, fun m hm => by
      rcases List.mem_cons.1 hm with rfl | hm
      · exact hn
      · exact hs m hm⟩

theorem conf_ints {v : List PV} (h : Conf Try.prog 22 v) : ∃ s : List Int, v = [eI s] ∧ i64s s := by
  have hu := Try.underlying22
  cases h with
  | bool b ht => rw [hu] at ht; cases ht
  | int n ht hw => rw [hu] at ht; cases ht
  | str s ht => rw [hu] at ht; cases ht
  | sl rows ht h =>
    rw [hu] at ht; cases ht
    obtain ⟨s, rfl, hs⟩ := conf_rows h
    exact ⟨s, rfl, hs⟩
  | st parts ht h => rw [hu] at ht; cases ht

theorem conf_T {v : List PV} (h : Conf Try.prog 24 v) : ∃ s d : List Int, v = [eI s, eI d] ∧ i64s s ∧ i64s d := by
  have hu := Try.underlying24
  cases h with
  | bool b ht => rw [hu] at ht; cases ht
  | int n ht hw => rw [hu] at ht; cases ht
  | str s ht => rw [hu] at ht; cases ht
  | sl rows ht h => rw [hu] at ht; cases ht
  | st parts ht h =>
    rw [hu] at ht; cases ht
    cases h with | cons h1 h => cases h with | cons h2 h => cases h with | nil =>
      obtain ⟨s, rfl, hs⟩ := conf_ints h1
      obtain ⟨d, rfl, hd⟩ := conf_ints h2
      exact ⟨s, d, rfl, hs, hd⟩

theorem arg_T {d : DV} (h : ArgOk Try.prog 24 d) : ∃ s e : List Int, d = dT s e ∧ i64s s ∧ i64s e := by
  unfold ArgOk at h
  rw [Try.underlying24] at h
  obtain ⟨vs, rfl, h⟩ := h
  obtain ⟨s, e, rfl, hs, he⟩ := conf_T h
  exact ⟨s, e, rfl, hs, he⟩
theorem arg_I {d : DV} (h : ArgOk Try.prog 22 d) : ∃ s : List Int, d = dI s ∧ i64s s := by
  unfold ArgOk at h
  rw [Try.underlying22] at h
  obtain ⟨v, rfl, h⟩ := h
  obtain ⟨s, e, hs⟩ := conf_ints h
  cases e
  exact ⟨s, rfl, hs⟩
theorem arg_N {d : DV} (h : ArgOk Try.prog 3 d) : ∃ n : Int, d = dN n ∧ -9223372036854775808 ≤ n ∧ n < 9223372036854775808 := by
  unfold ArgOk at h
  rw [Try.underlying3] at h
  obtain ⟨v, rfl, h⟩ := h
  obtain ⟨s, e, hs⟩ := conf_int h
  cases e
  exact ⟨s, rfl, hs⟩

theorem own : ownKnob Try.prog.godebug = none := by kernel_rfl
theorem laidOut : laidOutB Try.prog = true := by kernel_rfl

end Go.AM

