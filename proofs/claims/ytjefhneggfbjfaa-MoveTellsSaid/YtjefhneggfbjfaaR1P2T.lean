import Derived.Test.YtjefhneggfbjfaaR1P1T
namespace Go.AM
open Go Go.Proofs
set_option linter.unusedSimpArgs false
set_option linter.unusedVariables false

/-- the index of a place -/
def ix : List Int → Int → List Int
  | [], _ => []
  | m :: s, p => (p / prd s) % m :: ix s p

def dg : List Int → Int → List Int
  | [], _ => []
  | n :: r, p => p % n :: dg r (p / n)

theorem digs_eq : ∀ {l : List Int} {p : Int}, Sides l → 0 ≤ p → p ≤ 4611686018427387904 → digs l p = dg l p
  | [], _, _, _, _ => rfl
  | n :: r, p, h, h0, h1 => by
    have hn := h.head
    have h2 : 0 ≤ p / n := Int.ediv_nonneg h0 (by omega)
    have h3 : p / n ≤ p := Int.ediv_le_self n h0
    simp only [digs, dg]
    rw [Int.tmod_eq_emod_of_nonneg h0, Int.tdiv_eq_ediv_of_nonneg h0, wrap_in (by omega) (by omega), digs_eq h.tail h2 (by omega)]

theorem prd_append : ∀ (l k : List Int), prd (l ++ k) = prd l * prd k
  | [], k => by simp [prd]
  | m :: l, k => by simp [prd, prd_append l k, Int.mul_assoc]
theorem prd_reverse : ∀ (l : List Int), prd l.reverse = prd l
  | [] => rfl
  | m :: l => by simp [prd_append, prd_reverse l, prd, Int.mul_comm]

theorem dg_append : ∀ {l : List Int} {m p : Int}, Sides l → dg (l ++ [m]) p = dg l p ++ [(p / prd l) % m]
  | [], m, p, _ => by simp [dg, prd]
  | n :: l, m, p, h => by
    have hn := h.head
    simp only [List.cons_append, dg, prd]
    rw [dg_append h.tail, Int.ediv_ediv_of_nonneg (by omega)]

theorem Sides.reverse {s : List Int} (h : Sides s) : Sides s.reverse := fun m hm => h m (by simpa using hm)

theorem dg_rev : ∀ {s : List Int} {p : Int}, Sides s → (dg s.reverse p).reverse = ix s p
  | [], _, _ => rfl
  | m :: s, p, h => by
    simp only [List.reverse_cons, ix]
    rw [dg_append h.tail.reverse, List.reverse_append, prd_reverse]
    simp [dg_rev h.tail]

theorem idxF_eq {s : List Int} {p : Int} (h : Sides s) (h0 : 0 ≤ p) (h1 : p ≤ 4611686018427387904) : idxF s p = ix s p := by
  unfold idxF
  rw [digs_eq h.reverse h0 h1, dg_rev h]

theorem ix_in : ∀ {s : List Int} {p : Int}, Sides s → InIdx s (ix s p)
  | [], _, _ => .nil
  | m :: s, p, h => by
    have hm := h.head
    exact .cons (Int.emod_nonneg _ (by omega)) (Int.emod_lt_of_pos _ (by omega)) (ix_in h.tail)

theorem emod_split (p b m : Int) (hb : 0 < b) (hm : 0 < m) : p % (m * b) = (p / b) % m * b + p % b := by
  have h1 := Int.mul_ediv_add_emod p b
  have h2 := Int.mul_ediv_add_emod (p / b) m
  have h3 := Int.emod_nonneg p (b := b) (by omega)
  have h4 := Int.emod_lt_of_pos p hb
  have h5 := Int.emod_nonneg (p / b) (b := m) (by omega)
  have h6 := Int.emod_lt_of_pos (p / b) hm
  generalize p / b / m = q at h2
  generalize (p / b) % m = r at h2 h5 h6 ⊢
  generalize p % b = t at h1 h3 h4 ⊢
  rw [← h2] at h1
  have e : p = (m * b) * q + (r * b + t) := by
    rw [← h1, Int.mul_add, Int.mul_comm b (m * q), Int.mul_assoc, Int.mul_comm q b, Int.mul_comm b r, ← Int.mul_assoc, Int.add_assoc]
  rw [e, Int.mul_add_emod_self_left]
  have h7 : 0 ≤ r * b := Int.mul_nonneg h5 (by omega)
  have h8 : (r + 1) * b ≤ m * b := Int.mul_le_mul_of_nonneg_right (by omega) (by omega)
  rw [Int.add_mul] at h8
  exact Int.emod_eq_of_lt (by omega) (by omega)

theorem pl_ix : ∀ {s : List Int} {p : Int}, Sides s → pl s (ix s p) 0 = p % prd s
  | [], p, _ => by simp [pl, prd, Int.emod_one]
  | m :: s, p, h => by
    have hm := h.head
    have hp := prd_pos h.tail
    simp only [pl, ix, prd]
    rw [pl_add (ix_in h.tail), pl_ix h.tail, emod_split p (prd s) m (by omega) (by omega)]
    simp

theorem ix_pl {s x : List Int} (h : InIdx s x) (hs : Sides s) (a : Int) : ix s (a * prd s + pl s x 0) = x := by
  induction h generalizing a with
  | nil => rfl
  | @cons m k s x h0 h1 h ih =>
    have hl := pl_lt h
    have hp := prd_pos hs.tail
    simp only [ix, prd, pl]
    rw [pl_add h]
    have e : a * (m * prd s) + ((0 * m + k) * prd s + pl s x 0) = (a * m + k) * prd s + pl s x 0 := by
      simp [Int.add_mul, Int.mul_assoc, Int.add_assoc]
    rw [e, ih hs.tail]
    congr 1
    rw [Int.add_comm, Int.add_mul_ediv_right _ _ (by omega), Int.ediv_eq_zero_of_lt hl.1 hl.2, Int.zero_add, Int.mul_comm a m, Int.add_comm, Int.add_mul_emod_self_left]
    exact Int.emod_eq_of_lt h0 h1

theorem pl_ix_lt {s : List Int} {p : Int} (h : Sides s) (h0 : 0 ≤ p) (h1 : p < prd s) : pl s (ix s p) 0 = p := by
  rw [pl_ix h, Int.emod_eq_of_lt h0 h1]
theorem ix_pl0 {s x : List Int} (h : InIdx s x) (hs : Sides s) : ix s (pl s x 0) = x := by
  have := ix_pl h hs 0
  simpa using this
end Go.AM

