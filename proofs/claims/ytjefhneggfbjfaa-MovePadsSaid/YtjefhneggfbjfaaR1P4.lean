import Derived.Test.YtjefhneggfbjfaaR1P3
namespace Go.AM
open Go Go.Proofs
set_option linter.unusedSimpArgs false
set_option linter.unusedVariables false

theorem inIdx_iff : ∀ {s x : List Int}, InIdx s x ↔ s.length = x.length ∧ ∀ (i : Nat) (m k : Int), s[i]? = some m → x[i]? = some k → 0 ≤ k ∧ k < m
  | [], [] => ⟨fun _ => ⟨rfl, fun i m k h => by simp at h⟩, fun _ => .nil⟩
  | [], _ :: _ => ⟨fun h => (by cases h), fun h => by simp at h⟩
  | _ :: _, [] => ⟨fun h => (by cases h), fun h => by simp at h⟩
  | m :: s, k :: x => by
    constructor
    · intro h
      cases h with
      | cons h0 h1 h =>
        have := inIdx_iff.1 h
        refine ⟨by simp [this.1], fun i m' k' hm hk => ?_⟩
        cases i with
        | zero => simp at hm hk; subst hm hk; exact ⟨h0, h1⟩
        | succ i => exact this.2 i m' k' (by simpa using hm) (by simpa using hk)
    · rintro ⟨h1, h2⟩
      have := h2 0 m k rfl rfl
      exact .cons this.1 this.2 (inIdx_iff.2 ⟨by simpa using h1, fun i m' k' hm hk => h2 (i + 1) m' k' (by simpa using hm) (by simpa using hk)⟩)

theorem InIdx.get {s x : List Int} (h : InIdx s x) {n : Nat} {m : Int} (hm : s[n]? = some m) : ∃ k, x[n]? = some k ∧ 0 ≤ k ∧ k < m := by
  have h1 := inIdx_iff.1 h
  have hn := (List.getElem?_eq_some_iff.1 hm).1
  have hk : x[n]? = some (x[n]'(by omega)) := List.getElem?_eq_getElem (by omega)
  exact ⟨_, hk, h1.2 n _ _ hm hk⟩

theorem InIdx.set {s x : List Int} (h : InIdx s x) (n : Nat) {m k : Int} (h0 : 0 ≤ k) (h1 : k < m) : InIdx (s.set n m) (x.set n k) := by
  have h2 := inIdx_iff.1 h
  refine inIdx_iff.2 ⟨by simp [h2.1], fun i m' k' hm hk => ?_⟩
  by_cases hi : i = n
  · subst hi
    rw [List.getElem?_set] at hm hk
    simp at hm hk
    omega
  · rw [List.getElem?_set_ne (Ne.symm hi)] at hm hk
    exact h2.2 i m' k' hm hk

theorem set_self {s : List Int} {n : Nat} {m : Int} (h : s[n]? = some m) : s.set n m = s := by
  apply List.ext_getElem?
  intro i
  by_cases hi : i = n
  · subst hi
    rw [List.getElem?_set_self (List.getElem?_eq_some_iff.1 h).1, h]
  · rw [List.getElem?_set_ne (Ne.symm hi)]

/-- an index of a shape with another side, and what it is in the shape itself -/
theorem InIdx.reset {s x : List Int} {n : Nat} {m m' k' : Int} (h : InIdx (s.set n m') x) (hm : s[n]? = some m) (h0 : 0 ≤ k') (h1 : k' < m) : InIdx s (x.set n k') := by
  have := h.set n h0 h1
  rw [List.set_set, set_self hm] at this
  exact this

theorem Sides.set {s : List Int} (h : Sides s) (n : Nat) {m : Int} (h1 : 1 ≤ m ∧ m ≤ 16) : Sides (s.set n m) := by
  intro k hk
  rcases List.mem_or_eq_of_mem_set hk with hk | rfl
  · exact h k hk
  · exact h1

theorem prd_set : ∀ {s : List Int} {n : Nat} {m k : Int}, s[n]? = some m → prd (s.set n k) * m = prd s * k
  | [], n, m, k, h => by simp at h
  | a :: s, 0, m, k, h => by
    simp at h; subst h
    simp only [List.set_cons_zero, prd]
    rw [Int.mul_right_comm, Int.mul_comm k a, Int.mul_assoc, Int.mul_comm k, ← Int.mul_assoc]
  | a :: s, n + 1, m, k, h => by
    simp only [List.set_cons_succ, prd]
    rw [Int.mul_assoc, prd_set (s := s) (by simpa using h), Int.mul_assoc]

theorem prd_set_le {s : List Int} {n : Nat} {m k : Int} (hs : Sides s) (h : s[n]? = some m) (h1 : 1 ≤ k ∧ k ≤ m) : prd (s.set n k) ≤ prd s := by
  have hp := prd_set (k := k) h
  have h2 := prd_pos hs
  have hm : 0 < m := by omega
  have h3 : prd s * k ≤ prd s * m := Int.mul_le_mul_of_nonneg_left h1.2 (by omega)
  rw [← hp] at h3
  exact Int.le_of_mul_le_mul_right h3 hm

theorem ShapeOk.cut {s : List Int} (h : ShapeOk s) {n : Nat} {m k : Int} (hm : s[n]? = some m) (h1 : 1 ≤ k ∧ k ≤ m) : ShapeOk (s.set n k) := by
  have hb := h.2.1 m (List.mem_of_getElem? hm)
  exact ⟨by simpa using h.1, h.2.1.set n ⟨h1.1, by omega⟩, by have := prd_set_le h.2.1 hm h1; have := h.2.2; omega⟩

/-- a part -/
def cutD (s d : List Int) (n : Nat) (k f : Int) : List Int := mk (s.set n k) (gS s d n f)

theorem sliceF_bad {s d : List Int} {n : Nat} {m f t : Int} (hc : checkT s d = true) (hm : s[n]? = some m) (h : ¬ (0 ≤ f ∧ f < t ∧ t ≤ m)) : sliceF s d n f t = bad 20 := by
  unfold sliceF
  rw [if_pos hc, if_pos (by simp [hm]; omega)]

theorem sliceF_ok {s d : List Int} {n : Nat} {m f t : Int} (hc : checkT s d = true) (hm : s[n]? = some m) (h : 0 ≤ f ∧ f < t ∧ t ≤ m) :
    sliceF s d n f t = ((s.set n (t - f), cutD s d n (t - f) f), 0) := by
  have hb := (checkT_iff.1 hc).1.2.1 m (List.mem_of_getElem? hm)
  have hn := (List.getElem?_eq_some_iff.1 hm).1
  unfold sliceF
  have hw : w64 (t - f) = t - f := wrap_in (by omega) (by omega)
  rw [if_pos hc, if_neg (by simp [hm]; omega), hw]
  simp [cutD]

theorem cut_check {s d : List Int} {n : Nat} {m f t : Int} (hc : checkT s d = true) (hm : s[n]? = some m) (h : 0 ≤ f ∧ f < t ∧ t ≤ m) : checkT (s.set n (t - f)) (cutD s d n (t - f) f) = true :=
  mk_check ((checkT_iff.1 hc).1.cut hm (by omega)) _

theorem gS_in {s d x : List Int} {n : Nat} {k f : Int} (hk : x[n]? = some k) (h0 : -9223372036854775808 ≤ k + f) (h1 : k + f < 9223372036854775808) : gS s d n f x = (atF s d (x.set n (k + f))).1 := by
  have hw : w64 (k + f) = k + f := wrap_in h0 h1
  simp [gS, hk, hw]

theorem cut_at {s d x : List Int} {n : Nat} {m f t k : Int} (hc : checkT s d = true) (hm : s[n]? = some m) (h : 0 ≤ f ∧ f < t ∧ t ≤ m) (hx : InIdx (s.set n (t - f)) x) (hk : x[n]? = some k) :
    atF (s.set n (t - f)) (cutD s d n (t - f) f) x = atF s d (x.set n (k + f)) ∧ InIdx s (x.set n (k + f)) ∧ 0 ≤ k ∧ k < t - f := by
  have hb := (checkT_iff.1 hc).1.2.1 m (List.mem_of_getElem? hm)
  have hn := (List.getElem?_eq_some_iff.1 hm).1
  obtain ⟨k', hk', h0, h1⟩ := hx.get (n := n) (m := t - f) (List.getElem?_set_self hn)
  rw [hk] at hk'; cases hk'
  have hin : InIdx s (x.set n (k + f)) := hx.reset hm (by omega) (by omega)
  refine ⟨?_, hin, h0, h1⟩
  rw [cutD, mk_at ((checkT_iff.1 hc).1.cut hm (by omega)) hx, gS_in hk (by omega) (by omega), atF_ok hc hin]

theorem set_reverse (s : List Int) (n : Nat) (k : Int) (h : n < s.length) : (s.set n k).reverse = s.reverse.set (s.length - 1 - n) k := by
  apply List.ext_getElem?
  intro i
  by_cases hi : i < s.length
  · rw [List.getElem?_reverse (by simpa using hi), List.length_set]
    by_cases he : i = s.length - 1 - n
    · subst he
      rw [List.getElem?_set_self (by simp; omega), show s.length - 1 - (s.length - 1 - n) = n from by omega, List.getElem?_set_self h]
    · rw [List.getElem?_set_ne (by omega), List.getElem?_set_ne (by omega), List.getElem?_reverse hi]
  · rw [List.getElem?_eq_none (by simp; omega), List.getElem?_eq_none (by simp; omega)]

/-- a part, turned, is the part of what was turned -/
theorem mirror {s d : List Int} {n : Nat} {m f t : Int} (hc : checkT s d = true) (hm : s[n]? = some m) (h : 0 ≤ f ∧ f < t ∧ t ≤ m) :
    turnD (s.set n (t - f)) (cutD s d n (t - f) f) = cutD s.reverse (turnD s d) (s.length - 1 - n) (t - f) f := by
  have hn := (List.getElem?_eq_some_iff.1 hm).1
  have hs := (checkT_iff.1 hc).1
  have hm2 : s.reverse[s.length - 1 - n]? = some m := by
    rw [List.getElem?_reverse (by omega), show s.length - 1 - (s.length - 1 - n) = n from by omega]; exact hm
  have e := set_reverse s n (t - f) hn
  refine tens_ext (s := s.reverse.set (s.length - 1 - n) (t - f)) ?_ (cut_check (turnD_check hc) hm2 h) fun x hx => ?_
  · have := turnD_check (cut_check hc hm h)
    rw [e] at this; exact this
  · have hx' : InIdx (s.set n (t - f)) x.reverse := by
      rw [← e] at hx
      have := hx.reverse
      simpa using this
    have hxl : x.length = s.length := by have := hx'.length; simpa using this.symm
    obtain ⟨k, hk, _⟩ := hx'.get (n := n) (m := t - f) (List.getElem?_set_self hn)
    have hk2 : x[s.length - 1 - n]? = some k := by
      rw [List.getElem?_reverse (by omega)] at hk
      rw [← hxl]; exact hk
    have h1 := cut_at hc hm h hx' hk
    have h2 := cut_at (turnD_check hc) hm2 h hx hk2
    have h3 := turnD_at (cut_check hc hm h) (x := x.reverse)
    rw [List.reverse_reverse, e] at h3
    rw [h3, h1.1, h2.1]
    have h4 := turnD_at hc (x := x.reverse.set n (k + f))
    rw [set_reverse _ _ _ (by simp; omega), List.reverse_reverse, List.length_reverse, hxl] at h4
    rw [h4]
end Go.AM
