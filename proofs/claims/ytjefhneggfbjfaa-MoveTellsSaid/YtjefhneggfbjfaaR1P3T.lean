import Derived.Test.YtjefhneggfbjfaaR1Z1T
namespace Go.AM
open Go Go.Proofs
set_option linter.unusedSimpArgs false
set_option linter.unusedVariables false

theorem mk_len {s : List Int} (h : ShapeOk s) (g : List Int → Int) : ((mk s g).length : Int) = prd s := by
  have := prd_pos h.2.1
  simp only [mk, List.length_map, List.length_range, sizeS_ok h]
  omega

theorem mk_get {s : List Int} (h : ShapeOk s) (g : List Int → Int) {p : Nat} (hp : (p : Int) < prd s) : (mk s g)[p]? = some (g (ix s p)) := by
  have := h.2.2
  simp only [mk, sizeS_ok h, List.getElem?_map]
  rw [List.getElem?_range (by omega)]
  simp only [Option.map_some, Option.some.injEq]
  rw [idxF_eq h.2.1 (by omega) (by omega)]

theorem mk_check {s : List Int} (h : ShapeOk s) (g : List Int → Int) : checkT s (mk s g) = true := checkT_iff.2 ⟨h, mk_len h g⟩

theorem mk_at {s x : List Int} (h : ShapeOk s) (hx : InIdx s x) (g : List Int → Int) : atF s (mk s g) x = (g x, 0) := by
  have hl := pl_lt hx
  rw [atF_ok (mk_check h g) hx, mk_get h g (by omega)]
  have : ((pl s x 0).toNat : Int) = pl s x 0 := by omega
  rw [this, ix_pl0 hx h.2.1]
  rfl

theorem mk_congr {s : List Int} (h : ShapeOk s) {g g' : List Int → Int} (hg : ∀ x, InIdx s x → g x = g' x) : mk s g = mk s g' := by
  apply List.ext_getElem?
  intro p
  by_cases hp : (p : Int) < prd s
  · rw [mk_get h g hp, mk_get h g' hp, hg _ (ix_in h.2.1)]
  · have h1 := mk_len h g
    have h2 := mk_len h g'
    rw [List.getElem?_eq_none (by omega), List.getElem?_eq_none (by omega)]

theorem mk_self {s d : List Int} (h : checkT s d = true) : mk s (fun x => (atF s d x).1) = d := by
  have hs := (checkT_iff.1 h).1
  have hd := (checkT_iff.1 h).2
  apply List.ext_getElem?
  intro p
  by_cases hp : (p : Int) < prd s
  · rw [mk_get hs _ hp, atF_ok h (ix_in hs.2.1), pl_ix_lt hs.2.1 (by omega) hp]
    simp only [Int.toNat_natCast]
    rw [List.getElem?_eq_getElem (by omega)]
    rfl
  · have h1 := mk_len hs fun x => (atF s d x).1
    rw [List.getElem?_eq_none (by omega), List.getElem?_eq_none (by omega)]

theorem tens_ext {s d e : List Int} (h1 : checkT s d = true) (h2 : checkT s e = true) (h : ∀ x, InIdx s x → (atF s d x).1 = (atF s e x).1) : d = e := by
  rw [← mk_self h1, ← mk_self h2]
  exact mk_congr (checkT_iff.1 h1).1 h

theorem InIdx.append {s x t y : List Int} (h : InIdx s x) (k : InIdx t y) : InIdx (s ++ t) (x ++ y) := by
  induction h with
  | nil => exact k
  | cons h0 h1 _ ih => exact .cons h0 h1 ih

theorem InIdx.reverse {s x : List Int} (h : InIdx s x) : InIdx s.reverse x.reverse := by
  induction h with
  | nil => exact .nil
  | cons h0 h1 _ ih =>
    simp only [List.reverse_cons]
    exact ih.append (.cons h0 h1 .nil)

theorem inIdx_reverse {s x : List Int} : InIdx s.reverse x.reverse ↔ InIdx s x :=
  ⟨fun h => by simpa using h.reverse, fun h => h.reverse⟩

theorem ShapeOk.reverse {s : List Int} (h : ShapeOk s) : ShapeOk s.reverse := ⟨by simpa using h.1, h.2.1.reverse, by rw [prd_reverse]; exact h.2.2⟩

theorem turnF_ok {s d : List Int} (h : checkT s d = true) : turnF s d = ((s.reverse, mk s.reverse fun x => (atF s d x.reverse).1), 0) := by
  unfold turnF; rw [if_pos h]
def turnD (s d : List Int) : List Int := mk s.reverse fun x => (atF s d x.reverse).1
theorem turnD_check {s d : List Int} (h : checkT s d = true) : checkT s.reverse (turnD s d) = true := mk_check (checkT_iff.1 h).1.reverse _

theorem turnD_at {s d x : List Int} (h : checkT s d = true) : atF s.reverse (turnD s d) x.reverse = atF s d x := by
  have hs := (checkT_iff.1 h).1
  by_cases hx : InIdx s x
  · rw [turnD, mk_at hs.reverse hx.reverse, List.reverse_reverse, atF_ok h hx]
  · rw [atF_not (turnD_check h) (fun h' => hx (inIdx_reverse.1 h')), atF_not h hx]

theorem turnD_turnD {s d : List Int} (h : checkT s d = true) : turnD s.reverse (turnD s d) = d := by
  have hs := (checkT_iff.1 h).1
  unfold turnD
  rw [List.reverse_reverse]
  have : ∀ x, InIdx s x → (atF s.reverse (mk s.reverse fun x => (atF s d x.reverse).1) x.reverse).1 = (atF s d x).1 := fun x hx => by
    rw [mk_at hs.reverse hx.reverse, List.reverse_reverse]
  rw [mk_congr hs this, mk_self h]

theorem turn_turn {s d : List Int} (h : checkT s d = true) : turnF s.reverse (turnD s d) = ((s, d), 0) := by
  rw [turnF_ok (turnD_check h)]
  have := turnD_turnD h
  unfold turnD at this
  unfold turnD
  rw [this, List.reverse_reverse]

theorem sameL_refl (l : List Int) : sameL l l = true := by
  unfold sameL
  have : ∀ l : List Int, eqL l l = true := by
    intro l
    induction l with
    | nil => rfl
    | cons a l ih => simp [eqL, ih]
  simp [this]

theorem eqL_iff : ∀ {s t : List Int}, s.length = t.length → (eqL s t = true ↔ s = t)
  | [], [], _ => by simp [eqL]
  | a :: s, b :: t, h => by
    simp only [eqL]
    by_cases hab : a = b
    · subst hab; simp [eqL_iff (s := s) (t := t) (by simpa using h)]
    · simp [hab]
theorem sameL_iff {s t : List Int} : sameL s t = true ↔ s = t := by
  unfold sameL
  by_cases h : s.length = t.length
  · rw [if_neg (by simp [h]), eqL_iff h]
  · rw [if_pos (by simp; omega)]
    constructor
    · intro h'; cases h'
    · intro h'; exact absurd (by rw [h']) h
theorem sameT_refl (s d : List Int) : sameT s d s d = true := by unfold sameT; rw [sameL_refl, sameL_refl]; rfl

theorem reshapeF_ok {s d z : List Int} (h : checkT s d = true) (hz : checkS z = true) (he : sizeS z = d.length) : reshapeF s d z = ((z, d), 0) ∧ reshapeF z d s = ((s, d), 0) := by
  have h1 := checkT_iff.1 h
  have h2 : checkT z d = true := by unfold checkT; rw [hz, he]; simp
  refine ⟨?_, ?_⟩
  · unfold reshapeF; rw [if_pos h, if_pos ⟨hz, he⟩]
  · unfold reshapeF; rw [if_pos h2, if_pos ⟨checkS_iff.2 h1.1, by rw [sizeS_ok h1.1, h1.2]⟩]
end Go.AM

namespace Go.AM
open Go Go.Proofs
set_option linter.unusedSimpArgs false
set_option linter.unusedVariables false

theorem inIdx_iff : ∀ {s x : List Int}, InIdx s x ↔ s.length = x.length ∧ ∀ (i : Nat) (m k : Int), s[i]? = some m → x[i]? = some k → 0 ≤ k ∧ k < m
  | [], [] => ⟨fun _ => ⟨rfl, fun i m k h => by simp at h⟩, fun _ => .nil⟩
  | [], _ :: _ => ⟨fun h => (by cases h), fun h => by simp at h⟩
  | _ :: _, [] => ⟨fun h => (by cases h), fun h => by simp at h⟩
  | m :: s, k :: x => by
    constructor
    · intro h
      cases h with
      | cons h0 h1 h =>
        have := inIdx_iff.1 h
        refine ⟨by simp [this.1], fun i m' k' hm hk => ?_⟩
        cases i with
        | zero => simp at hm hk; subst hm hk; exact ⟨h0, h1⟩
        | succ i => exact this.2 i m' k' (by simpa using hm) (by simpa using hk)
    · rintro ⟨h1, h2⟩
      have := h2 0 m k rfl rfl
      exact .cons this.1 this.2 (inIdx_iff.2 ⟨by simpa using h1, fun i m' k' hm hk => h2 (i + 1) m' k' (by simpa using hm) (by simpa using hk)⟩)

theorem InIdx.get {s x : List Int} (h : InIdx s x) {n : Nat} {m : Int} (hm : s[n]? = some m) : ∃ k, x[n]? = some k ∧ 0 ≤ k ∧ k < m := by
  have h1 := inIdx_iff.1 h
  have hn := (List.getElem?_eq_some_iff.1 hm).1
  have hk : x[n]? = some (x[n]'(by omega)) := List.getElem?_eq_getElem (by omega)
  exact ⟨_, hk, h1.2 n _ _ hm hk⟩

theorem InIdx.set {s x : List Int} (h : InIdx s x) (n : Nat) {m k : Int} (h0 : 0 ≤ k) (h1 : k < m) : InIdx (s.set n m) (x.set n k) := by
  have h2 := inIdx_iff.1 h
  refine inIdx_iff.2 ⟨by simp [h2.1], fun i m' k' hm hk => ?_⟩
  by_cases hi : i = n
  · subst hi
    rw [List.getElem?_set] at hm hk
    simp at hm hk
    omega
  · rw [List.getElem?_set_ne (Ne.symm hi)] at hm hk
    exact h2.2 i m' k' hm hk

theorem set_self {s : List Int} {n : Nat} {m : Int} (h : s[n]? = some m) : s.set n m = s := by
  apply List.ext_getElem?
  intro i
  by_cases hi : i = n
  · subst hi
    rw [List.getElem?_set_self (List.getElem?_eq_some_iff.1 h).1, h]
  · rw [List.getElem?_set_ne (Ne.symm hi)]

/-- an index of a shape with another side, and what it is in the shape itself -/
theorem InIdx.reset {s x : List Int} {n : Nat} {m m' k' : Int} (h : InIdx (s.set n m') x) (hm : s[n]? = some m) (h0 : 0 ≤ k') (h1 : k' < m) : InIdx s (x.set n k') := by
  have := h.set n h0 h1
  rw [List.set_set, set_self hm] at this
  exact this

theorem Sides.set {s : List Int} (h : Sides s) (n : Nat) {m : Int} (h1 : 1 ≤ m ∧ m ≤ 16) : Sides (s.set n m) := by
  intro k hk
  rcases List.mem_or_eq_of_mem_set hk with hk | rfl
  · exact h k hk
  · exact h1

theorem prd_set : ∀ {s : List Int} {n : Nat} {m k : Int}, s[n]? = some m → prd (s.set n k) * m = prd s * k
  | [], n, m, k, h => by simp at h
  | a :: s, 0, m, k, h => by
    simp at h; subst h
    simp only [List.set_cons_zero, prd]
    rw [Int.mul_right_comm, Int.mul_comm k a, Int.mul_assoc, Int.mul_comm k, ← Int.mul_assoc]
  | a :: s, n + 1, m, k, h => by
    simp only [List.set_cons_succ, prd]
    rw [Int.mul_assoc, prd_set (s := s) (by simpa using h), Int.mul_assoc]

theorem prd_set_le {s : List Int} {n : Nat} {m k : Int} (hs : Sides s) (h : s[n]? = some m) (h1 : 1 ≤ k ∧ k ≤ m) : prd (s.set n k) ≤ prd s := by
  have hp := prd_set (k := k) h
  have h2 := prd_pos hs
  have hm : 0 < m := by omega
  have h3 : prd s * k ≤ prd s * m := Int.mul_le_mul_of_nonneg_left h1.2 (by omega)
  rw [← hp] at h3
  exact Int.le_of_mul_le_mul_right h3 hm

theorem ShapeOk.cut {s : List Int} (h : ShapeOk s) {n : Nat} {m k : Int} (hm : s[n]? = some m) (h1 : 1 ≤ k ∧ k ≤ m) : ShapeOk (s.set n k) := by
  have hb := h.2.1 m (List.mem_of_getElem? hm)
  exact ⟨by simpa using h.1, h.2.1.set n ⟨h1.1, by omega⟩, by have := prd_set_le h.2.1 hm h1; have := h.2.2; omega⟩

/-- a part -/
def cutD (s d : List Int) (n : Nat) (k f : Int) : List Int := mk (s.set n k) (gS s d n f)

theorem sliceF_bad {s d : List Int} {n : Nat} {m f t : Int} (hc : checkT s d = true) (hm : s[n]? = some m) (h : ¬ (0 ≤ f ∧ f < t ∧ t ≤ m)) : sliceF s d n f t = bad 20 := by
  unfold sliceF
  rw [if_pos hc, if_pos (by simp [hm]; omega)]

theorem sliceF_ok {s d : List Int} {n : Nat} {m f t : Int} (hc : checkT s d = true) (hm : s[n]? = some m) (h : 0 ≤ f ∧ f < t ∧ t ≤ m) :
    sliceF s d n f t = ((s.set n (t - f), cutD s d n (t - f) f), 0) := by
  have hb := (checkT_iff.1 hc).1.2.1 m (List.mem_of_getElem? hm)
  have hn := (List.getElem?_eq_some_iff.1 hm).1
  unfold sliceF
  have hw : w64 (t - f) = t - f := wrap_in (by omega) (by omega)
  rw [if_pos hc, if_neg (by simp [hm]; omega), hw]
  simp [cutD]

theorem cut_check {s d : List Int} {n : Nat} {m f t : Int} (hc : checkT s d = true) (hm : s[n]? = some m) (h : 0 ≤ f ∧ f < t ∧ t ≤ m) : checkT (s.set n (t - f)) (cutD s d n (t - f) f) = true :=
  mk_check ((checkT_iff.1 hc).1.cut hm (by omega)) _

theorem gS_in {s d x : List Int} {n : Nat} {k f : Int} (hk : x[n]? = some k) (h0 : -9223372036854775808 ≤ k + f) (h1 : k + f < 9223372036854775808) : gS s d n f x = (atF s d (x.set n (k + f))).1 := by
  have hw : w64 (k + f) = k + f := wrap_in h0 h1
  simp [gS, hk, hw]

theorem cut_at {s d x : List Int} {n : Nat} {m f t k : Int} (hc : checkT s d = true) (hm : s[n]? = some m) (h : 0 ≤ f ∧ f < t ∧ t ≤ m) (hx : InIdx (s.set n (t - f)) x) (hk : x[n]? = some k) :
    atF (s.set n (t - f)) (cutD s d n (t - f) f) x = atF s d (x.set n (k + f)) ∧ InIdx s (x.set n (k + f)) ∧ 0 ≤ k ∧ k < t - f := by
  have hb := (checkT_iff.1 hc).1.2.1 m (List.mem_of_getElem? hm)
  have hn := (List.getElem?_eq_some_iff.1 hm).1
  obtain ⟨k', hk', h0, h1⟩ := hx.get (n := n) (m := t - f) (List.getElem?_set_self hn)
  rw [hk] at hk'; cases hk'
  have hin : InIdx s (x.set n (k + f)) := hx.reset hm (by omega) (by omega)
  refine ⟨?_, hin, h0, h1⟩
  rw [cutD, mk_at ((checkT_iff.1 hc).1.cut hm (by omega)) hx, gS_in hk (by omega) (by omega), atF_ok hc hin]

theorem set_reverse (s : List Int) (n : Nat) (k : Int) (h : n < s.length) : (s.set n k).reverse = s.reverse.set (s.length - 1 - n) k := by
  apply List.ext_getElem?
  intro i
  by_cases hi : i < s.length
  · rw [List.getElem?_reverse (by simpa using hi), List.length_set]
    by_cases he : i = s.length - 1 - n
    · subst he
      rw [List.getElem?_set_self (by simp; omega), show s.length - 1 - (s.length - 1 - n) = n from by omega, List.getElem?_set_self h]
    · rw [List.getElem?_set_ne (by omega), List.getElem?_set_ne (by omega), List.getElem?_reverse hi]
  · rw [List.getElem?_eq_none (by simp; omega), List.getElem?_eq_none (by simp; omega)]

/-- a part, turned, is the part of what was turned -/
theorem mirror {s d : List Int} {n : Nat} {m f t : Int} (hc : checkT s d = true) (hm : s[n]? = some m) (h : 0 ≤ f ∧ f < t ∧ t ≤ m) :
    turnD (s.set n (t - f)) (cutD s d n (t - f) f) = cutD s.reverse (turnD s d) (s.length - 1 - n) (t - f) f := by
  have hn := (List.getElem?_eq_some_iff.1 hm).1
  have hs := (checkT_iff.1 hc).1
  have hm2 : s.reverse[s.length - 1 - n]? = some m := by
    rw [List.getElem?_reverse (by omega), show s.length - 1 - (s.length - 1 - n) = n from by omega]; exact hm
  have e := set_reverse s n (t - f) hn
  refine tens_ext (s := s.reverse.set (s.length - 1 - n) (t - f)) ?_ (cut_check (turnD_check hc) hm2 h) fun x hx => ?_
  · have := turnD_check (cut_check hc hm h)
    rw [e] at this; exact this
  · have hx' : InIdx (s.set n (t - f)) x.reverse := by
      rw [← e] at hx
      have := hx.reverse
      simpa using this
    have hxl : x.length = s.length := by have := hx'.length; simpa using this.symm
    obtain ⟨k, hk, _⟩ := hx'.get (n := n) (m := t - f) (List.getElem?_set_self hn)
    have hk2 : x[s.length - 1 - n]? = some k := by
      rw [List.getElem?_reverse (by omega)] at hk
      rw [← hxl]; exact hk
    have h1 := cut_at hc hm h hx' hk
    have h2 := cut_at (turnD_check hc) hm2 h hx hk2
    have h3 := turnD_at (cut_check hc hm h) (x := x.reverse)
    rw [List.reverse_reverse, e] at h3
    rw [h3, h1.1, h2.1]
    have h4 := turnD_at hc (x := x.reverse.set n (k + f))
    rw [set_reverse _ _ _ (by simp; omega), List.reverse_reverse, List.length_reverse, hxl] at h4
    rw [h4]
end Go.AM

namespace Go.AM
open Go Go.Proofs
set_option linter.unusedSimpArgs false
set_option linter.unusedVariables false

def joinD (s d t e : List Int) (n : Nat) (k m : Int) : List Int := mk (s.set n (k + m)) (gJ s d t e n k)

/-- what two that are joined must be -/
structure Joins (s d t e : List Int) (n : Nat) (k m : Int) : Prop where
  one : checkT s d = true
  two : checkT t e = true
  hk : s[n]? = some k
  hm : t[n]? = some m
  like : t = s.set n m
  ok : ShapeOk (s.set n (k + m))

theorem Joins.kb {s d t e : List Int} {n : Nat} {k m : Int} (h : Joins s d t e n k m) : 1 ≤ k ∧ k ≤ 16 := (checkT_iff.1 h.one).1.2.1 k (List.mem_of_getElem? h.hk)
theorem Joins.mb {s d t e : List Int} {n : Nat} {k m : Int} (h : Joins s d t e n k m) : 1 ≤ m ∧ m ≤ 16 := (checkT_iff.1 h.two).1.2.1 m (List.mem_of_getElem? h.hm)
theorem Joins.lt {s d t e : List Int} {n : Nat} {k m : Int} (h : Joins s d t e n k m) : n < s.length := (List.getElem?_eq_some_iff.1 h.hk).1

theorem join_ok {s d t e : List Int} {n : Nat} {k m : Int} (h : Joins s d t e n k m) : joinF s d t e n = ((s.set n (k + m), joinD s d t e n k m), 0) := by
  have hk := h.kb; have hm := h.mb; have hn := h.lt
  have hw : w64 (k + m) = k + m := wrap_in (by omega) (by omega)
  have hl : s.length = t.length := by rw [h.like]; simp
  have h1 : sameL (s.set n m) t = true := sameL_iff.2 h.like.symm
  have h2 : checkS (s.set n (k + m)) = true := checkS_iff.2 h.ok
  unfold joinF
  rw [if_pos ⟨h.one, h.two⟩, if_neg]
  · simp [h.hk, h.hm, hw, joinD]
  · simp only [Int.toNat_natCast, h.hk, h.hm, Option.getD_some, hw, h1, h2, hl, not_or]
    refine ⟨by omega, by omega, by simp, by simp, by simp⟩

theorem join_cases {s d t e : List Int} {n : Nat} {k : Int} (hc : checkT s d = true) (hk : s[n]? = some k) :
    (∃ m, Joins s d t e n k m) ∨ ∃ c, (c = 20 ∨ c = 30) ∧ joinF s d t e n = bad c := by
  have hn := (List.getElem?_eq_some_iff.1 hk).1
  have hkb := (checkT_iff.1 hc).1.2.1 k (List.mem_of_getElem? hk)
  unfold joinF
  by_cases h2 : checkT t e = true
  · rw [if_pos ⟨hc, h2⟩]
    split
    · exact .inr ⟨20, .inl rfl, rfl⟩
    · rename_i h
      simp only [Int.toNat_natCast, hk, Option.getD_some, not_or, Bool.not_eq_false] at h
      obtain ⟨_, _, h3, h4, h5⟩ := h
      have h3 : s.length = t.length := by omega
      have hm : t[n]? = some (t[n]'(by omega)) := List.getElem?_eq_getElem (by omega)
      rw [hm] at h4 h5
      simp only [Option.getD_some] at h4 h5
      have hmb := (checkT_iff.1 h2).1.2.1 _ (List.mem_of_getElem? hm)
      have hw : w64 (k + t[n]) = k + t[n] := wrap_in (by omega) (by omega)
      rw [hw] at h5
      exact .inl ⟨_, hc, h2, hk, hm, (sameL_iff.1 h4).symm, checkS_iff.1 h5⟩
  · rw [if_neg (fun h => h2 h.2)]
    exact .inr ⟨30, .inr rfl, rfl⟩

theorem joinD_check {s d t e : List Int} {n : Nat} {k m : Int} (h : Joins s d t e n k m) : checkT (s.set n (k + m)) (joinD s d t e n k m) = true := mk_check h.ok _

theorem join_at {s d t e x : List Int} {n : Nat} {k m i : Int} (h : Joins s d t e n k m) (hx : InIdx (s.set n (k + m)) x) (hi : x[n]? = some i) :
    (i < k → InIdx s x ∧ atF (s.set n (k + m)) (joinD s d t e n k m) x = atF s d x) ∧
    (k ≤ i → InIdx t (x.set n (i - k)) ∧ atF (s.set n (k + m)) (joinD s d t e n k m) x = atF t e (x.set n (i - k))) := by
  have hkb := h.kb; have hmb := h.mb; have hn := h.lt
  obtain ⟨i', hi', h0, h1⟩ := hx.get (n := n) (m := k + m) (List.getElem?_set_self hn)
  rw [hi] at hi'; cases hi'
  rw [joinD, mk_at h.ok hx]
  refine ⟨fun hlt => ?_, fun hle => ?_⟩
  · have hin : InIdx s x := by
      have := hx.reset h.hk (k' := i) h0 hlt
      rwa [set_self hi] at this
    refine ⟨hin, ?_⟩
    have hw : w64 (i + 0) = i := by rw [Int.add_zero]; exact wrap_in (by omega) (by omega)
    unfold gJ
    rw [hi]
    simp only [Option.getD_some]
    rw [if_pos hlt, hw, set_self hi, atF_ok h.one hin]
  · have hin : InIdx t (x.set n (i - k)) := by
      have := hx.set n (m := m) (k := i - k) (by omega) (by omega)
      rw [List.set_set] at this
      rw [h.like]; exact this
    refine ⟨hin, ?_⟩
    have hw : w64 (0 - k) = -k := by rw [Int.zero_sub]; exact wrap_in (by omega) (by omega)
    have hw2 : w64 (i + -k) = i - k := (wrap_in (n := i + -k) (by omega) (by omega)).trans (by omega)
    unfold gJ
    rw [hi]
    simp only [Option.getD_some]
    rw [if_neg (by omega), hw, hw2, atF_ok h.two hin]

/-- joined of its two parts -/
theorem parts_join {s d : List Int} {n : Nat} {m a : Int} (hc : checkT s d = true) (hm : s[n]? = some m) (h : 1 ≤ a ∧ a < m) :
    joinF (s.set n (a - 0)) (cutD s d n (a - 0) 0) (s.set n (m - a)) (cutD s d n (m - a) a) n = ((s, d), 0) := by
  have hn := (List.getElem?_eq_some_iff.1 hm).1
  have hs := (checkT_iff.1 hc).1
  have h1 : 0 ≤ (0 : Int) ∧ 0 < a ∧ a ≤ m := by omega
  have h2 : 0 ≤ a ∧ a < m ∧ m ≤ m := by omega
  have hz : (s.set n (a - 0)).set n (a + (m - a)) = s := by rw [List.set_set, show a + (m - a) = m from by omega, set_self hm]
  have J : Joins (s.set n (a - 0)) (cutD s d n (a - 0) 0) (s.set n (m - a)) (cutD s d n (m - a) a) n a (m - a) := by
    refine ⟨cut_check hc hm h1, cut_check hc hm h2, by rw [List.getElem?_set_self hn, Int.sub_zero], List.getElem?_set_self hn, by rw [List.set_set], by rw [hz]; exact hs⟩
  rw [join_ok J, hz]
  have key : joinD (s.set n (a - 0)) (cutD s d n (a - 0) 0) (s.set n (m - a)) (cutD s d n (m - a) a) n a (m - a) = d := by
    have hck := joinD_check J
    rw [hz] at hck
    refine tens_ext hck hc fun x hx => ?_
    obtain ⟨i, hi, h0, h3⟩ := hx.get hm
    have hx' : InIdx ((s.set n (a - 0)).set n (a + (m - a))) x := by rw [hz]; exact hx
    have hat := join_at J hx' hi
    rw [hz] at hat
    by_cases hlt : i < a
    · obtain ⟨q1, q2⟩ := hat.1 hlt
      have := (cut_at hc hm h1 q1 hi).1
      rw [q2, this, Int.add_zero, set_self hi]
    · obtain ⟨q1, q2⟩ := hat.2 (by omega)
      have hxn : n < x.length := (List.getElem?_eq_some_iff.1 hi).1
      have := (cut_at hc hm h2 q1 (List.getElem?_set_self hxn)).1
      rw [q2, this, List.set_set, show i - a + a = i from by omega, set_self hi]
  rw [key]

/-- what was joined is cut into both again -/
theorem join_first {s d t e : List Int} {n : Nat} {k m : Int} (h : Joins s d t e n k m) : sliceF (s.set n (k + m)) (joinD s d t e n k m) n 0 k = ((s, d), 0) := by
  have hkb := h.kb; have hmb := h.mb; have hn := h.lt
  have hz : (s.set n (k + m))[n]? = some (k + m) := List.getElem?_set_self hn
  have h1 : 0 ≤ (0 : Int) ∧ 0 < k ∧ k ≤ k + m := by omega
  have hs : (s.set n (k + m)).set n (k - 0) = s := by rw [List.set_set, Int.sub_zero, set_self h.hk]
  rw [sliceF_ok (joinD_check h) hz h1, hs]
  have hck := cut_check (joinD_check h) hz h1
  rw [hs] at hck
  have : cutD (s.set n (k + m)) (joinD s d t e n k m) n (k - 0) 0 = d := by
    refine tens_ext hck h.one fun x hx => ?_
    obtain ⟨i, hi, h0, h3⟩ := hx.get h.hk
    have hx' : InIdx ((s.set n (k + m)).set n (k - 0)) x := by rw [hs]; exact hx
    obtain ⟨q1, q2, _⟩ := cut_at (joinD_check h) hz h1 hx' hi
    rw [hs] at q1
    rw [Int.add_zero, set_self hi] at q1 q2
    rw [q1, ((join_at h q2 hi).1 h3).2]
  rw [this]

theorem join_second {s d t e : List Int} {n : Nat} {k m : Int} (h : Joins s d t e n k m) : sliceF (s.set n (k + m)) (joinD s d t e n k m) n k (k + m) = ((t, e), 0) := by
  have hkb := h.kb; have hmb := h.mb; have hn := h.lt
  have hz : (s.set n (k + m))[n]? = some (k + m) := List.getElem?_set_self hn
  have h1 : 0 ≤ k ∧ k < k + m ∧ k + m ≤ k + m := by omega
  have hs : (s.set n (k + m)).set n (k + m - k) = t := by rw [List.set_set, show k + m - k = m from by omega, h.like]
  rw [sliceF_ok (joinD_check h) hz h1, hs]
  have hck := cut_check (joinD_check h) hz h1
  rw [hs] at hck
  have : cutD (s.set n (k + m)) (joinD s d t e n k m) n (k + m - k) k = e := by
    refine tens_ext hck h.two fun x hx => ?_
    obtain ⟨i, hi, h0, h3⟩ := hx.get h.hm
    have hxn : n < x.length := (List.getElem?_eq_some_iff.1 hi).1
    have hx' : InIdx ((s.set n (k + m)).set n (k + m - k)) x := by rw [hs]; exact hx
    obtain ⟨q1, q2, _⟩ := cut_at (joinD_check h) hz h1 hx' hi
    rw [hs] at q1
    obtain ⟨r1, r2⟩ := (join_at h q2 (List.getElem?_set_self hxn)).2 (by omega)
    rw [List.set_set, show i + k - k = i from by omega, set_self hi] at r2
    rw [q1, r2]
  rw [this]
end Go.AM

namespace Go.AM
open Go Go.Proofs
set_option linter.unusedSimpArgs false
set_option linter.unusedVariables false

/-! ### sums -/
def sumR : Nat → (Nat → Int) → Int
  | 0, _ => 0
  | n + 1, f => sumR n f + f n

theorem sumR_congr {f g : Nat → Int} : ∀ {n : Nat}, (∀ i, i < n → f i = g i) → sumR n f = sumR n g
  | 0, _ => rfl
  | n + 1, h => by simp only [sumR]; rw [sumR_congr fun i hi => h i (by omega), h n (by omega)]
theorem sumR_zero : ∀ (n : Nat), sumR n (fun _ => 0) = 0
  | 0 => rfl
  | n + 1 => by simp only [sumR]; rw [sumR_zero n]; rfl
theorem sumR_plus (f g : Nat → Int) : ∀ (n : Nat), sumR n (fun i => f i + g i) = sumR n f + sumR n g
  | 0 => rfl
  | n + 1 => by simp only [sumR]; rw [sumR_plus f g n]; omega
theorem sumR_add (a : Nat) (f : Nat → Int) : ∀ (b : Nat), sumR (a + b) f = sumR a f + sumR b fun i => f (a + i)
  | 0 => by simp [sumR]
  | b + 1 => by rw [← Nat.add_assoc]; simp only [sumR]; rw [sumR_add a f b]; omega
theorem sumR_mul (b : Nat) (f : Nat → Int) : ∀ (m : Nat), sumR (m * b) f = sumR m fun k => sumR b fun q => f (k * b + q)
  | 0 => by simp [sumR]
  | m + 1 => by rw [Nat.add_mul, Nat.one_mul, sumR_add, sumR_mul b f m]; rfl
theorem sumR_swap (f : Nat → Nat → Int) (b : Nat) : ∀ (a : Nat), sumR a (fun i => sumR b fun j => f i j) = sumR b fun j => sumR a fun i => f i j
  | 0 => by simp only [sumR]; rw [sumR_zero]
  | a + 1 => by simp only [sumR]; rw [sumR_swap f b a, sumR_plus]

theorem sum_range (g : Nat → Int) : ∀ (n : Nat), ((List.range n).map g).sum = sumR n g
  | 0 => rfl
  | n + 1 => by rw [List.range_succ, List.map_append, List.sum_append, sum_range g n]; simp [sumR]

/-- over all indices of a shape -/
def sumX : List Int → (List Int → Int) → Int
  | [], g => g []
  | m :: s, g => sumR m.toNat fun k => sumX s fun x => g ((k : Int) :: x)

theorem sumX_congr : ∀ {s : List Int} {g g' : List Int → Int}, (∀ x, InIdx s x → g x = g' x) → sumX s g = sumX s g'
  | [], g, g', h => h [] .nil
  | m :: s, g, g', h => by
    simp only [sumX]
    exact sumR_congr fun k hk => sumX_congr fun x hx => h _ (.cons (by omega) (by omega) hx)

theorem sumX_zero : ∀ (s : List Int), sumX s (fun _ => 0) = 0
  | [] => rfl
  | m :: s => by simp only [sumX]; rw [sumX_zero s, sumR_zero]

theorem sumX_plus (f g : List Int → Int) : ∀ (s : List Int), sumX s (fun x => f x + g x) = sumX s f + sumX s g
  | [] => rfl
  | m :: s => by
    simp only [sumX]
    rw [sumR_congr (g := fun k => sumX s (fun x => f ((k : Int) :: x)) + sumX s fun x => g ((k : Int) :: x)) fun k _ => sumX_plus (fun x => f ((k : Int) :: x)) (fun x => g ((k : Int) :: x)) s, sumR_plus]

theorem sumX_sumR (h : List Int → Nat → Int) (n : Nat) : ∀ (s : List Int), sumX s (fun x => sumR n fun k => h x k) = sumR n fun k => sumX s fun x => h x k
  | [] => rfl
  | m :: s => by
    simp only [sumX]
    rw [sumR_congr fun k _ => sumX_sumR (fun x => h ((k : Int) :: x)) n s, sumR_swap]

theorem sumX_append (t : List Int) : ∀ (s : List Int) (g : List Int → Int), sumX (s ++ t) g = sumX s fun x => sumX t fun y => g (x ++ y)
  | [], g => rfl
  | m :: s, g => by
    simp only [List.cons_append, sumX]
    exact sumR_congr fun k _ => sumX_append t s fun x => g ((k : Int) :: x)

theorem sumX_reverse : ∀ (s : List Int) (g : List Int → Int), sumX s.reverse (fun x => g x.reverse) = sumX s g
  | [], g => rfl
  | m :: s, g => by
    simp only [List.reverse_cons, sumX]
    rw [sumX_append]
    have : ∀ x, sumX [m] (fun y => g (x ++ y).reverse) = sumR m.toNat fun k => g ((k : Int) :: x.reverse) := fun x => by
      simp only [sumX, List.reverse_append, List.reverse_cons, List.reverse_nil, List.nil_append, List.cons_append]
    rw [sumX_congr fun x _ => this x, sumX_sumR (fun x k => g ((k : Int) :: x.reverse))]
    exact sumR_congr fun k _ => sumX_reverse s fun x => g ((k : Int) :: x)

/-- a side in two parts -/
theorem sumX_split : ∀ {s : List Int} {n : Nat} {a b : Int} (g : List Int → Int), n < s.length → 0 ≤ a → 0 ≤ b →
    sumX (s.set n (a + b)) g = sumX (s.set n a) g + sumX (s.set n b) fun x => g (x.set n ((x[n]?).getD 0 + a))
  | [], n, a, b, g, hn, _, _ => by simp at hn
  | m :: s, 0, a, b, g, hn, ha, hb => by
    simp only [List.set_cons_zero, sumX]
    rw [show (a + b).toNat = a.toNat + b.toNat from by omega, sumR_add]
    congr 1
    refine sumR_congr fun k _ => ?_
    have : ((a.toNat + k : Nat) : Int) = (k : Int) + a := by omega
    rw [this]
    rfl
  | m :: s, n + 1, a, b, g, hn, ha, hb => by
    simp only [List.set_cons_succ, sumX]
    rw [← sumR_plus]
    refine sumR_congr fun k _ => ?_
    rw [sumX_split (s := s) (n := n) _ (by simpa using hn) ha hb]
    rfl

theorem mk_sum {s : List Int} (h : ShapeOk s) (g : List Int → Int) : (mk s g).sum = sumX s g := by
  have e : mk s g = (List.range (prd s).toNat).map fun p => g (ix s ((p : Nat) : Int)) := by
    have := h.2.2
    unfold mk
    rw [sizeS_ok h]
    refine List.map_congr_left fun p hp => ?_
    rw [idxF_eq h.2.1 (by omega) (by simp at hp; omega)]
  rw [e, sum_range]
  clear e
  have key : ∀ {s : List Int} (g : List Int → Int), Sides s → sumR (prd s).toNat (fun p => g (ix s (p : Int))) = sumX s g := by
    intro s
    induction s with
    | nil => intro g _; simp [prd, sumR, sumX, ix]
    | cons m s ih =>
      intro g hs
      have hm := hs.head
      have hp := prd_pos hs.tail
      simp only [prd, sumX]
      have e1 : (m * prd s).toNat = m.toNat * (prd s).toNat := by
        have : ((m.toNat * (prd s).toNat : Nat) : Int) = m * prd s := by
          rw [Int.natCast_mul, Int.toNat_of_nonneg (by omega), Int.toNat_of_nonneg (by omega)]
        omega
      rw [e1, sumR_mul]
      refine sumR_congr fun k hk => ?_
      rw [← ih (fun x => g ((k : Int) :: x)) hs.tail]
      refine sumR_congr fun q hq => ?_
      have e2 : ((k * (prd s).toNat + q : Nat) : Int) = (q : Int) + (k : Int) * prd s := by
        rw [Int.natCast_add, Int.natCast_mul, Int.toNat_of_nonneg (by omega)]; omega
      have hq2 : (q : Int) < prd s := by omega
      have hix : ix s ((k * (prd s).toNat + q : Nat) : Int) = ix s (q : Int) := by
        rw [e2]
        have hin := ix_in (s := s) (p := (q : Int)) hs.tail
        have hpl := pl_ix_lt hs.tail (by omega : (0 : Int) ≤ q) hq2
        have := ix_pl hin hs.tail (k : Int)
        rw [hpl] at this
        rw [Int.add_comm]; exact this
      simp only [ix, hix]
      congr 2
      rw [e2, Int.add_mul_ediv_right _ _ (by omega), Int.ediv_eq_zero_of_lt (by omega) hq2, Int.zero_add]
      exact Int.emod_eq_of_lt (by omega) (by omega)
  exact key g h.2.1

theorem data_sum {s d : List Int} (h : checkT s d = true) : d.sum = sumX s fun x => (atF s d x).1 := by
  have := mk_sum (checkT_iff.1 h).1 fun x => (atF s d x).1
  rw [mk_self h] at this
  exact this

theorem turn_sum {s d : List Int} (h : checkT s d = true) : (turnD s d).sum = d.sum := by
  rw [turnD, mk_sum (checkT_iff.1 h).1.reverse, sumX_reverse s fun x => (atF s d x).1, data_sum h]

theorem join_sum {s d t e : List Int} {n : Nat} {k m : Int} (h : Joins s d t e n k m) : (joinD s d t e n k m).sum = d.sum + e.sum := by
  have hkb := h.kb; have hmb := h.mb; have hn := h.lt
  rw [data_sum (joinD_check h), sumX_split _ hn (by omega) (by omega), set_self h.hk, ← h.like, data_sum h.one, data_sum h.two]
  congr 1
  · refine sumX_congr fun x hx => ?_
    obtain ⟨i, hi, h0, h1⟩ := hx.get h.hk
    have hx' : InIdx (s.set n (k + m)) x := by
      have := hx.set n (m := k + m) (k := i) h0 (by omega)
      rwa [set_self hi] at this
    rw [((join_at h hx' hi).1 h1).2]
  · refine sumX_congr fun x hx => ?_
    obtain ⟨i, hi, h0, h1⟩ := hx.get h.hm
    have hxn := (List.getElem?_eq_some_iff.1 hi).1
    have hx' : InIdx (s.set n (k + m)) (x.set n (i + k)) := by
      have := hx.set n (m := k + m) (k := i + k) (by omega) (by omega)
      rw [h.like, List.set_set] at this
      exact this
    rw [hi]
    simp only [Option.getD_some]
    rw [((join_at h hx' (List.getElem?_set_self hxn)).2 (by omega)).2, List.set_set, show i + k - k = i from by omega, set_self hi]

/-- a part of a part -/
theorem cut_cut {s d : List Int} {n : Nat} {m f t a : Int} (hc : checkT s d = true) (hm : s[n]? = some m) (h : 0 ≤ f ∧ f < t ∧ t ≤ m) (ha : 0 ≤ a ∧ a < t - f) :
    cutD (s.set n (t - f)) (cutD s d n (t - f) f) n (t - f - a) a = cutD s d n (t - (f + a)) (f + a) := by
  have hn := (List.getElem?_eq_some_iff.1 hm).1
  have h1 : (s.set n (t - f))[n]? = some (t - f) := List.getElem?_set_self hn
  have h2 : 0 ≤ a ∧ a < t - f ∧ t - f ≤ t - f := by omega
  have h3 : 0 ≤ f + a ∧ f + a < t ∧ t ≤ m := by omega
  have e : t - (f + a) = t - f - a := by omega
  have hck := cut_check (cut_check hc hm h) h1 h2
  rw [List.set_set] at hck
  have hck2 := cut_check hc hm h3
  rw [e] at hck2 ⊢
  refine tens_ext hck hck2 fun x hx => ?_
  obtain ⟨i, hi, h0, h4⟩ := hx.get (n := n) (m := t - f - a) (List.getElem?_set_self hn)
  have hxn := (List.getElem?_eq_some_iff.1 hi).1
  have hx' : InIdx ((s.set n (t - f)).set n (t - f - a)) x := by rw [List.set_set]; exact hx
  obtain ⟨q1, q2, _⟩ := cut_at (cut_check hc hm h) h1 h2 hx' hi
  obtain ⟨r1, _⟩ := cut_at hc hm h q2 (List.getElem?_set_self hxn)
  have hx2 : InIdx (s.set n (t - (f + a))) x := by rw [e]; exact hx
  obtain ⟨p1, _⟩ := cut_at hc hm h3 hx2 hi
  rw [List.set_set] at q1
  rw [e] at p1
  rw [q1, r1, p1, List.set_set, show i + a + f = i + (f + a) from by omega]

/-- a sum, as the program takes it -/
def totW : List Int → Int → Int
  | [], a => a
  | x :: r, a => totW r (w64 (a + x))

theorem wrap_def (n : Int) : w64 n = (n + 9223372036854775808) % 18446744073709551616 - 9223372036854775808 := by
  simp only [w64, IntKind.wrap, IntKind.bits, IntKind.signed]
  simp
  omega

theorem wrap_add (a b : Int) : w64 (w64 a + b) = w64 (a + b) := by
  rw [wrap_def, wrap_def, wrap_def]
  omega
theorem wrap_two (a : Int) : w64 (2 * w64 a) = w64 (2 * a) := by
  rw [wrap_def, wrap_def, wrap_def]
  omega

theorem totW_eq : ∀ (d : List Int) (a : Int), w64 (totW d a) = w64 (a + d.sum)
  | [], a => by simp [totW]
  | x :: r, a => by
    simp only [totW, List.sum_cons]
    rw [totW_eq r, wrap_add, Int.add_assoc]

theorem totW_range : ∀ (d : List Int) (a : Int), -9223372036854775808 ≤ a ∧ a < 9223372036854775808 → -9223372036854775808 ≤ totW d a ∧ totW d a < 9223372036854775808
  | [], a, h => h
  | x :: r, a, h => by
    simp only [totW]
    refine totW_range r _ ?_
    rw [wrap_def]; omega

theorem totW_sum (d : List Int) : totW d 0 = w64 d.sum := by
  have h := totW_eq d 0
  have h2 := totW_range d 0 (by decide)
  rw [Int.zero_add] at h
  rw [← h]
  exact (wrap_in h2.1 h2.2).symm
end Go.AM

namespace Go.AM
open Go Go.Proofs
set_option linter.unusedSimpArgs false
set_option linter.unusedVariables false

/-- what is laid back -/
structure Pads (s d : List Int) (n : Nat) (m f z : Int) : Prop where
  one : checkT s d = true
  hm : s[n]? = some m
  f0 : 0 ≤ f
  le : f + m ≤ z
  ok : ShapeOk (s.set n z)

def padD (s d : List Int) (n : Nat) (f z : Int) : List Int := mk (s.set n z) (gS s d n (w64 (0 - f)))

theorem Pads.mb {s d : List Int} {n : Nat} {m f z : Int} (h : Pads s d n m f z) : 1 ≤ m ∧ m ≤ 16 := (checkT_iff.1 h.one).1.2.1 m (List.mem_of_getElem? h.hm)
theorem Pads.lt {s d : List Int} {n : Nat} {m f z : Int} (h : Pads s d n m f z) : n < s.length := (List.getElem?_eq_some_iff.1 h.hm).1
theorem Pads.zb {s d : List Int} {n : Nat} {m f z : Int} (h : Pads s d n m f z) : 1 ≤ z ∧ z ≤ 16 := h.ok.2.1 z (List.mem_of_getElem? (List.getElem?_set_self h.lt))

theorem pad_cases {s d : List Int} {n : Nat} {m f z : Int} (hc : checkT s d = true) (hm : s[n]? = some m) :
    (Pads s d n m f z ∧ padF s d n f z = ((s.set n z, padD s d n f z), 0)) ∨ padF s d n f z = bad 20 := by
  have hn := (List.getElem?_eq_some_iff.1 hm).1
  have hmb := (checkT_iff.1 hc).1.2.1 m (List.mem_of_getElem? hm)
  unfold padF
  rw [if_pos hc]
  split
  · exact .inr rfl
  · rename_i h
    simp only [Int.toNat_natCast, hm, Option.getD_some, not_or, Bool.not_eq_false] at h
    obtain ⟨_, _, h3, h4, h5, h6⟩ := h
    have hok := checkS_iff.1 h6
    have hz := hok.2.1 z (List.mem_of_getElem? (List.getElem?_set_self hn))
    have hw : w64 (z - m) = z - m := wrap_in (by omega) (by omega)
    rw [hw] at h5
    exact .inl ⟨⟨hc, hm, by omega, by omega, hok⟩, rfl⟩

theorem padD_check {s d : List Int} {n : Nat} {m f z : Int} (h : Pads s d n m f z) : checkT (s.set n z) (padD s d n f z) = true := mk_check h.ok _

theorem pad_at {s d x : List Int} {n : Nat} {m f z i : Int} (h : Pads s d n m f z) (hx : InIdx (s.set n z) x) (hi : x[n]? = some i) :
    (f ≤ i ∧ i < f + m → InIdx s (x.set n (i - f)) ∧ atF (s.set n z) (padD s d n f z) x = atF s d (x.set n (i - f))) ∧
    (¬ (f ≤ i ∧ i < f + m) → (atF (s.set n z) (padD s d n f z) x).1 = 0) := by
  have hmb := h.mb; have hn := h.lt; have hzb := h.zb; have hf := h.f0; have hle := h.le
  obtain ⟨i', hi', h0, h1⟩ := hx.get (n := n) (m := z) (List.getElem?_set_self hn)
  rw [hi] at hi'; cases hi'
  have hxn := (List.getElem?_eq_some_iff.1 hi).1
  have hw : w64 (0 - f) = -f := by rw [Int.zero_sub]; exact wrap_in (by omega) (by omega)
  rw [padD, mk_at h.ok hx, hw, gS_in hi (by omega) (by omega), show i + -f = i - f from by omega]
  refine ⟨fun hin => ?_, fun hout => ?_⟩
  · have := hx.reset h.hm (k' := i - f) (by omega) (by omega)
    exact ⟨this, by rw [atF_ok h.one this]⟩
  · have : ¬ InIdx s (x.set n (i - f)) := fun hh => by
      obtain ⟨k, hk, q0, q1⟩ := hh.get h.hm
      rw [List.getElem?_set_self hxn] at hk
      cases hk
      omega
    rw [atF_not h.one this]

theorem pad_cut {s d : List Int} {n : Nat} {m f z : Int} (h : Pads s d n m f z) : sliceF (s.set n z) (padD s d n f z) n f (f + m) = ((s, d), 0) := by
  have hmb := h.mb; have hn := h.lt; have hf := h.f0; have hle := h.le
  have hz : (s.set n z)[n]? = some z := List.getElem?_set_self hn
  have h1 : 0 ≤ f ∧ f < f + m ∧ f + m ≤ z := by omega
  have hs : (s.set n z).set n (f + m - f) = s := by rw [List.set_set, show f + m - f = m from by omega, set_self h.hm]
  rw [sliceF_ok (padD_check h) hz h1, hs]
  have hck := cut_check (padD_check h) hz h1
  rw [hs] at hck
  have : cutD (s.set n z) (padD s d n f z) n (f + m - f) f = d := by
    refine tens_ext hck h.one fun x hx => ?_
    obtain ⟨i, hi, h0, h3⟩ := hx.get h.hm
    have hxn := (List.getElem?_eq_some_iff.1 hi).1
    have hx' : InIdx ((s.set n z).set n (f + m - f)) x := by rw [hs]; exact hx
    obtain ⟨q1, q2, _⟩ := cut_at (padD_check h) hz h1 hx' hi
    rw [hs] at q1
    obtain ⟨r1, r2⟩ := (pad_at h q2 (List.getElem?_set_self hxn)).1 (by omega)
    rw [q1, r2, List.set_set, show i + f - f = i from by omega, set_self hi]
  rw [this]

theorem pad_sum {s d : List Int} {n : Nat} {m f z : Int} (h : Pads s d n m f z) : (padD s d n f z).sum = d.sum := by
  have hmb := h.mb; have hn := h.lt; have hf := h.f0; have hle := h.le
  rw [data_sum (padD_check h), data_sum h.one]
  have zero : ∀ (x : List Int) (i : Int), InIdx (s.set n z) x → x[n]? = some i → ¬ (f ≤ i ∧ i < f + m) → (atF (s.set n z) (padD s d n f z) x).1 = 0 := fun x i hx hi => (pad_at h hx hi).2
  have e : z = f + (m + (z - f - m)) := by omega
  have key : ∀ g : List Int → Int, sumX (s.set n z) g = sumX (s.set n f) g + (sumX (s.set n m) (fun x => g (x.set n ((x[n]?).getD 0 + f))) + sumX (s.set n (z - f - m)) fun x => g ((x.set n ((x[n]?).getD 0 + m)).set n (((x.set n ((x[n]?).getD 0 + m))[n]?).getD 0 + f))) := by
    intro g
    have := sumX_split (s := s) (n := n) (a := f) (b := m + (z - f - m)) g hn hf (by omega)
    rw [← e] at this
    rw [this, sumX_split (s := s) (n := n) (a := m) (b := z - f - m) _ hn (by omega) (by omega)]
  rw [key]
  have p1 : sumX (s.set n f) (fun x => (atF (s.set n z) (padD s d n f z) x).1) = 0 := by
    rw [← sumX_zero (s.set n f)]
    refine sumX_congr fun x hx => ?_
    obtain ⟨i, hi, h0, h3⟩ := hx.get (n := n) (m := f) (List.getElem?_set_self hn)
    have hx' : InIdx (s.set n z) x := by
      have := hx.set n (m := z) (k := i) h0 (by omega)
      rwa [List.set_set, set_self hi] at this
    exact zero x i hx' hi (by omega)
  have p3 : sumX (s.set n (z - f - m)) (fun x => (atF (s.set n z) (padD s d n f z) ((x.set n ((x[n]?).getD 0 + m)).set n (((x.set n ((x[n]?).getD 0 + m))[n]?).getD 0 + f))).1) = 0 := by
    rw [← sumX_zero (s.set n (z - f - m))]
    refine sumX_congr fun x hx => ?_
    obtain ⟨i, hi, h0, h3⟩ := hx.get (n := n) (m := z - f - m) (List.getElem?_set_self hn)
    have hxn := (List.getElem?_eq_some_iff.1 hi).1
    rw [hi]
    simp only [Option.getD_some]
    rw [List.getElem?_set_self hxn, List.set_set]
    simp only [Option.getD_some]
    have hx' : InIdx (s.set n z) (x.set n (i + m + f)) := by
      have := hx.set n (m := z) (k := i + m + f) (by omega) (by omega)
      rwa [List.set_set] at this
    exact zero _ _ hx' (List.getElem?_set_self hxn) (by omega)
  rw [p1, p3, Int.zero_add, Int.add_zero, set_self h.hm]
  refine sumX_congr fun x hx => ?_
  obtain ⟨i, hi, h0, h3⟩ := hx.get h.hm
  have hxn := (List.getElem?_eq_some_iff.1 hi).1
  rw [hi]
  simp only [Option.getD_some]
  have hx' : InIdx (s.set n z) (x.set n (i + f)) := hx.set n (m := z) (k := i + f) (by omega) (by omega)
  rw [((pad_at h hx' (List.getElem?_set_self hxn)).1 (by omega)).2, List.set_set, show i + f - f = i from by omega, set_self hi]

theorem pad_len {s d : List Int} {n : Nat} {m f z : Int} (h : Pads s d n m f z) : ((padD s d n f z).length : Int) * m = d.length * z := by
  rw [(checkT_iff.1 (padD_check h)).2, (checkT_iff.1 h.one).2, prd_set h.hm]
end Go.AM

