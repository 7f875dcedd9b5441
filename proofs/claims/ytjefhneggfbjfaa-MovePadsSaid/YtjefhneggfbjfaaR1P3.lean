import Derived.Test.YtjefhneggfbjfaaR1Z1
namespace Go.AM
open Go Go.Proofs
set_option linter.unusedSimpArgs false
set_option linter.unusedVariables false

theorem mk_len {s : List Int} (h : ShapeOk s) (g : List Int → Int) : ((mk s g).length : Int) = prd s := by
  have := prd_pos h.2.1
  simp only [mk, List.length_map, List.length_range, sizeS_ok h]
  omega

theorem mk_get {s : List Int} (h : ShapeOk s) (g : List Int → Int) {p : Nat} (hp : (p : Int) < prd s) : (mk s g)[p]? = some (g (ix s p)) := by
  have := h.2.2
  simp only [mk, sizeS_ok h, List.getElem?_map]
  rw [List.getElem?_range (by omega)]
  simp only [Option.map_some, Option.some.injEq]
  rw [idxF_eq h.2.1 (by omega) (by omega)]

theorem mk_check {s : List Int} (h : ShapeOk s) (g : List Int → Int) : checkT s (mk s g) = true := checkT_iff.2 ⟨h, mk_len h g⟩

theorem mk_at {s x : List Int} (h : ShapeOk s) (hx : InIdx s x) (g : List Int → Int) : atF s (mk s g) x = (g x, 0) := by
  have hl := pl_lt hx
  rw [atF_ok (mk_check h g) hx, mk_get h g (by omega)]
  have : ((pl s x 0).toNat : Int) = pl s x 0 := by omega
  rw [this, ix_pl0 hx h.2.1]
  rfl

theorem mk_congr {s : List Int} (h : ShapeOk s) {g g' : List Int → Int} (hg : ∀ x, InIdx s x → g x = g' x) : mk s g = mk s g' := by
  apply List.ext_getElem?
  intro p
  by_cases hp : (p : Int) < prd s
  · rw [mk_get h g hp, mk_get h g' hp, hg _ (ix_in h.2.1)]
  · have h1 := mk_len h g
    have h2 := mk_len h g'
    rw [List.getElem?_eq_none (by omega), List.getElem?_eq_none (by omega)]

theorem mk_self {s d : List Int} (h : checkT s d = true) : mk s (fun x => (atF s d x).1) = d := by
  have hs := (checkT_iff.1 h).1
  have hd := (checkT_iff.1 h).2
  apply List.ext_getElem?
  intro p
  by_cases hp : (p : Int) < prd s
  · rw [mk_get hs _ hp, atF_ok h (ix_in hs.2.1), pl_ix_lt hs.2.1 (by omega) hp]
    simp only [Int.toNat_natCast]
    rw [List.getElem?_eq_getElem (by omega)]
    rfl
  · have h1 := mk_len hs fun x => (atF s d x).1
    rw [List.getElem?_eq_none (by omega), List.getElem?_eq_none (by omega)]

theorem tens_ext {s d e : List Int} (h1 : checkT s d = true) (h2 : checkT s e = true) (h : ∀ x, InIdx s x → (atF s d x).1 = (atF s e x).1) : d = e := by
  rw [← mk_self h1, ← mk_self h2]
  exact mk_congr (checkT_iff.1 h1).1 h

theorem InIdx.append {s x t y : List Int} (h : InIdx s x) (k : InIdx t y) : InIdx (s ++ t) (x ++ y) := by
  induction h with
  | nil => exact k
  | cons h0 h1 _ ih => exact .cons h0 h1 ih

theorem InIdx.reverse {s x : List Int} (h : InIdx s x) : InIdx s.reverse x.reverse := by
  induction h with
  | nil => exact .nil
  | cons h0 h1 _ ih =>
    simp only [List.reverse_cons]
    exact ih.append (.cons h0 h1 .nil)

theorem inIdx_reverse {s x : List Int} : InIdx s.reverse x.reverse ↔ InIdx s x :=
  ⟨fun h => by simpa using h.reverse, fun h => h.reverse⟩

theorem ShapeOk.reverse {s : List Int} (h : ShapeOk s) : ShapeOk s.reverse := ⟨by simpa using h.1, h.2.1.reverse, by rw [prd_reverse]; exact h.2.2⟩

theorem turnF_ok {s d : List Int} (h : checkT s d = true) : turnF s d = ((s.reverse, mk s.reverse fun x => (atF s d x.reverse).1), 0) := by
  unfold turnF; rw [if_pos h]
def turnD (s d : List Int) : List Int := mk s.reverse fun x => (atF s d x.reverse).1
theorem turnD_check {s d : List Int} (h : checkT s d = true) : checkT s.reverse (turnD s d) = true := mk_check (checkT_iff.1 h).1.reverse _

theorem turnD_at {s d x : List Int} (h : checkT s d = true) : atF s.reverse (turnD s d) x.reverse = atF s d x := by
  have hs := (checkT_iff.1 h).1
  by_cases hx : InIdx s x
  · rw [turnD, mk_at hs.reverse hx.reverse, List.reverse_reverse, atF_ok h hx]
  · rw [atF_not (turnD_check h) (fun h' => hx (inIdx_reverse.1 h')), atF_not h hx]

theorem turnD_turnD {s d : List Int} (h : checkT s d = true) : turnD s.reverse (turnD s d) = d := by
  have hs := (checkT_iff.1 h).1
  unfold turnD
  rw [List.reverse_reverse]
  have : ∀ x, InIdx s x → (atF s.reverse (mk s.reverse fun x => (atF s d x.reverse).1) x.reverse).1 = (atF s d x).1 := fun x hx => by
    rw [mk_at hs.reverse hx.reverse, List.reverse_reverse]
  rw [mk_congr hs this, mk_self h]

theorem turn_turn {s d : List Int} (h : checkT s d = true) : turnF s.reverse (turnD s d) = ((s, d), 0) := by
  rw [turnF_ok (turnD_check h)]
  have := turnD_turnD h
  unfold turnD at this
  unfold turnD
  rw [this, List.reverse_reverse]

theorem sameL_refl (l : List Int) : sameL l l = true := by
  unfold sameL
  have : ∀ l : List Int, eqL l l = true := by
    intro l
    induction l with
    | nil => rfl
    | cons a l ih => simp [eqL, ih]
  simp [this]

theorem eqL_iff : ∀ {s t : List Int}, s.length = t.length → (eqL s t = true ↔ s = t)
  | [], [], _ => by simp [eqL]
  | a :: s, b :: t, h => by
    simp only [eqL]
    by_cases hab : a = b
    · subst hab; simp [eqL_iff (s := s) (t := t) (by simpa using h)]
    · simp [hab]
theorem sameL_iff {s t : List Int} : sameL s t = true ↔ s = t := by
  unfold sameL
  by_cases h : s.length = t.length
  · rw [if_neg (by simp [h]), eqL_iff h]
  · rw [if_pos (by simp; omega)]
    constructor
    · intro h'; cases h'
    · intro h'; exact absurd (by rw [h']) h
theorem sameT_refl (s d : List Int) : sameT s d s d = true := by unfold sameT; rw [sameL_refl, sameL_refl]; rfl

theorem reshapeF_ok {s d z : List Int} (h : checkT s d = true) (hz : checkS z = true) (he : sizeS z = d.length) : reshapeF s d z = ((z, d), 0) ∧ reshapeF z d s = ((s, d), 0) := by
  have h1 := checkT_iff.1 h
  have h2 : checkT z d = true := by unfold checkT; rw [hz, he]; simp
  refine ⟨?_, ?_⟩
  · unfold reshapeF; rw [if_pos h, if_pos ⟨hz, he⟩]
  · unfold reshapeF; rw [if_pos h2, if_pos ⟨checkS_iff.2 h1.1, by rw [sizeS_ok h1.1, h1.2]⟩]
end Go.AM
