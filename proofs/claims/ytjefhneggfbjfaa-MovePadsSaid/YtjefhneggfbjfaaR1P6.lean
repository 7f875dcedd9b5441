import Derived.Test.YtjefhneggfbjfaaR1P5
namespace Go.AM
open Go Go.Proofs
set_option linter.unusedSimpArgs false
set_option linter.unusedVariables false

/-! ### sums -/
def sumR : Nat → (Nat → Int) → Int
  | 0, _ => 0
  | n + 1, f => sumR n f + f n

theorem sumR_congr {f g : Nat → Int} : ∀ {n : Nat}, (∀ i, i < n → f i = g i) → sumR n f = sumR n g
  | 0, _ => rfl
  | n + 1, h => by simp only [sumR]; rw [sumR_congr fun i hi => h i (by omega), h n (by omega)]
theorem sumR_zero : ∀ (n : Nat), sumR n (fun _ => 0) = 0
  | 0 => rfl
  | n + 1 => by simp only [sumR]; rw [sumR_zero n]; rfl
theorem sumR_plus (f g : Nat → Int) : ∀ (n : Nat), sumR n (fun i => f i + g i) = sumR n f + sumR n g
  | 0 => rfl
  | n + 1 => by simp only [sumR]; rw [sumR_plus f g n]; omega
theorem sumR_add (a : Nat) (f : Nat → Int) : ∀ (b : Nat), sumR (a + b) f = sumR a f + sumR b fun i => f (a + i)
  | 0 => by simp [sumR]
  | b + 1 => by rw [← Nat.add_assoc]; simp only [sumR]; rw [sumR_add a f b]; omega
theorem sumR_mul (b : Nat) (f : Nat → Int) : ∀ (m : Nat), sumR (m * b) f = sumR m fun k => sumR b fun q => f (k * b + q)
  | 0 => by simp [sumR]
  | m + 1 => by rw [Nat.add_mul, Nat.one_mul, sumR_add, sumR_mul b f m]; rfl
theorem sumR_swap (f : Nat → Nat → Int) (b : Nat) : ∀ (a : Nat), sumR a (fun i => sumR b fun j => f i j) = sumR b fun j => sumR a fun i => f i j
  | 0 => by simp only [sumR]; rw [sumR_zero]
  | a + 1 => by simp only [sumR]; rw [sumR_swap f b a, sumR_plus]

theorem sum_range (g : Nat → Int) : ∀ (n : Nat), ((List.range n).map g).sum = sumR n g
  | 0 => rfl
  | n + 1 => by rw [List.range_succ, List.map_append, List.sum_append, sum_range g n]; simp [sumR]

/-- over all indices of a shape -/
def sumX : List Int → (List Int → Int) → Int
  | [], g => g []
  | m :: s, g => sumR m.toNat fun k => sumX s fun x => g ((k : Int) :: x)

theorem sumX_congr : ∀ {s : List Int} {g g' : List Int → Int}, (∀ x, InIdx s x → g x = g' x) → sumX s g = sumX s g'
  | [], g, g', h => h [] .nil
  | m :: s, g, g', h => by
    simp only [sumX]
    exact sumR_congr fun k hk => sumX_congr fun x hx => h _ (.cons (by omega) (by omega) hx)

theorem sumX_zero : ∀ (s : List Int), sumX s (fun _ => 0) = 0
  | [] => rfl
  | m :: s => by simp only [sumX]; rw [sumX_zero s, sumR_zero]

theorem sumX_plus (f g : List Int → Int) : ∀ (s : List Int), sumX s (fun x => f x + g x) = sumX s f + sumX s g
  | [] => rfl
  | m :: s => by
    simp only [sumX]
    rw [sumR_congr (g := fun k => sumX s (fun x => f ((k : Int) :: x)) + sumX s fun x => g ((k : Int) :: x)) fun k _ => sumX_plus (fun x => f ((k : Int) :: x)) (fun x => g ((k : Int) :: x)) s, sumR_plus]

theorem sumX_sumR (h : List Int → Nat → Int) (n : Nat) : ∀ (s : List Int), sumX s (fun x => sumR n fun k => h x k) = sumR n fun k => sumX s fun x => h x k
  | [] => rfl
  | m :: s => by
    simp only [sumX]
    rw [sumR_congr fun k _ => sumX_sumR (fun x => h ((k : Int) :: x)) n s, sumR_swap]

theorem sumX_append (t : List Int) : ∀ (s : List Int) (g : List Int → Int), sumX (s ++ t) g = sumX s fun x => sumX t fun y => g (x ++ y)
  | [], g => rfl
  | m :: s, g => by
    simp only [List.cons_append, sumX]
    exact sumR_congr fun k _ => sumX_append t s fun x => g ((k : Int) :: x)

theorem sumX_reverse : ∀ (s : List Int) (g : List Int → Int), sumX s.reverse (fun x => g x.reverse) = sumX s g
  | [], g => rfl
  | m :: s, g => by
    simp only [List.reverse_cons, sumX]
    rw [sumX_append]
    have : ∀ x, sumX [m] (fun y => g (x ++ y).reverse) = sumR m.toNat fun k => g ((k : Int) :: x.reverse) := fun x => by
      simp only [sumX, List.reverse_append, List.reverse_cons, List.reverse_nil, List.nil_append, List.cons_append]
    rw [sumX_congr fun x _ => this x, sumX_sumR (fun x k => g ((k : Int) :: x.reverse))]
    exact sumR_congr fun k _ => sumX_reverse s fun x => g ((k : Int) :: x)

/-- a side in two parts -/
theorem sumX_split : ∀ {s : List Int} {n : Nat} {a b : Int} (g : List Int → Int), n < s.length → 0 ≤ a → 0 ≤ b →
    sumX (s.set n (a + b)) g = sumX (s.set n a) g + sumX (s.set n b) fun x => g (x.set n ((x[n]?).getD 0 + a))
  | [], n, a, b, g, hn, _, _ => by simp at hn
  | m :: s, 0, a, b, g, hn, ha, hb => by
    simp only [List.set_cons_zero, sumX]
    rw [show (a + b).toNat = a.toNat + b.toNat from by omega, sumR_add]
    congr 1
    refine sumR_congr fun k _ => ?_
    have : ((a.toNat + k : Nat) : Int) = (k : Int) + a := by omega
    rw [this]
    rfl
  | m :: s, n + 1, a, b, g, hn, ha, hb => by
    simp only [List.set_cons_succ, sumX]
    rw [← sumR_plus]
    refine sumR_congr fun k _ => ?_
    rw [sumX_split (s := s) (n := n) _ (by simpa using hn) ha hb]
    rfl

theorem mk_sum {s : List Int} (h : ShapeOk s) (g : List Int → Int) : (mk s g).sum = sumX s g := by
  have e : mk s g = (List.range (prd s).toNat).map fun p => g (ix s ((p : Nat) : Int)) := by
    have := h.2.2
    unfold mk
    rw [sizeS_ok h]
    refine List.map_congr_left fun p hp => ?_
    rw [idxF_eq h.2.1 (by omega) (by simp at hp; omega)]
  rw [e, sum_range]
  clear e
  have key : ∀ {s : List Int} (g : List Int → Int), Sides s → sumR (prd s).toNat (fun p => g (ix s (p : Int))) = sumX s g := by
    intro s
    induction s with
    | nil => intro g _; simp [prd, sumR, sumX, ix]
    | cons m s ih =>
      intro g hs
      have hm := hs.head
      have hp := prd_pos hs.tail
      simp only [prd, sumX]
      have e1 : (m * prd s).toNat = m.toNat * (prd s).toNat := by
        have : ((m.toNat * (prd s).toNat : Nat) : Int) = m * prd s := by
          rw [Int.natCast_mul, Int.toNat_of_nonneg (by omega), Int.toNat_of_nonneg (by omega)]
        omega
      rw [e1, sumR_mul]
      refine sumR_congr fun k hk => ?_
      rw [← ih (fun x => g ((k : Int) :: x)) hs.tail]
      refine sumR_congr fun q hq => ?_
      have e2 : ((k * (prd s).toNat + q : Nat) : Int) = (q : Int) + (k : Int) * prd s := by
        rw [Int.natCast_add, Int.natCast_mul, Int.toNat_of_nonneg (by omega)]; omega
      have hq2 : (q : Int) < prd s := by omega
      have hix : ix s ((k * (prd s).toNat + q : Nat) : Int) = ix s (q : Int) := by
        rw [e2]
        have hin := ix_in (s := s) (p := (q : Int)) hs.tail
        have hpl := pl_ix_lt hs.tail (by omega : (0 : Int) ≤ q) hq2
        have := ix_pl hin hs.tail (k : Int)
        rw [hpl] at this
        rw [Int.add_comm]; exact this
      simp only [ix, hix]
      congr 2
      rw [e2, Int.add_mul_ediv_right _ _ (by omega), Int.ediv_eq_zero_of_lt (by omega) hq2, Int.zero_add]
      exact Int.emod_eq_of_lt (by omega) (by omega)
  exact key g h.2.1

theorem data_sum {s d : List Int} (h : checkT s d = true) : d.sum = sumX s fun x => (atF s d x).1 := by
  have := mk_sum (checkT_iff.1 h).1 fun x => (atF s d x).1
  rw [mk_self h] at this
  exact this

theorem turn_sum {s d : List Int} (h : checkT s d = true) : (turnD s d).sum = d.sum := by
  rw [turnD, mk_sum (checkT_iff.1 h).1.reverse, sumX_reverse s fun x => (atF s d x).1, data_sum h]

theorem join_sum {s d t e : List Int} {n : Nat} {k m : Int} (h : Joins s d t e n k m) : (joinD s d t e n k m).sum = d.sum + e.sum := by
  have hkb := h.kb; have hmb := h.mb; have hn := h.lt
  rw [data_sum (joinD_check h), sumX_split _ hn (by omega) (by omega), set_self h.hk, ← h.like, data_sum h.one, data_sum h.two]
  congr 1
  · refine sumX_congr fun x hx => ?_
    obtain ⟨i, hi, h0, h1⟩ := hx.get h.hk
    have hx' : InIdx (s.set n (k + m)) x := by
      have := hx.set n (m := k + m) (k := i) h0 (by omega)
      rwa [set_self hi] at this
    rw [((join_at h hx' hi).1 h1).2]
  · refine sumX_congr fun x hx => ?_
    obtain ⟨i, hi, h0, h1⟩ := hx.get h.hm
    have hxn := (List.getElem?_eq_some_iff.1 hi).1
    have hx' : InIdx (s.set n (k + m)) (x.set n (i + k)) := by
      have := hx.set n (m := k + m) (k := i + k) (by omega) (by omega)
      rw [h.like, List.set_set] at this
      exact this
    rw [hi]
    simp only [Option.getD_some]
    rw [((join_at h hx' (List.getElem?_set_self hxn)).2 (by omega)).2, List.set_set, show i + k - k = i from by omega, set_self hi]

/-- a part of a part -/
theorem cut_cut {s d : List Int} {n : Nat} {m f t a : Int} (hc : checkT s d = true) (hm : s[n]? = some m) (h : 0 ≤ f ∧ f < t ∧ t ≤ m) (ha : 0 ≤ a ∧ a < t - f) :
    cutD (s.set n (t - f)) (cutD s d n (t - f) f) n (t - f - a) a = cutD s d n (t - (f + a)) (f + a) := by
  have hn := (List.getElem?_eq_some_iff.1 hm).1
  have h1 : (s.set n (t - f))[n]? = some (t - f) := List.getElem?_set_self hn
  have h2 : 0 ≤ a ∧ a < t - f ∧ t - f ≤ t - f := by omega
  have h3 : 0 ≤ f + a ∧ f + a < t ∧ t ≤ m := by omega
  have e : t - (f + a) = t - f - a := by omega
  have hck := cut_check (cut_check hc hm h) h1 h2
  rw [List.set_set] at hck
  have hck2 := cut_check hc hm h3
  rw [e] at hck2 ⊢
  refine tens_ext hck hck2 fun x hx => ?_
  obtain ⟨i, hi, h0, h4⟩ := hx.get (n := n) (m := t - f - a) (List.getElem?_set_self hn)
  have hxn := (List.getElem?_eq_some_iff.1 hi).1
  have hx' : InIdx ((s.set n (t - f)).set n (t - f - a)) x := by rw [List.set_set]; exact hx
  obtain ⟨q1, q2, _⟩ := cut_at (cut_check hc hm h) h1 h2 hx' hi
  obtain ⟨r1, _⟩ := cut_at hc hm h q2 (List.getElem?_set_self hxn)
  have hx2 : InIdx (s.set n (t - (f + a))) x := by rw [e]; exact hx
  obtain ⟨p1, _⟩ := cut_at hc hm h3 hx2 hi
  rw [List.set_set] at q1
  rw [e] at p1
  rw [q1, r1, p1, List.set_set, show i + a + f = i + (f + a) from by omega]

/-- a sum, as the program takes it -/
def totW : List Int → Int → Int
  | [], a => a
  | x :: r, a => totW r (w64 (a + x))

theorem wrap_def (n : Int) : w64 n = (n + 9223372036854775808) % 18446744073709551616 - 9223372036854775808 := by
  simp only [w64, IntKind.wrap, IntKind.bits, IntKind.signed]
  simp
  omega

theorem wrap_add (a b : Int) : w64 (w64 a + b) = w64 (a + b) := by
  rw [wrap_def, wrap_def, wrap_def]
  omega
theorem wrap_two (a : Int) : w64 (2 * w64 a) = w64 (2 * a) := by
  rw [wrap_def, wrap_def, wrap_def]
  omega

theorem totW_eq : ∀ (d : List Int) (a : Int), w64 (totW d a) = w64 (a + d.sum)
  | [], a => by simp [totW]
  | x :: r, a => by
    simp only [totW, List.sum_cons]
    rw [totW_eq r, wrap_add, Int.add_assoc]

theorem totW_range : ∀ (d : List Int) (a : Int), -9223372036854775808 ≤ a ∧ a < 9223372036854775808 → -9223372036854775808 ≤ totW d a ∧ totW d a < 9223372036854775808
  | [], a, h => h
  | x :: r, a, h => by
    simp only [totW]
    refine totW_range r _ ?_
    rw [wrap_def]; omega

theorem totW_sum (d : List Int) : totW d 0 = w64 d.sum := by
  have h := totW_eq d 0
  have h2 := totW_range d 0 (by decide)
  rw [Int.zero_add] at h
  rw [← h]
  exact (wrap_in h2.1 h2.2).symm
end Go.AM
