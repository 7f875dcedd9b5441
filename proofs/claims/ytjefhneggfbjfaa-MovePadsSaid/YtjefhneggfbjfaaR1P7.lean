import Derived.Test.YtjefhneggfbjfaaR1P6
namespace Go.AM
open Go Go.Proofs
set_option linter.unusedSimpArgs false
set_option linter.unusedVariables false

/-- what is laid back -/
structure Pads (s d : List Int) (n : Nat) (m f z : Int) : Prop where
  one : checkT s d = true
  hm : s[n]? = some m
  f0 : 0 ≤ f
  le : f + m ≤ z
  ok : ShapeOk (s.set n z)

def padD (s d : List Int) (n : Nat) (f z : Int) : List Int := mk (s.set n z) (gS s d n (w64 (0 - f)))

theorem Pads.mb {s d : List Int} {n : Nat} {m f z : Int} (h : Pads s d n m f z) : 1 ≤ m ∧ m ≤ 16 := (checkT_iff.1 h.one).1.2.1 m (List.mem_of_getElem? h.hm)
theorem Pads.lt {s d : List Int} {n : Nat} {m f z : Int} (h : Pads s d n m f z) : n < s.length := (List.getElem?_eq_some_iff.1 h.hm).1
theorem Pads.zb {s d : List Int} {n : Nat} {m f z : Int} (h : Pads s d n m f z) : 1 ≤ z ∧ z ≤ 16 := h.ok.2.1 z (List.mem_of_getElem? (List.getElem?_set_self h.lt))

theorem pad_cases {s d : List Int} {n : Nat} {m f z : Int} (hc : checkT s d = true) (hm : s[n]? = some m) :
    (Pads s d n m f z ∧ padF s d n f z = ((s.set n z, padD s d n f z), 0)) ∨ padF s d n f z = bad 20 := by
  have hn := (List.getElem?_eq_some_iff.1 hm).1
  have hmb := (checkT_iff.1 hc).1.2.1 m (List.mem_of_getElem? hm)
  unfold padF
  rw [if_pos hc]
  split
  · exact .inr rfl
  · rename_i h
    simp only [Int.toNat_natCast, hm, Option.getD_some, not_or, Bool.not_eq_false] at h
    obtain ⟨_, _, h3, h4, h5, h6⟩ := h
    have hok := checkS_iff.1 h6
    have hz := hok.2.1 z (List.mem_of_getElem? (List.getElem?_set_self hn))
    have hw : w64 (z - m) = z - m := wrap_in (by omega) (by omega)
    rw [hw] at h5
    exact .inl ⟨⟨hc, hm, by omega, by omega, hok⟩, rfl⟩

theorem padD_check {s d : List Int} {n : Nat} {m f z : Int} (h : Pads s d n m f z) : checkT (s.set n z) (padD s d n f z) = true := mk_check h.ok _

theorem pad_at {s d x : List Int} {n : Nat} {m f z i : Int} (h : Pads s d n m f z) (hx : InIdx (s.set n z) x) (hi : x[n]? = some i) :
    (f ≤ i ∧ i < f + m → InIdx s (x.set n (i - f)) ∧ atF (s.set n z) (padD s d n f z) x = atF s d (x.set n (i - f))) ∧
    (¬ (f ≤ i ∧ i < f + m) → (atF (s.set n z) (padD s d n f z) x).1 = 0) := by
  have hmb := h.mb; have hn := h.lt; have hzb := h.zb; have hf := h.f0; have hle := h.le
  obtain ⟨i', hi', h0, h1⟩ := hx.get (n := n) (m := z) (List.getElem?_set_self hn)
  rw [hi] at hi'; cases hi'
  have hxn := (List.getElem?_eq_some_iff.1 hi).1
  have hw : w64 (0 - f) = -f := by rw [Int.zero_sub]; exact wrap_in (by omega) (by omega)
  rw [padD, mk_at h.ok hx, hw, gS_in hi (by omega) (by omega), show i + -f = i - f from by omega]
  refine ⟨fun hin => ?_, fun hout => ?_⟩
  · have := hx.reset h.hm (k' := i - f) (by omega) (by omega)
    exact ⟨this, by rw [atF_ok h.one this]⟩
  · have : ¬ InIdx s (x.set n (i - f)) := fun hh => by
      obtain ⟨k, hk, q0, q1⟩ := hh.get h.hm
      rw [List.getElem?_set_self hxn] at hk
      cases hk
      omega
    rw [atF_not h.one this]

theorem pad_cut {s d : List Int} {n : Nat} {m f z : Int} (h : Pads s d n m f z) : sliceF (s.set n z) (padD s d n f z) n f (f + m) = ((s, d), 0) := by
  have hmb := h.mb; have hn := h.lt; have hf := h.f0; have hle := h.le
  have hz : (s.set n z)[n]? = some z := List.getElem?_set_self hn
  have h1 : 0 ≤ f ∧ f < f + m ∧ f + m ≤ z := by omega
  have hs : (s.set n z).set n (f + m - f) = s := by rw [List.set_set, show f + m - f = m from by omega, set_self h.hm]
  rw [sliceF_ok (padD_check h) hz h1, hs]
  have hck := cut_check (padD_check h) hz h1
  rw [hs] at hck
  have : cutD (s.set n z) (padD s d n f z) n (f + m - f) f = d := by
    refine tens_ext hck h.one fun x hx => ?_
    obtain ⟨i, hi, h0, h3⟩ := hx.get h.hm
    have hxn := (List.getElem?_eq_some_iff.1 hi).1
    have hx' : InIdx ((s.set n z).set n (f + m - f)) x := by rw [hs]; exact hx
    obtain ⟨q1, q2, _⟩ := cut_at (padD_check h) hz h1 hx' hi
    rw [hs] at q1
    obtain ⟨r1, r2⟩ := (pad_at h q2 (List.getElem?_set_self hxn)).1 (by omega)
    rw [q1, r2, List.set_set, show i + f - f = i from by omega, set_self hi]
  rw [this]

theorem pad_sum {s d : List Int} {n : Nat} {m f z : Int} (h : Pads s d n m f z) : (padD s d n f z).sum = d.sum := by
  have hmb := h.mb; have hn := h.lt; have hf := h.f0; have hle := h.le
  rw [data_sum (padD_check h), data_sum h.one]
  have zero : ∀ (x : List Int) (i : Int), InIdx (s.set n z) x → x[n]? = some i → ¬ (f ≤ i ∧ i < f + m) → (atF (s.set n z) (padD s d n f z) x).1 = 0 := fun x i hx hi => (pad_at h hx hi).2
  have e : z = f + (m + (z - f - m)) := by omega
  have key : ∀ g : List Int → Int, sumX (s.set n z) g = sumX (s.set n f) g + (sumX (s.set n m) (fun x => g (x.set n ((x[n]?).getD 0 + f))) + sumX (s.set n (z - f - m)) fun x => g ((x.set n ((x[n]?).getD 0 + m)).set n (((x.set n ((x[n]?).getD 0 + m))[n]?).getD 0 + f))) := by
    intro g
    have := sumX_split (s := s) (n := n) (a := f) (b := m + (z - f - m)) g hn hf (by omega)
    rw [← e] at this
    rw [this, sumX_split (s := s) (n := n) (a := m) (b := z - f - m) _ hn (by omega) (by omega)]
  rw [key]
  have p1 : sumX (s.set n f) (fun x => (atF (s.set n z) (padD s d n f z) x).1) = 0 := by
    rw [← sumX_zero (s.set n f)]
    refine sumX_congr fun x hx => ?_
    obtain ⟨i, hi, h0, h3⟩ := hx.get (n := n) (m := f) (List.getElem?_set_self hn)
    have hx' : InIdx (s.set n z) x := by
      have := hx.set n (m := z) (k := i) h0 (by omega)
      rwa [List.set_set, set_self hi] at this
    exact zero x i hx' hi (by omega)
  have p3 : sumX (s.set n (z - f - m)) (fun x => (atF (s.set n z) (padD s d n f z) ((x.set n ((x[n]?).getD 0 + m)).set n (((x.set n ((x[n]?).getD 0 + m))[n]?).getD 0 + f))).1) = 0 := by
    rw [← sumX_zero (s.set n (z - f - m))]
    refine sumX_congr fun x hx => ?_
    obtain ⟨i, hi, h0, h3⟩ := hx.get (n := n) (m := z - f - m) (List.getElem?_set_self hn)
    have hxn := (List.getElem?_eq_some_iff.1 hi).1
    rw [hi]
    simp only [Option.getD_some]
    rw [List.getElem?_set_self hxn, List.set_set]
    simp only [Option.getD_some]
    have hx' : InIdx (s.set n z) (x.set n (i + m + f)) := by
      have := hx.set n (m := z) (k := i + m + f) (by omega) (by omega)
      rwa [List.set_set] at this
    exact zero _ _ hx' (List.getElem?_set_self hxn) (by omega)
  rw [p1, p3, Int.zero_add, Int.add_zero, set_self h.hm]
  refine sumX_congr fun x hx => ?_
  obtain ⟨i, hi, h0, h3⟩ := hx.get h.hm
  have hxn := (List.getElem?_eq_some_iff.1 hi).1
  rw [hi]
  simp only [Option.getD_some]
  have hx' : InIdx (s.set n z) (x.set n (i + f)) := hx.set n (m := z) (k := i + f) (by omega) (by omega)
  rw [((pad_at h hx' (List.getElem?_set_self hxn)).1 (by omega)).2, List.set_set, show i + f - f = i from by omega, set_self hi]

theorem pad_len {s d : List Int} {n : Nat} {m f z : Int} (h : Pads s d n m f z) : ((padD s d n f z).length : Int) * m = d.length * z := by
  rw [(checkT_iff.1 (padD_check h)).2, (checkT_iff.1 h.one).2, prd_set h.hm]
end Go.AM
