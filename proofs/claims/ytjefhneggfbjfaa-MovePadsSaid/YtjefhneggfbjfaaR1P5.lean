import Derived.Test.YtjefhneggfbjfaaR1P4
namespace Go.AM
open Go Go.Proofs
set_option linter.unusedSimpArgs false
set_option linter.unusedVariables false

def joinD (s d t e : List Int) (n : Nat) (k m : Int) : List Int := mk (s.set n (k + m)) (gJ s d t e n k)

/-- what two that are joined must be -/
structure Joins (s d t e : List Int) (n : Nat) (k m : Int) : Prop where
  one : checkT s d = true
  two : checkT t e = true
  hk : s[n]? = some k
  hm : t[n]? = some m
  like : t = s.set n m
  ok : ShapeOk (s.set n (k + m))

theorem Joins.kb {s d t e : List Int} {n : Nat} {k m : Int} (h : Joins s d t e n k m) : 1 ≤ k ∧ k ≤ 16 := (checkT_iff.1 h.one).1.2.1 k (List.mem_of_getElem? h.hk)
theorem Joins.mb {s d t e : List Int} {n : Nat} {k m : Int} (h : Joins s d t e n k m) : 1 ≤ m ∧ m ≤ 16 := (checkT_iff.1 h.two).1.2.1 m (List.mem_of_getElem? h.hm)
theorem Joins.lt {s d t e : List Int} {n : Nat} {k m : Int} (h : Joins s d t e n k m) : n < s.length := (List.getElem?_eq_some_iff.1 h.hk).1

theorem join_ok {s d t e : List Int} {n : Nat} {k m : Int} (h : Joins s d t e n k m) : joinF s d t e n = ((s.set n (k + m), joinD s d t e n k m), 0) := by
  have hk := h.kb; have hm := h.mb; have hn := h.lt
  have hw : w64 (k + m) = k + m := wrap_in (by omega) (by omega)
  have hl : s.length = t.length := by rw [h.like]; simp
  have h1 : sameL (s.set n m) t = true := sameL_iff.2 h.like.symm
  have h2 : checkS (s.set n (k + m)) = true := checkS_iff.2 h.ok
  unfold joinF
  rw [if_pos ⟨h.one, h.two⟩, if_neg]
  · simp [h.hk, h.hm, hw, joinD]
  · simp only [Int.toNat_natCast, h.hk, h.hm, Option.getD_some, hw, h1, h2, hl, not_or]
    refine ⟨by omega, by omega, by simp, by simp, by simp⟩

theorem join_cases {s d t e : List Int} {n : Nat} {k : Int} (hc : checkT s d = true) (hk : s[n]? = some k) :
    (∃ m, Joins s d t e n k m) ∨ ∃ c, (c = 20 ∨ c = 30) ∧ joinF s d t e n = bad c := by
  have hn := (List.getElem?_eq_some_iff.1 hk).1
  have hkb := (checkT_iff.1 hc).1.2.1 k (List.mem_of_getElem? hk)
  unfold joinF
  by_cases h2 : checkT t e = true
  · rw [if_pos ⟨hc, h2⟩]
    split
    · exact .inr ⟨20, .inl rfl, rfl⟩
    · rename_i h
      simp only [Int.toNat_natCast, hk, Option.getD_some, not_or, Bool.not_eq_false] at h
      obtain ⟨_, _, h3, h4, h5⟩ := h
      have h3 : s.length = t.length := by omega
      have hm : t[n]? = some (t[n]'(by omega)) := List.getElem?_eq_getElem (by omega)
      rw [hm] at h4 h5
      simp only [Option.getD_some] at h4 h5
      have hmb := (checkT_iff.1 h2).1.2.1 _ (List.mem_of_getElem? hm)
      have hw : w64 (k + t[n]) = k + t[n] := wrap_in (by omega) (by omega)
      rw [hw] at h5
      exact .inl ⟨_, hc, h2, hk, hm, (sameL_iff.1 h4).symm, checkS_iff.1 h5⟩
  · rw [if_neg (fun h => h2 h.2)]
    exact .inr ⟨30, .inr rfl, rfl⟩

theorem joinD_check {s d t e : List Int} {n : Nat} {k m : Int} (h : Joins s d t e n k m) : checkT (s.set n (k + m)) (joinD s d t e n k m) = true := mk_check h.ok _

theorem join_at {s d t e x : List Int} {n : Nat} {k m i : Int} (h : Joins s d t e n k m) (hx : InIdx (s.set n (k + m)) x) (hi : x[n]? = some i) :
    (i < k → InIdx s x ∧ atF (s.set n (k + m)) (joinD s d t e n k m) x = atF s d x) ∧
    (k ≤ i → InIdx t (x.set n (i - k)) ∧ atF (s.set n (k + m)) (joinD s d t e n k m) x = atF t e (x.set n (i - k))) := by
  have hkb := h.kb; have hmb := h.mb; have hn := h.lt
  obtain ⟨i', hi', h0, h1⟩ := hx.get (n := n) (m := k + m) (List.getElem?_set_self hn)
  rw [hi] at hi'; cases hi'
  rw [joinD, mk_at h.ok hx]
  refine ⟨fun hlt => ?_, fun hle => ?_⟩
  · have hin : InIdx s x := by
      have := hx.reset h.hk (k' := i) h0 hlt
      rwa [set_self hi] at this
    refine ⟨hin, ?_⟩
    have hw : w64 (i + 0) = i := by rw [Int.add_zero]; exact wrap_in (by omega) (by omega)
    unfold gJ
    rw [hi]
    simp only [Option.getD_some]
    rw [if_pos hlt, hw, set_self hi, atF_ok h.one hin]
  · have hin : InIdx t (x.set n (i - k)) := by
      have := hx.set n (m := m) (k := i - k) (by omega) (by omega)
      rw [List.set_set] at this
      rw [h.like]; exact this
    refine ⟨hin, ?_⟩
    have hw : w64 (0 - k) = -k := by rw [Int.zero_sub]; exact wrap_in (by omega) (by omega)
    have hw2 : w64 (i + -k) = i - k := (wrap_in (n := i + -k) (by omega) (by omega)).trans (by omega)
    unfold gJ
    rw [hi]
    simp only [Option.getD_some]
    rw [if_neg (by omega), hw, hw2, atF_ok h.two hin]

/-- joined of its two parts -/
theorem parts_join {s d : List Int} {n : Nat} {m a : Int} (hc : checkT s d = true) (hm : s[n]? = some m) (h : 1 ≤ a ∧ a < m) :
    joinF (s.set n (a - 0)) (cutD s d n (a - 0) 0) (s.set n (m - a)) (cutD s d n (m - a) a) n = ((s, d), 0) := by
  have hn := (List.getElem?_eq_some_iff.1 hm).1
  have hs := (checkT_iff.1 hc).1
  have h1 : 0 ≤ (0 : Int) ∧ 0 < a ∧ a ≤ m := by omega
  have h2 : 0 ≤ a ∧ a < m ∧ m ≤ m := by omega
  have hz : (s.set n (a - 0)).set n (a + (m - a)) = s := by rw [List.set_set, show a + (m - a) = m from by omega, set_self hm]
  have J : Joins (s.set n (a - 0)) (cutD s d n (a - 0) 0) (s.set n (m - a)) (cutD s d n (m - a) a) n a (m - a) := by
    refine ⟨cut_check hc hm h1, cut_check hc hm h2, by rw [List.getElem?_set_self hn, Int.sub_zero], List.getElem?_set_self hn, by rw [List.set_set], by rw [hz]; exact hs⟩
  rw [join_ok J, hz]
  have key : joinD (s.set n (a - 0)) (cutD s d n (a - 0) 0) (s.set n (m - a)) (cutD s d n (m - a) a) n a (m - a) = d := by
    have hck := joinD_check J
    rw [hz] at hck
    refine tens_ext hck hc fun x hx => ?_
    obtain ⟨i, hi, h0, h3⟩ := hx.get hm
    have hx' : InIdx ((s.set n (a - 0)).set n (a + (m - a))) x := by rw [hz]; exact hx
    have hat := join_at J hx' hi
    rw [hz] at hat
    by_cases hlt : i < a
    · obtain ⟨q1, q2⟩ := hat.1 hlt
      have := (cut_at hc hm h1 q1 hi).1
      rw [q2, this, Int.add_zero, set_self hi]
    · obtain ⟨q1, q2⟩ := hat.2 (by omega)
      have hxn : n < x.length := (List.getElem?_eq_some_iff.1 hi).1
      have := (cut_at hc hm h2 q1 (List.getElem?_set_self hxn)).1
      rw [q2, this, List.set_set, show i - a + a = i from by omega, set_self hi]
  rw [key]

/-- what was joined is cut into both again -/
theorem join_first {s d t e : List Int} {n : Nat} {k m : Int} (h : Joins s d t e n k m) : sliceF (s.set n (k + m)) (joinD s d t e n k m) n 0 k = ((s, d), 0) := by
  have hkb := h.kb; have hmb := h.mb; have hn := h.lt
  have hz : (s.set n (k + m))[n]? = some (k + m) := List.getElem?_set_self hn
  have h1 : 0 ≤ (0 : Int) ∧ 0 < k ∧ k ≤ k + m := by omega
  have hs : (s.set n (k + m)).set n (k - 0) = s := by rw [List.set_set, Int.sub_zero, set_self h.hk]
  rw [sliceF_ok (joinD_check h) hz h1, hs]
  have hck := cut_check (joinD_check h) hz h1
  rw [hs] at hck
  have : cutD (s.set n (k + m)) (joinD s d t e n k m) n (k - 0) 0 = d := by
    refine tens_ext hck h.one fun x hx => ?_
    obtain ⟨i, hi, h0, h3⟩ := hx.get h.hk
    have hx' : InIdx ((s.set n (k + m)).set n (k - 0)) x := by rw [hs]; exact hx
    obtain ⟨q1, q2, _⟩ := cut_at (joinD_check h) hz h1 hx' hi
    rw [hs] at q1
    rw [Int.add_zero, set_self hi] at q1 q2
    rw [q1, ((join_at h q2 hi).1 h3).2]
  rw [this]

theorem join_second {s d t e : List Int} {n : Nat} {k m : Int} (h : Joins s d t e n k m) : sliceF (s.set n (k + m)) (joinD s d t e n k m) n k (k + m) = ((t, e), 0) := by
  have hkb := h.kb; have hmb := h.mb; have hn := h.lt
  have hz : (s.set n (k + m))[n]? = some (k + m) := List.getElem?_set_self hn
  have h1 : 0 ≤ k ∧ k < k + m ∧ k + m ≤ k + m := by omega
  have hs : (s.set n (k + m)).set n (k + m - k) = t := by rw [List.set_set, show k + m - k = m from by omega, h.like]
  rw [sliceF_ok (joinD_check h) hz h1, hs]
  have hck := cut_check (joinD_check h) hz h1
  rw [hs] at hck
  have : cutD (s.set n (k + m)) (joinD s d t e n k m) n (k + m - k) k = e := by
    refine tens_ext hck h.two fun x hx => ?_
    obtain ⟨i, hi, h0, h3⟩ := hx.get h.hm
    have hxn : n < x.length := (List.getElem?_eq_some_iff.1 hi).1
    have hx' : InIdx ((s.set n (k + m)).set n (k + m - k)) x := by rw [hs]; exact hx
    obtain ⟨q1, q2, _⟩ := cut_at (joinD_check h) hz h1 hx' hi
    rw [hs] at q1
    obtain ⟨r1, r2⟩ := (join_at h q2 (List.getElem?_set_self hxn)).2 (by omega)
    rw [List.set_set, show i + k - k = i from by omega, set_self hi] at r2
    rw [q1, r2]
  rw [this]
end Go.AM
