import Derived.Test.YtcmbjbmghoopcaaMq4
import Derived.Lib.Mul64
import Derived.ProofKit
import Derived.HandedShaped
import Derived.ChangeArms
import Derived.DataReads
import Derived.Test.YtcmbjbmghoopcaaRows
set_option linter.unusedVariables false
set_option linter.unusedSimpArgs false
namespace Go.AM
open Go Go.Proofs
set_option maxRecDepth 100000
set_option maxHeartbeats 4000000
set_option linter.unusedSimpArgs false
set_option linter.unusedVariables false

def fewT (s d : List Int) : Bool := decide (s.length ≤ 100) && decide (d.length ≤ 100)

theorem p_ref03_Few (s d : List Int) : PureC Try.prog fi_fullerref03_Few [dT s d] (dB (fewT s d)) := by
  refine pure_fullerref03_Few (by simp) fun G hP hn => ?_
  unfold a_fullerref03_Few
  repeat' (first     | refine T_then ?_ | refine then_ret ?_ | refine then_exit ?_ | refine then_goto ?_     | refine rnd_exit ?_ | refine rnd_ret ?_ | refine rnd_goto ?_     | refine noGo_normal ?_ | refine noGo_ret ?_ | refine noGo_exit ?_ | refine jmp_normal ?_ | refine jmp_ret ?_ | refine jmp_exit ?_ | refine jmp_goto ?_     | refine inB_normal ?_ | refine inB_ret ?_ | refine inB_goto ?_ | refine inB_exit ?_ | refine inB_exit_ne rfl ?_     | ((first | apply T_sr fw | apply T_reg fw); · ((try simp only [go_sem, seval, reduceIte, ↓reduceIte, hP]); (repeat ((first       | (refine ⟨true, false, rfl, fun h => absurd h (by decide), ?_⟩) | (refine ⟨false, false, rfl, fun h => absurd h (by decide), ?_⟩) | refine ⟨_, _, rfl, fun _ => rfl, ?_⟩); (try simp only [go_sem, seval, reduceIte, ↓reduceIte, hP]))); (first | done | exact rfl)))     | ((first | apply T_sdF fw (by rw [hP]; rfl) (by decide +kernel) | apply T_drF fw (by rw [hP]; rfl) (by decide +kernel)); · ((try simp only [TOps.flat, List.cons_append, List.nil_append]); (repeat ((first | refine Y_g0 ?_ | refine Y_g (by (try simp only [go_sem, seval, reduceIte, ↓reduceIte, Bool.not_eq_true, reduceCtorEq, beq_false, beq_true, hP]); (first | done | exact rfl)) ?_); (first | refine Y_skip ?_ | ((first | apply Y_q); (· ((try simp only [go_sem, seval, reduceIte, ↓reduceIte, Bool.not_eq_true, reduceCtorEq, beq_false, beq_true, hP]); (first | done | exact rfl))))))); apply RunF_nil; (try simp only [go_sem, seval, reduceIte, ↓reduceIte, Bool.not_eq_true, reduceCtorEq, beq_false, beq_true, hP]); (first | done | exact rfl)))     | ((first | apply T_sd fw (by rw [hP]; rfl) | apply T_dr fw (by rw [hP]; rfl)); · ((try simp only [go_sem, seval, reduceIte, ↓reduceIte, bne, beq_false, beq_true, Bool.not_eq_true, Bool.if_true_right, decide_not, reduceCtorEq, hP]); (first | done | exact rfl)))     | refine T_seq ?_ | refine T_block ?_ | refine T_scopeJ 0 rfl ?_ | refine T_scope ?_ | refine T_goto ?_ | refine T_ret ?_ | refine T_skip ?_ | refine T_exit ?_ | refine T_label ?_     | refine T_condT rfl ?_ | refine T_condF rfl ?_     | refine T_condD rfl (fun _ => ?_) (fun _ => ?_)     | refine T_cond rfl (fun _ => ?_) (fun _ => ?_))
  exact ends_ret rfl rfl rfl (by simp only [resD, fewT]; congr 3 <;> exact decide_eq_decide.2 (by omega))

def sameT (s d t e : List Int) : Bool := sameL s t && sameL d e

theorem p_ref03_Same (s d t e : List Int) : PureC Try.prog fi_fullerref03_Same [dT s d, dT t e] (dB (sameT s d t e)) := by
  refine pure_fullerref03_Same (by simp) fun G hP hn => ?_
  unfold a_fullerref03_Same
  repeat' (first     | refine T_then ?_ | refine then_ret ?_ | refine then_exit ?_ | refine then_goto ?_     | refine rnd_exit ?_ | refine rnd_ret ?_ | refine rnd_goto ?_     | refine noGo_normal ?_ | refine noGo_ret ?_ | refine noGo_exit ?_ | refine jmp_normal ?_ | refine jmp_ret ?_ | refine jmp_exit ?_ | refine jmp_goto ?_     | refine inB_normal ?_ | refine inB_ret ?_ | refine inB_goto ?_ | refine inB_exit ?_ | refine inB_exit_ne rfl ?_     | ((first | apply T_sr fw | apply T_reg fw); · ((try simp only [go_sem, seval, reduceIte, ↓reduceIte, hP]); (repeat ((first       | (refine ⟨true, false, rfl, fun h => absurd h (by decide), ?_⟩) | (refine ⟨false, false, rfl, fun h => absurd h (by decide), ?_⟩) | refine ⟨_, _, rfl, fun _ => rfl, ?_⟩       | (refine .inl ⟨_, _, ⟨_, _, _, _, _, _, rfl, rfl, rfl, p_ref02_Same _ _⟩, ?_⟩)       | (refine ⟨_, ?_, rfl, fun _ => ⟨_, ⟨_, _, _, _, _, _, rfl, rfl, rfl, p_ref02_Same _ _⟩, ?_⟩, ?_⟩; rotate_left; (· (simp only [go_sem, seval, reduceIte, ↓reduceIte, hP]; first | done | exact rfl)))); (try simp only [go_sem, seval, reduceIte, ↓reduceIte, hP]))); (first | done | exact rfl)))     | ((first | apply T_sdF fw (by rw [hP]; rfl) (by decide +kernel) | apply T_drF fw (by rw [hP]; rfl) (by decide +kernel)); · ((try simp only [TOps.flat, List.cons_append, List.nil_append]); (repeat ((first | refine Y_g0 ?_ | refine Y_g (by (try simp only [go_sem, seval, reduceIte, ↓reduceIte, Bool.not_eq_true, reduceCtorEq, beq_false, beq_true, hP]); (first | done | exact rfl)) ?_); (first | refine Y_skip ?_ | ((first | apply Y_q | (refine Y_call ⟨_, _, _, _, _, _, rfl, rfl, rfl, (by rw [hP]; exact p_ref02_Same _ _)⟩ ?_ ?_)); (· ((try simp only [go_sem, seval, reduceIte, ↓reduceIte, Bool.not_eq_true, reduceCtorEq, beq_false, beq_true, hP]); (first | done | exact rfl))))))); apply RunF_nil; (try simp only [go_sem, seval, reduceIte, ↓reduceIte, Bool.not_eq_true, reduceCtorEq, beq_false, beq_true, hP]); (first | done | exact rfl)))     | ((first | apply T_sd fw (by rw [hP]; rfl) | apply T_dr fw (by rw [hP]; rfl)); · ((try simp only [go_sem, seval, reduceIte, ↓reduceIte, bne, beq_false, beq_true, Bool.not_eq_true, Bool.if_true_right, decide_not, reduceCtorEq, hP]); (repeat ((first       | (refine ⟨_, ⟨_, _, _, _, _, _, rfl, rfl, rfl, p_ref02_Same _ _⟩, ?_⟩)); (try simp only [go_sem, seval, reduceIte, ↓reduceIte, bne, beq_false, beq_true, Bool.not_eq_true, Bool.if_true_right, decide_not, reduceCtorEq, hP]))); (first | done | exact rfl)))     | refine T_seq ?_ | refine T_block ?_ | refine T_scopeJ 0 rfl ?_ | refine T_scope ?_ | refine T_goto ?_ | refine T_ret ?_ | refine T_skip ?_ | refine T_exit ?_ | refine T_label ?_     | refine T_condT rfl ?_ | refine T_condF rfl ?_     | refine T_condD rfl (fun _ => ?_) (fun _ => ?_)     | refine T_cond rfl (fun _ => ?_) (fun _ => ?_))
  exact ends_ret rfl rfl rfl (by simp only [resD, sameT])

end Go.AM

namespace Go.AM
open Go Go.Proofs
set_option linter.unusedSimpArgs false
set_option linter.unusedVariables false

theorem mk_len {s : List Int} (h : ShapeOk s) (g : List Int → Int) : ((mk s g).length : Int) = prd s := by
  have := prd_pos h.2.1
  simp only [mk, List.length_map, List.length_range, sizeS_ok h]
  omega

theorem mk_get {s : List Int} (h : ShapeOk s) (g : List Int → Int) {p : Nat} (hp : (p : Int) < prd s) : (mk s g)[p]? = some (g (ix s p)) := by
  have := h.2.2
  simp only [mk, sizeS_ok h, List.getElem?_map]
  rw [List.getElem?_range (by omega)]
  simp only [Option.map_some, Option.some.injEq]
  rw [idxF_eq h.2.1 (by omega) (by omega)]

theorem mk_check {s : List Int} (h : ShapeOk s) (g : List Int → Int) : checkT s (mk s g) = true := checkT_iff.2 ⟨h, mk_len h g⟩

theorem mk_at {s x : List Int} (h : ShapeOk s) (hx : InIdx s x) (g : List Int → Int) : atF s (mk s g) x = (g x, 0) := by
  have hl := pl_lt hx
  rw [atF_ok (mk_check h g) hx, mk_get h g (by omega)]
  have : ((pl s x 0).toNat : Int) = pl s x 0 := by omega
  rw [this, ix_pl0 hx h.2.1]
  rfl

theorem InIdx.append {s x t y : List Int} (h : InIdx s x) (k : InIdx t y) : InIdx (s ++ t) (x ++ y) := by
  induction h with
  | nil => exact k
  | cons h0 h1 _ ih => exact .cons h0 h1 ih

theorem InIdx.reverse {s x : List Int} (h : InIdx s x) : InIdx s.reverse x.reverse := by
  induction h with
  | nil => exact .nil
  | cons h0 h1 _ ih =>
    simp only [List.reverse_cons]
    exact ih.append (.cons h0 h1 .nil)

theorem ShapeOk.reverse {s : List Int} (h : ShapeOk s) : ShapeOk s.reverse := ⟨by simpa using h.1, h.2.1.reverse, by rw [prd_reverse]; exact h.2.2⟩

theorem turnF_ok {s d : List Int} (h : checkT s d = true) : turnF s d = ((s.reverse, mk s.reverse fun x => (atF s d x.reverse).1), 0) := by
  unfold turnF; rw [if_pos h]
def turnD (s d : List Int) : List Int := mk s.reverse fun x => (atF s d x.reverse).1
theorem turnD_check {s d : List Int} (h : checkT s d = true) : checkT s.reverse (turnD s d) = true := mk_check (checkT_iff.1 h).1.reverse _

theorem sameL_refl (l : List Int) : sameL l l = true := by
  unfold sameL
  have : ∀ l : List Int, eqL l l = true := by
    intro l
    induction l with
    | nil => rfl
    | cons a l ih => simp [eqL, ih]
  simp [this]

theorem eqL_iff : ∀ {s t : List Int}, s.length = t.length → (eqL s t = true ↔ s = t)
  | [], [], _ => by simp [eqL]
  | a :: s, b :: t, h => by
    simp only [eqL]
    by_cases hab : a = b
    · subst hab; simp [eqL_iff (s := s) (t := t) (by simpa using h)]
    · simp [hab]
theorem sameL_iff {s t : List Int} : sameL s t = true ↔ s = t := by
  unfold sameL
  by_cases h : s.length = t.length
  · rw [if_neg (by simp [h]), eqL_iff h]
  · rw [if_pos (by simp; omega)]
    constructor
    · intro h'; cases h'
    · intro h'; exact absurd (by rw [h']) h
theorem sameT_refl (s d : List Int) : sameT s d s d = true := by unfold sameT; rw [sameL_refl, sameL_refl]; rfl

end Go.AM

namespace Go.AM
open Go Go.Proofs
set_option linter.unusedSimpArgs false
set_option linter.unusedVariables false

theorem inIdx_iff : ∀ {s x : List Int}, InIdx s x ↔ s.length = x.length ∧ ∀ (i : Nat) (m k : Int), s[i]? = some m → x[i]? = some k → 0 ≤ k ∧ k < m
  | [], [] => ⟨fun _ => ⟨rfl, fun i m k h => by simp at h⟩, fun _ => .nil⟩
  | [], _ :: _ => ⟨fun h => (by cases h), fun h => by simp at h⟩
  | _ :: _, [] => ⟨fun h => (by cases h), fun h => by simp at h⟩
  | m :: s, k :: x => by
    constructor
    · intro h
      cases h with
      | cons h0 h1 h =>
        have := inIdx_iff.1 h
        refine ⟨by simp [this.1], fun i m' k' hm hk => ?_⟩
        cases i with
        | zero => simp at hm hk; subst hm hk; exact ⟨h0, h1⟩
        | succ i => exact this.2 i m' k' (by simpa using hm) (by simpa using hk)
    · rintro ⟨h1, h2⟩
      have := h2 0 m k rfl rfl
      exact .cons this.1 this.2 (inIdx_iff.2 ⟨by simpa using h1, fun i m' k' hm hk => h2 (i + 1) m' k' (by simpa using hm) (by simpa using hk)⟩)

theorem InIdx.get {s x : List Int} (h : InIdx s x) {n : Nat} {m : Int} (hm : s[n]? = some m) : ∃ k, x[n]? = some k ∧ 0 ≤ k ∧ k < m := by
  have h1 := inIdx_iff.1 h
  have hn := (List.getElem?_eq_some_iff.1 hm).1
  have hk : x[n]? = some (x[n]'(by omega)) := List.getElem?_eq_getElem (by omega)
  exact ⟨_, hk, h1.2 n _ _ hm hk⟩

theorem InIdx.set {s x : List Int} (h : InIdx s x) (n : Nat) {m k : Int} (h0 : 0 ≤ k) (h1 : k < m) : InIdx (s.set n m) (x.set n k) := by
  have h2 := inIdx_iff.1 h
  refine inIdx_iff.2 ⟨by simp [h2.1], fun i m' k' hm hk => ?_⟩
  by_cases hi : i = n
  · subst hi
    rw [List.getElem?_set] at hm hk
    simp at hm hk
    omega
  · rw [List.getElem?_set_ne (Ne.symm hi)] at hm hk
    exact h2.2 i m' k' hm hk

theorem set_self {s : List Int} {n : Nat} {m : Int} (h : s[n]? = some m) : s.set n m = s := by
  apply List.ext_getElem?
  intro i
  by_cases hi : i = n
  · subst hi
    rw [List.getElem?_set_self (List.getElem?_eq_some_iff.1 h).1, h]
  · rw [List.getElem?_set_ne (Ne.symm hi)]

/-- an index of a shape with another side, and what it is in the shape itself -/
theorem InIdx.reset {s x : List Int} {n : Nat} {m m' k' : Int} (h : InIdx (s.set n m') x) (hm : s[n]? = some m) (h0 : 0 ≤ k') (h1 : k' < m) : InIdx s (x.set n k') := by
  have := h.set n h0 h1
  rw [List.set_set, set_self hm] at this
  exact this

theorem Sides.set {s : List Int} (h : Sides s) (n : Nat) {m : Int} (h1 : 1 ≤ m ∧ m ≤ 16) : Sides (s.set n m) := by
  intro k hk
  rcases List.mem_or_eq_of_mem_set hk with hk | rfl
  · exact h k hk
  · exact h1

end Go.AM

namespace Go.AM
open Go Go.Proofs
set_option linter.unusedSimpArgs false
set_option linter.unusedVariables false

def joinD (s d t e : List Int) (n : Nat) (k m : Int) : List Int := mk (s.set n (k + m)) (gJ s d t e n k)

/-- what two that are joined must be -/
structure Joins (s d t e : List Int) (n : Nat) (k m : Int) : Prop where
  one : checkT s d = true
  two : checkT t e = true
  hk : s[n]? = some k
  hm : t[n]? = some m
  like : t = s.set n m
  ok : ShapeOk (s.set n (k + m))

theorem Joins.kb {s d t e : List Int} {n : Nat} {k m : Int} (h : Joins s d t e n k m) : 1 ≤ k ∧ k ≤ 16 := (checkT_iff.1 h.one).1.2.1 k (List.mem_of_getElem? h.hk)
theorem Joins.mb {s d t e : List Int} {n : Nat} {k m : Int} (h : Joins s d t e n k m) : 1 ≤ m ∧ m ≤ 16 := (checkT_iff.1 h.two).1.2.1 m (List.mem_of_getElem? h.hm)
theorem Joins.lt {s d t e : List Int} {n : Nat} {k m : Int} (h : Joins s d t e n k m) : n < s.length := (List.getElem?_eq_some_iff.1 h.hk).1

theorem join_ok {s d t e : List Int} {n : Nat} {k m : Int} (h : Joins s d t e n k m) : joinF s d t e n = ((s.set n (k + m), joinD s d t e n k m), 0) := by
  have hk := h.kb; have hm := h.mb; have hn := h.lt
  have hw : w64 (k + m) = k + m := wrap_in (by omega) (by omega)
  have hl : s.length = t.length := by rw [h.like]; simp
  have h1 : sameL (s.set n m) t = true := sameL_iff.2 h.like.symm
  have h2 : checkS (s.set n (k + m)) = true := checkS_iff.2 h.ok
  unfold joinF
  rw [if_pos ⟨h.one, h.two⟩, if_neg]
  · simp [h.hk, h.hm, hw, joinD]
  · simp only [Int.toNat_natCast, h.hk, h.hm, Option.getD_some, hw, h1, h2, hl, not_or]
    refine ⟨by omega, by omega, by simp, by simp, by simp⟩

theorem join_cases {s d t e : List Int} {n : Nat} {k : Int} (hc : checkT s d = true) (hk : s[n]? = some k) :
    (∃ m, Joins s d t e n k m) ∨ ∃ c, (c = 20 ∨ c = 30) ∧ joinF s d t e n = bad c := by
  have hn := (List.getElem?_eq_some_iff.1 hk).1
  have hkb := (checkT_iff.1 hc).1.2.1 k (List.mem_of_getElem? hk)
  unfold joinF
  by_cases h2 : checkT t e = true
  · rw [if_pos ⟨hc, h2⟩]
    split
    · exact .inr ⟨20, .inl rfl, rfl⟩
    · rename_i h
      simp only [Int.toNat_natCast, hk, Option.getD_some, not_or, Bool.not_eq_false] at h
      obtain ⟨_, _, h3, h4, h5⟩ := h
      have h3 : s.length = t.length := by omega
      have hm : t[n]? = some (t[n]'(by omega)) := List.getElem?_eq_getElem (by omega)
      rw [hm] at h4 h5
      simp only [Option.getD_some] at h4 h5
      have hmb := (checkT_iff.1 h2).1.2.1 _ (List.mem_of_getElem? hm)
      have hw : w64 (k + t[n]) = k + t[n] := wrap_in (by omega) (by omega)
      rw [hw] at h5
      exact .inl ⟨_, hc, h2, hk, hm, (sameL_iff.1 h4).symm, checkS_iff.1 h5⟩
  · rw [if_neg (fun h => h2 h.2)]
    exact .inr ⟨30, .inr rfl, rfl⟩

theorem joinD_check {s d t e : List Int} {n : Nat} {k m : Int} (h : Joins s d t e n k m) : checkT (s.set n (k + m)) (joinD s d t e n k m) = true := mk_check h.ok _

theorem join_at {s d t e x : List Int} {n : Nat} {k m i : Int} (h : Joins s d t e n k m) (hx : InIdx (s.set n (k + m)) x) (hi : x[n]? = some i) :
    (i < k → InIdx s x ∧ atF (s.set n (k + m)) (joinD s d t e n k m) x = atF s d x) ∧
    (k ≤ i → InIdx t (x.set n (i - k)) ∧ atF (s.set n (k + m)) (joinD s d t e n k m) x = atF t e (x.set n (i - k))) := by
  have hkb := h.kb; have hmb := h.mb; have hn := h.lt
  obtain ⟨i', hi', h0, h1⟩ := hx.get (n := n) (m := k + m) (List.getElem?_set_self hn)
  rw [hi] at hi'; cases hi'
  rw [joinD, mk_at h.ok hx]
  refine ⟨fun hlt => ?_, fun hle => ?_⟩
  · have hin : InIdx s x := by
      have := hx.reset h.hk (k' := i) h0 hlt
      rwa [set_self hi] at this
    refine ⟨hin, ?_⟩
    have hw : w64 (i + 0) = i := by rw [Int.add_zero]; exact wrap_in (by omega) (by omega)
    unfold gJ
    rw [hi]
    simp only [Option.getD_some]
    rw [if_pos hlt, hw, set_self hi, atF_ok h.one hin]
  · have hin : InIdx t (x.set n (i - k)) := by
      have := hx.set n (m := m) (k := i - k) (by omega) (by omega)
      rw [List.set_set] at this
      rw [h.like]; exact this
    refine ⟨hin, ?_⟩
    have hw : w64 (0 - k) = -k := by rw [Int.zero_sub]; exact wrap_in (by omega) (by omega)
    have hw2 : w64 (i + -k) = i - k := (wrap_in (n := i + -k) (by omega) (by omega)).trans (by omega)
    unfold gJ
    rw [hi]
    simp only [Option.getD_some]
    rw [if_neg (by omega), hw, hw2, atF_ok h.two hin]

end Go.AM

namespace Go.AM
open Go Go.Proofs
set_option linter.unusedSimpArgs false
set_option linter.unusedVariables false

theorem c_turn {s d : List Int} (h : checkT s d = true) : PureC Try.prog fi_move_Turn [dT s d] (.tup [dT s.reverse (turnD s d), dN 0]) := by
  have := p_move_Turn s d; rw [turnF_ok h] at this; exact this
theorem c_sameT (s d : List Int) : PureC Try.prog fi_fullerref03_Same [dT s d, dT s d] (dB true) := by
  have := p_ref03_Same s d s d; rw [sameT_refl] at this; exact this
theorem c_same' (s : List Int) : PureC Try.prog fi_fullerref02_Same [dI s, dI s] (dB true) := by
  have := p_ref02_Same s s; rw [sameL_refl] at this; exact this
end Go.AM

namespace Go.AM
open Go Go.Proofs
set_option maxRecDepth 100000
set_option maxHeartbeats 4000000
set_option linter.unusedSimpArgs false
set_option linter.unusedVariables false

def I64 (n : Int) : Prop := -9223372036854775808 ≤ n ∧ n < 9223372036854775808
instance (n : Int) : Decidable (I64 n) := by unfold I64; exact inferInstance
abbrev dU (n : Nat) : DV := .one (.int .u64 (n : Int))

theorem w64_eq (n : Int) : IntKind.i64.wrap n = if n % 18446744073709551616 ≥ 9223372036854775808 then n % 18446744073709551616 - 18446744073709551616 else n % 18446744073709551616 := by
  simp only [IntKind.wrap, IntKind.bits, IntKind.signed]
  simp
theorem u64_eq (n : Int) : IntKind.u64.wrap n = n % 18446744073709551616 := by
  simp only [IntKind.wrap, IntKind.bits, IntKind.signed]
  simp
theorem u64_in {n : Int} (h0 : 0 ≤ n) (h1 : n < 18446744073709551616) : IntKind.u64.wrap n = n := by
  rw [u64_eq]; omega
theorem u64_nat {n : Nat} (h1 : n < 18446744073709551616) : IntKind.u64.wrap (n : Int) = (n : Int) := u64_in (by omega) (by omega)

theorem u64_and {x : Nat} (hx : x < 18446744073709551616) : andZ .u64 (x : Int) 4294967295 = ((x % 4294967296 : Nat) : Int) := by
  unfold andZ
  have e1 : (BitVec.ofInt IntKind.u64.bits (x : Int) &&& BitVec.ofInt IntKind.u64.bits 4294967295).toNat = x % 4294967296 := by
    rw [BitVec.toNat_and]
    have h2 : (BitVec.ofInt IntKind.u64.bits (x : Int)).toNat = x := by
      show (BitVec.ofInt 64 (x : Int)).toNat = x
      rw [BitVec.toNat_ofInt]; omega
    have h3 : (BitVec.ofInt IntKind.u64.bits 4294967295).toNat = 2 ^ 32 - 1 := by decide
    rw [h2, h3, Nat.and_two_pow_sub_one_eq_mod]
  rw [e1, u64_nat (by omega)]

theorem u64_or {x y : Nat} (hx : x < 4294967296) (hy : y < 4294967296) : orZ .u64 ((x * 4294967296 : Nat) : Int) (y : Int) = ((x * 4294967296 + y : Nat) : Int) := by
  unfold orZ
  have e1 : (BitVec.ofInt IntKind.u64.bits ((x * 4294967296 : Nat) : Int) ||| BitVec.ofInt IntKind.u64.bits (y : Int)).toNat = x * 4294967296 + y := by
    rw [BitVec.toNat_or]
    have h2 : (BitVec.ofInt IntKind.u64.bits ((x * 4294967296 : Nat) : Int)).toNat = x * 4294967296 := by
      show (BitVec.ofInt 64 _).toNat = _
      rw [BitVec.toNat_ofInt]; omega
    have h3 : (BitVec.ofInt IntKind.u64.bits (y : Int)).toNat = y := by
      show (BitVec.ofInt 64 _).toNat = _
      rw [BitVec.toNat_ofInt]; omega
    rw [h2, h3]
    have := Nat.shiftLeft_add_eq_or_of_lt (i := 32) (b := y) (by omega) x
    rw [Nat.shiftLeft_eq] at this
    exact this.symm
  rw [e1, u64_nat (by omega)]

theorem shr32 (x : Nat) : shrZ .u64 (x : Int) 32 = ((x / 4294967296 : Nat) : Int) := by
  unfold shrZ
  have : (2 : Int) ^ (min (32 : Int).toNat IntKind.u64.bits) = 4294967296 := by decide
  rw [this, Int.fdiv_eq_ediv_of_nonneg _ (by decide)]
  omega
theorem shl32 (x : Nat) : shlZ .u64 (x : Int) 32 = ((x % 4294967296 * 4294967296 : Nat) : Int) := by
  unfold shlZ
  have : (2 : Int) ^ (min (32 : Int).toNat IntKind.u64.bits) = 4294967296 := by decide
  rw [this, u64_eq]
  omega

def rng (n : Int) : Int × Int := if I64 n then (n, 0) else (0, 10)
def fAdd (a b : Int) : Int × Int := rng (a + b)
def fMul (a b : Int) : Int × Int := rng (a * b / 4294967296)

theorem rng_in {n : Int} (h : I64 n) : rng n = (n, 0) := if_pos h
theorem rng_out {n : Int} (h : ¬ I64 n) : rng n = (0, 10) := if_neg h
theorem rng_range (n : Int) : I64 (rng n).1 := by
  by_cases h : I64 n
  · rw [rng_in h]; exact h
  · rw [rng_out h]; exact ⟨by decide, by decide⟩

theorem p_fix_told (n : Int) (b : Bool) : PureC Try.prog fi_fix_told [dN n, dB b] (dNE (if b then (n, 0) else (0, 10))) := by
  refine pure_fix_told (by simp) fun G hP hn => ?_
  unfold a_fix_told
  cases b
  · repeat' (first | apply T_then | apply then_ret | apply then_exit | apply then_goto | apply rnd_exit | apply rnd_ret | apply rnd_goto | apply noGo_normal | apply noGo_ret | apply noGo_exit | apply jmp_normal | apply jmp_ret | apply jmp_exit | apply jmp_goto | apply inB_normal | apply inB_ret | apply inB_goto | apply inB_exit | refine inB_exit_ne rfl ?_ | ((first | apply T_srK fw | apply T_regK fw); · ((try simp only [TOps.flat, List.cons_append, List.nil_append]); repeat (first | apply X_g0 | apply X_g | apply S_keep | apply X_skip | apply X_skipN | apply X_q | apply X_st | apply X_n | apply X_s | apply SKs0 | apply SKs2 | apply SKs1 | refine ⟨⟨rfl, rfl⟩, ?_⟩ | refine ⟨⟨rfl, ?_⟩, ?_⟩ | refine ⟨?_, ?_⟩ | (· (try simp only [go_sem, seval, reduceIte, ↓reduceIte, Bool.not_eq_true, reduceCtorEq, beq_false, beq_true, hn, hP]); first | done | rfl)))) | apply T_seq | apply T_block | refine T_scopeJ 0 rfl ?_ | apply T_scope | apply T_goto | apply T_ret | apply T_skip | apply T_exit | apply T_label | refine T_condT rfl ?_ | refine T_condF rfl ?_ | refine T_condD rfl (fun _ => ?_) (fun _ => ?_) | refine T_cond rfl (fun _ => ?_) (fun _ => ?_))
    exact ends_ret rfl rfl rfl rfl
  · repeat' (first | apply T_then | apply then_ret | apply then_exit | apply then_goto | apply rnd_exit | apply rnd_ret | apply rnd_goto | apply noGo_normal | apply noGo_ret | apply noGo_exit | apply jmp_normal | apply jmp_ret | apply jmp_exit | apply jmp_goto | apply inB_normal | apply inB_ret | apply inB_goto | apply inB_exit | refine inB_exit_ne rfl ?_ | ((first | apply T_srK fw | apply T_regK fw); · ((try simp only [TOps.flat, List.cons_append, List.nil_append]); repeat (first | apply X_g0 | apply X_g | apply S_keep | apply X_skip | apply X_skipN | apply X_q | apply X_st | apply X_n | apply X_s | apply SKs0 | apply SKs2 | apply SKs1 | refine ⟨⟨rfl, rfl⟩, ?_⟩ | refine ⟨⟨rfl, ?_⟩, ?_⟩ | refine ⟨?_, ?_⟩ | (· (try simp only [go_sem, seval, reduceIte, ↓reduceIte, Bool.not_eq_true, reduceCtorEq, beq_false, beq_true, hn, hP]); first | done | rfl)))) | apply T_seq | apply T_block | refine T_scopeJ 0 rfl ?_ | apply T_scope | apply T_goto | apply T_ret | apply T_skip | apply T_exit | apply T_label | refine T_condT rfl ?_ | refine T_condF rfl ?_ | refine T_condD rfl (fun _ => ?_) (fun _ => ?_) | refine T_cond rfl (fun _ => ?_) (fun _ => ?_))
    exact ends_ret rfl rfl rfl rfl

theorem p_fix_Add {a b : Int} (ha : I64 a) (hb : I64 b) : PureC Try.prog fi_fix_Add [dN a, dN b] (dNE (fAdd a b)) := by
  refine pure_fix_Add (by simp) fun G hP hn => ?_
  unfold a_fix_Add
  have hw := w64_eq (a + b)
  unfold I64 at ha hb
  have k1 : I64 (a + b) → fAdd a b = (IntKind.i64.wrap (a + b), 0) := fun h => by
    rw [wrap_in h.1 h.2]; exact rng_in h
  have k2 : ¬ I64 (a + b) → fAdd a b = (0, 10) := fun h => by
    exact rng_out h
  unfold I64 at k1 k2
  by_cases h1 : a < 0 <;> by_cases h2 : b < 0 <;> by_cases h3 : IntKind.i64.wrap (a + b) < 0
  all_goals
    repeat' (first | apply T_then | apply then_ret | apply then_exit | apply then_goto | apply rnd_exit | apply rnd_ret | apply rnd_goto | apply noGo_normal | apply noGo_ret | apply noGo_exit | apply jmp_normal | apply jmp_ret | apply jmp_exit | apply jmp_goto | apply inB_normal | apply inB_ret | apply inB_goto | apply inB_exit | refine inB_exit_ne rfl ?_ | ((first | apply T_srK fw | apply T_regK fw); · ((try simp only [TOps.flat, List.cons_append, List.nil_append]); repeat (first | apply X_g0 | apply X_g | apply S_keep | apply X_skip | apply X_skipN | refine X_call ?_ ⟨_, _, _, _, _, _, rfl, rfl, rfl, by rw [hP]; exact p_fix_told _ _⟩ ?_ | apply X_q | apply X_st | apply X_n | apply X_s | apply SKs0 | apply SKs2 | apply SKs1 | refine ⟨⟨rfl, rfl⟩, ?_⟩ | refine ⟨⟨rfl, ?_⟩, ?_⟩ | refine ⟨?_, ?_⟩ | (· (try simp only [go_sem, seval, reduceIte, ↓reduceIte, Bool.not_eq_true, reduceCtorEq, beq_false, beq_true, hn, hP, h1, h2, h3]); first | done | rfl)))) | apply T_seq | apply T_block | refine T_scopeJ 0 rfl ?_ | apply T_scope | apply T_goto | apply T_ret | apply T_skip | apply T_exit | apply T_label | refine T_condT rfl ?_ | refine T_condF rfl ?_ | refine T_condD rfl (fun _ => ?_) (fun _ => ?_) | refine T_cond rfl (fun _ => ?_) (fun _ => ?_))
    exact ends_ret rfl rfl rfl (by
      simp only [resD]
      first
        | (rw [k1 (by split at hw <;> omega)]; done)
        | (rw [k2 (by split at hw <;> omega)]; done)
        | (rw [k1 (by split at hw <;> omega)]; rfl)
        | (rw [k2 (by split at hw <;> omega)]; rfl))

theorem p_fix_size {a : Int} (ha : I64 a) : PureC Try.prog fi_fix_size [dN a] (dU a.natAbs) := by
  refine pure_fix_size (by simp) fun G hP hn => ?_
  unfold a_fix_size
  unfold I64 at ha
  by_cases h1 : a < 0
  · have w : IntKind.u64.wrap (0 - IntKind.u64.wrap a) = (a.natAbs : Int) := by rw [u64_eq a, u64_eq]; omega
    repeat' (first | apply T_then | apply then_ret | apply then_exit | apply then_goto | apply rnd_exit | apply rnd_ret | apply rnd_goto | apply noGo_normal | apply noGo_ret | apply noGo_exit | apply jmp_normal | apply jmp_ret | apply jmp_exit | apply jmp_goto | apply inB_normal | apply inB_ret | apply inB_goto | apply inB_exit | refine inB_exit_ne rfl ?_ | ((first | apply T_srK fw | apply T_regK fw); · ((try simp only [TOps.flat, List.cons_append, List.nil_append]); repeat (first | apply X_g0 | apply X_g | apply S_keep | apply X_skip | apply X_skipN | apply X_q | apply X_st | apply X_n | apply X_s | apply SKs0 | apply SKs2 | apply SKs1 | refine ⟨⟨rfl, rfl⟩, ?_⟩ | refine ⟨⟨rfl, ?_⟩, ?_⟩ | refine ⟨?_, ?_⟩ | (· (try simp only [go_sem, seval, reduceIte, ↓reduceIte, Bool.not_eq_true, reduceCtorEq, beq_false, beq_true, hn, hP, h1, w]); first | done | rfl)))) | apply T_seq | apply T_block | refine T_scopeJ 0 rfl ?_ | apply T_scope | apply T_goto | apply T_ret | apply T_skip | apply T_exit | apply T_label | refine T_condT rfl ?_ | refine T_condF rfl ?_ | refine T_condD rfl (fun _ => ?_) (fun _ => ?_) | refine T_cond rfl (fun _ => ?_) (fun _ => ?_))
    exact ends_ret rfl rfl rfl rfl
  · have w : IntKind.u64.wrap a = (a.natAbs : Int) := by rw [u64_eq a]; omega
    repeat' (first | apply T_then | apply then_ret | apply then_exit | apply then_goto | apply rnd_exit | apply rnd_ret | apply rnd_goto | apply noGo_normal | apply noGo_ret | apply noGo_exit | apply jmp_normal | apply jmp_ret | apply jmp_exit | apply jmp_goto | apply inB_normal | apply inB_ret | apply inB_goto | apply inB_exit | refine inB_exit_ne rfl ?_ | ((first | apply T_srK fw | apply T_regK fw); · ((try simp only [TOps.flat, List.cons_append, List.nil_append]); repeat (first | apply X_g0 | apply X_g | apply S_keep | apply X_skip | apply X_skipN | apply X_q | apply X_st | apply X_n | apply X_s | apply SKs0 | apply SKs2 | apply SKs1 | refine ⟨⟨rfl, rfl⟩, ?_⟩ | refine ⟨⟨rfl, ?_⟩, ?_⟩ | refine ⟨?_, ?_⟩ | (· (try simp only [go_sem, seval, reduceIte, ↓reduceIte, Bool.not_eq_true, reduceCtorEq, beq_false, beq_true, hn, hP, h1, w]); first | done | rfl)))) | apply T_seq | apply T_block | refine T_scopeJ 0 rfl ?_ | apply T_scope | apply T_goto | apply T_ret | apply T_skip | apply T_exit | apply T_label | refine T_condT rfl ?_ | refine T_condF rfl ?_ | refine T_condD rfl (fun _ => ?_) (fun _ => ?_) | refine T_cond rfl (fun _ => ?_) (fun _ => ?_))
    exact ends_ret rfl rfl rfl rfl

def apart (a b : Int) : Bool := decide (a ≠ 0) && (decide (b ≠ 0) && (decide (a < 0) != decide (b < 0)))

theorem p_fix_apart (a b : Int) : PureC Try.prog fi_fix_apart [dN a, dN b] (dB (apart a b)) := by
  refine pure_fix_apart (by simp) fun G hP hn => ?_
  unfold a_fix_apart
  by_cases h1 : a = 0
  · have h1' : (a != 0) = false := by simp [h1]
    repeat' (first | apply T_then | apply then_ret | apply then_exit | apply then_goto | apply rnd_exit | apply rnd_ret | apply rnd_goto | apply noGo_normal | apply noGo_ret | apply noGo_exit | apply jmp_normal | apply jmp_ret | apply jmp_exit | apply jmp_goto | apply inB_normal | apply inB_ret | apply inB_goto | apply inB_exit | refine inB_exit_ne rfl ?_ | ((first | apply T_srK fw | apply T_regK fw); · ((try simp only [TOps.flat, List.cons_append, List.nil_append]); repeat (first | apply X_g0 | apply X_g | apply S_keep | apply X_skip | apply X_skipN | apply X_q | apply X_st | apply X_n | apply X_s | apply SKs0 | apply SKs2 | apply SKs1 | refine ⟨⟨rfl, rfl⟩, ?_⟩ | refine ⟨⟨rfl, ?_⟩, ?_⟩ | refine ⟨?_, ?_⟩ | (· (try simp only [go_sem, seval, reduceIte, ↓reduceIte, Bool.not_eq_true, reduceCtorEq, beq_false, beq_true, hn, hP, h1']); first | done | rfl)))) | apply T_seq | apply T_block | refine T_scopeJ 0 rfl ?_ | apply T_scope | apply T_goto | apply T_ret | apply T_skip | apply T_exit | apply T_label | refine T_condT rfl ?_ | refine T_condF rfl ?_ | refine T_condD rfl (fun _ => ?_) (fun _ => ?_) | refine T_cond rfl (fun _ => ?_) (fun _ => ?_))
    exact ends_ret rfl rfl rfl (by simp [resD, apart, h1])
  · have h1' : (a != 0) = true := by simp [h1]
    by_cases h2 : b = 0
    · have h2' : (b != 0) = false := by simp [h2]
      repeat' (first | apply T_then | apply then_ret | apply then_exit | apply then_goto | apply rnd_exit | apply rnd_ret | apply rnd_goto | apply noGo_normal | apply noGo_ret | apply noGo_exit | apply jmp_normal | apply jmp_ret | apply jmp_exit | apply jmp_goto | apply inB_normal | apply inB_ret | apply inB_goto | apply inB_exit | refine inB_exit_ne rfl ?_ | ((first | apply T_srK fw | apply T_regK fw); · ((try simp only [TOps.flat, List.cons_append, List.nil_append]); repeat (first | apply X_g0 | apply X_g | apply S_keep | apply X_skip | apply X_skipN | apply X_q | apply X_st | apply X_n | apply X_s | apply SKs0 | apply SKs2 | apply SKs1 | refine ⟨⟨rfl, rfl⟩, ?_⟩ | refine ⟨⟨rfl, ?_⟩, ?_⟩ | refine ⟨?_, ?_⟩ | (· (try simp only [go_sem, seval, reduceIte, ↓reduceIte, Bool.not_eq_true, reduceCtorEq, beq_false, beq_true, hn, hP, h1', h2']); first | done | rfl)))) | apply T_seq | apply T_block | refine T_scopeJ 0 rfl ?_ | apply T_scope | apply T_goto | apply T_ret | apply T_skip | apply T_exit | apply T_label | refine T_condT rfl ?_ | refine T_condF rfl ?_ | refine T_condD rfl (fun _ => ?_) (fun _ => ?_) | refine T_cond rfl (fun _ => ?_) (fun _ => ?_))
      exact ends_ret rfl rfl rfl (by simp [resD, apart, h2])
    · have h2' : (b != 0) = true := by simp [h2]
      by_cases h3 : a < 0 <;> by_cases h4 : b < 0
      all_goals
        repeat' (first | apply T_then | apply then_ret | apply then_exit | apply then_goto | apply rnd_exit | apply rnd_ret | apply rnd_goto | apply noGo_normal | apply noGo_ret | apply noGo_exit | apply jmp_normal | apply jmp_ret | apply jmp_exit | apply jmp_goto | apply inB_normal | apply inB_ret | apply inB_goto | apply inB_exit | refine inB_exit_ne rfl ?_ | ((first | apply T_srK fw | apply T_regK fw); · ((try simp only [TOps.flat, List.cons_append, List.nil_append]); repeat (first | apply X_g0 | apply X_g | apply S_keep | apply X_skip | apply X_skipN | apply X_q | apply X_st | apply X_n | apply X_s | apply SKs0 | apply SKs2 | apply SKs1 | refine ⟨⟨rfl, rfl⟩, ?_⟩ | refine ⟨⟨rfl, ?_⟩, ?_⟩ | refine ⟨?_, ?_⟩ | (· (try simp only [go_sem, seval, reduceIte, ↓reduceIte, Bool.not_eq_true, reduceCtorEq, beq_false, beq_true, hn, hP, h1', h2', h3, h4]); first | done | rfl)))) | apply T_seq | apply T_block | refine T_scopeJ 0 rfl ?_ | apply T_scope | apply T_goto | apply T_ret | apply T_skip | apply T_exit | apply T_label | refine T_condT rfl ?_ | refine T_condF rfl ?_ | refine T_condD rfl (fun _ => ?_) (fun _ => ?_) | refine T_cond rfl (fun _ => ?_) (fun _ => ?_))
        exact ends_ret rfl rfl rfl (by simp [resD, apart, h1, h2, h3, h4])
end Go.AM

namespace Go.AM
open Go Go.Proofs
set_option maxRecDepth 100000
set_option maxHeartbeats 4000000
set_option linter.unusedSimpArgs false
set_option linter.unusedVariables false

abbrev dUU (a b : Nat) : DV := .tup [dU a, dU b]

theorem p_bits_Mul64 {x y : Nat} (hx : x < 18446744073709551616) (hy : y < 18446744073709551616) : PureC Try.prog fi_math_bits_Mul64 [dU x, dU y] (dUU (x * y / 18446744073709551616) (x * y % 18446744073709551616)) := by
  refine pure_math_bits_Mul64 (by simp) fun G hP hn => ?_
  unfold a_math_bits_Mul64
  obtain ⟨l1, l2, l3, l4⟩ := Lib.mul64_hi x y hx hy
  have lq := Lib.half_mul_le (a := x / 4294967296) (b := y % 4294967296) (by omega) (by omega)
  have lr := Lib.half_mul_le (a := x % 4294967296) (b := y / 4294967296) (by omega) (by omega)
  have lp := Lib.half_mul_le (a := x / 4294967296) (b := y / 4294967296) (by omega) (by omega)
  have a1 := u64_and hx
  have a2 := u64_and hy
  have m1 : IntKind.u64.wrap (((x % 4294967296 : Nat) : Int) * ((y % 4294967296 : Nat) : Int)) = ((x % 4294967296 * (y % 4294967296) : Nat) : Int) := by rw [← Int.natCast_mul, u64_nat l1]
  have m2 : IntKind.u64.wrap (((x / 4294967296 : Nat) : Int) * ((y % 4294967296 : Nat) : Int)) = ((x / 4294967296 * (y % 4294967296) : Nat) : Int) := by rw [← Int.natCast_mul, u64_nat (by omega)]
  have m3 : IntKind.u64.wrap (((x % 4294967296 : Nat) : Int) * ((y / 4294967296 : Nat) : Int)) = ((x % 4294967296 * (y / 4294967296) : Nat) : Int) := by rw [← Int.natCast_mul, u64_nat (by omega)]
  have m4 : IntKind.u64.wrap (((x / 4294967296 : Nat) : Int) * ((y / 4294967296 : Nat) : Int)) = ((x / 4294967296 * (y / 4294967296) : Nat) : Int) := by rw [← Int.natCast_mul, u64_nat (by omega)]
  have m5 : IntKind.u64.wrap ((x : Int) * (y : Int)) = ((x * y % 18446744073709551616 : Nat) : Int) := by rw [← Int.natCast_mul, u64_eq]; omega
  have hh : x * y / 18446744073709551616 < 18446744073709551616 := by
    have : x * y ≤ 18446744073709551615 * 18446744073709551615 := Nat.mul_le_mul (by omega) (by omega)
    omega
  generalize x % 4294967296 * (y % 4294967296) = p0 at *
  generalize x / 4294967296 * (y % 4294967296) = p1 at *
  generalize x % 4294967296 * (y / 4294967296) = p2 at *
  generalize x / 4294967296 * (y / 4294967296) = p3 at *
  have s1 : IntKind.u64.wrap ((p1 : Int) + ((p0 / 4294967296 : Nat) : Int)) = ((p1 + p0 / 4294967296 : Nat) : Int) := by rw [← Int.natCast_add, u64_nat l2]
  have a3 := u64_and l2
  have s2 : IntKind.u64.wrap ((((p1 + p0 / 4294967296) % 4294967296 : Nat) : Int) + (p2 : Int)) = (((p1 + p0 / 4294967296) % 4294967296 + p2 : Nat) : Int) := by rw [← Int.natCast_add, u64_nat l3]
  have s3 : IntKind.u64.wrap ((p3 : Int) + (((p1 + p0 / 4294967296) / 4294967296 : Nat) : Int)) = ((p3 + (p1 + p0 / 4294967296) / 4294967296 : Nat) : Int) := by rw [← Int.natCast_add, u64_nat (by omega)]
  have s4 : IntKind.u64.wrap (((p3 + (p1 + p0 / 4294967296) / 4294967296 : Nat) : Int) + ((((p1 + p0 / 4294967296) % 4294967296 + p2) / 4294967296 : Nat) : Int)) = ((x * y / 18446744073709551616 : Nat) : Int) := by
    rw [← Int.natCast_add, l4, u64_nat hh]
  repeat' (first | apply T_then | apply then_ret | apply then_exit | apply then_goto | apply rnd_exit | apply rnd_ret | apply rnd_goto | apply noGo_normal | apply noGo_ret | apply noGo_exit | apply jmp_normal | apply jmp_ret | apply jmp_exit | apply jmp_goto | apply inB_normal | apply inB_ret | apply inB_goto | apply inB_exit | refine inB_exit_ne rfl ?_ | ((first | apply T_srK fw | apply T_regK fw); · ((try simp only [TOps.flat, List.cons_append, List.nil_append]); repeat (first | apply X_g0 | apply X_g | apply S_keep | apply X_skip | apply X_skipN | apply X_q | apply X_st | apply X_n | apply X_s | apply SKs0 | apply SKs2 | apply SKs1 | refine ⟨⟨rfl, rfl⟩, ?_⟩ | refine ⟨⟨rfl, ?_⟩, ?_⟩ | refine ⟨?_, ?_⟩ | (· (try simp only [go_sem, seval, reduceIte, ↓reduceIte, Bool.not_eq_true, reduceCtorEq, beq_false, beq_true, hn, hP, a1, a2, a3, shr32, m1, m2, m3, m4, m5, s1, s2, s3, s4]); first | done | rfl)))) | apply T_seq | apply T_block | refine T_scopeJ 0 rfl ?_ | apply T_scope | apply T_goto | apply T_ret | apply T_skip | apply T_exit | apply T_label | refine T_condT rfl ?_ | refine T_condF rfl ?_ | refine T_condD rfl (fun _ => ?_) (fun _ => ?_) | refine T_cond rfl (fun _ => ?_) (fun _ => ?_))
  exact ends_ret rfl rfl rfl rfl

/-- a number of two words, with a sign, floored, of which something is left, or not -/
def sgn (v : Nat) (rest below : Bool) : Int := if below then -((v : Int) + (if rest then 1 else 0)) else v

theorem m_signed_1 (t h l : Nat) (hl : l < 18446744073709551616) (hh : h < 18446744073709551615) : MutC Try.prog fi_fix_wide_signed_1 [.one (.ptr t 0 1 0)] [(t, .arr true 1 [[.int .u64 (h : Int)], [.int .u64 (l : Int)]])] (.tup [])
    [(t, .arr true 1 [[.int .u64 (((h * 18446744073709551616 + l + 1) / 18446744073709551616 : Nat) : Int)], [.int .u64 (((h * 18446744073709551616 + l + 1) % 18446744073709551616 : Nat) : Int)]])] [] := by
  refine mut_fix_wide_signed_1 (by simp) fun G ex hP hn hfr => ?_
  unfold a_fix_wide_signed_1
  have e1 : (l + 1) % 18446744073709551616 = (h * 18446744073709551616 + l + 1) % 18446744073709551616 := by omega
  have e2 : IntKind.u64.wrap ((h : Int) + (((l + 1) / 18446744073709551616 : Nat) : Int)) = (((h * 18446744073709551616 + l + 1) / 18446744073709551616 : Nat) : Int) := by rw [u64_eq]; omega
  repeat' (first | apply T_then | apply then_ret | apply then_exit | apply then_goto | apply rnd_exit | apply rnd_ret | apply rnd_goto | apply noGo_normal | apply noGo_ret | apply noGo_exit | apply jmp_normal | apply jmp_ret | apply jmp_exit | apply jmp_goto | apply inB_normal | apply inB_ret | apply inB_goto | apply inB_exit | refine inB_exit_ne rfl ?_ | ((first | apply T_srK fw | apply T_regK fw); · ((try simp only [TOps.flat, List.cons_append, List.nil_append]); repeat (first | apply X_g0 | apply X_g | apply S_keep | apply X_skip | apply X_skipN | apply X_q | apply X_st | apply X_n | apply X_s | apply SKs0 | apply SKs2 | apply SKs1 | refine ⟨⟨rfl, rfl⟩, ?_⟩ | refine ⟨⟨rfl, ?_⟩, ?_⟩ | refine ⟨?_, ?_⟩ | (· (try simp only [go_sem, seval, reduceIte, ↓reduceIte, Bool.not_eq_true, reduceCtorEq, beq_false, beq_true, hn, hP, e1, e2, Int.toNat_one, Int.toNat_zero, Nat.reducePow]); first | done | rfl)))) | apply T_seq | apply T_block | refine T_scopeJ 0 rfl ?_ | apply T_scope | apply T_goto | apply T_ret | apply T_skip | apply T_exit | apply T_label | refine T_condT rfl ?_ | refine T_condF rfl ?_ | refine T_condD rfl (fun _ => ?_) (fun _ => ?_) | refine T_cond rfl (fun _ => ?_) (fun _ => ?_))
  exact endsM_normal rfl rfl rfl (by simp [lo]) rfl
end Go.AM

namespace Go.AM
open Go Go.Proofs
set_option maxRecDepth 100000
set_option maxHeartbeats 4000000
set_option linter.unusedSimpArgs false
set_option linter.unusedVariables false

theorem neg_u64 {l : Nat} (h : l ≤ 9223372036854775808) : IntKind.i64.wrap (IntKind.u64.wrap (0 - (l : Int))) = -(l : Int) := by
  rw [u64_eq, w64_eq]; split <;> omega

theorem p_fix_signed {h l : Nat} (hl : l < 18446744073709551616) (hh : h < 18446744073709551615) (rest below : Bool) :
    PureC Try.prog fi_fix_wide_signed [.agg [.int .u64 (h : Int), .int .u64 (l : Int)], dB rest, dB below] (dNE (rng (sgn (h * 18446744073709551616 + l) rest below))) := by
  refine pure_fix_wide_signed (by simp) fun G hP hn => ?_
  unfold a_fix_wide_signed
  have w8 : IntKind.u64.wrap 9223372036854775808 = 9223372036854775808 := by decide
  cases below
  · by_cases h1 : (h : Int) > 0
    · repeat' (first | apply T_then | apply then_ret | apply then_exit | apply then_goto | apply rnd_exit | apply rnd_ret | apply rnd_goto | apply noGo_normal | apply noGo_ret | apply noGo_exit | apply jmp_normal | apply jmp_ret | apply jmp_exit | apply jmp_goto | apply inB_normal | apply inB_ret | apply inB_goto | apply inB_exit | refine inB_exit_ne rfl ?_ | ((first | apply T_srK fw | apply T_regK fw); · ((try simp only [TOps.flat, List.cons_append, List.nil_append]); repeat (first | apply X_g0 | apply X_g | apply S_keep | apply X_skip | apply X_skipN | apply X_q | apply X_st | apply X_n | apply X_s | apply SKs0 | apply SKs2 | apply SKs1 | refine ⟨⟨rfl, rfl⟩, ?_⟩ | refine ⟨⟨rfl, ?_⟩, ?_⟩ | refine ⟨?_, ?_⟩ | (· (try simp only [go_sem, seval, reduceIte, ↓reduceIte, Bool.not_eq_true, reduceCtorEq, beq_false, beq_true, hn, hP, h1]); first | done | rfl)))) | apply T_seq | apply T_block | refine T_scopeJ 0 rfl ?_ | apply T_scope | apply T_goto | apply T_ret | apply T_skip | apply T_exit | apply T_label | refine T_condT rfl ?_ | refine T_condF rfl ?_ | refine T_condD rfl (fun _ => ?_) (fun _ => ?_) | refine T_cond rfl (fun _ => ?_) (fun _ => ?_))
      exact ends_ret rfl rfl rfl (by rw [rng_out (by unfold I64 sgn; simp; omega)]; rfl)
    · by_cases h2 : (l : Int) > 9223372036854775807
      · repeat' (first | apply T_then | apply then_ret | apply then_exit | apply then_goto | apply rnd_exit | apply rnd_ret | apply rnd_goto | apply noGo_normal | apply noGo_ret | apply noGo_exit | apply jmp_normal | apply jmp_ret | apply jmp_exit | apply jmp_goto | apply inB_normal | apply inB_ret | apply inB_goto | apply inB_exit | refine inB_exit_ne rfl ?_ | ((first | apply T_srK fw | apply T_regK fw); · ((try simp only [TOps.flat, List.cons_append, List.nil_append]); repeat (first | apply X_g0 | apply X_g | apply S_keep | apply X_skip | apply X_skipN | apply X_q | apply X_st | apply X_n | apply X_s | apply SKs0 | apply SKs2 | apply SKs1 | refine ⟨⟨rfl, rfl⟩, ?_⟩ | refine ⟨⟨rfl, ?_⟩, ?_⟩ | refine ⟨?_, ?_⟩ | (· (try simp only [go_sem, seval, reduceIte, ↓reduceIte, Bool.not_eq_true, reduceCtorEq, beq_false, beq_true, hn, hP, h1, h2]); first | done | rfl)))) | apply T_seq | apply T_block | refine T_scopeJ 0 rfl ?_ | apply T_scope | apply T_goto | apply T_ret | apply T_skip | apply T_exit | apply T_label | refine T_condT rfl ?_ | refine T_condF rfl ?_ | refine T_condD rfl (fun _ => ?_) (fun _ => ?_) | refine T_cond rfl (fun _ => ?_) (fun _ => ?_))
        exact ends_ret rfl rfl rfl (by rw [rng_out (by unfold I64 sgn; simp; omega)]; rfl)
      · have w1 : IntKind.i64.wrap (l : Int) = (l : Int) := wrap_in (by omega) (by omega)
        repeat' (first | apply T_then | apply then_ret | apply then_exit | apply then_goto | apply rnd_exit | apply rnd_ret | apply rnd_goto | apply noGo_normal | apply noGo_ret | apply noGo_exit | apply jmp_normal | apply jmp_ret | apply jmp_exit | apply jmp_goto | apply inB_normal | apply inB_ret | apply inB_goto | apply inB_exit | refine inB_exit_ne rfl ?_ | ((first | apply T_srK fw | apply T_regK fw); · ((try simp only [TOps.flat, List.cons_append, List.nil_append]); repeat (first | apply X_g0 | apply X_g | apply S_keep | apply X_skip | apply X_skipN | apply X_q | apply X_st | apply X_n | apply X_s | apply SKs0 | apply SKs2 | apply SKs1 | refine ⟨⟨rfl, rfl⟩, ?_⟩ | refine ⟨⟨rfl, ?_⟩, ?_⟩ | refine ⟨?_, ?_⟩ | (· (try simp only [go_sem, seval, reduceIte, ↓reduceIte, Bool.not_eq_true, reduceCtorEq, beq_false, beq_true, hn, hP, h1, h2, w1]); first | done | rfl)))) | apply T_seq | apply T_block | refine T_scopeJ 0 rfl ?_ | apply T_scope | apply T_goto | apply T_ret | apply T_skip | apply T_exit | apply T_label | refine T_condT rfl ?_ | refine T_condF rfl ?_ | refine T_condD rfl (fun _ => ?_) (fun _ => ?_) | refine T_cond rfl (fun _ => ?_) (fun _ => ?_))
        have e : sgn (h * 18446744073709551616 + l) rest false = (l : Int) := by unfold sgn; simp; omega
        exact ends_ret rfl rfl rfl (by rw [e, rng_in (by unfold I64; omega)]; rfl)
  · cases rest
    · by_cases h1 : (h : Int) > 0
      · repeat' (first | apply T_then | apply then_ret | apply then_exit | apply then_goto | apply rnd_exit | apply rnd_ret | apply rnd_goto | apply noGo_normal | apply noGo_ret | apply noGo_exit | apply jmp_normal | apply jmp_ret | apply jmp_exit | apply jmp_goto | apply inB_normal | apply inB_ret | apply inB_goto | apply inB_exit | refine inB_exit_ne rfl ?_ | ((first | apply T_srK fw | apply T_regK fw); · ((try simp only [TOps.flat, List.cons_append, List.nil_append]); repeat (first | apply X_g0 | apply X_g | apply S_keep | apply X_skip | apply X_skipN | apply X_q | apply X_st | apply X_n | apply X_s | apply SKs0 | apply SKs2 | apply SKs1 | refine ⟨⟨rfl, rfl⟩, ?_⟩ | refine ⟨⟨rfl, ?_⟩, ?_⟩ | refine ⟨?_, ?_⟩ | (· (try simp only [go_sem, seval, reduceIte, ↓reduceIte, Bool.not_eq_true, reduceCtorEq, beq_false, beq_true, hn, hP, h1, w8]); first | done | rfl)))) | apply T_seq | apply T_block | refine T_scopeJ 0 rfl ?_ | apply T_scope | apply T_goto | apply T_ret | apply T_skip | apply T_exit | apply T_label | refine T_condT rfl ?_ | refine T_condF rfl ?_ | refine T_condD rfl (fun _ => ?_) (fun _ => ?_) | refine T_cond rfl (fun _ => ?_) (fun _ => ?_))
        exact ends_ret rfl rfl rfl (by rw [rng_out (by unfold I64 sgn; simp; omega)]; rfl)
      · by_cases h2 : (l : Int) > 9223372036854775808
        · repeat' (first | apply T_then | apply then_ret | apply then_exit | apply then_goto | apply rnd_exit | apply rnd_ret | apply rnd_goto | apply noGo_normal | apply noGo_ret | apply noGo_exit | apply jmp_normal | apply jmp_ret | apply jmp_exit | apply jmp_goto | apply inB_normal | apply inB_ret | apply inB_goto | apply inB_exit | refine inB_exit_ne rfl ?_ | ((first | apply T_srK fw | apply T_regK fw); · ((try simp only [TOps.flat, List.cons_append, List.nil_append]); repeat (first | apply X_g0 | apply X_g | apply S_keep | apply X_skip | apply X_skipN | apply X_q | apply X_st | apply X_n | apply X_s | apply SKs0 | apply SKs2 | apply SKs1 | refine ⟨⟨rfl, rfl⟩, ?_⟩ | refine ⟨⟨rfl, ?_⟩, ?_⟩ | refine ⟨?_, ?_⟩ | (· (try simp only [go_sem, seval, reduceIte, ↓reduceIte, Bool.not_eq_true, reduceCtorEq, beq_false, beq_true, hn, hP, h1, h2, w8]); first | done | rfl)))) | apply T_seq | apply T_block | refine T_scopeJ 0 rfl ?_ | apply T_scope | apply T_goto | apply T_ret | apply T_skip | apply T_exit | apply T_label | refine T_condT rfl ?_ | refine T_condF rfl ?_ | refine T_condD rfl (fun _ => ?_) (fun _ => ?_) | refine T_cond rfl (fun _ => ?_) (fun _ => ?_))
          exact ends_ret rfl rfl rfl (by rw [rng_out (by unfold I64 sgn; simp; omega)]; rfl)
        · have w1 := neg_u64 (l := l) (by omega)
          repeat' (first | apply T_then | apply then_ret | apply then_exit | apply then_goto | apply rnd_exit | apply rnd_ret | apply rnd_goto | apply noGo_normal | apply noGo_ret | apply noGo_exit | apply jmp_normal | apply jmp_ret | apply jmp_exit | apply jmp_goto | apply inB_normal | apply inB_ret | apply inB_goto | apply inB_exit | refine inB_exit_ne rfl ?_ | ((first | apply T_srK fw | apply T_regK fw); · ((try simp only [TOps.flat, List.cons_append, List.nil_append]); repeat (first | apply X_g0 | apply X_g | apply S_keep | apply X_skip | apply X_skipN | apply X_q | apply X_st | apply X_n | apply X_s | apply SKs0 | apply SKs2 | apply SKs1 | refine ⟨⟨rfl, rfl⟩, ?_⟩ | refine ⟨⟨rfl, ?_⟩, ?_⟩ | refine ⟨?_, ?_⟩ | (· (try simp only [go_sem, seval, reduceIte, ↓reduceIte, Bool.not_eq_true, reduceCtorEq, beq_false, beq_true, hn, hP, h1, h2, w1, w8]); first | done | rfl)))) | apply T_seq | apply T_block | refine T_scopeJ 0 rfl ?_ | apply T_scope | apply T_goto | apply T_ret | apply T_skip | apply T_exit | apply T_label | refine T_condT rfl ?_ | refine T_condF rfl ?_ | refine T_condD rfl (fun _ => ?_) (fun _ => ?_) | refine T_cond rfl (fun _ => ?_) (fun _ => ?_))
          have e : sgn (h * 18446744073709551616 + l) false true = -(l : Int) := by unfold sgn; simp; omega
          exact ends_ret rfl rfl rfl (by rw [e, rng_in (by unfold I64; omega)]; rfl)
    · have km := m_signed_1 3 h l hl hh
      have hv : (h * 18446744073709551616 + l + 1) / 18446744073709551616 * 18446744073709551616 + (h * 18446744073709551616 + l + 1) % 18446744073709551616 = h * 18446744073709551616 + l + 1 := by omega
      generalize (h * 18446744073709551616 + l + 1) / 18446744073709551616 = h' at km hv
      have hlt : (h * 18446744073709551616 + l + 1) % 18446744073709551616 < 18446744073709551616 := by omega
      generalize (h * 18446744073709551616 + l + 1) % 18446744073709551616 = l' at km hv hlt
      by_cases h1 : (h' : Int) > 0
      · repeat' (first | apply T_then | apply then_ret | apply then_exit | apply then_goto | apply rnd_exit | apply rnd_ret | apply rnd_goto | apply noGo_normal | apply noGo_ret | apply noGo_exit | apply jmp_normal | apply jmp_ret | apply jmp_exit | apply jmp_goto | apply inB_normal | apply inB_ret | apply inB_goto | apply inB_exit | refine inB_exit_ne rfl ?_ | ((first | apply T_srK fw | apply T_regK fw); · ((try simp only [TOps.flat, List.cons_append, List.nil_append]); repeat (first | apply X_g0 | apply X_g | apply S_keep | apply X_skip | apply X_skipN | refine X_callM ?_ (callM_mk rfl rfl (by rw [hP]; exact km) (by simp [lo]) (by simp) (by simp [AS.nr, AV.has, AC.has, AC.has.hasL, AO.nr, lo])) ?_ | apply X_q | apply X_st | apply X_n | apply X_s | apply SKs0 | apply SKs2 | apply SKs1 | refine ⟨⟨rfl, rfl⟩, ?_⟩ | refine ⟨⟨rfl, ?_⟩, ?_⟩ | refine ⟨?_, ?_⟩ | (· (try simp only [go_sem, seval, reduceIte, ↓reduceIte, Bool.not_eq_true, reduceCtorEq, beq_false, beq_true, hn, hP, h1, w8]); first | done | rfl)))) | apply T_seq | apply T_block | refine T_scopeJ 0 rfl ?_ | apply T_scope | apply T_goto | apply T_ret | apply T_skip | apply T_exit | apply T_label | refine T_condT rfl ?_ | refine T_condF rfl ?_ | refine T_condD rfl (fun _ => ?_) (fun _ => ?_) | refine T_cond rfl (fun _ => ?_) (fun _ => ?_))
        exact ends_ret rfl rfl rfl (by rw [rng_out (by unfold I64 sgn; simp; omega)]; rfl)
      · by_cases h2 : (l' : Int) > 9223372036854775808
        · repeat' (first | apply T_then | apply then_ret | apply then_exit | apply then_goto | apply rnd_exit | apply rnd_ret | apply rnd_goto | apply noGo_normal | apply noGo_ret | apply noGo_exit | apply jmp_normal | apply jmp_ret | apply jmp_exit | apply jmp_goto | apply inB_normal | apply inB_ret | apply inB_goto | apply inB_exit | refine inB_exit_ne rfl ?_ | ((first | apply T_srK fw | apply T_regK fw); · ((try simp only [TOps.flat, List.cons_append, List.nil_append]); repeat (first | apply X_g0 | apply X_g | apply S_keep | apply X_skip | apply X_skipN | refine X_callM ?_ (callM_mk rfl rfl (by rw [hP]; exact km) (by simp [lo]) (by simp) (by simp [AS.nr, AV.has, AC.has, AC.has.hasL, AO.nr, lo])) ?_ | apply X_q | apply X_st | apply X_n | apply X_s | apply SKs0 | apply SKs2 | apply SKs1 | refine ⟨⟨rfl, rfl⟩, ?_⟩ | refine ⟨⟨rfl, ?_⟩, ?_⟩ | refine ⟨?_, ?_⟩ | (· (try simp only [go_sem, seval, reduceIte, ↓reduceIte, Bool.not_eq_true, reduceCtorEq, beq_false, beq_true, hn, hP, h1, h2, w8]); first | done | rfl)))) | apply T_seq | apply T_block | refine T_scopeJ 0 rfl ?_ | apply T_scope | apply T_goto | apply T_ret | apply T_skip | apply T_exit | apply T_label | refine T_condT rfl ?_ | refine T_condF rfl ?_ | refine T_condD rfl (fun _ => ?_) (fun _ => ?_) | refine T_cond rfl (fun _ => ?_) (fun _ => ?_))
          exact ends_ret rfl rfl rfl (by rw [rng_out (by unfold I64 sgn; simp; omega)]; rfl)
        · have w1 := neg_u64 (l := l') (by omega)
          repeat' (first | apply T_then | apply then_ret | apply then_exit | apply then_goto | apply rnd_exit | apply rnd_ret | apply rnd_goto | apply noGo_normal | apply noGo_ret | apply noGo_exit | apply jmp_normal | apply jmp_ret | apply jmp_exit | apply jmp_goto | apply inB_normal | apply inB_ret | apply inB_goto | apply inB_exit | refine inB_exit_ne rfl ?_ | ((first | apply T_srK fw | apply T_regK fw); · ((try simp only [TOps.flat, List.cons_append, List.nil_append]); repeat (first | apply X_g0 | apply X_g | apply S_keep | apply X_skip | apply X_skipN | refine X_callM ?_ (callM_mk rfl rfl (by rw [hP]; exact km) (by simp [lo]) (by simp) (by simp [AS.nr, AV.has, AC.has, AC.has.hasL, AO.nr, lo])) ?_ | apply X_q | apply X_st | apply X_n | apply X_s | apply SKs0 | apply SKs2 | apply SKs1 | refine ⟨⟨rfl, rfl⟩, ?_⟩ | refine ⟨⟨rfl, ?_⟩, ?_⟩ | refine ⟨?_, ?_⟩ | (· (try simp only [go_sem, seval, reduceIte, ↓reduceIte, Bool.not_eq_true, reduceCtorEq, beq_false, beq_true, hn, hP, h1, h2, w1, w8]); first | done | rfl)))) | apply T_seq | apply T_block | refine T_scopeJ 0 rfl ?_ | apply T_scope | apply T_goto | apply T_ret | apply T_skip | apply T_exit | apply T_label | refine T_condT rfl ?_ | refine T_condF rfl ?_ | refine T_condD rfl (fun _ => ?_) (fun _ => ?_) | refine T_cond rfl (fun _ => ?_) (fun _ => ?_))
          have e : sgn (h * 18446744073709551616 + l) true true = -(l' : Int) := by unfold sgn; simp; omega
          exact ends_ret rfl rfl rfl (by rw [e, rng_in (by unfold I64; omega)]; rfl)

end Go.AM

namespace Go.AM
open Go Go.Proofs
set_option maxRecDepth 100000
set_option maxHeartbeats 4000000
set_option linter.unusedSimpArgs false
set_option linter.unusedVariables false

theorem apart_mul {a b : Int} : (apart a b = true → a * b = -((a.natAbs * b.natAbs : Nat) : Int)) ∧ (apart a b = false → a * b = ((a.natAbs * b.natAbs : Nat) : Int)) := by
  unfold apart
  have h := Int.natAbs_mul a b
  rcases Int.lt_trichotomy a 0 with ha | rfl | ha
  · rcases Int.lt_trichotomy b 0 with hb | rfl | hb
    · have := Int.mul_pos_of_neg_of_neg ha hb
      exact ⟨fun h => by simp [ha, hb] at h, fun _ => by rw [← h]; omega⟩
    · simp
    · have := Int.mul_neg_of_neg_of_pos ha hb
      exact ⟨fun _ => by rw [← h]; omega, fun h => by simp [ha] at h; omega⟩
  · simp
  · rcases Int.lt_trichotomy b 0 with hb | rfl | hb
    · have := Int.mul_neg_of_pos_of_neg ha hb
      exact ⟨fun _ => by rw [← h]; omega, fun h => by simp [hb] at h; omega⟩
    · simp
    · have := Int.mul_pos ha hb
      exact ⟨fun h => by simp at h; omega, fun _ => by rw [← h]; omega⟩

theorem mul_sgn (a b : Int) : sgn (a.natAbs * b.natAbs / 4294967296) (decide (a.natAbs * b.natAbs % 4294967296 ≠ 0)) (apart a b) = a * b / 4294967296 := by
  have h := apart_mul (a := a) (b := b)
  generalize a.natAbs * b.natAbs = m at *
  cases hp : apart a b
  · rw [h.2 hp]; unfold sgn; simp
  · rw [h.1 hp]; unfold sgn
    by_cases h0 : m % 4294967296 = 0
    · simp [h0]; omega
    · simp [h0]; omega

theorem abs_lt {a : Int} (ha : I64 a) : a.natAbs ≤ 9223372036854775808 := by unfold I64 at ha; omega

theorem p_fix_Mul {a b : Int} (ha : I64 a) (hb : I64 b) : PureC Try.prog fi_fix_Mul [dN a, dN b] (dNE (fMul a b)) := by
  refine pure_fix_Mul (by simp) fun G hP hn => ?_
  unfold a_fix_Mul
  have la := abs_lt ha
  have lb := abs_lt hb
  have km := p_bits_Mul64 (x := a.natAbs) (y := b.natAbs) (by omega) (by omega)
  have hm : a.natAbs * b.natAbs ≤ 9223372036854775808 * 9223372036854775808 := Nat.mul_le_mul la lb
  have e1 : ∀ m : Nat, m ≤ 9223372036854775808 * 9223372036854775808 → (m / 18446744073709551616) / 4294967296 * 18446744073709551616 + ((m / 18446744073709551616) % 4294967296 * 4294967296 + m % 18446744073709551616 / 4294967296) = m / 4294967296 := by
    intro m hm; omega
  have e1 := e1 _ hm
  have hs := mul_sgn a b
  have e2 : (decide (a.natAbs * b.natAbs % 4294967296 ≠ 0)) = (((a.natAbs * b.natAbs % 18446744073709551616 % 4294967296 : Nat) : Int) != 0) := by
    rw [Bool.eq_iff_iff]; simp; omega
  have ks : PureC Try.prog fi_fix_wide_signed [.agg [.int .u64 ((a.natAbs * b.natAbs / 18446744073709551616 / 4294967296 : Nat) : Int), .int .u64 ((a.natAbs * b.natAbs / 18446744073709551616 % 4294967296 * 4294967296 + a.natAbs * b.natAbs % 18446744073709551616 / 4294967296 : Nat) : Int)],
      dB (((a.natAbs * b.natAbs % 18446744073709551616 % 4294967296 : Nat) : Int) != 0), dB (apart a b)] (dNE (fMul a b)) := by
    have := p_fix_signed (h := a.natAbs * b.natAbs / 18446744073709551616 / 4294967296) (l := a.natAbs * b.natAbs / 18446744073709551616 % 4294967296 * 4294967296 + a.natAbs * b.natAbs % 18446744073709551616 / 4294967296) (by omega) (by omega)
      (((a.natAbs * b.natAbs % 18446744073709551616 % 4294967296 : Nat) : Int) != 0) (apart a b)
    rw [e1, ← e2, hs] at this
    rw [← e2]
    exact this
  have a1 := u64_and (x := a.natAbs * b.natAbs % 18446744073709551616) (by omega)
  have o1 := u64_or (x := a.natAbs * b.natAbs / 18446744073709551616 % 4294967296) (y := a.natAbs * b.natAbs % 18446744073709551616 / 4294967296) (by omega) (by omega)
  generalize a.natAbs * b.natAbs = m at *
  repeat' (first | apply T_then | apply then_ret | apply then_exit | apply then_goto | apply rnd_exit | apply rnd_ret | apply rnd_goto | apply noGo_normal | apply noGo_ret | apply noGo_exit | apply jmp_normal | apply jmp_ret | apply jmp_exit | apply jmp_goto | apply inB_normal | apply inB_ret | apply inB_goto | apply inB_exit | refine inB_exit_ne rfl ?_ | ((first | apply T_srK fw | apply T_regK fw); · ((try simp only [TOps.flat, List.cons_append, List.nil_append]); repeat (first | apply X_g0 | apply X_g | apply S_keep | apply X_skip | apply X_skipN | refine X_call ?_ ⟨_, _, _, _, _, _, rfl, rfl, rfl, by rw [hP]; exact p_fix_size ha⟩ ?_ | refine X_call ?_ ⟨_, _, _, _, _, _, rfl, rfl, rfl, by rw [hP]; exact p_fix_size hb⟩ ?_ | refine X_call ?_ ⟨_, _, _, _, _, _, rfl, rfl, rfl, by rw [hP]; exact km⟩ ?_ | refine X_call ?_ ⟨_, _, _, _, _, _, rfl, rfl, rfl, by rw [hP]; exact p_fix_apart _ _⟩ ?_ | refine X_call ?_ ⟨_, _, _, _, _, _, rfl, rfl, rfl, by rw [hP]; exact ks⟩ ?_ | apply X_q | apply X_st | apply X_n | apply X_s | apply SKs0 | apply SKs2 | apply SKs1 | refine ⟨⟨rfl, rfl⟩, ?_⟩ | refine ⟨⟨rfl, ?_⟩, ?_⟩ | refine ⟨?_, ?_⟩ | (· (try simp only [go_sem, seval, reduceIte, ↓reduceIte, Bool.not_eq_true, reduceCtorEq, beq_false, beq_true, hn, hP, shr32, shl32, a1, o1]); first | done | rfl)))) | apply T_seq | apply T_block | refine T_scopeJ 0 rfl ?_ | apply T_scope | apply T_goto | apply T_ret | apply T_skip | apply T_exit | apply T_label | refine T_condT rfl ?_ | refine T_condF rfl ?_ | refine T_condD rfl (fun _ => ?_) (fun _ => ?_) | refine T_cond rfl (fun _ => ?_) (fun _ => ?_))
  exact ends_ret rfl rfl rfl rfl

end Go.AM

namespace Go.AM
open Go Go.Proofs
set_option maxRecDepth 100000
set_option maxHeartbeats 4000000
set_option linter.unusedSimpArgs false
set_option linter.unusedVariables false

def I64s (d : List Int) : Prop := ∀ n ∈ d, I64 n
theorem I64s.get {d : List Int} (h : I64s d) {i : Nat} {x : Int} (hx : d[i]? = some x) : I64 x := h x (List.mem_of_getElem? hx)
theorem I64s.nil : I64s [] := fun n hn => by simp at hn
theorem I64s.append {d e : List Int} (h : I64s d) (k : I64s e) : I64s (d ++ e) := fun n hn => by
  rcases List.mem_append.1 hn with h1 | h1
  · exact h n h1
  · exact k n h1

def coll (f : Nat → Int × Int) : Nat → Nat → List Int → List Int × Int
  | 0, _, acc => (acc, 0)
  | n + 1, a, acc => if (f a).2 = 0 then coll f n (a + 1) (acc ++ [(f a).1]) else ([], (f a).2)

theorem coll_ok {f : Nat → Int × Int} : ∀ {n a : Nat} {acc : List Int}, (∀ k, k < n → (f (a + k)).2 = 0) → coll f n a acc = (acc ++ (List.range n).map (fun k => (f (a + k)).1), 0)
  | 0, a, acc, _ => by simp [coll]
  | n + 1, a, acc, h => by
    have h0 := h 0 (by omega)
    simp only [Nat.add_zero] at h0
    simp only [coll]
    rw [if_pos h0, coll_ok (fun k hk => by have := h (k + 1) (by omega); rwa [show a + (k + 1) = a + 1 + k from by omega] at this)]
    rw [List.range_succ_eq_map, List.map_cons, List.map_map]
    simp only [List.append_assoc, List.cons_append, List.nil_append, Nat.add_zero]
    congr 3
    apply List.map_congr_left
    intro k _
    simp only [Function.comp]
    rw [show a + 1 + k = a + (k + 1) from by omega]

theorem coll_err {f : Nat → Int × Int} : ∀ {n a : Nat} {acc : List Int} {k : Nat}, k < n → (∀ j, j < k → (f (a + j)).2 = 0) → (f (a + k)).2 ≠ 0 → coll f n a acc = ([], (f (a + k)).2)
  | n + 1, a, acc, 0, _, _, h => by
    simp only [coll, Nat.add_zero] at h ⊢
    rw [if_neg h]
  | n + 1, a, acc, k + 1, hk, hj, h => by
    have h0 := hj 0 (by omega)
    simp only [Nat.add_zero] at h0
    simp only [coll]
    rw [if_pos h0, coll_err (k := k) (by omega) (fun j hj' => by have := hj (j + 1) (by omega); rwa [show a + (j + 1) = a + 1 + j from by omega] at this) (by rwa [show a + 1 + k = a + (k + 1) from by omega])]
    rw [show a + 1 + k = a + (k + 1) from by omega]

/-- the first place that has an error, if any -/
theorem coll_cases (f : Nat → Int × Int) (n : Nat) : (∀ k, k < n → (f k).2 = 0) ∨ ∃ k, k < n ∧ (∀ j, j < k → (f j).2 = 0) ∧ (f k).2 ≠ 0 := by
  induction n with
  | zero => exact .inl fun k hk => by omega
  | succ n ih =>
    rcases ih with h | ⟨k, hk, h1, h2⟩
    · by_cases hn : (f n).2 = 0
      · exact .inl fun k hk => by
          by_cases hkn : k = n
          · subst hkn; exact hn
          · exact h k (by omega)
      · exact .inr ⟨n, by omega, h, hn⟩
    · exact .inr ⟨k, by omega, h1, h2⟩

/-- a sum of products, in order, up to the first error -/
def dot (x y : Nat → Int) : Nat → Nat → Int → Int × Int
  | 0, _, s => (s, 0)
  | n + 1, k, s => if (fMul (x k) (y k)).2 = 0 then (if (fAdd s (fMul (x k) (y k)).1).2 = 0 then dot x y n (k + 1) (fAdd s (fMul (x k) (y k)).1).1 else (0, (fAdd s (fMul (x k) (y k)).1).2))
    else (0, (fMul (x k) (y k)).2)

theorem fAdd_range (a b : Int) : I64 (fAdd a b).1 := rng_range _
theorem fMul_range (a b : Int) : I64 (fMul a b).1 := rng_range _

abbrev rT (l : List (List Int × List Int)) : List (List PV) := l.map fun p => [eI p.1, eI p.2]

theorem p_matmul_may (l : List (List Int × List Int)) : PureC Try.prog fi_matmul_may [.one (.sl (rT l))] (dN (if l.all (fun p => checkT p.1 p.2) then 0 else 30)) := by
  refine pure_matmul_may (by simp) fun G hP hn => ?_
  unfold a_matmul_may
  refine T_wf 0 fun hl => ?_
  simp only [initE, lk, DV.av, wf_one, wf_sl, if_true, List.length_map] at hl
  repeat' (first | apply T_then | apply then_ret | apply then_exit | apply then_goto | apply rnd_exit | apply rnd_ret | apply rnd_goto | apply noGo_normal | apply noGo_ret | apply noGo_exit | apply jmp_normal | apply jmp_ret | apply jmp_exit | apply jmp_goto | apply inB_normal | apply inB_ret | apply inB_goto | apply inB_exit | refine inB_exit_ne rfl ?_ | ((first | apply T_srK fw | apply T_regK fw); · ((try simp only [TOps.flat, List.cons_append, List.nil_append]); repeat (first | apply X_g0 | apply X_g | apply S_keep | apply X_skip | apply X_skipN | apply X_q | apply X_st | apply X_n | apply X_s | apply SKs0 | apply SKs2 | apply SKs1 | refine ⟨⟨rfl, rfl⟩, ?_⟩ | refine ⟨⟨rfl, ?_⟩, ?_⟩ | refine ⟨?_, ?_⟩ | (· (try simp only [go_sem, seval, reduceIte, ↓reduceIte, Bool.not_eq_true, reduceCtorEq, beq_false, beq_true, hn, hP]); first | done | rfl)))) | apply T_seq | apply T_block | refine T_scopeJ 0 rfl ?_ | apply T_scope | apply T_goto | apply T_ret | apply T_skip | apply T_exit | apply T_label | refine T_condT rfl ?_ | refine T_condF rfl ?_ | refine T_condD rfl (fun _ => ?_) (fun _ => ?_) | refine T_cond rfl (fun _ => ?_) (fun _ => ?_))
  refine T_for l.length (fun i (_ : Unit) => { env := [(5, .one (.p (.sl (rT l)))), (6, .one (.p (.int .i64 l.length))), (7, .one (.p (.int .i64 i)))], σ := [] })
    (fun i _ => l.all (fun p => checkT p.1 p.2) = (l.drop i).all (fun p => checkT p.1 p.2)) () rfl (.refl _ _) fun i _ hi hc => ?_
  rcases nth hi with ⟨x, hlt, hx, hd⟩ | ⟨rfl, hd⟩
  · have hw := wrap_succ hlt hl.1
    rw [hd] at hc
    simp only [List.all_cons] at hc
    cases hx1 : checkT x.1 x.2
    · repeat' (first | apply T_then | apply then_ret | apply then_exit | apply then_goto | apply rnd_exit | apply rnd_ret | apply rnd_goto | apply noGo_normal | apply noGo_ret | apply noGo_exit | apply jmp_normal | apply jmp_ret | apply jmp_exit | apply jmp_goto | apply inB_normal | apply inB_ret | apply inB_goto | apply inB_exit | refine inB_exit_ne rfl ?_ | ((first | apply T_srK fw | apply T_regK fw); · ((try simp only [TOps.flat, List.cons_append, List.nil_append]); repeat (first | apply X_g0 | apply X_g | apply S_keep | apply X_skip | apply X_skipN | refine X_call ?_ ⟨_, _, _, _, _, _, rfl, rfl, rfl, by rw [hP]; exact p_tensor_Check _ _⟩ ?_ | apply X_q | apply X_st | apply X_n | apply X_s | apply SKs0 | apply SKs2 | apply SKs1 | refine ⟨⟨rfl, rfl⟩, ?_⟩ | refine ⟨⟨rfl, ?_⟩, ?_⟩ | refine ⟨?_, ?_⟩ | (· (try simp only [go_sem, seval, reduceIte, ↓reduceIte, Bool.not_eq_true, reduceCtorEq, beq_false, beq_true, hn, hP, hx, hlt, hw, hx1]); first | done | rfl)))) | apply T_seq | apply T_block | refine T_scopeJ 0 rfl ?_ | apply T_scope | apply T_goto | apply T_ret | apply T_skip | apply T_exit | apply T_label | refine T_condT rfl ?_ | refine T_condF rfl ?_ | refine T_condD rfl (fun _ => ?_) (fun _ => ?_) | refine T_cond rfl (fun _ => ?_) (fun _ => ?_))
      exact ends_ret rfl rfl rfl (by rw [hc, hx1]; rfl)
    · repeat' (first | apply T_then | apply then_ret | apply then_exit | apply then_goto | apply rnd_exit | apply rnd_ret | apply rnd_goto | apply noGo_normal | apply noGo_ret | apply noGo_exit | apply jmp_normal | apply jmp_ret | apply jmp_exit | apply jmp_goto | apply inB_normal | apply inB_ret | apply inB_goto | apply inB_exit | refine inB_exit_ne rfl ?_ | ((first | apply T_srK fw | apply T_regK fw); · ((try simp only [TOps.flat, List.cons_append, List.nil_append]); repeat (first | apply X_g0 | apply X_g | apply S_keep | apply X_skip | apply X_skipN | refine X_call ?_ ⟨_, _, _, _, _, _, rfl, rfl, rfl, by rw [hP]; exact p_tensor_Check _ _⟩ ?_ | apply X_q | apply X_st | apply X_n | apply X_s | apply SKs0 | apply SKs2 | apply SKs1 | refine ⟨⟨rfl, rfl⟩, ?_⟩ | refine ⟨⟨rfl, ?_⟩, ?_⟩ | refine ⟨?_, ?_⟩ | (· (try simp only [go_sem, seval, reduceIte, ↓reduceIte, Bool.not_eq_true, reduceCtorEq, beq_false, beq_true, hn, hP, hx, hlt, hw, hx1]); first | done | rfl)))) | apply T_seq | apply T_block | refine T_scopeJ 0 rfl ?_ | apply T_scope | apply T_goto | apply T_ret | apply T_skip | apply T_exit | apply T_label | refine T_condT rfl ?_ | refine T_condF rfl ?_ | refine T_condD rfl (fun _ => ?_) (fun _ => ?_) | refine T_cond rfl (fun _ => ?_) (fun _ => ?_))
      exact rnd_next hlt () (by rw [hc, hx1]; simp) (Weak.sub fun p hp => by simp at hp)
  · rw [hd] at hc
    repeat' (first | apply T_then | apply then_ret | apply then_exit | apply then_goto | apply rnd_exit | apply rnd_ret | apply rnd_goto | apply noGo_normal | apply noGo_ret | apply noGo_exit | apply jmp_normal | apply jmp_ret | apply jmp_exit | apply jmp_goto | apply inB_normal | apply inB_ret | apply inB_goto | apply inB_exit | refine inB_exit_ne rfl ?_ | ((first | apply T_srK fw | apply T_regK fw); · ((try simp only [TOps.flat, List.cons_append, List.nil_append]); repeat (first | apply X_g0 | apply X_g | apply S_keep | apply X_skip | apply X_skipN | apply X_q | apply X_st | apply X_n | apply X_s | apply SKs0 | apply SKs2 | apply SKs1 | refine ⟨⟨rfl, rfl⟩, ?_⟩ | refine ⟨⟨rfl, ?_⟩, ?_⟩ | refine ⟨?_, ?_⟩ | (· (try simp only [go_sem, seval, reduceIte, ↓reduceIte, Bool.not_eq_true, reduceCtorEq, beq_false, beq_true, hn, hP, Int.lt_irrefl, Nat.lt_irrefl]); first | done | rfl)))) | apply T_seq | apply T_block | refine T_scopeJ 0 rfl ?_ | apply T_scope | apply T_goto | apply T_ret | apply T_skip | apply T_exit | apply T_label | refine T_condT rfl ?_ | refine T_condF rfl ?_ | refine T_condD rfl (fun _ => ?_) (fun _ => ?_) | refine T_cond rfl (fun _ => ?_) (fun _ => ?_))
    exact ends_ret rfl rfl rfl (by rw [hc]; rfl)

theorem p_matmul_Mul_1 {s d : List Int} {i k n : Nat} {x : Int} (hx : d[i * n + k]? = some x) (hm : i * n + k < 4611686018427387904) :
    PureC Try.prog fi_matmul_Mul_1 [dN i, dN k, bxT s d, bxN n] (dN x) := by
  refine pure_matmul_Mul_1 (by simp) fun G hP hn => ?_
  unfold a_matmul_Mul_1
  have hlt := (List.getElem?_eq_some_iff.1 hx).1
  have w1 : IntKind.i64.wrap ((i : Int) * (n : Int)) = ((i * n : Nat) : Int) := by rw [← Int.natCast_mul, wrap_in (by omega) (by omega)]
  have w2 : IntKind.i64.wrap (((i * n : Nat) : Int) + (k : Int)) = ((i * n + k : Nat) : Int) := by rw [← Int.natCast_add, wrap_in (by omega) (by omega)]
  repeat' (first | apply T_then | apply then_ret | apply then_exit | apply then_goto | apply rnd_exit | apply rnd_ret | apply rnd_goto | apply noGo_normal | apply noGo_ret | apply noGo_exit | apply jmp_normal | apply jmp_ret | apply jmp_exit | apply jmp_goto | apply inB_normal | apply inB_ret | apply inB_goto | apply inB_exit | refine inB_exit_ne rfl ?_ | ((first | apply T_srK fw | apply T_regK fw); · ((try simp only [TOps.flat, List.cons_append, List.nil_append]); repeat (first | apply X_g0 | apply X_g | apply S_keep | apply X_skip | apply X_skipN | apply X_q | apply X_st | apply X_n | apply X_s | apply SKs0 | apply SKs2 | apply SKs1 | refine ⟨⟨rfl, rfl⟩, ?_⟩ | refine ⟨⟨rfl, ?_⟩, ?_⟩ | refine ⟨?_, ?_⟩ | (· (try simp only [go_sem, seval, reduceIte, ↓reduceIte, Bool.not_eq_true, reduceCtorEq, beq_false, beq_true, hn, hP, w1, w2, hx, hlt]); first | done | rfl)))) | apply T_seq | apply T_block | refine T_scopeJ 0 rfl ?_ | apply T_scope | apply T_goto | apply T_ret | apply T_skip | apply T_exit | apply T_label | refine T_condT rfl ?_ | refine T_condF rfl ?_ | refine T_condD rfl (fun _ => ?_) (fun _ => ?_) | refine T_cond rfl (fun _ => ?_) (fun _ => ?_))
  exact ends_ret rfl rfl rfl rfl

theorem p_matmul_Mul_2 {t e : List Int} {k j p : Nat} {m x : Int} (hx : e[k * p + j]? = some x) (hm : k * p + j < 4611686018427387904) :
    PureC Try.prog fi_matmul_Mul_2 [dN k, dN j, bxT t e, .one (.box [.int .i64 m, .int .i64 p])] (dN x) := by
  refine pure_matmul_Mul_2 (by simp) fun G hP hn => ?_
  unfold a_matmul_Mul_2
  have hlt := (List.getElem?_eq_some_iff.1 hx).1
  have w1 : IntKind.i64.wrap ((k : Int) * (p : Int)) = ((k * p : Nat) : Int) := by rw [← Int.natCast_mul, wrap_in (by omega) (by omega)]
  have w2 : IntKind.i64.wrap (((k * p : Nat) : Int) + (j : Int)) = ((k * p + j : Nat) : Int) := by rw [← Int.natCast_add, wrap_in (by omega) (by omega)]
  repeat' (first | apply T_then | apply then_ret | apply then_exit | apply then_goto | apply rnd_exit | apply rnd_ret | apply rnd_goto | apply noGo_normal | apply noGo_ret | apply noGo_exit | apply jmp_normal | apply jmp_ret | apply jmp_exit | apply jmp_goto | apply inB_normal | apply inB_ret | apply inB_goto | apply inB_exit | refine inB_exit_ne rfl ?_ | ((first | apply T_srK fw | apply T_regK fw); · ((try simp only [TOps.flat, List.cons_append, List.nil_append]); repeat (first | apply X_g0 | apply X_g | apply S_keep | apply X_skip | apply X_skipN | apply X_q | apply X_st | apply X_n | apply X_s | apply SKs0 | apply SKs2 | apply SKs1 | refine ⟨⟨rfl, rfl⟩, ?_⟩ | refine ⟨⟨rfl, ?_⟩, ?_⟩ | refine ⟨?_, ?_⟩ | (· (try simp only [go_sem, seval, reduceIte, ↓reduceIte, Bool.not_eq_true, reduceCtorEq, beq_false, beq_true, hn, hP, w1, w2, hx, hlt]); first | done | rfl)))) | apply T_seq | apply T_block | refine T_scopeJ 0 rfl ?_ | apply T_scope | apply T_goto | apply T_ret | apply T_skip | apply T_exit | apply T_label | refine T_condT rfl ?_ | refine T_condF rfl ?_ | refine T_condD rfl (fun _ => ?_) (fun _ => ?_) | refine T_cond rfl (fun _ => ?_) (fun _ => ?_))
  exact ends_ret rfl rfl rfl rfl
end Go.AM

namespace Go.AM
open Go Go.Proofs
set_option maxRecDepth 100000
set_option maxHeartbeats 4000000
set_option linter.unusedSimpArgs false
set_option linter.unusedVariables false

def gt (d : List Int) (i : Nat) : Int := (d[i]?).getD 0
/-- the number at a place of a product -/
def cell (n p : Nat) (d e : List Int) (at_ : Nat) : Int × Int := dot (fun k => gt d (at_ / p * n + k)) (fun k => gt e (k * p + at_ % p)) n 0 0
def mulF (s d t e : List Int) : (List Int × List Int) × Int :=
  if checkT s d = true ∧ checkT t e = true then
    match s, t with
    | [m, n], [n', p] => if n = n' ∧ checkS [m, p] = true then
        (if (coll (cell n.toNat p.toNat d e) (m * p).toNat 0 []).2 = 0 then (([m, p], (coll (cell n.toNat p.toNat d e) (m * p).toNat 0 []).1), 0) else bad (coll (cell n.toNat p.toNat d e) (m * p).toNat 0 []).2) else bad 20
    | _, _ => bad 20
  else bad 30

theorem ends_aggMM {rv : List RV} {s : AS} {t1 t2 k1 k2 l1 l2 : Nat} {cap1 cap2 : Option Nat} {m : Bool} {rows1 rows2 : List (List PV)} {v : PV}
    (h1 : evRV rv s.env s.σ = some [.agg [.msl t1 0 k1 l1 cap1, .msl t2 0 k2 l2 cap2], .one (.p v)]) (h2 : lo s.σ t1 = .arr false k1 rows1) (h3 : lo s.σ t2 = .arr m k2 rows2) (hl1 : l1 = rows1.length) (hl2 : l2 = rows2.length) :
    Ends rv (.tup [.agg [.sl rows1, .sl rows2], .one v]) .ret s :=
  ends_ret (ds := [.agg [.sl rows1, .sl rows2], .one v]) (σ' := if m then (t2, .arr false k2 rows2) :: s.σ else s.σ) h1 (by
    have h4 : foldP (toP 6) [.msl t1 0 k1 l1 cap1, .msl t2 0 k2 l2 cap2] s.σ = some ([.sl rows1, .sl rows2], if m then (t2, .arr false k2 rows2) :: s.σ else s.σ) := by
      have e1 := toD_list (n := 5) (cap := cap1) h2 hl1
      have e2 := toD_list (n := 5) (cap := cap2) h3 hl2
      simp only [Bool.false_eq_true, if_false] at e1
      simp only [foldP, e1, e2]
    simp only [toDs, toD, h4]; rfl) rfl rfl

theorem take_set_succ {d : List Int} {i : Nat} (h : i < d.length) (x : Int) : (d.set i x).take (i + 1) = d.take i ++ [x] := by
  rw [List.take_set, List.take_add_one, List.getElem?_eq_getElem h]
  simp only [Option.toList]
  rw [List.set_append_right _ _ (by simp; omega)]
  have : i - (d.take i).length = 0 := by simp; omega
  rw [this]; rfl

theorem p_matmul_Mul (s d t e : List Int) (hd : I64s d) (he : I64s e) : PureC Try.prog fi_matmul_Mul [dT s d, dT t e] (dTE (mulF s d t e)) := by
  refine pure_matmul_Mul (by simp) fun G hP hn => ?_
  unfold a_matmul_Mul
  have km := p_matmul_may [(s, d), (t, e)]
  simp only [rT, List.map, List.all_cons, List.all_nil, Bool.and_true] at km
  have fin : ∀ er : Int, mulF s d t e = bad er → dTE (mulF s d t e) = .tup [.agg [.sl [], .sl []], dN er] := fun er h => by rw [h]; rfl
  cases hc1 : checkT s d
  · have hf : mulF s d t e = bad 30 := by unfold mulF; rw [if_neg (by simp [hc1])]
    rw [hc1] at km
    repeat' (first | apply T_then | apply then_ret | apply then_exit | apply then_goto | apply rnd_exit | apply rnd_ret | apply rnd_goto | apply noGo_normal | apply noGo_ret | apply noGo_exit | apply jmp_normal | apply jmp_ret | apply jmp_exit | apply jmp_goto | apply inB_normal | apply inB_ret | apply inB_goto | apply inB_exit | refine inB_exit_ne rfl ?_ | ((first | apply T_srK fw | apply T_regK fw); · ((try simp only [TOps.flat, List.cons_append, List.nil_append]); repeat (first | apply X_g0 | apply X_g | apply S_keep | apply X_skip | apply X_skipN | refine X_call ?_ ⟨_, _, _, _, _, _, rfl, rfl, rfl, by rw [hP]; exact km⟩ ?_ | apply X_q | apply X_st | apply X_n | apply X_s | apply SKs0 | apply SKs2 | apply SKs1 | refine ⟨⟨rfl, rfl⟩, ?_⟩ | refine ⟨⟨rfl, ?_⟩, ?_⟩ | refine ⟨?_, ?_⟩ | (· (try simp only [go_sem, seval, reduceIte, ↓reduceIte, Bool.not_eq_true, reduceCtorEq, beq_false, beq_true, hn, hP]); first | done | rfl)))) | apply T_seq | apply T_block | refine T_scopeJ 0 rfl ?_ | apply T_scope | apply T_goto | apply T_ret | apply T_skip | apply T_exit | apply T_label | refine T_condT rfl ?_ | refine T_condF rfl ?_ | refine T_condD rfl (fun _ => ?_) (fun _ => ?_) | refine T_cond rfl (fun _ => ?_) (fun _ => ?_))
    exact ends_ret rfl rfl rfl (by rw [hf]; rfl)
  cases hc2 : checkT t e
  · have hf : mulF s d t e = bad 30 := by unfold mulF; rw [if_neg (by simp [hc2])]
    rw [hc1, hc2] at km
    repeat' (first | apply T_then | apply then_ret | apply then_exit | apply then_goto | apply rnd_exit | apply rnd_ret | apply rnd_goto | apply noGo_normal | apply noGo_ret | apply noGo_exit | apply jmp_normal | apply jmp_ret | apply jmp_exit | apply jmp_goto | apply inB_normal | apply inB_ret | apply inB_goto | apply inB_exit | refine inB_exit_ne rfl ?_ | ((first | apply T_srK fw | apply T_regK fw); · ((try simp only [TOps.flat, List.cons_append, List.nil_append]); repeat (first | apply X_g0 | apply X_g | apply S_keep | apply X_skip | apply X_skipN | refine X_call ?_ ⟨_, _, _, _, _, _, rfl, rfl, rfl, by rw [hP]; exact km⟩ ?_ | apply X_q | apply X_st | apply X_n | apply X_s | apply SKs0 | apply SKs2 | apply SKs1 | refine ⟨⟨rfl, rfl⟩, ?_⟩ | refine ⟨⟨rfl, ?_⟩, ?_⟩ | refine ⟨?_, ?_⟩ | (· (try simp only [go_sem, seval, reduceIte, ↓reduceIte, Bool.not_eq_true, reduceCtorEq, beq_false, beq_true, hn, hP]); first | done | rfl)))) | apply T_seq | apply T_block | refine T_scopeJ 0 rfl ?_ | apply T_scope | apply T_goto | apply T_ret | apply T_skip | apply T_exit | apply T_label | refine T_condT rfl ?_ | refine T_condF rfl ?_ | refine T_condD rfl (fun _ => ?_) (fun _ => ?_) | refine T_cond rfl (fun _ => ?_) (fun _ => ?_))
    exact ends_ret rfl rfl rfl (by rw [hf]; rfl)
  rw [hc1, hc2] at km
  have hcc : checkT s d = true ∧ checkT t e = true := ⟨hc1, hc2⟩
  by_cases hs2 : s.length = 2
  rotate_left
  · have hf : mulF s d t e = bad 20 := by
      unfold mulF; rw [if_pos hcc]
      match s, hs2 with
      | [], _ => rfl
      | [a], _ => rfl
      | a :: b :: c :: r, _ => rfl
      | [a, b], h => exact absurd rfl h
    have c1 : ((s.length : Int) != 2) = true := by simp; omega
    repeat' (first | apply T_then | apply then_ret | apply then_exit | apply then_goto | apply rnd_exit | apply rnd_ret | apply rnd_goto | apply noGo_normal | apply noGo_ret | apply noGo_exit | apply jmp_normal | apply jmp_ret | apply jmp_exit | apply jmp_goto | apply inB_normal | apply inB_ret | apply inB_goto | apply inB_exit | refine inB_exit_ne rfl ?_ | ((first | apply T_srK fw | apply T_regK fw); · ((try simp only [TOps.flat, List.cons_append, List.nil_append]); repeat (first | apply X_g0 | apply X_g | apply S_keep | apply X_skip | apply X_skipN | refine X_call ?_ ⟨_, _, _, _, _, _, rfl, rfl, rfl, by rw [hP]; exact km⟩ ?_ | apply X_q | apply X_st | apply X_n | apply X_s | apply SKs0 | apply SKs2 | apply SKs1 | refine ⟨⟨rfl, rfl⟩, ?_⟩ | refine ⟨⟨rfl, ?_⟩, ?_⟩ | refine ⟨?_, ?_⟩ | (· (try simp only [go_sem, seval, reduceIte, ↓reduceIte, Bool.not_eq_true, reduceCtorEq, beq_false, beq_true, hn, hP, c1]); first | done | rfl)))) | ((first | apply T_sdF fw (by rw [hP]; rfl) (by decide +kernel) | apply T_drF fw (by rw [hP]; rfl) (by decide +kernel)); · ((try simp only [TOps.flat, List.cons_append, List.nil_append]); repeat (first | apply Y_g0 | apply Y_g | apply Y_skip | apply Y_q | refine Y_call ⟨_, _, _, _, _, _, rfl, rfl, rfl, by rw [hP]; exact km⟩ ?_ ?_ | refine RunF_nil (P := G.P) ?_ | (· (try simp only [go_sem, seval, reduceIte, ↓reduceIte, Bool.not_eq_true, reduceCtorEq, beq_false, beq_true, hn, hP, c1]); first | done | rfl)))) | apply T_seq | apply T_block | refine T_scopeJ 0 rfl ?_ | apply T_scope | apply T_goto | apply T_ret | apply T_skip | apply T_exit | apply T_label | refine T_condT rfl ?_ | refine T_condF rfl ?_ | refine T_condD rfl (fun _ => ?_) (fun _ => ?_) | refine T_cond rfl (fun _ => ?_) (fun _ => ?_))
    exact ends_ret rfl rfl rfl (by rw [hf]; rfl)
  by_cases ht2 : t.length = 2
  rotate_left
  · have hf : mulF s d t e = bad 20 := by
      unfold mulF; rw [if_pos hcc]
      match s, t, hs2, ht2 with
      | [a, b], [], _, _ => rfl
      | [a, b], [c], _, _ => rfl
      | [a, b], c :: f :: g :: r, _, _ => rfl
      | [a, b], [c, f], _, h => exact absurd rfl h
    have c1 : ((s.length : Int) != 2) = false := by simp; omega
    have c2 : ((t.length : Int) != 2) = true := by simp; omega
    repeat' (first | apply T_then | apply then_ret | apply then_exit | apply then_goto | apply rnd_exit | apply rnd_ret | apply rnd_goto | apply noGo_normal | apply noGo_ret | apply noGo_exit | apply jmp_normal | apply jmp_ret | apply jmp_exit | apply jmp_goto | apply inB_normal | apply inB_ret | apply inB_goto | apply inB_exit | refine inB_exit_ne rfl ?_ | ((first | apply T_srK fw | apply T_regK fw); · ((try simp only [TOps.flat, List.cons_append, List.nil_append]); repeat (first | apply X_g0 | apply X_g | apply S_keep | apply X_skip | apply X_skipN | refine X_call ?_ ⟨_, _, _, _, _, _, rfl, rfl, rfl, by rw [hP]; exact km⟩ ?_ | apply X_q | apply X_st | apply X_n | apply X_s | apply SKs0 | apply SKs2 | apply SKs1 | refine ⟨⟨rfl, rfl⟩, ?_⟩ | refine ⟨⟨rfl, ?_⟩, ?_⟩ | refine ⟨?_, ?_⟩ | (· (try simp only [go_sem, seval, reduceIte, ↓reduceIte, Bool.not_eq_true, reduceCtorEq, beq_false, beq_true, hn, hP, c1, c2]); first | done | rfl)))) | ((first | apply T_sdF fw (by rw [hP]; rfl) (by decide +kernel) | apply T_drF fw (by rw [hP]; rfl) (by decide +kernel)); · ((try simp only [TOps.flat, List.cons_append, List.nil_append]); repeat (first | apply Y_g0 | apply Y_g | apply Y_skip | apply Y_q | refine Y_call ⟨_, _, _, _, _, _, rfl, rfl, rfl, by rw [hP]; exact km⟩ ?_ ?_ | refine RunF_nil (P := G.P) ?_ | (· (try simp only [go_sem, seval, reduceIte, ↓reduceIte, Bool.not_eq_true, reduceCtorEq, beq_false, beq_true, hn, hP, c1, c2]); first | done | rfl)))) | apply T_seq | apply T_block | refine T_scopeJ 0 rfl ?_ | apply T_scope | apply T_goto | apply T_ret | apply T_skip | apply T_exit | apply T_label | refine T_condT rfl ?_ | refine T_condF rfl ?_ | refine T_condD rfl (fun _ => ?_) (fun _ => ?_) | refine T_cond rfl (fun _ => ?_) (fun _ => ?_))
    exact ends_ret rfl rfl rfl (by rw [hf]; rfl)
  obtain ⟨m, n, rfl⟩ : ∃ m n, s = [m, n] := match s, hs2 with | [a, b], _ => ⟨a, b, rfl⟩
  obtain ⟨n', p, rfl⟩ : ∃ m n, t = [m, n] := match t, ht2 with | [a, b], _ => ⟨a, b, rfl⟩
  cases hnn : (n != n')
  rotate_left
  · have hne : ¬ n = n' := by simpa using hnn
    have hf : mulF [m, n] d [n', p] e = bad 20 := by
      unfold mulF; rw [if_pos hcc]; simp only; rw [if_neg (fun h => hne h.1)]
    repeat' (first | apply T_then | apply then_ret | apply then_exit | apply then_goto | apply rnd_exit | apply rnd_ret | apply rnd_goto | apply noGo_normal | apply noGo_ret | apply noGo_exit | apply jmp_normal | apply jmp_ret | apply jmp_exit | apply jmp_goto | apply inB_normal | apply inB_ret | apply inB_goto | apply inB_exit | refine inB_exit_ne rfl ?_ | ((first | apply T_srK fw | apply T_regK fw); · ((try simp only [TOps.flat, List.cons_append, List.nil_append]); repeat (first | apply X_g0 | apply X_g | apply S_keep | apply X_skip | apply X_skipN | refine X_call ?_ ⟨_, _, _, _, _, _, rfl, rfl, rfl, by rw [hP]; exact km⟩ ?_ | apply X_q | apply X_st | apply X_n | apply X_s | apply SKs0 | apply SKs2 | apply SKs1 | refine ⟨⟨rfl, rfl⟩, ?_⟩ | refine ⟨⟨rfl, ?_⟩, ?_⟩ | refine ⟨?_, ?_⟩ | (· (try simp only [go_sem, seval, reduceIte, ↓reduceIte, Bool.not_eq_true, reduceCtorEq, beq_false, beq_true, hn, hP, hnn]); first | done | rfl)))) | ((first | apply T_sdF fw (by rw [hP]; rfl) (by decide +kernel) | apply T_drF fw (by rw [hP]; rfl) (by decide +kernel)); · ((try simp only [TOps.flat, List.cons_append, List.nil_append]); repeat (first | apply Y_g0 | apply Y_g | apply Y_skip | apply Y_q | refine Y_call ⟨_, _, _, _, _, _, rfl, rfl, rfl, by rw [hP]; exact km⟩ ?_ ?_ | refine RunF_nil (P := G.P) ?_ | (· (try simp only [go_sem, seval, reduceIte, ↓reduceIte, Bool.not_eq_true, reduceCtorEq, beq_false, beq_true, hn, hP, hnn]); first | done | rfl)))) | apply T_seq | apply T_block | refine T_scopeJ 0 rfl ?_ | apply T_scope | apply T_goto | apply T_ret | apply T_skip | apply T_exit | apply T_label | refine T_condT rfl ?_ | refine T_condF rfl ?_ | refine T_condD rfl (fun _ => ?_) (fun _ => ?_) | refine T_cond rfl (fun _ => ?_) (fun _ => ?_))
    exact ends_ret rfl rfl rfl (by rw [hf]; rfl)
  obtain rfl : n = n' := by simpa using hnn
  cases hck : checkS [m, p]
  · have hf : mulF [m, n] d [n, p] e = bad 20 := by
      unfold mulF; rw [if_pos hcc]; simp only; rw [if_neg (fun h => by rw [hck] at h; cases h.2)]
    have kc := p_shape_Check [m, p]
    repeat' (first | apply T_then | apply then_ret | apply then_exit | apply then_goto | apply rnd_exit | apply rnd_ret | apply rnd_goto | apply noGo_normal | apply noGo_ret | apply noGo_exit | apply jmp_normal | apply jmp_ret | apply jmp_exit | apply jmp_goto | apply inB_normal | apply inB_ret | apply inB_goto | apply inB_exit | refine inB_exit_ne rfl ?_ | ((first | apply T_srK fw | apply T_regK fw); · ((try simp only [TOps.flat, List.cons_append, List.nil_append]); repeat (first | apply X_g0 | apply X_g | apply S_keep | apply X_skip | apply X_skipN | refine X_call ?_ ⟨_, _, _, _, _, _, rfl, rfl, rfl, by rw [hP]; exact km⟩ ?_ | refine X_call ?_ ⟨_, _, _, _, _, _, rfl, rfl, rfl, by rw [hP]; exact kc⟩ ?_ | apply X_q | apply X_st | apply X_n | apply X_s | apply SKs0 | apply SKs2 | apply SKs1 | refine ⟨⟨rfl, rfl⟩, ?_⟩ | refine ⟨⟨rfl, ?_⟩, ?_⟩ | refine ⟨?_, ?_⟩ | (· (try simp only [go_sem, seval, reduceIte, ↓reduceIte, Bool.not_eq_true, reduceCtorEq, beq_false, beq_true, hn, hP, hnn, hck]); first | done | rfl)))) | ((first | apply T_sdF fw (by rw [hP]; rfl) (by decide +kernel) | apply T_drF fw (by rw [hP]; rfl) (by decide +kernel)); · ((try simp only [TOps.flat, List.cons_append, List.nil_append]); repeat (first | apply Y_g0 | apply Y_g | apply Y_skip | apply Y_q | refine Y_call ⟨_, _, _, _, _, _, rfl, rfl, rfl, by rw [hP]; exact km⟩ ?_ ?_ | refine Y_call ⟨_, _, _, _, _, _, rfl, rfl, rfl, by rw [hP]; exact kc⟩ ?_ ?_ | refine RunF_nil (P := G.P) ?_ | (· (try simp only [go_sem, seval, reduceIte, ↓reduceIte, Bool.not_eq_true, reduceCtorEq, beq_false, beq_true, hn, hP, hnn, hck]); first | done | rfl)))) | ((first | apply T_sd fw (by rw [hP]; rfl) | apply T_dr fw (by rw [hP]; rfl)); · ((try simp only [go_sem, seval, reduceIte, ↓reduceIte, bne, beq_false, beq_true, Bool.not_eq_true, Bool.if_true_right, decide_not, reduceCtorEq, hP, hnn, hck]); (repeat ((first       | (refine ⟨_, ⟨_, _, _, _, _, _, rfl, rfl, rfl, km⟩, ?_⟩)       | (refine ⟨_, ⟨_, _, _, _, _, _, rfl, rfl, rfl, kc⟩, ?_⟩)); (try simp only [go_sem, seval, reduceIte, ↓reduceIte, bne, beq_false, beq_true, Bool.not_eq_true, Bool.if_true_right, decide_not, reduceCtorEq, hP, hnn, hck]))); (first | done | exact rfl))) | apply T_seq | apply T_block | refine T_scopeJ 0 rfl ?_ | apply T_scope | apply T_goto | apply T_ret | apply T_skip | apply T_exit | apply T_label | refine T_condT rfl ?_ | refine T_condF rfl ?_ | refine T_condD rfl (fun _ => ?_) (fun _ => ?_) | refine T_cond rfl (fun _ => ?_) (fun _ => ?_))
    exact ends_ret rfl rfl rfl (by rw [hf]; rfl)
  have hsd := checkT_iff.1 hc1
  have hte := checkT_iff.1 hc2
  have hm1 : 1 ≤ m ∧ m ≤ 16 := hsd.1.2.1 m (by simp)
  have hn1 : 1 ≤ n ∧ n ≤ 16 := hsd.1.2.1 n (by simp)
  have hp1 : 1 ≤ p ∧ p ≤ 16 := hte.1.2.1 p (by simp)
  obtain ⟨M, rfl⟩ := Int.eq_ofNat_of_zero_le (by omega : 0 ≤ m)
  obtain ⟨N, rfl⟩ := Int.eq_ofNat_of_zero_le (by omega : 0 ≤ n)
  obtain ⟨K, rfl⟩ := Int.eq_ofNat_of_zero_le (by omega : 0 ≤ p)
  have hdl : d.length = M * N := by have := hsd.2; simp only [prd, Int.mul_one] at this; exact_mod_cast this
  have hel : e.length = N * K := by have := hte.2; simp only [prd, Int.mul_one] at this; exact_mod_cast this
  have hMK : M * K ≤ 16 * 16 := Nat.mul_le_mul (by omega) (by omega)
  have w1 : IntKind.i64.wrap ((M : Int) * (K : Int)) = ((M * K : Nat) : Int) := by rw [← Int.natCast_mul, wrap_in (by omega) (by omega)]
  have hM : MaxN = 140737488355328 := rfl
  have q1 : ((M * K : Nat) : Int) * 8 ≤ MaxN := by omega
  have q2 : ((M * K : Nat) : Int) ≤ MaxN := by omega
  have kc := p_shape_Check [(M : Int), (K : Int)]
  repeat' (first | apply T_then | apply then_ret | apply then_exit | apply then_goto | apply rnd_exit | apply rnd_ret | apply rnd_goto | apply noGo_normal | apply noGo_ret | apply noGo_exit | apply jmp_normal | apply jmp_ret | apply jmp_exit | apply jmp_goto | apply inB_normal | apply inB_ret | apply inB_goto | apply inB_exit | refine inB_exit_ne rfl ?_ | ((first | apply T_srK fw | apply T_regK fw); · ((try simp only [TOps.flat, List.cons_append, List.nil_append]); repeat (first | apply X_g0 | apply X_g | apply S_keep | apply X_skip | apply X_skipN | refine X_call ?_ ⟨_, _, _, _, _, _, rfl, rfl, rfl, by rw [hP]; exact km⟩ ?_ | refine X_call ?_ ⟨_, _, _, _, _, _, rfl, rfl, rfl, by rw [hP]; exact kc⟩ ?_ | apply X_q | apply X_st | apply X_n | apply X_s | apply SKs0 | apply SKs2 | apply SKs1 | refine ⟨⟨rfl, rfl⟩, ?_⟩ | refine ⟨⟨rfl, ?_⟩, ?_⟩ | refine ⟨?_, ?_⟩ | (· (try simp only [go_sem, seval, reduceIte, ↓reduceIte, Bool.not_eq_true, reduceCtorEq, beq_false, beq_true, hn, hP, hnn, hck, w1, q1, q2, Int.le_refl]); first | done | rfl)))) | ((first | apply T_sdF fw (by rw [hP]; rfl) (by decide +kernel) | apply T_drF fw (by rw [hP]; rfl) (by decide +kernel)); · ((try simp only [TOps.flat, List.cons_append, List.nil_append]); repeat (first | apply Y_g0 | apply Y_g | apply Y_skip | apply Y_q | refine Y_call ⟨_, _, _, _, _, _, rfl, rfl, rfl, by rw [hP]; exact km⟩ ?_ ?_ | refine Y_call ⟨_, _, _, _, _, _, rfl, rfl, rfl, by rw [hP]; exact kc⟩ ?_ ?_ | refine RunF_nil (P := G.P) ?_ | (· (try simp only [go_sem, seval, reduceIte, ↓reduceIte, Bool.not_eq_true, reduceCtorEq, beq_false, beq_true, hn, hP, hnn, hck, w1, q1, q2, Int.le_refl]); first | done | rfl)))) | ((first | apply T_sd fw (by rw [hP]; rfl) | apply T_dr fw (by rw [hP]; rfl)); · ((try simp only [go_sem, seval, reduceIte, ↓reduceIte, bne, beq_false, beq_true, Bool.not_eq_true, Bool.if_true_right, decide_not, reduceCtorEq, hP, hnn, hck, w1, q1, q2, Int.le_refl]); (repeat ((first       | (refine ⟨_, ⟨_, _, _, _, _, _, rfl, rfl, rfl, km⟩, ?_⟩)       | (refine ⟨_, ⟨_, _, _, _, _, _, rfl, rfl, rfl, kc⟩, ?_⟩)); (try simp only [go_sem, seval, reduceIte, ↓reduceIte, bne, beq_false, beq_true, Bool.not_eq_true, Bool.if_true_right, decide_not, reduceCtorEq, hP, hnn, hck, w1, q1, q2, Int.le_refl]))); (first | done | exact rfl))) | apply T_seq | apply T_block | refine T_scopeJ 0 rfl ?_ | apply T_scope | apply T_goto | apply T_ret | apply T_skip | apply T_exit | apply T_label | refine T_condT rfl ?_ | refine T_condF rfl ?_ | refine T_condD rfl (fun _ => ?_) (fun _ => ?_) | refine T_cond rfl (fun _ => ?_) (fun _ => ?_))
  have hmul : mulF [(M : Int), (N : Int)] d [(N : Int), (K : Int)] e = if (coll (cell N K d e) (M * K) 0 []).2 = 0 then (([(M : Int), (K : Int)], (coll (cell N K d e) (M * K) 0 []).1), 0) else bad (coll (cell N K d e) (M * K) 0 []).2 := by
    have e1 : ((M : Int) * (K : Int)).toNat = M * K := by rw [← Int.natCast_mul]; omega
    unfold mulF; rw [if_pos hcc]; simp only [Int.toNat_natCast, e1]; rw [if_pos ⟨trivial, hck⟩]
  have fin2 : ∀ er : Int, coll (cell N K d e) (M * K) 0 [] = ([], er) → er ≠ 0 → mulF [(M : Int), (N : Int)] d [(N : Int), (K : Int)] e = bad er := fun er h1 h2 => by rw [hmul, h1]; exact if_neg h2
  refine T_weak (Weak.freeze (i := 8) rfl rfl) ?_
  refine T_weak (Weak.freeze (i := 9) rfl rfl) ?_
  refine T_for (M * K) (fun i data => { env := [(4, .one (.ptr 4 0 2 0)), (6, .one (.ptr 6 0 1 0)), (7, .one (.ptr 7 0 1 0)), (8, .one (.p (.fn fi_matmul_Mul_1 [] [.box [eI [(M : Int), (N : Int)], eI d], .box [.int .i64 N]]))), (9, .one (.p (.fn fi_matmul_Mul_2 [] [.box [eI [(N : Int), (K : Int)], eI e], .box [.int .i64 M, .int .i64 K]]))), (10, .one (.msl 68 0 1 (M * K) (some (M * K)))), (70, .one (.p (.int .i64 ((M * K : Nat) : Int)))), (71, .one (.p (.int .i64 i)))], σ := [(4, .cells true [.nils, .nils]), (6, .arr false 1 [[.int .i64 M], [.int .i64 K]]), (7, .cells false [.p (.int .i64 N)]), (68, .arr true 1 (rI data))] })
    (fun i data => data.length = M * K ∧ data.drop i = List.replicate (M * K - i) 0 ∧ coll (cell N K d e) (M * K - i) i (data.take i) = coll (cell N K d e) (M * K) 0 []) (List.replicate (M * K) 0) ⟨by simp, by simp, by simp⟩ ?_ fun i data hi hc => ?_
  · refine (Weak.pick [4, 6, 7, 8, 9, 10, 70, 71]).trans (Weak.sub fun p hp => ?_)
    simp only [List.mem_cons, List.not_mem_nil, or_false] at hp
    rcases hp with rfl | rfl | rfl | rfl
    · rfl
    · rfl
    · rfl
    · simp [lo, rI]
  obtain ⟨hc1', hc2', hc3⟩ := hc
  by_cases hlt : i < M * K
  · have c1 : (i : Int) < ((M * K : Nat) : Int) := by omega
    have w2 : IntKind.i64.wrap ((i : Int) + 1) = ((i + 1 : Nat) : Int) := by rw [wrap_in (by omega) (by omega)]; rfl
    have hK0 : ((K : Int) = 0) = False := by simp; omega
    have qd : IntKind.i64.wrap ((i : Int).tdiv (K : Int)) = ((i / K : Nat) : Int) := by
      have hq := Nat.div_le_self i K
      rw [Int.tdiv_eq_ediv_of_nonneg (by omega), ← Int.natCast_ediv]
      generalize i / K = q at hq ⊢
      exact wrap_in (by omega) (by omega)
    have qm : (i : Int).tmod (K : Int) = ((i % K : Nat) : Int) := by rw [Int.tmod_eq_emod_of_nonneg (by omega)]; omega
    have hiK : i / K < M := (Nat.div_lt_iff_lt_mul (by omega)).2 hlt
    have hmK : i % K < K := Nat.mod_lt _ (by omega)
    have hMN : M * N ≤ 16 * 16 := Nat.mul_le_mul (by omega) (by omega)
    have hNK : N * K ≤ 16 * 16 := Nat.mul_le_mul (by omega) (by omega)
    have hdi : data[i]? = some 0 := by
      have : (data.drop i)[0]? = some 0 := by rw [hc2', List.getElem?_replicate]; rw [if_pos (by omega)]
      rw [List.getElem?_drop] at this; simpa using this
    repeat' (first | apply T_then | apply then_ret | apply then_exit | apply then_goto | apply rnd_exit | apply rnd_ret | apply rnd_goto | apply noGo_normal | apply noGo_ret | apply noGo_exit | apply jmp_normal | apply jmp_ret | apply jmp_exit | apply jmp_goto | apply inB_normal | apply inB_ret | apply inB_goto | apply inB_exit | refine inB_exit_ne rfl ?_ | ((first | apply T_srK fw | apply T_regK fw); · ((try simp only [TOps.flat, List.cons_append, List.nil_append]); repeat (first | apply X_g0 | apply X_g | apply S_keep | apply X_skip | apply X_skipN | apply X_q | apply X_st | apply X_n | apply X_s | apply SKs0 | apply SKs2 | apply SKs1 | refine ⟨⟨rfl, rfl⟩, ?_⟩ | refine ⟨⟨rfl, ?_⟩, ?_⟩ | refine ⟨?_, ?_⟩ | (· (try simp only [go_sem, seval, reduceIte, ↓reduceIte, Bool.not_eq_true, reduceCtorEq, beq_false, beq_true, hn, hP, c1]); first | done | rfl)))) | apply T_seq | apply T_block | refine T_scopeJ 0 rfl ?_ | apply T_scope | apply T_goto | apply T_ret | apply T_skip | apply T_exit | apply T_label | refine T_condT rfl ?_ | refine T_condF rfl ?_ | refine T_condD rfl (fun _ => ?_) (fun _ => ?_) | refine T_cond rfl (fun _ => ?_) (fun _ => ?_))
    refine T_for N (fun k sum => { env := [(4, .one (.ptr 4 0 2 0)), (6, .one (.ptr 6 0 1 0)), (7, .one (.ptr 7 0 1 0)), (8, .one (.p (.fn fi_matmul_Mul_1 [] [.box [eI [(M : Int), (N : Int)], eI d], .box [.int .i64 N]]))), (9, .one (.p (.fn fi_matmul_Mul_2 [] [.box [eI [(N : Int), (K : Int)], eI e], .box [.int .i64 M, .int .i64 K]]))), (10, .one (.msl 68 0 1 (M * K) (some (M * K)))), (11, .one (.p (.int .i64 i))), (70, .one (.p (.int .i64 ((M * K : Nat) : Int)))), (71, .one (.p (.int .i64 i))), (74, .one (.p (.int .i64 N))), (75, .one (.p (.int .i64 k)))], σ := [(4, .cells true [.nils, .nils]), (6, .arr false 1 [[.int .i64 M], [.int .i64 K]]), (7, .cells false [.p (.int .i64 N)]), (68, .arr true 1 (rI (data.set i sum)))] })
      (fun k sum => I64 sum ∧ dot (fun k => gt d (i / K * N + k)) (fun k => gt e (k * K + i % K)) (N - k) k sum = cell N K d e i) 0 ⟨⟨by decide, by decide⟩, rfl⟩ ?_ fun k sum hk hck2 => ?_
    · have e0 : data.set i 0 = data := by
        apply List.ext_getElem?
        intro j
        rw [List.getElem?_set]
        split
        · rename_i hj; subst hj; rw [hdi]; simp [hc1', hlt]
        · rfl
      rw [e0]
      exact (Weak.pick [4, 6, 7, 8, 9, 10, 11, 70, 71, 74, 75]).trans (Weak.sub fun p hp => by
        simp only [List.mem_cons, List.not_mem_nil, or_false] at hp
        rcases hp with rfl | rfl | rfl | rfl <;> rfl)
    · obtain ⟨hsum, hdot⟩ := hck2
      by_cases hkN : k < N
      · have k1 : (k : Int) < (N : Int) := by omega
        have w4 : IntKind.i64.wrap ((k : Int) + 1) = ((k + 1 : Nat) : Int) := by rw [wrap_in (by omega) (by omega)]; rfl
        have hb1 : i / K * N + k < M * N := by
          have : (i / K + 1) * N ≤ M * N := Nat.mul_le_mul_right N hiK
          rw [Nat.succ_mul] at this; omega
        have hb2 : k * K + i % K < N * K := by
          have : (k + 1) * K ≤ N * K := Nat.mul_le_mul_right K hkN
          rw [Nat.succ_mul] at this; omega
        have hx : d[i / K * N + k]? = some (gt d (i / K * N + k)) := by
          rw [gt, List.getElem?_eq_getElem (by omega)]; rfl
        have hy : e[k * K + i % K]? = some (gt e (k * K + i % K)) := by
          rw [gt, List.getElem?_eq_getElem (by omega)]; rfl
        have kr := p_matmul_Mul_1 (s := [(M : Int), (N : Int)]) (i := i / K) (k := k) (n := N) hx (by omega)
        have kq := p_matmul_Mul_2 (t := [(N : Int), (K : Int)]) (k := k) (j := i % K) (p := K) (m := M) hy (by omega)
        have kmul := p_fix_Mul (hd.get hx) (he.get hy)
        have hNk : N - k = (N - (k + 1)) + 1 := by omega
        rw [hNk] at hdot
        simp only [dot] at hdot
        generalize gt d (i / K * N + k) = x at *
        generalize gt e (k * K + i % K) = y at *
        have hset : (data.set i sum)[i]? = some sum := by rw [List.getElem?_set_self (by omega)]
        have hsl : (data.set i sum).length = M * K := by simp [hc1']
        by_cases e1 : (fMul x y).2 = 0
        · rw [if_pos e1] at hdot
          have e1' : ((fMul x y).2 != 0) = false := by simp [e1]
          have kadd := p_fix_Add hsum (fMul_range x y)
          by_cases e2 : (fAdd sum (fMul x y).1).2 = 0
          · rw [if_pos e2] at hdot
            have e2' : ((fAdd sum (fMul x y).1).2 != 0) = false := by simp [e2]
            repeat' (first | apply T_then | apply then_ret | apply then_exit | apply then_goto | apply rnd_exit | apply rnd_ret | apply rnd_goto | apply noGo_normal | apply noGo_ret | apply noGo_exit | apply jmp_normal | apply jmp_ret | apply jmp_exit | apply jmp_goto | apply inB_normal | apply inB_ret | apply inB_goto | apply inB_exit | refine inB_exit_ne rfl ?_ | ((first | apply T_srK fw | apply T_regK fw); · ((try simp only [TOps.flat, List.cons_append, List.nil_append]); repeat (first | apply X_g0 | apply X_g | apply S_keep | apply X_skip | apply X_skipN | refine X_call ?_ ⟨_, _, _, _, _, _, rfl, rfl, rfl, by rw [hP]; exact kr⟩ ?_ | refine X_call ?_ ⟨_, _, _, _, _, _, rfl, rfl, rfl, by rw [hP]; exact kq⟩ ?_ | refine X_call ?_ ⟨_, _, _, _, _, _, rfl, rfl, rfl, by rw [hP]; exact kmul⟩ ?_ | refine X_call ?_ ⟨_, _, _, _, _, _, rfl, rfl, rfl, by rw [hP]; exact kadd⟩ ?_ | apply X_q | apply X_st | apply X_n | apply X_s | apply SKs0 | apply SKs2 | apply SKs1 | refine ⟨⟨rfl, rfl⟩, ?_⟩ | refine ⟨⟨rfl, ?_⟩, ?_⟩ | refine ⟨?_, ?_⟩ | (· (try simp only [go_sem, seval, reduceIte, ↓reduceIte, Bool.not_eq_true, reduceCtorEq, beq_false, beq_true, hn, hP, k1, hK0, qd, qm, e1', e2', w4, hlt, hset, hsl, hc1', rI_set, List.set_set]); first | done | rfl)))) | ((first | apply T_sdF fw (by rw [hP]; rfl) (by decide +kernel) | apply T_drF fw (by rw [hP]; rfl) (by decide +kernel)); · ((try simp only [TOps.flat, List.cons_append, List.nil_append]); repeat (first | apply Y_g0 | apply Y_g | apply Y_skip | apply Y_q | refine Y_call ⟨_, _, _, _, _, _, rfl, rfl, rfl, by rw [hP]; exact kr⟩ ?_ ?_ | refine Y_call ⟨_, _, _, _, _, _, rfl, rfl, rfl, by rw [hP]; exact kq⟩ ?_ ?_ | refine Y_call ⟨_, _, _, _, _, _, rfl, rfl, rfl, by rw [hP]; exact kmul⟩ ?_ ?_ | refine Y_call ⟨_, _, _, _, _, _, rfl, rfl, rfl, by rw [hP]; exact kadd⟩ ?_ ?_ | refine RunF_nil (P := G.P) ?_ | (· (try simp only [go_sem, seval, reduceIte, ↓reduceIte, Bool.not_eq_true, reduceCtorEq, beq_false, beq_true, hn, hP, k1, hK0, qd, qm, e1', e2', w4, hlt, hset, hsl, hc1', rI_set, List.set_set]); first | done | rfl)))) | apply T_seq | apply T_block | refine T_scopeJ 0 rfl ?_ | apply T_scope | apply T_goto | apply T_ret | apply T_skip | apply T_exit | apply T_label | refine T_condT rfl ?_ | refine T_condF rfl ?_ | refine T_condD rfl (fun _ => ?_) (fun _ => ?_) | refine T_cond rfl (fun _ => ?_) (fun _ => ?_))
            exact rnd_next hkN _ ⟨fAdd_range _ _, hdot⟩ (Weak.sub fun p hp => by
              simp only [List.mem_cons, List.not_mem_nil, or_false] at hp
              rcases hp with rfl | rfl | rfl | rfl <;> rfl)
          · rw [if_neg e2] at hdot
            have e2' : ((fAdd sum (fMul x y).1).2 != 0) = true := by simp [e2]
            have hf := fin2 _ (by
              rw [← hc3, show M * K - i = (M * K - (i + 1)) + 1 from by omega]
              simp only [coll]
              rw [if_neg (by rw [← hdot]; exact e2), ← hdot]) e2
            repeat' (first | apply T_then | apply then_ret | apply then_exit | apply then_goto | apply rnd_exit | apply rnd_ret | apply rnd_goto | apply noGo_normal | apply noGo_ret | apply noGo_exit | apply jmp_normal | apply jmp_ret | apply jmp_exit | apply jmp_goto | apply inB_normal | apply inB_ret | apply inB_goto | apply inB_exit | refine inB_exit_ne rfl ?_ | ((first | apply T_srK fw | apply T_regK fw); · ((try simp only [TOps.flat, List.cons_append, List.nil_append]); repeat (first | apply X_g0 | apply X_g | apply S_keep | apply X_skip | apply X_skipN | refine X_call ?_ ⟨_, _, _, _, _, _, rfl, rfl, rfl, by rw [hP]; exact kr⟩ ?_ | refine X_call ?_ ⟨_, _, _, _, _, _, rfl, rfl, rfl, by rw [hP]; exact kq⟩ ?_ | refine X_call ?_ ⟨_, _, _, _, _, _, rfl, rfl, rfl, by rw [hP]; exact kmul⟩ ?_ | refine X_call ?_ ⟨_, _, _, _, _, _, rfl, rfl, rfl, by rw [hP]; exact kadd⟩ ?_ | apply X_q | apply X_st | apply X_n | apply X_s | apply SKs0 | apply SKs2 | apply SKs1 | refine ⟨⟨rfl, rfl⟩, ?_⟩ | refine ⟨⟨rfl, ?_⟩, ?_⟩ | refine ⟨?_, ?_⟩ | (· (try simp only [go_sem, seval, reduceIte, ↓reduceIte, Bool.not_eq_true, reduceCtorEq, beq_false, beq_true, hn, hP, k1, hK0, qd, qm, e1', e2', w4, hlt, hset, hsl, hc1', rI_set, List.set_set]); first | done | rfl)))) | ((first | apply T_sdF fw (by rw [hP]; rfl) (by decide +kernel) | apply T_drF fw (by rw [hP]; rfl) (by decide +kernel)); · ((try simp only [TOps.flat, List.cons_append, List.nil_append]); repeat (first | apply Y_g0 | apply Y_g | apply Y_skip | apply Y_q | refine Y_call ⟨_, _, _, _, _, _, rfl, rfl, rfl, by rw [hP]; exact kr⟩ ?_ ?_ | refine Y_call ⟨_, _, _, _, _, _, rfl, rfl, rfl, by rw [hP]; exact kq⟩ ?_ ?_ | refine Y_call ⟨_, _, _, _, _, _, rfl, rfl, rfl, by rw [hP]; exact kmul⟩ ?_ ?_ | refine Y_call ⟨_, _, _, _, _, _, rfl, rfl, rfl, by rw [hP]; exact kadd⟩ ?_ ?_ | refine RunF_nil (P := G.P) ?_ | (· (try simp only [go_sem, seval, reduceIte, ↓reduceIte, Bool.not_eq_true, reduceCtorEq, beq_false, beq_true, hn, hP, k1, hK0, qd, qm, e1', e2', w4, hlt, hset, hsl, hc1', rI_set, List.set_set]); first | done | rfl)))) | apply T_seq | apply T_block | refine T_scopeJ 0 rfl ?_ | apply T_scope | apply T_goto | apply T_ret | apply T_skip | apply T_exit | apply T_label | refine T_condT rfl ?_ | refine T_condF rfl ?_ | refine T_condD rfl (fun _ => ?_) (fun _ => ?_) | refine T_cond rfl (fun _ => ?_) (fun _ => ?_))
            exact ends_ret rfl rfl rfl (by rw [hf]; rfl)
        · rw [if_neg e1] at hdot
          have e1' : ((fMul x y).2 != 0) = true := by simp [e1]
          have hf := fin2 _ (by
            rw [← hc3, show M * K - i = (M * K - (i + 1)) + 1 from by omega]
            simp only [coll]
            rw [if_neg (by rw [← hdot]; exact e1), ← hdot]) e1
          repeat' (first | apply T_then | apply then_ret | apply then_exit | apply then_goto | apply rnd_exit | apply rnd_ret | apply rnd_goto | apply noGo_normal | apply noGo_ret | apply noGo_exit | apply jmp_normal | apply jmp_ret | apply jmp_exit | apply jmp_goto | apply inB_normal | apply inB_ret | apply inB_goto | apply inB_exit | refine inB_exit_ne rfl ?_ | ((first | apply T_srK fw | apply T_regK fw); · ((try simp only [TOps.flat, List.cons_append, List.nil_append]); repeat (first | apply X_g0 | apply X_g | apply S_keep | apply X_skip | apply X_skipN | refine X_call ?_ ⟨_, _, _, _, _, _, rfl, rfl, rfl, by rw [hP]; exact kr⟩ ?_ | refine X_call ?_ ⟨_, _, _, _, _, _, rfl, rfl, rfl, by rw [hP]; exact kq⟩ ?_ | refine X_call ?_ ⟨_, _, _, _, _, _, rfl, rfl, rfl, by rw [hP]; exact kmul⟩ ?_ | apply X_q | apply X_st | apply X_n | apply X_s | apply SKs0 | apply SKs2 | apply SKs1 | refine ⟨⟨rfl, rfl⟩, ?_⟩ | refine ⟨⟨rfl, ?_⟩, ?_⟩ | refine ⟨?_, ?_⟩ | (· (try simp only [go_sem, seval, reduceIte, ↓reduceIte, Bool.not_eq_true, reduceCtorEq, beq_false, beq_true, hn, hP, k1, hK0, qd, qm, e1', w4]); first | done | rfl)))) | ((first | apply T_sdF fw (by rw [hP]; rfl) (by decide +kernel) | apply T_drF fw (by rw [hP]; rfl) (by decide +kernel)); · ((try simp only [TOps.flat, List.cons_append, List.nil_append]); repeat (first | apply Y_g0 | apply Y_g | apply Y_skip | apply Y_q | refine Y_call ⟨_, _, _, _, _, _, rfl, rfl, rfl, by rw [hP]; exact kr⟩ ?_ ?_ | refine Y_call ⟨_, _, _, _, _, _, rfl, rfl, rfl, by rw [hP]; exact kq⟩ ?_ ?_ | refine Y_call ⟨_, _, _, _, _, _, rfl, rfl, rfl, by rw [hP]; exact kmul⟩ ?_ ?_ | refine RunF_nil (P := G.P) ?_ | (· (try simp only [go_sem, seval, reduceIte, ↓reduceIte, Bool.not_eq_true, reduceCtorEq, beq_false, beq_true, hn, hP, k1, hK0, qd, qm, e1', w4]); first | done | rfl)))) | apply T_seq | apply T_block | refine T_scopeJ 0 rfl ?_ | apply T_scope | apply T_goto | apply T_ret | apply T_skip | apply T_exit | apply T_label | refine T_condT rfl ?_ | refine T_condF rfl ?_ | refine T_condD rfl (fun _ => ?_) (fun _ => ?_) | refine T_cond rfl (fun _ => ?_) (fun _ => ?_))
          exact ends_ret rfl rfl rfl (by rw [hf]; rfl)
      · have hkn : k = N := by omega
        subst hkn
        repeat' (first | apply T_then | apply then_ret | apply then_exit | apply then_goto | apply rnd_exit | apply rnd_ret | apply rnd_goto | apply noGo_normal | apply noGo_ret | apply noGo_exit | apply jmp_normal | apply jmp_ret | apply jmp_exit | apply jmp_goto | apply inB_normal | apply inB_ret | apply inB_goto | apply inB_exit | refine inB_exit_ne rfl ?_ | ((first | apply T_srK fw | apply T_regK fw); · ((try simp only [TOps.flat, List.cons_append, List.nil_append]); repeat (first | apply X_g0 | apply X_g | apply S_keep | apply X_skip | apply X_skipN | apply X_q | apply X_st | apply X_n | apply X_s | apply SKs0 | apply SKs2 | apply SKs1 | refine ⟨⟨rfl, rfl⟩, ?_⟩ | refine ⟨⟨rfl, ?_⟩, ?_⟩ | refine ⟨?_, ?_⟩ | (· (try simp only [go_sem, seval, reduceIte, ↓reduceIte, Bool.not_eq_true, reduceCtorEq, beq_false, beq_true, hn, hP, Int.lt_irrefl, w2]); first | done | rfl)))) | apply T_seq | apply T_block | refine T_scopeJ 0 rfl ?_ | apply T_scope | apply T_goto | apply T_ret | apply T_skip | apply T_exit | apply T_label | refine T_condT rfl ?_ | refine T_condF rfl ?_ | refine T_condD rfl (fun _ => ?_) (fun _ => ?_) | refine T_cond rfl (fun _ => ?_) (fun _ => ?_))
        rw [Nat.sub_self] at hdot
        simp only [dot] at hdot
        refine rnd_next hlt (data.set i sum) ⟨by simp [hc1'], ?_, ?_⟩ (Weak.sub fun p hp => by
          simp only [List.mem_cons, List.not_mem_nil, or_false] at hp
          rcases hp with rfl | rfl | rfl | rfl <;> rfl)
        · rw [List.drop_set_of_lt (by omega)]
          have : data.drop (i + 1) = (data.drop i).drop 1 := by rw [List.drop_drop]
          rw [this, hc2', List.drop_replicate]; congr 1
        · rw [take_set_succ (by omega), ← hc3, show M * K - i = (M * K - (i + 1)) + 1 from by omega]
          simp only [coll, ← hdot]
          rfl
  · have hi2 : i = M * K := by omega
    subst hi2
    rw [Nat.sub_self, List.take_of_length_le (by omega)] at hc3
    simp only [coll] at hc3
    repeat' (first | apply T_then | apply then_ret | apply then_exit | apply then_goto | apply rnd_exit | apply rnd_ret | apply rnd_goto | apply noGo_normal | apply noGo_ret | apply noGo_exit | apply jmp_normal | apply jmp_ret | apply jmp_exit | apply jmp_goto | apply inB_normal | apply inB_ret | apply inB_goto | apply inB_exit | refine inB_exit_ne rfl ?_ | ((first | apply T_srK fw | apply T_regK fw); · ((try simp only [TOps.flat, List.cons_append, List.nil_append]); repeat (first | apply X_g0 | apply X_g | apply S_keep | apply X_skip | apply X_skipN | apply X_q | apply X_st | apply X_n | apply X_s | apply SKs0 | apply SKs2 | apply SKs1 | refine ⟨⟨rfl, rfl⟩, ?_⟩ | refine ⟨⟨rfl, ?_⟩, ?_⟩ | refine ⟨?_, ?_⟩ | (· (try simp only [go_sem, seval, reduceIte, ↓reduceIte, Bool.not_eq_true, reduceCtorEq, beq_false, beq_true, hn, hP, Int.lt_irrefl]); first | done | rfl)))) | apply T_seq | apply T_block | refine T_scopeJ 0 rfl ?_ | apply T_scope | apply T_goto | apply T_ret | apply T_skip | apply T_exit | apply T_label | refine T_condT rfl ?_ | refine T_condF rfl ?_ | refine T_condD rfl (fun _ => ?_) (fun _ => ?_) | refine T_cond rfl (fun _ => ?_) (fun _ => ?_))
    rw [hmul, ← hc3]
    exact ends_aggMM rfl rfl rfl rfl (by simp [hc1'])
end Go.AM

namespace Go.AM
open Go Go.Proofs
set_option maxRecDepth 100000
set_option maxHeartbeats 4000000
set_option linter.unusedSimpArgs false
set_option linter.unusedVariables false

theorem p_matmul_of (s d : List Int) : PureC Try.prog fi_matmul_of [dT s d] (.tup [.agg [.top, .top], dB (decide (s.length = 2))]) := by
  refine pure_matmul_of (by simp) fun G hP hn => ?_
  unfold a_matmul_of
  match s with
  | [] =>
    repeat' (first | apply T_then | apply then_ret | apply then_exit | apply then_goto | apply rnd_exit | apply rnd_ret | apply rnd_goto | apply noGo_normal | apply noGo_ret | apply noGo_exit | apply jmp_normal | apply jmp_ret | apply jmp_exit | apply jmp_goto | apply inB_normal | apply inB_ret | apply inB_goto | apply inB_exit | refine inB_exit_ne rfl ?_ | ((first | apply T_srK fw | apply T_regK fw); · ((try simp only [TOps.flat, List.cons_append, List.nil_append]); repeat (first | apply X_g0 | apply X_g | apply S_keep | apply X_skip | apply X_skipN | apply X_q | apply X_st | apply X_n | apply X_s | apply SKs0 | apply SKs2 | apply SKs1 | refine ⟨⟨rfl, rfl⟩, ?_⟩ | refine ⟨⟨rfl, ?_⟩, ?_⟩ | refine ⟨?_, ?_⟩ | (· (try simp only [go_sem, seval, reduceIte, ↓reduceIte, Bool.not_eq_true, reduceCtorEq, beq_false, beq_true, hn, hP]); first | done | rfl)))) | apply T_seq | apply T_block | refine T_scopeJ 0 rfl ?_ | apply T_scope | apply T_goto | apply T_ret | apply T_skip | apply T_exit | apply T_label | refine T_condT rfl ?_ | refine T_condF rfl ?_ | refine T_condD rfl (fun _ => ?_) (fun _ => ?_) | refine T_cond rfl (fun _ => ?_) (fun _ => ?_))
    refine T_weak (Weak.arrTop 2 rfl) ?_
    apply T_drE fw (by rw [hP]; rfl)
    · simp only [go_sem, seval, reduceIte, ↓reduceIte, bne, beq_false, beq_true, Bool.not_eq_true, Bool.if_true_right, decide_not, reduceCtorEq, hP, all1]
      first | done | exact rfl
    repeat' (first | apply T_then | apply then_ret | apply then_exit | apply then_goto | apply rnd_exit | apply rnd_ret | apply rnd_goto | apply noGo_normal | apply noGo_ret | apply noGo_exit | apply jmp_normal | apply jmp_ret | apply jmp_exit | apply jmp_goto | apply inB_normal | apply inB_ret | apply inB_goto | apply inB_exit | refine inB_exit_ne rfl ?_ | ((first | apply T_srK fw | apply T_regK fw); · ((try simp only [TOps.flat, List.cons_append, List.nil_append]); repeat (first | apply X_g0 | apply X_g | apply S_keep | apply X_skip | apply X_skipN | apply X_q | apply X_st | apply X_n | apply X_s | apply SKs0 | apply SKs2 | apply SKs1 | refine ⟨⟨rfl, rfl⟩, ?_⟩ | refine ⟨⟨rfl, ?_⟩, ?_⟩ | refine ⟨?_, ?_⟩ | (· (try simp only [go_sem, seval, reduceIte, ↓reduceIte, Bool.not_eq_true, reduceCtorEq, beq_false, beq_true, hn, hP]); first | done | rfl)))) | apply T_seq | apply T_block | refine T_scopeJ 0 rfl ?_ | apply T_scope | apply T_goto | apply T_ret | apply T_skip | apply T_exit | apply T_label | refine T_condT rfl ?_ | refine T_condF rfl ?_ | refine T_condD rfl (fun _ => ?_) (fun _ => ?_) | refine T_cond rfl (fun _ => ?_) (fun _ => ?_))
    exact ends_ret rfl rfl rfl rfl
  | [a] =>
    repeat' (first | apply T_then | apply then_ret | apply then_exit | apply then_goto | apply rnd_exit | apply rnd_ret | apply rnd_goto | apply noGo_normal | apply noGo_ret | apply noGo_exit | apply jmp_normal | apply jmp_ret | apply jmp_exit | apply jmp_goto | apply inB_normal | apply inB_ret | apply inB_goto | apply inB_exit | refine inB_exit_ne rfl ?_ | ((first | apply T_srK fw | apply T_regK fw); · ((try simp only [TOps.flat, List.cons_append, List.nil_append]); repeat (first | apply X_g0 | apply X_g | apply S_keep | apply X_skip | apply X_skipN | apply X_q | apply X_st | apply X_n | apply X_s | apply SKs0 | apply SKs2 | apply SKs1 | refine ⟨⟨rfl, rfl⟩, ?_⟩ | refine ⟨⟨rfl, ?_⟩, ?_⟩ | refine ⟨?_, ?_⟩ | (· (try simp only [go_sem, seval, reduceIte, ↓reduceIte, Bool.not_eq_true, reduceCtorEq, beq_false, beq_true, hn, hP]); first | done | rfl)))) | apply T_seq | apply T_block | refine T_scopeJ 0 rfl ?_ | apply T_scope | apply T_goto | apply T_ret | apply T_skip | apply T_exit | apply T_label | refine T_condT rfl ?_ | refine T_condF rfl ?_ | refine T_condD rfl (fun _ => ?_) (fun _ => ?_) | refine T_cond rfl (fun _ => ?_) (fun _ => ?_))
    refine T_weak (Weak.arrTop 2 rfl) ?_
    apply T_drE fw (by rw [hP]; rfl)
    · simp only [go_sem, seval, reduceIte, ↓reduceIte, bne, beq_false, beq_true, Bool.not_eq_true, Bool.if_true_right, decide_not, reduceCtorEq, hP, all1]
      first | done | exact rfl
    repeat' (first | apply T_then | apply then_ret | apply then_exit | apply then_goto | apply rnd_exit | apply rnd_ret | apply rnd_goto | apply noGo_normal | apply noGo_ret | apply noGo_exit | apply jmp_normal | apply jmp_ret | apply jmp_exit | apply jmp_goto | apply inB_normal | apply inB_ret | apply inB_goto | apply inB_exit | refine inB_exit_ne rfl ?_ | ((first | apply T_srK fw | apply T_regK fw); · ((try simp only [TOps.flat, List.cons_append, List.nil_append]); repeat (first | apply X_g0 | apply X_g | apply S_keep | apply X_skip | apply X_skipN | apply X_q | apply X_st | apply X_n | apply X_s | apply SKs0 | apply SKs2 | apply SKs1 | refine ⟨⟨rfl, rfl⟩, ?_⟩ | refine ⟨⟨rfl, ?_⟩, ?_⟩ | refine ⟨?_, ?_⟩ | (· (try simp only [go_sem, seval, reduceIte, ↓reduceIte, Bool.not_eq_true, reduceCtorEq, beq_false, beq_true, hn, hP]); first | done | rfl)))) | apply T_seq | apply T_block | refine T_scopeJ 0 rfl ?_ | apply T_scope | apply T_goto | apply T_ret | apply T_skip | apply T_exit | apply T_label | refine T_condT rfl ?_ | refine T_condF rfl ?_ | refine T_condD rfl (fun _ => ?_) (fun _ => ?_) | refine T_cond rfl (fun _ => ?_) (fun _ => ?_))
    exact ends_ret rfl rfl rfl rfl
  | [a, b] =>
    repeat' (first | apply T_then | apply then_ret | apply then_exit | apply then_goto | apply rnd_exit | apply rnd_ret | apply rnd_goto | apply noGo_normal | apply noGo_ret | apply noGo_exit | apply jmp_normal | apply jmp_ret | apply jmp_exit | apply jmp_goto | apply inB_normal | apply inB_ret | apply inB_goto | apply inB_exit | refine inB_exit_ne rfl ?_ | ((first | apply T_srK fw | apply T_regK fw); · ((try simp only [TOps.flat, List.cons_append, List.nil_append]); repeat (first | apply X_g0 | apply X_g | apply S_keep | apply X_skip | apply X_skipN | apply X_q | apply X_st | apply X_n | apply X_s | apply SKs0 | apply SKs2 | apply SKs1 | refine ⟨⟨rfl, rfl⟩, ?_⟩ | refine ⟨⟨rfl, ?_⟩, ?_⟩ | refine ⟨?_, ?_⟩ | (· (try simp only [go_sem, seval, reduceIte, ↓reduceIte, Bool.not_eq_true, reduceCtorEq, beq_false, beq_true, hn, hP]); first | done | rfl)))) | apply T_seq | apply T_block | refine T_scopeJ 0 rfl ?_ | apply T_scope | apply T_goto | apply T_ret | apply T_skip | apply T_exit | apply T_label | refine T_condT rfl ?_ | refine T_condF rfl ?_ | refine T_condD rfl (fun _ => ?_) (fun _ => ?_) | refine T_cond rfl (fun _ => ?_) (fun _ => ?_))
    refine T_weak (Weak.arrTop 2 rfl) ?_
    apply T_drE fw (by rw [hP]; rfl)
    · simp only [go_sem, seval, reduceIte, ↓reduceIte, bne, beq_false, beq_true, Bool.not_eq_true, Bool.if_true_right, decide_not, reduceCtorEq, hP, all1]
      first | done | exact rfl
    repeat' (first | apply T_then | apply then_ret | apply then_exit | apply then_goto | apply rnd_exit | apply rnd_ret | apply rnd_goto | apply noGo_normal | apply noGo_ret | apply noGo_exit | apply jmp_normal | apply jmp_ret | apply jmp_exit | apply jmp_goto | apply inB_normal | apply inB_ret | apply inB_goto | apply inB_exit | refine inB_exit_ne rfl ?_ | ((first | apply T_srK fw | apply T_regK fw); · ((try simp only [TOps.flat, List.cons_append, List.nil_append]); repeat (first | apply X_g0 | apply X_g | apply S_keep | apply X_skip | apply X_skipN | apply X_q | apply X_st | apply X_n | apply X_s | apply SKs0 | apply SKs2 | apply SKs1 | refine ⟨⟨rfl, rfl⟩, ?_⟩ | refine ⟨⟨rfl, ?_⟩, ?_⟩ | refine ⟨?_, ?_⟩ | (· (try simp only [go_sem, seval, reduceIte, ↓reduceIte, Bool.not_eq_true, reduceCtorEq, beq_false, beq_true, hn, hP]); first | done | rfl)))) | apply T_seq | apply T_block | refine T_scopeJ 0 rfl ?_ | apply T_scope | apply T_goto | apply T_ret | apply T_skip | apply T_exit | apply T_label | refine T_condT rfl ?_ | refine T_condF rfl ?_ | refine T_condD rfl (fun _ => ?_) (fun _ => ?_) | refine T_cond rfl (fun _ => ?_) (fun _ => ?_))
    exact ends_ret rfl rfl rfl rfl
  | a :: b :: c :: r =>
    have q1 : (min ((r.length + 1 + 1 + 1 : Nat) : Int) 2 == 2) = true := by simp; omega
    have q2 : (((r.length + 1 + 1 + 1 : Nat) : Int) == 2) = false := by simp; omega
    repeat' (first | apply T_then | apply then_ret | apply then_exit | apply then_goto | apply rnd_exit | apply rnd_ret | apply rnd_goto | apply noGo_normal | apply noGo_ret | apply noGo_exit | apply jmp_normal | apply jmp_ret | apply jmp_exit | apply jmp_goto | apply inB_normal | apply inB_ret | apply inB_goto | apply inB_exit | refine inB_exit_ne rfl ?_ | ((first | apply T_srK fw | apply T_regK fw); · ((try simp only [TOps.flat, List.cons_append, List.nil_append]); repeat (first | apply X_g0 | apply X_g | apply S_keep | apply X_skip | apply X_skipN | apply X_q | apply X_st | apply X_n | apply X_s | apply SKs0 | apply SKs2 | apply SKs1 | refine ⟨⟨rfl, rfl⟩, ?_⟩ | refine ⟨⟨rfl, ?_⟩, ?_⟩ | refine ⟨?_, ?_⟩ | (· (try simp only [go_sem, seval, reduceIte, ↓reduceIte, Bool.not_eq_true, reduceCtorEq, beq_false, beq_true, hn, hP]); first | done | rfl)))) | apply T_seq | apply T_block | refine T_scopeJ 0 rfl ?_ | apply T_scope | apply T_goto | apply T_ret | apply T_skip | apply T_exit | apply T_label | refine T_condT rfl ?_ | refine T_condF rfl ?_ | refine T_condD rfl (fun _ => ?_) (fun _ => ?_) | refine T_cond rfl (fun _ => ?_) (fun _ => ?_))
    refine T_weak (Weak.arrTop 2 rfl) ?_
    apply T_drE fw (by rw [hP]; rfl)
    · simp only [go_sem, seval, reduceIte, ↓reduceIte, bne, beq_false, beq_true, Bool.not_eq_true, Bool.if_true_right, decide_not, reduceCtorEq, hP, all1, q1, q2]
      first | done | exact rfl
    repeat' (first | apply T_then | apply then_ret | apply then_exit | apply then_goto | apply rnd_exit | apply rnd_ret | apply rnd_goto | apply noGo_normal | apply noGo_ret | apply noGo_exit | apply jmp_normal | apply jmp_ret | apply jmp_exit | apply jmp_goto | apply inB_normal | apply inB_ret | apply inB_goto | apply inB_exit | refine inB_exit_ne rfl ?_ | ((first | apply T_srK fw | apply T_regK fw); · ((try simp only [TOps.flat, List.cons_append, List.nil_append]); repeat (first | apply X_g0 | apply X_g | apply S_keep | apply X_skip | apply X_skipN | apply X_q | apply X_st | apply X_n | apply X_s | apply SKs0 | apply SKs2 | apply SKs1 | refine ⟨⟨rfl, rfl⟩, ?_⟩ | refine ⟨⟨rfl, ?_⟩, ?_⟩ | refine ⟨?_, ?_⟩ | (· (try simp only [go_sem, seval, reduceIte, ↓reduceIte, Bool.not_eq_true, reduceCtorEq, beq_false, beq_true, hn, hP]); first | done | rfl)))) | apply T_seq | apply T_block | refine T_scopeJ 0 rfl ?_ | apply T_scope | apply T_goto | apply T_ret | apply T_skip | apply T_exit | apply T_label | refine T_condT rfl ?_ | refine T_condF rfl ?_ | refine T_condD rfl (fun _ => ?_) (fun _ => ?_) | refine T_cond rfl (fun _ => ?_) (fun _ => ?_))
    exact ends_ret rfl rfl rfl (by simp [resD])

def turned2F (t e s d : List Int) : (List Int × List Int) × Int :=
  if checkT t e = true ∧ checkT s d = true then (if t.length = 2 then turnF t e else bad 20) else bad 30

theorem p_matmul_turned (t e s d : List Int) : PureC Try.prog fi_matmul_turned [dT t e, dT s d] (dTE (turned2F t e s d)) := by
  refine pure_matmul_turned (by simp) fun G hP hn => ?_
  unfold a_matmul_turned
  have km := p_matmul_may [(t, e), (s, d)]
  simp only [rT, List.map, List.all_cons, List.all_nil, Bool.and_true] at km
  by_cases hc : checkT t e = true ∧ checkT s d = true
  · rw [hc.1, hc.2] at km
    have ko := p_matmul_of t e
    by_cases ht : t.length = 2
    · rw [decide_eq_true ht] at ko
      have hf : turned2F t e s d = turnF t e := by unfold turned2F; rw [if_pos hc, if_pos ht]
      repeat' (first | apply T_then | apply then_ret | apply then_exit | apply then_goto | apply rnd_exit | apply rnd_ret | apply rnd_goto | apply noGo_normal | apply noGo_ret | apply noGo_exit | apply jmp_normal | apply jmp_ret | apply jmp_exit | apply jmp_goto | apply inB_normal | apply inB_ret | apply inB_goto | apply inB_exit | refine inB_exit_ne rfl ?_ | ((first | apply T_srK fw | apply T_regK fw); · ((try simp only [TOps.flat, List.cons_append, List.nil_append]); repeat (first | apply X_g0 | apply X_g | apply S_keep | apply X_skip | apply X_skipN | refine X_call ?_ ⟨_, _, _, _, _, _, rfl, rfl, rfl, by rw [hP]; exact km⟩ ?_ | refine X_call ?_ ⟨_, _, _, _, _, _, rfl, rfl, rfl, by rw [hP]; exact ko⟩ ?_ | refine X_call ?_ ⟨_, _, _, _, _, _, rfl, rfl, rfl, by rw [hP]; exact p_move_Turn _ _⟩ ?_ | apply X_q | apply X_st | apply X_n | apply X_s | apply SKs0 | apply SKs2 | apply SKs1 | refine ⟨⟨rfl, rfl⟩, ?_⟩ | refine ⟨⟨rfl, ?_⟩, ?_⟩ | refine ⟨?_, ?_⟩ | (· (try simp only [go_sem, seval, reduceIte, ↓reduceIte, Bool.not_eq_true, reduceCtorEq, beq_false, beq_true, hn, hP]); first | done | rfl)))) | apply T_seq | apply T_block | refine T_scopeJ 0 rfl ?_ | apply T_scope | apply T_goto | apply T_ret | apply T_skip | apply T_exit | apply T_label | refine T_condT rfl ?_ | refine T_condF rfl ?_ | refine T_condD rfl (fun _ => ?_) (fun _ => ?_) | refine T_cond rfl (fun _ => ?_) (fun _ => ?_))
      exact ends_ret rfl rfl rfl (by rw [hf]; rfl)
    · rw [decide_eq_false ht] at ko
      have hf : turned2F t e s d = bad 20 := by unfold turned2F; rw [if_pos hc, if_neg ht]
      repeat' (first | apply T_then | apply then_ret | apply then_exit | apply then_goto | apply rnd_exit | apply rnd_ret | apply rnd_goto | apply noGo_normal | apply noGo_ret | apply noGo_exit | apply jmp_normal | apply jmp_ret | apply jmp_exit | apply jmp_goto | apply inB_normal | apply inB_ret | apply inB_goto | apply inB_exit | refine inB_exit_ne rfl ?_ | ((first | apply T_srK fw | apply T_regK fw); · ((try simp only [TOps.flat, List.cons_append, List.nil_append]); repeat (first | apply X_g0 | apply X_g | apply S_keep | apply X_skip | apply X_skipN | refine X_call ?_ ⟨_, _, _, _, _, _, rfl, rfl, rfl, by rw [hP]; exact km⟩ ?_ | refine X_call ?_ ⟨_, _, _, _, _, _, rfl, rfl, rfl, by rw [hP]; exact ko⟩ ?_ | apply X_q | apply X_st | apply X_n | apply X_s | apply SKs0 | apply SKs2 | apply SKs1 | refine ⟨⟨rfl, rfl⟩, ?_⟩ | refine ⟨⟨rfl, ?_⟩, ?_⟩ | refine ⟨?_, ?_⟩ | (· (try simp only [go_sem, seval, reduceIte, ↓reduceIte, Bool.not_eq_true, reduceCtorEq, beq_false, beq_true, hn, hP]); first | done | rfl)))) | apply T_seq | apply T_block | refine T_scopeJ 0 rfl ?_ | apply T_scope | apply T_goto | apply T_ret | apply T_skip | apply T_exit | apply T_label | refine T_condT rfl ?_ | refine T_condF rfl ?_ | refine T_condD rfl (fun _ => ?_) (fun _ => ?_) | refine T_cond rfl (fun _ => ?_) (fun _ => ?_))
      exact ends_ret rfl rfl rfl (by rw [hf]; rfl)
  · have hf : turned2F t e s d = bad 30 := by unfold turned2F; rw [if_neg hc]
    have : (checkT t e && checkT s d) = false := by
      cases h1 : checkT t e <;> cases h2 : checkT s d <;> simp_all
    rw [this] at km
    repeat' (first | apply T_then | apply then_ret | apply then_exit | apply then_goto | apply rnd_exit | apply rnd_ret | apply rnd_goto | apply noGo_normal | apply noGo_ret | apply noGo_exit | apply jmp_normal | apply jmp_ret | apply jmp_exit | apply jmp_goto | apply inB_normal | apply inB_ret | apply inB_goto | apply inB_exit | refine inB_exit_ne rfl ?_ | ((first | apply T_srK fw | apply T_regK fw); · ((try simp only [TOps.flat, List.cons_append, List.nil_append]); repeat (first | apply X_g0 | apply X_g | apply S_keep | apply X_skip | apply X_skipN | refine X_call ?_ ⟨_, _, _, _, _, _, rfl, rfl, rfl, by rw [hP]; exact km⟩ ?_ | apply X_q | apply X_st | apply X_n | apply X_s | apply SKs0 | apply SKs2 | apply SKs1 | refine ⟨⟨rfl, rfl⟩, ?_⟩ | refine ⟨⟨rfl, ?_⟩, ?_⟩ | refine ⟨?_, ?_⟩ | (· (try simp only [go_sem, seval, reduceIte, ↓reduceIte, Bool.not_eq_true, reduceCtorEq, beq_false, beq_true, hn, hP]); first | done | rfl)))) | apply T_seq | apply T_block | refine T_scopeJ 0 rfl ?_ | apply T_scope | apply T_goto | apply T_ret | apply T_skip | apply T_exit | apply T_label | refine T_condT rfl ?_ | refine T_condF rfl ?_ | refine T_condD rfl (fun _ => ?_) (fun _ => ?_) | refine T_cond rfl (fun _ => ?_) (fun _ => ?_))
    exact ends_ret rfl rfl rfl (by rw [hf]; rfl)

theorem I64s.mk {s : List Int} {g : List Int → Int} (h : ∀ x, I64 (g x)) : I64s (mk s g) := fun n hn => by
  simp only [AM.mk, List.mem_map] at hn
  obtain ⟨p, _, rfl⟩ := hn
  exact h _
theorem atF_range {s d x : List Int} (hd : I64s d) : I64 (atF s d x).1 := by
  have z : I64 0 := ⟨by decide, by decide⟩
  unfold atF
  split
  · exact z
  · split
    · exact z
    · cases h : d[(placeF s x).1.toNat]? with
      | none => exact z
      | some v => exact hd.get h
theorem turnF_range {s d : List Int} (hd : I64s d) : I64s (turnF s d).1.2 := by
  unfold turnF
  split
  · exact I64s.mk fun x => atF_range hd
  · exact I64s.nil

def leftF (s d t e : List Int) : (List Int × List Int) × Int :=
  if checkT t e = true ∧ checkT s d = true then (if t.length = 2 then mulF s d t.reverse (turnF t e).1.2 else bad 20) else bad 30
def rightF (s d t e : List Int) : (List Int × List Int) × Int :=
  if checkT s d = true ∧ checkT t e = true then (if s.length = 2 then mulF s.reverse (turnF s d).1.2 t e else bad 20) else bad 30

theorem p_matmul_Left (s d t e : List Int) (hd : I64s d) (he : I64s e) : PureC Try.prog fi_matmul_Left [dT s d, dT t e] (dTE (leftF s d t e)) := by
  refine pure_matmul_Left (by simp) fun G hP hn => ?_
  unfold a_matmul_Left
  have kt := p_matmul_turned t e s d
  by_cases hc : checkT t e = true ∧ checkT s d = true
  · by_cases ht : t.length = 2
    · have hf : leftF s d t e = mulF s d t.reverse (turnF t e).1.2 := by unfold leftF; rw [if_pos hc, if_pos ht]
      have ht2 : turned2F t e s d = ((t.reverse, (turnF t e).1.2), 0) := by unfold turned2F; rw [if_pos hc, if_pos ht]; unfold turnF; rw [if_pos hc.1]
      rw [ht2] at kt
      have kmul := p_matmul_Mul s d t.reverse (turnF t e).1.2 hd (turnF_range he)
      generalize (turnF t e).1.2 = e' at *
      repeat' (first | apply T_then | apply then_ret | apply then_exit | apply then_goto | apply rnd_exit | apply rnd_ret | apply rnd_goto | apply noGo_normal | apply noGo_ret | apply noGo_exit | apply jmp_normal | apply jmp_ret | apply jmp_exit | apply jmp_goto | apply inB_normal | apply inB_ret | apply inB_goto | apply inB_exit | refine inB_exit_ne rfl ?_ | ((first | apply T_srK fw | apply T_regK fw); · ((try simp only [TOps.flat, List.cons_append, List.nil_append]); repeat (first | apply X_g0 | apply X_g | apply S_keep | apply X_skip | apply X_skipN | refine X_call ?_ ⟨_, _, _, _, _, _, rfl, rfl, rfl, by rw [hP]; exact kt⟩ ?_ | refine X_call ?_ ⟨_, _, _, _, _, _, rfl, rfl, rfl, by rw [hP]; exact kmul⟩ ?_ | apply X_q | apply X_st | apply X_n | apply X_s | apply SKs0 | apply SKs2 | apply SKs1 | refine ⟨⟨rfl, rfl⟩, ?_⟩ | refine ⟨⟨rfl, ?_⟩, ?_⟩ | refine ⟨?_, ?_⟩ | (· (try simp only [go_sem, seval, reduceIte, ↓reduceIte, Bool.not_eq_true, reduceCtorEq, beq_false, beq_true, hn, hP]); first | done | rfl)))) | apply T_seq | apply T_block | refine T_scopeJ 0 rfl ?_ | apply T_scope | apply T_goto | apply T_ret | apply T_skip | apply T_exit | apply T_label | refine T_condT rfl ?_ | refine T_condF rfl ?_ | refine T_condD rfl (fun _ => ?_) (fun _ => ?_) | refine T_cond rfl (fun _ => ?_) (fun _ => ?_))
      exact ends_ret rfl rfl rfl (by rw [hf]; rfl)
    · have hf : leftF s d t e = bad 20 := by unfold leftF; rw [if_pos hc, if_neg ht]
      have ht2 : turned2F t e s d = bad 20 := by unfold turned2F; rw [if_pos hc, if_neg ht]
      rw [ht2] at kt
      repeat' (first | apply T_then | apply then_ret | apply then_exit | apply then_goto | apply rnd_exit | apply rnd_ret | apply rnd_goto | apply noGo_normal | apply noGo_ret | apply noGo_exit | apply jmp_normal | apply jmp_ret | apply jmp_exit | apply jmp_goto | apply inB_normal | apply inB_ret | apply inB_goto | apply inB_exit | refine inB_exit_ne rfl ?_ | ((first | apply T_srK fw | apply T_regK fw); · ((try simp only [TOps.flat, List.cons_append, List.nil_append]); repeat (first | apply X_g0 | apply X_g | apply S_keep | apply X_skip | apply X_skipN | refine X_call ?_ ⟨_, _, _, _, _, _, rfl, rfl, rfl, by rw [hP]; exact kt⟩ ?_ | apply X_q | apply X_st | apply X_n | apply X_s | apply SKs0 | apply SKs2 | apply SKs1 | refine ⟨⟨rfl, rfl⟩, ?_⟩ | refine ⟨⟨rfl, ?_⟩, ?_⟩ | refine ⟨?_, ?_⟩ | (· (try simp only [go_sem, seval, reduceIte, ↓reduceIte, Bool.not_eq_true, reduceCtorEq, beq_false, beq_true, hn, hP]); first | done | rfl)))) | apply T_seq | apply T_block | refine T_scopeJ 0 rfl ?_ | apply T_scope | apply T_goto | apply T_ret | apply T_skip | apply T_exit | apply T_label | refine T_condT rfl ?_ | refine T_condF rfl ?_ | refine T_condD rfl (fun _ => ?_) (fun _ => ?_) | refine T_cond rfl (fun _ => ?_) (fun _ => ?_))
      exact ends_ret rfl rfl rfl (by rw [hf]; rfl)
  · have hf : leftF s d t e = bad 30 := by unfold leftF; rw [if_neg hc]
    have ht2 : turned2F t e s d = bad 30 := by unfold turned2F; rw [if_neg hc]
    rw [ht2] at kt
    repeat' (first | apply T_then | apply then_ret | apply then_exit | apply then_goto | apply rnd_exit | apply rnd_ret | apply rnd_goto | apply noGo_normal | apply noGo_ret | apply noGo_exit | apply jmp_normal | apply jmp_ret | apply jmp_exit | apply jmp_goto | apply inB_normal | apply inB_ret | apply inB_goto | apply inB_exit | refine inB_exit_ne rfl ?_ | ((first | apply T_srK fw | apply T_regK fw); · ((try simp only [TOps.flat, List.cons_append, List.nil_append]); repeat (first | apply X_g0 | apply X_g | apply S_keep | apply X_skip | apply X_skipN | refine X_call ?_ ⟨_, _, _, _, _, _, rfl, rfl, rfl, by rw [hP]; exact kt⟩ ?_ | apply X_q | apply X_st | apply X_n | apply X_s | apply SKs0 | apply SKs2 | apply SKs1 | refine ⟨⟨rfl, rfl⟩, ?_⟩ | refine ⟨⟨rfl, ?_⟩, ?_⟩ | refine ⟨?_, ?_⟩ | (· (try simp only [go_sem, seval, reduceIte, ↓reduceIte, Bool.not_eq_true, reduceCtorEq, beq_false, beq_true, hn, hP]); first | done | rfl)))) | apply T_seq | apply T_block | refine T_scopeJ 0 rfl ?_ | apply T_scope | apply T_goto | apply T_ret | apply T_skip | apply T_exit | apply T_label | refine T_condT rfl ?_ | refine T_condF rfl ?_ | refine T_condD rfl (fun _ => ?_) (fun _ => ?_) | refine T_cond rfl (fun _ => ?_) (fun _ => ?_))
    exact ends_ret rfl rfl rfl (by rw [hf]; rfl)

theorem p_matmul_Right (s d t e : List Int) (hd : I64s d) (he : I64s e) : PureC Try.prog fi_matmul_Right [dT s d, dT t e] (dTE (rightF s d t e)) := by
  refine pure_matmul_Right (by simp) fun G hP hn => ?_
  unfold a_matmul_Right
  have kt := p_matmul_turned s d t e
  by_cases hc : checkT s d = true ∧ checkT t e = true
  · by_cases ht : s.length = 2
    · have hf : rightF s d t e = mulF s.reverse (turnF s d).1.2 t e := by unfold rightF; rw [if_pos hc, if_pos ht]
      have ht2 : turned2F s d t e = ((s.reverse, (turnF s d).1.2), 0) := by unfold turned2F; rw [if_pos hc, if_pos ht]; unfold turnF; rw [if_pos hc.1]
      rw [ht2] at kt
      have kmul := p_matmul_Mul s.reverse (turnF s d).1.2 t e (turnF_range hd) he
      generalize (turnF s d).1.2 = d' at *
      repeat' (first | apply T_then | apply then_ret | apply then_exit | apply then_goto | apply rnd_exit | apply rnd_ret | apply rnd_goto | apply noGo_normal | apply noGo_ret | apply noGo_exit | apply jmp_normal | apply jmp_ret | apply jmp_exit | apply jmp_goto | apply inB_normal | apply inB_ret | apply inB_goto | apply inB_exit | refine inB_exit_ne rfl ?_ | ((first | apply T_srK fw | apply T_regK fw); · ((try simp only [TOps.flat, List.cons_append, List.nil_append]); repeat (first | apply X_g0 | apply X_g | apply S_keep | apply X_skip | apply X_skipN | refine X_call ?_ ⟨_, _, _, _, _, _, rfl, rfl, rfl, by rw [hP]; exact kt⟩ ?_ | refine X_call ?_ ⟨_, _, _, _, _, _, rfl, rfl, rfl, by rw [hP]; exact kmul⟩ ?_ | apply X_q | apply X_st | apply X_n | apply X_s | apply SKs0 | apply SKs2 | apply SKs1 | refine ⟨⟨rfl, rfl⟩, ?_⟩ | refine ⟨⟨rfl, ?_⟩, ?_⟩ | refine ⟨?_, ?_⟩ | (· (try simp only [go_sem, seval, reduceIte, ↓reduceIte, Bool.not_eq_true, reduceCtorEq, beq_false, beq_true, hn, hP]); first | done | rfl)))) | apply T_seq | apply T_block | refine T_scopeJ 0 rfl ?_ | apply T_scope | apply T_goto | apply T_ret | apply T_skip | apply T_exit | apply T_label | refine T_condT rfl ?_ | refine T_condF rfl ?_ | refine T_condD rfl (fun _ => ?_) (fun _ => ?_) | refine T_cond rfl (fun _ => ?_) (fun _ => ?_))
      exact ends_ret rfl rfl rfl (by rw [hf]; rfl)
    · have hf : rightF s d t e = bad 20 := by unfold rightF; rw [if_pos hc, if_neg ht]
      have ht2 : turned2F s d t e = bad 20 := by unfold turned2F; rw [if_pos hc, if_neg ht]
      rw [ht2] at kt
      repeat' (first | apply T_then | apply then_ret | apply then_exit | apply then_goto | apply rnd_exit | apply rnd_ret | apply rnd_goto | apply noGo_normal | apply noGo_ret | apply noGo_exit | apply jmp_normal | apply jmp_ret | apply jmp_exit | apply jmp_goto | apply inB_normal | apply inB_ret | apply inB_goto | apply inB_exit | refine inB_exit_ne rfl ?_ | ((first | apply T_srK fw | apply T_regK fw); · ((try simp only [TOps.flat, List.cons_append, List.nil_append]); repeat (first | apply X_g0 | apply X_g | apply S_keep | apply X_skip | apply X_skipN | refine X_call ?_ ⟨_, _, _, _, _, _, rfl, rfl, rfl, by rw [hP]; exact kt⟩ ?_ | apply X_q | apply X_st | apply X_n | apply X_s | apply SKs0 | apply SKs2 | apply SKs1 | refine ⟨⟨rfl, rfl⟩, ?_⟩ | refine ⟨⟨rfl, ?_⟩, ?_⟩ | refine ⟨?_, ?_⟩ | (· (try simp only [go_sem, seval, reduceIte, ↓reduceIte, Bool.not_eq_true, reduceCtorEq, beq_false, beq_true, hn, hP]); first | done | rfl)))) | apply T_seq | apply T_block | refine T_scopeJ 0 rfl ?_ | apply T_scope | apply T_goto | apply T_ret | apply T_skip | apply T_exit | apply T_label | refine T_condT rfl ?_ | refine T_condF rfl ?_ | refine T_condD rfl (fun _ => ?_) (fun _ => ?_) | refine T_cond rfl (fun _ => ?_) (fun _ => ?_))
      exact ends_ret rfl rfl rfl (by rw [hf]; rfl)
  · have hf : rightF s d t e = bad 30 := by unfold rightF; rw [if_neg hc]
    have ht2 : turned2F s d t e = bad 30 := by unfold turned2F; rw [if_neg hc]
    rw [ht2] at kt
    repeat' (first | apply T_then | apply then_ret | apply then_exit | apply then_goto | apply rnd_exit | apply rnd_ret | apply rnd_goto | apply noGo_normal | apply noGo_ret | apply noGo_exit | apply jmp_normal | apply jmp_ret | apply jmp_exit | apply jmp_goto | apply inB_normal | apply inB_ret | apply inB_goto | apply inB_exit | refine inB_exit_ne rfl ?_ | ((first | apply T_srK fw | apply T_regK fw); · ((try simp only [TOps.flat, List.cons_append, List.nil_append]); repeat (first | apply X_g0 | apply X_g | apply S_keep | apply X_skip | apply X_skipN | refine X_call ?_ ⟨_, _, _, _, _, _, rfl, rfl, rfl, by rw [hP]; exact kt⟩ ?_ | apply X_q | apply X_st | apply X_n | apply X_s | apply SKs0 | apply SKs2 | apply SKs1 | refine ⟨⟨rfl, rfl⟩, ?_⟩ | refine ⟨⟨rfl, ?_⟩, ?_⟩ | refine ⟨?_, ?_⟩ | (· (try simp only [go_sem, seval, reduceIte, ↓reduceIte, Bool.not_eq_true, reduceCtorEq, beq_false, beq_true, hn, hP]); first | done | rfl)))) | apply T_seq | apply T_block | refine T_scopeJ 0 rfl ?_ | apply T_scope | apply T_goto | apply T_ret | apply T_skip | apply T_exit | apply T_label | refine T_condT rfl ?_ | refine T_condF rfl ?_ | refine T_condD rfl (fun _ => ?_) (fun _ => ?_) | refine T_cond rfl (fun _ => ?_) (fun _ => ?_))
    exact ends_ret rfl rfl rfl (by rw [hf]; rfl)
end Go.AM

namespace Go.AM
open Go Go.Proofs
set_option maxRecDepth 100000
set_option maxHeartbeats 4000000
set_option linter.unusedSimpArgs false
set_option linter.unusedVariables false

theorem i64s_dec {l : List Int} (h : (l.all fun n => decide (I64 n)) = true) : I64s l := fun n hn => by simpa using List.all_eq_true.1 h n hn

theorem aw71 : mulF [1, 2] [4294967296, 8589934592] [2, 1] [12884901888, 17179869184] = (([1, 1], [47244640256]), 0) := by decide +kernel
theorem aw72 : leftF [1, 1] [47244640256] [2, 1] [12884901888, 17179869184] = (([1, 2], [141733920768, 188978561024]), 0) := by decide +kernel
theorem aw73 : rightF [1, 2] [4294967296, 8589934592] [1, 1] [47244640256] = (([2, 1], [47244640256, 94489280512]), 0) := by decide +kernel
theorem aw74 : mulF [1, 2] [4294967296, 8589934592] [1, 2] [4294967296, 8589934592] = bad 20 := by decide +kernel
theorem aw75 : mulF [1, 2] [4294967296, 8589934592] [] [] = bad 30 := by decide +kernel

theorem p_awake7 : PureC Try.prog fi_fullerlaw07_awake [] (dB true) := by
  refine pure_fullerlaw07_awake (by simp) fun G hP hn => ?_
  unfold a_fullerlaw07_awake
  have ha : I64s [4294967296, 8589934592] := i64s_dec (by decide)
  have hb : I64s [12884901888, 17179869184] := i64s_dec (by decide)
  have hc : I64s [47244640256] := i64s_dec (by decide)
  have k1 := p_matmul_Mul [1, 2] [4294967296, 8589934592] [2, 1] [12884901888, 17179869184] ha hb
  have k2 := p_matmul_Left [1, 1] [47244640256] [2, 1] [12884901888, 17179869184] hc hb
  have k3 := p_matmul_Right [1, 2] [4294967296, 8589934592] [1, 1] [47244640256] ha hc
  have k4 := p_matmul_Mul [1, 2] [4294967296, 8589934592] [1, 2] [4294967296, 8589934592] ha ha
  have k5 := p_matmul_Mul [1, 2] [4294967296, 8589934592] [] [] ha I64s.nil
  rw [aw71] at k1; rw [aw72] at k2; rw [aw73] at k3; rw [aw74] at k4; rw [aw75] at k5
  have s1 := c_same' [47244640256]
  have s2 := c_same' [141733920768, 188978561024]
  have s3 := c_same' [47244640256, 94489280512]
  repeat' (first | apply T_then | apply then_ret | apply then_exit | apply then_goto | apply rnd_exit | apply rnd_ret | apply rnd_goto | apply noGo_normal | apply noGo_ret | apply noGo_exit | apply jmp_normal | apply jmp_ret | apply jmp_exit | apply jmp_goto | apply inB_normal | apply inB_ret | apply inB_goto | apply inB_exit | refine inB_exit_ne rfl ?_ | ((first | apply T_srK fw | apply T_regK fw); · ((try simp only [TOps.flat, List.cons_append, List.nil_append]); repeat (first | apply X_g0 | apply X_g | apply S_keep | apply X_skip | apply X_skipN | refine X_call ?_ ⟨_, _, _, _, _, _, rfl, rfl, rfl, by rw [hP]; exact k1⟩ ?_ | refine X_call ?_ ⟨_, _, _, _, _, _, rfl, rfl, rfl, by rw [hP]; exact k2⟩ ?_ | refine X_call ?_ ⟨_, _, _, _, _, _, rfl, rfl, rfl, by rw [hP]; exact k3⟩ ?_ | refine X_call ?_ ⟨_, _, _, _, _, _, rfl, rfl, rfl, by rw [hP]; exact k4⟩ ?_ | refine X_call ?_ ⟨_, _, _, _, _, _, rfl, rfl, rfl, by rw [hP]; exact k5⟩ ?_ | refine X_call ?_ ⟨_, _, _, _, _, _, rfl, rfl, rfl, by rw [hP]; exact s1⟩ ?_ | refine X_call ?_ ⟨_, _, _, _, _, _, rfl, rfl, rfl, by rw [hP]; exact s2⟩ ?_ | refine X_call ?_ ⟨_, _, _, _, _, _, rfl, rfl, rfl, by rw [hP]; exact s3⟩ ?_ | apply X_q | apply X_st | apply X_n | apply X_s | apply SKs0 | apply SKs2 | apply SKs1 | refine ⟨⟨rfl, rfl⟩, ?_⟩ | refine ⟨⟨rfl, ?_⟩, ?_⟩ | refine ⟨?_, ?_⟩ | (· (try simp only [go_sem, seval, reduceIte, ↓reduceIte, Bool.not_eq_true, reduceCtorEq, beq_false, beq_true, hn, hP]); first | done | rfl)))) | apply T_seq | apply T_block | refine T_scopeJ 0 rfl ?_ | apply T_scope | apply T_goto | apply T_ret | apply T_skip | apply T_exit | apply T_label | refine T_condT rfl ?_ | refine T_condF rfl ?_ | refine T_condD rfl (fun _ => ?_) (fun _ => ?_) | refine T_cond rfl (fun _ => ?_) (fun _ => ?_))
  exact ends_ret rfl rfl rfl rfl
end Go.AM

namespace Go.AM
open Go Go.Proofs
set_option maxRecDepth 100000
set_option maxHeartbeats 4000000
set_option linter.unusedSimpArgs false
set_option linter.unusedVariables false

theorem rng_err (n : Int) : (rng n).2 = 0 ∨ (rng n).2 = 10 := by unfold rng; split <;> simp
theorem dot_err (x y : Nat → Int) : ∀ (n k : Nat) (s : Int), (dot x y n k s).2 = 0 ∨ (dot x y n k s).2 = 10
  | 0, _, s => .inl rfl
  | n + 1, k, s => by
    simp only [dot]
    split
    · split
      · exact dot_err x y n _ _
      · exact rng_err _
    · exact rng_err _
theorem dot_congr {x y x' y' : Nat → Int} : ∀ {n k : Nat} {s : Int}, (∀ j, j < n → x (k + j) = x' (k + j) ∧ y (k + j) = y' (k + j)) → dot x y n k s = dot x' y' n k s
  | 0, _, _, _ => rfl
  | n + 1, k, s, h => by
    have h0 := h 0 (by omega)
    rw [Nat.add_zero] at h0
    simp only [dot, h0.1, h0.2]
    have ih : ∀ s, dot x y n (k + 1) s = dot x' y' n (k + 1) s := fun s => dot_congr fun j hj => by
      have := h (j + 1) (by omega)
      rwa [show k + (j + 1) = k + 1 + j from by omega] at this
    simp only [ih]
theorem fMul_comm (a b : Int) : fMul a b = fMul b a := by unfold fMul; rw [Int.mul_comm]
theorem dot_comm (x y : Nat → Int) : ∀ (n k : Nat) (s : Int), dot x y n k s = dot y x n k s
  | 0, _, _ => rfl
  | n + 1, k, s => by simp only [dot, fMul_comm (x k) (y k), dot_comm x y n]

theorem i64_0 : I64 0 := ⟨by decide, by decide⟩
theorem fMul_zero (a : Int) : fMul a 0 = (0, 0) := by unfold fMul; rw [Int.mul_zero]; exact rng_in i64_0
theorem fMul_one {a : Int} (h : I64 a) : fMul 4294967296 a = (a, 0) := by
  unfold fMul; rw [Int.mul_ediv_cancel_left _ (by decide)]; exact rng_in h
theorem fAdd_zero {a : Int} (h : I64 a) : fAdd a 0 = (a, 0) := by unfold fAdd; rw [Int.add_zero]; exact rng_in h
theorem zero_fAdd {a : Int} (h : I64 a) : fAdd 0 a = (a, 0) := by unfold fAdd; rw [Int.zero_add]; exact rng_in h

theorem dot_none {x y : Nat → Int} : ∀ {n k : Nat} {s : Int}, I64 s → (∀ j, j < n → y (k + j) = 0) → dot x y n k s = (s, 0)
  | 0, _, _, _, _ => rfl
  | n + 1, k, s, hs, h => by
    have h0 := h 0 (by omega)
    rw [Nat.add_zero] at h0
    simp only [dot, h0, fMul_zero, fAdd_zero hs, if_true]
    exact dot_none hs fun j hj => by
      have := h (j + 1) (by omega)
      rwa [show k + (j + 1) = k + 1 + j from by omega] at this

/-- of ones and zeroes: the number beside the one -/
theorem dot_one {x y : Nat → Int} {i : Nat} : ∀ {n k : Nat}, (∀ j, j < n → I64 (x (k + j))) → (∀ j, j < n → y (k + j) = if k + j = i then 4294967296 else 0) → k ≤ i → i < k + n → dot x y n k 0 = (x i, 0)
  | 0, k, _, _, h1, h2 => by omega
  | n + 1, k, hx, hy, h1, h2 => by
    have h0 := hy 0 (by omega)
    have hx0 := hx 0 (by omega)
    rw [Nat.add_zero] at h0 hx0
    by_cases hk : k = i
    · rw [if_pos hk] at h0
      simp only [dot, h0]
      rw [fMul_comm, fMul_one hx0]
      simp only [if_true, zero_fAdd hx0]
      rw [dot_none hx0 fun j hj => by
        have := hy (j + 1) (by omega)
        rw [if_neg (by omega)] at this
        rwa [show k + (j + 1) = k + 1 + j from by omega] at this, hk]
    · rw [if_neg hk] at h0
      simp only [dot, h0, fMul_zero, if_true, fAdd_zero i64_0]
      exact dot_one (fun j hj => by have := hx (j + 1) (by omega); rwa [show k + (j + 1) = k + 1 + j from by omega] at this)
        (fun j hj => by have := hy (j + 1) (by omega); rwa [show k + (j + 1) = k + 1 + j from by omega] at this) (by omega) (by omega)

def tab (m p : Nat) (g : Nat → Nat → Int) : List Int := (List.range (m * p)).map fun a => g (a / p) (a % p)
theorem tab_len (m p : Nat) (g : Nat → Nat → Int) : (tab m p g).length = m * p := by simp [tab]
theorem row_lt {m p i j : Nat} (hi : i < m) (hj : j < p) : i * p + j < m * p := by
  have : (i + 1) * p ≤ m * p := Nat.mul_le_mul_right p (by omega)
  rw [Nat.succ_mul] at this; omega
theorem row_div {p i j : Nat} (hj : j < p) : (i * p + j) / p = i := by
  rw [Nat.add_comm, Nat.add_mul_div_right _ _ (by omega), Nat.div_eq_of_lt hj, Nat.zero_add]
theorem row_mod {p i j : Nat} (hj : j < p) : (i * p + j) % p = j := by
  rw [Nat.add_comm, Nat.add_mul_mod_self_right, Nat.mod_eq_of_lt hj]
theorem row_of {m p a : Nat} (h : a < m * p) : a / p < m ∧ a % p < p ∧ a / p * p + a % p = a := by
  have hp : 0 < p := by
    rcases Nat.eq_zero_or_pos p with rfl | hp
    · simp at h
    · exact hp
  refine ⟨by rw [Nat.div_lt_iff_lt_mul hp]; exact h, Nat.mod_lt _ hp, ?_⟩
  have := Nat.div_add_mod a p
  rw [Nat.mul_comm] at this; exact this
theorem gt_tab {m p : Nat} {g : Nat → Nat → Int} {i j : Nat} (hi : i < m) (hj : j < p) : gt (tab m p g) (i * p + j) = g i j := by
  unfold gt tab
  rw [List.getElem?_map, List.getElem?_range (row_lt hi hj)]
  simp only [Option.map_some, Option.getD_some, row_div hj, row_mod hj]
theorem tab_congr {m p : Nat} {g g' : Nat → Nat → Int} (h : ∀ i j, i < m → j < p → g i j = g' i j) : tab m p g = tab m p g' := by
  unfold tab
  apply List.map_congr_left
  intro a ha
  obtain ⟨h1, h2, _⟩ := row_of (List.mem_range.1 ha)
  exact h _ _ h1 h2
theorem tab_self {m p : Nat} {d : List Int} (h : d.length = m * p) : tab m p (fun i j => gt d (i * p + j)) = d := by
  apply List.ext_getElem?
  intro a
  by_cases ha : a < m * p
  · unfold tab
    rw [List.getElem?_map, List.getElem?_range ha]
    simp only [Option.map_some, (row_of ha).2.2]
    unfold gt
    rw [List.getElem?_eq_getElem (by omega)]; rfl
  · rw [List.getElem?_eq_none (by rw [tab_len]; omega), List.getElem?_eq_none (by omega)]
theorem prd2 (m p : Nat) : prd [(m : Int), (p : Int)] = ((m * p : Nat) : Int) := by simp [prd]
theorem checkT2 {m p : Nat} {d : List Int} : checkT [(m : Int), (p : Int)] d = true ↔ ShapeOk [(m : Int), (p : Int)] ∧ d.length = m * p := by
  rw [checkT_iff, prd2]
  constructor
  · rintro ⟨h1, h2⟩; exact ⟨h1, by omega⟩
  · rintro ⟨h1, h2⟩; exact ⟨h1, by omega⟩
theorem tab_check {m p : Nat} {g : Nat → Nat → Int} (h : checkS [(m : Int), (p : Int)] = true) : checkT [(m : Int), (p : Int)] (tab m p g) = true :=
  checkT2.2 ⟨checkS_iff.1 h, tab_len _ _ _⟩
theorem ok2 {m p : Nat} (h : ShapeOk [(m : Int), (p : Int)]) : 1 ≤ m ∧ m ≤ 16 ∧ 1 ≤ p ∧ p ≤ 16 ∧ m * p ≤ 64 := by
  have h1 := h.2.1 m (by simp)
  have h2 := h.2.1 p (by simp)
  have h3 := h.2.2
  rw [prd2] at h3
  omega
theorem ok2_iff {m p : Nat} : ShapeOk [(m : Int), (p : Int)] ↔ 1 ≤ m ∧ m ≤ 16 ∧ 1 ≤ p ∧ p ≤ 16 ∧ m * p ≤ 64 := by
  refine ⟨ok2, fun h => ⟨by simp, ?_, by rw [prd2]; omega⟩⟩
  intro x hx
  simp only [List.mem_cons, List.not_mem_nil, or_false] at hx
  rcases hx with rfl | rfl <;> omega
theorem mk2 {m p : Nat} (h : ShapeOk [(m : Int), (p : Int)]) (g : List Int → Int) : mk [(m : Int), (p : Int)] g = tab m p fun i j => g [(i : Int), (j : Int)] := by
  unfold mk tab
  rw [sizeS_ok h, prd2, Int.toNat_natCast]
  apply List.map_congr_left
  intro a ha
  have ha := List.mem_range.1 ha
  have hk := ok2 h
  have hr := row_of ha
  rw [idxF_eq h.2.1 (by omega) (by omega)]
  simp only [ix, prd, Int.mul_one, Int.ediv_one]
  rw [← Int.natCast_ediv, ← Int.natCast_emod, ← Int.natCast_emod, Nat.mod_eq_of_lt hr.1]
theorem at_tab {M N : Nat} {d : List Int} (hc : checkT [(M : Int), (N : Int)] d = true) {i k : Nat} (hi : i < M) (hk : k < N) : atF [(M : Int), (N : Int)] d [(i : Int), (k : Int)] = (gt d (i * N + k), 0) := by
  have hin : InIdx [(M : Int), (N : Int)] [(i : Int), (k : Int)] := .cons (by omega) (by omega) (.cons (by omega) (by omega) .nil)
  rw [atF_ok hc hin]
  have : (pl [(M : Int), (N : Int)] [(i : Int), (k : Int)] 0).toNat = i * N + k := by
    simp only [pl, Int.zero_mul, Int.zero_add]
    rw [← Int.natCast_mul, ← Int.natCast_add]; omega
  rw [this]; rfl
theorem gt_range {d : List Int} (h : I64s d) (i : Nat) : I64 (gt d i) := by
  unfold gt
  cases e : d[i]? with
  | none => exact i64_0
  | some v => exact h.get e

/-- a table, turned -/
theorem turn_tab {m p : Nat} {d : List Int} (h : checkT [(m : Int), (p : Int)] d = true) : turnF [(m : Int), (p : Int)] d = (([(p : Int), (m : Int)], tab p m fun j i => gt d (i * p + j)), 0) := by
  have hs := (checkT_iff.1 h).1
  have hr : ShapeOk [(p : Int), (m : Int)] := hs.reverse
  rw [turnF_ok h]
  show (([(p : Int), (m : Int)], mk [(p : Int), (m : Int)] _), (0 : Int)) = _
  rw [mk2 hr]
  have e : (tab p m fun j i => (atF [(m : Int), (p : Int)] d [(j : Int), (i : Int)].reverse).1) = tab p m fun j i => gt d (i * p + j) :=
    tab_congr fun j i hj hi => by
      show (atF [(m : Int), (p : Int)] d [(i : Int), (j : Int)]).1 = _
      rw [at_tab h hi hj]
  rw [e]

def cel (n p : Nat) (d e : List Int) (i j : Nat) : Int × Int := dot (fun k => gt d (i * n + k)) (fun k => gt e (k * p + j)) n 0 0
theorem cell_cel (n p : Nat) (d e : List Int) (a : Nat) : cell n p d e a = cel n p d e (a / p) (a % p) := rfl
theorem cel_err (n p : Nat) (d e : List Int) (i j : Nat) : (cel n p d e i j).2 = 0 ∨ (cel n p d e i j).2 = 10 := dot_err _ _ _ _ _
/-- a product that is -/
def Goes (m n p : Nat) (d e : List Int) : Prop := ∀ i j, i < m → j < p → (cel n p d e i j).2 = 0
def prod (m n p : Nat) (d e : List Int) : List Int := tab m p fun i j => (cel n p d e i j).1

theorem mul_go {m n p : Nat} {d e : List Int} (h1 : checkT [(m : Int), (n : Int)] d = true) (h2 : checkT [(n : Int), (p : Int)] e = true) (h3 : checkS [(m : Int), (p : Int)] = true) (h : Goes m n p d e) :
    mulF [(m : Int), (n : Int)] d [(n : Int), (p : Int)] e = (([(m : Int), (p : Int)], prod m n p d e), 0) := by
  unfold mulF
  rw [if_pos ⟨h1, h2⟩]
  simp only [h3, and_self, if_true, Int.toNat_natCast]
  rw [← Int.natCast_mul, Int.toNat_natCast]
  have hc := coll_ok (f := cell n p d e) (n := m * p) (a := 0) (acc := []) fun k hk => by
    rw [Nat.zero_add, cell_cel]
    exact h _ _ (row_of hk).1 (row_of hk).2.1
  rw [hc]
  simp only [if_true, List.nil_append, Nat.zero_add, cell_cel]
  rfl
theorem mul_stop {m n p : Nat} {d e : List Int} (h1 : checkT [(m : Int), (n : Int)] d = true) (h2 : checkT [(n : Int), (p : Int)] e = true) (h3 : checkS [(m : Int), (p : Int)] = true) (h : ¬ Goes m n p d e) :
    mulF [(m : Int), (n : Int)] d [(n : Int), (p : Int)] e = bad 10 := by
  unfold mulF
  rw [if_pos ⟨h1, h2⟩]
  simp only [h3, and_self, if_true, Int.toNat_natCast]
  rw [← Int.natCast_mul, Int.toNat_natCast]
  rcases coll_cases (cell n p d e) (m * p) with hc | ⟨k, hk, h4, h5⟩
  · exact absurd (fun i j hi hj => by
      have := hc (i * p + j) (row_lt hi hj)
      rwa [cell_cel, row_div hj, row_mod hj] at this) h
  · have hc := coll_err (f := cell n p d e) (n := m * p) (a := 0) (acc := []) hk (fun j hj => by rw [Nat.zero_add]; exact h4 j hj) (by rw [Nat.zero_add]; exact h5)
    rw [Nat.zero_add] at hc
    have h6 : (cell n p d e k).2 = 10 := by
      rcases cel_err n p d e (k / p) (k % p) with h0 | h0
      · exact absurd h0 h5
      · exact h0
    rw [hc, h6]; rfl

/-- what two must be, for a product -/
structure Prods (s d t e : List Int) (m n p : Nat) : Prop where
  hs : s = [(m : Int), (n : Int)]
  ht : t = [(n : Int), (p : Int)]
  one : checkT [(m : Int), (n : Int)] d = true
  two : checkT [(n : Int), (p : Int)] e = true
  ok : checkS [(m : Int), (p : Int)] = true

theorem mul_cases (s d t e : List Int) (h1 : checkT s d = true) (h2 : checkT t e = true) :
    (∃ m n p, Prods s d t e m n p ∧ ((Goes m n p d e ∧ mulF s d t e = (([(m : Int), (p : Int)], prod m n p d e), 0)) ∨ (¬ Goes m n p d e ∧ mulF s d t e = bad 10))) ∨
    ((¬ ∃ m n p, Prods s d t e m n p) ∧ mulF s d t e = bad 20) := by
  by_cases hp : ∃ m n p, Prods s d t e m n p
  · obtain ⟨m, n, p, h⟩ := hp
    refine .inl ⟨m, n, p, h, ?_⟩
    obtain ⟨rfl, rfl, h3, h4, h5⟩ := h
    by_cases hg : Goes m n p d e
    · exact .inl ⟨hg, mul_go h3 h4 h5 hg⟩
    · exact .inr ⟨hg, mul_stop h3 h4 h5 hg⟩
  · refine .inr ⟨hp, ?_⟩
    unfold mulF
    rw [if_pos ⟨h1, h2⟩]
    split
    · rename_i m n n' p
      rw [if_neg]
      rintro ⟨rfl, h3⟩
      have q1 := (checkT_iff.1 h1).1.2.1 m (by simp)
      have q2 := (checkT_iff.1 h1).1.2.1 n (by simp)
      have q3 := (checkT_iff.1 h2).1.2.1 p (by simp)
      obtain ⟨m, rfl⟩ := Int.eq_ofNat_of_zero_le (by omega : 0 ≤ m)
      obtain ⟨n, rfl⟩ := Int.eq_ofNat_of_zero_le (by omega : 0 ≤ n)
      obtain ⟨p, rfl⟩ := Int.eq_ofNat_of_zero_le (by omega : 0 ≤ p)
      exact hp ⟨m, n, p, rfl, rfl, h1, h2, h3⟩
    · rfl
theorem mul_bad {s d t e : List Int} (h : ¬ (checkT s d = true ∧ checkT t e = true)) : mulF s d t e = bad 30 := by
  unfold mulF; rw [if_neg h]

theorem len2 {s d : List Int} (h : checkT s d = true) (hl : s.length = 2) : ∃ m n : Nat, s = [(m : Int), (n : Int)] := by
  match s, hl with
  | [m, n], _ =>
    have q1 := (checkT_iff.1 h).1.2.1 m (by simp)
    have q2 := (checkT_iff.1 h).1.2.1 n (by simp)
    obtain ⟨m, rfl⟩ := Int.eq_ofNat_of_zero_le (by omega : 0 ≤ m)
    obtain ⟨n, rfl⟩ := Int.eq_ofNat_of_zero_le (by omega : 0 ≤ n)
    exact ⟨m, n, rfl⟩

theorem tab_range {m p : Nat} {g : Nat → Nat → Int} (h : ∀ i j, I64 (g i j)) : I64s (tab m p g) := fun n hn => by
  simp only [tab, List.mem_map] at hn
  obtain ⟨a, _, rfl⟩ := hn
  exact h _ _

def unitD (n : Nat) : List Int := tab n n fun i j => if i = j then 4294967296 else 0
theorem unit_range (n : Nat) : I64s (unitD n) := tab_range fun i j => by
  split
  · exact ⟨by decide, by decide⟩
  · exact i64_0
theorem unit_left {m p : Nat} {d : List Int} (h : checkT [(m : Int), (p : Int)] d = true) (hd : I64s d) (hm : m ≤ 8) :
    mulF [(m : Int), (m : Int)] (unitD m) [(m : Int), (p : Int)] d = (([(m : Int), (p : Int)], d), 0) := by
  obtain ⟨h1, h2⟩ := checkT2.1 h
  have hk := ok2 h1
  have hmm : m * m ≤ 64 := Nat.mul_le_mul hm hm
  have hu : checkT [(m : Int), (m : Int)] (unitD m) = true := tab_check (checkS_iff.2 (ok2_iff.2 (by omega)))
  have hc : ∀ i j, i < m → j < p → cel m p (unitD m) d i j = (gt d (i * p + j), 0) := fun i j hi hj => by
    unfold cel
    rw [dot_comm, dot_one (x := fun k => gt d (k * p + j)) (i := i) (fun k hk => gt_range hd _) (fun k hk => by
      rw [Nat.zero_add]; unfold unitD; rw [gt_tab hi hk]; split <;> rename_i h <;> first | (rw [if_pos h.symm]) | (rw [if_neg (fun q => h q.symm)])) (by omega) (by omega)]
  rw [mul_go hu h (checkS_iff.2 h1) (fun i j hi hj => by rw [hc i j hi hj])]
  unfold prod
  rw [tab_congr (g' := fun i j => gt d (i * p + j)) (fun i j hi hj => by rw [hc i j hi hj]), tab_self h2]
theorem unit_right {m n : Nat} {d : List Int} (h : checkT [(m : Int), (n : Int)] d = true) (hd : I64s d) (hn : n ≤ 8) :
    mulF [(m : Int), (n : Int)] d [(n : Int), (n : Int)] (unitD n) = (([(m : Int), (n : Int)], d), 0) := by
  obtain ⟨h1, h2⟩ := checkT2.1 h
  have hk := ok2 h1
  have hnn : n * n ≤ 64 := Nat.mul_le_mul hn hn
  have hu : checkT [(n : Int), (n : Int)] (unitD n) = true := tab_check (checkS_iff.2 (ok2_iff.2 (by omega)))
  have hc : ∀ i j, i < m → j < n → cel n n d (unitD n) i j = (gt d (i * n + j), 0) := fun i j hi hj => by
    unfold cel
    rw [dot_one (x := fun k => gt d (i * n + k)) (i := j) (fun k hk => gt_range hd _) (fun k hk => by
      rw [Nat.zero_add]; unfold unitD; rw [gt_tab hk hj]) (by omega) (by omega)]
  rw [mul_go h hu (checkS_iff.2 h1) (fun i j hi hj => by rw [hc i j hi hj])]
  unfold prod
  rw [tab_congr (g' := fun i j => gt d (i * n + j)) (fun i j hi hj => by rw [hc i j hi hj]), tab_self h2]
end Go.AM

namespace Go.AM
open Go Go.Proofs
set_option maxRecDepth 100000
set_option maxHeartbeats 4000000
set_option linter.unusedSimpArgs false
set_option linter.unusedVariables false

theorem check_comm {m p : Nat} : checkS [(m : Int), (p : Int)] = checkS [(p : Int), (m : Int)] := by
  have key : ∀ {m p : Nat}, checkS [(m : Int), (p : Int)] = true → checkS [(p : Int), (m : Int)] = true := fun {m p} h => by
    have := (checkS_iff.1 h).reverse
    exact checkS_iff.2 this
  cases h1 : checkS [(m : Int), (p : Int)] <;> cases h2 : checkS [(p : Int), (m : Int)]
  · rfl
  · rw [key h2] at h1; cases h1
  · rw [key h1] at h2; cases h2
  · rfl

/-- a table's numbers, turned -/
def trn (m p : Nat) (d : List Int) : List Int := tab p m fun j i => gt d (i * p + j)
theorem gt_trn {m p : Nat} {d : List Int} {i j : Nat} (hi : i < m) (hj : j < p) : gt (trn m p d) (j * m + i) = gt d (i * p + j) := gt_tab hj hi
theorem trn_check {m p : Nat} {d : List Int} (h : checkT [(m : Int), (p : Int)] d = true) : checkT [(p : Int), (m : Int)] (trn m p d) = true :=
  tab_check (check_comm.trans (checkS_iff.2 (checkT2.1 h).1))

theorem cel_trn {m n p : Nat} {d e : List Int} {i j : Nat} (hi : i < m) (hj : j < p) : cel n m (trn n p e) (trn m n d) j i = cel n p d e i j := by
  unfold cel
  rw [dot_comm]
  exact dot_congr fun k hk => by
    rw [Nat.zero_add]
    exact ⟨gt_trn hi hk, gt_trn hk hj⟩

theorem goes_trn {m n p : Nat} {d e : List Int} : Goes p n m (trn n p e) (trn m n d) ↔ Goes m n p d e := by
  constructor
  · intro h i j hi hj
    rw [← cel_trn hi hj]; exact h j i hj hi
  · intro h j i hj hi
    rw [cel_trn hi hj]; exact h i j hi hj

theorem prod_trn {m n p : Nat} {d e : List Int} : prod p n m (trn n p e) (trn m n d) = trn m p (prod m n p d e) := by
  unfold prod
  show _ = tab p m _
  refine tab_congr fun j i hj hi => ?_
  rw [cel_trn hi hj, gt_tab hi hj]

theorem prods_trn {m n p : Nat} {s d t e : List Int} (h : Prods s d t e m n p) : Prods [(p : Int), (n : Int)] (trn n p e) [(n : Int), (m : Int)] (trn m n d) p n m :=
  ⟨rfl, rfl, trn_check h.two, trn_check h.one, check_comm.trans h.ok⟩
/-- what two are that are no tables -/
theorem turns_no {s d t e : List Int} (h1 : checkT s d = true) (h2 : checkT t e = true) (h : ¬ ∃ m n p, Prods s d t e m n p) :
    ¬ ∃ m n p, Prods t.reverse (turnD t e) s.reverse (turnD s d) m n p := by
  rintro ⟨p, n, m, k⟩
  apply h
  have hs : s = [(m : Int), (n : Int)] := by
    have := congrArg List.reverse k.ht
    simpa using this
  have ht : t = [(n : Int), (p : Int)] := by
    have := congrArg List.reverse k.hs
    simpa using this
  subst hs; subst ht
  exact ⟨m, n, p, rfl, rfl, h1, h2, check_comm.trans k.ok⟩

theorem turnD_trn {m p : Nat} {d : List Int} (h : checkT [(m : Int), (p : Int)] d = true) : turnD [(m : Int), (p : Int)] d = trn m p d := by
  have h1 := turnF_ok h
  rw [turn_tab h] at h1
  have := congrArg (fun q => q.1.2) h1
  exact this.symm

/-- the law: what the product of both turned is -/
theorem mul_turns {s d t e : List Int} (h1 : checkT s d = true) (h2 : checkT t e = true) :
    (∃ p q, s.length = 2 ∧ t.length = 2 ∧ mulF s d t e = ((p, q), 0) ∧ checkT p q = true ∧ mulF t.reverse (turnD t e) s.reverse (turnD s d) = ((p.reverse, turnD p q), 0)) ∨
    (s.length = 2 ∧ t.length = 2 ∧ mulF s d t e = bad 10 ∧ mulF t.reverse (turnD t e) s.reverse (turnD s d) = bad 10) ∨
    (mulF s d t e = bad 20 ∧ mulF t.reverse (turnD t e) s.reverse (turnD s d) = bad 20) := by
  rcases mul_cases s d t e h1 h2 with ⟨m, n, p, hp, hg⟩ | ⟨hp, hf⟩
  · obtain ⟨rfl, rfl, h3, h4, h5⟩ := hp
    have ht := prods_trn (s := [(m : Int), (n : Int)]) (t := [(n : Int), (p : Int)]) ⟨rfl, rfl, h3, h4, h5⟩
    rw [turnD_trn h3, turnD_trn h4]
    rcases hg with ⟨hg, hf⟩ | ⟨hg, hf⟩
    · left
      have hc : checkT [(m : Int), (p : Int)] (prod m n p d e) = true := tab_check h5
      refine ⟨_, _, rfl, rfl, hf, hc, ?_⟩
      show mulF [(p : Int), (n : Int)] _ [(n : Int), (m : Int)] _ = _
      rw [mul_go ht.one ht.two ht.ok (goes_trn.2 hg), prod_trn]
      rw [turnD_trn hc]; rfl
    · right; left
      exact ⟨rfl, rfl, hf, mul_stop ht.one ht.two ht.ok (fun k => hg (goes_trn.1 k))⟩
  · right; right
    refine ⟨hf, ?_⟩
    rcases mul_cases t.reverse (turnD t e) s.reverse (turnD s d) (turnD_check h2) (turnD_check h1) with ⟨m, n, p, k, _⟩ | ⟨_, k⟩
    · exact absurd ⟨m, n, p, k⟩ (turns_no h1 h2 hp)
    · exact k

theorem cel_zero {n p : Nat} {d : List Int} {i j : Nat} (hj : j < p) : cel n p d (tab n p fun _ _ => 0) i j = (0, 0) := by
  unfold cel
  exact dot_none i64_0 fun k hk => by rw [Nat.zero_add]; exact gt_tab hk hj
theorem mul_zero {m n p : Nat} {d e : List Int} (h1 : checkT [(m : Int), (n : Int)] d = true) (h2 : checkT [(n : Int), (p : Int)] (tab n p fun _ _ => 0) = true) (h3 : checkS [(m : Int), (p : Int)] = true) :
    mulF [(m : Int), (n : Int)] d [(n : Int), (p : Int)] (tab n p fun _ _ => 0) = (([(m : Int), (p : Int)], List.replicate (m * p) 0), 0) := by
  rw [mul_go h1 h2 h3 (fun i j hi hj => by rw [cel_zero hj])]
  unfold prod
  rw [tab_congr (g' := fun _ _ => 0) (fun i j hi hj => by rw [cel_zero hj])]
  congr 2
  unfold tab
  rw [List.map_const']; simp
end Go.AM

namespace Go.AM
open Go Go.Proofs
set_option maxRecDepth 100000
set_option maxHeartbeats 4000000
set_option linter.unusedSimpArgs false
set_option linter.unusedVariables false

theorem join_range {s d t e : List Int} {a : Int} (hd : I64s d) (he : I64s e) : I64s (joinF s d t e a).1.2 := by
  unfold joinF
  split
  · split
    · exact I64s.nil
    · exact I64s.mk fun x => by
        unfold gJ
        split
        · exact atF_range hd
        · exact atF_range he
  · exact I64s.nil
theorem set2 (m m' n : Nat) : [(m : Int), (n : Int)].set 0 ((m : Int) + (m' : Int)) = [((m + m' : Nat) : Int), (n : Int)] := by simp

theorem gt_join {m m' n : Nat} {d e : List Int} (J : Joins [(m : Int), (n : Int)] d [(m' : Int), (n : Int)] e 0 (m : Int) (m' : Int)) {i k : Nat} (hi : i < m + m') (hk : k < n) :
    gt (joinD [(m : Int), (n : Int)] d [(m' : Int), (n : Int)] e 0 (m : Int) (m' : Int)) (i * n + k) = if i < m then gt d (i * n + k) else gt e ((i - m) * n + k) := by
  have hc := joinD_check J
  have hx : InIdx ([(m : Int), (n : Int)].set 0 ((m : Int) + (m' : Int))) [(i : Int), (k : Int)] := by
    rw [set2]; exact .cons (by omega) (by omega) (.cons (by omega) (by omega) .nil)
  have jat := join_at J hx (i := (i : Int)) rfl
  rw [set2] at hc jat
  have hat := at_tab hc hi hk
  split
  · rename_i h
    have := (jat.1 (by omega)).2
    rw [hat, at_tab J.one h hk] at this
    exact congrArg Prod.fst this
  · rename_i h
    have := (jat.2 (by omega)).2
    have e1 : [(i : Int), (k : Int)].set 0 ((i : Int) - (m : Int)) = [((i - m : Nat) : Int), (k : Int)] := by
      simp only [List.set_cons_zero]; congr 1; omega
    rw [hat, e1, at_tab J.two (by omega) hk] at this
    exact congrArg Prod.fst this

theorem cel_join {m m' n p : Nat} {d e c : List Int} (J : Joins [(m : Int), (n : Int)] d [(m' : Int), (n : Int)] e 0 (m : Int) (m' : Int)) {i j : Nat} (hi : i < m + m') (hj : j < p) :
    cel n p (joinD [(m : Int), (n : Int)] d [(m' : Int), (n : Int)] e 0 (m : Int) (m' : Int)) c i j = if i < m then cel n p d c i j else cel n p e c (i - m) j := by
  unfold cel
  split
  · rename_i h
    exact dot_congr fun k hk => by rw [Nat.zero_add, gt_join J hi hk, if_pos h]; exact ⟨rfl, rfl⟩
  · rename_i h
    exact dot_congr fun k hk => by rw [Nat.zero_add, gt_join J hi hk, if_neg h]; exact ⟨rfl, rfl⟩

theorem goes_of {s d t e xs xd : List Int} (h : mulF s d t e = ((xs, xd), 0)) : ∃ m n p, Prods s d t e m n p ∧ Goes m n p d e ∧ xs = [(m : Int), (p : Int)] ∧ xd = prod m n p d e := by
  by_cases hc : checkT s d = true ∧ checkT t e = true
  · rcases mul_cases s d t e hc.1 hc.2 with ⟨m, n, p, k, ⟨hg, hf⟩ | ⟨_, hf⟩⟩ | ⟨_, hf⟩
    · rw [hf] at h
      simp only [Prod.mk.injEq] at h
      exact ⟨m, n, p, k, hg, h.1.1.symm, h.1.2.symm⟩
    · rw [hf] at h; simp [bad] at h
    · rw [hf] at h; simp [bad] at h
  · rw [mul_bad hc] at h; simp [bad] at h

theorem mul_joins {s d t e u c js jd xs xd ys yd : List Int} (h1 : joinF s d t e 0 = ((js, jd), 0)) (h2 : mulF s d u c = ((xs, xd), 0)) (h3 : mulF t e u c = ((ys, yd), 0)) :
    mulF js jd u c = joinF xs xd ys yd 0 := by
  obtain ⟨m, n, p, k2, g2, rfl, rfl⟩ := goes_of h2
  obtain ⟨m', n', p', k3, g3, rfl, rfl⟩ := goes_of h3
  obtain ⟨rfl, rfl, c1, c2, c3⟩ := k2
  obtain ⟨rfl, hu, c4, c5, c6⟩ := k3
  simp only [List.cons.injEq, Int.natCast_inj, and_true] at hu
  obtain ⟨rfl, rfl⟩ := hu
  rcases join_cases (s := [(m : Int), (n : Int)]) (t := [(m' : Int), (n : Int)]) (e := e) (n := 0) c1 rfl with ⟨M, J⟩ | ⟨q, hq, hj⟩
  rotate_left
  · have h1' : joinF [(m : Int), (n : Int)] d [(m' : Int), (n : Int)] e ((0 : Nat) : Int) = ((js, jd), 0) := h1
    rw [hj] at h1'
    rcases hq with rfl | rfl <;> simp [bad] at h1'
  have hM : (m' : Int) = M := by simpa using J.hm
  subst hM
  have h1' : joinF [(m : Int), (n : Int)] d [(m' : Int), (n : Int)] e ((0 : Nat) : Int) = ((js, jd), 0) := h1
  rw [join_ok J] at h1'
  simp only [Prod.mk.injEq] at h1'
  obtain ⟨⟨rfl, rfl⟩, _⟩ := h1'
  have hc := joinD_check J
  rw [set2] at hc ⊢
  have q1 : checkT [(m : Int), (p : Int)] (prod m n p d c) = true := tab_check c3
  have q2 : checkT [(m' : Int), (p : Int)] (prod m' n p e c) = true := tab_check c6
  by_cases hk : checkS [((m + m' : Nat) : Int), (p : Int)] = true
  · have J2 : Joins [(m : Int), (p : Int)] (prod m n p d c) [(m' : Int), (p : Int)] (prod m' n p e c) 0 (m : Int) (m' : Int) :=
      ⟨q1, q2, rfl, rfl, rfl, by rw [set2]; exact checkS_iff.1 hk⟩
    have hj2 := join_ok J2
    show _ = joinF _ _ _ _ ((0 : Nat) : Int)
    have hc2 := joinD_check J2
    rw [set2] at hc2 hj2
    rw [hj2]
    have hcel : ∀ i j, i < m + m' → j < p → cel n p (joinD [(m : Int), (n : Int)] d [(m' : Int), (n : Int)] e 0 (m : Int) (m' : Int)) c i j = if i < m then cel n p d c i j else cel n p e c (i - m) j := fun i j hi hj => cel_join J hi hj
    rw [mul_go hc c2 hk (fun i j hi hj => by
      rw [hcel i j hi hj]
      split
      · exact g2 i j (by assumption) hj
      · exact g3 _ j (by omega) hj)]
    have : prod (m + m') n p (joinD [(m : Int), (n : Int)] d [(m' : Int), (n : Int)] e 0 (m : Int) (m' : Int)) c = joinD [(m : Int), (p : Int)] (prod m n p d c) [(m' : Int), (p : Int)] (prod m' n p e c) 0 (m : Int) (m' : Int) := by
      rw [← tab_self (m := m + m') (p := p) (d := joinD [(m : Int), (p : Int)] (prod m n p d c) [(m' : Int), (p : Int)] (prod m' n p e c) 0 (m : Int) (m' : Int)) (checkT2.1 hc2).2]
      unfold prod
      refine tab_congr fun i j hi hj => ?_
      have hgj := gt_join J2 hi hj
      unfold prod at hgj
      rw [hgj, hcel i j hi hj]
      split
      · rename_i h; rw [gt_tab h hj]
      · rename_i h; rw [gt_tab (by omega) hj]
    rw [this]
  · have hb : mulF [((m + m' : Nat) : Int), (n : Int)] (joinD [(m : Int), (n : Int)] d [(m' : Int), (n : Int)] e 0 (m : Int) (m' : Int)) [(n : Int), (p : Int)] c = bad 20 := by
      rcases mul_cases _ _ _ _ hc c2 with ⟨a, b, z, k, _⟩ | ⟨_, k⟩
      · exfalso
        obtain ⟨e1, e2, _, _, e5⟩ := k
        simp only [List.cons.injEq, Int.natCast_inj, and_true] at e1 e2
        obtain ⟨rfl, rfl⟩ := e1
        obtain ⟨_, rfl⟩ := e2
        exact hk e5
      · exact k
    rw [hb]
    unfold joinF
    have b1 := ok2 (checkS_iff.1 c3)
    have b2 := ok2 (checkS_iff.1 c6)
    rw [if_pos ⟨q1, q2⟩, if_pos]
    right; right; right; right
    have hw : w64 ((m : Int) + (m' : Int)) = (m : Int) + (m' : Int) := wrap_in (by omega) (by omega)
    show checkS ([(m : Int), (p : Int)].set 0 (w64 ((m : Int) + (m' : Int)))) = false
    rw [hw, set2]
    simpa using hk

end Go.AM

namespace Go.AM
open Go.RowKit (Below)
set_option linter.unusedSimpArgs false
set_option linter.unusedVariables false

mutual
inductive Conf (P : Program) : TypeId → List PV → Prop
  | bool {t : TypeId} (b : Bool) (ht : P.underlying t = some .bool) : Conf P t [.bool b]
  | int {t : TypeId} {k : IntKind} (n : Int) (ht : P.underlying t = some (.int k)) (hw : (Lit.int k n).wf = true) : Conf P t [.int k n]
  | str {t : TypeId} (s : ByteArray) (ht : P.underlying t = some .string) : Conf P t [.str s]
  | sl {t e : TypeId} (rows : List (List PV)) (ht : P.underlying t = some (.slice e)) (h : ∀ r ∈ rows, Conf P e r) : Conf P t [.sl rows]
  | st {t : TypeId} {fs : Array Field} (parts : List (List PV)) (ht : P.underlying t = some (.struct fs)) (h : ConfAll P (fs.toList.map (·.type)) parts) : Conf P t parts.flatten
inductive ConfAll (P : Program) : List TypeId → List (List PV) → Prop
  | nil : ConfAll P [] []
  | cons {t : TypeId} {ts : List TypeId} {r : List PV} {rs : List (List PV)} (h : Conf P t r) (hs : ConfAll P ts rs) : ConfAll P (t :: ts) (r :: rs)
end

def contig (P : Program) : Nat → List Field → Nat → Bool
  | off, [], n => off == n
  | off, f :: fs, n => f.offset == off && contig P (off + P.cellsOf f.type) fs n

/-- integers, bools, strings, slices and structs of such -/
def okTy (P : Program) : Nat → TypeId → Bool
  | 0, _ => false
  | m + 1, t => match P.underlying t with
    | some .bool => P.cellsOf t == 1
    | some (.int _) => P.cellsOf t == 1
    | some .string => P.cellsOf t == 1
    | some (.slice e) => P.cellsOf t == 1 && decide (1 ≤ P.cellsOf e) && decide (1 ≤ P.bytesOf e) && okTy P m e
    | some (.struct fs) => contig P 0 fs.toList (P.cellsOf t) && fs.toList.all fun f => okTy P m f.type
    | _ => false

theorem flat_at {A : Nat → Prop} {w : World} {b c : Nat} : ∀ {rows : List (List PV)} {off : Nat}, (∀ r ∈ rows, r.length = c) → (∀ i r, rows[i]? = some r → PAt A w r b (off + i * c)) → PAt A w rows.flatten b off
  | [], off, _, _ => .atNil b off
  | r :: rows, off, h1, h2 => by
    simp only [List.flatten_cons]
    refine PAt.append (by simpa using h2 0 r rfl) ?_
    refine flat_at (fun r hr => h1 r (by simp [hr])) fun i r' hi => ?_
    have := h2 (i + 1) r' (by simpa using hi)
    rw [h1 r (by simp)]
    rwa [show off + (i + 1) * c = off + c + i * c from by rw [Nat.add_mul]; omega] at this

section
variable {H : Type} {enc : TypeId × Value → H} {P : Program} {w : World}

def inHeap (w : World) (b : Nat) : Prop := b < w.heap.size

theorem cell_lt {a : Addr} {v : Value} (h : w.cell? a = some v) : a.block < w.heap.size ∧ a.spot = none ∧ w.cell? ⟨a.block, a.off, none⟩ = some v := by
  unfold World.cell? at h ⊢
  split at h
  · rename_i c e z hb
    split at h
    · cases h
    · rename_i hs
      have : a.spot = none := by cases hz : a.spot <;> simp_all
      exact ⟨heap_lt hb, this, by simp [hb, h]⟩
  · cases h

theorem weights_mem {e : TypeId} {l : List (DataW H)} {n : Nat} (h : (DataW.weightsAll P e l).all (· ≤ n) = true) : ∀ d ∈ l, (d.weights P e).all (· ≤ n) = true := by
  induction l with
  | nil => intro d hd; simp at hd
  | cons x l ih =>
    simp only [DataW.weightsAll, List.all_append, Bool.and_eq_true] at h
    intro d hd
    rcases List.mem_cons.1 hd with rfl | hd
    · exact h.1
    · exact ih h.2 d hd

theorem reads_fields {total n : Nat} {cs : List Value} (hlen : cs.length = total) (ih : ∀ (t : TypeId), okTy P n t = true → ∀ (m : Nat) (cs : List Value) (d : DataW H) (ps : List MemPlace),
      DataW.trod enc P w 0 (fun _ => true) true m t cs = some (d, ps) → (d.weights P t).all (· ≤ reachBytes) = true → ∃ vs, Conf P t vs ∧ vs.length = P.cellsOf t ∧ PRels (inHeap w) w vs cs) {m : Nat} :
    ∀ (fs : List Field) (off : Nat) (xs : List (DataW H × List MemPlace)), contig P off fs total = true → (fs.all fun f => okTy P n f.type) = true → xs.length = fs.length →
      (∀ (i : Nat) (f : Field), fs[i]? = some f → DataW.trod enc P w 0 (fun _ => true) true m f.type ((cs.drop f.offset).take (P.cellsOf f.type)) = xs[i]?) →
      (DataW.weightsEach P (fs.map (·.type)) (xs.map (·.1))).all (· ≤ reachBytes) = true → off ≤ total →
      ∃ parts, ConfAll P (fs.map (·.type)) parts ∧ parts.flatten.length = total - off ∧ PRels (inHeap w) w parts.flatten (cs.drop off)
  | [], off, xs, h1, _, _, _, _, hle => by
    simp only [contig, beq_iff_eq] at h1
    subst h1
    exact ⟨[], .nil, by simp, by rw [List.drop_eq_nil_of_le (by omega)]; exact .psNil⟩
  | f :: fs, off, xs, h1, h2, h3, h4, h5, hle => by
    simp only [contig, Bool.and_eq_true, beq_iff_eq] at h1
    simp only [List.all_cons, Bool.and_eq_true] at h2
    obtain ⟨ho, h1⟩ := h1
    cases xs with
    | nil => simp at h3
    | cons x xs =>
      have e0 := h4 0 f rfl
      rw [ho] at e0
      simp only [List.getElem?_cons_zero] at e0
      simp only [List.map_cons, DataW.weightsEach, List.all_append, Bool.and_eq_true] at h5
      obtain ⟨vs, c1, c2, c3⟩ := ih f.type h2.1 m _ x.1 x.2 e0 h5.1
      have hlen2 := (PRels.all2.1 c3).length
      have hle2 : off + P.cellsOf f.type ≤ total := by
        rw [c2, List.length_take, List.length_drop] at hlen2
        omega
      obtain ⟨parts, p1, p2, p3⟩ := reads_fields hlen ih fs (off + P.cellsOf f.type) xs h1 h2.2 (by simpa using h3) (fun i f' hi => by simpa using h4 (i + 1) f' (by simpa using hi)) h5.2 hle2
      refine ⟨vs :: parts, .cons c1 p1, by simp only [List.flatten_cons, List.length_append, p2, c2]; omega, ?_⟩
      simp only [List.flatten_cons]
      have := PRels.all2.2 ((PRels.all2.1 c3).append (PRels.all2.1 p3))
      rwa [← List.drop_drop, List.take_append_drop] at this

theorem rows_of {α : Type} {Q : Nat → α → Prop} : ∀ (n : Nat), (∀ i, i < n → ∃ r, Q i r) → ∃ rows : List α, rows.length = n ∧ ∀ i r, rows[i]? = some r → Q i r
  | 0, _ => ⟨[], rfl, fun i r h => by simp at h⟩
  | n + 1, h => by
    obtain ⟨rows, h1, h2⟩ := rows_of n fun i hi => h i (by omega)
    obtain ⟨r, hr⟩ := h n (by omega)
    refine ⟨rows ++ [r], by simp [h1], fun i x hx => ?_⟩
    by_cases hi : i < n
    · rw [List.getElem?_append_left (by omega)] at hx; exact h2 i x hx
    · rw [List.getElem?_append_right (by omega)] at hx
      have : i = n := by
        by_cases e : i = n
        · exact e
        · rw [List.getElem?_eq_none (by simp; omega)] at hx; cases hx
      subst this
      rw [show i - rows.length = 0 from by omega] at hx
      simp at hx; subst hx; exact hr

theorem add_none (b off k : Nat) : (⟨b, off, none⟩ : Addr).add k = ⟨b, off + k, none⟩ := by
  unfold Addr.add
  split
  · rename_i h; subst h; rfl
  · rfl

theorem reads : ∀ (n : Nat) (t : TypeId), okTy P n t = true → ∀ (m : Nat) (cs : List Value) (d : DataW H) (ps : List MemPlace),
    DataW.trod enc P w 0 (fun _ => true) true m t cs = some (d, ps) → (d.weights P t).all (· ≤ reachBytes) = true → ∃ vs, Conf P t vs ∧ vs.length = P.cellsOf t ∧ PRels (inHeap w) w vs cs
  | 0, t, h => by simp [okTy] at h
  | n + 1, t, h => by
    intro m cs d ps hd hw
    unfold okTy at h
    split at h
    · rename_i ht
      obtain ⟨b, rfl, hx⟩ := DataW.trod_bool ht hd
      exact ⟨[.bool b], .bool b ht, by simpa using (beq_iff_eq.1 h).symm, .psCons _ _ _ _ (.bool b) .psNil⟩
    · rename_i k ht
      obtain ⟨z, rfl, hx, hwf⟩ := DataW.trod_int ht hd
      exact ⟨[.int k z], .int z ht hwf, by simpa using (beq_iff_eq.1 h).symm, .psCons _ _ _ _ (.int k z) .psNil⟩
    · rename_i ht
      obtain ⟨z, rfl, hx, _⟩ := DataW.trod_string ht hd
      exact ⟨[.str z], .str z ht, by simpa using (beq_iff_eq.1 h).symm, .psCons _ _ _ _ (.str z) .psNil⟩
    · rename_i e ht
      simp only [Bool.and_eq_true, beq_iff_eq, decide_eq_true_eq] at h
      obtain ⟨⟨⟨h1, h2⟩, h3⟩, h4⟩ := h
      rcases DataW.trod_slice ht hd with ⟨rfl, hx⟩ | ⟨a, len, cap, elems, rest, m', _, rfl, hx, _, hlc, hcm, hel, hget, hsp, _⟩
      · exact ⟨[.sl []], .sl [] ht (by simp), by simp [h1], .psCons _ _ _ _ (.nil none 0) .psNil⟩
      · obtain ⟨hrl, _⟩ := hsp rfl
        simp only [Prod.mk.injEq] at hx
        obtain ⟨rfl, _⟩ := hx
        simp only [DataW.weights, ht, List.all_cons, List.all_append, Bool.and_eq_true, decide_eq_true_eq, List.length_map] at hw
        obtain ⟨hw1, hw2, _⟩ := hw
        have hcap : cap ≤ reachBytes := by
          have : (elems.length + rest.length) * 1 ≤ (elems.length + rest.length) * P.bytesOf e := Nat.mul_le_mul_left _ h3
          omega
        have each : ∀ i, i < len → ∃ r, Conf P e r ∧ r.length = P.cellsOf e ∧ ∃ cs', w.cells? 0 (a.add (i * P.cellsOf e)) (P.cellsOf e) = some cs' ∧ PRels (inHeap w) w r cs' := by
          intro i hi
          have hi2 : i < elems.length := by omega
          have := hget i hi
          rw [List.getElem?_eq_getElem hi2] at this
          obtain ⟨cs', q1, q2⟩ := Option.bind_eq_some_iff.1 this
          obtain ⟨vs, r1, r2, r3⟩ := reads n e h4 m' cs' _ _ q2 (weights_mem hw2 _ (List.mem_map_of_mem (List.getElem_mem hi2)))
          exact ⟨vs, r1, r2, cs', q1, r3⟩
        obtain ⟨rows, hrows, hrow⟩ := rows_of len each
        have hconf : ∀ r ∈ rows, Conf P e r ∧ r.length = P.cellsOf e := by
          intro r hr
          obtain ⟨i, hi⟩ := List.getElem?_of_mem hr
          exact ⟨(hrow i r hi).1, (hrow i r hi).2.1⟩
        refine ⟨[.sl rows], .sl rows ht fun r hr => (hconf r hr).1, by simp [h1], .psCons _ _ _ _ ?_ .psNil⟩
        by_cases h0 : len = 0
        · subst h0
          have : rows = [] := List.length_eq_zero_iff.1 hrows
          subst this
          exact .nil (some a) cap
        · obtain ⟨_, _, _, cs', q1, q2⟩ := each 0 (by omega)
          obtain ⟨_, q3, q4⟩ := World.cells?_some q1
          have q5 := q4 0 (by omega)
          rw [List.getElem?_eq_getElem (by omega)] at q5
          have e1 : (a.add (0 * P.cellsOf e)).add 0 = a := by simp [Addr.add]
          rw [e1] at q5
          obtain ⟨z1, z2, _⟩ := cell_lt q5
          obtain ⟨b, off, spot⟩ := a
          simp only at z1 z2
          subst z2
          have hM : reachBytes ≤ MaxN := by decide
          have := Rel.sl (A := inHeap w) (w := w) rows b off cap (P.cellsOf e) z1 (fun r hr => (hconf r hr).2) (by omega) (by omega) (flat_at (fun r hr => (hconf r hr).2) fun i r hi => by
            obtain ⟨_, s2, cs', s3, s4⟩ := hrow i r hi
            obtain ⟨_, s5, s6⟩ := World.cells?_some s3
            refine PAt.of_get fun j v hj => ?_
            obtain ⟨x, hx, hr⟩ := (PRels.all2.1 s4).get j v hj
            refine ⟨x, ?_, hr⟩
            have := s6 j (by have := (List.getElem?_eq_some_iff.1 hj).1; omega)
            rw [add_none, add_none, hx] at this
            exact this)
          rw [hrows] at this
          exact this
    · rename_i fs ht
      simp only [Bool.and_eq_true] at h
      obtain ⟨xs, m', _, hx, hl, hxl, hf⟩ := DataW.trod_struct ht hd
      simp only [Prod.mk.injEq] at hx
      obtain ⟨rfl, _⟩ := hx
      simp only [DataW.weights, ht] at hw
      obtain ⟨parts, p1, p2, p3⟩ := reads_fields (m := m') hl (reads n) fs.toList 0 xs h.1 h.2 (by simpa using hxl) (fun i f hi => hf i f (by simpa using hi)) hw (Nat.zero_le _)
      exact ⟨parts.flatten, .st parts ht p1, by simpa using p2, by simpa using p3⟩
    · cases h
end

/-- what an argument of that type is -/
def ArgOk (P : Program) (t : TypeId) (d : DV) : Prop :=
  match P.underlying t with
  | some (.struct _) => ∃ vs, d = .agg vs ∧ Conf P t vs
  | _ => ∃ v, d = .one v ∧ Conf P t [v]

theorem arg_reads {H : Type} {enc : TypeId × Value → H} {P : Program} {w : World} {base n : Nat} {t : TypeId} {v : Value} {d : DataW H} {ps : List MemPlace} (ht : okTy P n t = true) (hv : Value.okWide P w .any base t v)
    (hd : DataW.Trod enc P w 0 (fun _ => true) true t v d ps) (hw : (d.weights P t).all (· ≤ reachBytes) = true) : ∃ x, ArgOk P t x ∧ DRel (inHeap w) w x v := by
  obtain ⟨m, hd⟩ := hd
  obtain ⟨vs, h1, h2, h3⟩ := reads n t ht m _ d ps hd hw
  have one : (∀ xs, v ≠ .agg xs) → P.cellsOf t = 1 → ∃ c, vs = [c] ∧ DRel (inHeap w) w (.one c) v := by
    intro hn hc
    have hcell : v.cells.toList = [v] := by cases v <;> first | rfl | exact absurd rfl (hn _)
    rw [hcell] at h3
    cases h3 with
    | psCons c _ cs _ h t =>
      cases t
      exact ⟨c, rfl, .d1 (.one h)⟩
  cases n with
  | zero => simp [okTy] at ht
  | succ n =>
  unfold okTy at ht
  unfold ArgOk
  unfold Value.okWide at hv
  split at ht
  · rename_i hu
    simp only [hu] at hv ⊢
    obtain ⟨c, rfl, hr⟩ := one (fun xs e => by subst e; simp [Cell.okWide, Cell.ok, hu] at hv) (by simpa using ht)
    exact ⟨_, ⟨c, rfl, h1⟩, hr⟩
  · rename_i k hu
    simp only [hu] at hv ⊢
    obtain ⟨c, rfl, hr⟩ := one (fun xs e => by subst e; simp [Cell.okWide, Cell.ok, hu] at hv) (by simpa using ht)
    exact ⟨_, ⟨c, rfl, h1⟩, hr⟩
  · rename_i hu
    simp only [hu] at hv ⊢
    obtain ⟨c, rfl, hr⟩ := one (fun xs e => by subst e; simp [Cell.okWide, Cell.ok, hu] at hv) (by simpa using ht)
    exact ⟨_, ⟨c, rfl, h1⟩, hr⟩
  · rename_i e hu
    simp only [hu] at hv ⊢
    simp only [Bool.and_eq_true, beq_iff_eq] at ht
    obtain ⟨c, rfl, hr⟩ := one (fun xs e => by subst e; simp [Cell.okWide, Cell.ok, hu] at hv) ht.1.1.1
    exact ⟨_, ⟨c, rfl, h1⟩, hr⟩
  · rename_i fs hu
    simp only [hu] at hv ⊢
    obtain ⟨cs, rfl, _, _⟩ := hv
    exact ⟨_, ⟨vs, rfl, h1⟩, .d1 (.agg (PRels.all2.1 h3))⟩
  · cases ht

theorem args_read {H : Type} {enc : TypeId × Value → H} {P : Program} {w : World} {base n : Nat} : ∀ {ts : List TypeId} {vs : List Value} {ds : List (DataW H)} {ps : List MemPlace}, (ts.all fun t => okTy P n t) = true →
    (∀ (j : Nat) t v, ts[j]? = some t → vs[j]? = some v → Value.okWide P w .any base t v) → DataW.TrodAll enc P w 0 (fun _ => true) true ts vs ds ps → (DataW.weightsEach P ts ds).all (· ≤ reachBytes) = true →
    ∃ xs, All2 (ArgOk P) ts xs ∧ All2 (DRel (inHeap w) w) xs vs
  | [], vs, ds, ps, _, _, h, _ => by
    cases vs <;> cases ds <;> simp [DataW.TrodAll] at h
    exact ⟨[], .nil, .nil⟩
  | t :: ts, vs, ds, ps, ht, hv, h, hw => by
    obtain ⟨v, vs', d, ds', p, q, rfl, rfl, rfl, h1, h2⟩ := Go.ChangeShapes.trodAll_cons h
    simp only [List.all_cons, Bool.and_eq_true] at ht
    simp only [DataW.weightsEach, List.all_append, Bool.and_eq_true] at hw
    obtain ⟨x, a1, a2⟩ := arg_reads ht.1 (hv 0 t v rfl rfl) h1 hw.1
    obtain ⟨xs, b1, b2⟩ := args_read ht.2 (fun j t v h3 h4 => hv (j + 1) t v (by simpa using h3) (by simpa using h4)) h2 hw.2
    exact ⟨x :: xs, .cons a1 b1, .cons a2 b2⟩

theorem args_carry {H : Type} {enc : TypeId × Value → H} {P : Program} (hl : laidOutB P = true) {W W' : World} {sp : Nat → Bool} : ∀ {ts : List TypeId} {vs : List Value} {ds : List (DataW H)} {ps : List MemPlace},
    (ts.all fun t => P.readableRec t && decide (t < P.types.size)) = true → DataW.TrodAll enc P W 0 (fun _ => true) true ts vs ds ps → (∀ p ∈ ps, W.sameAt W' p) → (∀ p ∈ ps, sp p.block = true) → DataW.TrodAll enc P W' 0 sp true ts vs ds ps
  | [], vs, ds, ps, _, h, _, _ => by cases vs <;> cases ds <;> simp [DataW.TrodAll] at h ⊢; exact h
  | t :: ts, vs, ds, ps, ht, h, h1, h2 => by
    obtain ⟨v, vs', d, ds', p, q, rfl, rfl, rfl, h3, h4⟩ := Go.ChangeShapes.trodAll_cons h
    simp only [List.all_cons, Bool.and_eq_true, decide_eq_true_eq] at ht
    exact ⟨p, q, Go.WideElems.Trod_stays hl ht.1.1 ht.1.2 h3 (fun x hx => h1 x (by simp [hx])) (fun x hx => h2 x (by simp [hx])), args_carry hl ht.2 h4 (fun x hx => h1 x (by simp [hx])) (fun x hx => h2 x (by simp [hx])), rfl⟩

/-- A LAW's ROW, OUT OF ITS CONTRACT. -/
theorem law_lifted {C : Checked} {os : Os} {f : FuncId} {fn : Func} {spec : ChangeSpec} {conds : List PathCond} {H : Type} {enc : TypeId × Value → H} {tb : TypeId} (n : Nat)
    (own : ownKnob C.prog.godebug = none) (started : os.Started) (noInit : C.prog.inits.idxOf? f = none) (hfn : C.prog.funcs[f]? = some fn)
    (witness : ∃ (w : World) (tape : Tape) (i : Input), w.os = os ∧ (w.forCall tape i).Shaped C.prog ∧ i.vars = [] ∧ Input.okWide C.prog (w.forCall tape i) .any w.heap.size f i ∧
      spec.pre6 enc C.prog fn conds false (w.forCall tape i).memory i.args ∧ ({} : Assume).holds C.prog (lone (Frame.enter C.prog f i.args .normal) [] (w.forCall tape i)))
    (hl : laidOutB C.prog = true) (hts : (fn.params.toList.all fun t => okTy C.prog n t) = true) (hrd : (fn.params.toList.all fun t => C.prog.readableRec t && decide (t < C.prog.types.size)) = true)
    (hvars : spec.vars = []) (hres : fn.resultTypes = #[tb]) (hb : C.prog.underlying tb = some .bool)
    (hspec : ∀ ds : List (DataW H), ds.length = fn.params.size → spec.fn H ds = { results := [.lit (.bool true)], args := ds })
    (law : ∀ xs, All2 (ArgOk C.prog) fn.params.toList xs → PureC C.prog f xs (.one (.bool true))) :
    ReturnsInHanded {} C os f .any (spec.pre6 enc C.prog fn conds false) (spec.post enc C.prog fn false true false false) := by
  refine returnsInHanded_of_change_shaped own started noInit hfn witness ?_
  intro W base args ds gs before hval hW _ hwt _ _
  obtain ⟨p, q, hA, hV, rfl, hfz, hnd⟩ := id hW
  rw [hvars] at hV
  have hgs : gs = [] ∧ q = [] := by
    cases gs with
    | nil => simp only [DataW.TrodVars] at hV; exact ⟨rfl, hV⟩
    | cons _ _ => exact hV.elim
  obtain ⟨rfl, rfl⟩ := hgs
  have hvt : spec.plain.varTypes C.prog = [] := by
    simp [DataSpec.varTypes, ChangeSpec.plain, hvars]
  rw [hvt, List.append_nil, List.append_nil] at hwt
  obtain ⟨xs, h1, h2⟩ := args_read hts (fun j t v h3 h4 => hval j t v (by simpa using h3) (by simpa using h4)) hA hwt
  have hlen : ds.length = fn.params.size := by
    have key : ∀ {ts : List TypeId} {vs : List Value} {ds : List (DataW H)} {ps : List MemPlace}, DataW.TrodAll enc C.prog W 0 (fun _ => true) true ts vs ds ps → ds.length = ts.length := by
      intro ts
      induction ts with
      | nil => intro vs ds ps h; cases vs <;> cases ds <;> simp [DataW.TrodAll] at h ⊢
      | cons t ts ih =>
        intro vs ds ps h
        obtain ⟨_, _, _, _, _, _, rfl, rfl, _, _, h4⟩ := Go.ChangeShapes.trodAll_cons h
        simp [ih h4]
    simpa using key hA
  have hsp := hspec ds hlen
  have hcall := (law xs h1).calls (inHeap W) W args.toList (fun _ hb => hb) h2
  refine Calls.mono (by simpa using hcall) ?_
  rintro e W' ⟨x, rfl, hbel, hr⟩
  have hx : x = .bool true := by
    cases hr with | d1 h => cases h with | one h => cases h; rfl
  subst hx
  refine ⟨_, rfl, ds, [], p ++ [], [], p, [], hW, ?_, ?_, ?_, hbel.frame _, fun h => by cases h⟩
  · rw [List.append_nil, hsp, hres]
    exact Go.ChangeShapes.trodAll_mk1 (Go.RowKit.shut_bool hb true)
  · rw [List.append_nil, hsp]
    exact args_carry hl hrd hA (fun x hx => hbel.same (hW.lt x (by simpa using hx))) (fun x hx => by simpa using hW.lt x (by simpa using hx))
  · rw [List.append_nil, hsp, hvars]
    rfl
end Go.AM

namespace Go.AM
open Go Go.Proofs Go.Proofs.Ytcmbjbmghoopcaa
set_option maxRecDepth 100000
set_option linter.unusedSimpArgs false
set_option linter.unusedVariables false

theorem wf_i64 {n : Int} (h : (Lit.int .i64 n).wf = true) : -9223372036854775808 ≤ n ∧ n < 9223372036854775808 := by
  simp only [Lit.wf, IntKind.has, IntKind.min, IntKind.max, IntKind.bits, IntKind.signed] at h
  simp at h
  omega

theorem conf_int {v : List PV} (h : Conf Try.prog 3 v) : ∃ n : Int, v = [.int .i64 n] ∧ -9223372036854775808 ≤ n ∧ n < 9223372036854775808 := by
  have hu := Try.underlying3
  cases h with
  | bool b ht => rw [hu] at ht; cases ht
  | int n ht hw => rw [hu] at ht; cases ht; exact ⟨n, rfl, wf_i64 hw⟩
  | str s ht => rw [hu] at ht; cases ht
  | sl rows ht h => rw [hu] at ht; cases ht
  | st parts ht h => rw [hu] at ht; cases ht

def i64s (s : List Int) : Prop := ∀ n ∈ s, -9223372036854775808 ≤ n ∧ n < 9223372036854775808

theorem conf_rows : ∀ {rows : List (List PV)}, (∀ r ∈ rows, Conf Try.prog 3 r) → ∃ s : List Int, rows = rI s ∧ i64s s
  | [], _ => ⟨[], rfl, fun n hn => by simp at hn⟩
  | r :: rows, h => by
    obtain ⟨n, rfl, hn⟩ := conf_int (h r (by simp))
    obtain ⟨s, rfl, hs⟩ := conf_rows (rows := rows) fun r hr => h r (by simp [hr])
    exact ⟨n :: s, rfl, fun m hm => by
      rcases List.mem_cons.1 hm with rfl | hm
      · exact hn
      · exact hs m hm⟩

theorem conf_ints {v : List PV} (h : Conf Try.prog 22 v) : ∃ s : List Int, v = [eI s] ∧ i64s s := by
  have hu := Try.underlying22
  cases h with
  | bool b ht => rw [hu] at ht; cases ht
  | int n ht hw => rw [hu] at ht; cases ht
  | str s ht => rw [hu] at ht; cases ht
  | sl rows ht h =>
    rw [hu] at ht; cases ht
    obtain ⟨s, rfl, hs⟩ := conf_rows h
    exact ⟨s, rfl, hs⟩
  | st parts ht h => rw [hu] at ht; cases ht

theorem conf_T {v : List PV} (h : Conf Try.prog 24 v) : ∃ s d : List Int, v = [eI s, eI d] ∧ i64s s ∧ i64s d := by
  have hu := Try.underlying24
  cases h with
  | bool b ht => rw [hu] at ht; cases ht
  | int n ht hw => rw [hu] at ht; cases ht
  | str s ht => rw [hu] at ht; cases ht
  | sl rows ht h => rw [hu] at ht; cases ht
  | st parts ht h =>
    rw [hu] at ht; cases ht
    cases h with | cons h1 h => cases h with | cons h2 h => cases h with | nil =>
      obtain ⟨s, rfl, hs⟩ := conf_ints h1
      obtain ⟨d, rfl, hd⟩ := conf_ints h2
      exact ⟨s, d, rfl, hs, hd⟩

theorem arg_T {d : DV} (h : ArgOk Try.prog 24 d) : ∃ s e : List Int, d = dT s e ∧ i64s s ∧ i64s e := by
  unfold ArgOk at h
  rw [Try.underlying24] at h
  obtain ⟨vs, rfl, h⟩ := h
  obtain ⟨s, e, rfl, hs, he⟩ := conf_T h
  exact ⟨s, e, rfl, hs, he⟩
theorem own : ownKnob Try.prog.godebug = none := by kernel_rfl
theorem laidOut : laidOutB Try.prog = true := by kernel_rfl

end Go.AM

