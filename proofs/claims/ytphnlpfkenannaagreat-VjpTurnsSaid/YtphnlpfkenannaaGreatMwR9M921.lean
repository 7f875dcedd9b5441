import Derived.Test.YtphnlpfkenannaaGreatMwR9M920
import Derived.Lib.Mul64
set_option linter.unusedVariables false
set_option linter.unusedSimpArgs false
namespace Go.AM
open Go Go.Proofs
set_option maxRecDepth 100000
set_option maxHeartbeats 4000000

def I64 (n : Int) : Prop := -9223372036854775808 ≤ n ∧ n < 9223372036854775808
instance (n : Int) : Decidable (I64 n) := by unfold I64; exact inferInstance
abbrev dU (n : Nat) : DV := .one (.int .u64 (n : Int))
theorem w64_eq (n : Int) : IntKind.i64.wrap n = if n % 18446744073709551616 ≥ 9223372036854775808 then n % 18446744073709551616 - 18446744073709551616 else n % 18446744073709551616 := by
  simp only [IntKind.wrap, IntKind.bits, IntKind.signed]
  simp
theorem u64_eq (n : Int) : IntKind.u64.wrap n = n % 18446744073709551616 := by
  simp only [IntKind.wrap, IntKind.bits, IntKind.signed]
  simp
theorem u64_in {n : Int} (h0 : 0 ≤ n) (h1 : n < 18446744073709551616) : IntKind.u64.wrap n = n := by
  rw [u64_eq]; omega
theorem u64_nat {n : Nat} (h1 : n < 18446744073709551616) : IntKind.u64.wrap (n : Int) = (n : Int) := u64_in (by omega) (by omega)
theorem u64_and {x : Nat} (hx : x < 18446744073709551616) : andZ .u64 (x : Int) 4294967295 = ((x % 4294967296 : Nat) : Int) := by
  unfold andZ
  have e1 : (BitVec.ofInt IntKind.u64.bits (x : Int) &&& BitVec.ofInt IntKind.u64.bits 4294967295).toNat = x % 4294967296 := by
    rw [BitVec.toNat_and]
    have h2 : (BitVec.ofInt IntKind.u64.bits (x : Int)).toNat = x := by
      show (BitVec.ofInt 64 (x : Int)).toNat = x
      rw [BitVec.toNat_ofInt]; omega
    have h3 : (BitVec.ofInt IntKind.u64.bits 4294967295).toNat = 2 ^ 32 - 1 := by decide
    rw [h2, h3, Nat.and_two_pow_sub_one_eq_mod]
  rw [e1, u64_nat (by omega)]
theorem u64_or {x y : Nat} (hx : x < 4294967296) (hy : y < 4294967296) : orZ .u64 ((x * 4294967296 : Nat) : Int) (y : Int) = ((x * 4294967296 + y : Nat) : Int) := by
  unfold orZ
  have e1 : (BitVec.ofInt IntKind.u64.bits ((x * 4294967296 : Nat) : Int) ||| BitVec.ofInt IntKind.u64.bits (y : Int)).toNat = x * 4294967296 + y := by
    rw [BitVec.toNat_or]
    have h2 : (BitVec.ofInt IntKind.u64.bits ((x * 4294967296 : Nat) : Int)).toNat = x * 4294967296 := by
      show (BitVec.ofInt 64 _).toNat = _
      rw [BitVec.toNat_ofInt]; omega
    have h3 : (BitVec.ofInt IntKind.u64.bits (y : Int)).toNat = y := by
      show (BitVec.ofInt 64 _).toNat = _
      rw [BitVec.toNat_ofInt]; omega
    rw [h2, h3]
    have := Nat.shiftLeft_add_eq_or_of_lt (i := 32) (b := y) (by omega) x
    rw [Nat.shiftLeft_eq] at this
    exact this.symm
  rw [e1, u64_nat (by omega)]
theorem shr32 (x : Nat) : shrZ .u64 (x : Int) 32 = ((x / 4294967296 : Nat) : Int) := by
  unfold shrZ
  have : (2 : Int) ^ (min (32 : Int).toNat IntKind.u64.bits) = 4294967296 := by decide
  rw [this, Int.fdiv_eq_ediv_of_nonneg _ (by decide)]
  omega
theorem shl32 (x : Nat) : shlZ .u64 (x : Int) 32 = ((x % 4294967296 * 4294967296 : Nat) : Int) := by
  unfold shlZ
  have : (2 : Int) ^ (min (32 : Int).toNat IntKind.u64.bits) = 4294967296 := by decide
  rw [this, u64_eq]
  omega
def rng (n : Int) : Int × Int := if I64 n then (n, 0) else (0, 10)
def fAdd (a b : Int) : Int × Int := rng (a + b)
def fSub (a b : Int) : Int × Int := rng (a - b)
def fNeg (a : Int) : Int × Int := rng (0 - a)
def fMul (a b : Int) : Int × Int := rng (a * b / 4294967296)
theorem rng_in {n : Int} (h : I64 n) : rng n = (n, 0) := if_pos h
theorem rng_out {n : Int} (h : ¬ I64 n) : rng n = (0, 10) := if_neg h
theorem rng_range (n : Int) : I64 (rng n).1 := by
  by_cases h : I64 n
  · rw [rng_in h]; exact h
  · rw [rng_out h]; exact ⟨by decide, by decide⟩
theorem p_fix_told (n : Int) (b : Bool) : PureC Tryz.prog fi_fix_told [dN n, dB b] (dNE (if b then (n, 0) else (0, 10))) := by
  refine pure_fix_told (by simp) fun G hP hn => ?_
  unfold a_fix_told
  cases b
  · refine go trivial trivial ?_
    exact ends_ret rfl rfl rfl rfl
  · refine go trivial trivial ?_
    exact ends_ret rfl rfl rfl rfl
theorem p_fix_Add {a b : Int} (ha : I64 a) (hb : I64 b) : PureC Tryz.prog fi_fix_Add [dN a, dN b] (dNE (fAdd a b)) := by
  refine pure_fix_Add (by simp) fun G hP hn => ?_
  unfold a_fix_Add
  have hw := w64_eq (a + b)
  unfold I64 at ha hb
  have k1 : I64 (a + b) → fAdd a b = (IntKind.i64.wrap (a + b), 0) := fun h => by
    rw [wrap_in h.1 h.2]; exact rng_in h
  have k2 : ¬ I64 (a + b) → fAdd a b = (0, 10) := fun h => by
    exact rng_out h
  unfold I64 at k1 k2
  by_cases h1 : a < 0 <;> by_cases h2 : b < 0 <;> by_cases h3 : IntKind.i64.wrap (a + b) < 0
  all_goals
    refine go (aa h1 <| aa h2 h3) @p_fix_told ?_
    exact ends_ret rfl rfl rfl (by
      simp only [resD]
      first
        | (rw [k1 (by split at hw <;> omega)]; done)
        | (rw [k2 (by split at hw <;> omega)]; done)
        | (rw [k1 (by split at hw <;> omega)]; rfl)
        | (rw [k2 (by split at hw <;> omega)]; rfl))
theorem p_fix_size {a : Int} (ha : I64 a) : PureC Tryz.prog fi_fix_size [dN a] (dU a.natAbs) := by
  refine pure_fix_size (by simp) fun G hP hn => ?_
  unfold a_fix_size
  unfold I64 at ha
  by_cases h1 : a < 0
  · have w : IntKind.u64.wrap (0 - IntKind.u64.wrap a) = (a.natAbs : Int) := by rw [u64_eq a, u64_eq]; omega
    refine go (aa h1 @w) trivial ?_
    exact ends_ret rfl rfl rfl rfl
  · have w : IntKind.u64.wrap a = (a.natAbs : Int) := by rw [u64_eq a]; omega
    refine go (aa h1 @w) trivial ?_
    exact ends_ret rfl rfl rfl rfl
def apart (a b : Int) : Bool := decide (a ≠ 0) && (decide (b ≠ 0) && (decide (a < 0) != decide (b < 0)))
theorem p_fix_apart (a b : Int) : PureC Tryz.prog fi_fix_apart [dN a, dN b] (dB (apart a b)) := by
  refine pure_fix_apart (by simp) fun G hP hn => ?_
  unfold a_fix_apart
  by_cases h1 : a = 0
  · have h1' : (a != 0) = false := by simp [h1]
    refine go h1' trivial ?_
    exact ends_ret rfl rfl rfl (by simp [resD, apart, h1])
  · have h1' : (a != 0) = true := by simp [h1]
    by_cases h2 : b = 0
    · have h2' : (b != 0) = false := by simp [h2]
      refine go (aa h1' h2') trivial ?_
      exact ends_ret rfl rfl rfl (by simp [resD, apart, h2])
    · have h2' : (b != 0) = true := by simp [h2]
      by_cases h3 : a < 0 <;> by_cases h4 : b < 0
      all_goals
        refine go (aa h1' <| aa h2' <| aa h3 h4) trivial ?_
        exact ends_ret rfl rfl rfl (by simp [resD, apart, h1, h2, h3, h4])
end Go.AM

namespace Go.AM
open Go Go.Proofs
set_option maxRecDepth 100000
set_option maxHeartbeats 4000000

def sideS (s : List Int) (i : Nat) : Int := (s.reverse[i]?).getD 1
theorem sideS_ge {s : List Int} {i : Nat} (h : s.length ≤ i) : sideS s i = 1 := by unfold sideS; rw [List.getElem?_eq_none (by simpa using h)]; rfl
theorem sideS_lt {s : List Int} {i : Nat} (h : i < s.length) : s[s.length - 1 - i]? = some (sideS s i) := by
  unfold sideS
  rw [List.getElem?_reverse h, List.getElem?_eq_getElem (by omega)]; rfl
theorem p_shape_side (s : List Int) (i : Nat) (hs : s.length ≤ 64) (hi : i ≤ 64) : PureC Tryz.prog fi_shape_side [dI s, dN i] (dN (sideS s i)) := by
  refine pure_shape_side (by simp) fun G hP hn => ?_
  unfold a_shape_side
  by_cases h : s.length ≤ i
  · have c1 : (i : Int) ≥ s.length := by omega
    refine go c1 trivial ?_
    exact ends_ret rfl rfl rfl (by rw [sideS_ge h]; rfl)
  · have c1 : ¬ (i : Int) ≥ s.length := by omega
    have hx := sideS_lt (s := s) (i := i) (by omega)
    have w1 : IntKind.i64.wrap ((s.length : Int) - 1) = ((s.length - 1 : Nat) : Int) := by rw [wrap_in (by omega) (by omega)]; omega
    have w2 : IntKind.i64.wrap (((s.length - 1 : Nat) : Int) - (i : Int)) = ((s.length - 1 - i : Nat) : Int) := by rw [wrap_in (by omega) (by omega)]; omega
    have hlt : s.length - 1 - i < s.length := by omega
    refine go (aa c1 <| aa w1 <| aa w2 <| aa hx hlt) trivial ?_
    exact ends_ret rfl rfl rfl rfl
def clash (x y : Int) : Bool := x != y && (x != 1 && y != 1)
def maxS (a b : List Int) (i : Nat) : Int := max (sideS a i) (sideS b i)
def joinSh (a b : List Int) (k : Nat) : List Int := ((List.range k).map (maxS a b)).reverse
def joinOk (a b : List Int) : Bool := checkS a && (checkS b && ((List.range (max a.length b.length)).all (fun i => !clash (sideS a i) (sideS b i)) && checkS (joinSh a b (max a.length b.length))))
def joinSF (a b : List Int) : List Int × Int := if joinOk a b = true then (joinSh a b (max a.length b.length), 0) else ([], 20)
theorem joinSh_succ (a b : List Int) (k : Nat) : joinSh a b (k + 1) = maxS a b k :: joinSh a b k := by
  unfold joinSh; rw [List.range_succ, List.map_append, List.reverse_append]; rfl
theorem joinSh_len (a b : List Int) (k : Nat) : (joinSh a b k).length = k := by simp [joinSh]
theorem p_shape_Join (a b : List Int) : PureC Tryz.prog fi_shape_Join [dI a, dI b] (.tup [dI (joinSF a b).1, dN (joinSF a b).2]) := by
  refine pure_shape_Join (by simp) fun G hP hn => ?_
  unfold a_shape_Join
  cases h1 : checkS a
  · have hf : joinSF a b = ([], 20) := by unfold joinSF joinOk; rw [h1]; rfl
    have k1 := p_shape_Check a
    rw [h1] at k1
    refine go trivial k1 ?_
    exact ends_ret rfl rfl rfl (by rw [hf]; rfl)
  cases h2 : checkS b
  · have hf : joinSF a b = ([], 20) := by unfold joinSF joinOk; rw [h1, h2]; rfl
    have k1 := p_shape_Check a
    have k2 := p_shape_Check b
    rw [h1] at k1
    rw [h2] at k2
    refine go trivial (aa k1 k2) ?_
    exact ends_ret rfl rfl rfl (by rw [hf]; rfl)
  have k1 := p_shape_Check a
  have k2 := p_shape_Check b
  rw [h1] at k1
  rw [h2] at k2
  have la := check_len h1
  have lb := check_len h2
  have hM : MaxN = 140737488355328 := rfl
  have m1 : max (a.length : Int) (b.length : Int) = ((max a.length b.length : Nat) : Int) := by omega
  have hmax : max a.length b.length ≤ 3 := by omega
  have hla : a.length ≤ max a.length b.length := by omega
  have hlb : b.length ≤ max a.length b.length := by omega
  have hf : joinSF a b = if ((List.range (max a.length b.length)).all (fun i => !clash (sideS a i) (sideS b i)) && checkS (joinSh a b (max a.length b.length))) = true then (joinSh a b (max a.length b.length), 0) else ([], 20) := by
    unfold joinSF joinOk; rw [h1, h2]; rfl
  generalize max a.length b.length = k at *
  have q1 : (k : Int) * 8 ≤ MaxN := by omega
  have q2 : (k : Int) ≤ MaxN := by omega
  refine go (aa m1 <| aa q1 q2) (aa k1 k2) ?_
  refine T_for k (fun i (_ : Unit) => { env := [(0, .one (.p (eI a))), (1, .one (.p (eI b))), (6, .one (.msl 23 0 1 k (some k))), (25, .one (.p (.int .i64 k))), (26, .one (.p (.int .i64 i)))], σ := [(23, .arr true 1 (rI (List.replicate (k - i) 0 ++ joinSh a b i)))] })
    (fun i _ => ∀ j, j < i → clash (sideS a j) (sideS b j) = false) () (fun j hj => by omega) ?_ fun i _ hi hno => ?_
  · refine Weak.sub fun q hq => ?_
    simp only [List.mem_cons, List.not_mem_nil, or_false] at hq
    rcases hq with rfl
    simp [lo, joinSh, rI]
  by_cases hlt : i < k
  · have c1 : (i : Int) < (k : Int) := by omega
    have w0 : IntKind.i64.wrap ((i : Int) + 1) = ((i + 1 : Nat) : Int) := by rw [wrap_in (by omega) (by omega)]; rfl
    have w1 : IntKind.i64.wrap ((k : Int) - 1) = ((k - 1 : Nat) : Int) := by rw [wrap_in (by omega) (by omega)]; omega
    have w2 : IntKind.i64.wrap (((k - 1 : Nat) : Int) - (i : Int)) = ((k - 1 - i : Nat) : Int) := by rw [wrap_in (by omega) (by omega)]; omega
    have kx := p_shape_side a i (by omega) (by omega)
    have ky := p_shape_side b i (by omega) (by omega)
    have c2 : k - 1 - i < k := by omega
    have hrep : List.replicate (k - i) (0 : Int) = List.replicate (k - 1 - i + 1) 0 := by congr 1; omega
    have hz : (List.replicate (k - 1 - i + 1) (0 : Int) ++ joinSh a b i)[k - 1 - i]? = some 0 := by
      rw [List.getElem?_append_left (by simp)]; simp
    have hst := rep_set (k - 1 - i) (maxS a b i) (joinSh a b i)
    have hlen : (List.replicate (k - 1 - i + 1) (0 : Int) ++ joinSh a b i).length = k := by simp [joinSh_len]; omega
    have hmx : maxS a b i = max (sideS a i) (sideS b i) := rfl
    rw [hrep]
    generalize List.replicate (k - 1 - i + 1) (0 : Int) ++ joinSh a b i = R at hz hst hlen
    rw [hmx] at hst
    have hx : sideS a i = sideS a i := rfl
    have hy : sideS b i = sideS b i := rfl
    generalize hx' : sideS a i = x at kx hst hx
    generalize hy' : sideS b i = y at ky hst hy
    have nxt : clash x y = false → ∀ j, j < i + 1 → clash (sideS a j) (sideS b j) = false := fun hc j hj => by
      rcases Nat.lt_succ_iff_lt_or_eq.1 hj with hj | rfl
      · exact hno j hj
      · rw [hx', hy']; exact hc
    have fin : ∀ q ∈ [((23 : Nat), AO.arr true 1 (rI (List.replicate (k - (i + 1)) 0 ++ joinSh a b (i + 1))))], lo [(23, AO.arr true 1 (rI (R.set (k - 1 - i) (max x y))))] q.1 = q.2 := fun q hq => by
      simp only [List.mem_cons, List.not_mem_nil, or_false] at hq
      rcases hq with rfl
      rw [hst, joinSh_succ, hmx, hx', hy', show k - (i + 1) = k - 1 - i from by omega]
      rfl
    cases e1 : (x != y)
    · refine go (aa c1 <| aa w0 <| aa w1 <| aa w2 <| aa e1 <| aa hz <| aa hlen <| aa c2 @rI_set) (aa kx ky) ?_
      exact rnd_next hlt () (nxt (by simp [clash, e1])) (Weak.sub fin)
    cases e2 : (x != 1)
    · refine go (aa c1 <| aa w0 <| aa w1 <| aa w2 <| aa e1 <| aa e2 <| aa hz <| aa hlen <| aa c2 @rI_set) (aa kx ky) ?_
      exact rnd_next hlt () (nxt (by simp [clash, e1, e2])) (Weak.sub fin)
    cases e3 : (y != 1)
    · refine go (aa c1 <| aa w0 <| aa w1 <| aa w2 <| aa e1 <| aa e2 <| aa e3 <| aa hz <| aa hlen <| aa c2 @rI_set) (aa kx ky) ?_
      exact rnd_next hlt () (nxt (by simp [clash, e1, e2, e3])) (Weak.sub fin)
    · refine go (aa c1 <| aa w0 <| aa w1 <| aa w2 <| aa e1 <| aa e2 <| aa e3 <| aa hz <| aa hlen <| aa c2 @rI_set) (aa kx ky) ?_
      have hcl : ((List.range k).all fun i => !clash (sideS a i) (sideS b i)) = false := by
        rw [List.all_eq_false]
        exact ⟨i, List.mem_range.2 hlt, by rw [hx', hy']; simp [clash, e1, e2, e3]⟩
      exact ends_ret rfl rfl rfl (by rw [hf, hcl]; rfl)
  · have hik : i = k := by omega
    have c1 : ¬ (i : Int) < (k : Int) := by omega
    have hal : ((List.range k).all fun i => !clash (sideS a i) (sideS b i)) = true := by
      rw [List.all_eq_true]
      intro j hj
      rw [hno j (by have := List.mem_range.1 hj; omega)]; rfl
    rw [hal] at hf
    subst hik
    have e0 : List.replicate (i - i) (0 : Int) ++ joinSh a b i = joinSh a b i := by simp
    rw [e0]
    have kc := p_shape_Check (joinSh a b i)
    have hl2 := joinSh_len a b i
    cases hc : checkS (joinSh a b i)
    · rw [hc] at hf kc
      generalize joinSh a b i = R at *
      subst hl2
      refine T_weak (Weak.freeze (i := 6) rfl (toD_list (n := 5) (rows := rI R) (m := true) rfl (by simp))) ?_
      simp only [if_true]
      refine go c1 kc ?_
      exact ends_ret rfl rfl rfl (by rw [hf]; rfl)
    · rw [hc] at hf kc
      generalize joinSh a b i = R at *
      subst hl2
      refine T_weak (Weak.freeze (i := 6) rfl (toD_list (n := 5) (rows := rI R) (m := true) rfl (by simp))) ?_
      simp only [if_true]
      refine go c1 kc ?_
      exact ends_ret rfl rfl rfl (by rw [hf]; rfl)
end Go.AM

