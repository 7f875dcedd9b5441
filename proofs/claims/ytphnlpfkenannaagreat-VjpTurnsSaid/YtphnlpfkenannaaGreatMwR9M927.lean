import Derived.Test.YtphnlpfkenannaaGreatMwR9M926
set_option linter.unusedVariables false
set_option linter.unusedSimpArgs false
namespace Go.AM
open Go Go.Proofs
set_option maxRecDepth 100000
set_option maxHeartbeats 4000000

def sq (N : Nat) : Nat → Nat → Nat
  | 0, r => r
  | k + 1, r => if (r + 2 ^ k) * (r + 2 ^ k) ≤ N then sq N k (r + 2 ^ k) else sq N k r
def rootN (a : Int) : Nat := sq (a.toNat * 4294967296) 48 0
def fSqrt (a : Int) : Int × Int := if a < 0 then (0, 12) else ((rootN a : Int), 0)
theorem sq_bound {N : Nat} : ∀ {k r : Nat}, sq N k r < r + 2 ^ k
  | 0, r => by simp [sq]
  | k + 1, r => by
    have hp : 2 ^ (k + 1) = 2 ^ k + 2 ^ k := by rw [Nat.pow_succ]; omega
    simp only [sq]
    split
    · have := sq_bound (N := N) (k := k) (r := r + 2 ^ k); omega
    · have := sq_bound (N := N) (k := k) (r := r)
      have hp2 := Nat.two_pow_pos k
      omega
theorem rootN_lt (a : Int) : rootN a < 281474976710656 := by
  have := sq_bound (N := a.toNat * 4294967296) (k := 48) (r := 0)
  simpa [rootN] using this
theorem cmp_words {A m : Nat} : ∃ h l Nh Nl : Nat, h = m * m / 18446744073709551616 ∧ l = m * m % 18446744073709551616 ∧ Nh = A / 4294967296 ∧ Nl = A % 4294967296 * 4294967296 ∧
    ((Nl < l → (Nh < h + 1 ↔ A * 4294967296 < m * m)) ∧ (¬ Nl < l → (Nh < h ↔ A * 4294967296 < m * m))) := by
  refine ⟨_, _, _, _, rfl, rfl, rfl, rfl, ?_⟩
  generalize m * m = M
  omega
theorem p_fix_Sqrt {a : Int} (ha : I64 a) : PureC Tryz.prog fi_fix_Sqrt [dN a] (dNE (fSqrt a)) := by
  refine pure_fix_Sqrt (by simp) fun G hP hn => ?_
  unfold a_fix_Sqrt
  by_cases h0 : a < 0
  · have hf : fSqrt a = (0, 12) := if_pos h0
    refine go h0 trivial ?_
    exact ends_ret rfl rfl rfl (by rw [hf]; rfl)
  have hf : fSqrt a = ((rootN a : Int), 0) := if_neg h0
  have hrt := rootN_lt a
  unfold rootN at hf hrt
  obtain ⟨A, rfl⟩ := Int.eq_ofNat_of_zero_le (by omega : 0 ≤ a)
  rw [Int.toNat_natCast] at hf hrt
  have hA : A < 9223372036854775808 := by unfold I64 at ha; omega
  have wa : IntKind.u64.wrap (A : Int) = (A : Int) := u64_nat (by omega)
  have sh := shl32 A
  have sr := shr32 A
  obtain ⟨Tv, hT⟩ : ∃ Tv, Tv = sq (A * 4294967296) 48 0 := ⟨_, rfl⟩
  rw [← hT] at hf hrt
  refine go h0 trivial ?_
  refine T_for 48 (fun i (r : Nat) => { env := [(0, .one (.p (.int .i64 A))), (4, .one (.p (.int .u64 r))), (5, .one (.p (.int .u64 ((r + 2 ^ (48 - i) : Nat) : Int))))], σ := [] })
    (fun i r => r + 2 ^ (48 - i) ≤ 281474976710656 ∧ sq (A * 4294967296) (48 - i) r = Tv) 0 ⟨by decide, by rw [hT]⟩ (.refl _ _) fun i r hi hr => ?_
  obtain ⟨hb, hsq⟩ := hr
  clear hT
  by_cases hlt : i < 48
  · obtain ⟨w, hw⟩ : ∃ w, w = 2 ^ (48 - (i + 1)) := ⟨_, rfl⟩
    have hp : 2 ^ (48 - i) = 2 * w := by rw [hw, show 48 - i = (48 - (i + 1)) + 1 from by omega, Nat.pow_succ]; omega
    have hw1 : 1 ≤ w := by rw [hw]; exact Nat.two_pow_pos _
    rw [show 48 - i = (48 - (i + 1)) + 1 from by omega] at hsq
    simp only [sq] at hsq
    rw [← hw] at hsq
    rw [hp] at hb ⊢
    have s1 : IntKind.u64.wrap (((r + 2 * w : Nat) : Int) - (r : Int)) = ((2 * w : Nat) : Int) := by
      rw [show ((r + 2 * w : Nat) : Int) - (r : Int) = ((2 * w : Nat) : Int) from by omega]; exact u64_nat (by omega)
    have c1 : ((2 * w : Nat) : Int) > 1 := by omega
    have s2 : IntKind.u64.wrap ((r : Int) + ((r + 2 * w : Nat) : Int)) = ((2 * (r + w) : Nat) : Int) := by
      rw [show (r : Int) + ((r + 2 * w : Nat) : Int) = ((2 * (r + w) : Nat) : Int) from by omega]; exact u64_nat (by omega)
    have s3 : IntKind.u64.wrap (((2 * (r + w) : Nat) : Int).tdiv 2) = ((r + w : Nat) : Int) := by
      rw [Int.tdiv_eq_ediv_of_nonneg (by omega), show ((2 * (r + w) : Nat) : Int) / 2 = ((r + w : Nat) : Int) from by omega]
      exact u64_nat (by omega)
    have km := p_bits_Mul64 (x := r + w) (y := r + w) (by omega) (by omega)
    obtain ⟨h, l, Nh, Nl, e1, e2, e3, e4, e5, e6⟩ := cmp_words (A := A) (m := r + w)
    rw [← e1, ← e2] at km
    rw [← e4] at sh
    rw [← e3] at sr
    have nx1 : r + w + 2 ^ (48 - (i + 1)) = r + 2 * w := by rw [← hw]; omega
    have nx0 : r + 2 ^ (48 - (i + 1)) = r + w := by rw [← hw]
    have lo0 : A * 4294967296 < (r + w) * (r + w) → sq (A * 4294967296) (48 - (i + 1)) r = Tv := fun q => by rw [if_neg (Nat.not_le_of_lt q)] at hsq; exact hsq
    have lo1 : ¬ A * 4294967296 < (r + w) * (r + w) → sq (A * 4294967296) (48 - (i + 1)) (r + w) = Tv := fun q => by rw [if_pos (Nat.le_of_not_lt q)] at hsq; exact hsq
    clear e1 e2 e3 e4 hsq
    generalize (A * 4294967296 < (r + w) * (r + w)) = below at *
    by_cases b0 : Nl < l
    · have e5 := e5 b0
      by_cases b1 : Nh < h + 1
      · refine go (aa @wa <| aa @sh <| aa @sr <| aa s1 <| aa c1 <| aa s2 <| aa s3 <| aa b0 b1) km ?_
        exact rnd_next hlt r ⟨by rw [nx0]; omega, lo0 (e5.1 b1)⟩ (by rw [nx0]; exact .refl _ _)
      · refine go (aa @wa <| aa @sh <| aa @sr <| aa s1 <| aa c1 <| aa s2 <| aa s3 <| aa b0 b1) km ?_
        exact rnd_next hlt (r + w) ⟨by rw [nx1]; omega, lo1 (fun q => b1 (e5.2 q))⟩ (by rw [nx1]; exact .refl _ _)
    · have e6 := e6 b0
      by_cases b1 : Nh < h
      · refine go (aa @wa <| aa @sh <| aa @sr <| aa s1 <| aa c1 <| aa s2 <| aa s3 <| aa b0 b1) km ?_
        exact rnd_next hlt r ⟨by rw [nx0]; omega, lo0 (e6.1 b1)⟩ (by rw [nx0]; exact .refl _ _)
      · refine go (aa @wa <| aa @sh <| aa @sr <| aa s1 <| aa c1 <| aa s2 <| aa s3 <| aa b0 b1) km ?_
        exact rnd_next hlt (r + w) ⟨by rw [nx1]; omega, lo1 (fun q => b1 (e6.2 q))⟩ (by rw [nx1]; exact .refl _ _)
  · have hie : i = 48 := by omega
    subst hie
    simp only [Nat.sub_self, sq] at hsq
    rw [← hsq] at hf hrt
    have s1 : IntKind.u64.wrap (((r + 2 ^ (48 - 48) : Nat) : Int) - (r : Int)) = 1 := by
      rw [show ((r + 2 ^ (48 - 48) : Nat) : Int) - (r : Int) = ((1 : Nat) : Int) from by omega]; exact u64_nat (by omega)
    have s2 : IntKind.i64.wrap (r : Int) = (r : Int) := wrap_in (by omega) (by omega)
    refine go (aa s1 s2) trivial ?_
    exact ends_ret rfl rfl rfl (by rw [hf]; rfl)
end Go.AM

namespace Go.AM
open Go Go.Proofs
set_option maxRecDepth 100000
set_option maxHeartbeats 4000000

theorem k_Sqrt {s d : List Int} (hd : I64s d) : PureC Tryz.prog fi_elem_One [dN 23, dT s d] (dTE (oneF fSqrt s d)) := p_elem_One (.inr (.inr (.inr ⟨rfl, rfl⟩))) (fun _ ha => p_fix_Sqrt ha) s d hd
end Go.AM

namespace Go.AM
open Go Go.Proofs
set_option maxRecDepth 100000
set_option maxHeartbeats 4000000

def shF (n : Nat) (k : Int) : Int × Int :=
  if k < 0 then (((n / 2 ^ (min (-k).toNat 63) : Nat) : Int), 0) else rng ((n * 2 ^ (min k.toNat 63) : Nat) : Int)
theorem sh_over {n : Nat} (h0 : 1 ≤ n) {k : Nat} : (lenN n : Int) + k < 64 ↔ n * 2 ^ (min k 63) < 9223372036854775808 := by
  have h2 : lenN n = n.log2 + 1 := if_neg (by omega)
  have h3 := (Nat.log2_eq_iff (n := n) (by omega)).1 rfl
  have hp := Nat.two_pow_pos (min k 63)
  constructor
  · intro h
    have hk : min k 63 = k := by omega
    rw [hk]
    have : n * 2 ^ k < 2 ^ (n.log2 + 1) * 2 ^ k := Nat.mul_lt_mul_of_pos_right h3.2 (Nat.two_pow_pos k)
    rw [← Nat.pow_add] at this
    have h4 : 2 ^ (n.log2 + 1 + k) ≤ 2 ^ 63 := Nat.pow_le_pow_right (by decide) (by omega)
    omega
  · intro h
    have h4 : 2 ^ n.log2 * 2 ^ (min k 63) ≤ n * 2 ^ (min k 63) := Nat.mul_le_mul_right _ h3.1
    rw [← Nat.pow_add] at h4
    have h5 : 2 ^ (n.log2 + min k 63) < 2 ^ 63 := by omega
    have := (Nat.pow_lt_pow_iff_right (by decide : 1 < 2)).1 h5
    omega
theorem p_fix_shifted {n : Nat} {k : Int} (h0 : 1 ≤ n) (hn : n < 8589934592) (hk : -2147483648 ≤ k ∧ k ≤ 2147483647) : PureC Tryz.prog fi_fix_shifted [dU n, dN k] (dNE (shF n k)) := by
  refine pure_fix_shifted (by simp) fun G hP hnt => ?_
  unfold a_fix_shifted
  have hn := hnt
  by_cases c : k < 0
  · obtain ⟨m, hm⟩ : ∃ m : Nat, m = min (-k).toNat 63 := ⟨_, rfl⟩
    have hf : shF n k = (((n / 2 ^ m : Nat) : Int), 0) := by unfold shF; rw [if_pos c, hm]
    have hd := Nat.div_le_self n (2 ^ m)
    have w1 : IntKind.i64.wrap (-k) = -k := wrap_in (by omega) (by omega)
    have w1' : IntKind.i64.wrap (0 - k) = -k := by rw [Int.zero_sub]; exact w1
    have w2 : IntKind.u64.wrap (-k) = -k := u64_in (by omega) (by omega)
    have w3 : min (-k) 63 = (m : Int) := by omega
    have w4 : shrZ .u64 (n : Int) (m : Int) = ((n / 2 ^ m : Nat) : Int) := shrN (by omega)
    generalize n / 2 ^ m = z at *
    have w5 : IntKind.i64.wrap (z : Int) = (z : Int) := wrap_in (by omega) (by omega)
    refine go (aa @c <| aa w1 <| aa w1' <| aa w2 <| aa w3 <| aa w4 w5) trivial ?_
    exact ends_ret rfl rfl rfl (by rw [hf]; rfl)
  · obtain ⟨K, rfl⟩ := Int.eq_ofNat_of_zero_le (by omega : 0 ≤ k)
    obtain ⟨m, hm⟩ : ∃ m : Nat, m = min K 63 := ⟨_, rfl⟩
    have hf : shF n K = rng ((n * 2 ^ m : Nat) : Int) := by unfold shF; rw [if_neg c, Int.toNat_natCast, hm]
    have w3 : min (K : Int) 63 = (m : Int) := by omega
    have w4 : shlZ .u64 (n : Int) (m : Int) = ((n * 2 ^ m % 18446744073709551616 : Nat) : Int) := shlM (by omega)
    have kl := p_Len64 (x := n) (by omega)
    have hl := lenN_lt (n := 64) (x := n) (by omega)
    have w6 : IntKind.i64.wrap ((lenN n : Int) + (K : Int)) = (lenN n : Int) + K := wrap_in (by omega) (by omega)
    have hov := sh_over h0 (k := K)
    rw [← hm] at hov
    have kt := fun v b => p_fix_told v b
    by_cases c2 : (lenN n : Int) + K < 64
    · have hlt := hov.1 c2
      have w5 : IntKind.i64.wrap ((n * 2 ^ m % 18446744073709551616 : Nat) : Int) = ((n * 2 ^ m : Nat) : Int) := by
        rw [Nat.mod_eq_of_lt (by omega)]; exact wrap_in (by omega) (by omega)
      rw [rng_in (by unfold I64; omega)] at hf
      refine go (aa @c <| aa w3 <| aa w4 <| aa w5 <| aa w6 c2) (aa kl @p_fix_told) ?_
      exact ends_ret rfl rfl rfl (by rw [hf]; rfl)
    · have hge : ¬ n * 2 ^ m < 9223372036854775808 := fun q => c2 (hov.2 q)
      rw [rng_out (by unfold I64; omega)] at hf
      refine go (aa @c <| aa w3 <| aa w4 <| aa w6 c2) (aa kl @p_fix_told) ?_
      exact ends_ret rfl rfl rfl (by rw [hf]; rfl)
def fPow (a : Int) : Int × Int := shF ((4294967296 + a % 4294967296).toNat) (a / 4294967296)
theorem i64_and (a : Int) (ha : I64 a) : andZ .i64 a 4294967295 = a % 4294967296 := by
  unfold andZ
  have h1 : (BitVec.ofInt IntKind.i64.bits a).toNat = (a % 18446744073709551616).toNat := by
    rw [BitVec.toNat_ofInt]; rfl
  have h2 : (BitVec.ofInt IntKind.i64.bits 4294967295).toNat = 2 ^ 32 - 1 := by
    rw [BitVec.toNat_ofInt]; rfl
  rw [BitVec.toNat_and, h1, h2, Nat.and_two_pow_sub_one_eq_mod]
  have : (((a % 18446744073709551616).toNat % 2 ^ 32 : Nat) : Int) = a % 4294967296 := by omega
  rw [this]
  exact wrap_in (by omega) (by omega)
theorem p_fix_Pow {a : Int} (ha : I64 a) : PureC Tryz.prog fi_fix_Pow [dN a] (dNE (fPow a)) := by
  refine pure_fix_Pow (by simp) fun G hP hn => ?_
  unfold a_fix_Pow
  have w1 := i64_and a ha
  obtain ⟨f, hf⟩ := Int.eq_ofNat_of_zero_le (by omega : 0 ≤ a % 4294967296)
  rw [hf] at w1
  have w2 : IntKind.i64.wrap (4294967296 + (f : Int)) = ((4294967296 + f : Nat) : Int) := by rw [wrap_in (by omega) (by omega)]; omega
  have w3 : IntKind.u64.wrap ((4294967296 + f : Nat) : Int) = ((4294967296 + f : Nat) : Int) := u64_nat (by omega)
  have w4 : shrZ .i64 a 32 = a / 4294967296 := by
    unfold shrZ
    have : (2 : Int) ^ (min (32 : Int).toNat IntKind.i64.bits) = 4294967296 := by decide
    rw [this, Int.fdiv_eq_ediv_of_nonneg _ (by decide)]
  have k := p_fix_shifted (n := 4294967296 + f) (k := a / 4294967296) (by omega) (by omega) (by unfold I64 at ha; omega)
  have e : fPow a = shF (4294967296 + f) (a / 4294967296) := by
    unfold fPow
    congr 1
    omega
  rw [← e] at k
  refine go (aa w1 <| aa w2 <| aa w3 w4) k ?_
  exact ends_ret rfl rfl rfl rfl
end Go.AM

namespace Go.AM
open Go Go.Proofs
set_option maxRecDepth 100000
set_option maxHeartbeats 4000000

theorem k_Pow {s d : List Int} (hd : I64s d) : PureC Tryz.prog fi_elem_One [dN 22, dT s d] (dTE (oneF fPow s d)) := p_elem_One (.inr (.inr (.inl ⟨rfl, rfl⟩))) (fun _ ha => p_fix_Pow ha) s d hd
end Go.AM

namespace Go.AM
open Go Go.Proofs

structure Nd where
  op : Int
  args : List Int
  nums : List Int
def kindL : List (Int × Int × Int) := [(1, 0, -1), (2, 0, -2), (3, 0, 1), (10, 2, 0), (11, 2, 0), (12, 2, 0), (13, 2, 0), (20, 1, 0), (21, 1, 0), (22, 1, 0), (23, 1, 0), (30, 2, 0), (40, 1, -1), (41, 1, 0), (42, 1, 3), (43, 2, 1), (50, 1, 1), (51, 1, 1), (52, 1, 1)]
def lkI {α : Type} (n : Int) : List (Int × α) → Option α
  | [] => none
  | p :: l => if p.1 = n then some p.2 else lkI n l
def kindF (op : Int) : Option (Int × Int) := lkI op kindL
def arityF (op : Int) : Int := match kindF op with | some k => k.1 | none => -1
def wellF (nums : List Int) (k : Int) : Bool :=
  if k = -2 then (match nums with | [] => false | p :: r => decide (0 ≤ p ∧ p < 8) && checkS r)
  else if k = -1 then checkS nums else (nums.length : Int) == k
def hd (nums : List Int) (i : Nat) : Int := (nums[i]?).getD 0
def nameF (n : Nd) : Int × Bool := if n.op = 1 then (-1, true) else if n.op = 2 then (hd n.nums 0, true) else (0, false)
def putI {α : Type} (n : Int) (v : α) : List (Int × α) → List (Int × α)
  | [] => [(n, v)]
  | p :: l => if p.1 = n then (n, v) :: l else p :: putI n v l
abbrev Shs := List (Int × List Int)
def stepG (i : Nat) (m : Shs) (n : Nd) : Option Shs :=
  match kindF n.op with
  | none => none
  | some k => if (n.args.length : Int) = k.1 ∧ wellF n.nums k.2 = true ∧ n.args.all (fun a => decide (0 ≤ a ∧ a < i)) = true then
      (if (nameF n).2 = true then (match lkI (nameF n).1 m with
        | some s => if sameL s n.nums = true then some (putI (nameF n).1 n.nums m) else none
        | none => some (putI (nameF n).1 n.nums m)) else some m) else none
def walkG : Nat → Shs → List Nd → Option Shs
  | _, m, [] => some m
  | i, m, n :: l => match stepG i m n with
    | some m' => walkG (i + 1) m' l
    | none => none
def checkG (l : List Nd) : Bool := (walkG 0 [] l).isSome && decide (0 < l.length ∧ l.length ≤ 24)
def gs (s : List (List Int)) (i : Int) : List Int := (s[i.toNat]?).getD []
def sidedF (s : List (List Int)) (nums : List Int) (f : Nat → List Int → List Int × Bool) : List Int × Bool :=
  if hd nums 0 < 0 ∨ hd nums 0 ≥ (gs s 0).length then ([], false) else f (hd nums 0).toNat nums.tail
def partF (a : List Int) (n : Nat) (nums : List Int) : List Int × Bool :=
  if hd nums 0 < 0 ∨ hd nums 0 ≥ hd nums 1 ∨ hd nums 1 > hd a n then ([], false) else (a.set n (w64 (hd nums 1 - hd nums 0)), true)
def behindF (a b : List Int) (n : Nat) : List Int × Bool :=
  if a.length = b.length ∧ sameL (a.set n (hd b n)) b = true then (a.set n (w64 (hd a n + hd b n)), checkS (a.set n (w64 (hd a n + hd b n)))) else ([], false)
def productF (a b : List Int) : List Int × Bool := match a, b with
  | [m, n], [n', p] => if n = n' then ([m, p], checkS [m, p]) else ([], false)
  | _, _ => ([], false)
def ruleF (op : Int) (s : List (List Int)) (nums : List Int) : List Int × Bool :=
  if op = 1 then (nums, true) else if op = 2 then (nums.tail, true) else if op = 3 then ([], true)
  else if op < 20 then ((joinSF (gs s 0) (gs s 1)).1, (joinSF (gs s 0) (gs s 1)).2 == 0) else if op < 30 then (gs s 0, true)
  else if op = 30 then productF (gs s 0) (gs s 1) else if op = 40 then (nums, sizeS nums == sizeS (gs s 0)) else if op = 41 then ((gs s 0).reverse, true)
  else if op = 42 then sidedF s nums (partF (gs s 0)) else if op = 43 then sidedF s nums (fun n _ => behindF (gs s 0) (gs s 1) n)
  else sidedF s nums (fun n _ => ((gs s 0).eraseIdx n, true))
def inferOk (op : Int) (nums : List Int) (s : List (List Int)) : Bool :=
  match kindF op with
  | none => false
  | some k => decide ((s.length : Int) = k.1) && (wellF nums k.2 && (s.all checkS && (ruleF op s nums).2))
def inferF (op : Int) (nums : List Int) (s : List (List Int)) : List Int × Int :=
  if inferOk op nums s = true then ((ruleF op s nums).1, 0) else ([], 20)
def evF (op : Int) (t : List Tn) (nums : List Int) : Tn × Int :=
  if op = 10 then twoF fAdd (gT t 0).1 (gT t 0).2 (gT t 1).1 (gT t 1).2 else if op = 11 then twoF fSub (gT t 0).1 (gT t 0).2 (gT t 1).1 (gT t 1).2
  else if op = 12 then twoF fMul (gT t 0).1 (gT t 0).2 (gT t 1).1 (gT t 1).2 else if op = 13 then twoF fDiv (gT t 0).1 (gT t 0).2 (gT t 1).1 (gT t 1).2
  else if op = 20 then oneF fNeg (gT t 0).1 (gT t 0).2 else if op = 21 then oneF fRelu (gT t 0).1 (gT t 0).2 else if op = 22 then oneF fPow (gT t 0).1 (gT t 0).2
  else if op = 23 then oneF fSqrt (gT t 0).1 (gT t 0).2 else if op = 30 then mulF (gT t 0).1 (gT t 0).2 (gT t 1).1 (gT t 1).2
  else if op = 40 then reshapeF (gT t 0).1 (gT t 0).2 nums else if op = 41 then turnF (gT t 0).1 (gT t 0).2
  else if op = 42 then sliceF (gT t 0).1 (gT t 0).2 (hd nums 0) (hd nums 1) (hd nums 2) else if op = 43 then joinF (gT t 0).1 (gT t 0).2 (gT t 1).1 (gT t 1).2 (hd nums 0)
  else if op = 50 then sumS (gT t 0).1 (gT t 0).2 (hd nums 0) else if op = 51 then meanS (gT t 0).1 (gT t 0).2 (hd nums 0) else mxS (gT t 0).1 (gT t 0).2 (hd nums 0)
def givenF (t : Tn) (s : List Int) : Tn × Int := if checkT t.1 t.2 = true ∧ sameL t.1 s = true then (t, 0) else bad 130
def nodeF (n : Nd) (t : List Tn) (input : Tn) (ps : List Tn) : Tn × Int :=
  if t.all (fun x => checkT x.1 x.2) = true then
    (if (inferF n.op n.nums (t.map (·.1))).2 = 0 then
      (if n.op = 1 then givenF input (inferF n.op n.nums (t.map (·.1))).1 else if n.op = 2 then givenF (gT ps (hd n.nums 0).toNat) (inferF n.op n.nums (t.map (·.1))).1
      else if n.op = 3 then fullF [] (hd n.nums 0) else evF n.op t n.nums)
    else bad (inferF n.op n.nums (t.map (·.1))).2) else bad 30
end Go.AM

namespace Go.AM
open Go Go.Proofs
set_option maxRecDepth 100000
set_option maxHeartbeats 4000000

theorem ltz0 (n : Nat) : ((0 : Int) < ((n + 1 : Nat) : Int)) = True := eq_true (by omega)
theorem ltz1 (n : Nat) : ((1 : Int) < ((n + 1 + 1 : Nat) : Int)) = True := eq_true (by omega)
theorem lez1 (n : Nat) : ((1 : Int) ≤ ((n + 1 : Nat) : Int)) = True := eq_true (by omega)
attribute [go_sem] ltz0 ltz1 lez1
abbrev rNd (n : Nd) : List PV := [.int .i64 n.op, eI n.args, eI n.nums]
abbrev dNd (n : Nd) : DV := .agg (rNd n)
abbrev dNds (l : List Nd) : DV := .one (.sl (l.map rNd))
abbrev rS (s : List (List Int)) : List (List PV) := s.map fun x => [eI x]
abbrev dSS (s : List (List Int)) : DV := .one (.sl (rS s))
def kindsE : List (Int × Bool × List PV) := kindL.map fun p => (p.1, true, [.int .i64 p.2.1, .int .i64 p.2.2])
def eM (m : Shs) : List (Int × Bool × List PV) := m.map fun p => (p.1, false, [eI p.2])
theorem find_map {α : Type} (f : α → Bool × List PV) (n : Int) : ∀ (l : List (Int × α)), findE n (l.map fun p => (p.1, f p.2)) = (lkI n l).map f
  | [] => rfl
  | p :: l => by
    simp only [List.map_cons, findE, lkI]
    split
    · rfl
    · exact find_map f n l
theorem find_kinds (op : Int) : findE op kindsE = (kindF op).map fun k => (true, [.int .i64 k.1, .int .i64 k.2]) := find_map (fun k : Int × Int => (true, [PV.int .i64 k.1, PV.int .i64 k.2])) op kindL
theorem find_eM (k : Int) (m : Shs) : findE k (eM m) = (lkI k m).map fun s => (false, [eI s]) := find_map (fun s : List Int => (false, [eI s])) k m
theorem put_eM (k : Int) (v : List Int) : ∀ (m : Shs), putM k (false, [eI v]) (eM m) = eM (putI k v m)
  | [] => rfl
  | p :: m => by
    simp only [eM, List.map_cons, putM, putI]
    split
    · rfl
    · rw [List.map_cons]; congr 1; exact put_eM k v m
theorem p_graph_kinds : PureC Tryz.prog fi_graph_kinds [] (.one (.map kindsE)) := by
  refine pure_graph_kinds (by simp) fun G hP hn => ?_
  refine go trivial trivial ?_
  exact ends_ret rfl rfl rfl rfl
theorem p_graph_Arity (op : Int) : PureC Tryz.prog fi_graph_Arity [dN op] (dN (arityF op)) := by
  refine pure_graph_Arity (by simp) fun G hP hn => ?_
  have kk := p_graph_kinds
  have hf := find_kinds op
  unfold arityF
  cases hk : kindF op with
  | none =>
    rw [hk, Option.map_none] at hf
    refine go hf kk ?_
    exact ends_ret rfl rfl rfl rfl
  | some k =>
    rw [hk, Option.map_some] at hf
    refine go hf kk ?_
    exact ends_ret rfl rfl rfl rfl
def ixF {α : Type} (h : α → Bool) : List α → Int → Int
  | [], _ => -1
  | x :: r, i => if h x = true then i else ixF h r (i + 1)
theorem ixF_any {α : Type} (h : α → Bool) : ∀ (l : List α) (i : Int), 0 ≤ i → decide (ixF h l i ≥ 0) = l.any h
  | [], i, _ => by simp [ixF]
  | x :: r, i, hi => by
    simp only [ixF, List.any_cons]
    split
    · rename_i h1; rw [h1]; simp [hi]
    · rename_i h1; rw [ixF_any h r (i + 1) (by omega)]; simp [h1]
theorem p_slices_IndexFunc {f : FuncId} {caps : List PV} (l : List Int) (h : Int → Bool) (hl : l.length ≤ MaxN) (hf : ∀ x ∈ l, PureC Tryz.prog f ([dN x] ++ caps.map .one) (dB (h x))) :
    PureC Tryz.prog fi_slices_IndexFunc_int_int [dI l, .one (.fn f [] caps)] (dN (ixF h l 0)) := by
  refine pure_slices_IndexFunc_int_int (by simp) fun G hP hn => ?_
  have hM : MaxN = 140737488355328 := rfl
  refine go trivial trivial ?_
  refine T_for l.length (fun i (_ : Unit) => { env := [(0, .one (.p (eI l))), (1, .one (.p (.fn f [] caps))), (7, .one (.p (.int .i64 l.length))), (8, .one (.p (.int .i64 i)))], σ := [] })
    (fun i _ => ixF h (l.drop i) i = ixF h l 0) () rfl (.refl _ _) fun i _ hi hinv => ?_
  by_cases hlt : i < l.length
  · have c1 : (i : Int) < l.length := by omega
    have w1 : IntKind.i64.wrap ((i : Int) + 1) = ((i + 1 : Nat) : Int) := by rw [wrap_in (by omega) (by omega)]; rfl
    have hx := List.getElem?_eq_getElem hlt
    have kf := hf l[i] (List.getElem_mem hlt)
    rw [List.drop_eq_getElem_cons hlt] at hinv
    simp only [ixF] at hinv
    generalize l[i] = y at *
    cases hy : h y
    · rw [hy, if_neg (by simp)] at hinv
      rw [hy] at kf
      refine go (aa c1 <| aa hlt <| aa hx w1) kf ?_
      exact rnd_next hlt () hinv (.refl _ _)
    · rw [hy, if_pos rfl] at hinv
      rw [hy] at kf
      rw [← hinv]
      refine go (aa c1 <| aa hlt hx) kf ?_
      exact ends_ret rfl rfl rfl rfl
  · have c1 : ¬ (i : Int) < l.length := by omega
    rw [List.drop_of_length_le (by omega)] at hinv
    rw [← hinv]
    refine go c1 trivial ?_
    exact ends_ret rfl rfl rfl rfl
theorem p_slices_ContainsFunc {f : FuncId} {caps : List PV} (l : List Int) (h : Int → Bool) (hl : l.length ≤ MaxN) (hf : ∀ x ∈ l, PureC Tryz.prog f ([dN x] ++ caps.map .one) (dB (h x))) :
    PureC Tryz.prog fi_slices_ContainsFunc_int_int [dI l, .one (.fn f [] caps)] (dB (l.any h)) := by
  refine pure_slices_ContainsFunc_int_int (by simp) fun G hP hn => ?_
  have k := p_slices_IndexFunc l h hl hf
  have e := ixF_any h l 0 (Int.le_refl _)
  rw [← e]
  generalize ixF h l 0 = x at *
  refine go trivial k ?_
  exact ends_ret rfl rfl rfl rfl
theorem p_slices_IndexFuncL {f : FuncId} {caps : List PV} (l : List (List Int)) (h : List Int → Bool) (hl : l.length ≤ MaxN) (hf : ∀ x ∈ l, PureC Tryz.prog f ([dI x] ++ caps.map .one) (dB (h x))) :
    PureC Tryz.prog fi_slices_IndexFunc_LL_int_int [dSS l, .one (.fn f [] caps)] (dN (ixF h l 0)) := by
  refine pure_slices_IndexFunc_LL_int_int (by simp) fun G hP hn => ?_
  have hM : MaxN = 140737488355328 := rfl
  refine go trivial trivial ?_
  refine T_for l.length (fun i (_ : Unit) => { env := [(0, .one (.p (.sl (rS l)))), (1, .one (.p (.fn f [] caps))), (7, .one (.p (.int .i64 l.length))), (8, .one (.p (.int .i64 i)))], σ := [] })
    (fun i _ => ixF h (l.drop i) i = ixF h l 0) () rfl (.refl _ _) fun i _ hi hinv => ?_
  by_cases hlt : i < l.length
  · have c1 : (i : Int) < l.length := by omega
    have w1 : IntKind.i64.wrap ((i : Int) + 1) = ((i + 1 : Nat) : Int) := by rw [wrap_in (by omega) (by omega)]; rfl
    have hx := List.getElem?_eq_getElem hlt
    have kf := hf l[i] (List.getElem_mem hlt)
    rw [List.drop_eq_getElem_cons hlt] at hinv
    simp only [ixF] at hinv
    generalize l[i] = y at *
    cases hy : h y
    · rw [hy, if_neg (by simp)] at hinv
      rw [hy] at kf
      refine go (aa c1 <| aa hlt <| aa hx w1) kf ?_
      exact rnd_next hlt () hinv (.refl _ _)
    · rw [hy, if_pos rfl] at hinv
      rw [hy] at kf
      rw [← hinv]
      refine go (aa c1 <| aa hlt hx) kf ?_
      exact ends_ret rfl rfl rfl rfl
  · have c1 : ¬ (i : Int) < l.length := by omega
    rw [List.drop_of_length_le (by omega)] at hinv
    rw [← hinv]
    refine go c1 trivial ?_
    exact ends_ret rfl rfl rfl rfl
theorem p_slices_ContainsFuncL {f : FuncId} {caps : List PV} (l : List (List Int)) (h : List Int → Bool) (hl : l.length ≤ MaxN) (hf : ∀ x ∈ l, PureC Tryz.prog f ([dI x] ++ caps.map .one) (dB (h x))) :
    PureC Tryz.prog fi_slices_ContainsFunc_LL_int_int [dSS l, .one (.fn f [] caps)] (dB (l.any h)) := by
  refine pure_slices_ContainsFunc_LL_int_int (by simp) fun G hP hn => ?_
  have k := p_slices_IndexFuncL l h hl hf
  have e := ixF_any h l 0 (Int.le_refl _)
  rw [← e]
  generalize ixF h l 0 = x at *
  refine go trivial k ?_
  exact ends_ret rfl rfl rfl rfl
theorem p_graph_Check_1 (a i : Int) : PureC Tryz.prog fi_graph_Check_1 [dN a, .one (.box [.int .i64 i])] (dB (!decide (0 ≤ a ∧ a < i))) := by
  refine pure_graph_Check_1 (by simp) fun G hP hn => ?_
  by_cases h1 : a < 0
  · have e : (!decide (0 ≤ a ∧ a < i)) = true := by simp; omega
    rw [e]
    refine go h1 trivial ?_
    exact ends_ret rfl rfl rfl rfl
  by_cases h2 : a ≥ i
  · have e : (!decide (0 ≤ a ∧ a < i)) = true := by simp; omega
    rw [e]
    refine go (aa h1 h2) trivial ?_
    exact ends_ret rfl rfl rfl rfl
  · have e : (!decide (0 ≤ a ∧ a < i)) = false := by simp; omega
    rw [e]
    refine go (aa h1 h2) trivial ?_
    exact ends_ret rfl rfl rfl rfl
theorem p_graph_name (n : Nd) (h : n.op = 2 → 0 < n.nums.length) : PureC Tryz.prog fi_graph_name [dNd n] (.tup [dN (nameF n).1, dB (nameF n).2]) := by
  refine pure_graph_name (by simp) fun G hP hn => ?_
  obtain ⟨op, args, nums⟩ := n
  by_cases h1 : op = 1
  · subst h1
    refine go trivial trivial ?_
    exact ends_ret rfl rfl rfl rfl
  by_cases h2 : op = 2
  · subst h2
    obtain ⟨p, r, rfl⟩ : ∃ p r, nums = p :: r := by
      cases nums with
      | nil => exact absurd (h rfl) (by simp)
      | cons p r => exact ⟨p, r, rfl⟩
    refine go trivial trivial ?_
    exact ends_ret rfl rfl rfl rfl
  have e1 : (op == 1) = false := by simp [h1]
  have e2 : (op == 2) = false := by simp [h2]
  have e : nameF ⟨op, args, nums⟩ = (0, false) := by unfold nameF; rw [if_neg h1, if_neg h2]
  rw [e]
  refine go (aa e1 e2) trivial ?_
  exact ends_ret rfl rfl rfl rfl
theorem p_graph_well (n : Nd) (a k : Int) : PureC Tryz.prog fi_graph_well [dNd n, .agg [.int .i64 a, .int .i64 k]] (dB (wellF n.nums k)) := by
  refine pure_graph_well (by simp) fun G hP hn => ?_
  obtain ⟨op, args, nums⟩ := n
  show T _ _ _ _ _ _
  by_cases h1 : k = -2
  · subst h1
    cases nums with
    | nil =>
      refine go trivial trivial ?_
      exact ends_ret rfl rfl rfl rfl
    | cons p r =>
      have e0 : (((p :: r).length : Int) == 0) = false := by simp; omega
      have e0' : (((r.length + 1 : Nat) : Int) == 0) = false := by simp; omega
      have e0'' : (((r.length : Int) + 1) == 0) = false := by simp; omega
      by_cases h2 : p < 0
      · have e : wellF (p :: r) (-2) = false := by unfold wellF; rw [if_pos rfl]; simp; omega
        rw [e]
        refine go (aa e0 <| aa e0' <| aa e0'' h2) trivial ?_
        exact ends_ret rfl rfl rfl rfl
      by_cases h3 : p ≥ 8
      · have e : wellF (p :: r) (-2) = false := by unfold wellF; rw [if_pos rfl]; simp; omega
        rw [e]
        refine go (aa e0 <| aa e0' <| aa e0'' <| aa h2 h3) trivial ?_
        exact ends_ret rfl rfl rfl rfl
      · have e : wellF (p :: r) (-2) = checkS r := by unfold wellF; rw [if_pos rfl]; simp; omega
        rw [e]
        have kc := p_shape_Check r
        have t1 : List.take (r.length + 1 - 1) (rI r) = rI r := List.take_of_length_le (by simp)
        have t2 : List.take r.length (rI r) = rI r := List.take_of_length_le (by simp)
        refine go (aa e0 <| aa e0' <| aa e0'' <| aa h2 <| aa h3 <| aa t1 <| aa t2 @all1) kc ?_
        exact ends_ret rfl rfl rfl rfl
  by_cases h2 : k = -1
  · subst h2
    have kc := p_shape_Check nums
    refine go trivial kc ?_
    exact ends_ret rfl rfl rfl rfl
  have e1 : (k == -2) = false := by simp [h1]
  have e2 : (k == -1) = false := by simp [h2]
  have e : wellF nums k = ((nums.length : Int) == k) := by unfold wellF; rw [if_neg h1, if_neg h2]
  rw [e]
  refine go (aa e1 e2) trivial ?_
  exact ends_ret rfl rfl rfl rfl
end Go.AM

namespace Go.AM
open Go Go.Proofs
set_option maxRecDepth 100000
set_option maxHeartbeats 4000000

theorem m_slices_Equal {s : List Int} (t : List Int) (hs : s.length ≤ 64) : MutC Tryz.prog fi_slices_Equal_int_int [.one (.msl 5 0 1 s.length none), .one (.p (eI t))] [(5, .arr true 1 (rI s))] (.one (.p (.bool (sameL s t)))) [(5, .arr true 1 (rI s))] [] := by
  refine mut_slices_Equal_int_int (by simp) fun G ex hP hn hfr => ?_
  by_cases hl : s.length = t.length
  rotate_left
  · have e : ((s.length : Int) != (t.length : Int)) = true := by simp; omega
    have hr : sameL s t = false := by unfold sameL; rw [if_pos e]
    rw [hr]
    refine go @e trivial ?_
    exact endsM_ret rfl rfl rfl (by simp [lo]) rfl
  have e : ((s.length : Int) != (t.length : Int)) = false := by simp [hl]
  have hr : sameL s t = eqL s t := by unfold sameL; rw [e]; rfl
  rw [hr]
  refine go @e trivial ?_
  refine T_for s.length (fun i (_ : Unit) => { env := [(0, .one (.msl 5 0 1 s.length none)), (1, .one (.p (eI t))), (12, .one (.p (.int .i64 s.length))), (13, .one (.p (.int .i64 i)))], σ := [(5, .arr true 1 (rI s))], ex := ex })
    (fun i _ => eqL (s.drop i) (t.drop i) = eqL s t) () rfl (.refl _ _) fun i _ hi hc => ?_
  by_cases hlt : i < s.length
  · have c1 : (i : Int) < s.length := by omega
    have w1 : IntKind.i64.wrap ((i : Int) + 1) = ((i + 1 : Nat) : Int) := by rw [wrap_in (by omega) (by omega)]; rfl
    have hlt2 : i < t.length := by omega
    have hx : s[i]? = some s[i] := List.getElem?_eq_getElem hlt
    have hy : t[i]? = some t[i] := List.getElem?_eq_getElem hlt2
    rw [List.drop_eq_getElem_cons hlt, List.drop_eq_getElem_cons hlt2] at hc
    simp only [eqL] at hc
    generalize s[i] = a at *
    generalize t[i] = b at *
    by_cases hab : a = b
    · have e2 : (a != b) = false := by simp [hab]
      have e3 : (!(a == b)) = false := e2
      rw [if_neg (by rw [e3]; simp)] at hc
      refine go (aa c1 <| aa w1 <| aa hx <| aa hy <| aa hlt <| aa hlt2 e2) trivial ?_
      exact rnd_next hlt () hc (.refl _ _)
    · have e2 : (a != b) = true := by simp [hab]
      have e3 : (!(a == b)) = true := e2
      rw [if_pos e3] at hc
      rw [← hc]
      refine go (aa c1 <| aa w1 <| aa hx <| aa hy <| aa hlt <| aa hlt2 e2) trivial ?_
      exact endsM_ret rfl rfl rfl (by simp [lo]) rfl
  · have c1 : ¬ (i : Int) < s.length := by omega
    rw [List.drop_of_length_le (by omega)] at hc
    rw [← hc]
    refine go c1 trivial ?_
    exact endsM_ret rfl rfl rfl (by simp [lo, eqL]) rfl
abbrev dSB (r : List Int × Bool) : DV := .tup [dI r.1, dB r.2]
theorem ends_listT {rv : List RV} {s : AS} {t k len : Nat} {cap : Option Nat} {rows : List (List PV)} {v : PV} {r : DV} (h1 : evRV rv s.env s.σ = some [.one (.msl t 0 k len cap), .one (.p v)]) (h2 : lo s.σ t = .arr true k rows) (hl : len ≤ rows.length)
    (hr : r = .tup [.one (.sl (rows.take len)), .one v]) : Ends rv r .ret s := by
  subst hr
  exact ends_ret (ds := [.one (.sl (rows.take len)), .one v]) (σ' := (t, .arr false k rows) :: s.σ) h1 (by
    have e1 := toD_take (n := 5) (cap := cap) h2 hl
    simp only [if_true] at e1
    simp only [toDs, toD, e1]; rfl) rfl rfl
theorem p_infer_given (s : List (List Int)) (nums : List Int) (hn : nums.length ≤ 64) : PureC Tryz.prog fi_infer_rules_1 [dSS s, dI nums] (dSB (nums, true)) := by
  refine pure_infer_rules_1 (by simp) fun G hP hn => ?_
  have kc := p_slices_Clone nums (by omega)
  refine go trivial kc ?_
  exact ends_ret rfl rfl rfl rfl
theorem p_infer_param (s : List (List Int)) (p : Int) (nums : List Int) (hn : nums.length ≤ 64) : PureC Tryz.prog fi_infer_rules_2 [dSS s, dI (p :: nums)] (dSB (nums, true)) := by
  refine pure_infer_rules_2 (by simp) fun G hP hn => ?_
  have kc := p_slices_Clone nums (by omega)
  have e1 : (1 : Int) ≤ ((nums.length + 1 : Nat) : Int) := by omega
  have t1 : List.take (nums.length + 1 - 1) (rI nums) = rI nums := List.take_of_length_le (by simp)
  have t2 : List.take nums.length (rI nums) = rI nums := List.take_of_length_le (by simp)
  refine go (aa e1 <| aa t1 <| aa t2 @all1) kc ?_
  exact ends_ret rfl rfl rfl rfl
theorem p_infer_number (s : List (List Int)) (nums : List Int) : PureC Tryz.prog fi_infer_rules_3 [dSS s, dI nums] (dSB ([], true)) := by
  refine pure_infer_rules_3 (by simp) fun G hP hn => ?_
  refine go trivial trivial ?_
  exact ends_ret rfl rfl rfl rfl
theorem p_infer_again (a : List Int) (s : List (List Int)) (nums : List Int) (hn : nums.length ≤ 64) : PureC Tryz.prog fi_infer_rules_4 [dSS (a :: s), dI nums] (dSB (nums, sizeS nums == sizeS a)) := by
  refine pure_infer_rules_4 (by simp) fun G hP hn => ?_
  have kc := p_slices_Clone nums (by omega)
  have k1 := p_shape_Size nums
  have k2 := p_shape_Size a
  refine go trivial (aa kc <| aa k1 k2) ?_
  exact ends_ret rfl rfl rfl rfl
theorem p_infer_turn (a : List Int) (s : List (List Int)) (nums : List Int) (ha : a.length ≤ 64) : PureC Tryz.prog fi_infer_rules_5 [dSS (a :: s), dI nums] (dSB (a.reverse, true)) := by
  refine pure_infer_rules_5 (by simp) fun G hP hn => ?_
  have hM : MaxN = 140737488355328 := rfl
  have kc := m_slices_Clone a (by omega)
  have kr := m_slices_Reverse 5 a (by omega)
  refine go trivial (aa kc kr) ?_
  exact ends_list2 rfl rfl (by simp)
theorem p_infer_first (a : List Int) (s : List (List Int)) (nums : List Int) (ha : a.length ≤ 64) : PureC Tryz.prog fi_infer_first [dSS (a :: s), dI nums] (dSB (a, true)) := by
  refine pure_infer_first (by simp) fun G hP hn => ?_
  have kc := p_slices_Clone a (by omega)
  refine go trivial kc ?_
  exact ends_ret rfl rfl rfl rfl
theorem p_infer_both (a b : List Int) (s : List (List Int)) (nums : List Int) : PureC Tryz.prog fi_infer_both [dSS (a :: b :: s), dI nums] (dSB ((joinSF a b).1, (joinSF a b).2 == 0)) := by
  refine pure_infer_both (by simp) fun G hP hn => ?_
  have kj := p_shape_Join a b
  generalize joinSF a b = r at *
  refine go trivial kj ?_
  exact ends_ret rfl rfl rfl rfl
theorem p_infer_product (a b : List Int) (s : List (List Int)) (nums : List Int) (ha : a.length ≤ 64) (hb : b.length ≤ 64) : PureC Tryz.prog fi_infer_rules_6 [dSS (a :: b :: s), dI nums] (dSB (productF a b)) := by
  refine pure_infer_rules_6 (by simp) fun G hP hn => ?_
  by_cases h1 : a.length = 2
  rotate_left
  · have e1 : ((a.length : Int) != 2) = true := by simp; omega
    have e : productF a b = ([], false) := by
      unfold productF
      split
      · exact absurd rfl h1
      · rfl
    rw [e]
    refine go e1 trivial ?_
    exact ends_ret rfl rfl rfl rfl
  obtain ⟨m, n, rfl⟩ : ∃ m n, a = [m, n] := match a, h1 with | [m, n], _ => ⟨m, n, rfl⟩
  by_cases h2 : b.length = 2
  rotate_left
  · have e1 : ((b.length : Int) != 2) = true := by simp; omega
    have e : productF [m, n] b = ([], false) := match b, h2 with
      | [], _ => rfl
      | [_], _ => rfl
      | [_, _], h => absurd rfl h
      | _ :: _ :: _ :: _, _ => rfl
    rw [e]
    refine go e1 trivial ?_
    exact ends_ret rfl rfl rfl rfl
  obtain ⟨k, p, rfl⟩ : ∃ k p, b = [k, p] := match b, h2 with | [k, p], _ => ⟨k, p, rfl⟩
  by_cases h3 : n = k
  · subst h3
    have e : productF [m, n] [n, p] = ([m, p], checkS [m, p]) := if_pos rfl
    have e1 : (n != n) = false := by simp
    rw [e]
    have kc := p_shape_Check [m, p]
    refine go e1 kc ?_
    exact ends_ret rfl rfl rfl rfl
  · have e : productF [m, n] [k, p] = ([], false) := if_neg h3
    have e1 : (n != k) = true := by simp [h3]
    rw [e]
    refine go e1 trivial ?_
    exact ends_ret rfl rfl rfl rfl
theorem p_infer_together (a : List Int) (s : List (List Int)) (n : Nat) (nums : List Int) (ha : a.length ≤ 64) (h : n < a.length) : PureC Tryz.prog fi_infer_together [dSS (a :: s), dN n, dI nums] (dSB (a.eraseIdx n, true)) := by
  refine pure_infer_together (by simp) fun G hP hn => ?_
  have kc := m_slices_Clone a (by omega)
  have kd := m_slices_Delete h ha
  have w1 : IntKind.i64.wrap ((n : Int) + 1) = ((n + 1 : Nat) : Int) := by rw [wrap_in (by omega) (by omega)]; rfl
  refine go w1 (aa kc kd) ?_
  refine ends_listT rfl rfl (by simp [List.length_eraseIdx, h]) ?_
  rw [← List.map_take, List.take_left' (by rw [List.length_eraseIdx, if_pos h])]
theorem p_infer_part (a : List Int) (s : List (List Int)) (n : Nat) (f t : Int) (ha : a.length ≤ 64) (h : n < a.length) : PureC Tryz.prog fi_infer_part [dSS (a :: s), dN n, dI [f, t]] (dSB (partF a n [f, t])) := by
  refine pure_infer_part (by simp) fun G hP hn => ?_
  have kc := m_slices_Clone a (by omega)
  have hx : a[n]? = some a[n] := List.getElem?_eq_getElem h
  have hv : hd a n = a[n] := by unfold hd; rw [hx]; rfl
  have e0 : hd [f, t] 0 = f := rfl
  have e1 : hd [f, t] 1 = t := rfl
  unfold partF
  rw [e0, e1, hv]
  generalize a[n] = v at *
  by_cases h1 : f < 0
  · rw [if_pos (.inl h1)]
    refine go h1 trivial ?_
    exact ends_ret rfl rfl rfl rfl
  by_cases h2 : f ≥ t
  · rw [if_pos (.inr (.inl h2))]
    refine go (aa h1 h2) trivial ?_
    exact ends_ret rfl rfl rfl rfl
  by_cases h3 : t > v
  · rw [if_pos (.inr (.inr h3))]
    refine go (aa h1 <| aa h2 <| aa h3 <| aa hx h) trivial ?_
    exact ends_ret rfl rfl rfl rfl
  · rw [if_neg (by omega)]
    refine go (aa h1 <| aa h2 <| aa h3 <| aa hx <| aa h @rI_set) kc ?_
    exact ends_list2 rfl rfl (by simp)
theorem p_infer_behind (a b : List Int) (s : List (List Int)) (n : Nat) (nums : List Int) (ha : a.length ≤ 64) (h : n < a.length) : PureC Tryz.prog fi_infer_behind [dSS (a :: b :: s), dN n, dI nums] (dSB (behindF a b n)) := by
  refine pure_infer_behind (by simp) fun G hP hn => ?_
  have kc : MutC Tryz.prog fi_slices_Clone_int_int [.one (.p (eI a))] [] (.one (.msl 5 0 1 a.length none)) [(5, .arr true 1 (rI a))] [5] := m_slices_Clone a (by omega)
  refine go trivial trivial ?_
  apply T_drN fw (by rw [hP]; rfl)
  · simp only [go_sem, seval, reduceIte, ↓reduceIte, bne, beq_false, beq_true, Bool.not_eq_true, Bool.if_true_right, decide_not, reduceCtorEq, hP, hn]
    refine .inr ⟨_, _, _, ⟨_, _, _, _, rfl, rfl, kc⟩, ?_⟩
    exact rfl
  by_cases h1 : a.length = b.length
  rotate_left
  · have e1 : ((a.length : Int) != (b.length : Int)) = true := by simp; omega
    have e : behindF a b n = ([], false) := by unfold behindF; rw [if_neg (fun h => h1 h.1)]
    rw [e]
    refine go e1 trivial ?_
    exact ends_ret rfl rfl rfl rfl
  have e1 : ((a.length : Int) != (b.length : Int)) = false := by simp [h1]
  have h2 : n < b.length := by omega
  have hx : a[n]? = some a[n] := List.getElem?_eq_getElem h
  have hy : b[n]? = some b[n] := List.getElem?_eq_getElem h2
  have hvx : hd a n = a[n] := by unfold hd; rw [hx]; rfl
  have hvy : hd b n = b[n] := by unfold hd; rw [hy]; rfl
  have ke := m_slices_Equal (s := a.set n b[n]) b (by rw [List.length_set]; omega)
  rw [List.length_set] at ke
  have hz : (a.set n b[n])[n]? = some b[n] := by rw [List.getElem?_set_self h]
  have hzl : (a.set n b[n]).length = a.length := List.length_set
  have hset : ∀ z, (a.set n b[n]).set n z = a.set n z := fun z => List.set_set ..
  unfold behindF
  rw [hvx, hvy]
  generalize hA : a.set n b[n] = A at *
  generalize a[n] = x at *
  generalize b[n] = y at *
  cases hsm : sameL A b
  · rw [hsm] at ke
    rw [if_neg (fun h => by simp at h)]
    refine go (aa e1 <| aa hx <| aa hy <| aa h <| aa h2 <| aa @rI_set hA) ke ?_
    exact ends_ret rfl rfl rfl rfl
  · rw [hsm] at ke
    rw [if_pos ⟨h1, rfl⟩]
    have wc : IntKind.i64.wrap (y + x) = w64 (x + y) := by rw [Int.add_comm]
    have kch := p_shape_Check (a.set n (w64 (x + y)))
    have hl3 : (a.set n (w64 (x + y))).length = a.length := List.length_set
    generalize hB : a.set n (w64 (x + y)) = B at *
    have hset' : A.set n (w64 (x + y)) = B := by rw [← hB]; exact hset _
    refine go (aa e1 <| aa hx <| aa hy <| aa h <| aa h2 <| aa @rI_set <| aa hA <| aa hz <| aa hzl <| aa @wc @hset') ke ?_
    refine T_weak (Weak.freeze (i := 8) rfl (toD_list (n := 5) rfl (by simp [hl3]))) ?_
    simp only [lo, Nat.reduceEqDiff, if_true, if_false, if_pos]
    refine go trivial kch ?_
    exact ends_ret rfl rfl rfl rfl
end Go.AM

