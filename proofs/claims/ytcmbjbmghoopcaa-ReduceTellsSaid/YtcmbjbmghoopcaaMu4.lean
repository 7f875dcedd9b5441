import Derived.Test.YtcmbjbmghoopcaaMu3
import Derived.ProofKit
import Derived.HandedShaped
import Derived.ChangeArms
import Derived.DataReads
import Derived.Test.YtcmbjbmghoopcaaRows
set_option linter.unusedVariables false
set_option linter.unusedSimpArgs false
namespace Go.AM
open Go Go.Proofs
set_option maxRecDepth 100000
set_option maxHeartbeats 4000000

theorem parts_bit {A T H L P R bit H' L' : Nat} (h1 : A = T * 340282366920938463463374607431768211456 + (H * 18446744073709551616 + L)) (h2 : T = P + R)
    (hb : bit = H / 9223372036854775808) (hH' : H' = H * 2 % 18446744073709551616 + L / 9223372036854775808) (hL' : L' = L * 2 % 18446744073709551616) (hH : H < 18446744073709551616) (hL : L < 18446744073709551616) :
    2 * A = (2 * P + (2 * R + bit)) * 340282366920938463463374607431768211456 + (H' * 18446744073709551616 + L') ∧ H' < 18446744073709551616 ∧ L' < 18446744073709551616 ∧ bit ≤ 1 := by
  omega
theorem parts_q {QH QL : Nat} {QH' QL' : Nat} (h1 : QH' = QH * 2 % 18446744073709551616 + QL / 9223372036854775808) (h2 : QL' = QL * 2 % 18446744073709551616) (hQ : QH < 9223372036854775808) (hL : QL < 18446744073709551616) :
    QH' * 18446744073709551616 + QL' = 2 * (QH * 18446744073709551616 + QL) ∧ QL' + 1 < 18446744073709551616 := by
  omega
theorem mul2 (a : Nat) : IntKind.u64.wrap ((a : Int) * 2) = ((a * 2 % 18446744073709551616 : Nat) : Int) := by rw [u64_eq]; omega
theorem half63 (a : Nat) (h : a < 18446744073709551616) : IntKind.u64.wrap ((a : Int).tdiv 9223372036854775808) = ((a / 9223372036854775808 : Nat) : Int) := by
  rw [Int.tdiv_eq_ediv_of_nonneg (by omega), u64_eq]; omega
theorem add2 (a b : Nat) (h : b ≤ 1) : IntKind.u64.wrap (((a * 2 % 18446744073709551616 : Nat) : Int) + (b : Int)) = ((a * 2 % 18446744073709551616 + b : Nat) : Int) := by rw [u64_eq]; omega
theorem rest_over {R bit y : Nat} (hR : R < y) (hy : y < 18446744073709551616) (hb : bit ≤ 1) :
    (9223372036854775808 ≤ R → y ≤ 2 * R + bit ∧ IntKind.u64.wrap (((R * 2 % 18446744073709551616 + bit : Nat) : Int) - (y : Int)) = ((2 * R + bit - y : Nat) : Int)) ∧
    (¬ 9223372036854775808 ≤ R → R * 2 % 18446744073709551616 + bit = 2 * R + bit ∧ (y ≤ 2 * R + bit → IntKind.u64.wrap (((2 * R + bit : Nat) : Int) - (y : Int)) = ((2 * R + bit - y : Nat) : Int))) := by
  refine ⟨fun h => ⟨by omega, ?_⟩, fun h => ⟨by omega, fun h2 => ?_⟩⟩
  · rw [u64_eq]; omega
  · rw [u64_eq]; omega
structure PInv (N y j H L QH QL R : Nat) : Prop where
  eq : N * 2 ^ j = ((QH * 18446744073709551616 + QL) * y + R) * 340282366920938463463374607431768211456 + (H * 18446744073709551616 + L)
  hH : H < 18446744073709551616
  hL : L < 18446744073709551616
  hQL : QL < 18446744073709551616
  hR : R < y
theorem PInv.qh {N y j H L QH QL R : Nat} (h : PInv N y j H L QH QL R) (hN : N < 340282366920938463463374607431768211456) (hj : j < 128) (hy : 0 < y) : QH < 9223372036854775808 := by
  have h1 := h.eq
  have hp : 2 ^ j ≤ 170141183460469231731687303715884105728 := by
    have := Nat.pow_le_pow_right (show 0 < 2 by decide) (show j ≤ 127 by omega)
    exact this
  have h2 : N * 2 ^ j < 340282366920938463463374607431768211456 * 170141183460469231731687303715884105728 := by
    refine Nat.lt_of_lt_of_le (Nat.mul_lt_mul_of_pos_right hN (Nat.two_pow_pos j)) (Nat.mul_le_mul_left _ hp)
  have h3 : ((QH * 18446744073709551616 + QL) * y + R) * 340282366920938463463374607431768211456 < 340282366920938463463374607431768211456 * 170141183460469231731687303715884105728 := by
    refine Nat.lt_of_le_of_lt ?_ h2
    rw [h1]; exact Nat.le_add_right _ _
  have h4 : (QH * 18446744073709551616 + QL) * y + R < 170141183460469231731687303715884105728 := by
    rw [Nat.mul_comm] at h3
    exact Nat.lt_of_mul_lt_mul_left h3
  have h5 : (QH * 18446744073709551616 + QL) * 1 ≤ (QH * 18446744073709551616 + QL) * y := Nat.mul_le_mul_left _ hy
  have h6 : QH * 18446744073709551616 < 170141183460469231731687303715884105728 := by
    refine Nat.lt_of_le_of_lt ?_ h4
    refine Nat.le_trans ?_ (Nat.le_add_right _ _)
    refine Nat.le_trans ?_ h5
    rw [Nat.mul_one]; exact Nat.le_add_right _ _
  exact Nat.lt_of_mul_lt_mul_right (show QH * 18446744073709551616 < 9223372036854775808 * 18446744073709551616 from h6)
theorem PInv.next {N y j H L QH QL R : Nat} (h : PInv N y j H L QH QL R) {bit H' L' QH' QL' : Nat} (hb : bit = H / 9223372036854775808) (hH' : H' = H * 2 % 18446744073709551616 + L / 9223372036854775808) (hL' : L' = L * 2 % 18446744073709551616)
    (hQ' : QH' = QH * 2 % 18446744073709551616 + QL / 9223372036854775808) (hQL' : QL' = QL * 2 % 18446744073709551616) (hqh : QH < 9223372036854775808) :
    (y ≤ 2 * R + bit → PInv N y (j + 1) H' L' QH' (QL' + 1) (2 * R + bit - y)) ∧ (¬ y ≤ 2 * R + bit → PInv N y (j + 1) H' L' QH' QL' (2 * R + bit)) := by
  obtain ⟨a1, a2, a3, a4⟩ := parts_bit h.eq rfl hb hH' hL' h.hH h.hL
  obtain ⟨b1, b2⟩ := parts_q hQ' hQL' hqh h.hQL
  have hR := h.hR
  have e : N * 2 ^ (j + 1) = 2 * (N * 2 ^ j) := by rw [Nat.pow_succ, ← Nat.mul_assoc, Nat.mul_comm]
  have e2 : (QH' * 18446744073709551616 + QL') * y = 2 * ((QH * 18446744073709551616 + QL) * y) := by rw [b1, Nat.mul_assoc]
  refine ⟨fun hy => ⟨?_, a2, a3, b2, by omega⟩, fun hy => ⟨?_, a2, a3, by omega, by omega⟩⟩
  · rw [e, a1, ← Nat.add_assoc (QH' * 18446744073709551616), Nat.add_mul _ 1 y, Nat.one_mul, e2]
    have : 2 * ((QH * 18446744073709551616 + QL) * y) + y + (2 * R + bit - y) = 2 * ((QH * 18446744073709551616 + QL) * y) + (2 * R + bit) := by omega
    rw [this]
  · rw [e, a1, e2]
theorem same_top {M N T r : Nat} (h : N * M = T * M + r) (hr : r < M) : N = T := by
  have hM : 0 < M := by omega
  have h1 : N = (T * M + r) / M := by rw [← h, Nat.mul_div_cancel _ hM]
  rw [h1, Nat.mul_comm, Nat.mul_add_div hM, Nat.div_eq_of_lt hr]; rfl
theorem low_128 {H L : Nat} (h : H < 18446744073709551616) (h2 : L < 18446744073709551616) : H * 18446744073709551616 + L < 340282366920938463463374607431768211456 := by omega
theorem PInv.done {N y H L QH QL R : Nat} (h : PInv N y 128 H L QH QL R) (hy : 0 < y) : N / y / 18446744073709551616 = QH ∧ N / y % 18446744073709551616 = QL ∧ N % y = R := by
  have h1 := h.eq
  have h2 : (2 : Nat) ^ 128 = 340282366920938463463374607431768211456 := rfl
  rw [h2] at h1
  have hlt : H * 18446744073709551616 + L < 340282366920938463463374607431768211456 := low_128 h.hH h.hL
  have h3 : N = (QH * 18446744073709551616 + QL) * y + R := same_top h1 hlt
  have h4 : N / y = QH * 18446744073709551616 + QL := by
    rw [h3, Nat.mul_comm _ y, Nat.mul_add_div hy, Nat.div_eq_of_lt h.hR, Nat.add_zero]
  have h5 : N % y = R := by
    rw [h3, Nat.mul_comm _ y, Nat.mul_add_mod, Nat.mod_eq_of_lt h.hR]
  have := h.hQL
  rw [h4, h5]
  exact ⟨by omega, by omega, rfl⟩
theorem p_ref01_Parts {hi lo y : Nat} (hh : hi < 18446744073709551616) (hl : lo < 18446744073709551616) (hy : y < 18446744073709551616) (h0 : 0 < y) {N : Nat} (hN : N = hi * 18446744073709551616 + lo) :
    PureC Try.prog fi_fullerref01_Parts [dU hi, dU lo, dU y] (.tup [dU (N / y / 18446744073709551616), dU (N / y % 18446744073709551616), dU (N % y)]) := by
  refine pure_fullerref01_Parts (by simp) fun G hP hn => ?_
  unfold a_fullerref01_Parts
  have hN2 : N < 340282366920938463463374607431768211456 := by omega
  refine go trivial trivial ?_
  refine T_for 128 (fun _ (a : Int × Nat × Nat × Nat × Nat × Nat) => { env := [(0, .one (.p (.int .u64 a.2.1))), (1, .one (.p (.int .u64 a.2.2.1))), (2, .one (.p (.int .u64 y))), (9, .one (.p (.int .u64 a.2.2.2.1))), (10, .one (.p (.int .u64 a.2.2.2.2.1))), (11, .one (.p (.int .u64 a.2.2.2.2.2))), (12, .one (.p (.int .i64 a.1)))], σ := [] })
    (fun j a => a.1 = 127 - (j : Int) ∧ PInv N y j a.2.1 a.2.2.1 a.2.2.2.2.1 a.2.2.2.2.2 a.2.2.2.1) (127, hi, lo, 0, 0, 0) ⟨rfl, ⟨by rw [hN]; simp, hh, hl, (by show (0 : Nat) < 18446744073709551616; decide), h0⟩⟩ (.refl _ _) fun j a hj ha => ?_
  obtain ⟨i, H, L, R, QH, QL⟩ := a
  obtain ⟨ha, hinv⟩ := ha
  simp only at ha hinv
  by_cases hlt : j < 128
  · have hqh := hinv.qh hN2 hlt h0
    have hR := hinv.hR
    have c0 : i ≥ 0 := by omega
    have wi : IntKind.i64.wrap (i - 1) = i - 1 := wrap_in (by omega) (by omega)
    obtain ⟨bit, hb⟩ : ∃ bit, bit = H / 9223372036854775808 := ⟨_, rfl⟩
    obtain ⟨H', hH'⟩ : ∃ H', H' = H * 2 % 18446744073709551616 + L / 9223372036854775808 := ⟨_, rfl⟩
    obtain ⟨L', hL'⟩ : ∃ L', L' = L * 2 % 18446744073709551616 := ⟨_, rfl⟩
    obtain ⟨QH', hQH'⟩ : ∃ QH', QH' = QH * 2 % 18446744073709551616 + QL / 9223372036854775808 := ⟨_, rfl⟩
    obtain ⟨QL', hQL'⟩ : ∃ QL', QL' = QL * 2 % 18446744073709551616 := ⟨_, rfl⟩
    obtain ⟨nx1, nx2⟩ := hinv.next hb hH' hL' hQH' hQL' hqh
    have hbit : bit ≤ 1 := by have := hinv.hH; omega
    have w1 := half63 H hinv.hH
    rw [← hb] at w1
    have w2 := mul2 H
    have w3 := half63 L hinv.hL
    have w4 := add2 H (L / 9223372036854775808) (by have := hinv.hL; omega)
    rw [← hH'] at w4
    have w5 := mul2 L
    rw [← hL'] at w5
    have w6 := mul2 R
    have w7 := add2 R bit hbit
    have w8 := mul2 QH
    have w9 := half63 QL hinv.hQL
    have w10 := add2 QH (QL / 9223372036854775808) (by have := hinv.hQL; omega)
    rw [← hQH'] at w10
    have w11 := mul2 QL
    rw [← hQL'] at w11
    have w12 : IntKind.u64.wrap ((QL' : Int) + 1) = ((QL' + 1 : Nat) : Int) := by
      rw [u64_eq]; have : QL' < 18446744073709551616 := by rw [hQL']; exact Nat.mod_lt _ (by decide)
      have : QL' % 2 = 0 := by omega
      omega
    obtain ⟨ro1, ro2⟩ := rest_over hR hy hbit
    by_cases b1 : 9223372036854775808 ≤ R
    · obtain ⟨g1, g2⟩ := ro1 b1
      have b1' : (R : Int) ≥ 9223372036854775808 := by omega
      refine go (aa c0 <| aa @wi <| aa w1 <| aa w2 <| aa w3 <| aa w4 <| aa w5 <| aa w6 <| aa w7 <| aa w8 <| aa w9 <| aa w10 <| aa w11 <| aa w12 <| aa b1' g2) trivial ?_
      exact rnd_next hlt (i - 1, H', L', 2 * R + bit - y, QH', QL' + 1) ⟨by show i - 1 = _; omega, nx1 g1⟩ (.refl _ _)
    · obtain ⟨g1, g2⟩ := ro2 b1
      have b1' : ¬ (R : Int) ≥ 9223372036854775808 := by omega
      rw [g1] at w7
      by_cases b2 : y ≤ 2 * R + bit
      · have g2 := g2 b2
        have b2' : ((2 * R + bit : Nat) : Int) ≥ (y : Int) := by omega
        refine go (aa c0 <| aa @wi <| aa w1 <| aa w2 <| aa w3 <| aa w4 <| aa w5 <| aa w6 <| aa w7 <| aa w8 <| aa w9 <| aa w10 <| aa w11 <| aa w12 <| aa b1' <| aa b2' g2) trivial ?_
        exact rnd_next hlt (i - 1, H', L', 2 * R + bit - y, QH', QL' + 1) ⟨by show i - 1 = _; omega, nx1 b2⟩ (.refl _ _)
      · have b2' : ¬ ((2 * R + bit : Nat) : Int) ≥ (y : Int) := by omega
        refine go (aa c0 <| aa @wi <| aa w1 <| aa w2 <| aa w3 <| aa w4 <| aa w5 <| aa w6 <| aa w7 <| aa w8 <| aa w9 <| aa w10 <| aa w11 <| aa b1' b2') trivial ?_
        exact rnd_next hlt (i - 1, H', L', 2 * R + bit, QH', QL') ⟨by show i - 1 = _; omega, nx2 b2⟩ (.refl _ _)
  · have hje : j = 128 := by omega
    subst hje
    have c0 : ¬ i ≥ 0 := by omega
    obtain ⟨d1, d2, d3⟩ := hinv.done h0
    rw [d1, d2, d3]
    refine go c0 trivial ?_
    exact ends_ret rfl rfl rfl rfl
end Go.AM

namespace Go.AM
open Go Go.Proofs
set_option maxRecDepth 100000
set_option maxHeartbeats 4000000

theorem ref_plan {A B : Nat} (hB : 0 < B) (hA : A ≤ 9223372036854775808) (hB2 : B ≤ 9223372036854775808) : ∃ hi lo q1 q0 rs : Nat, IntKind.u64.wrap ((A : Int).tdiv 4294967296) = (hi : Int) ∧ IntKind.u64.wrap ((A : Int).tmod 4294967296 * 4294967296) = (lo : Int) ∧ (A : Int).tmod 4294967296 = ((A % 4294967296 : Nat) : Int) ∧ IntKind.u64.wrap (((A % 4294967296 : Nat) : Int) * 4294967296) = (lo : Int) ∧
    PureC Try.prog fi_fullerref01_Parts [dU hi, dU lo, dU B] (.tup [dU q1, dU q0, dU rs]) ∧ q0 < 18446744073709551616 ∧ q1 < 18446744073709551615 ∧ q1 * 18446744073709551616 + q0 = A * 4294967296 / B ∧ rs = A * 4294967296 % B := by
  have e1 : (A : Int).tdiv 4294967296 = ((A / 4294967296 : Nat) : Int) := by rw [Int.tdiv_eq_ediv_of_nonneg (by omega)]; omega
  have e2 : (A : Int).tmod 4294967296 = ((A % 4294967296 : Nat) : Int) := by rw [Int.tmod_eq_emod_of_nonneg (by omega)]; omega
  have e3 : IntKind.u64.wrap (((A % 4294967296 : Nat) : Int) * 4294967296) = ((A % 4294967296 * 4294967296 : Nat) : Int) := by
    rw [show ((A % 4294967296 : Nat) : Int) * 4294967296 = ((A % 4294967296 * 4294967296 : Nat) : Int) from by omega]; exact u64_nat (by omega)
  have hN : A * 4294967296 = A / 4294967296 * 18446744073709551616 + A % 4294967296 * 4294967296 := by omega
  have k := p_ref01_Parts (hi := A / 4294967296) (lo := A % 4294967296 * 4294967296) (y := B) (by omega) (by omega) (by omega) hB hN
  have hq : A * 4294967296 / B ≤ A * 4294967296 := Nat.div_le_self _ _
  refine ⟨_, _, _, _, _, ?_, ?_, e2, e3, k, Nat.mod_lt _ (by decide), ?_, ?_, rfl⟩
  · rw [e1]; exact u64_nat (by omega)
  · rw [e2]; exact e3
  · have : A * 4294967296 / B / 18446744073709551616 ≤ A * 4294967296 / 18446744073709551616 := Nat.div_le_div_right hq
    omega
  · have := Nat.div_add_mod (A * 4294967296 / B) 18446744073709551616
    rw [Nat.mul_comm] at this; exact this
theorem apart_alt {a b : Int} (hb : b ≠ 0) : ((decide (a < 0) != decide (b < 0)) && (a != 0)) = apart a b := by
  unfold apart
  by_cases h1 : a < 0 <;> by_cases h2 : b < 0 <;> by_cases h3 : a = 0 <;> simp [h1, h2, h3, hb] <;> omega
theorem p_ref01_Div {a b : Int} (ha : I64 a) (hb : I64 b) : PureC Try.prog fi_fullerref01_Div [dN a, dN b] (dNE (fDiv a b)) := by
  refine pure_fullerref01_Div (by simp) fun G hP hn => ?_
  unfold a_fullerref01_Div
  by_cases hb0 : b = 0
  · subst hb0
    refine go trivial trivial ?_
    exact ends_ret rfl rfl rfl rfl
  have c1 : (b == 0) = false := by simpa using hb0
  have la := abs_lt ha
  have lb := abs_lt hb
  have hB : 0 < b.natAbs := by omega
  have ka := p_ref01_size ha
  have kb := p_ref01_size hb
  have hap := apart_alt (a := a) hb0
  have hf : fDiv a b = rng (sgn (a.natAbs * 4294967296 / b.natAbs) (decide (a.natAbs * 4294967296 % b.natAbs ≠ 0)) (apart a b)) := if_neg hb0
  generalize a.natAbs = A at *
  generalize b.natAbs = B at *
  obtain ⟨hi, lo, q1, q0, rs, e1, e2, e3, e4, kd, e5, e6, e7, e8⟩ := ref_plan hB la lb
  rw [← e7, ← e8] at hf
  have e9 : decide (rs ≠ 0) = decide ((rs : Int) > 0) := by rw [decide_eq_decide]; omega
  rw [e9] at hf
  have ks := p_ref01_signed e5 e6 (decide ((rs : Int) > 0)) (apart a b)
  rw [← hf] at ks
  by_cases h1 : a < 0 <;> by_cases h2 : b < 0 <;> cases h3 : (a != 0)
  all_goals
    simp [h1, h2, h3] at hap
    first | rw [hap] at ks | rw [← hap] at ks
    refine go (aa c1 <| aa h1 <| aa h2 <| aa h3 <| aa e1 <| aa e2 <| aa e3 e4) (aa ka <| aa kb <| aa kd ks) ?_
    exact ends_ret rfl rfl rfl rfl
end Go.AM

namespace Go.AM
open Go Go.Proofs
set_option maxRecDepth 100000
set_option maxHeartbeats 4000000

theorem side_cases (s d : List Int) (a : Int) (e : Int) (h : sideF s d a = e) (he : e ≠ 0) (W E : Int → Int → Int × Int) (F : Int → Int) : togetherF W E F s d a = bad e := by
  unfold sideF at h
  unfold togetherF
  split at h
  · rename_i hc
    rw [if_pos hc]
    split at h
    · rename_i ha
      rw [if_pos ha, h]
    · exact absurd h.symm he
  · rename_i hc
    rw [if_neg hc, h]
theorem side_ok {s d : List Int} {a : Int} (h : sideF s d a = 0) : ∃ n A S B : Nat, a = (n : Int) ∧ Lanes s d n A S B := by
  unfold sideF at h
  split at h
  · rename_i hc
    split at h
    · cases h
    · rename_i ha
      obtain ⟨n, rfl⟩ := Int.eq_ofNat_of_zero_le (by omega : 0 ≤ a)
      obtain ⟨A, S, B, L⟩ := Lanes.of (n := n) hc (by omega)
      exact ⟨n, A, S, B, rfl, L⟩
  · cases h
theorem Lanes.tog {s d : List Int} {n A S B : Nat} (L : Lanes s d n A S B) (W E : Int → Int → Int × Int) (F : Int → Int) :
    togetherF W E F s d n = if (coll (laneR W E F S B d) (A * B) 0 []).2 = 0 then ((s.eraseIdx n, (coll (laneR W E F S B d) (A * B) 0 []).1), 0) else bad (coll (laneR W E F S B d) (A * B) 0 []).2 := by
  have ha : ¬ ((n : Int) < 0 ∨ (n : Int) ≥ s.length) := by have := L.hn; omega
  unfold togetherF
  rw [if_pos L.hc, if_neg ha]
  simp only [Int.toNat_natCast, L.hA, L.hB, L.hS, Option.getD_some]
theorem p_ref06_Sum (s d : List Int) (a : Int) (hd : I64s d) : PureC Try.prog fi_fullerref06_Sum [dT s d, dN a] (dTE (sumS s d a)) := by
  refine pure_fullerref06_Sum (by simp) fun G hP hn => ?_
  have ksd := p_ref06_side s d a
  by_cases he : sideF s d a = 0
  rotate_left
  · have hf : sumS s d a = bad (sideF s d a) := side_cases s d a _ rfl he _ _ _
    rw [hf]
    have e1 : (sideF s d a != 0) = true := by simp [he]
    generalize sideF s d a = e at *
    refine go e1 ksd ?_
    exact ends_ret rfl rfl rfl rfl
  rw [he] at ksd
  obtain ⟨n, A, S, B, rfl, L⟩ := side_ok he
  have hs := check_len (checkS_iff.2 (checkT_iff.1 L.hc).1)
  have kw := p_ref06_without (l := s) L.hn (by omega)
  obtain ⟨hz, ho⟩ := L.size
  have kz := p_ref02_Size (s.eraseIdx n)
  rw [hz] at kz
  have htog : sumS s d n = _ := L.tog _ _ _
  have fin2 : ∀ er : Int, coll (laneR fAdd (fun n _ => (n, 0)) (fun _ => 0) S B d) (A * B) 0 [] = ([], er) → er ≠ 0 → sumS s d n = bad er := fun er h1 h2 => by rw [htog, h1]; exact if_neg h2
  have hAB := L.AB
  have kn := fun (p : Nat) (hp : p < A * B) => p_ref06_numbers L hp
  have hb1 := L.b1
  have hs1 := L.s1
  have hs2 := L.s2
  refine go trivial (aa ksd kw) ?_
  refine T_weak (Weak.nilC 7 100 1 1 rfl rfl rfl rfl) ?_
  refine T_for (A * B) (fun p acc => { env := [(1, .one (.p (.int .i64 n))), (2, .one (.ptr 2 0 2 0)), (4, .one (.ptr 4 0 2 0)), (7, .one (.ptr 7 0 2 0)), (8, .one (.p (.int .i64 p)))], σ := [(2, .cells true [.p (eI s), .p (eI d)]), (4, .cells true [.nils, .nils]), (7, .cells true [.p (eI (s.eraseIdx n)), .msl 100 0 1 p none]), (100, .arr true 1 (rI acc))] })
    (fun p acc => acc.length = p ∧ coll (laneR fAdd (fun n _ => (n, 0)) (fun _ => 0) S B d) (A * B - p) p acc = coll (laneR fAdd (fun n _ => (n, 0)) (fun _ => 0) S B d) (A * B) 0 []) [] ⟨rfl, rfl⟩ ?_ fun p acc hp hinv => ?_
  · refine Weak.sub fun q hq => ?_
    simp only [List.mem_cons, List.not_mem_nil, or_false] at hq
    rcases hq with rfl | rfl | rfl | rfl <;> rfl
  obtain ⟨hal, hcol⟩ := hinv
  by_cases hlt2 : p < A * B
  rotate_left
  · have c1 : ¬ (p : Int) < ((A * B : Nat) : Int) := by omega
    have hpe : p = A * B := by omega
    rw [hpe, Nat.sub_self] at hcol
    simp only [coll] at hcol
    refine go c1 kz ?_
    rw [htog, ← hcol, if_pos rfl]
    exact ends_agg2 rfl rfl (hal.symm.trans (List.length_map _).symm)
  have c1 : (p : Int) < ((A * B : Nat) : Int) := by omega
  have w3 : IntKind.i64.wrap ((p : Int) + 1) = ((p + 1 : Nat) : Int) := by rw [wrap_in (by omega) (by omega)]; rfl
  have kp := kn p hlt2
  have hgl := fun (i : Nat) (hi : i < S) => laneL_get (d := d) (B := B) (p := p) hi
  have hll := laneL_len d S B p
  rw [show A * B - p = (A * B - (p + 1)) + 1 from by omega] at hcol
  simp only [coll] at hcol
  have hlane : laneR fAdd (fun n _ => (n, 0)) (fun _ => 0) S B d p = laneR fAdd (fun n _ => (n, 0)) (fun _ => 0) S B d p := rfl
  conv at hlane => rhs; unfold laneR
  generalize laneL d S B p = l at *
  refine go c1 (aa kz kp) ?_
  refine T_for S (fun i v => { env := [(1, .one (.p (.int .i64 n))), (2, .one (.ptr 2 0 2 0)), (4, .one (.ptr 4 0 2 0)), (7, .one (.ptr 7 0 2 0)), (8, .one (.p (.int .i64 p))), (9, .one (.p (eI l))), (10, .one (.p (.int .i64 v))), (11, .one (.p (.int .i64 i)))], σ := [(2, .cells true [.p (eI s), .p (eI d)]), (4, .cells true [.nils, .nils]), (7, .cells true [.p (eI (s.eraseIdx n)), .msl 100 0 1 p none]), (100, .arr true 1 (rI acc))] })
    (fun i v => I64 v ∧ foldE fAdd (fun i => gt d (laneAt S B p i)) (S - i) i v = foldE fAdd (fun i => gt d (laneAt S B p i)) S 0 0) 0 ⟨i64_0, rfl⟩ (.refl _ _) fun i v hi hv => ?_
  obtain ⟨hv, hfold⟩ := hv
  by_cases hiS : i < S
  · have c2 : (i : Int) < (S : Int) := by omega
    have c3 : i < l.length := by omega
    have w4 : IntKind.i64.wrap ((i : Int) + 1) = ((i + 1 : Nat) : Int) := by rw [wrap_in (by omega) (by omega)]; rfl
    have hxi := hgl i hiS
    have hy := gt_range hd (laneAt S B p i)
    have kW := p_ref01_Add hv hy
    have hWr' := fAdd_range v (gt d (laneAt S B p i))
    rw [show S - i = (S - (i + 1)) + 1 from by omega] at hfold
    simp only [foldE] at hfold
    generalize gt d (laneAt S B p i) = y at *
    by_cases e1 : (fAdd v y).2 = 0
    · rw [if_pos e1] at hfold
      have e1' : ((fAdd v y).2 != 0) = false := by simp [e1]
      generalize fAdd v y = z at *
      refine go (aa c2 <| aa c3 <| aa w4 <| aa hxi <| aa hll e1') kW ?_
      exact rnd_next hiS _ ⟨hWr', hfold⟩ (.refl _ _)
    · rw [if_neg e1] at hfold
      have e1' : ((fAdd v y).2 != 0) = true := by simp [e1]
      rw [← hfold] at hlane
      simp only [e1, if_false] at hlane
      rw [hlane] at hcol
      simp only [e1, if_false] at hcol
      have hfin := fin2 _ hcol.symm e1
      rw [hfin]
      generalize fAdd v y = z at *
      refine go (aa c2 <| aa c3 <| aa w4 <| aa hxi <| aa hll e1') kW ?_
      exact ends_ret rfl rfl rfl rfl
  · have c2 : ¬ (i : Int) < (S : Int) := by omega
    have hie : i = S := by omega
    rw [hie, Nat.sub_self] at hfold
    simp only [foldE] at hfold
    rw [← hfold] at hlane
    simp only [if_true] at hlane
    rw [hlane] at hcol
    simp only [if_true] at hcol
    have c4 : (p + 1) * 8 ≤ 2 ^ 40 := by omega
    have c5 : p + 1 ≤ 2 ^ 40 := by omega
    refine go (aa c2 <| aa w3 <| aa hll <| aa hal <| aa c4 c5) trivial ?_
    refine rnd_next hlt2 (acc ++ [v]) ⟨by simp [hal], hcol⟩ (Weak.sub fun q hq => ?_)
    simp only [List.mem_cons, List.not_mem_nil, or_false] at hq
    rcases hq with rfl | rfl | rfl | rfl
    · rfl
    · rfl
    · rfl
    · simp [lo, rI]
end Go.AM

namespace Go.AM
open Go Go.Proofs
set_option maxRecDepth 100000
set_option maxHeartbeats 4000000

theorem coll_inv {f : Nat → Int × Int} : ∀ {n a : Nat} {acc : List Int}, (coll f n a acc).2 = 0 → ∀ k, k < n → (f (a + k)).2 = 0
  | 0, _, _, _, k, hk => by omega
  | n + 1, a, acc, h, k, hk => by
    simp only [coll] at h
    split at h
    · rename_i h0
      cases k with
      | zero => exact h0
      | succ k => have := coll_inv h k (by omega); rw [show a + (k + 1) = a + 1 + k from by omega]; exact this
    · rename_i h0; exact absurd h h0
theorem coll_tab {f : Nat → Int × Int} {n : Nat} (h : (coll f n 0 []).2 = 0) : coll f n 0 [] = ((List.range n).map fun p => (f p).1, 0) := by
  have h1 := coll_ok (f := f) (n := n) (a := 0) (acc := []) (fun k hk => coll_inv h k hk)
  rw [h1]; simp
theorem range_map_get (f : Nat → Int) {n p : Nat} (h : p < n) : ((List.range n).map f)[p]? = some (f p) := by rw [List.getElem?_map, List.getElem?_range h]; rfl
theorem range_map_succ (f : Nat → Int) (n : Nat) : (List.range (n + 1)).map f = (List.range n).map f ++ [f n] := by rw [List.range_succ, List.map_append]; rfl
theorem foldE_rg {W : Int → Int → Int × Int} {y : Nat → Int} (hW : ∀ a b, I64 (W a b).1) : ∀ (n k : Nat) (s : Int), I64 s → I64 (foldE W y n k s).1
  | 0, _, _, h => h
  | n + 1, k, s, h => by
    simp only [foldE]
    split
    · exact foldE_rg hW n _ _ (hW _ _)
    · exact i64_0
theorem Lanes.sums {s d : List Int} {n A S B : Nat} (L : Lanes s d n A S B) (h : (sumS s d n).2 = 0) :
    sumS s d n = ((s.eraseIdx n, (List.range (A * B)).map fun p => (foldE fAdd (fun i => gt d (laneAt S B p i)) S 0 0).1), 0) ∧
    meanS s d n = ((s.eraseIdx n, (List.range (A * B)).map fun p => (shareE (foldE fAdd (fun i => gt d (laneAt S B p i)) S 0 0).1 S).1), 0) := by
  have ht : sumS s d n = _ := L.tog fAdd (fun n _ => (n, 0)) (fun _ => 0)
  have h0 : (coll (laneR fAdd (fun n _ => (n, 0)) (fun _ => 0) S B d) (A * B) 0 []).2 = 0 := by
    rw [ht] at h
    split at h
    · assumption
    · exact h
  have hi : ∀ p, p < A * B → (foldE fAdd (fun i => gt d (laneAt S B p i)) S 0 0).2 = 0 := fun p hp => by
    have := coll_inv h0 p hp
    rw [Nat.zero_add] at this
    unfold laneR at this
    split at this
    · assumption
    · exact this
  have l1 : ∀ p, p < A * B → laneR fAdd (fun n _ => (n, 0)) (fun _ => 0) S B d p = ((foldE fAdd (fun i => gt d (laneAt S B p i)) S 0 0).1, 0) := fun p hp => by
    unfold laneR; rw [if_pos (hi p hp)]
  have l2 : ∀ p, p < A * B → laneR fAdd shareE (fun _ => 0) S B d p = shareE (foldE fAdd (fun i => gt d (laneAt S B p i)) S 0 0).1 S := fun p hp => by
    unfold laneR; rw [if_pos (hi p hp)]
  have h2 : (coll (laneR fAdd shareE (fun _ => 0) S B d) (A * B) 0 []) = ((List.range (A * B)).map fun p => (laneR fAdd shareE (fun _ => 0) S B d p).1, 0) := by
    have := coll_ok (f := laneR fAdd shareE (fun _ => 0) S B d) (n := A * B) (a := 0) (acc := []) (fun k hk => by
      rw [Nat.zero_add, l2 k hk]; exact fDiv_side (foldE_rg (fun a b => fAdd_range a b) _ _ _ i64_0) L.s1)
    rw [this]; simp
  constructor
  · rw [ht, if_pos h0, coll_tab h0]
    congr 2
    exact List.map_congr_left fun p hp => by rw [l1 p (List.mem_range.1 hp)]
  · unfold meanS
    rw [if_pos h, L.tog, h2, if_pos rfl]
    congr 2
    exact List.map_congr_left fun p hp => by rw [l2 p (List.mem_range.1 hp)]
theorem p_ref06_Mean (s d : List Int) (a : Int) (hd : I64s d) : PureC Try.prog fi_fullerref06_Mean [dT s d, dN a] (dTE (meanS s d a)) := by
  refine pure_fullerref06_Mean (by simp) fun G hP hn => ?_
  have ks := p_ref06_Sum s d a hd
  by_cases he : (sumS s d a).2 = 0
  rotate_left
  · have hf : meanS s d a = bad (sumS s d a).2 := if_neg he
    rw [hf]
    have e1 : ((sumS s d a).2 != 0) = true := by simp [he]
    generalize sumS s d a = r at *
    refine go e1 ks ?_
    exact ends_ret rfl rfl rfl rfl
  have h0 : sideF s d a = 0 := Classical.byContradiction fun h => by
    have : sumS s d a = bad (sideF s d a) := side_cases s d a _ rfl h _ _ _
    rw [this] at he
    exact h he
  obtain ⟨n, A, S, B, rfl, L⟩ := side_ok h0
  obtain ⟨hS, hM⟩ := L.sums he
  rw [hS] at ks
  rw [hM]
  have hb1 := L.b1
  have hs1 := L.s1
  have hs2 := L.s2
  have hAB := L.AB
  have hn2 := L.hn
  have hSs := L.hS
  have hw : IntKind.i64.wrap (4294967296 * (S : Int)) = (S : Int) * 4294967296 := by rw [wrap_in (by omega) (by omega)]; omega
  have kD : ∀ p, PureC Try.prog fi_fullerref01_Div [dN (foldE fAdd (fun i => gt d (laneAt S B p i)) S 0 0).1, dN ((S : Int) * 4294967296)] (dNE (shareE (foldE fAdd (fun i => gt d (laneAt S B p i)) S 0 0).1 S)) := fun p => by
    unfold shareE
    exact p_ref01_Div (foldE_rg (fun a b => fAdd_range a b) S 0 0 i64_0) ⟨by omega, by omega⟩
  generalize (S : Int) * 4294967296 = M at *
  have hget := fun p (hp : p < A * B) => range_map_get (fun p => (foldE fAdd (fun i => gt d (laneAt S B p i)) S 0 0).1) hp
  have hlen : ((List.range (A * B)).map fun p => (foldE fAdd (fun i => gt d (laneAt S B p i)) S 0 0).1).length = A * B := by simp
  have hsu := range_map_succ (fun p => (shareE (foldE fAdd (fun i => gt d (laneAt S B p i)) S 0 0).1 S).1)
  generalize (List.range (A * B)).map (fun p => (foldE fAdd (fun i => gt d (laneAt S B p i)) S 0 0).1) = D at *
  generalize hv : (fun p => (foldE fAdd (fun i => gt d (laneAt S B p i)) S 0 0).1) = v at *
  have hv' : ∀ p, (foldE fAdd (fun i => gt d (laneAt S B p i)) S 0 0).1 = v p := fun p => by rw [← hv]
  simp only [hv'] at *
  generalize hu : (fun p => shareE (v p) S) = u at *
  have hu' : ∀ p, shareE (v p) S = u p := fun p => by rw [← hu]
  simp only [hu'] at *
  clear hv hv' hu hu'
  generalize s.eraseIdx n = s' at *
  generalize A * B = N at *
  refine go trivial ks ?_
  refine T_weak (Weak.nilC 8 100 1 1 rfl rfl rfl rfl) ?_
  refine T_for N (fun p (_ : Unit) => { env := [(1, .one (.p (.int .i64 n))), (2, .one (.ptr 2 0 2 0)), (4, .one (.ptr 4 0 2 0)), (6, .one (.ptr 6 0 2 0)), (8, .one (.ptr 8 0 2 0)), (9, .one (.p (.int .i64 p)))], σ := [(2, .cells true [.p (eI s), .p (eI d)]), (4, .cells true [.nils, .nils]), (6, .cells true [.p (eI s'), .p (eI D)]), (8, .cells true [.p (eI s'), .msl 100 0 1 p none]), (100, .arr true 1 (rI ((List.range p).map fun p => (u p).1)))] })
    (fun _ _ => True) () trivial ?_ fun p _ hp _ => ?_
  · refine Weak.sub fun q hq => ?_
    simp only [List.mem_cons, List.not_mem_nil, or_false] at hq
    rcases hq with rfl | rfl | rfl | rfl | rfl <;> rfl
  by_cases hlt : p < N
  rotate_left
  · have c1 : ¬ (p : Int) < (N : Int) := by omega
    obtain rfl : p = N := by omega
    refine go (aa c1 hlen) trivial ?_
    exact ends_agg2 rfl rfl (by simp)
  have c1 : (p : Int) < (N : Int) := by omega
  have c2 : (n : Int) < (s.length : Int) := by omega
  have w3 : IntKind.i64.wrap ((p : Int) + 1) = ((p + 1 : Nat) : Int) := by rw [wrap_in (by omega) (by omega)]; rfl
  have hx := hget p hlt
  have kd := kD p
  have hs := hsu p
  have hal : ((List.range p).map fun p => (u p).1).length = p := by simp
  have c4 : (p + 1) * 8 ≤ 2 ^ 40 := by omega
  have c5 : p + 1 ≤ 2 ^ 40 := by omega
  generalize (List.range p).map (fun p => (u p).1) = acc at *
  generalize v p = y at *
  generalize u p = z at *
  refine go (aa c1 <| aa c2 <| aa w3 <| aa hx <| aa hlen <| aa hlt <| aa hn2 <| aa hSs <| aa hw <| aa hal <| aa c4 c5) kd ?_
  refine rnd_next hlt () trivial (Weak.sub fun q hq => ?_)
  simp only [List.mem_cons, List.not_mem_nil, or_false] at hq
  rcases hq with rfl | rfl | rfl | rfl | rfl
  · rfl
  · rfl
  · rfl
  · rfl
  · rw [hs]; simp [lo, rI]
theorem firstE_congr {y y' : Nat → Int} {S : Nat} (g : ∀ i, i < S → y i = y' i) : ∀ (n k at_ : Nat), k + n ≤ S → at_ < S → firstE y n k at_ = firstE y' n k at_
  | 0, _, _, _, _ => rfl
  | n + 1, k, at_, h1, h2 => by
    simp only [firstE]
    have e : (if y k > y at_ then k else at_) = (if y' k > y' at_ then k else at_) := by simp only [g k (by omega), g at_ h2]
    rw [e]
    exact firstE_congr g n (k + 1) _ (by omega) (by split <;> omega)
theorem most_lane {d : List Int} {S B p : Nat} (hs : 0 < S) : firstE (fun i => gt (laneL d S B p) i) (laneL d S B p).length 0 0 = firstL d S B p := by
  rw [laneL_len]
  exact firstE_congr (fun i hi => by
      have := laneL_get (d := d) (B := B) (p := p) hi
      unfold gt at this ⊢; rw [this]; rfl) S 0 0 (by omega) hs
theorem p_ref06_Max (s d : List Int) (a : Int) (hd : I64s d) : PureC Try.prog fi_fullerref06_Max [dT s d, dN a] (dTE (maxS s d a)) := by
  refine pure_fullerref06_Max (by simp) fun G hP hn => ?_
  have ksd := p_ref06_side s d a
  by_cases he : sideF s d a = 0
  rotate_left
  · have hf : maxS s d a = bad (sideF s d a) := side_cases s d a _ rfl he _ _ _
    rw [hf]
    have e1 : (sideF s d a != 0) = true := by simp [he]
    generalize sideF s d a = e at *
    refine go e1 ksd ?_
    exact ends_ret rfl rfl rfl rfl
  rw [he] at ksd
  obtain ⟨n, A, S, B, rfl, L⟩ := side_ok he
  have hs := check_len (checkS_iff.2 (checkT_iff.1 L.hc).1)
  have kw := p_ref06_without (l := s) L.hn (by omega)
  obtain ⟨hz, ho⟩ := L.size
  have kz := p_ref02_Size (s.eraseIdx n)
  rw [hz] at kz
  have hAB := L.AB
  have hb1 := L.b1
  have hs1 := L.s1
  have hs2 := L.s2
  have hl0 : ∀ p, laneR (fun a b => (max a b, 0)) (fun n _ => (n, 0)) (fun a => a) S B d p = (gt d (laneAt S B p (firstL d S B p)), 0) := fun p => by
    unfold laneR
    rw [foldE_max (y := fun i => gt d (laneAt S B p i))]
    rfl
  have hM : maxS s d n = ((s.eraseIdx n, (List.range (A * B)).map fun p => gt d (laneAt S B p (firstL d S B p))), 0) := by
    have h1 := coll_ok (f := laneR (fun a b => (max a b, 0)) (fun n _ => (n, 0)) (fun a => a) S B d) (n := A * B) (a := 0) (acc := []) (fun k hk => by rw [hl0])
    have h2 : maxS s d n = _ := L.tog (fun a b => (max a b, 0)) (fun n _ => (n, 0)) (fun a => a)
    rw [h2, h1]
    simp [hl0]
  rw [hM]
  have kn := fun (p : Nat) (hp : p < A * B) => p_ref06_numbers L hp
  have hsu := range_map_succ (fun p => gt d (laneAt S B p (firstL d S B p)))
  generalize s.eraseIdx n = s' at *
  refine go trivial (aa ksd kw) ?_
  refine T_weak (Weak.nilC 7 100 1 1 rfl rfl rfl rfl) ?_
  refine T_for (A * B) (fun p (_ : Unit) => { env := [(1, .one (.p (.int .i64 n))), (2, .one (.ptr 2 0 2 0)), (4, .one (.ptr 4 0 2 0)), (7, .one (.ptr 7 0 2 0)), (8, .one (.p (.int .i64 p)))], σ := [(2, .cells true [.p (eI s), .p (eI d)]), (4, .cells true [.nils, .nils]), (7, .cells true [.p (eI s'), .msl 100 0 1 p none]), (100, .arr true 1 (rI ((List.range p).map fun p => gt d (laneAt S B p (firstL d S B p)))))] })
    (fun _ _ => True) () trivial ?_ fun p _ hp _ => ?_
  · refine Weak.sub fun q hq => ?_
    simp only [List.mem_cons, List.not_mem_nil, or_false] at hq
    rcases hq with rfl | rfl | rfl | rfl <;> rfl
  by_cases hlt : p < A * B
  rotate_left
  · have c1 : ¬ (p : Int) < ((A * B : Nat) : Int) := by omega
    obtain rfl : p = A * B := by omega
    refine go c1 kz ?_
    exact ends_agg2 rfl rfl (by simp)
  have c1 : (p : Int) < ((A * B : Nat) : Int) := by omega
  have w3 : IntKind.i64.wrap ((p : Int) + 1) = ((p + 1 : Nat) : Int) := by rw [wrap_in (by omega) (by omega)]; rfl
  have kp := kn p hlt
  have hll := laneL_len d S B p
  have hfl : firstL d S B p < S := firstE_lt _ _ _ (by omega) (by omega)
  have hx := laneL_get (d := d) (B := B) (p := p) hfl
  have km := p_ref06_most (laneL d S B p) (by omega) (by omega)
  rw [most_lane (by omega)] at km
  have hs := hsu p
  have hal : ((List.range p).map fun p => gt d (laneAt S B p (firstL d S B p))).length = p := by simp
  have c4 : (p + 1) * 8 ≤ 2 ^ 40 := by omega
  have c5 : p + 1 ≤ 2 ^ 40 := by omega
  generalize (List.range p).map (fun p => gt d (laneAt S B p (firstL d S B p))) = acc at *
  generalize gt d (laneAt S B p (firstL d S B p)) = y at *
  generalize firstL d S B p = f at *
  generalize laneL d S B p = l at *
  have c6 : (f : Int) < (S : Int) := by omega
  refine go (aa c1 <| aa c6 <| aa w3 <| aa hx <| aa hll <| aa hfl <| aa hal <| aa c4 c5) (aa kz <| aa kp km) ?_
  refine rnd_next hlt () trivial (Weak.sub fun q hq => ?_)
  simp only [List.mem_cons, List.not_mem_nil, or_false] at hq
  rcases hq with rfl | rfl | rfl | rfl
  · rfl
  · rfl
  · rfl
  · rw [hs]; simp [lo, rI]
end Go.AM

namespace Go.AM
open Go Go.Proofs
set_option maxRecDepth 100000
set_option maxHeartbeats 4000000

theorem first_side {s d : List Int} {a : Int} {e : Int} (h : sideF s d a = e) (he : e ≠ 0) : firstS s d a = bad e := by
  unfold sideF at h
  unfold firstS
  split at h
  · rename_i hc
    rw [if_pos hc]
    split at h
    · rename_i ha
      rw [if_pos ha, h]
    · exact absurd h.symm he
  · rename_i hc
    rw [if_neg hc, h]
theorem p_ref06_First (s d : List Int) (a : Int) (hd : I64s d) : PureC Try.prog fi_fullerref06_First [dT s d, dN a] (dTE (firstS s d a)) := by
  refine pure_fullerref06_First (by simp) fun G hP hn => ?_
  have ksd := p_ref06_side s d a
  by_cases he : sideF s d a = 0
  rotate_left
  · have hf : firstS s d a = bad (sideF s d a) := first_side rfl he
    rw [hf]
    have e1 : (sideF s d a != 0) = true := by simp [he]
    generalize sideF s d a = e at *
    refine go e1 ksd ?_
    exact ends_ret rfl rfl rfl rfl
  rw [he] at ksd
  obtain ⟨n, A, S, B, rfl, L⟩ := side_ok he
  have hok := (checkT_iff.1 L.hc).1
  have hs := check_len (checkS_iff.2 hok)
  have hn2 := L.hn
  have kw1 := p_ref06_without (l := s) L.hn (by omega)
  obtain ⟨hz, ho⟩ := L.size
  have hAB := L.AB
  have hb1 := L.b1
  have hs1 := L.s1
  have hs2 := L.s2
  have hdl := L.len
  have hle := L.le
  have hzs : (sizeS s).toNat = d.length := by have := sizeS_ok hok; have := (checkT_iff.1 L.hc).2; omega
  have hsu := range_map_succ (fun r => if firstL d S B (r / B / S * B + r % B) = r / B % S then (4294967296 : Int) else 0)
  rw [L.firstS]
  refine go trivial ksd ?_
  refine T_weak (Weak.nilC 7 100 1 1 rfl rfl rfl rfl) ?_
  refine T_for d.length (fun p (_ : Unit) => { env := [(1, .one (.p (.int .i64 n))), (2, .one (.ptr 2 0 2 0)), (4, .one (.ptr 4 0 2 0)), (7, .one (.ptr 7 0 2 0)), (8, .one (.p (.int .i64 p)))], σ := [(2, .cells true [.p (eI s), .p (eI d)]), (4, .cells true [.nils, .nils]), (7, .cells true [.p (eI s), .msl 100 0 1 p none]), (100, .arr true 1 (rI ((List.range p).map fun r => if firstL d S B (r / B / S * B + r % B) = r / B % S then (4294967296 : Int) else 0)))] })
    (fun _ _ => True) () trivial ?_ fun p _ hp _ => ?_
  · refine Weak.sub fun q hq => ?_
    simp only [List.mem_cons, List.not_mem_nil, or_false] at hq
    rcases hq with rfl | rfl | rfl | rfl <;> rfl
  by_cases hlt : p < d.length
  rotate_left
  · have c1 : ¬ (p : Int) < (d.length : Int) := by omega
    obtain rfl : p = d.length := by omega
    refine go c1 trivial ?_
    exact ends_agg2 rfl rfl (by simp)
  have c1 : (p : Int) < (d.length : Int) := by omega
  have w3 : IntKind.i64.wrap ((p : Int) + 1) = ((p + 1 : Nat) : Int) := by rw [wrap_in (by omega) (by omega)]; rfl
  have ki : PureC Try.prog fi_fullerref02_Index [dI s, dN p] (.tup [dI (ix s p), dN 0]) := by
    have := c_refIdx (s := s) (p := p) (by omega)
    rw [idxF_eq hok.2.1 (by omega) (by omega)] at this; exact this
  have hp2 : p < A * S * B := by omega
  obtain ⟨g1, g2, g3⟩ := L.of_at hp2
  obtain ⟨q1, q2, q3⟩ := laneAt_in (by omega) (by omega) hp2
  have hxl : (ix s p).length = s.length := ix_len s p
  have kw2 := p_ref06_without (l := ix s p) (n := n) (by omega) (by omega)
  have kp : PureC Try.prog fi_fullerref02_Place [dI (s.eraseIdx n), dI ((ix s p).eraseIdx n)] (dNE (((p / B / S * B + p % B : Nat) : Int), 0)) := by
    have := p_ref02_Place (s.eraseIdx n) ((ix s p).eraseIdx n)
    rw [placeF_ok ho g2, g3] at this; exact this
  have kn := p_ref06_numbers L q1
  have km := p_ref06_most (laneL d S B (p / B / S * B + p % B)) (by rw [laneL_len]; omega) (by rw [laneL_len]; omega)
  rw [most_lane (by omega)] at km
  have hs3 := hsu p
  have hal : ((List.range p).map fun r => if firstL d S B (r / B / S * B + r % B) = r / B % S then (4294967296 : Int) else 0).length = p := by simp
  have c4 : (p + 1) * 8 ≤ 2 ^ 40 := by omega
  have c5 : p + 1 ≤ 2 ^ 40 := by omega
  have c6 : (n : Int) < s.length := by omega
  generalize (List.range p).map (fun r => if firstL d S B (r / B / S * B + r % B) = r / B % S then (4294967296 : Int) else 0) = acc at *
  generalize firstL d S B (p / B / S * B + p % B) = f at *
  generalize laneL d S B (p / B / S * B + p % B) = l at *
  generalize p / B / S * B + p % B = q at *
  generalize p / B % S = i at *
  generalize ix s p = x at *
  generalize s.eraseIdx n = s' at *
  generalize x.eraseIdx n = x' at *
  by_cases hfi : f = i
  · rw [if_pos hfi] at hs3
    have e1 : ((f : Int) == (i : Int)) = true := by simp [hfi]
    refine go (aa c1 <| aa w3 <| aa g1 <| aa hxl <| aa hn2 <| aa c6 <| aa e1 <| aa hal <| aa c4 c5) (aa ki <| aa kw1 <| aa kw2 <| aa kp <| aa kn km) ?_
    refine rnd_next hlt () trivial (Weak.sub fun z hz => ?_)
    simp only [List.mem_cons, List.not_mem_nil, or_false] at hz
    rcases hz with rfl | rfl | rfl | rfl
    · rfl
    · rfl
    · rfl
    · rw [hs3]; simp [lo, rI]
  · rw [if_neg hfi] at hs3
    have e1 : ((f : Int) == (i : Int)) = false := by simp; omega
    refine go (aa c1 <| aa w3 <| aa g1 <| aa hxl <| aa hn2 <| aa c6 <| aa e1 <| aa hal <| aa c4 c5) (aa ki <| aa kw1 <| aa kw2 <| aa kp <| aa kn km) ?_
    refine rnd_next hlt () trivial (Weak.sub fun z hz => ?_)
    simp only [List.mem_cons, List.not_mem_nil, or_false] at hz
    rcases hz with rfl | rfl | rfl | rfl
    · rfl
    · rfl
    · rfl
    · rw [hs3]; simp [lo, rI]
end Go.AM

namespace Go.AM
open Go Go.Proofs
set_option maxRecDepth 100000
set_option maxHeartbeats 4000000

theorem p_ref06_Grow (s d : List Int) (a k : Int) (hd : I64s d) : PureC Try.prog fi_fullerref06_Grow [dT s d, dN a, dN k] (dTE (growS s d a k)) := by
  refine pure_fullerref06_Grow (by simp) fun G hP hn => ?_
  have kc := p_ref03_Check s d
  cases hc : checkT s d
  · have hf : growS s d a k = bad 30 := by unfold growS; rw [if_neg (by simp [hc])]
    rw [hc] at kc
    refine go trivial kc ?_
    exact ends_ret rfl rfl rfl (by rw [hf]; rfl)
  rw [hc] at kc
  by_cases h1 : a < 0
  · have hf : growS s d a k = bad 20 := by unfold growS; rw [if_pos hc, if_pos (.inl h1)]
    refine go h1 kc ?_
    exact ends_ret rfl rfl rfl (by rw [hf]; rfl)
  by_cases h2 : a > s.length
  · have hf : growS s d a k = bad 20 := by unfold growS; rw [if_pos hc, if_pos (.inr h2)]
    refine go (aa h1 h2) kc ?_
    exact ends_ret rfl rfl rfl (by rw [hf]; rfl)
  obtain ⟨n, rfl⟩ := Int.eq_ofNat_of_zero_le (by omega : 0 ≤ a)
  have hle : n ≤ s.length := by omega
  have hok := (checkT_iff.1 hc).1
  have hs := check_len (checkS_iff.2 hok)
  have h3 : ¬ ((n : Int) < 0 ∨ (n : Int) > s.length) := by omega
  have kI := p_ref06_in (l := s) (n := n) k hle (by omega)
  have kh := p_ref02_Check (insL s n k)
  have hl := insL_len s k hle
  cases hk : checkS (insL s n k)
  · have hf : growS s d n k = bad 20 := by unfold growS; rw [if_pos hc, if_neg h3, Int.toNat_natCast, if_neg (by simp [hk])]
    rw [hk] at kh
    generalize insL s n k = s' at *
    refine go (aa h1 h2) (aa kc <| aa kI kh) ?_
    exact ends_ret rfl rfl rfl (by rw [hf]; rfl)
  rw [hk] at kh
  have hok' := checkS_iff.1 hk
  rw [grow_ok hc hle hk]
  have hsu := range_map_succ (fun r => (atF s d ((ix (insL s n k) r).eraseIdx n)).1)
  have kz := p_ref02_Size (insL s n k)
  rw [sizeS_nat] at kz
  have hzn : (sizeS (insL s n k)).toNat ≤ 64 := by have := sizeS_nn (insL s n k); omega
  have kx : ∀ p : Nat, p < (sizeS (insL s n k)).toNat → PureC Try.prog fi_fullerref02_Index [dI (insL s n k), dN p] (.tup [dI (ix (insL s n k) p), dN 0]) := fun p hp => by
    have := c_refIdx (s := insL s n k) (p := p) hp
    rw [idxF_eq hok'.2.1 (by omega) (by omega)] at this; exact this
  have hxl := fun (p : Nat) => ix_len (insL s n k) p
  generalize insL s n k = s' at *
  generalize hN : (sizeS s').toNat = N at *
  refine go (aa h1 h2) (aa kc <| aa kI kh) ?_
  refine T_weak (Weak.nilC 11 100 1 1 rfl rfl rfl rfl) ?_
  refine T_for N (fun p (_ : Unit) => { env := [(1, .one (.p (.int .i64 n))), (3, .one (.ptr 3 0 2 0)), (6, .one (.ptr 6 0 2 0)), (9, .one (.p (eI s'))), (11, .one (.ptr 11 0 2 0)), (12, .one (.p (.int .i64 p)))], σ := [(3, .cells true [.p (eI s), .p (eI d)]), (6, .cells true [.nils, .nils]), (11, .cells true [.p (eI s'), .msl 100 0 1 p none]), (100, .arr true 1 (rI ((List.range p).map fun (r : Nat) => (atF s d ((ix s' r).eraseIdx n)).1)))] })
    (fun _ _ => True) () trivial ?_ fun p _ hp _ => ?_
  · refine Weak.sub fun q hq => ?_
    simp only [List.mem_cons, List.not_mem_nil, or_false] at hq
    rcases hq with rfl | rfl | rfl | rfl <;> rfl
  by_cases hlt : p < N
  rotate_left
  · have c1 : ¬ (p : Int) < (N : Int) := by omega
    obtain rfl : p = N := by omega
    refine go c1 kz ?_
    exact ends_agg2 rfl rfl (by simp)
  have c1 : (p : Int) < (N : Int) := by omega
  have w3 : IntKind.i64.wrap ((p : Int) + 1) = ((p + 1 : Nat) : Int) := by rw [wrap_in (by omega) (by omega)]; rfl
  have ki := kx p hlt
  have hx := hxl p
  have kw := p_ref06_without (l := ix s' p) (n := n) (by omega) (by omega)
  have ka := p_ref03_At s d ((ix s' p).eraseIdx n)
  have hs3 := hsu p
  have hal : ((List.range p).map fun (r : Nat) => (atF s d ((ix s' r).eraseIdx n)).1).length = p := by simp
  have c4 : (p + 1) * 8 ≤ 2 ^ 40 := by omega
  have c5 : p + 1 ≤ 2 ^ 40 := by omega
  generalize (List.range p).map (fun (r : Nat) => (atF s d ((ix s' r).eraseIdx n)).1) = acc at *
  generalize atF s d ((ix s' p).eraseIdx n) = z at *
  generalize ix s' p = x at *
  generalize x.eraseIdx n = x' at *
  refine go (aa c1 <| aa w3 <| aa hal <| aa c4 c5) (aa kz <| aa ki <| aa kw ka) ?_
  refine rnd_next hlt () trivial (Weak.sub fun z hz => ?_)
  simp only [List.mem_cons, List.not_mem_nil, or_false] at hz
  rcases hz with rfl | rfl | rfl | rfl
  · rfl
  · rfl
  · rfl
  · rw [hs3]; simp [lo, rI]
end Go.AM

namespace Go.AM
open Go Go.Proofs
set_option maxRecDepth 100000
set_option maxHeartbeats 4000000

theorem i64d {l : List Int} (h : l.all (fun x => decide (-9223372036854775808 ≤ x) && decide (x ≤ 9223372036854775807)) = true) : I64s l := fun x hx => by
  have := List.all_eq_true.1 h x hx
  simp only [Bool.and_eq_true, decide_eq_true_eq] at this
  exact ⟨by omega, by omega⟩
theorem p_awake6 : PureC Try.prog fi_fullerlaw06_awake [] (dB true) := by
  refine pure_fullerlaw06_awake (by simp) fun G hP hn => ?_
  have k1 := p_reduce_Sum [2, 2] [1, 5, 3, 4] 0 (i64d (by decide))
  rw [show sumS [2, 2] [1, 5, 3, 4] 0 = (([2], [4, 9]), 0) from by decide +kernel] at k1
  have k2 := p_reduce_Max [2, 2] [1, 5, 3, 4] 1 (i64d (by decide))
  rw [show maxS [2, 2] [1, 5, 3, 4] 1 = (([2], [5, 4]), 0) from by decide +kernel] at k2
  have k3 := p_reduce_First [2, 2] [1, 5, 3, 4] 1 (i64d (by decide))
  rw [show firstS [2, 2] [1, 5, 3, 4] 1 = (([2, 2], [0, 4294967296, 0, 4294967296]), 0) from by decide +kernel] at k3
  have k4 := p_reduce_Mean [2, 2] [1, 5, 3, 4] 0 (i64d (by decide))
  rw [show meanS [2, 2] [1, 5, 3, 4] 0 = (([2], [2, 4]), 0) from by decide +kernel] at k4
  have k5 := p_reduce_Grow [2] [5, 4] 0 2 (i64d (by decide))
  rw [show growS [2] [5, 4] 0 2 = (([2, 2], [5, 4, 5, 4]), 0) from by decide +kernel] at k5
  have k6 := p_reduce_Sum [2, 2] [1, 5, 3, 4] 2 (i64d (by decide))
  rw [show sumS [2, 2] [1, 5, 3, 4] 2 = (([], []), 20) from by decide +kernel] at k6
  have k7 := p_reduce_Sum [] [] 0 (i64d (by decide))
  rw [show sumS [] [] 0 = (([], []), 30) from by decide +kernel] at k7
  have j1 := c_same' [4, 9]
  have j2 := c_same' [5, 4]
  have j3 := c_same' [0, 4294967296, 0, 4294967296]
  have j4 := c_same' [2, 4]
  have j5 := c_same' [5, 4, 5, 4]
  refine go trivial trivial ?_
  exact ends_ret rfl rfl rfl rfl
theorem p_ReduceTells (s d : List Int) (a k : Int) (hd : I64s d) : PureC Try.prog fi_fullerlaw06_ReduceTells [dT s d, dN a, dN k] (dB true) := by
  refine pure_fullerlaw06_ReduceTells (by simp) fun G hP hn => ?_
  cases f1 : fewT s d
  · refine go f1 (aa @p_awake6 @p_ref03_Few) ?_
    exact ends_ret rfl rfl rfl rfl
  have k1 := p_reduce_Sum s d a hd
  have k2 := p_ref06_Sum s d a hd
  have k3 := p_reduce_Mean s d a hd
  have k4 := p_ref06_Mean s d a hd
  have k5 := p_reduce_Max s d a hd
  have k6 := p_ref06_Max s d a hd
  have k7 := p_reduce_First s d a hd
  have k8 := p_ref06_First s d a hd
  have k9 := p_reduce_Grow s d a k hd
  have k10 := p_ref06_Grow s d a k hd
  generalize sumS s d a = r1 at *
  generalize meanS s d a = r2 at *
  generalize maxS s d a = r3 at *
  generalize firstS s d a = r4 at *
  generalize growS s d a k = r5 at *
  refine go f1 (aa @p_awake6 <| aa @p_ref03_Few @c_sameT) ?_
  exact ends_ret rfl rfl rfl rfl
end Go.AM

namespace Go.AM
open Go.RowKit (Below)

mutual
inductive Conf (P : Program) : TypeId → List PV → Prop
  | bool {t : TypeId} (b : Bool) (ht : P.underlying t = some .bool) : Conf P t [.bool b]
  | int {t : TypeId} {k : IntKind} (n : Int) (ht : P.underlying t = some (.int k)) (hw : (Lit.int k n).wf = true) : Conf P t [.int k n]
  | str {t : TypeId} (s : ByteArray) (ht : P.underlying t = some .string) : Conf P t [.str s]
  | sl {t e : TypeId} (rows : List (List PV)) (ht : P.underlying t = some (.slice e)) (h : ∀ r ∈ rows, Conf P e r) : Conf P t [.sl rows]
  | st {t : TypeId} {fs : Array Field} (parts : List (List PV)) (ht : P.underlying t = some (.struct fs)) (h : ConfAll P (fs.toList.map (·.type)) parts) : Conf P t parts.flatten
inductive ConfAll (P : Program) : List TypeId → List (List PV) → Prop
  | nil : ConfAll P [] []
  | cons {t : TypeId} {ts : List TypeId} {r : List PV} {rs : List (List PV)} (h : Conf P t r) (hs : ConfAll P ts rs) : ConfAll P (t :: ts) (r :: rs)
end
def contig (P : Program) : Nat → List Field → Nat → Bool
  | off, [], n => off == n
  | off, f :: fs, n => f.offset == off && contig P (off + P.cellsOf f.type) fs n
def okTy (P : Program) : Nat → TypeId → Bool
  | 0, _ => false
  | m + 1, t => match P.underlying t with
    | some .bool => P.cellsOf t == 1
    | some (.int _) => P.cellsOf t == 1
    | some .string => P.cellsOf t == 1
    | some (.slice e) => P.cellsOf t == 1 && decide (1 ≤ P.cellsOf e) && decide (1 ≤ P.bytesOf e) && okTy P m e
    | some (.struct fs) => contig P 0 fs.toList (P.cellsOf t) && fs.toList.all fun f => okTy P m f.type
    | _ => false
theorem flat_at {A : Nat → Prop} {w : World} {b c : Nat} : ∀ {rows : List (List PV)} {off : Nat}, (∀ r ∈ rows, r.length = c) → (∀ i r, rows[i]? = some r → PAt A w r b (off + i * c)) → PAt A w rows.flatten b off
  | [], off, _, _ => .atNil b off
  | r :: rows, off, h1, h2 => by
    simp only [List.flatten_cons]
    refine PAt.append (by simpa using h2 0 r rfl) ?_
    refine flat_at (fun r hr => h1 r (by simp [hr])) fun i r' hi => ?_
    have := h2 (i + 1) r' (by simpa using hi)
    rw [h1 r (by simp)]
    rwa [show off + (i + 1) * c = off + c + i * c from by rw [Nat.add_mul]; omega] at this
section
variable {H : Type} {enc : TypeId × Value → H} {P : Program} {w : World}
def inHeap (w : World) (b : Nat) : Prop := b < w.heap.size
theorem cell_lt {a : Addr} {v : Value} (h : w.cell? a = some v) : a.block < w.heap.size ∧ a.spot = none ∧ w.cell? ⟨a.block, a.off, none⟩ = some v := by
  unfold World.cell? at h ⊢
  split at h
  · rename_i c e z hb
    split at h
    · cases h
    · rename_i hs
      have : a.spot = none := by cases hz : a.spot <;> simp_all
      exact ⟨heap_lt hb, this, by simp [hb, h]⟩
  · cases h
theorem weights_mem {e : TypeId} {l : List (DataW H)} {n : Nat} (h : (DataW.weightsAll P e l).all (· ≤ n) = true) : ∀ d ∈ l, (d.weights P e).all (· ≤ n) = true := by
  induction l with
  | nil => intro d hd; simp at hd
  | cons x l ih =>
    simp only [DataW.weightsAll, List.all_append, Bool.and_eq_true] at h
    intro d hd
    rcases List.mem_cons.1 hd with rfl | hd
    · exact h.1
    · exact ih h.2 d hd
theorem reads_fields {total n : Nat} {cs : List Value} (hlen : cs.length = total) (ih : ∀ (t : TypeId), okTy P n t = true → ∀ (m : Nat) (cs : List Value) (d : DataW H) (ps : List MemPlace),
      DataW.trod enc P w 0 (fun _ => true) true m t cs = some (d, ps) → (d.weights P t).all (· ≤ reachBytes) = true → ∃ vs, Conf P t vs ∧ vs.length = P.cellsOf t ∧ PRels (inHeap w) w vs cs) {m : Nat} :
    ∀ (fs : List Field) (off : Nat) (xs : List (DataW H × List MemPlace)), contig P off fs total = true → (fs.all fun f => okTy P n f.type) = true → xs.length = fs.length →
      (∀ (i : Nat) (f : Field), fs[i]? = some f → DataW.trod enc P w 0 (fun _ => true) true m f.type ((cs.drop f.offset).take (P.cellsOf f.type)) = xs[i]?) →
      (DataW.weightsEach P (fs.map (·.type)) (xs.map (·.1))).all (· ≤ reachBytes) = true → off ≤ total →
      ∃ parts, ConfAll P (fs.map (·.type)) parts ∧ parts.flatten.length = total - off ∧ PRels (inHeap w) w parts.flatten (cs.drop off)
  | [], off, xs, h1, _, _, _, _, hle => by
    simp only [contig, beq_iff_eq] at h1
    subst h1
    exact ⟨[], .nil, by simp, by rw [List.drop_eq_nil_of_le (by omega)]; exact .psNil⟩
  | f :: fs, off, xs, h1, h2, h3, h4, h5, hle => by
    simp only [contig, Bool.and_eq_true, beq_iff_eq] at h1
    simp only [List.all_cons, Bool.and_eq_true] at h2
    obtain ⟨ho, h1⟩ := h1
    cases xs with
    | nil => simp at h3
    | cons x xs =>
      have e0 := h4 0 f rfl
      rw [ho] at e0
      simp only [List.getElem?_cons_zero] at e0
      simp only [List.map_cons, DataW.weightsEach, List.all_append, Bool.and_eq_true] at h5
      obtain ⟨vs, c1, c2, c3⟩ := ih f.type h2.1 m _ x.1 x.2 e0 h5.1
      have hlen2 := (PRels.all2.1 c3).length
      have hle2 : off + P.cellsOf f.type ≤ total := by
        rw [c2, List.length_take, List.length_drop] at hlen2
        omega
      obtain ⟨parts, p1, p2, p3⟩ := reads_fields hlen ih fs (off + P.cellsOf f.type) xs h1 h2.2 (by simpa using h3) (fun i f' hi => by simpa using h4 (i + 1) f' (by simpa using hi)) h5.2 hle2
      refine ⟨vs :: parts, .cons c1 p1, by simp only [List.flatten_cons, List.length_append, p2, c2]; omega, ?_⟩
      simp only [List.flatten_cons]
      have := PRels.all2.2 ((PRels.all2.1 c3).append (PRels.all2.1 p3))
      rwa [← List.drop_drop, List.take_append_drop] at this
theorem rows_of {α : Type} {Q : Nat → α → Prop} : ∀ (n : Nat), (∀ i, i < n → ∃ r, Q i r) → ∃ rows : List α, rows.length = n ∧ ∀ i r, rows[i]? = some r → Q i r
  | 0, _ => ⟨[], rfl, fun i r h => by simp at h⟩
  | n + 1, h => by
    obtain ⟨rows, h1, h2⟩ := rows_of n fun i hi => h i (by omega)
    obtain ⟨r, hr⟩ := h n (by omega)
    refine ⟨rows ++ [r], by simp [h1], fun i x hx => ?_⟩
    by_cases hi : i < n
    · rw [List.getElem?_append_left (by omega)] at hx; exact h2 i x hx
    · rw [List.getElem?_append_right (by omega)] at hx
      have : i = n := by
        by_cases e : i = n
        · exact e
        · rw [List.getElem?_eq_none (by simp; omega)] at hx; cases hx
      subst this
      rw [show i - rows.length = 0 from by omega] at hx
      simp at hx; subst hx; exact hr
theorem add_none (b off k : Nat) : (⟨b, off, none⟩ : Addr).add k = ⟨b, off + k, none⟩ := by
  unfold Addr.add
  split
  · rename_i h; subst h; rfl
  · rfl
theorem reads : ∀ (n : Nat) (t : TypeId), okTy P n t = true → ∀ (m : Nat) (cs : List Value) (d : DataW H) (ps : List MemPlace),
    DataW.trod enc P w 0 (fun _ => true) true m t cs = some (d, ps) → (d.weights P t).all (· ≤ reachBytes) = true → ∃ vs, Conf P t vs ∧ vs.length = P.cellsOf t ∧ PRels (inHeap w) w vs cs
  | 0, t, h => by simp [okTy] at h
  | n + 1, t, h => by
    intro m cs d ps hd hw
    unfold okTy at h
    split at h
    · rename_i ht
      obtain ⟨b, rfl, hx⟩ := DataW.trod_bool ht hd
      exact ⟨[.bool b], .bool b ht, by simpa using (beq_iff_eq.1 h).symm, .psCons _ _ _ _ (.bool b) .psNil⟩
    · rename_i k ht
      obtain ⟨z, rfl, hx, hwf⟩ := DataW.trod_int ht hd
      exact ⟨[.int k z], .int z ht hwf, by simpa using (beq_iff_eq.1 h).symm, .psCons _ _ _ _ (.int k z) .psNil⟩
    · rename_i ht
      obtain ⟨z, rfl, hx, _⟩ := DataW.trod_string ht hd
      exact ⟨[.str z], .str z ht, by simpa using (beq_iff_eq.1 h).symm, .psCons _ _ _ _ (.str z) .psNil⟩
    · rename_i e ht
      simp only [Bool.and_eq_true, beq_iff_eq, decide_eq_true_eq] at h
      obtain ⟨⟨⟨h1, h2⟩, h3⟩, h4⟩ := h
      rcases DataW.trod_slice ht hd with ⟨rfl, hx⟩ | ⟨a, len, cap, elems, rest, m', _, rfl, hx, _, hlc, hcm, hel, hget, hsp, _⟩
      · exact ⟨[.sl []], .sl [] ht (by simp), by simp [h1], .psCons _ _ _ _ (.nil none 0) .psNil⟩
      · obtain ⟨hrl, _⟩ := hsp rfl
        simp only [Prod.mk.injEq] at hx
        obtain ⟨rfl, _⟩ := hx
        simp only [DataW.weights, ht, List.all_cons, List.all_append, Bool.and_eq_true, decide_eq_true_eq, List.length_map] at hw
        obtain ⟨hw1, hw2, _⟩ := hw
        have hcap : cap ≤ reachBytes := by
          have : (elems.length + rest.length) * 1 ≤ (elems.length + rest.length) * P.bytesOf e := Nat.mul_le_mul_left _ h3
          omega
        have each : ∀ i, i < len → ∃ r, Conf P e r ∧ r.length = P.cellsOf e ∧ ∃ cs', w.cells? 0 (a.add (i * P.cellsOf e)) (P.cellsOf e) = some cs' ∧ PRels (inHeap w) w r cs' := by
          intro i hi
          have hi2 : i < elems.length := by omega
          have := hget i hi
          rw [List.getElem?_eq_getElem hi2] at this
          obtain ⟨cs', q1, q2⟩ := Option.bind_eq_some_iff.1 this
          obtain ⟨vs, r1, r2, r3⟩ := reads n e h4 m' cs' _ _ q2 (weights_mem hw2 _ (List.mem_map_of_mem (List.getElem_mem hi2)))
          exact ⟨vs, r1, r2, cs', q1, r3⟩
        obtain ⟨rows, hrows, hrow⟩ := rows_of len each
        have hconf : ∀ r ∈ rows, Conf P e r ∧ r.length = P.cellsOf e := by
          intro r hr
          obtain ⟨i, hi⟩ := List.getElem?_of_mem hr
          exact ⟨(hrow i r hi).1, (hrow i r hi).2.1⟩
        refine ⟨[.sl rows], .sl rows ht fun r hr => (hconf r hr).1, by simp [h1], .psCons _ _ _ _ ?_ .psNil⟩
        by_cases h0 : len = 0
        · subst h0
          have : rows = [] := List.length_eq_zero_iff.1 hrows
          subst this
          exact .nil (some a) cap
        · obtain ⟨_, _, _, cs', q1, q2⟩ := each 0 (by omega)
          obtain ⟨_, q3, q4⟩ := World.cells?_some q1
          have q5 := q4 0 (by omega)
          rw [List.getElem?_eq_getElem (by omega)] at q5
          have e1 : (a.add (0 * P.cellsOf e)).add 0 = a := by simp [Addr.add]
          rw [e1] at q5
          obtain ⟨z1, z2, _⟩ := cell_lt q5
          obtain ⟨b, off, spot⟩ := a
          simp only at z1 z2
          subst z2
          have hM : reachBytes ≤ MaxN := by decide
          have := Rel.sl (A := inHeap w) (w := w) rows b off cap (P.cellsOf e) z1 (fun r hr => (hconf r hr).2) (by omega) (by omega) (flat_at (fun r hr => (hconf r hr).2) fun i r hi => by
            obtain ⟨_, s2, cs', s3, s4⟩ := hrow i r hi
            obtain ⟨_, s5, s6⟩ := World.cells?_some s3
            refine PAt.of_get fun j v hj => ?_
            obtain ⟨x, hx, hr⟩ := (PRels.all2.1 s4).get j v hj
            refine ⟨x, ?_, hr⟩
            have := s6 j (by have := (List.getElem?_eq_some_iff.1 hj).1; omega)
            rw [add_none, add_none, hx] at this
            exact this)
          rw [hrows] at this
          exact this
    · rename_i fs ht
      simp only [Bool.and_eq_true] at h
      obtain ⟨xs, m', _, hx, hl, hxl, hf⟩ := DataW.trod_struct ht hd
      simp only [Prod.mk.injEq] at hx
      obtain ⟨rfl, _⟩ := hx
      simp only [DataW.weights, ht] at hw
      obtain ⟨parts, p1, p2, p3⟩ := reads_fields (m := m') hl (reads n) fs.toList 0 xs h.1 h.2 (by simpa using hxl) (fun i f hi => hf i f (by simpa using hi)) hw (Nat.zero_le _)
      exact ⟨parts.flatten, .st parts ht p1, by simpa using p2, by simpa using p3⟩
    · cases h
end
def ArgOk (P : Program) (t : TypeId) (d : DV) : Prop :=
  match P.underlying t with
  | some (.struct _) => ∃ vs, d = .agg vs ∧ Conf P t vs
  | _ => ∃ v, d = .one v ∧ Conf P t [v]
theorem arg_reads {H : Type} {enc : TypeId × Value → H} {P : Program} {w : World} {base n : Nat} {t : TypeId} {v : Value} {d : DataW H} {ps : List MemPlace} (ht : okTy P n t = true) (hv : Value.okWide P w .any base t v)
    (hd : DataW.Trod enc P w 0 (fun _ => true) true t v d ps) (hw : (d.weights P t).all (· ≤ reachBytes) = true) : ∃ x, ArgOk P t x ∧ DRel (inHeap w) w x v := by
  obtain ⟨m, hd⟩ := hd
  obtain ⟨vs, h1, h2, h3⟩ := reads n t ht m _ d ps hd hw
  have one : (∀ xs, v ≠ .agg xs) → P.cellsOf t = 1 → ∃ c, vs = [c] ∧ DRel (inHeap w) w (.one c) v := by
    intro hn hc
    have hcell : v.cells.toList = [v] := by cases v <;> first | rfl | exact absurd rfl (hn _)
    rw [hcell] at h3
    cases h3 with
    | psCons c _ cs _ h t =>
      cases t
      exact ⟨c, rfl, .d1 (.one h)⟩
  cases n with
  | zero => simp [okTy] at ht
  | succ n =>
  unfold okTy at ht
  unfold ArgOk
  unfold Value.okWide at hv
  split at ht
  · rename_i hu
    simp only [hu] at hv ⊢
    obtain ⟨c, rfl, hr⟩ := one (fun xs e => by subst e; simp [Cell.okWide, Cell.ok, hu] at hv) (by simpa using ht)
    exact ⟨_, ⟨c, rfl, h1⟩, hr⟩
  · rename_i k hu
    simp only [hu] at hv ⊢
    obtain ⟨c, rfl, hr⟩ := one (fun xs e => by subst e; simp [Cell.okWide, Cell.ok, hu] at hv) (by simpa using ht)
    exact ⟨_, ⟨c, rfl, h1⟩, hr⟩
  · rename_i hu
    simp only [hu] at hv ⊢
    obtain ⟨c, rfl, hr⟩ := one (fun xs e => by subst e; simp [Cell.okWide, Cell.ok, hu] at hv) (by simpa using ht)
    exact ⟨_, ⟨c, rfl, h1⟩, hr⟩
  · rename_i e hu
    simp only [hu] at hv ⊢
    simp only [Bool.and_eq_true, beq_iff_eq] at ht
    obtain ⟨c, rfl, hr⟩ := one (fun xs e => by subst e; simp [Cell.okWide, Cell.ok, hu] at hv) ht.1.1.1
    exact ⟨_, ⟨c, rfl, h1⟩, hr⟩
  · rename_i fs hu
    simp only [hu] at hv ⊢
    obtain ⟨cs, rfl, _, _⟩ := hv
    exact ⟨_, ⟨vs, rfl, h1⟩, .d1 (.agg (PRels.all2.1 h3))⟩
  · cases ht
theorem args_read {H : Type} {enc : TypeId × Value → H} {P : Program} {w : World} {base n : Nat} : ∀ {ts : List TypeId} {vs : List Value} {ds : List (DataW H)} {ps : List MemPlace}, (ts.all fun t => okTy P n t) = true →
    (∀ (j : Nat) t v, ts[j]? = some t → vs[j]? = some v → Value.okWide P w .any base t v) → DataW.TrodAll enc P w 0 (fun _ => true) true ts vs ds ps → (DataW.weightsEach P ts ds).all (· ≤ reachBytes) = true →
    ∃ xs, All2 (ArgOk P) ts xs ∧ All2 (DRel (inHeap w) w) xs vs
  | [], vs, ds, ps, _, _, h, _ => by
    cases vs <;> cases ds <;> simp [DataW.TrodAll] at h
    exact ⟨[], .nil, .nil⟩
  | t :: ts, vs, ds, ps, ht, hv, h, hw => by
    obtain ⟨v, vs', d, ds', p, q, rfl, rfl, rfl, h1, h2⟩ := Go.ChangeShapes.trodAll_cons h
    simp only [List.all_cons, Bool.and_eq_true] at ht
    simp only [DataW.weightsEach, List.all_append, Bool.and_eq_true] at hw
    obtain ⟨x, a1, a2⟩ := arg_reads ht.1 (hv 0 t v rfl rfl) h1 hw.1
    obtain ⟨xs, b1, b2⟩ := args_read ht.2 (fun j t v h3 h4 => hv (j + 1) t v (by simpa using h3) (by simpa using h4)) h2 hw.2
    exact ⟨x :: xs, .cons a1 b1, .cons a2 b2⟩
theorem args_carry {H : Type} {enc : TypeId × Value → H} {P : Program} (hl : laidOutB P = true) {W W' : World} {sp : Nat → Bool} : ∀ {ts : List TypeId} {vs : List Value} {ds : List (DataW H)} {ps : List MemPlace},
    (ts.all fun t => P.readableRec t && decide (t < P.types.size)) = true → DataW.TrodAll enc P W 0 (fun _ => true) true ts vs ds ps → (∀ p ∈ ps, W.sameAt W' p) → (∀ p ∈ ps, sp p.block = true) → DataW.TrodAll enc P W' 0 sp true ts vs ds ps
  | [], vs, ds, ps, _, h, _, _ => by cases vs <;> cases ds <;> simp [DataW.TrodAll] at h ⊢; exact h
  | t :: ts, vs, ds, ps, ht, h, h1, h2 => by
    obtain ⟨v, vs', d, ds', p, q, rfl, rfl, rfl, h3, h4⟩ := Go.ChangeShapes.trodAll_cons h
    simp only [List.all_cons, Bool.and_eq_true, decide_eq_true_eq] at ht
    exact ⟨p, q, Go.WideElems.Trod_stays hl ht.1.1 ht.1.2 h3 (fun x hx => h1 x (by simp [hx])) (fun x hx => h2 x (by simp [hx])), args_carry hl ht.2 h4 (fun x hx => h1 x (by simp [hx])) (fun x hx => h2 x (by simp [hx])), rfl⟩
theorem law_lifted {C : Checked} {os : Os} {f : FuncId} {fn : Func} {spec : ChangeSpec} {conds : List PathCond} {H : Type} {enc : TypeId × Value → H} {tb : TypeId} (n : Nat)
    (own : ownKnob C.prog.godebug = none) (started : os.Started) (noInit : C.prog.inits.idxOf? f = none) (hfn : C.prog.funcs[f]? = some fn)
    (witness : ∃ (w : World) (tape : Tape) (i : Input), w.os = os ∧ (w.forCall tape i).Shaped C.prog ∧ i.vars = [] ∧ Input.okWide C.prog (w.forCall tape i) .any w.heap.size f i ∧
      spec.pre6 enc C.prog fn conds false (w.forCall tape i).memory i.args ∧ ({} : Assume).holds C.prog (lone (Frame.enter C.prog f i.args .normal) [] (w.forCall tape i)))
    (hl : laidOutB C.prog = true) (hts : (fn.params.toList.all fun t => okTy C.prog n t) = true) (hrd : (fn.params.toList.all fun t => C.prog.readableRec t && decide (t < C.prog.types.size)) = true)
    (hvars : spec.vars = []) (hres : fn.resultTypes = #[tb]) (hb : C.prog.underlying tb = some .bool)
    (hspec : ∀ ds : List (DataW H), ds.length = fn.params.size → spec.fn H ds = { results := [.lit (.bool true)], args := ds })
    (law : ∀ xs, All2 (ArgOk C.prog) fn.params.toList xs → PureC C.prog f xs (.one (.bool true))) :
    ReturnsInHanded {} C os f .any (spec.pre6 enc C.prog fn conds false) (spec.post enc C.prog fn false true false false) := by
  refine returnsInHanded_of_change_shaped own started noInit hfn witness ?_
  intro W base args ds gs before hval hW _ hwt _ _
  obtain ⟨p, q, hA, hV, rfl, hfz, hnd⟩ := id hW
  rw [hvars] at hV
  have hgs : gs = [] ∧ q = [] := by
    cases gs with
    | nil => simp only [DataW.TrodVars] at hV; exact ⟨rfl, hV⟩
    | cons _ _ => exact hV.elim
  obtain ⟨rfl, rfl⟩ := hgs
  have hvt : spec.plain.varTypes C.prog = [] := by
    simp [DataSpec.varTypes, ChangeSpec.plain, hvars]
  rw [hvt, List.append_nil, List.append_nil] at hwt
  obtain ⟨xs, h1, h2⟩ := args_read hts (fun j t v h3 h4 => hval j t v (by simpa using h3) (by simpa using h4)) hA hwt
  have hlen : ds.length = fn.params.size := by
    have key : ∀ {ts : List TypeId} {vs : List Value} {ds : List (DataW H)} {ps : List MemPlace}, DataW.TrodAll enc C.prog W 0 (fun _ => true) true ts vs ds ps → ds.length = ts.length := by
      intro ts
      induction ts with
      | nil => intro vs ds ps h; cases vs <;> cases ds <;> simp [DataW.TrodAll] at h ⊢
      | cons t ts ih =>
        intro vs ds ps h
        obtain ⟨_, _, _, _, _, _, rfl, rfl, _, _, h4⟩ := Go.ChangeShapes.trodAll_cons h
        simp [ih h4]
    simpa using key hA
  have hsp := hspec ds hlen
  have hcall := (law xs h1).calls (inHeap W) W args.toList (fun _ hb => hb) h2
  refine Calls.mono (by simpa using hcall) ?_
  rintro e W' ⟨x, rfl, hbel, hr⟩
  have hx : x = .bool true := by
    cases hr with | d1 h => cases h with | one h => cases h; rfl
  subst hx
  refine ⟨_, rfl, ds, [], p ++ [], [], p, [], hW, ?_, ?_, ?_, hbel.frame _, fun h => by cases h⟩
  · rw [List.append_nil, hsp, hres]
    exact Go.ChangeShapes.trodAll_mk1 (Go.RowKit.shut_bool hb true)
  · rw [List.append_nil, hsp]
    exact args_carry hl hrd hA (fun x hx => hbel.same (hW.lt x (by simpa using hx))) (fun x hx => by simpa using hW.lt x (by simpa using hx))
  · rw [List.append_nil, hsp, hvars]
    rfl
end Go.AM

namespace Go.AM
open Go Go.Proofs Go.Proofs.Ytcmbjbmghoopcaa
set_option maxRecDepth 100000

theorem wf_i64 {n : Int} (h : (Lit.int .i64 n).wf = true) : -9223372036854775808 ≤ n ∧ n < 9223372036854775808 := by
  simp only [Lit.wf, IntKind.has, IntKind.min, IntKind.max, IntKind.bits, IntKind.signed] at h
  simp at h
  omega
theorem conf_int {v : List PV} (h : Conf Try.prog 3 v) : ∃ n : Int, v = [.int .i64 n] ∧ -9223372036854775808 ≤ n ∧ n < 9223372036854775808 := by
  have hu := Try.underlying3
  cases h with
  | bool b ht => rw [hu] at ht; cases ht
  | int n ht hw => rw [hu] at ht; cases ht; exact ⟨n, rfl, wf_i64 hw⟩
  | str s ht => rw [hu] at ht; cases ht
  | sl rows ht h => rw [hu] at ht; cases ht
  | st parts ht h => rw [hu] at ht; cases ht
def i64s (s : List Int) : Prop := ∀ n ∈ s, -9223372036854775808 ≤ n ∧ n < 9223372036854775808
theorem conf_rows : ∀ {rows : List (List PV)}, (∀ r ∈ rows, Conf Try.prog 3 r) → ∃ s : List Int, rows = rI s ∧ i64s s
  | [], _ => ⟨[], rfl, fun n hn => by simp at hn⟩
  | r :: rows, h => by
    obtain ⟨n, rfl, hn⟩ := conf_int (h r (by simp))
    obtain ⟨s, rfl, hs⟩ := conf_rows (rows := rows) fun r hr => h r (by simp [hr])
    exact ⟨n :: s, rfl, fun m hm => by
      rcases List.mem_cons.1 hm with rfl | hm
      · exact hn
      · exact hs m hm⟩
theorem conf_ints {v : List PV} (h : Conf Try.prog 22 v) : ∃ s : List Int, v = [eI s] ∧ i64s s := by
  have hu := Try.underlying22
  cases h with
  | bool b ht => rw [hu] at ht; cases ht
  | int n ht hw => rw [hu] at ht; cases ht
  | str s ht => rw [hu] at ht; cases ht
  | sl rows ht h =>
    rw [hu] at ht; cases ht
    obtain ⟨s, rfl, hs⟩ := conf_rows h
    exact ⟨s, rfl, hs⟩
  | st parts ht h => rw [hu] at ht; cases ht
theorem conf_T {v : List PV} (h : Conf Try.prog 24 v) : ∃ s d : List Int, v = [eI s, eI d] ∧ i64s s ∧ i64s d := by
  have hu := Try.underlying24
  cases h with
  | bool b ht => rw [hu] at ht; cases ht
  | int n ht hw => rw [hu] at ht; cases ht
  | str s ht => rw [hu] at ht; cases ht
  | sl rows ht h => rw [hu] at ht; cases ht
  | st parts ht h =>
    rw [hu] at ht; cases ht
    cases h with | cons h1 h => cases h with | cons h2 h => cases h with | nil =>
      obtain ⟨s, rfl, hs⟩ := conf_ints h1
      obtain ⟨d, rfl, hd⟩ := conf_ints h2
      exact ⟨s, d, rfl, hs, hd⟩
theorem arg_T {d : DV} (h : ArgOk Try.prog 24 d) : ∃ s e : List Int, d = dT s e ∧ i64s s ∧ i64s e := by
  unfold ArgOk at h
  rw [Try.underlying24] at h
  obtain ⟨vs, rfl, h⟩ := h
  obtain ⟨s, e, rfl, hs, he⟩ := conf_T h
  exact ⟨s, e, rfl, hs, he⟩
theorem arg_N {d : DV} (h : ArgOk Try.prog 3 d) : ∃ n : Int, d = dN n ∧ -9223372036854775808 ≤ n ∧ n < 9223372036854775808 := by
  unfold ArgOk at h
  rw [Try.underlying3] at h
  obtain ⟨v, rfl, h⟩ := h
  obtain ⟨s, e, hs⟩ := conf_int h
  cases e
  exact ⟨s, rfl, hs⟩
theorem own : ownKnob Try.prog.godebug = none := by kernel_rfl
theorem laidOut : laidOutB Try.prog = true := by kernel_rfl
end Go.AM

