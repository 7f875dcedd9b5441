import Derived.Test.YtcmbjbmghoopcaaMv4
set_option linter.unusedVariables false
set_option linter.unusedSimpArgs false
namespace Go.AM
open Go Go.Proofs
set_option maxRecDepth 100000
set_option maxHeartbeats 8000000

theorem T_cutX {G : Ground} {F : Fence} {n id : Nat} {Q : Exit → AS → Prop} {s S : AS} {c b : ACode} (h : T G F n c (fun e s' => e = .exit id ∧ Weak G s' S) s) (k : T G F n b Q S) : T G F n c (inB id (Then G F n b Q)) s :=
  T_mono h fun e s' ⟨h1, h2⟩ => by subst h1; exact inB_exit (T_then (T_weak h2 k))
theorem div_lin {b H Lh L U U1 U0 U2 A B R2 : Nat} (hU : U = H + Lh) (hL : L = U1 * b + U0) (h1 : U * b + U1 = A + U2) (h2 : U2 * b + U0 = B + R2) :
    H * (b * b) + (Lh * (b * b) + L) = A * b + B + R2 := by
  have e : H * (b * b) + (Lh * (b * b) + L) = (U * b + U1) * b + U0 := by
    rw [hU, hL]; simp only [Nat.add_mul, Nat.mul_assoc, Nat.add_assoc]
  rw [e, h1, Nat.add_mul, Nat.add_assoc, h2, Nat.add_assoc]
theorem kn_next {i r v : Nat} (h : i * 2147483648 ≤ r) (hv : 2147483648 ≤ v) : (i + 1) * 2147483648 ≤ r + v := by
  rw [Nat.add_mul, Nat.one_mul]; exact Nat.add_le_add h hv
theorem kn_lt {i r : Nat} (h : i * 2147483648 ≤ r) (h2 : r < 4294967296) : i < 2 :=
  Nat.lt_of_mul_lt_mul_right (Nat.lt_of_le_of_lt h h2 : i * 2147483648 < 2 * 2147483648)
theorem div_tail {T q y s Y R2 : Nat} (hY : Y = y * 2 ^ s) (e1 : T * 2 ^ s = (q * y) * 2 ^ s + R2) (h3 : R2 < Y) (hy : 0 < y) : T / y = q ∧ T % y = R2 / 2 ^ s := by
  have hp : 0 < 2 ^ s := Nat.two_pow_pos s
  have e2 : R2 = (T - q * y) * 2 ^ s := by rw [Nat.sub_mul]; omega
  have hle : q * y ≤ T := Nat.le_of_mul_le_mul_right (by omega : (q * y) * 2 ^ s ≤ T * 2 ^ s) hp
  have e3 : R2 / 2 ^ s = T - q * y := by rw [e2, Nat.mul_div_cancel _ hp]
  have e4 : T - q * y < y := by
    rw [e2, hY] at h3
    exact Nat.lt_of_mul_lt_mul_right h3
  have e5 : T = y * q + (T - q * y) := by rw [Nat.mul_comm y q]; omega
  rw [e3]
  generalize T - q * y = r at *
  subst e5
  exact ⟨by rw [Nat.mul_add_div hy, Nat.div_eq_of_lt e4]; rfl, by rw [Nat.mul_add_mod, Nat.mod_eq_of_lt e4]⟩
theorem div_parts {hi lo y s Y U L Lh U1 U0 U2 R2 q1 q0 : Nat} (hY : Y = y * 2 ^ s) (hU : U = hi * 2 ^ s + Lh) (hl : lo * 2 ^ s = Lh * 18446744073709551616 + L) (hL : L = U1 * 4294967296 + U0)
    (h1 : U * 4294967296 + U1 = q1 * Y + U2) (h2 : U2 * 4294967296 + U0 = q0 * Y + R2) (h3 : R2 < Y) (hy : 0 < y) :
    (hi * 18446744073709551616 + lo) / y = q1 * 4294967296 + q0 ∧ (hi * 18446744073709551616 + lo) % y = R2 / 2 ^ s := by
  refine div_tail hY ?_ h3 hy
  have a1 : (hi * 18446744073709551616 + lo) * 2 ^ s = (hi * 2 ^ s) * 18446744073709551616 + lo * 2 ^ s := by
    rw [Nat.add_mul, Nat.mul_right_comm]
  have a2 : ((q1 * 4294967296 + q0) * y) * 2 ^ s = (q1 * Y) * 4294967296 + q0 * Y := by
    rw [hY, Nat.mul_assoc, Nat.add_mul, Nat.mul_right_comm q1]
  rw [a1, a2, hl]
  exact div_lin (b := 4294967296) hU hL h1 h2
theorem wrap_sub {N P R : Nat} (h : N = P + R) (hR : R < 18446744073709551616) : IntKind.u64.wrap (((N % 18446744073709551616 : Nat) : Int) - ((P % 18446744073709551616 : Nat) : Int)) = (R : Int) := by
  rw [u64_eq]; omega
theorem wrap_mulB (a : Nat) : IntKind.u64.wrap ((a : Int) * 4294967296) = ((a * 4294967296 % 18446744073709551616 : Nat) : Int) := by
  rw [u64_eq]; omega
theorem wrap_mulN (a b : Nat) : IntKind.u64.wrap ((a : Int) * (b : Int)) = ((a * b % 18446744073709551616 : Nat) : Int) := by
  rw [u64_eq, ← Int.natCast_mul]
  generalize a * b = m
  omega
theorem wrap_addM (a b : Nat) : IntKind.u64.wrap (((a % 18446744073709551616 : Nat) : Int) + (b : Int)) = (((a + b) % 18446744073709551616 : Nat) : Int) := by
  rw [u64_eq]; omega
theorem low_B {q : Nat} (h : q < 4294967296) : q * 4294967296 % 18446744073709551616 = q * 4294967296 := by omega
theorem low_BB {q r : Nat} (h : q < 4294967296) (h2 : r < 4294967296) : IntKind.u64.wrap (((q * 4294967296 : Nat) : Int) + (r : Int)) = ((q * 4294967296 + r : Nat) : Int) := by
  rw [← Int.natCast_add]; exact u64_nat (by omega)
theorem p_Div64_1 {hi lo y : Nat} (hl : lo < 18446744073709551616) (hy : y < 18446744073709551616) (h0 : 0 < hi) (h1 : hi < y) :
    PureC Try.prog fi_math_bits_Div64 [dU hi, dU lo, dU y] (dUU ((hi * 18446744073709551616 + lo) / y) ((hi * 18446744073709551616 + lo) % y)) := by
  refine pure_math_bits_Div64 (by simp) fun G hP hn => ?_
  unfold a_math_bits_Div64
  have c1 : ((y : Int) == 0) = false := by simp; omega
  have c2 : ¬ (y : Int) ≤ hi := by omega
  have c3 : ((hi : Int) == 0) = false := by simp; omega
  have kl := p_LZ64 hy
  obtain ⟨p1, p2, p3, p4⟩ := lenN_pow (x := y) (by omega) hy
  obtain ⟨s, hs⟩ : ∃ s, s = lzN y := ⟨_, rfl⟩
  have hs64 : s ≤ 63 := by rw [hs]; unfold lzN; omega
  rw [show 64 - lenN y = s from by rw [hs]; rfl] at p3 p4
  rw [← hs] at kl
  have es : IntKind.u64.wrap (s : Int) = (s : Int) := u64_nat (by omega)
  have hp : 0 < 2 ^ s := Nat.two_pow_pos s
  obtain ⟨Y, hY⟩ : ∃ Y, Y = y * 2 ^ s := ⟨_, rfl⟩
  have f1 : shlZ .u64 (y : Int) (s : Int) = (Y : Int) := by rw [hY]; exact shlN (by omega) p4
  rw [← hY] at p3 p4
  obtain ⟨V1, hV1⟩ : ∃ V1, V1 = Y / 4294967296 := ⟨_, rfl⟩
  obtain ⟨V0, hV0⟩ : ∃ V0, V0 = Y % 4294967296 := ⟨_, rfl⟩
  have f2 : shrZ .u64 (Y : Int) 32 = (V1 : Int) := by rw [hV1]; exact shr32 Y
  have f3 : andZ .u64 (Y : Int) 4294967295 = (V0 : Int) := by rw [hV0]; exact u64_and p4
  have hYV : Y = V1 * 4294967296 + V0 := by omega
  obtain ⟨Lh, hLh⟩ : ∃ Lh, Lh = lo / 2 ^ (64 - s) := ⟨_, rfl⟩
  have hpp : 2 ^ (64 - s) * 2 ^ s = 18446744073709551616 := by rw [← Nat.pow_add, show 64 - s + s = 64 from by omega]
  have hLhs : Lh < 2 ^ s := by
    rw [hLh, Nat.div_lt_iff_lt_mul (Nat.two_pow_pos _), Nat.mul_comm, hpp]; exact hl
  have hHy : hi * 2 ^ s + 2 ^ s ≤ Y := by
    have := Nat.mul_le_mul_right (2 ^ s) (show hi + 1 ≤ y from h1)
    rw [Nat.add_mul, Nat.one_mul] at this
    rw [hY]; exact this
  have f4 : shlZ .u64 (hi : Int) (s : Int) = ((hi * 2 ^ s : Nat) : Int) := shlN (by omega) (by omega)
  have f5 : IntKind.u64.wrap (64 - (s : Int)) = ((64 - s : Nat) : Int) := by
    rw [show (64 : Int) - (s : Int) = ((64 - s : Nat) : Int) from by omega]; exact u64_nat (by omega)
  have f6 : shrZ .u64 (lo : Int) ((64 - s : Nat) : Int) = (Lh : Int) := by rw [hLh]; exact shrN (by omega)
  obtain ⟨U, hU⟩ : ∃ U, U = hi * 2 ^ s + Lh := ⟨_, rfl⟩
  have f7 : orZ .u64 ((hi * 2 ^ s : Nat) : Int) (Lh : Int) = (U : Int) := by rw [hU]; exact orN (by omega) (by omega) hLhs
  obtain ⟨L, hL⟩ : ∃ L, L = lo * 2 ^ s % 18446744073709551616 := ⟨_, rfl⟩
  have f8 : shlZ .u64 (lo : Int) (s : Int) = (L : Int) := by rw [hL]; exact shlM (by omega)
  have hlo : lo * 2 ^ s = Lh * 18446744073709551616 + L := by
    have : lo * 2 ^ s / 18446744073709551616 = Lh := by
      rw [hLh, ← hpp, Nat.mul_div_mul_right _ _ hp]
    have := Nat.div_add_mod (lo * 2 ^ s) 18446744073709551616
    omega
  have hL64 : L < 18446744073709551616 := by rw [hL]; exact Nat.mod_lt _ (by decide)
  obtain ⟨U1, hU1⟩ : ∃ U1, U1 = L / 4294967296 := ⟨_, rfl⟩
  obtain ⟨U0, hU0⟩ : ∃ U0, U0 = L % 4294967296 := ⟨_, rfl⟩
  have f9 : shrZ .u64 (L : Int) 32 = (U1 : Int) := by rw [hU1]; exact shr32 L
  have f10 : andZ .u64 (L : Int) 4294967295 = (U0 : Int) := by rw [hU0]; exact u64_and hL64
  have hLU : L = U1 * 4294967296 + U0 := by omega
  have K : Knuth V1 V0 U U1 := ⟨by omega, by omega, by omega, by omega, by omega⟩
  have hU0b : U0 < 4294967296 := by omega
  clear hLh hL hV1 hV0 hU1 hU0 hs p1 p2
  have v0 : ((V1 : Int) = 0) = False := by have := K.h1; simp; omega
  have K1 := K.start
  have hQ0 := Nat.div_le_self U V1
  obtain ⟨Q0, hQ⟩ : ∃ Q0, Q0 = U / V1 := ⟨_, rfl⟩
  obtain ⟨R0, hR⟩ : ∃ R0, R0 = U % V1 := ⟨_, rfl⟩
  rw [← hQ, ← hR] at K1
  have hU64 : U < 18446744073709551616 := by omega
  have f11 : IntKind.u64.wrap ((U : Int).tdiv (V1 : Int)) = (Q0 : Int) := by
    rw [Int.tdiv_eq_ediv_of_nonneg (by omega), ← Int.natCast_ediv, ← hQ]
    exact u64_nat (by omega)
  have f12 : IntKind.u64.wrap ((Q0 : Int) * (V1 : Int)) = ((Q0 * V1 : Nat) : Int) := by rw [← Int.natCast_mul]; exact u64_nat (by omega)
  have f13 : IntKind.u64.wrap ((U : Int) - ((Q0 * V1 : Nat) : Int)) = (R0 : Int) := by
    rw [show (U : Int) - ((Q0 * V1 : Nat) : Int) = (R0 : Int) from by omega]; exact u64_nat (by omega)
  refine go (aa c1 <| aa c2 <| aa c3 <| aa @es <| aa f1 <| aa f2 <| aa f3 <| aa f4 <| aa f5 <| aa f6 <| aa f7 <| aa f8 <| aa f9 <| aa f10 <| aa v0 <| aa f11 <| aa f12 f13) kl ?_
  refine T_cutX (S := { env := [(2, .one (.p (.int .u64 Y))), (8, .one (.p (.int .u64 s))), (9, .one (.p (.int .u64 V1))), (10, .one (.p (.int .u64 V0))), (11, .one (.p (.int .u64 U))), (13, .one (.p (.int .u64 U1))), (14, .one (.p (.int .u64 U0))), (15, .one (.p (.int .u64 K.q))), (16, .one (.p (.int .u64 ((U - K.q * V1 : Nat) : Int))))], σ := [] }) ?_ ?_
  · refine T_for 2 (fun _ (a : Nat × Nat) => { env := [(2, .one (.p (.int .u64 Y))), (8, .one (.p (.int .u64 s))), (9, .one (.p (.int .u64 V1))), (10, .one (.p (.int .u64 V0))), (11, .one (.p (.int .u64 U))), (13, .one (.p (.int .u64 U1))), (14, .one (.p (.int .u64 U0))), (15, .one (.p (.int .u64 a.1))), (16, .one (.p (.int .u64 a.2)))], σ := [] })
      (fun i a => a.1 * V1 + a.2 = U ∧ K.q ≤ a.1 ∧ a.2 < 4294967296 ∧ i * 2147483648 ≤ a.2 ∧ a.1 ≤ Q0) (Q0, R0) ⟨K1.1, K1.2.1, K1.2.2, by rw [Nat.zero_mul]; exact Nat.zero_le _, Nat.le_refl _⟩ (.refl _ _) fun i a hi ha => ?_
    obtain ⟨q, r⟩ := a
    obtain ⟨a1, a2, a3, a4, a5⟩ := ha
    simp only at a1 a2 a3 a4 a5
    have hv := K.h1
    have hv2 := K.h2
    have hv0 := K.h3
    have hK := K.q_lt
    have hiff := K.lt_iff a1
    have dec : K.q < q → (q - 1) * V1 + (r + V1) = U := fun h => by
      have : q * V1 = (q - 1) * V1 + V1 := by
        conv => lhs; rw [show q = (q - 1) + 1 from by omega, Nat.add_mul, Nat.one_mul]
      omega
    have w1 : 1 ≤ q → IntKind.u64.wrap ((q : Int) - 1) = ((q - 1 : Nat) : Int) := fun h => by
      rw [show (q : Int) - 1 = ((q - 1 : Nat) : Int) from by omega]; exact u64_nat (by omega)
    have w2 : IntKind.u64.wrap ((r : Int) + (V1 : Int)) = ((r + V1 : Nat) : Int) := by rw [← Int.natCast_add]; exact u64_nat (by omega)
    have stop : ∀ q' r' : Nat, q' * V1 + r' = U → q' = K.q → r' = U - K.q * V1 := fun q' r' h1 h2 => by subst h2; omega
    by_cases b1 : 4294967296 ≤ q
    · have b1' : (q : Int) ≥ 4294967296 := by omega
      have hlt : K.q < q := by omega
      have hd := dec hlt
      have w1' := w1 (by omega)
      by_cases b2 : 4294967296 ≤ r + V1
      · have b2' : ((r + V1 : Nat) : Int) ≥ 4294967296 := by omega
        have hsm := K.small hd b2
        refine go (aa b1' <| aa w1' <| aa w2 b2') trivial ?_
        refine ⟨rfl, ?_⟩
        rw [← stop _ _ hd (by omega), show K.q = q - 1 from by omega]
        exact Weak.pick [2, 8, 9, 10, 11, 13, 14, 15, 16]
      · have b2' : ¬ ((r + V1 : Nat) : Int) ≥ 4294967296 := by omega
        refine go (aa b1' <| aa w1' <| aa w2 b2') trivial ?_
        exact rnd_next (kn_lt a4 a3) (q - 1, r + V1) ⟨hd, Nat.le_sub_one_of_lt hlt, Nat.lt_of_not_le b2, kn_next a4 hv, Nat.le_trans (Nat.sub_le _ _) a5⟩ (Weak.pick [2, 8, 9, 10, 11, 13, 14, 15, 16])
    · have b1' : ¬ (q : Int) ≥ 4294967296 := by omega
      have hA : q * V0 ≤ 4294967295 * V0 := Nat.mul_le_mul_right V0 (by omega)
      have w3 : IntKind.u64.wrap ((q : Int) * (V0 : Int)) = ((q * V0 : Nat) : Int) := by rw [← Int.natCast_mul]; exact u64_nat (by omega)
      have w4 : IntKind.u64.wrap (4294967296 * (r : Int)) = ((4294967296 * r : Nat) : Int) := by
        rw [show 4294967296 * (r : Int) = ((4294967296 * r : Nat) : Int) from by omega]; exact u64_nat (by omega)
      have w5 : IntKind.u64.wrap (((4294967296 * r : Nat) : Int) + (U1 : Int)) = ((4294967296 * r + U1 : Nat) : Int) := by
        have := K.h5
        rw [← Int.natCast_add]; exact u64_nat (by omega)
      by_cases b3 : q * V0 > 4294967296 * r + U1
      · have b3' : ((q * V0 : Nat) : Int) > ((4294967296 * r + U1 : Nat) : Int) := by omega
        have hlt : K.q < q := hiff.2 b3
        have hd := dec hlt
        have w1' := w1 (by omega)
        by_cases b2 : 4294967296 ≤ r + V1
        · have b2' : ((r + V1 : Nat) : Int) ≥ 4294967296 := by omega
          have hsm := K.small hd b2
          refine go (aa b1' <| aa w1' <| aa w2 <| aa w3 <| aa w4 <| aa w5 <| aa b2' b3') trivial ?_
          refine ⟨rfl, ?_⟩
          rw [← stop _ _ hd (by omega), show K.q = q - 1 from by omega]
          exact Weak.pick [2, 8, 9, 10, 11, 13, 14, 15, 16]
        · have b2' : ¬ ((r + V1 : Nat) : Int) ≥ 4294967296 := by omega
          refine go (aa b1' <| aa w1' <| aa w2 <| aa w3 <| aa w4 <| aa w5 <| aa b2' b3') trivial ?_
          exact rnd_next (kn_lt a4 a3) (q - 1, r + V1) ⟨hd, Nat.le_sub_one_of_lt hlt, Nat.lt_of_not_le b2, kn_next a4 hv, Nat.le_trans (Nat.sub_le _ _) a5⟩ (Weak.pick [2, 8, 9, 10, 11, 13, 14, 15, 16])
      · have b3' : ¬ ((q * V0 : Nat) : Int) > ((4294967296 * r + U1 : Nat) : Int) := by omega
        have hle : ¬ K.q < q := fun h => b3 (hiff.1 h)
        refine go (aa b1' <| aa w3 <| aa w4 <| aa w5 b3') trivial ?_
        refine ⟨rfl, ?_⟩
        rw [← stop _ _ a1 (by omega), show K.q = q from by omega]
        exact Weak.pick [2, 8, 9, 10, 11, 13, 14, 15, 16]
  have hq1b := K.q_lt
  obtain ⟨q1, hq1⟩ : ∃ q1, q1 = K.q := ⟨_, rfl⟩
  have KR := K.rest
  rw [← hYV, ← hq1] at KR
  rw [← hq1] at hq1b
  obtain ⟨U2, hU2⟩ : ∃ U2, U2 = (U * 4294967296 + U1) % Y := ⟨_, rfl⟩
  rw [← hU2] at KR
  rw [← hq1]
  have t1 := wrap_mulB U
  have t2 := wrap_addM (U * 4294967296) U1
  have t3 := wrap_mulN q1 Y
  have t4 := wrap_sub KR.1 (Nat.lt_trans KR.2 p4)
  have K2 : Knuth V1 V0 U2 U0 := ⟨K.h1, K.h2, K.h3, by rw [← hYV]; exact KR.2, hU0b⟩
  have K21 := K2.start
  have hQ2' := Nat.div_le_self U2 V1
  have hU264 : U2 < 18446744073709551616 := Nat.lt_trans KR.2 p4
  obtain ⟨Q2, hQ2⟩ : ∃ Q2, Q2 = U2 / V1 := ⟨_, rfl⟩
  obtain ⟨R2, hR2⟩ : ∃ R2, R2 = U2 % V1 := ⟨_, rfl⟩
  rw [← hQ2, ← hR2] at K21
  have g11 : IntKind.u64.wrap ((U2 : Int).tdiv (V1 : Int)) = (Q2 : Int) := by
    rw [Int.tdiv_eq_ediv_of_nonneg (by omega), ← Int.natCast_ediv, ← hQ2]
    exact u64_nat (by omega)
  have g12 : IntKind.u64.wrap ((Q2 : Int) * (V1 : Int)) = ((Q2 * V1 : Nat) : Int) := by rw [← Int.natCast_mul]; exact u64_nat (by omega)
  have g13 : IntKind.u64.wrap ((U2 : Int) - ((Q2 * V1 : Nat) : Int)) = (R2 : Int) := by
    rw [show (U2 : Int) - ((Q2 * V1 : Nat) : Int) = (R2 : Int) from by omega]; exact u64_nat (by omega)
  refine go (aa t1 <| aa t2 <| aa t3 <| aa t4 <| aa v0 <| aa g11 <| aa g12 g13) trivial ?_
  refine T_cutX (S := { env := [(2, .one (.p (.int .u64 Y))), (8, .one (.p (.int .u64 s))), (9, .one (.p (.int .u64 V1))), (10, .one (.p (.int .u64 V0))), (14, .one (.p (.int .u64 U0))), (15, .one (.p (.int .u64 q1))), (17, .one (.p (.int .u64 U2))), (18, .one (.p (.int .u64 K2.q))), (16, .one (.p (.int .u64 ((U2 - K2.q * V1 : Nat) : Int))))], σ := [] }) ?_ ?_
  · refine T_for 2 (fun _ (a : Nat × Nat) => { env := [(2, .one (.p (.int .u64 Y))), (8, .one (.p (.int .u64 s))), (9, .one (.p (.int .u64 V1))), (10, .one (.p (.int .u64 V0))), (14, .one (.p (.int .u64 U0))), (15, .one (.p (.int .u64 q1))), (17, .one (.p (.int .u64 U2))), (18, .one (.p (.int .u64 a.1))), (16, .one (.p (.int .u64 a.2)))], σ := [] })
      (fun i a => a.1 * V1 + a.2 = U2 ∧ K2.q ≤ a.1 ∧ a.2 < 4294967296 ∧ i * 2147483648 ≤ a.2 ∧ a.1 ≤ Q2) (Q2, R2) ⟨K21.1, K21.2.1, K21.2.2, by rw [Nat.zero_mul]; exact Nat.zero_le _, Nat.le_refl _⟩ (Weak.pick [2, 8, 9, 10, 14, 15, 17, 18, 16]) fun i a hi ha => ?_
    obtain ⟨q, r⟩ := a
    obtain ⟨a1, a2, a3, a4, a5⟩ := ha
    simp only at a1 a2 a3 a4 a5
    have hv := K2.h1
    have hv2 := K2.h2
    have hv0 := K2.h3
    have hK := K2.q_lt
    have hiff := K2.lt_iff a1
    have dec : K2.q < q → (q - 1) * V1 + (r + V1) = U2 := fun h => by
      have : q * V1 = (q - 1) * V1 + V1 := by
        conv => lhs; rw [show q = (q - 1) + 1 from by omega, Nat.add_mul, Nat.one_mul]
      omega
    have w1 : 1 ≤ q → IntKind.u64.wrap ((q : Int) - 1) = ((q - 1 : Nat) : Int) := fun h => by
      rw [show (q : Int) - 1 = ((q - 1 : Nat) : Int) from by omega]; exact u64_nat (by omega)
    have w2 : IntKind.u64.wrap ((r : Int) + (V1 : Int)) = ((r + V1 : Nat) : Int) := by rw [← Int.natCast_add]; exact u64_nat (by omega)
    have stop : ∀ q' r' : Nat, q' * V1 + r' = U2 → q' = K2.q → r' = U2 - K2.q * V1 := fun q' r' h1 h2 => by subst h2; omega
    by_cases b1 : 4294967296 ≤ q
    · have b1' : (q : Int) ≥ 4294967296 := by omega
      have hlt : K2.q < q := by omega
      have hd := dec hlt
      have w1' := w1 (by omega)
      by_cases b2 : 4294967296 ≤ r + V1
      · have b2' : ((r + V1 : Nat) : Int) ≥ 4294967296 := by omega
        have hsm := K2.small hd b2
        refine go (aa b1' <| aa w1' <| aa w2 b2') trivial ?_
        refine ⟨rfl, ?_⟩
        rw [← stop _ _ hd (by omega), show K2.q = q - 1 from by omega]
        exact Weak.pick [2, 8, 9, 10, 14, 15, 17, 18, 16]
      · have b2' : ¬ ((r + V1 : Nat) : Int) ≥ 4294967296 := by omega
        refine go (aa b1' <| aa w1' <| aa w2 b2') trivial ?_
        exact rnd_next (kn_lt a4 a3) (q - 1, r + V1) ⟨hd, Nat.le_sub_one_of_lt hlt, Nat.lt_of_not_le b2, kn_next a4 hv, Nat.le_trans (Nat.sub_le _ _) a5⟩ (Weak.pick [2, 8, 9, 10, 14, 15, 17, 18, 16])
    · have b1' : ¬ (q : Int) ≥ 4294967296 := by omega
      have hA : q * V0 ≤ 4294967295 * V0 := Nat.mul_le_mul_right V0 (by omega)
      have w3 : IntKind.u64.wrap ((q : Int) * (V0 : Int)) = ((q * V0 : Nat) : Int) := by rw [← Int.natCast_mul]; exact u64_nat (by omega)
      have w4 : IntKind.u64.wrap (4294967296 * (r : Int)) = ((4294967296 * r : Nat) : Int) := by
        rw [show 4294967296 * (r : Int) = ((4294967296 * r : Nat) : Int) from by omega]; exact u64_nat (by omega)
      have w5 : IntKind.u64.wrap (((4294967296 * r : Nat) : Int) + (U0 : Int)) = ((4294967296 * r + U0 : Nat) : Int) := by
        have := K2.h5
        rw [← Int.natCast_add]; exact u64_nat (by omega)
      by_cases b3 : q * V0 > 4294967296 * r + U0
      · have b3' : ((q * V0 : Nat) : Int) > ((4294967296 * r + U0 : Nat) : Int) := by omega
        have hlt : K2.q < q := hiff.2 b3
        have hd := dec hlt
        have w1' := w1 (by omega)
        by_cases b2 : 4294967296 ≤ r + V1
        · have b2' : ((r + V1 : Nat) : Int) ≥ 4294967296 := by omega
          have hsm := K2.small hd b2
          refine go (aa b1' <| aa w1' <| aa w2 <| aa w3 <| aa w4 <| aa w5 <| aa b2' b3') trivial ?_
          refine ⟨rfl, ?_⟩
          rw [← stop _ _ hd (by omega), show K2.q = q - 1 from by omega]
          exact Weak.pick [2, 8, 9, 10, 14, 15, 17, 18, 16]
        · have b2' : ¬ ((r + V1 : Nat) : Int) ≥ 4294967296 := by omega
          refine go (aa b1' <| aa w1' <| aa w2 <| aa w3 <| aa w4 <| aa w5 <| aa b2' b3') trivial ?_
          exact rnd_next (kn_lt a4 a3) (q - 1, r + V1) ⟨hd, Nat.le_sub_one_of_lt hlt, Nat.lt_of_not_le b2, kn_next a4 hv, Nat.le_trans (Nat.sub_le _ _) a5⟩ (Weak.pick [2, 8, 9, 10, 14, 15, 17, 18, 16])
      · have b3' : ¬ ((q * V0 : Nat) : Int) > ((4294967296 * r + U0 : Nat) : Int) := by omega
        have hle : ¬ K2.q < q := fun h => b3 (hiff.1 h)
        refine go (aa b1' <| aa w3 <| aa w4 <| aa w5 b3') trivial ?_
        refine ⟨rfl, ?_⟩
        rw [← stop _ _ a1 (by omega), show K2.q = q from by omega]
        exact Weak.pick [2, 8, 9, 10, 14, 15, 17, 18, 16]
  have hq0b := K2.q_lt
  obtain ⟨q0, hq0⟩ : ∃ q0, q0 = K2.q := ⟨_, rfl⟩
  have KR2 := K2.rest
  rw [← hYV, ← hq0] at KR2
  rw [← hq0] at hq0b
  obtain ⟨X2, hX2⟩ : ∃ X2, X2 = (U2 * 4294967296 + U0) % Y := ⟨_, rfl⟩
  rw [← hX2] at KR2
  rw [← hq0]
  obtain ⟨r1, r2⟩ := div_parts hY hU hlo hLU KR.1 KR2.1 KR2.2 (by omega)
  have s1 := wrap_mulB q1
  rw [low_B hq1b] at s1
  have s2 := low_BB hq1b hq0b
  have s3 := wrap_mulB U2
  have s4 := wrap_addM (U2 * 4294967296) U0
  have s5 := wrap_mulN q0 Y
  have s6 := wrap_sub KR2.1 (Nat.lt_trans KR2.2 p4)
  have s7 : shrZ .u64 (X2 : Int) (s : Int) = ((X2 / 2 ^ s : Nat) : Int) := shrN (by omega)
  rw [r1, r2]
  refine go (aa s1 <| aa s2 <| aa s3 <| aa s4 <| aa s5 <| aa s6 s7) trivial ?_
  exact ends_ret rfl rfl rfl rfl
end Go.AM

namespace Go.AM
open Go Go.Proofs
set_option maxRecDepth 100000
set_option maxHeartbeats 4000000

theorem p_Div64 {hi lo y : Nat} (hl : lo < 18446744073709551616) (hy : y < 18446744073709551616) (h1 : hi < y) :
    PureC Try.prog fi_math_bits_Div64 [dU hi, dU lo, dU y] (dUU ((hi * 18446744073709551616 + lo) / y) ((hi * 18446744073709551616 + lo) % y)) := by
  by_cases h0 : hi = 0
  · subst h0
    rw [Nat.zero_mul, Nat.zero_add]
    exact p_Div64_0 hl hy h1
  · exact p_Div64_1 hl hy (by omega) h1
def fDiv (a b : Int) : Int × Int := if b = 0 then (0, 11) else rng (sgn (a.natAbs * 4294967296 / b.natAbs) (decide (a.natAbs * 4294967296 % b.natAbs ≠ 0)) (apart a b))
theorem div_words {A B : Nat} (hB : 0 < B) : A / 4294967296 / B * 18446744073709551616 + (A / 4294967296 % B * 18446744073709551616 + A % 4294967296 * 4294967296) / B = A * 4294967296 / B ∧
    (A / 4294967296 % B * 18446744073709551616 + A % 4294967296 * 4294967296) % B = A * 4294967296 % B := by
  have e1 := Nat.div_add_mod (A / 4294967296) B
  have e2 : A * 4294967296 = (A / 4294967296) * 18446744073709551616 + A % 4294967296 * 4294967296 := by omega
  have e3 : A * 4294967296 = B * ((A / 4294967296 / B) * 18446744073709551616) + (A / 4294967296 % B * 18446744073709551616 + A % 4294967296 * 4294967296) := by
    rw [e2, ← Nat.mul_assoc, ← Nat.add_assoc, ← Nat.add_mul, e1]
  rw [e3, Nat.mul_add_div hB, Nat.mul_add_mod]
  exact ⟨rfl, rfl⟩
theorem div_word {A B : Nat} (hB : 0 < B) : (A / 4294967296 % B * 18446744073709551616 + A % 4294967296 * 4294967296) / B < 18446744073709551616 := by
  have h1 := Nat.mod_lt (A / 4294967296) hB
  rw [Nat.div_lt_iff_lt_mul hB]
  generalize A / 4294967296 % B = h at *
  omega
theorem div_plan {A B : Nat} (hB : 0 < B) (hA : A ≤ 9223372036854775808) (hB2 : B ≤ 9223372036854775808) : ∃ hi lo w0 hm w1 rs : Nat, shrZ .u64 (A : Int) 32 = (hi : Int) ∧ shlZ .u64 (A : Int) 32 = (lo : Int) ∧ IntKind.u64.wrap ((hi : Int).tdiv (B : Int)) = (w0 : Int) ∧ (hi : Int).tmod (B : Int) = (hm : Int) ∧
    PureC Try.prog fi_math_bits_Div64 [dU hm, dU lo, dU B] (dUU w1 rs) ∧ w1 < 18446744073709551616 ∧ w0 < 18446744073709551615 ∧ w0 * 18446744073709551616 + w1 = A * 4294967296 / B ∧ rs = A * 4294967296 % B := by
  have hm := Nat.mod_lt (A / 4294967296) hB
  have hq := Nat.div_le_self (A / 4294967296) B
  have hA2 : A / 4294967296 < 4294967296 := by omega
  refine ⟨_, _, A / 4294967296 / B, A / 4294967296 % B, _, _, shr32 A, shl32 A, ?_, ?_, p_Div64 (by omega) (by omega) hm, div_word hB, by omega, (div_words hB).1, (div_words hB).2⟩
  · rw [Int.tdiv_eq_ediv_of_nonneg (by omega), ← Int.natCast_ediv]
    exact u64_nat (by omega)
  · rw [Int.tmod_eq_emod_of_nonneg (by omega)]; exact (Int.natCast_emod _ _).symm
theorem p_fix_Div {a b : Int} (ha : I64 a) (hb : I64 b) : PureC Try.prog fi_fix_Div [dN a, dN b] (dNE (fDiv a b)) := by
  refine pure_fix_Div (by simp) fun G hP hn => ?_
  unfold a_fix_Div
  by_cases hb0 : b = 0
  · subst hb0
    refine go trivial trivial ?_
    exact ends_ret rfl rfl rfl rfl
  have c1 : (b == 0) = false := by simpa using hb0
  have la := abs_lt ha
  have lb := abs_lt hb
  have hB : 0 < b.natAbs := by omega
  have ka := p_fix_size ha
  have kb := p_fix_size hb
  have kp := p_fix_apart a b
  have hf : fDiv a b = rng (sgn (a.natAbs * 4294967296 / b.natAbs) (decide (a.natAbs * 4294967296 % b.natAbs ≠ 0)) (apart a b)) := if_neg hb0
  generalize apart a b = ap at *
  generalize a.natAbs = A at *
  generalize b.natAbs = B at *
  obtain ⟨hi, lo, w0, hm, w1, rs, e1, e2, e3, e4, kd, e5, e6, e7, e8⟩ := div_plan hB la lb
  rw [← e7, ← e8] at hf
  have b0 : ((B : Int) = 0) = False := by simp; omega
  have e9 : decide (rs ≠ 0) = ((rs : Int) != 0) := by rw [Bool.eq_iff_iff]; simp
  rw [e9] at hf
  have ks := p_fix_signed e5 e6 ((rs : Int) != 0) ap
  rw [← hf] at ks
  refine go (aa c1 <| aa b0 <| aa e1 <| aa e2 <| aa e3 e4) (aa ka <| aa kb <| aa kd <| aa kp ks) ?_
  exact ends_ret rfl rfl rfl rfl
end Go.AM

namespace Go.AM
open Go Go.Proofs
set_option maxRecDepth 100000
set_option maxHeartbeats 4000000

theorem p_reduce_most (a b : Int) : PureC Try.prog fi_reduce_most [dN a, dN b] (dNE (max a b, 0)) := by
  refine pure_reduce_most (by simp) fun G hP hn => ?_
  refine go trivial trivial ?_
  exact ends_ret rfl rfl rfl rfl
def shareE (n S : Int) : Int × Int := fDiv n (S * 4294967296)
theorem p_reduce_share {n : Int} {S : Nat} (hn0 : I64 n) (h1 : 1 ≤ S) (h2 : S ≤ 16) : PureC Try.prog fi_reduce_share [dN n, dN S] (dNE (shareE n S)) := by
  unfold shareE
  refine pure_reduce_share (by simp) fun G hP hn => ?_
  have w1 : IntKind.i64.wrap ((S : Int) * 4294967296) = S * 4294967296 := wrap_in (by omega) (by omega)
  have k := p_fix_Div (a := n) (b := S * 4294967296) hn0 ⟨by omega, by omega⟩
  refine go w1 k ?_
  exact ends_ret rfl rfl rfl rfl
def mxS (s d : List Int) (a : Int) : (List Int × List Int) × Int := togetherF (fun a b => (max a b, 0)) (fun n _ => (n, 0)) (fun a => a) s d a
theorem p_reduce_Max (s d : List Int) (a : Int) (hd : I64s d) : PureC Try.prog fi_reduce_Max [dT s d, dN a] (dTE (mxS s d a)) := by
  refine pure_reduce_Max (by simp) fun G hP hn => ?_
  have k := p_reduce_together (W := fun a b => (max a b, 0)) (E := fun n _ => (n, 0)) (F := fun a => a) (fun a b _ _ => p_reduce_most a b) (fun a b ha hb => by show I64 (max a b); rw [Int.max_def]; split <;> assumption) (fun a S _ _ _ => p_reduce_done a S) (fun a _ => p_reduce_same a) (fun _ h => h) s d a hd
  refine go trivial k ?_
  exact ends_ret rfl rfl rfl rfl
def meanS (s d : List Int) (a : Int) : (List Int × List Int) × Int :=
  if (sumS s d a).2 = 0 then togetherF fAdd shareE (fun _ => 0) s d a else bad (sumS s d a).2
theorem p_reduce_Mean (s d : List Int) (a : Int) (hd : I64s d) : PureC Try.prog fi_reduce_Mean [dT s d, dN a] (dTE (meanS s d a)) := by
  refine pure_reduce_Mean (by simp) fun G hP hn => ?_
  have ks := p_reduce_Sum s d a hd
  have k := p_reduce_together (W := fAdd) (E := shareE) (F := fun _ => 0) (fun a b ha hb => p_fix_Add ha hb) (fun a b _ _ => fAdd_range a b) (fun a S h h1 h2 => p_reduce_share h h1 h2) (fun a _ => p_reduce_none a) (fun _ _ => i64_0) s d a hd
  by_cases h : (sumS s d a).2 = 0
  · have hm : meanS s d a = togetherF fAdd shareE (fun _ => 0) s d a := if_pos h
    rw [hm]
    have e1 : ((sumS s d a).2 != 0) = false := by simp [h]
    clear hm h
    generalize togetherF fAdd shareE (fun _ => 0) s d a = R at *
    generalize sumS s d a = R' at *
    refine go e1 (aa ks k) ?_
    exact ends_ret rfl rfl rfl rfl
  · have hm : meanS s d a = bad (sumS s d a).2 := if_neg h
    rw [hm]
    have e1 : ((sumS s d a).2 != 0) = true := by simp [h]
    clear hm h k
    generalize sumS s d a = R' at *
    refine go e1 ks ?_
    exact ends_ret rfl rfl rfl rfl
end Go.AM

namespace Go.AM
open Go Go.Proofs
set_option maxRecDepth 100000

def putsE (f : Nat → Nat) (v : Int) : Nat → Nat → List Int → List Int
  | 0, _, l => l
  | n + 1, p, l => putsE f v n (p + 1) (l.set (f p) v)
theorem putsE_len (f : Nat → Nat) (v : Int) : ∀ (n p : Nat) (l : List Int), (putsE f v n p l).length = l.length
  | 0, _, _ => rfl
  | n + 1, p, l => by simp only [putsE]; rw [putsE_len f v n, List.length_set]
theorem putsE_no {f : Nat → Nat} {v : Int} {r : Nat} : ∀ (n p : Nat) (l : List Int), (∀ q, p ≤ q → q < p + n → f q ≠ r) → (putsE f v n p l)[r]? = l[r]?
  | 0, _, _, _ => rfl
  | n + 1, p, l, h => by
    simp only [putsE]
    rw [putsE_no n (p + 1) _ (fun q h1 h2 => h q (by omega) (by omega)), List.getElem?_set_ne (h p (Nat.le_refl _) (by omega))]
theorem putsE_yes {f : Nat → Nat} {v : Int} {r : Nat} : ∀ (n p : Nat) (l : List Int), r < l.length → l[r]? = some v ∨ (∃ q, p ≤ q ∧ q < p + n ∧ f q = r) → (putsE f v n p l)[r]? = some v
  | 0, p, l, h, h2 => by
    rcases h2 with h2 | ⟨q, h1, h2, _⟩
    · exact h2
    · omega
  | n + 1, p, l, h, h2 => by
    simp only [putsE]
    refine putsE_yes n (p + 1) _ (by simpa using h) ?_
    by_cases hp : f p = r
    · left; rw [hp, List.getElem?_set_self h]
    · rcases h2 with h2 | ⟨q, h1, h3, h4⟩
      · left; rw [List.getElem?_set_ne hp]; exact h2
      · exact .inr ⟨q, by rcases Nat.eq_or_lt_of_le h1 with rfl | h1; exact absurd h4 hp; omega, by omega, h4⟩
def growE (S B : Nat) (d : List Int) : Nat → Nat → List Int → List Int
  | 0, _, l => l
  | n + 1, p, l => growE S B d n (p + 1) (putsE (fun i => laneAt S B p i) (gt d p) S 0 l)
def firstE (y : Nat → Int) : Nat → Nat → Nat → Nat
  | 0, _, at_ => at_
  | n + 1, k, at_ => firstE y n (k + 1) (if y k > y at_ then k else at_)
theorem firstE_lt {y : Nat → Int} {S : Nat} : ∀ (n k at_ : Nat), k + n ≤ S → at_ < S → firstE y n k at_ < S
  | 0, _, _, _, h => h
  | n + 1, k, at_, h, h2 => by
    simp only [firstE]
    exact firstE_lt n (k + 1) _ (by omega) (by split <;> omega)
theorem foldE_max {y : Nat → Int} : ∀ (n k at_ : Nat), foldE (fun a b => (max a b, 0)) y n k (y at_) = (y (firstE y n k at_), 0)
  | 0, _, _ => rfl
  | n + 1, k, at_ => by
    simp only [foldE, firstE, if_true]
    have : max (y at_) (y k) = y (if y k > y at_ then k else at_) := by
      rw [Int.max_def]; split <;> split <;> omega
    rw [this]
    exact foldE_max n (k + 1) _
def firstL (d : List Int) (S B p : Nat) : Nat := firstE (fun i => gt d (laneAt S B p i)) S 0 0
def firstS (s d : List Int) (a : Int) : (List Int × List Int) × Int :=
  if checkT s d = true then (if a < 0 ∨ a ≥ s.length then bad 20 else
    ((s, putsE (fun p => laneAt ((s[a.toNat]?).getD 0).toNat (sizeS (s.drop (a.toNat + 1))).toNat p (firstL d ((s[a.toNat]?).getD 0).toNat (sizeS (s.drop (a.toNat + 1))).toNat p)) 4294967296
      ((sizeS (s.take a.toNat)).toNat * (sizeS (s.drop (a.toNat + 1))).toNat) 0 (List.replicate d.length 0)), 0)) else bad 30
def growS (s d : List Int) (a n : Int) : (List Int × List Int) × Int :=
  if checkT s d = true then (if a < 0 ∨ a > s.length then bad 20 else (if checkS (insL s a.toNat n) = true then
    ((insL s a.toNat n, growE n.toNat (sizeS (s.drop a.toNat)).toNat d d.length 0 (List.replicate (sizeS (insL s a.toNat n)).toNat 0)), 0) else bad 20)) else bad 30
theorem Lanes.firstS {s d : List Int} {n A S B : Nat} (L : Lanes s d n A S B) :
    firstS s d n = ((s, (List.range d.length).map fun r => if firstL d S B (r / B / S * B + r % B) = r / B % S then 4294967296 else 0), 0) := by
  have h1 : ¬ ((n : Int) < 0 ∨ (n : Int) ≥ s.length) := by have := L.hn; omega
  unfold Go.AM.firstS
  rw [if_pos L.hc, if_neg h1]
  simp only [Int.toNat_natCast, L.hA, L.hS, L.hB, Option.getD_some]
  congr 2
  have hb := L.b1
  have hs := L.s1
  apply List.ext_getElem?
  intro r
  by_cases hr : r < d.length
  · have hr2 : r < A * S * B := by rw [← L.len]; exact hr
    obtain ⟨q1, q2, q3⟩ := laneAt_in (by omega) (by omega) hr2
    rw [List.getElem?_map, List.getElem?_range hr]
    simp only [Option.map_some]
    by_cases hf : firstL d S B (r / B / S * B + r % B) = r / B % S
    · rw [if_pos hf]
      refine putsE_yes _ _ _ (by simpa using hr) (.inr ⟨_, Nat.zero_le _, by rw [Nat.zero_add]; exact q1, ?_⟩)
      rw [hf]; exact q3
    · rw [if_neg hf, putsE_no _ _ _ (fun q _ h2 he => hf ?_)]
      · rw [List.getElem?_replicate, if_pos hr]
      · have hlt : firstL d S B q < S := firstE_lt _ _ _ (by omega) (by omega)
        obtain ⟨u1, u2⟩ := laneAt_un hlt (by omega) he
        rw [← u1, ← u2]
  · rw [List.getElem?_eq_none (by rw [putsE_len]; simpa using hr), List.getElem?_eq_none (by simpa using hr)]
theorem insL_len (s : List Int) {n : Nat} (k : Int) (h : n ≤ s.length) : (insL s n k).length = s.length + 1 := by
  unfold insL; simp; omega
theorem insL_get (s : List Int) {n : Nat} (k : Int) (h : n ≤ s.length) : (insL s n k)[n]? = some k := by
  unfold insL
  rw [List.getElem?_append_right (by rw [List.length_take]; omega), List.length_take, Nat.min_eq_left h, Nat.sub_self]; rfl
theorem insL_take (s : List Int) {n : Nat} (k : Int) (h : n ≤ s.length) : (insL s n k).take n = s.take n := by
  unfold insL
  rw [List.take_append_of_le_length (by rw [List.length_take]; omega), List.take_of_length_le (by rw [List.length_take]; omega)]
theorem insL_drop (s : List Int) {n : Nat} (k : Int) (h : n ≤ s.length) : (insL s n k).drop (n + 1) = s.drop n := by
  unfold insL
  rw [List.drop_append, List.drop_of_length_le (by simp; omega), List.length_take, Nat.min_eq_left h, Nat.add_sub_cancel_left]; rfl
end Go.AM

namespace Go.AM
open Go Go.Proofs
set_option maxRecDepth 100000
set_option maxHeartbeats 4000000

theorem T_post {G : Ground} {F : Fence} {n : Nat} {c : ACode} {Q : Exit → AS → Prop} {s : AS} (h : T G F n c (fun e s => ∃ s', Weak G s s' ∧ Q e s') s) : T G F n c Q s :=
  ⟨fun code hc hok a w hs => wpIn_mono (h.of code hc hok a w hs) fun e a w ⟨s', ⟨s'', wk, q⟩, k⟩ => ⟨s'', q, wk a w k⟩⟩
theorem frz_ret {G : Ground} {s : AS} {i : Nat} {c : AC} {v : PV} {σ1 σ' : Sto} {ex : List AV} (hi : lk s.env i = .one c) (h : toP 6 c s.σ = some (v, σ1)) (hσ : ∀ p ∈ σ', p.2 = .none) (he : s.ex = ex) :
    ∃ s', Weak G s s' ∧ EndsM [.tmp i] (.one (.p v)) σ' ex .ret s' :=
  ⟨{ env := (i, .one (.p v)) :: s.env, σ := [], ex := s.ex }, (Weak.freeze hi h).trans (Weak.sto (s := { env := (i, .one (.p v)) :: s.env, σ := σ1, ex := s.ex }) fun t => .inr rfl),
    endsM_ret (vs := [.one (.p v)]) (by simp [evRV, lk]) rfl rfl (fun p hp => (hσ p hp).symm) he⟩
theorem frz_l {G : Ground} {s : AS} {i t len : Nat} {cap : Option Nat} {rows : List (List PV)} {l : List Int} {ex : List AV} (hi : lk s.env i = .one (.msl t 0 1 len cap)) (h : lo s.σ t = .arr true 1 rows) (hl : len = rows.length) (hr : rows = rI l) (he : s.ex = ex) :
    ∃ s', Weak G s s' ∧ EndsM [.tmp i] (.one (.p (eI l))) [(5, .none), (34, .none)] ex .ret s' := by
  subst hr
  exact frz_ret (v := eI l) hi (σ1 := (t, .arr false 1 (rI l)) :: s.σ) (by simp only [toP, h]; simp [hl, List.take_of_length_le]) (fun p hp => by simp only [List.mem_cons, List.not_mem_nil, or_false] at hp; rcases hp with rfl | rfl <;> rfl) he
section
variable {G : Ground} {ex : List AV} {m : Nat}
theorem ins_end0 (v : Int) (hP : G.P = Try.prog) (hn : G.nt = 95) (hfr25 : ex.all (fun v => !v.has 25) = true) :
    T G Fence.wide 0 a_slices_Insert_int_int (fun e s' => ∃ s'', Weak G s' s'' ∧ EndsM [.tmp 6] (.one (.p (eI [v]))) [(5, .none), (34, .none)] ex e s'')
      { env := (0, .one (.msl 5 0 1 0 (some m))) :: initV 0 [.one (.msl 5 0 1 0 none), .one (.p (.int .i64 0)), .one (.msl 34 0 1 1 none)], σ := [(5, .arr true 1 []), (34, .arr true 1 (rI [v]))], ex := ex } := by
  have e0 : ((1 : Int) == 0) = false := rfl
  have hM : MaxN = 140737488355328 := rfl
  have q0 : (0 : Int) ≤ m := by omega
  by_cases hr : 1 ≤ m
  · refine go (aa e0 <| aa q0 <| aa hr hM) trivial ?_
    exact frz_l rfl rfl rfl rfl rfl
  · refine go (aa e0 <| aa q0 <| aa hr <| aa hM <| aa hfr25 (scr_ex hfr25)) trivial ?_
    exact frz_l rfl rfl rfl rfl rfl
theorem ins_end {s : List Int} (v : Int) (hP : G.P = Try.prog) (hn : G.nt = 95) (hfr25 : ex.all (fun v => !v.has 25) = true) (hs : s.length ≤ 64) (h0 : 0 < s.length) (hm : s.length ≤ m) :
    T G Fence.wide 0 a_slices_Insert_int_int (fun e s' => ∃ s'', Weak G s' s'' ∧ EndsM [.tmp 6] (.one (.p (eI (s ++ [v])))) [(5, .none), (34, .none)] ex e s'')
      { env := (0, .one (.msl 5 0 1 s.length (some m))) :: initV 0 [.one (.msl 5 0 1 s.length none), .one (.p (.int .i64 s.length)), .one (.msl 34 0 1 1 none)], σ := [(5, .arr true 1 (rI s)), (34, .arr true 1 (rI [v]))], ex := ex } := by
  have e0 : ((1 : Int) == 0) = false := rfl
  have hM : MaxN = 140737488355328 := rfl
  have t0 : (s.length : Int).toNat = s.length := rfl
  have q0 : (s.length : Int) ≤ m := by omega
  have n0 : ¬ s.length = 0 := by omega
  have c1 : ((s.length : Int) == (s.length : Int)) = true := by simp
  have b1 : (s.length + 1) * 8 ≤ 2 ^ 40 := by omega
  have b2 : s.length + 1 ≤ 2 ^ 40 := by omega
  have b3 : s.length + 1 ≤ MaxN := by omega
  by_cases hr : s.length + 1 ≤ m
  · refine go (aa e0 <| aa q0 <| aa t0 <| aa c1 <| aa hr <| aa n0 <| aa b1 <| aa b2 b3) trivial ?_
    have d1 : List.take s.length (rI s) ++ [[PV.int IntKind.i64 v]] ++ List.drop (s.length + 1) (rI s) = rI (s ++ [v]) := by rw [List.drop_of_length_le (by simp), List.take_of_length_le (by simp)]; simp
    rw [d1]
    exact frz_l rfl rfl (by simp) rfl rfl
  · refine go (aa e0 <| aa q0 <| aa t0 <| aa c1 <| aa hr <| aa n0 <| aa b1 <| aa b2 <| aa b3 <| aa hfr25 (scr_ex hfr25)) trivial ?_
    have d1 : List.take s.length (rI s) ++ [[PV.int IntKind.i64 v]] = rI (s ++ [v]) := by rw [List.take_of_length_le (by simp)]; simp
    rw [d1]
    exact frz_l rfl rfl (by simp) rfl rfl
theorem ins_mid {s : List Int} {n : Nat} (v : Int) (hP : G.P = Try.prog) (hn : G.nt = 95) (hfr40 : ex.all (fun v => !v.has 40) = true) (hs : s.length ≤ 64) (h0 : n < s.length) (hm : s.length ≤ m) :
    T G Fence.wide 0 a_slices_Insert_int_int (fun e s' => ∃ s'', Weak G s' s'' ∧ EndsM [.tmp 6] (.one (.p (eI (insL s n v)))) [(5, .none), (34, .none)] ex e s'')
      { env := (0, .one (.msl 5 0 1 s.length (some m))) :: initV 0 [.one (.msl 5 0 1 s.length none), .one (.p (.int .i64 n)), .one (.msl 34 0 1 1 none)], σ := [(5, .arr true 1 (rI s)), (34, .arr true 1 (rI [v]))], ex := ex } := by
  have e0 : ((1 : Int) == 0) = false := rfl
  have hM : MaxN = 140737488355328 := rfl
  have t0 : (s.length : Int).toNat = s.length := rfl
  have q0 : (s.length : Int) ≤ m := by omega
  have q1 : (n : Int) ≤ s.length := by omega
  have c1 : ((n : Int) == (s.length : Int)) = false := by simp; omega
  have w1 : IntKind.i64.wrap ((s.length : Int) + 1) = ((s.length + 1 : Nat) : Int) := by rw [wrap_in (by omega) (by omega)]; rfl
  have w2 : IntKind.i64.wrap (((s.length + 1 : Nat) : Int) - n) = ((s.length + 1 - n : Nat) : Int) := by rw [wrap_in (by omega) (by omega)]; omega
  have w3 : IntKind.i64.wrap ((n : Int) + 1) = ((n + 1 : Nat) : Int) := by rw [wrap_in (by omega) (by omega)]; rfl
  have y5 : (if n = 0 then AC.msl 5 0 1 (s.length + 1) (some m) else AC.msl 5 n 1 (s.length + 1 - n) (some (m - n))) = .msl 5 n 1 (s.length + 1 - n) (some (m - n)) := by
    split
    · rename_i hz; subst hz; rfl
    · rfl
  have y6 : (if n = 0 then AC.msl 5 0 1 s.length (some m) else AC.msl 5 n 1 (s.length - n) (some (m - n))) = .msl 5 n 1 (s.length - n) (some (m - n)) := by
    split
    · rename_i hz; subst hz; rfl
    · rfl
  have y40 : (if n = 0 then AC.msl 40 0 1 (n + (s.length + 1 - n)) none else AC.msl 40 n 1 (n + (s.length + 1 - n) - n) none) = .msl 40 n 1 (s.length + 1 - n) none := by
    split
    · rename_i hz; subst hz; simp
    · rw [Nat.add_sub_cancel_left]
  have q7 : n < s.length + 1 := by omega
  by_cases hr : s.length + 1 ≤ m
  · have c2 : ¬ ((s.length + 1 : Nat) : Int) > (m : Int) := by omega
    have q3 : ((s.length + 1 : Nat) : Int) ≤ (m : Int) := by omega
    have q4 : ((n + 1 : Nat) : Int) ≤ ((s.length + 1 : Nat) : Int) := by omega
    have q5 : n + 1 < s.length + 1 := by omega
    refine go (aa e0 <| aa q0 <| aa q1 <| aa t0 <| aa c1 <| aa c2 <| aa hr <| aa w1 <| aa w2 <| aa w3 <| aa h0 <| aa q3 <| aa q4 q5) trivial ?_
    have d0 : ¬ n + (s.length + 1 - n) ≤ s.length := by omega
    have d1 : s.length + 1 - (n + 1) ≤ s.length + 1 - n := by omega
    have d2 : n + (s.length + 1 - (n + 1)) ≤ s.length := by omega
    have d3 : n + 1 ≤ s.length := by omega
    have d4 : n + 1 + (s.length + 1 - (n + 1)) ≤ MaxN := by omega
    have d5 : ¬ n + 1 + (s.length + 1 - (n + 1)) ≤ s.length := by omega
    have q6 : (n : Int) ≤ ((s.length + 1 : Nat) : Int) := by omega
    have r1 : s.length - n ≤ s.length + 1 - n := by omega
    have r2 : n + (s.length - n) ≤ s.length := by omega
    have r3 : n + 1 + (s.length - n) ≤ MaxN := by omega
    apply T_dr fw (by rw [hP]; rfl)
    · simp only [go_sem, seval, reduceIte, ↓reduceIte, bne, beq_false, beq_true, Bool.not_eq_true, Bool.if_true_right, decide_not, reduceCtorEq, hP, e0, q0, q1, t0, c1, c2, hr, w1, w2, w3, y5, y6, q3, q4, q5, q6, q7, r1, r2, r3, d0, d1, d2, d3, d4, d5, Int.le_refl, Nat.le_refl]
      exact rfl
    refine go trivial trivial ?_
    have eR : List.take (n + 1) (rI s) ++ List.take (s.length - n) (List.drop n (rI s)) ++ List.drop (n + 1 + (List.take (s.length - n) (List.drop n (rI s))).length) (rI s) = rI (s.take (n + 1) ++ s.drop n) := by
      have h1 : List.take (s.length - n) (List.drop n (rI s)) = List.drop n (rI s) := List.take_of_length_le (by rw [List.length_drop, List.length_map]; exact Nat.le_refl _)
      have h2 : List.drop (n + 1 + (List.drop n (rI s)).length) (rI s) = [] := List.drop_of_length_le (by rw [List.length_drop, List.length_map]; omega)
      rw [h1, h2, List.append_nil, rI_take, rI_drop, ← List.map_append]
    rw [eR]
    have hRl : (rI (s.take (n + 1) ++ s.drop n)).length = s.length + 1 := by rw [List.length_map, List.length_append, List.length_take, List.length_drop]; omega
    have hRt : List.take n (rI (s.take (n + 1) ++ s.drop n)) = rI (s.take n) := by rw [rI_take, List.take_append_of_le_length (by rw [List.length_take]; omega), List.take_take, Nat.min_eq_left (by omega)]
    have hRd : List.drop (n + 1) (rI (s.take (n + 1) ++ s.drop n)) = rI (s.drop n) := by
      rw [rI_drop, List.drop_append, List.drop_of_length_le (by rw [List.length_take]; omega), List.length_take, Nat.min_eq_left (by omega), Nat.sub_self, List.nil_append, List.drop_zero]
    generalize rI (s.take (n + 1) ++ s.drop n) = R at *
    have r4 : n + (s.length + 1 - n) ≤ s.length + 1 := by omega
    have t7 : List.take (s.length + 1 - n) [[PV.int IntKind.i64 v]] = [[PV.int IntKind.i64 v]] := List.take_of_length_le (by simp; omega)
    refine go (aa q0 <| aa q1 <| aa t0 <| aa q3 <| aa q6 <| aa q7 <| aa y5 <| aa r4 <| aa t7 <| aa hRl <| aa hRt hRd) trivial ?_
    have eI' : rI (s.take n) ++ [[PV.int IntKind.i64 v]] ++ rI (s.drop n) = rI (insL s n v) := by simp [insL]
    rw [eI']
    exact frz_l rfl rfl (by rw [List.length_map, insL_len s v (by omega)]) rfl rfl
  · have c2 : ((s.length + 1 : Nat) : Int) > (m : Int) := by omega
    have q3 : ¬ ((s.length + 1 : Nat) : Int) ≤ (m : Int) := by omega
    have b1 : (n + (s.length + 1 - n)) * 1073741832 ≤ 2 ^ 40 := by omega
    have b2 : n + (s.length + 1 - n) ≤ 2 ^ 40 := by omega
    have c3 : ((s.length + 1 - n : Nat) : Int) ≤ 1000000 := by omega
    have c4 : ¬ n + (s.length + 1 - n) ≤ m := by omega
    have c5 : (n : Int) ≤ m := by omega
    have t1 := rI_take s n
    have h1 : n ≤ s.length := by omega
    refine go (aa e0 <| aa q0 <| aa q1 <| aa t0 <| aa c1 <| aa c2 <| aa c3 <| aa c4 <| aa c5 <| aa w1 <| aa w2 <| aa w3 <| aa b1 <| aa b2 <| aa h0 <| aa h1 <| aa hfr40 (scr_ex hfr40)) trivial ?_
    have e41 : n + (s.length + 1 - n) = s.length + 1 := by omega
    rw [e41]
    have hR : (List.take n (rI s) ++ List.replicate (s.length + 1 - n) [PV.int IntKind.i64 0]).length = s.length + 1 := by rw [List.length_append, List.length_take, List.length_map, List.length_replicate]; omega
    have hR2 : (List.take n (rI s) ++ List.replicate (s.length + 1 - n) [PV.int IntKind.i64 0]).take n = rI (s.take n) := by rw [List.take_append_of_le_length (by rw [List.length_take, List.length_map]; omega), List.take_take, Nat.min_self, rI_take]
    generalize (List.take n (rI s) ++ List.replicate (s.length + 1 - n) [PV.int IntKind.i64 0]) = R at *
    have c6 : (n : Int) ≤ ((s.length + 1 : Nat) : Int) := by omega
    have r4 : n + (s.length + 1 - n) ≤ s.length + 1 := by omega
    have t7 : List.take (s.length + 1 - n) [[PV.int IntKind.i64 v]] = [[PV.int IntKind.i64 v]] := List.take_of_length_le (by simp; omega)
    have y40 : (if n = 0 then AC.msl 40 0 1 (s.length + 1) none else AC.msl 40 n 1 (s.length + 1 - n) none) = .msl 40 n 1 (s.length + 1 - n) none := by
      split
      · rename_i hz; subst hz; rfl
      · rfl
    refine go (aa c6 <| aa q7 <| aa y40 <| aa r4 <| aa hR <| aa hR2 t7) trivial ?_
    have hL : (rI (List.take n s) ++ [[PV.int IntKind.i64 v]] ++ List.drop (n + 1) R).length = s.length + 1 := by
      rw [List.length_append, List.length_append, List.length_map, List.length_take, List.length_drop, hR]; simp; omega
    have hT : List.take (n + 1) (rI (List.take n s) ++ [[PV.int IntKind.i64 v]] ++ List.drop (n + 1) R) = rI (s.take n ++ [v]) := by
      rw [List.take_append_of_le_length (by rw [List.length_append, List.length_map, List.length_take]; simp; omega), List.take_of_length_le (by rw [List.length_append, List.length_map, List.length_take]; simp; omega)]
      simp
    have hD : List.drop (s.length + 1) (rI (List.take n s) ++ [[PV.int IntKind.i64 v]] ++ List.drop (n + 1) R) = [] := List.drop_of_length_le (by rw [hL]; exact Nat.le_refl _)
    generalize rI (List.take n s) ++ [[PV.int IntKind.i64 v]] ++ List.drop (n + 1) R = R2 at *
    have q4 : ((n + 1 : Nat) : Int) ≤ ((s.length + 1 : Nat) : Int) := by omega
    have q5 : n + 1 < s.length + 1 := by omega
    have d1 : n + (s.length - n) ≤ s.length := by omega
    have d2 : n + 1 + (s.length - n) ≤ s.length + 1 := by omega
    have d3 : n + 1 + (s.length - n) = s.length + 1 := by omega
    have t8 : List.take (s.length - n) (List.drop n (rI s)) = rI (s.drop n) := by rw [rI_drop]; exact List.take_of_length_le (by rw [List.length_map, List.length_drop]; exact Nat.le_refl _)
    have t9 : List.take (s.length - n) (rI (s.drop n)) = rI (s.drop n) := List.take_of_length_le (by rw [List.length_map, List.length_drop]; exact Nat.le_refl _)
    apply T_dr fw (by rw [hP]; rfl)
    · simp only [go_sem, seval, reduceIte, ↓reduceIte, bne, beq_false, beq_true, Bool.not_eq_true, Bool.if_true_right, decide_not, reduceCtorEq, hP, e0, q0, q1, t0, w3, y6, q4, q5, q7, d1, d2, d3, hL, hT, hD, h0, t8, t9, List.length_drop, Int.le_refl, Nat.le_refl]
      exact rfl
    refine go trivial trivial ?_
    have eI' : rI (s.take n ++ [v]) ++ rI (s.drop n) = rI (insL s n v) := by simp [insL]
    rw [eI']
    exact frz_l rfl rfl (by rw [List.length_map, insL_len s v (by omega)]) rfl rfl
end
theorem m_slices_Insert' {s : List Int} {n : Nat} (v : Int) (h : n ≤ s.length) (hs : s.length ≤ 64) : MutC Try.prog fi_slices_Insert_int_int [.one (.msl 5 0 1 s.length none), .one (.p (.int .i64 n)), .one (.msl 34 0 1 1 none)]
    [(5, .arr true 1 (rI s)), (34, .arr true 1 (rI [v]))] (.one (.p (eI (insL s n v)))) [(5, .none), (34, .none)] [25, 40] := by
  refine mut_slices_Insert_int_int (by simp) fun G ex hP hn hfr => ?_
  have hfr25 := hfr 25 (by simp)
  have hfr40 := hfr 40 (by simp)
  refine T_post ?_
  refine T_cap 0 rfl fun m hm => ?_
  by_cases hn1 : n < s.length
  · exact ins_mid v hP hn hfr40 hs hn1 hm
  obtain rfl : n = s.length := by omega
  have hi : insL s s.length v = s ++ [v] := by simp [insL]
  rw [hi]
  by_cases h0 : s.length = 0
  · obtain rfl : s = [] := List.length_eq_zero_iff.1 h0
    exact ins_end0 v hP hn hfr25
  · exact ins_end v hP hn hfr25 hs (by omega) hm
theorem m_slices_Insert {s : List Int} {n : Nat} (v : Int) (h : n ≤ s.length) (hs : s.length ≤ 64) : MutC Try.prog fi_slices_Insert_int_int [.one (.msl 5 0 1 s.length none), .one (.p (.int .i64 n)), .one (.msl 34 0 1 1 none)]
    [(5, .arr true 1 (rI s)), (34, .arr true 1 (rI [v]))] (.one (.p (eI (insL s n v)))) [(5, .none), (34, .none)] [] :=
  ((m_slices_Insert' v h hs).hide 25 rfl rfl rfl rfl (by simp)).hide 40 rfl rfl rfl rfl (by simp)
end Go.AM

namespace Go.AM
open Go
theorem owOf_ren {ρ : Nat → Nat} (hρ : ∀ t, ρ (ρ t) = t) (σ : Sto) (τ : Tau) : owOf (renS ρ σ) τ = owOf σ (fun t => τ (ρ t)) := by
  funext k
  apply propext
  constructor
  · rintro ⟨t, hm, ht⟩
    rw [lo_renS hρ, AO.ren_mu] at hm
    exact ⟨ρ t, hm, by show τ (ρ (ρ t)) = some k; rw [hρ]; exact ht⟩
  · rintro ⟨t, hm, ht⟩
    exact ⟨ρ t, by rw [lo_renS hρ, AO.ren_mu, hρ]; exact hm, ht⟩
theorem SepS.ren {ρ : Nat → Nat} (hρ : ∀ t, ρ (ρ t) = t) {σ : Sto} {τ : Tau} (h : SepS σ τ) : SepS (renS ρ σ) (fun t => τ (ρ t)) := fun t t' b h1 h2 hne hm hb => by
  rw [lo_renS hρ] at h1 h2 hm
  rw [AO.ren_mu] at hm
  exact h (ρ t) (ρ t') b (fun e => h1 (AO.ren_none.2 e)) (fun e => h2 (AO.ren_none.2 e)) (fun e => hne (by rw [← hρ t, e, hρ])) hm hb
theorem MutC.ren {P : Program} {f : FuncId} {vs : List AV} {σ σ' : Sto} {r : AV} {fr : List Nat} {ρ : Nat → Nat} (hρ : ∀ t, ρ (ρ t) = t) (h : MutC P f vs σ r σ' fr) :
    MutC P f (vs.map (AV.ren ρ)) (renS ρ σ) (r.ren ρ) (renS ρ σ') (fr.map ρ) := by
  refine ⟨h.enters, fun A τ w xs ex exs hA hxs hex hfr hob hsp => ?_⟩
  have hob2 : ∀ t, ORel (fun _ => True) A (fun t => τ (ρ t)) w t (lo σ t) := fun t => by
    have := (hob (ρ t)).ren (ρ := ρ) (τ := τ) hρ (t := t)
    rw [lo_renS hρ, hρ, AO.ren_ren hρ] at this
    exact this
  have hsp2 : SepS σ (fun t => τ (ρ t)) := by
    have := SepS.ren hρ hsp
    rw [renS_renS hρ] at this
    exact this
  have key := h.calls A (fun t => τ (ρ t)) w xs (ex.map (AV.ren ρ)) exs hA (all2_unmap hxs fun _ _ h => h.unren hρ)
    (all2_map hex fun _ _ h => h.ren (fun t => by show τ (ρ (ρ t)) = τ t; rw [hρ]))
    (fun d hd v hv => by
      obtain ⟨v0, hv0, rfl⟩ := List.mem_map.1 hv
      rw [AV.ren_has hρ]
      exact hfr (ρ d) (List.mem_map.2 ⟨d, hd, rfl⟩) v0 hv0) hob2 hsp2
  rw [owOf_ren hρ]
  refine key.mono ?_
  rintro e w' ⟨x, A', τ', he, hfm, ho, hs, hr, hx⟩
  refine ⟨x, A', fun t => τ' (ρ t), he, hfm, fun t => ?_, SepS.ren hρ hs, hr.ren (fun t => by show τ' (ρ (ρ t)) = τ' t; rw [hρ]), all2_unmap hx fun _ _ h => h.unren hρ⟩
  rw [lo_renS hρ]
  exact (ho (ρ t)).ren hρ
end Go.AM

namespace Go.AM
open Go Go.Proofs
set_option maxRecDepth 100000
set_option maxHeartbeats 4000000

theorem p_reduce_First (s d : List Int) (a : Int) (hd : I64s d) : PureC Try.prog fi_reduce_First [dT s d, dN a] (dTE (firstS s d a)) := by
  refine pure_reduce_First (by simp) fun G hP hn => ?_
  have kl := p_reduce_lanes s d a
  cases hc : checkT s d
  · have hl : lanesF s d a = ((0, 0, 0), 30) := by unfold lanesF; rw [if_neg (by simp [hc])]
    have hf : firstS s d a = bad 30 := by unfold firstS; rw [if_neg (by simp [hc])]
    rw [hl] at kl
    refine go trivial kl ?_
    exact ends_ret rfl rfl rfl (by rw [hf]; rfl)
  by_cases ha : a < 0 ∨ a ≥ s.length
  · have hl : lanesF s d a = ((0, 0, 0), 20) := by unfold lanesF; rw [if_pos hc, if_pos ha]
    have hf : firstS s d a = bad 20 := by unfold firstS; rw [if_pos hc, if_pos ha]
    rw [hl] at kl
    refine go trivial kl ?_
    exact ends_ret rfl rfl rfl (by rw [hf]; rfl)
  obtain ⟨n, rfl⟩ := Int.eq_ofNat_of_zero_le (by omega : 0 ≤ a)
  have hlt : n < s.length := by omega
  obtain ⟨A, S, B, L⟩ := Lanes.of hc hlt
  have hl : lanesF s d n = (((A : Int), (S : Int), (B : Int)), 0) := by
    unfold lanesF; rw [if_pos hc, if_neg ha]; simp only [Int.toNat_natCast, L.hA, L.hB, L.hS, Option.getD_some]
  rw [hl] at kl
  have hf : firstS s d n = ((s, putsE (fun p => laneAt S B p (firstL d S B p)) 4294967296 (A * B) 0 (List.replicate d.length 0)), 0) := by
    unfold firstS; rw [if_pos hc, if_neg ha]; simp only [Int.toNat_natCast, L.hA, L.hB, L.hS, Option.getD_some]
  have hok := (checkT_iff.1 hc).1
  have hs := check_len (checkS_iff.2 hok)
  have hz : (sizeS s).toNat = d.length := by have := sizeS_ok hok; have := (checkT_iff.1 hc).2; omega
  have kF := m_tensor_Full (s := s) 0 (checkS_iff.2 hok)
  rw [hz] at kF
  have hAB := L.AB
  have hs16 := L.s2
  have hb64 := L.B64
  have hb1 := L.b1
  have hs1 := L.s1
  have hlen : (List.replicate d.length (0 : Int)).length = d.length := by simp
  have w2 : IntKind.i64.wrap ((A : Int) * (B : Int)) = ((A * B : Nat) : Int) := by rw [← Int.natCast_mul]; exact wrap_in (by omega) (by omega)
  rw [hf]
  generalize hN : d.length = N at kF hlen
  generalize hR : List.replicate N (0 : Int) = R at kF hlen
  refine go w2 (aa kl kF) ?_
  refine T_for (A * B) (fun p acc => { env := [(2, .one (.ptr 2 0 2 0)), (4, .one (.ptr 4 0 2 0)), (6, .one (.ptr 6 0 3 0)), (8, .one (.ptr 8 0 2 0)), (33, .one (.p (.int .i64 ((A * B : Nat) : Int)))), (34, .one (.p (.int .i64 p)))], σ := [(2, .cells true [.p (eI s), .p (eI d)]), (4, .cells true [.nils, .nils]), (6, .cells true [.p (.int .i64 A), .p (.int .i64 S), .p (.int .i64 B)]), (8, .cells true [.msl 5 0 1 s.length none, .msl 30 0 1 N (some N)]), (5, .arr true 1 (rI s)), (30, .arr true 1 (rI acc))] })
    (fun p acc => acc.length = N ∧ putsE (fun p => laneAt S B p (firstL d S B p)) 4294967296 (A * B - p) p acc = putsE (fun p => laneAt S B p (firstL d S B p)) 4294967296 (A * B) 0 R) R ⟨hlen, rfl⟩ ?_ fun p acc hp hinv => ?_
  · refine Weak.sub fun q hq => ?_
    simp only [List.mem_cons, List.not_mem_nil, or_false] at hq
    rcases hq with rfl | rfl | rfl | rfl | rfl | rfl <;> rfl
  obtain ⟨hal, hput⟩ := hinv
  by_cases hlt2 : p < A * B
  rotate_left
  · have c1 : ¬ (p : Int) < ((A * B : Nat) : Int) := by omega
    have hpe : p = A * B := by omega
    rw [hpe, Nat.sub_self] at hput
    simp only [putsE] at hput
    refine go c1 trivial ?_
    rw [← hput]
    exact ends_twoM (t1 := 5) (t2 := 30) (by decide) rfl rfl rfl (by simp) (by simp [hal]) (.inr ⟨_, rfl, rfl⟩) rfl
  have c1 : (p : Int) < ((A * B : Nat) : Int) := by omega
  have w3 : IntKind.i64.wrap ((p : Int) + 1) = ((p + 1 : Nat) : Int) := by rw [wrap_in (by omega) (by omega)]; rfl
  rw [show A * B - p = (A * B - (p + 1)) + 1 from by omega] at hput
  simp only [putsE] at hput
  have kat := fun (i : Nat) (hi : i < S) => p_reduce_lane_at A S B p i hs16 hb64 hb1 (by omega) (by omega)
  have hli := fun (i : Nat) (hi : i < S) => L.lt hlt2 (i := i) hi
  have hxi := fun (i : Nat) (hi : i < S) => gt_at (hli i hi)
  have hfl : firstE (fun i => gt d (laneAt S B p i)) S 0 0 = firstL d S B p := rfl
  generalize firstL d S B p = fst at *
  generalize (fun i => laneAt S B p i) = la at *
  refine go c1 trivial ?_
  refine T_for S (fun i (at_ : Nat) => { env := [(2, .one (.ptr 2 0 2 0)), (4, .one (.ptr 4 0 2 0)), (6, .one (.ptr 6 0 3 0)), (8, .one (.ptr 8 0 2 0)), (10, .one (.p (.int .i64 p))), (11, .one (.p (.int .i64 at_))), (33, .one (.p (.int .i64 ((A * B : Nat) : Int)))), (34, .one (.p (.int .i64 p))), (38, .one (.p (.int .i64 S))), (39, .one (.p (.int .i64 i)))], σ := [(2, .cells true [.p (eI s), .p (eI d)]), (4, .cells true [.nils, .nils]), (6, .cells true [.p (.int .i64 A), .p (.int .i64 S), .p (.int .i64 B)]), (8, .cells true [.msl 5 0 1 s.length none, .msl 30 0 1 N (some N)]), (5, .arr true 1 (rI s)), (30, .arr true 1 (rI acc))] })
    (fun i at_ => at_ < S ∧ firstE (fun i => gt d (laneAt S B p i)) (S - i) i at_ = fst) 0 ⟨by omega, hfl⟩ (.refl _ _) fun i at_ hi hv => ?_
  obtain ⟨hat, hfold⟩ := hv
  have ka := kat at_ hat
  have xa := hxi at_ hat
  have la_ := hli at_ hat
  by_cases hiS : i < S
  · have c2 : (i : Int) < (S : Int) := by omega
    have w4 : IntKind.i64.wrap ((i : Int) + 1) = ((i + 1 : Nat) : Int) := by rw [wrap_in (by omega) (by omega)]; rfl
    have ki := kat i hiS
    have xi := hxi i hiS
    have li_ := hli i hiS
    rw [show S - i = (S - (i + 1)) + 1 from by omega] at hfold
    simp only [firstE] at hfold
    by_cases hg : gt d (laneAt S B p i) > gt d (laneAt S B p at_)
    · rw [if_pos hg] at hfold
      generalize laneAt S B p i = q1 at *
      generalize laneAt S B p at_ = q2 at *
      generalize gt d q1 = y1 at *
      generalize gt d q2 = y2 at *
      refine go (aa c2 <| aa w4 <| aa @xa <| aa @la_ <| aa @xi <| aa @li_ hg) (aa ki ka) ?_
      exact rnd_next hiS i ⟨hiS, hfold⟩ (.refl _ _)
    · rw [if_neg hg] at hfold
      generalize laneAt S B p i = q1 at *
      generalize laneAt S B p at_ = q2 at *
      generalize gt d q1 = y1 at *
      generalize gt d q2 = y2 at *
      refine go (aa c2 <| aa w4 <| aa @xa <| aa @la_ <| aa @xi <| aa @li_ hg) (aa ki ka) ?_
      exact rnd_next hiS at_ ⟨hat, hfold⟩ (.refl _ _)
  · have c2 : ¬ (i : Int) < (S : Int) := by omega
    have hie : i = S := by omega
    rw [hie, Nat.sub_self] at hfold
    simp only [firstE] at hfold
    subst hfold
    have q1 : laneAt S B p at_ < N := by omega
    have q2 : ((laneAt S B p at_ : Nat) : Int) < (N : Int) := by omega
    generalize laneAt S B p at_ = q at *
    have hxa : acc[q]? = some (gt acc q) := gt_at (by omega)
    refine go (aa c2 <| aa w3 <| aa q1 <| aa q2 <| aa hal <| aa hxa @rI_set) ka ?_
    refine rnd_next hlt2 (acc.set q 4294967296) (And.intro (by simp [hal]) hput) ?_
    refine Weak.sub fun z hz => ?_
    simp only [List.mem_cons, List.not_mem_nil, or_false] at hz
    rcases hz with rfl | rfl | rfl | rfl | rfl | rfl <;> rfl
end Go.AM

namespace Go.AM
open Go Go.Proofs
set_option maxRecDepth 100000
set_option maxHeartbeats 4000000

theorem m_tensor_FullB {s : List Int} (n : Int) (h : checkS s = true) : MutC Try.prog fi_tensor_Full [.one (.p (eI s)), .one (.p (.int .i64 n))] []
    (.tup [.agg [.msl 55 0 1 s.length none, .msl 30 0 1 (sizeS s).toNat (some (sizeS s).toNat)], .one (.p (.int .i64 0))])
    [(55, .arr true 1 (rI s)), (30, .arr true 1 (rI (List.replicate (sizeS s).toNat n)))] [55, 30] :=
  (m_tensor_Full n h).ren (swp_swp 5 55)
theorem p_reduce_Grow (s d : List Int) (a k : Int) (hd : I64s d) : PureC Try.prog fi_reduce_Grow [dT s d, dN a, dN k] (dTE (growS s d a k)) := by
  refine pure_reduce_Grow (by simp) fun G hP hn => ?_
  have kc := p_tensor_Check s d
  cases hc : checkT s d
  · have hf : growS s d a k = bad 30 := by unfold growS; rw [if_neg (by simp [hc])]
    rw [hc] at kc
    refine go trivial kc ?_
    exact ends_ret rfl rfl rfl (by rw [hf]; rfl)
  rw [hc] at kc
  by_cases h1 : a < 0
  · have hf : growS s d a k = bad 20 := by unfold growS; rw [if_pos hc, if_pos (.inl h1)]
    refine go h1 kc ?_
    exact ends_ret rfl rfl rfl (by rw [hf]; rfl)
  by_cases h2 : a > s.length
  · have hf : growS s d a k = bad 20 := by unfold growS; rw [if_pos hc, if_pos (.inr h2)]
    refine go (aa h1 h2) kc ?_
    exact ends_ret rfl rfl rfl (by rw [hf]; rfl)
  obtain ⟨n, rfl⟩ := Int.eq_ofNat_of_zero_le (by omega : 0 ≤ a)
  have hle : n ≤ s.length := by omega
  have hok := (checkT_iff.1 hc).1
  have hs := check_len (checkS_iff.2 hok)
  have kC := m_slices_Clone s (by omega)
  have kI := m_slices_Insert (s := s) (n := n) k hle (by omega)
  have h3 : ¬ ((n : Int) < 0 ∨ (n : Int) > s.length) := by omega
  have hl := insL_len s k hle
  cases hk : checkS (insL s n k)
  · have hf : growS s d n k = bad 20 := by unfold growS; rw [if_pos hc, if_neg h3, Int.toNat_natCast, if_neg (by simp [hk])]
    have kF : PureC Try.prog fi_tensor_Full [dI (insL s n k), dN 0] (dTE (bad 20)) := by have := p_tensor_Full (insL s n k) 0; unfold fullF at this; rw [if_neg (by simp [hk])] at this; exact this
    generalize insL s n k = s' at *
    refine go (aa h1 h2) (aa kc <| aa kC <| aa kI kF) ?_
    exact ends_ret rfl rfl rfl (by rw [hf]; rfl)
  have kF := m_tensor_FullB (s := insL s n k) 0 hk
  have hok' := checkS_iff.1 hk
  have he : checkT (insL s n k) (List.replicate (sizeS (insL s n k)).toNat 0) = true := checkT_iff.2 ⟨hok', by have := sizeS_ok hok'; have := prd_pos hok'.2.1; simp; omega⟩
  obtain ⟨A, S, B, L⟩ := Lanes.of (n := n) he (by omega)
  obtain rfl : k = S := by have := L.hS; rw [insL_get s k hle] at this; exact Option.some.inj this
  have hA : sizeS (s.take n) = A := by have := L.hA; rw [insL_take s _ hle] at this; exact this
  have hB : sizeS (s.drop n) = B := by have := L.hB; rw [insL_drop s _ hle] at this; exact this
  have hf : growS s d n (S : Int) = ((insL s n S, growE S B d d.length 0 (List.replicate (sizeS (insL s n S)).toNat 0)), 0) := by
    unfold growS; rw [if_pos hc, if_neg h3, Int.toNat_natCast, if_pos hk]; simp only [hB, Int.toNat_natCast]
  have hdl : d.length = A * B := by
    have q1 := (checkT_iff.1 hc).2
    have q2 : prd s = prd (s.take n) * prd (s.drop n) := by rw [← prd_append, List.take_append_drop]
    rw [← sizeS_ok (hok.take n), ← sizeS_ok (hok.drop n), hA, hB] at q2
    have : (d.length : Int) = ((A * B : Nat) : Int) := by rw [q1, q2]; simp
    exact_mod_cast this
  have hN : (sizeS (insL s n S)).toNat = A * S * B := by have := L.len; simpa using this
  have hli := fun (p i : Nat) (hp : p < A * B) (hi : i < S) => L.lt hp (i := i) hi
  have hAB := L.AB
  have hs16 := L.s2
  have hb64 := L.B64
  have hb1 := L.b1
  have hs1 := L.s1
  have ks1 := p_shape_Size (s.take n)
  have ks2 := p_shape_Size (s.drop n)
  rw [hA] at ks1
  rw [hB] at ks2
  rw [hf]
  have hRl : (List.replicate (sizeS (insL s n S)).toNat (0 : Int)).length = (sizeS (insL s n S)).toNat := by simp
  simp only [List.length_replicate] at hli
  generalize List.replicate (sizeS (insL s n S)).toNat (0 : Int) = R at *
  generalize (sizeS (insL s n S)).toNat = N at *
  generalize insL s n S = s' at *
  have c1 : (n : Int) ≤ s.length := by omega
  have t0 : (s.length : Int).toNat = s.length := rfl
  have t1 := rI_take s n
  have t2 := rI_drop s n
  have t5 : List.take (s.length - n) (rI (List.drop n s)) = rI (List.drop n s) := List.take_of_length_le (by simp)
  refine go (aa h1 <| aa h2 <| aa c1 <| aa hle <| aa t0 <| aa t1 <| aa t2 <| aa t5 @all1) (aa kc <| aa kC <| aa kI <| aa kF <| aa ks1 ks2) ?_
  have hsl : s'.length = s.length + 1 := hl
  refine T_for d.length (fun p acc => { env := [(2, .one (.p (.int .i64 S))), (6, .one (.ptr 6 0 2 0)), (8, .one (.ptr 8 0 2 0)), (10, .one (.ptr 10 0 3 0)), (56, .one (.p (eI d))), (57, .one (.p (.int .i64 d.length))), (58, .one (.p (.int .i64 p)))], σ := [(3, .cells true [.p (eI s), .p (eI d)]), (6, .cells true [.nils, .nils]), (8, .cells true [.msl 55 0 1 s'.length none, .msl 30 0 1 N (some N)]), (10, .cells true [.p (.int .i64 A), .p (.int .i64 S), .p (.int .i64 B)]), (55, .arr true 1 (rI s')), (30, .arr true 1 (rI acc))] })
    (fun p acc => acc.length = N ∧ growE S B d (d.length - p) p acc = growE S B d d.length 0 R) R ⟨hRl, rfl⟩ ?_ fun p acc hp hinv => ?_
  · refine Weak.sub fun q hq => ?_
    simp only [List.mem_cons, List.not_mem_nil, or_false] at hq
    rcases hq with rfl | rfl | rfl | rfl | rfl | rfl <;> rfl
  obtain ⟨hal, hput⟩ := hinv
  by_cases hlt2 : p < d.length
  rotate_left
  · have c1 : ¬ (p : Int) < (d.length : Int) := by omega
    have hpe : p = d.length := by omega
    rw [hpe, Nat.sub_self] at hput
    simp only [growE] at hput
    refine go c1 trivial ?_
    rw [← hput]
    exact ends_twoM (t1 := 55) (t2 := 30) (by decide) rfl rfl rfl (by simp) (by simp [hal]) (.inr ⟨_, rfl, rfl⟩) rfl
  have c1 : (p : Int) < (d.length : Int) := by omega
  have w3 : IntKind.i64.wrap ((p : Int) + 1) = ((p + 1 : Nat) : Int) := by rw [wrap_in (by omega) (by omega)]; rfl
  rw [show d.length - p = (d.length - (p + 1)) + 1 from by omega] at hput
  simp only [growE] at hput
  have hx : d[p]? = some (gt d p) := gt_at hlt2
  have kat := fun (i : Nat) (hi : i < S) => p_reduce_lane_at A S B p i hs16 hb64 hb1 (by omega) (by omega)
  have hlp := fun (i : Nat) (hi : i < S) => hli p i (by omega) hi
  generalize gt d p = v at *
  refine go (aa c1 hx) trivial ?_
  refine T_for S (fun i acc => { env := [(2, .one (.p (.int .i64 S))), (6, .one (.ptr 6 0 2 0)), (8, .one (.ptr 8 0 2 0)), (10, .one (.ptr 10 0 3 0)), (11, .one (.p (.int .i64 p))), (12, .one (.p (.int .i64 v))), (56, .one (.p (eI d))), (57, .one (.p (.int .i64 d.length))), (58, .one (.p (.int .i64 p))), (63, .one (.p (.int .i64 S))), (64, .one (.p (.int .i64 i)))], σ := [(3, .cells true [.p (eI s), .p (eI d)]), (6, .cells true [.nils, .nils]), (8, .cells true [.msl 55 0 1 s'.length none, .msl 30 0 1 N (some N)]), (10, .cells true [.p (.int .i64 A), .p (.int .i64 S), .p (.int .i64 B)]), (55, .arr true 1 (rI s')), (30, .arr true 1 (rI acc))] })
    (fun i acc' => acc'.length = N ∧ putsE (fun i => laneAt S B p i) v (S - i) i acc' = putsE (fun i => laneAt S B p i) v S 0 acc) acc ⟨hal, rfl⟩ ?_ fun i acc' hi hv => ?_
  · refine Weak.sub fun z hz => ?_
    simp only [List.mem_cons, List.not_mem_nil, or_false] at hz
    rcases hz with rfl | rfl | rfl | rfl | rfl | rfl <;> rfl
  obtain ⟨hal', hp2⟩ := hv
  by_cases hiS : i < S
  · have c2 : (i : Int) < (S : Int) := by omega
    have w4 : IntKind.i64.wrap ((i : Int) + 1) = ((i + 1 : Nat) : Int) := by rw [wrap_in (by omega) (by omega)]; rfl
    have ki := kat i hiS
    have q1 : laneAt S B p i < N := by rw [hN]; have := hlp i hiS; omega
    rw [show S - i = (S - (i + 1)) + 1 from by omega] at hp2
    simp only [putsE] at hp2
    have q2 : ((laneAt S B p i : Nat) : Int) < (N : Int) := by omega
    have hxa : acc'[laneAt S B p i]? = some (gt acc' (laneAt S B p i)) := gt_at (by omega)
    generalize laneAt S B p i = q at *
    refine go (aa c2 <| aa w4 <| aa q1 <| aa q2 <| aa @hal' <| aa hxa @rI_set) ki ?_
    refine rnd_next hiS (acc'.set q v) ⟨by simp [hal'], hp2⟩ (Weak.sub fun z hz => ?_)
    simp only [List.mem_cons, List.not_mem_nil, or_false] at hz
    rcases hz with rfl | rfl | rfl | rfl | rfl | rfl <;> rfl
  · have c2 : ¬ (i : Int) < (S : Int) := by omega
    have hie : i = S := by omega
    rw [hie, Nat.sub_self] at hp2
    simp only [putsE] at hp2
    rw [← hp2] at hput
    refine go (aa c2 w3) trivial ?_
    refine rnd_next hlt2 acc' ⟨hal', hput⟩ (Weak.sub fun z hz => ?_)
    simp only [List.mem_cons, List.not_mem_nil, or_false] at hz
    rcases hz with rfl | rfl | rfl | rfl | rfl | rfl <;> rfl
end Go.AM

namespace Go.AM
open Go Go.Proofs
set_option maxRecDepth 100000
set_option maxHeartbeats 4000000

theorem Lanes.size {s d : List Int} {n A S B : Nat} (L : Lanes s d n A S B) : sizeS (s.eraseIdx n) = ((A * B : Nat) : Int) ∧ ShapeOk (s.eraseIdx n) := by
  have hok := (checkT_iff.1 L.hc).1
  have hp : prd (s.eraseIdx n) = ((A * B : Nat) : Int) := by
    rw [List.eraseIdx_eq_take_drop_succ, prd_append, ← sizeS_ok (hok.take n), ← sizeS_ok (hok.drop (n + 1)), L.hA, L.hB]; simp
  have hAB := L.AB
  have ho : ShapeOk (s.eraseIdx n) := ⟨Nat.le_trans (List.length_eraseIdx_le _ _) hok.1, fun m hm => hok.2.1 m (List.mem_of_mem_eraseIdx hm), by rw [hp]; omega⟩
  exact ⟨by rw [sizeS_ok ho, hp], ho⟩
end Go.AM

namespace Go.AM
open Go Go.Proofs
set_option maxRecDepth 100000
set_option maxHeartbeats 4000000

def kindsM : PV := .map [(10, true, [.nilF, .fn fi_fix_Add [] []]), (11, true, [.nilF, .fn fi_fix_Sub [] []]), (12, true, [.nilF, .fn fi_fix_Mul [] []]), (13, true, [.nilF, .fn fi_fix_Div [] []]),
  (20, true, [.fn fi_fix_Neg [] [], .nilF]), (21, true, [.fn fi_elem_kinds_1 [] [], .nilF]), (22, true, [.fn fi_fix_Pow [] [], .nilF]), (23, true, [.fn fi_fix_Sqrt [] [], .nilF])]
theorem p_elem_kinds : PureC Try.prog fi_elem_kinds [] (.one kindsM) := by
  refine pure_elem_kinds (by simp) fun G hP hn => ?_
  unfold a_elem_kinds
  refine go trivial trivial ?_
  exact ends_ret rfl rfl rfl rfl
def eachF (s : List Int) (h : Nat → Int × Int) : (List Int × List Int) × Int :=
  if (coll h (sizeS s).toNat 0 []).2 = 0 then ((s, (coll h (sizeS s).toNat 0 []).1), 0) else bad (coll h (sizeS s).toNat 0 []).2
theorem p_elem_each {f : FuncId} {caps : List PV} {s : List Int} {h : Nat → Int × Int} (hs : s.length ≤ 64) (hf : ∀ p : Nat, p < (sizeS s).toNat → PureC Try.prog f ([dN p] ++ caps.map .one) (dNE (h p))) :
    PureC Try.prog fi_elem_each [dI s, .one (.fn f [] caps)] (dTE (eachF s h)) := by
  refine pure_elem_each (by simp) fun G hP hn => ?_
  unfold a_elem_each
  have kl := m_slices_Clone s (by omega)
  have ks := p_shape_Size s
  have hz := sizeS_nn s
  refine go trivial (aa kl ks) ?_
  refine T_weak (Weak.nilC 6 100 1 1 rfl rfl rfl rfl) ?_
  refine T_for (sizeS s).toNat (fun i acc => { env := [(1, .one (.p (.fn f [] caps))), (4, .one (.ptr 4 0 2 0)), (6, .one (.ptr 6 0 2 0)), (14, .one (.p (.int .i64 (sizeS s)))), (15, .one (.p (.int .i64 i)))], σ := [(4, .cells true [.nils, .nils]), (6, .cells true [.msl 5 0 1 s.length none, .msl 100 0 1 i none]), (5, .arr true 1 (rI s)), (100, .arr true 1 (rI acc))] })
    (fun i acc => acc.length = i ∧ coll h ((sizeS s).toNat - i) i acc = coll h (sizeS s).toNat 0 []) [] ⟨rfl, rfl⟩ ?_ fun i acc hi hinv => ?_
  · refine Weak.sub fun q hq => ?_
    simp only [List.mem_cons, List.not_mem_nil, or_false] at hq
    rcases hq with rfl | rfl | rfl | rfl <;> rfl
  obtain ⟨hal, hcol⟩ := hinv
  by_cases hlt : i < (sizeS s).toNat
  · have c1 : (i : Int) < sizeS s := by omega
    have w1 : IntKind.i64.wrap ((i : Int) + 1) = ((i + 1 : Nat) : Int) := by rw [wrap_in (by omega) (by omega)]; rfl
    have kf := hf i hlt
    rw [show (sizeS s).toNat - i = ((sizeS s).toNat - (i + 1)) + 1 from by omega] at hcol
    simp only [coll] at hcol
    generalize h i = v at *
    by_cases e : v.2 = 0
    · rw [if_pos e] at hcol
      have e' : (v.2 != 0) = false := by simp [e]
      have c4 : (i + 1) * 8 ≤ 2 ^ 40 := by omega
      have c5 : i + 1 ≤ 2 ^ 40 := by omega
      refine go (aa c1 <| aa w1 <| aa @e' <| aa hal <| aa c4 c5) kf ?_
      refine rnd_next hlt (acc ++ [v.1]) ⟨by simp [hal], hcol⟩ (Weak.sub fun q hq => ?_)
      simp only [List.mem_cons, List.not_mem_nil, or_false] at hq
      rcases hq with rfl | rfl | rfl | rfl
      · rfl
      · rfl
      · rfl
      · simp [lo, rI]
    · rw [if_neg e] at hcol
      have e' : (v.2 != 0) = true := by simp [e]
      have hE : eachF s h = bad v.2 := by unfold eachF; rw [← hcol, if_neg e]
      refine go (aa c1 <| aa w1 @e') kf ?_
      exact ends_ret rfl rfl rfl (by rw [hE]; rfl)
  · have c1 : ¬ (i : Int) < sizeS s := by omega
    have hie : i = (sizeS s).toNat := by omega
    rw [hie, Nat.sub_self] at hcol
    simp only [coll] at hcol
    have hE : eachF s h = ((s, acc), 0) := by unfold eachF; rw [← hcol, if_pos rfl]
    refine go c1 trivial ?_
    exact ends_twoM (t1 := 5) (t2 := 100) (by decide) rfl rfl rfl (by simp) (by simp [hal]) (.inr ⟨_, rfl, rfl⟩) (by rw [hE]; rfl)
theorem p_elem_Two_1 {f : FuncId} {W : Int → Int → Int × Int} {k1 : PV} {s d t e : List Int} {p : Nat} {a b : Int} (ha : d[p]? = some a) (hb : e[p]? = some b) (hW : PureC Try.prog f [dN a, dN b] (dNE (W a b))) :
    PureC Try.prog fi_elem_Two_1 [dN p, .one (.box [k1, .fn f [] []]), .one (.box [eI s, eI d]), .one (.box [eI t, eI e])] (dNE (W a b)) := by
  refine pure_elem_Two_1 (by simp) fun G hP hn => ?_
  unfold a_elem_Two_1
  have hl := (List.getElem?_eq_some_iff.1 ha).1
  have hl2 := (List.getElem?_eq_some_iff.1 hb).1
  refine go (aa ha <| aa hb <| aa hl hl2) hW ?_
  exact ends_ret rfl rfl rfl rfl
end Go.AM

namespace Go.AM
open Go Go.Proofs
set_option maxRecDepth 100000
set_option maxHeartbeats 4000000

theorem parts_bit {A T H L P R bit H' L' : Nat} (h1 : A = T * 340282366920938463463374607431768211456 + (H * 18446744073709551616 + L)) (h2 : T = P + R)
    (hb : bit = H / 9223372036854775808) (hH' : H' = H * 2 % 18446744073709551616 + L / 9223372036854775808) (hL' : L' = L * 2 % 18446744073709551616) (hH : H < 18446744073709551616) (hL : L < 18446744073709551616) :
    2 * A = (2 * P + (2 * R + bit)) * 340282366920938463463374607431768211456 + (H' * 18446744073709551616 + L') ∧ H' < 18446744073709551616 ∧ L' < 18446744073709551616 ∧ bit ≤ 1 := by
  omega
theorem parts_q {QH QL : Nat} {QH' QL' : Nat} (h1 : QH' = QH * 2 % 18446744073709551616 + QL / 9223372036854775808) (h2 : QL' = QL * 2 % 18446744073709551616) (hQ : QH < 9223372036854775808) (hL : QL < 18446744073709551616) :
    QH' * 18446744073709551616 + QL' = 2 * (QH * 18446744073709551616 + QL) ∧ QL' + 1 < 18446744073709551616 := by
  omega
structure PInv (N y j H L QH QL R : Nat) : Prop where
  eq : N * 2 ^ j = ((QH * 18446744073709551616 + QL) * y + R) * 340282366920938463463374607431768211456 + (H * 18446744073709551616 + L)
  hH : H < 18446744073709551616
  hL : L < 18446744073709551616
  hQL : QL < 18446744073709551616
  hR : R < y
theorem PInv.next {N y j H L QH QL R : Nat} (h : PInv N y j H L QH QL R) {bit H' L' QH' QL' : Nat} (hb : bit = H / 9223372036854775808) (hH' : H' = H * 2 % 18446744073709551616 + L / 9223372036854775808) (hL' : L' = L * 2 % 18446744073709551616)
    (hQ' : QH' = QH * 2 % 18446744073709551616 + QL / 9223372036854775808) (hQL' : QL' = QL * 2 % 18446744073709551616) (hqh : QH < 9223372036854775808) :
    (y ≤ 2 * R + bit → PInv N y (j + 1) H' L' QH' (QL' + 1) (2 * R + bit - y)) ∧ (¬ y ≤ 2 * R + bit → PInv N y (j + 1) H' L' QH' QL' (2 * R + bit)) := by
  obtain ⟨a1, a2, a3, a4⟩ := parts_bit h.eq rfl hb hH' hL' h.hH h.hL
  obtain ⟨b1, b2⟩ := parts_q hQ' hQL' hqh h.hQL
  have hR := h.hR
  have e : N * 2 ^ (j + 1) = 2 * (N * 2 ^ j) := by rw [Nat.pow_succ, ← Nat.mul_assoc, Nat.mul_comm]
  have e2 : (QH' * 18446744073709551616 + QL') * y = 2 * ((QH * 18446744073709551616 + QL) * y) := by rw [b1, Nat.mul_assoc]
  refine ⟨fun hy => ⟨?_, a2, a3, b2, by omega⟩, fun hy => ⟨?_, a2, a3, by omega, by omega⟩⟩
  · rw [e, a1, ← Nat.add_assoc (QH' * 18446744073709551616), Nat.add_mul _ 1 y, Nat.one_mul, e2]
    have : 2 * ((QH * 18446744073709551616 + QL) * y) + y + (2 * R + bit - y) = 2 * ((QH * 18446744073709551616 + QL) * y) + (2 * R + bit) := by omega
    rw [this]
  · rw [e, a1, e2]
theorem same_top {M N T r : Nat} (h : N * M = T * M + r) (hr : r < M) : N = T := by
  have hM : 0 < M := by omega
  have h1 : N = (T * M + r) / M := by rw [← h, Nat.mul_div_cancel _ hM]
  rw [h1, Nat.mul_comm, Nat.mul_add_div hM, Nat.div_eq_of_lt hr]; rfl
theorem low_128 {H L : Nat} (h : H < 18446744073709551616) (h2 : L < 18446744073709551616) : H * 18446744073709551616 + L < 340282366920938463463374607431768211456 := by omega
theorem PInv.done {N y H L QH QL R : Nat} (h : PInv N y 128 H L QH QL R) (hy : 0 < y) : N / y / 18446744073709551616 = QH ∧ N / y % 18446744073709551616 = QL ∧ N % y = R := by
  have h1 := h.eq
  have h2 : (2 : Nat) ^ 128 = 340282366920938463463374607431768211456 := rfl
  rw [h2] at h1
  have hlt : H * 18446744073709551616 + L < 340282366920938463463374607431768211456 := low_128 h.hH h.hL
  have h3 : N = (QH * 18446744073709551616 + QL) * y + R := same_top h1 hlt
  have h4 : N / y = QH * 18446744073709551616 + QL := by
    rw [h3, Nat.mul_comm _ y, Nat.mul_add_div hy, Nat.div_eq_of_lt h.hR, Nat.add_zero]
  have h5 : N % y = R := by
    rw [h3, Nat.mul_comm _ y, Nat.mul_add_mod, Nat.mod_eq_of_lt h.hR]
  have := h.hQL
  rw [h4, h5]
  exact ⟨by omega, by omega, rfl⟩
end Go.AM

namespace Go.AM
open Go Go.Proofs
set_option maxRecDepth 100000
set_option maxHeartbeats 4000000

theorem Lanes.tog {s d : List Int} {n A S B : Nat} (L : Lanes s d n A S B) (W E : Int → Int → Int × Int) (F : Int → Int) :
    togetherF W E F s d n = if (coll (laneR W E F S B d) (A * B) 0 []).2 = 0 then ((s.eraseIdx n, (coll (laneR W E F S B d) (A * B) 0 []).1), 0) else bad (coll (laneR W E F S B d) (A * B) 0 []).2 := by
  have ha : ¬ ((n : Int) < 0 ∨ (n : Int) ≥ s.length) := by have := L.hn; omega
  unfold togetherF
  rw [if_pos L.hc, if_neg ha]
  simp only [Int.toNat_natCast, L.hA, L.hB, L.hS, Option.getD_some]
end Go.AM

namespace Go.AM
open Go Go.Proofs
set_option maxRecDepth 100000
set_option maxHeartbeats 4000000

theorem range_map_get (f : Nat → Int) {n p : Nat} (h : p < n) : ((List.range n).map f)[p]? = some (f p) := by rw [List.getElem?_map, List.getElem?_range h]; rfl
end Go.AM

namespace Go.AM
open Go Go.Proofs
set_option maxRecDepth 100000
set_option maxHeartbeats 4000000

theorem i64d {l : List Int} (h : l.all (fun x => decide (-9223372036854775808 ≤ x) && decide (x ≤ 9223372036854775807)) = true) : I64s l := fun x hx => by
  have := List.all_eq_true.1 h x hx
  simp only [Bool.and_eq_true, decide_eq_true_eq] at this
  exact ⟨by omega, by omega⟩
theorem p_awake6 : PureC Try.prog fi_fullerlaw06_awake [] (dB true) := by
  refine pure_fullerlaw06_awake (by simp) fun G hP hn => ?_
  have k1 := p_reduce_Sum [2, 2] [1, 5, 3, 4] 0 (i64d (by decide))
  rw [show sumS [2, 2] [1, 5, 3, 4] 0 = (([2], [4, 9]), 0) from by decide +kernel] at k1
  have k2 := p_reduce_Max [2, 2] [1, 5, 3, 4] 1 (i64d (by decide))
  rw [show mxS [2, 2] [1, 5, 3, 4] 1 = (([2], [5, 4]), 0) from by decide +kernel] at k2
  have k3 := p_reduce_First [2, 2] [1, 5, 3, 4] 1 (i64d (by decide))
  rw [show firstS [2, 2] [1, 5, 3, 4] 1 = (([2, 2], [0, 4294967296, 0, 4294967296]), 0) from by decide +kernel] at k3
  have k4 := p_reduce_Mean [2, 2] [1, 5, 3, 4] 0 (i64d (by decide))
  rw [show meanS [2, 2] [1, 5, 3, 4] 0 = (([2], [2, 4]), 0) from by decide +kernel] at k4
  have k5 := p_reduce_Grow [2] [5, 4] 0 2 (i64d (by decide))
  rw [show growS [2] [5, 4] 0 2 = (([2, 2], [5, 4, 5, 4]), 0) from by decide +kernel] at k5
  have k6 := p_reduce_Sum [2, 2] [1, 5, 3, 4] 2 (i64d (by decide))
  rw [show sumS [2, 2] [1, 5, 3, 4] 2 = (([], []), 20) from by decide +kernel] at k6
  have k7 := p_reduce_Sum [] [] 0 (i64d (by decide))
  rw [show sumS [] [] 0 = (([], []), 30) from by decide +kernel] at k7
  have j1 := c_same' [4, 9]
  have j2 := c_same' [5, 4]
  have j3 := c_same' [0, 4294967296, 0, 4294967296]
  have j4 := c_same' [2, 4]
  have j5 := c_same' [5, 4, 5, 4]
  refine go trivial trivial ?_
  exact ends_ret rfl rfl rfl rfl
end Go.AM

namespace Go.AM
open Go Go.Proofs
set_option maxRecDepth 100000

def Sm (d : List Int) : Prop := ∀ i, -1099511627776 ≤ gt d i ∧ gt d i ≤ 1099511627776
theorem sumR_bound {f : Nat → Int} {M : Int} (h : ∀ i, -M ≤ f i ∧ f i ≤ M) : ∀ n : Nat, -(n * M) ≤ sumR n f ∧ sumR n f ≤ n * M
  | 0 => by simp [sumR]
  | n + 1 => by
    have := sumR_bound h n
    have h2 := h n
    simp only [sumR]
    have e : ((n + 1 : Nat) : Int) * M = n * M + M := by rw [Int.natCast_add, Int.add_mul]; simp
    omega
theorem foldE_sum {y : Nat → Int} {M : Int} (h : ∀ i, -M ≤ y i ∧ y i ≤ M) (h0 : 0 ≤ M) : ∀ (n k : Nat) (v : Int), -4611686018427387904 ≤ v - n * M → v + n * M ≤ 4611686018427387904 →
    foldE fAdd y n k v = (v + sumR n fun i => y (k + i), 0)
  | 0, k, v, _, _ => by simp [foldE, sumR]
  | n + 1, k, v, h1, h2 => by
    have e : ((n + 1 : Nat) : Int) * M = n * M + M := by rw [Int.natCast_add, Int.add_mul]; simp
    have hk := h k
    have hn : 0 ≤ (n : Int) * M := Int.mul_nonneg (by omega) h0
    have ha : fAdd v (y k) = (v + y k, 0) := by
      unfold fAdd rng; rw [if_pos (by unfold I64; omega)]
    simp only [foldE]
    rw [ha]
    simp only [if_true]
    rw [foldE_sum h h0 n (k + 1) (v + y k) (by omega) (by omega)]
    have es : sumR (n + 1) (fun i => y (k + i)) = y k + sumR n fun i => y (k + 1 + i) := by
      have := sumR_add 1 (fun i => y (k + i)) n
      rw [Nat.add_comm 1 n] at this
      rw [this]
      simp only [sumR, Nat.add_zero, Int.zero_add]
      congr 1
      exact sumR_congr fun i _ => by rw [← Nat.add_assoc]
    rw [es]
    congr 1; omega
theorem Lanes.sum_small {s d : List Int} {n A S B : Nat} (L : Lanes s d n A S B) {M : Int} (h : ∀ i, -M ≤ gt d i ∧ gt d i ≤ M) (h0 : 0 ≤ M) (hM : M ≤ 70368744177664) :
    sumS s d n = ((s.eraseIdx n, (List.range (A * B)).map fun p => sumR S fun i => gt d (laneAt S B p i)), 0) := by
  have hs2 := L.s2
  have hb : (S : Int) * M ≤ 4611686018427387904 := by
    have : (S : Int) * M ≤ 16 * M := Int.mul_le_mul_of_nonneg_right (by omega) h0
    omega
  have hf : ∀ p, foldE fAdd (fun i => gt d (laneAt S B p i)) S 0 0 = (sumR S fun i => gt d (laneAt S B p i), 0) := fun p => by
    rw [foldE_sum (fun i => h _) h0 S 0 0 (by omega) (by omega), Int.zero_add]
    simp only [Nat.zero_add]
  have hl : ∀ p, laneR fAdd (fun n _ => (n, 0)) (fun _ => 0) S B d p = (sumR S fun i => gt d (laneAt S B p i), 0) := fun p => by
    unfold laneR; rw [hf]; rfl
  have h1 := coll_ok (f := laneR fAdd (fun n _ => (n, 0)) (fun _ => 0) S B d) (n := A * B) (a := 0) (acc := []) (fun k hk => by rw [hl])
  have h2 : sumS s d n = _ := L.tog fAdd (fun n _ => (n, 0)) (fun _ => 0)
  rw [h2, h1]
  simp [hl]
theorem firstE_spec {y : Nat → Int} : ∀ (n k at_ : Nat), (∀ i, i < k → y i ≤ y at_) → ∀ i, i < k + n → y i ≤ y (firstE y n k at_)
  | 0, k, at_, h, i, hi => h i (by omega)
  | n + 1, k, at_, h, i, hi => by
    simp only [firstE]
    refine firstE_spec n (k + 1) _ (fun j hj => ?_) i (by omega)
    split
    · rename_i hg
      by_cases hjk : j = k
      · rw [hjk]; exact Int.le_refl _
      · have := h j (by omega); omega
    · rename_i hg
      by_cases hjk : j = k
      · rw [hjk]; omega
      · exact h j (by omega)
theorem firstL_max (d : List Int) (S B p : Nat) {i : Nat} (hi : i < S) : gt d (laneAt S B p i) ≤ gt d (laneAt S B p (firstL d S B p)) :=
  firstE_spec (y := fun i => gt d (laneAt S B p i)) S 0 0 (fun i hi => by omega) i (by omega)
theorem firstL_lt (d : List Int) (S B p : Nat) (h : 0 < S) : firstL d S B p < S := firstE_lt _ _ _ (by omega) h
theorem Lanes.maxV {s d : List Int} {n A S B : Nat} (L : Lanes s d n A S B) :
    mxS s d n = ((s.eraseIdx n, (List.range (A * B)).map fun p => gt d (laneAt S B p (firstL d S B p))), 0) := by
  have hl0 : ∀ p, laneR (fun a b => (max a b, 0)) (fun n _ => (n, 0)) (fun a => a) S B d p = (gt d (laneAt S B p (firstL d S B p)), 0) := fun p => by
    unfold laneR
    rw [foldE_max (y := fun i => gt d (laneAt S B p i))]
    rfl
  have h1 := coll_ok (f := laneR (fun a b => (max a b, 0)) (fun n _ => (n, 0)) (fun a => a) S B d) (n := A * B) (a := 0) (acc := []) (fun k hk => by rw [hl0])
  have h2 : mxS s d n = _ := L.tog (fun a b => (max a b, 0)) (fun n _ => (n, 0)) (fun a => a)
  rw [h2, h1]
  simp [hl0]
theorem gt_tb (f : Nat → Int) {n p : Nat} (h : p < n) : gt ((List.range n).map f) p = f p := by unfold gt; rw [range_map_get f h]; rfl
theorem gt_tbB {f : Nat → Int} {n : Nat} {M : Int} (h0 : 0 ≤ M) (h : ∀ p, -M ≤ f p ∧ f p ≤ M) (i : Nat) : -M ≤ gt ((List.range n).map f) i ∧ gt ((List.range n).map f) i ≤ M := by
  by_cases hi : i < n
  · rw [gt_tb f hi]; exact h i
  · unfold gt; rw [List.getElem?_eq_none (by simp; omega)]; simp; omega
theorem lanes2 {S T : Int} {d : List Int} (hc : checkT [S, T] d = true) : ∃ a b : Nat, S = a ∧ T = b ∧ Lanes [S, T] d 0 1 a b ∧ Lanes [S, T] d 1 a b 1 := by
  have hok := (checkT_iff.1 hc).1
  have h1 := hok.2.1 S (by simp)
  have h2 := hok.2.1 T (by simp)
  obtain ⟨a, rfl⟩ := Int.eq_ofNat_of_zero_le (by omega : 0 ≤ S)
  obtain ⟨b, rfl⟩ := Int.eq_ofNat_of_zero_le (by omega : 0 ≤ T)
  refine ⟨a, b, rfl, rfl, ?_, ?_⟩
  · obtain ⟨A, S', B, L⟩ := Lanes.of (n := 0) hc (by simp)
    have e1 : (A : Int) = 1 := by rw [← L.hA]; rfl
    have e2 : (S' : Int) = a := by have := L.hS; simpa using this.symm
    have e3 : (B : Int) = b := by
      rw [← L.hB, sizeS_ok (hok.drop 1)]; simp [prd]
    obtain rfl : A = 1 := by omega
    obtain rfl : S' = a := by omega
    obtain rfl : B = b := by omega
    exact L
  · obtain ⟨A, S', B, L⟩ := Lanes.of (n := 1) hc (by simp)
    have e1 : (A : Int) = a := by rw [← L.hA, sizeS_ok (hok.take 1)]; simp [prd]
    have e2 : (S' : Int) = b := by have := L.hS; simpa using this.symm
    have e3 : (B : Int) = 1 := by rw [← L.hB]; rfl
    obtain rfl : A = a := by omega
    obtain rfl : S' = b := by omega
    obtain rfl : B = 1 := by omega
    exact L
theorem lanes1 {a : Nat} {f : Nat → Int} (h : 1 ≤ a ∧ a ≤ 16) : Lanes [(a : Int)] ((List.range a).map f) 0 1 a 1 := by
  have hok : ShapeOk [(a : Int)] := ⟨by simp, fun m hm => by simp at hm; omega, by simp [prd]; omega⟩
  have hc : checkT [(a : Int)] ((List.range a).map f) = true := checkT_iff.2 ⟨hok, by simp [prd]⟩
  obtain ⟨A, S', B, L⟩ := Lanes.of (n := 0) hc (by simp)
  have e1 : (A : Int) = 1 := by rw [← L.hA]; rfl
  have e2 : (S' : Int) = a := by have := L.hS; simpa using this.symm
  have e3 : (B : Int) = 1 := by rw [← L.hB]; rfl
  obtain rfl : A = 1 := by omega
  obtain rfl : S' = a := by omega
  obtain rfl : B = 1 := by omega
  exact L
theorem laneAt1 (a p i : Nat) (hp : p < 1) : laneAt a 1 p i = i := by
  obtain rfl : p = 0 := by omega
  simp [laneAt]
structure Twice (S T : Int) (d : List Int) : Prop where
  of : ∃ (a b : Nat) (x y : List Int) (r : Int) (u v : List Int) (q : Int), sumS [S, T] d 0 = (([(b : Int)], x), 0) ∧ sumS [(b : Int)] x 0 = (([], [r]), 0) ∧ sumS [S, T] d 1 = (([(a : Int)], y), 0) ∧ sumS [(a : Int)] y 0 = (([], [r]), 0) ∧
    mxS [S, T] d 0 = (([(b : Int)], u), 0) ∧ mxS [(b : Int)] u 0 = (([], [q]), 0) ∧ mxS [S, T] d 1 = (([(a : Int)], v), 0) ∧ mxS [(a : Int)] v 0 = (([], [q]), 0) ∧ I64s x ∧ I64s y ∧ I64s u ∧ I64s v
theorem i64_tab {f : Nat → Int} (h : ∀ p, I64 (f p)) (n : Nat) : I64s ((List.range n).map f) := fun x hx => by
  obtain ⟨p, _, rfl⟩ := List.mem_map.1 hx
  exact h p
theorem twice {S T : Int} {d : List Int} (hc : checkT [S, T] d = true) (h : Sm d) : Twice S T d := by
  obtain ⟨a, b, rfl, rfl, L0, L1⟩ := lanes2 hc
  have ha : 1 ≤ a ∧ a ≤ 16 := ⟨L0.s1, L0.s2⟩
  have hb : 1 ≤ b ∧ b ≤ 16 := ⟨L1.s1, L1.s2⟩
  have s0 := L0.sum_small h (by decide) (by decide)
  have s1 := L1.sum_small h (by decide) (by decide)
  have m0 := L0.maxV
  have m1 := L1.maxV
  rw [Nat.one_mul] at s0 m0
  rw [Nat.mul_one] at s1 m1
  have bd : ∀ (n : Nat) (f : Nat → Nat), n ≤ 16 → -(17592186044416 : Int) ≤ sumR n (fun i => gt d (f i)) ∧ sumR n (fun i => gt d (f i)) ≤ 17592186044416 := fun n f hn => by
    have := sumR_bound (f := fun i => gt d (f i)) (M := 1099511627776) (fun i => h _) n
    have : (n : Int) * 1099511627776 ≤ 17592186044416 := by omega
    omega
  have t0 := (lanes1 (f := fun p => sumR a fun i => gt d (laneAt a b p i)) hb).sum_small (M := 17592186044416) (gt_tbB (by decide) fun p => bd a _ ha.2) (by decide) (by decide)
  have t1 := (lanes1 (f := fun p => sumR b fun i => gt d (laneAt b 1 p i)) ha).sum_small (M := 17592186044416) (gt_tbB (by decide) fun p => bd b _ hb.2) (by decide) (by decide)
  have n0 := (lanes1 (f := fun p => gt d (laneAt a b p (firstL d a b p))) hb).maxV
  have n1 := (lanes1 (f := fun p => gt d (laneAt b 1 p (firstL d b 1 p))) ha).maxV
  have l0 : ∀ p i, p < b → laneAt a b p i = i * b + p := fun p i hp => by
    unfold laneAt; rw [Nat.div_eq_of_lt hp, Nat.mod_eq_of_lt hp]; simp
  have l1 : ∀ p i, laneAt b 1 p i = p * b + i := fun p i => by simp [laneAt, Nat.mod_one]
  refine ⟨a, b, _, _, sumR b fun p => sumR a fun i => gt d (laneAt a b p i), _, _, ?_, s0, ?_, s1, ?_, m0, ?_, m1, ?_, i64_tab (fun p => ?_) _, i64_tab (fun p => ?_) _, i64_tab (fun p => ?_) _, i64_tab (fun p => ?_) _⟩
  · exact gt ((List.range b).map fun p => gt d (laneAt a b p (firstL d a b p))) (firstL ((List.range b).map fun p => gt d (laneAt a b p (firstL d a b p))) b 1 0)
  · refine t0.trans ?_
    simp only [Nat.mul_one]
    show (([], [sumR b _]), (0 : Int)) = _
    congr 3
    exact sumR_congr fun i hi => by rw [laneAt1 _ _ _ (by decide), gt_tb _ hi]
  · refine t1.trans ?_
    simp only [Nat.mul_one]
    show (([], [sumR a _]), (0 : Int)) = _
    congr 3
    rw [sumR_congr (g := fun p => sumR b fun i => gt d (laneAt b 1 p i)) fun i hi => by rw [laneAt1 _ _ _ (by decide), gt_tb _ hi]]
    rw [sumR_swap]
    exact sumR_congr fun i hi => sumR_congr fun j hj => by rw [l1, l0 _ _ hi]
  · refine n0.trans ?_
    simp only [Nat.mul_one]
    show (([], [gt _ (laneAt b 1 0 _)]), (0 : Int)) = _
    rw [laneAt1 _ _ _ (by decide)]
  · refine n1.trans ?_
    simp only [Nat.mul_one]
    show (([], [gt _ (laneAt a 1 0 _)]), (0 : Int)) = _
    rw [laneAt1 _ _ _ (by decide)]
    congr 3
    have f0 := firstL_lt ((List.range b).map fun p => gt d (laneAt a b p (firstL d a b p))) b 1 0 (by omega)
    have f1 := firstL_lt ((List.range a).map fun p => gt d (laneAt b 1 p (firstL d b 1 p))) a 1 0 (by omega)
    have x0 := fun i (hi : i < b) => firstL_max ((List.range b).map fun p => gt d (laneAt a b p (firstL d a b p))) b 1 0 hi
    have x1 := fun i (hi : i < a) => firstL_max ((List.range a).map fun p => gt d (laneAt b 1 p (firstL d b 1 p))) a 1 0 hi
    generalize firstL ((List.range b).map fun p => gt d (laneAt a b p (firstL d a b p))) b 1 0 = p0 at *
    generalize firstL ((List.range a).map fun p => gt d (laneAt b 1 p (firstL d b 1 p))) a 1 0 = p1 at *
    rw [gt_tb _ f0, gt_tb _ f1]
    simp only [laneAt1 _ 0 _ (by decide : 0 < 1)] at x0 x1
    have y0 : ∀ i, i < b → gt d (laneAt a b i (firstL d a b i)) ≤ gt d (laneAt a b p0 (firstL d a b p0)) := fun i hi => by
      have := x0 i hi; rw [gt_tb _ hi, gt_tb _ f0] at this; exact this
    have y1 : ∀ i, i < a → gt d (laneAt b 1 i (firstL d b 1 i)) ≤ gt d (laneAt b 1 p1 (firstL d b 1 p1)) := fun i hi => by
      have := x1 i hi; rw [gt_tb _ hi, gt_tb _ f1] at this; exact this
    have g0 := firstL_lt d a b p0 (by omega)
    have g1 := firstL_lt d b 1 p1 (by omega)
    -- each is above all
    have z0 : ∀ i j, i < a → j < b → gt d (i * b + j) ≤ gt d (laneAt a b p0 (firstL d a b p0)) := fun i j hi hj => by
      have := firstL_max d a b j hi
      rw [l0 _ _ hj] at this
      exact Int.le_trans this (y0 j hj)
    have z1 : ∀ i j, i < a → j < b → gt d (i * b + j) ≤ gt d (laneAt b 1 p1 (firstL d b 1 p1)) := fun i j hi hj => by
      have := firstL_max d b 1 i hj
      rw [l1] at this
      exact Int.le_trans this (y1 i hi)
    apply Int.le_antisymm
    · have := z0 p1 (firstL d b 1 p1) f1 g1
      rw [← l1] at this; exact this
    · have := z1 (firstL d a b p0) p0 g0 f0
      rw [← l0 _ _ f0] at this; exact this
  · have := bd a (fun i => laneAt a b p i) ha.2; unfold I64; omega
  · have := bd b (fun i => laneAt b 1 p i) hb.2; unfold I64; omega
  · have := h (laneAt a b p (firstL d a b p)); unfold I64; omega
  · have := h (laneAt b 1 p (firstL d b 1 p)); unfold I64; omega
end Go.AM

