import Derived.Test.YtphnlpfkenannaaGreatMx25
set_option linter.unusedVariables false
set_option linter.unusedSimpArgs false
namespace Go.AM
open Go Go.Proofs
set_option maxRecDepth 100000
set_option maxHeartbeats 8000000

theorem T_cutX {G : Ground} {F : Fence} {n id : Nat} {Q : Exit → AS → Prop} {s S : AS} {c b : ACode} (h : T G F n c (fun e s' => e = .exit id ∧ Weak G s' S) s) (k : T G F n b Q S) : T G F n c (inB id (Then G F n b Q)) s :=
  T_mono h fun e s' ⟨h1, h2⟩ => by subst h1; exact inB_exit (T_then (T_weak h2 k))
theorem div_lin {b H Lh L U U1 U0 U2 A B R2 : Nat} (hU : U = H + Lh) (hL : L = U1 * b + U0) (h1 : U * b + U1 = A + U2) (h2 : U2 * b + U0 = B + R2) :
    H * (b * b) + (Lh * (b * b) + L) = A * b + B + R2 := by
  have e : H * (b * b) + (Lh * (b * b) + L) = (U * b + U1) * b + U0 := by
    rw [hU, hL]; simp only [Nat.add_mul, Nat.mul_assoc, Nat.add_assoc]
  rw [e, h1, Nat.add_mul, Nat.add_assoc, h2, Nat.add_assoc]
theorem kn_next {i r v : Nat} (h : i * 2147483648 ≤ r) (hv : 2147483648 ≤ v) : (i + 1) * 2147483648 ≤ r + v := by
  rw [Nat.add_mul, Nat.one_mul]; exact Nat.add_le_add h hv
theorem kn_lt {i r : Nat} (h : i * 2147483648 ≤ r) (h2 : r < 4294967296) : i < 2 :=
  Nat.lt_of_mul_lt_mul_right (Nat.lt_of_le_of_lt h h2 : i * 2147483648 < 2 * 2147483648)
theorem div_tail {T q y s Y R2 : Nat} (hY : Y = y * 2 ^ s) (e1 : T * 2 ^ s = (q * y) * 2 ^ s + R2) (h3 : R2 < Y) (hy : 0 < y) : T / y = q ∧ T % y = R2 / 2 ^ s := by
  have hp : 0 < 2 ^ s := Nat.two_pow_pos s
  have e2 : R2 = (T - q * y) * 2 ^ s := by rw [Nat.sub_mul]; omega
  have hle : q * y ≤ T := Nat.le_of_mul_le_mul_right (by omega : (q * y) * 2 ^ s ≤ T * 2 ^ s) hp
  have e3 : R2 / 2 ^ s = T - q * y := by rw [e2, Nat.mul_div_cancel _ hp]
  have e4 : T - q * y < y := by
    rw [e2, hY] at h3
    exact Nat.lt_of_mul_lt_mul_right h3
  have e5 : T = y * q + (T - q * y) := by rw [Nat.mul_comm y q]; omega
  rw [e3]
  generalize T - q * y = r at *
  subst e5
  exact ⟨by rw [Nat.mul_add_div hy, Nat.div_eq_of_lt e4]; rfl, by rw [Nat.mul_add_mod, Nat.mod_eq_of_lt e4]⟩
theorem div_parts {hi lo y s Y U L Lh U1 U0 U2 R2 q1 q0 : Nat} (hY : Y = y * 2 ^ s) (hU : U = hi * 2 ^ s + Lh) (hl : lo * 2 ^ s = Lh * 18446744073709551616 + L) (hL : L = U1 * 4294967296 + U0)
    (h1 : U * 4294967296 + U1 = q1 * Y + U2) (h2 : U2 * 4294967296 + U0 = q0 * Y + R2) (h3 : R2 < Y) (hy : 0 < y) :
    (hi * 18446744073709551616 + lo) / y = q1 * 4294967296 + q0 ∧ (hi * 18446744073709551616 + lo) % y = R2 / 2 ^ s := by
  refine div_tail hY ?_ h3 hy
  have a1 : (hi * 18446744073709551616 + lo) * 2 ^ s = (hi * 2 ^ s) * 18446744073709551616 + lo * 2 ^ s := by
    rw [Nat.add_mul, Nat.mul_right_comm]
  have a2 : ((q1 * 4294967296 + q0) * y) * 2 ^ s = (q1 * Y) * 4294967296 + q0 * Y := by
    rw [hY, Nat.mul_assoc, Nat.add_mul, Nat.mul_right_comm q1]
  rw [a1, a2, hl]
  exact div_lin (b := 4294967296) hU hL h1 h2
theorem wrap_sub {N P R : Nat} (h : N = P + R) (hR : R < 18446744073709551616) : IntKind.u64.wrap (((N % 18446744073709551616 : Nat) : Int) - ((P % 18446744073709551616 : Nat) : Int)) = (R : Int) := by
  rw [u64_eq]; omega
theorem wrap_mulB (a : Nat) : IntKind.u64.wrap ((a : Int) * 4294967296) = ((a * 4294967296 % 18446744073709551616 : Nat) : Int) := by
  rw [u64_eq]; omega
theorem wrap_mulN (a b : Nat) : IntKind.u64.wrap ((a : Int) * (b : Int)) = ((a * b % 18446744073709551616 : Nat) : Int) := by
  rw [u64_eq, ← Int.natCast_mul]
  generalize a * b = m
  omega
theorem wrap_addM (a b : Nat) : IntKind.u64.wrap (((a % 18446744073709551616 : Nat) : Int) + (b : Int)) = (((a + b) % 18446744073709551616 : Nat) : Int) := by
  rw [u64_eq]; omega
theorem low_B {q : Nat} (h : q < 4294967296) : q * 4294967296 % 18446744073709551616 = q * 4294967296 := by omega
theorem low_BB {q r : Nat} (h : q < 4294967296) (h2 : r < 4294967296) : IntKind.u64.wrap (((q * 4294967296 : Nat) : Int) + (r : Int)) = ((q * 4294967296 + r : Nat) : Int) := by
  rw [← Int.natCast_add]; exact u64_nat (by omega)
theorem p_Div64_1 {hi lo y : Nat} (hl : lo < 18446744073709551616) (hy : y < 18446744073709551616) (h0 : 0 < hi) (h1 : hi < y) :
    PureC Tryz.prog fi_math_bits_Div64 [dU hi, dU lo, dU y] (dUU ((hi * 18446744073709551616 + lo) / y) ((hi * 18446744073709551616 + lo) % y)) := by
  refine pure_math_bits_Div64 (by simp) fun G hP hn => ?_
  unfold a_math_bits_Div64
  have c1 : ((y : Int) == 0) = false := by simp; omega
  have c2 : ¬ (y : Int) ≤ hi := by omega
  have c3 : ((hi : Int) == 0) = false := by simp; omega
  have kl := p_LZ64 hy
  obtain ⟨p1, p2, p3, p4⟩ := lenN_pow (x := y) (by omega) hy
  obtain ⟨s, hs⟩ : ∃ s, s = lzN y := ⟨_, rfl⟩
  have hs64 : s ≤ 63 := by rw [hs]; unfold lzN; omega
  rw [show 64 - lenN y = s from by rw [hs]; rfl] at p3 p4
  rw [← hs] at kl
  have es : IntKind.u64.wrap (s : Int) = (s : Int) := u64_nat (by omega)
  have hp : 0 < 2 ^ s := Nat.two_pow_pos s
  obtain ⟨Y, hY⟩ : ∃ Y, Y = y * 2 ^ s := ⟨_, rfl⟩
  have f1 : shlZ .u64 (y : Int) (s : Int) = (Y : Int) := by rw [hY]; exact shlN (by omega) p4
  rw [← hY] at p3 p4
  obtain ⟨V1, hV1⟩ : ∃ V1, V1 = Y / 4294967296 := ⟨_, rfl⟩
  obtain ⟨V0, hV0⟩ : ∃ V0, V0 = Y % 4294967296 := ⟨_, rfl⟩
  have f2 : shrZ .u64 (Y : Int) 32 = (V1 : Int) := by rw [hV1]; exact shr32 Y
  have f3 : andZ .u64 (Y : Int) 4294967295 = (V0 : Int) := by rw [hV0]; exact u64_and p4
  have hYV : Y = V1 * 4294967296 + V0 := by omega
  obtain ⟨Lh, hLh⟩ : ∃ Lh, Lh = lo / 2 ^ (64 - s) := ⟨_, rfl⟩
  have hpp : 2 ^ (64 - s) * 2 ^ s = 18446744073709551616 := by rw [← Nat.pow_add, show 64 - s + s = 64 from by omega]
  have hLhs : Lh < 2 ^ s := by
    rw [hLh, Nat.div_lt_iff_lt_mul (Nat.two_pow_pos _), Nat.mul_comm, hpp]; exact hl
  have hHy : hi * 2 ^ s + 2 ^ s ≤ Y := by
    have := Nat.mul_le_mul_right (2 ^ s) (show hi + 1 ≤ y from h1)
    rw [Nat.add_mul, Nat.one_mul] at this
    rw [hY]; exact this
  have f4 : shlZ .u64 (hi : Int) (s : Int) = ((hi * 2 ^ s : Nat) : Int) := shlN (by omega) (by omega)
  have f5 : IntKind.u64.wrap (64 - (s : Int)) = ((64 - s : Nat) : Int) := by
    rw [show (64 : Int) - (s : Int) = ((64 - s : Nat) : Int) from by omega]; exact u64_nat (by omega)
  have f6 : shrZ .u64 (lo : Int) ((64 - s : Nat) : Int) = (Lh : Int) := by rw [hLh]; exact shrN (by omega)
  obtain ⟨U, hU⟩ : ∃ U, U = hi * 2 ^ s + Lh := ⟨_, rfl⟩
  have f7 : orZ .u64 ((hi * 2 ^ s : Nat) : Int) (Lh : Int) = (U : Int) := by rw [hU]; exact orN (by omega) (by omega) hLhs
  obtain ⟨L, hL⟩ : ∃ L, L = lo * 2 ^ s % 18446744073709551616 := ⟨_, rfl⟩
  have f8 : shlZ .u64 (lo : Int) (s : Int) = (L : Int) := by rw [hL]; exact shlM (by omega)
  have hlo : lo * 2 ^ s = Lh * 18446744073709551616 + L := by
    have : lo * 2 ^ s / 18446744073709551616 = Lh := by
      rw [hLh, ← hpp, Nat.mul_div_mul_right _ _ hp]
    have := Nat.div_add_mod (lo * 2 ^ s) 18446744073709551616
    omega
  have hL64 : L < 18446744073709551616 := by rw [hL]; exact Nat.mod_lt _ (by decide)
  obtain ⟨U1, hU1⟩ : ∃ U1, U1 = L / 4294967296 := ⟨_, rfl⟩
  obtain ⟨U0, hU0⟩ : ∃ U0, U0 = L % 4294967296 := ⟨_, rfl⟩
  have f9 : shrZ .u64 (L : Int) 32 = (U1 : Int) := by rw [hU1]; exact shr32 L
  have f10 : andZ .u64 (L : Int) 4294967295 = (U0 : Int) := by rw [hU0]; exact u64_and hL64
  have hLU : L = U1 * 4294967296 + U0 := by omega
  have K : Knuth V1 V0 U U1 := ⟨by omega, by omega, by omega, by omega, by omega⟩
  have hU0b : U0 < 4294967296 := by omega
  clear hLh hL hV1 hV0 hU1 hU0 hs p1 p2
  have v0 : ((V1 : Int) = 0) = False := by have := K.h1; simp; omega
  have K1 := K.start
  have hQ0 := Nat.div_le_self U V1
  obtain ⟨Q0, hQ⟩ : ∃ Q0, Q0 = U / V1 := ⟨_, rfl⟩
  obtain ⟨R0, hR⟩ : ∃ R0, R0 = U % V1 := ⟨_, rfl⟩
  rw [← hQ, ← hR] at K1
  have hU64 : U < 18446744073709551616 := by omega
  have f11 : IntKind.u64.wrap ((U : Int).tdiv (V1 : Int)) = (Q0 : Int) := by
    rw [Int.tdiv_eq_ediv_of_nonneg (by omega), ← Int.natCast_ediv, ← hQ]
    exact u64_nat (by omega)
  have f12 : IntKind.u64.wrap ((Q0 : Int) * (V1 : Int)) = ((Q0 * V1 : Nat) : Int) := by rw [← Int.natCast_mul]; exact u64_nat (by omega)
  have f13 : IntKind.u64.wrap ((U : Int) - ((Q0 * V1 : Nat) : Int)) = (R0 : Int) := by
    rw [show (U : Int) - ((Q0 * V1 : Nat) : Int) = (R0 : Int) from by omega]; exact u64_nat (by omega)
  refine go (aa c1 <| aa c2 <| aa c3 <| aa @es <| aa f1 <| aa f2 <| aa f3 <| aa f4 <| aa f5 <| aa f6 <| aa f7 <| aa f8 <| aa f9 <| aa f10 <| aa v0 <| aa f11 <| aa f12 f13) kl ?_
  refine T_cutX (S := { env := [(2, .one (.p (.int .u64 Y))), (8, .one (.p (.int .u64 s))), (9, .one (.p (.int .u64 V1))), (10, .one (.p (.int .u64 V0))), (11, .one (.p (.int .u64 U))), (13, .one (.p (.int .u64 U1))), (14, .one (.p (.int .u64 U0))), (15, .one (.p (.int .u64 K.q))), (16, .one (.p (.int .u64 ((U - K.q * V1 : Nat) : Int))))], σ := [] }) ?_ ?_
  · refine T_for 2 (fun _ (a : Nat × Nat) => { env := [(2, .one (.p (.int .u64 Y))), (8, .one (.p (.int .u64 s))), (9, .one (.p (.int .u64 V1))), (10, .one (.p (.int .u64 V0))), (11, .one (.p (.int .u64 U))), (13, .one (.p (.int .u64 U1))), (14, .one (.p (.int .u64 U0))), (15, .one (.p (.int .u64 a.1))), (16, .one (.p (.int .u64 a.2)))], σ := [] })
      (fun i a => a.1 * V1 + a.2 = U ∧ K.q ≤ a.1 ∧ a.2 < 4294967296 ∧ i * 2147483648 ≤ a.2 ∧ a.1 ≤ Q0) (Q0, R0) ⟨K1.1, K1.2.1, K1.2.2, by rw [Nat.zero_mul]; exact Nat.zero_le _, Nat.le_refl _⟩ (.refl _ _) fun i a hi ha => ?_
    obtain ⟨q, r⟩ := a
    obtain ⟨a1, a2, a3, a4, a5⟩ := ha
    simp only at a1 a2 a3 a4 a5
    have hv := K.h1
    have hv2 := K.h2
    have hv0 := K.h3
    have hK := K.q_lt
    have hiff := K.lt_iff a1
    have dec : K.q < q → (q - 1) * V1 + (r + V1) = U := fun h => by
      have : q * V1 = (q - 1) * V1 + V1 := by
        conv => lhs; rw [show q = (q - 1) + 1 from by omega, Nat.add_mul, Nat.one_mul]
      omega
    have w1 : 1 ≤ q → IntKind.u64.wrap ((q : Int) - 1) = ((q - 1 : Nat) : Int) := fun h => by
      rw [show (q : Int) - 1 = ((q - 1 : Nat) : Int) from by omega]; exact u64_nat (by omega)
    have w2 : IntKind.u64.wrap ((r : Int) + (V1 : Int)) = ((r + V1 : Nat) : Int) := by rw [← Int.natCast_add]; exact u64_nat (by omega)
    have stop : ∀ q' r' : Nat, q' * V1 + r' = U → q' = K.q → r' = U - K.q * V1 := fun q' r' h1 h2 => by subst h2; omega
    by_cases b1 : 4294967296 ≤ q
    · have b1' : (q : Int) ≥ 4294967296 := by omega
      have hlt : K.q < q := by omega
      have hd := dec hlt
      have w1' := w1 (by omega)
      by_cases b2 : 4294967296 ≤ r + V1
      · have b2' : ((r + V1 : Nat) : Int) ≥ 4294967296 := by omega
        have hsm := K.small hd b2
        refine go (aa b1' <| aa w1' <| aa w2 b2') trivial ?_
        refine ⟨rfl, ?_⟩
        rw [← stop _ _ hd (by omega), show K.q = q - 1 from by omega]
        exact Weak.pick [2, 8, 9, 10, 11, 13, 14, 15, 16]
      · have b2' : ¬ ((r + V1 : Nat) : Int) ≥ 4294967296 := by omega
        refine go (aa b1' <| aa w1' <| aa w2 b2') trivial ?_
        exact rnd_next (kn_lt a4 a3) (q - 1, r + V1) ⟨hd, Nat.le_sub_one_of_lt hlt, Nat.lt_of_not_le b2, kn_next a4 hv, Nat.le_trans (Nat.sub_le _ _) a5⟩ (Weak.pick [2, 8, 9, 10, 11, 13, 14, 15, 16])
    · have b1' : ¬ (q : Int) ≥ 4294967296 := by omega
      have hA : q * V0 ≤ 4294967295 * V0 := Nat.mul_le_mul_right V0 (by omega)
      have w3 : IntKind.u64.wrap ((q : Int) * (V0 : Int)) = ((q * V0 : Nat) : Int) := by rw [← Int.natCast_mul]; exact u64_nat (by omega)
      have w4 : IntKind.u64.wrap (4294967296 * (r : Int)) = ((4294967296 * r : Nat) : Int) := by
        rw [show 4294967296 * (r : Int) = ((4294967296 * r : Nat) : Int) from by omega]; exact u64_nat (by omega)
      have w5 : IntKind.u64.wrap (((4294967296 * r : Nat) : Int) + (U1 : Int)) = ((4294967296 * r + U1 : Nat) : Int) := by
        have := K.h5
        rw [← Int.natCast_add]; exact u64_nat (by omega)
      by_cases b3 : q * V0 > 4294967296 * r + U1
      · have b3' : ((q * V0 : Nat) : Int) > ((4294967296 * r + U1 : Nat) : Int) := by omega
        have hlt : K.q < q := hiff.2 b3
        have hd := dec hlt
        have w1' := w1 (by omega)
        by_cases b2 : 4294967296 ≤ r + V1
        · have b2' : ((r + V1 : Nat) : Int) ≥ 4294967296 := by omega
          have hsm := K.small hd b2
          refine go (aa b1' <| aa w1' <| aa w2 <| aa w3 <| aa w4 <| aa w5 <| aa b2' b3') trivial ?_
          refine ⟨rfl, ?_⟩
          rw [← stop _ _ hd (by omega), show K.q = q - 1 from by omega]
          exact Weak.pick [2, 8, 9, 10, 11, 13, 14, 15, 16]
        · have b2' : ¬ ((r + V1 : Nat) : Int) ≥ 4294967296 := by omega
          refine go (aa b1' <| aa w1' <| aa w2 <| aa w3 <| aa w4 <| aa w5 <| aa b2' b3') trivial ?_
          exact rnd_next (kn_lt a4 a3) (q - 1, r + V1) ⟨hd, Nat.le_sub_one_of_lt hlt, Nat.lt_of_not_le b2, kn_next a4 hv, Nat.le_trans (Nat.sub_le _ _) a5⟩ (Weak.pick [2, 8, 9, 10, 11, 13, 14, 15, 16])
      · have b3' : ¬ ((q * V0 : Nat) : Int) > ((4294967296 * r + U1 : Nat) : Int) := by omega
        have hle : ¬ K.q < q := fun h => b3 (hiff.1 h)
        refine go (aa b1' <| aa w3 <| aa w4 <| aa w5 b3') trivial ?_
        refine ⟨rfl, ?_⟩
        rw [← stop _ _ a1 (by omega), show K.q = q from by omega]
        exact Weak.pick [2, 8, 9, 10, 11, 13, 14, 15, 16]
  have hq1b := K.q_lt
  obtain ⟨q1, hq1⟩ : ∃ q1, q1 = K.q := ⟨_, rfl⟩
  have KR := K.rest
  rw [← hYV, ← hq1] at KR
  rw [← hq1] at hq1b
  obtain ⟨U2, hU2⟩ : ∃ U2, U2 = (U * 4294967296 + U1) % Y := ⟨_, rfl⟩
  rw [← hU2] at KR
  rw [← hq1]
  have t1 := wrap_mulB U
  have t2 := wrap_addM (U * 4294967296) U1
  have t3 := wrap_mulN q1 Y
  have t4 := wrap_sub KR.1 (Nat.lt_trans KR.2 p4)
  have K2 : Knuth V1 V0 U2 U0 := ⟨K.h1, K.h2, K.h3, by rw [← hYV]; exact KR.2, hU0b⟩
  have K21 := K2.start
  have hQ2' := Nat.div_le_self U2 V1
  have hU264 : U2 < 18446744073709551616 := Nat.lt_trans KR.2 p4
  obtain ⟨Q2, hQ2⟩ : ∃ Q2, Q2 = U2 / V1 := ⟨_, rfl⟩
  obtain ⟨R2, hR2⟩ : ∃ R2, R2 = U2 % V1 := ⟨_, rfl⟩
  rw [← hQ2, ← hR2] at K21
  have g11 : IntKind.u64.wrap ((U2 : Int).tdiv (V1 : Int)) = (Q2 : Int) := by
    rw [Int.tdiv_eq_ediv_of_nonneg (by omega), ← Int.natCast_ediv, ← hQ2]
    exact u64_nat (by omega)
  have g12 : IntKind.u64.wrap ((Q2 : Int) * (V1 : Int)) = ((Q2 * V1 : Nat) : Int) := by rw [← Int.natCast_mul]; exact u64_nat (by omega)
  have g13 : IntKind.u64.wrap ((U2 : Int) - ((Q2 * V1 : Nat) : Int)) = (R2 : Int) := by
    rw [show (U2 : Int) - ((Q2 * V1 : Nat) : Int) = (R2 : Int) from by omega]; exact u64_nat (by omega)
  refine go (aa t1 <| aa t2 <| aa t3 <| aa t4 <| aa v0 <| aa g11 <| aa g12 g13) trivial ?_
  refine T_cutX (S := { env := [(2, .one (.p (.int .u64 Y))), (8, .one (.p (.int .u64 s))), (9, .one (.p (.int .u64 V1))), (10, .one (.p (.int .u64 V0))), (14, .one (.p (.int .u64 U0))), (15, .one (.p (.int .u64 q1))), (17, .one (.p (.int .u64 U2))), (18, .one (.p (.int .u64 K2.q))), (16, .one (.p (.int .u64 ((U2 - K2.q * V1 : Nat) : Int))))], σ := [] }) ?_ ?_
  · refine T_for 2 (fun _ (a : Nat × Nat) => { env := [(2, .one (.p (.int .u64 Y))), (8, .one (.p (.int .u64 s))), (9, .one (.p (.int .u64 V1))), (10, .one (.p (.int .u64 V0))), (14, .one (.p (.int .u64 U0))), (15, .one (.p (.int .u64 q1))), (17, .one (.p (.int .u64 U2))), (18, .one (.p (.int .u64 a.1))), (16, .one (.p (.int .u64 a.2)))], σ := [] })
      (fun i a => a.1 * V1 + a.2 = U2 ∧ K2.q ≤ a.1 ∧ a.2 < 4294967296 ∧ i * 2147483648 ≤ a.2 ∧ a.1 ≤ Q2) (Q2, R2) ⟨K21.1, K21.2.1, K21.2.2, by rw [Nat.zero_mul]; exact Nat.zero_le _, Nat.le_refl _⟩ (Weak.pick [2, 8, 9, 10, 14, 15, 17, 18, 16]) fun i a hi ha => ?_
    obtain ⟨q, r⟩ := a
    obtain ⟨a1, a2, a3, a4, a5⟩ := ha
    simp only at a1 a2 a3 a4 a5
    have hv := K2.h1
    have hv2 := K2.h2
    have hv0 := K2.h3
    have hK := K2.q_lt
    have hiff := K2.lt_iff a1
    have dec : K2.q < q → (q - 1) * V1 + (r + V1) = U2 := fun h => by
      have : q * V1 = (q - 1) * V1 + V1 := by
        conv => lhs; rw [show q = (q - 1) + 1 from by omega, Nat.add_mul, Nat.one_mul]
      omega
    have w1 : 1 ≤ q → IntKind.u64.wrap ((q : Int) - 1) = ((q - 1 : Nat) : Int) := fun h => by
      rw [show (q : Int) - 1 = ((q - 1 : Nat) : Int) from by omega]; exact u64_nat (by omega)
    have w2 : IntKind.u64.wrap ((r : Int) + (V1 : Int)) = ((r + V1 : Nat) : Int) := by rw [← Int.natCast_add]; exact u64_nat (by omega)
    have stop : ∀ q' r' : Nat, q' * V1 + r' = U2 → q' = K2.q → r' = U2 - K2.q * V1 := fun q' r' h1 h2 => by subst h2; omega
    by_cases b1 : 4294967296 ≤ q
    · have b1' : (q : Int) ≥ 4294967296 := by omega
      have hlt : K2.q < q := by omega
      have hd := dec hlt
      have w1' := w1 (by omega)
      by_cases b2 : 4294967296 ≤ r + V1
      · have b2' : ((r + V1 : Nat) : Int) ≥ 4294967296 := by omega
        have hsm := K2.small hd b2
        refine go (aa b1' <| aa w1' <| aa w2 b2') trivial ?_
        refine ⟨rfl, ?_⟩
        rw [← stop _ _ hd (by omega), show K2.q = q - 1 from by omega]
        exact Weak.pick [2, 8, 9, 10, 14, 15, 17, 18, 16]
      · have b2' : ¬ ((r + V1 : Nat) : Int) ≥ 4294967296 := by omega
        refine go (aa b1' <| aa w1' <| aa w2 b2') trivial ?_
        exact rnd_next (kn_lt a4 a3) (q - 1, r + V1) ⟨hd, Nat.le_sub_one_of_lt hlt, Nat.lt_of_not_le b2, kn_next a4 hv, Nat.le_trans (Nat.sub_le _ _) a5⟩ (Weak.pick [2, 8, 9, 10, 14, 15, 17, 18, 16])
    · have b1' : ¬ (q : Int) ≥ 4294967296 := by omega
      have hA : q * V0 ≤ 4294967295 * V0 := Nat.mul_le_mul_right V0 (by omega)
      have w3 : IntKind.u64.wrap ((q : Int) * (V0 : Int)) = ((q * V0 : Nat) : Int) := by rw [← Int.natCast_mul]; exact u64_nat (by omega)
      have w4 : IntKind.u64.wrap (4294967296 * (r : Int)) = ((4294967296 * r : Nat) : Int) := by
        rw [show 4294967296 * (r : Int) = ((4294967296 * r : Nat) : Int) from by omega]; exact u64_nat (by omega)
      have w5 : IntKind.u64.wrap (((4294967296 * r : Nat) : Int) + (U0 : Int)) = ((4294967296 * r + U0 : Nat) : Int) := by
        have := K2.h5
        rw [← Int.natCast_add]; exact u64_nat (by omega)
      by_cases b3 : q * V0 > 4294967296 * r + U0
      · have b3' : ((q * V0 : Nat) : Int) > ((4294967296 * r + U0 : Nat) : Int) := by omega
        have hlt : K2.q < q := hiff.2 b3
        have hd := dec hlt
        have w1' := w1 (by omega)
        by_cases b2 : 4294967296 ≤ r + V1
        · have b2' : ((r + V1 : Nat) : Int) ≥ 4294967296 := by omega
          have hsm := K2.small hd b2
          refine go (aa b1' <| aa w1' <| aa w2 <| aa w3 <| aa w4 <| aa w5 <| aa b2' b3') trivial ?_
          refine ⟨rfl, ?_⟩
          rw [← stop _ _ hd (by omega), show K2.q = q - 1 from by omega]
          exact Weak.pick [2, 8, 9, 10, 14, 15, 17, 18, 16]
        · have b2' : ¬ ((r + V1 : Nat) : Int) ≥ 4294967296 := by omega
          refine go (aa b1' <| aa w1' <| aa w2 <| aa w3 <| aa w4 <| aa w5 <| aa b2' b3') trivial ?_
          exact rnd_next (kn_lt a4 a3) (q - 1, r + V1) ⟨hd, Nat.le_sub_one_of_lt hlt, Nat.lt_of_not_le b2, kn_next a4 hv, Nat.le_trans (Nat.sub_le _ _) a5⟩ (Weak.pick [2, 8, 9, 10, 14, 15, 17, 18, 16])
      · have b3' : ¬ ((q * V0 : Nat) : Int) > ((4294967296 * r + U0 : Nat) : Int) := by omega
        have hle : ¬ K2.q < q := fun h => b3 (hiff.1 h)
        refine go (aa b1' <| aa w3 <| aa w4 <| aa w5 b3') trivial ?_
        refine ⟨rfl, ?_⟩
        rw [← stop _ _ a1 (by omega), show K2.q = q from by omega]
        exact Weak.pick [2, 8, 9, 10, 14, 15, 17, 18, 16]
  have hq0b := K2.q_lt
  obtain ⟨q0, hq0⟩ : ∃ q0, q0 = K2.q := ⟨_, rfl⟩
  have KR2 := K2.rest
  rw [← hYV, ← hq0] at KR2
  rw [← hq0] at hq0b
  obtain ⟨X2, hX2⟩ : ∃ X2, X2 = (U2 * 4294967296 + U0) % Y := ⟨_, rfl⟩
  rw [← hX2] at KR2
  rw [← hq0]
  obtain ⟨r1, r2⟩ := div_parts hY hU hlo hLU KR.1 KR2.1 KR2.2 (by omega)
  have s1 := wrap_mulB q1
  rw [low_B hq1b] at s1
  have s2 := low_BB hq1b hq0b
  have s3 := wrap_mulB U2
  have s4 := wrap_addM (U2 * 4294967296) U0
  have s5 := wrap_mulN q0 Y
  have s6 := wrap_sub KR2.1 (Nat.lt_trans KR2.2 p4)
  have s7 : shrZ .u64 (X2 : Int) (s : Int) = ((X2 / 2 ^ s : Nat) : Int) := shrN (by omega)
  rw [r1, r2]
  refine go (aa s1 <| aa s2 <| aa s3 <| aa s4 <| aa s5 <| aa s6 s7) trivial ?_
  exact ends_ret rfl rfl rfl rfl
end Go.AM

namespace Go.AM
open Go Go.Proofs
set_option maxRecDepth 100000
set_option maxHeartbeats 4000000

theorem p_Div64 {hi lo y : Nat} (hl : lo < 18446744073709551616) (hy : y < 18446744073709551616) (h1 : hi < y) :
    PureC Tryz.prog fi_math_bits_Div64 [dU hi, dU lo, dU y] (dUU ((hi * 18446744073709551616 + lo) / y) ((hi * 18446744073709551616 + lo) % y)) := by
  by_cases h0 : hi = 0
  · subst h0
    rw [Nat.zero_mul, Nat.zero_add]
    exact p_Div64_0 hl hy h1
  · exact p_Div64_1 hl hy (by omega) h1
def fDiv (a b : Int) : Int × Int := if b = 0 then (0, 11) else rng (sgn (a.natAbs * 4294967296 / b.natAbs) (decide (a.natAbs * 4294967296 % b.natAbs ≠ 0)) (apart a b))
theorem fDiv_range (a b : Int) : I64 (fDiv a b).1 := by
  unfold fDiv
  split
  · exact ⟨by decide, by decide⟩
  · exact rng_range _
theorem div_words {A B : Nat} (hB : 0 < B) : A / 4294967296 / B * 18446744073709551616 + (A / 4294967296 % B * 18446744073709551616 + A % 4294967296 * 4294967296) / B = A * 4294967296 / B ∧
    (A / 4294967296 % B * 18446744073709551616 + A % 4294967296 * 4294967296) % B = A * 4294967296 % B := by
  have e1 := Nat.div_add_mod (A / 4294967296) B
  have e2 : A * 4294967296 = (A / 4294967296) * 18446744073709551616 + A % 4294967296 * 4294967296 := by omega
  have e3 : A * 4294967296 = B * ((A / 4294967296 / B) * 18446744073709551616) + (A / 4294967296 % B * 18446744073709551616 + A % 4294967296 * 4294967296) := by
    rw [e2, ← Nat.mul_assoc, ← Nat.add_assoc, ← Nat.add_mul, e1]
  rw [e3, Nat.mul_add_div hB, Nat.mul_add_mod]
  exact ⟨rfl, rfl⟩
theorem div_word {A B : Nat} (hB : 0 < B) : (A / 4294967296 % B * 18446744073709551616 + A % 4294967296 * 4294967296) / B < 18446744073709551616 := by
  have h1 := Nat.mod_lt (A / 4294967296) hB
  rw [Nat.div_lt_iff_lt_mul hB]
  generalize A / 4294967296 % B = h at *
  omega
theorem div_plan {A B : Nat} (hB : 0 < B) (hA : A ≤ 9223372036854775808) (hB2 : B ≤ 9223372036854775808) : ∃ hi lo w0 hm w1 rs : Nat, shrZ .u64 (A : Int) 32 = (hi : Int) ∧ shlZ .u64 (A : Int) 32 = (lo : Int) ∧ IntKind.u64.wrap ((hi : Int).tdiv (B : Int)) = (w0 : Int) ∧ (hi : Int).tmod (B : Int) = (hm : Int) ∧
    PureC Tryz.prog fi_math_bits_Div64 [dU hm, dU lo, dU B] (dUU w1 rs) ∧ w1 < 18446744073709551616 ∧ w0 < 18446744073709551615 ∧ w0 * 18446744073709551616 + w1 = A * 4294967296 / B ∧ rs = A * 4294967296 % B := by
  have hm := Nat.mod_lt (A / 4294967296) hB
  have hq := Nat.div_le_self (A / 4294967296) B
  have hA2 : A / 4294967296 < 4294967296 := by omega
  refine ⟨_, _, A / 4294967296 / B, A / 4294967296 % B, _, _, shr32 A, shl32 A, ?_, ?_, p_Div64 (by omega) (by omega) hm, div_word hB, by omega, (div_words hB).1, (div_words hB).2⟩
  · rw [Int.tdiv_eq_ediv_of_nonneg (by omega), ← Int.natCast_ediv]
    exact u64_nat (by omega)
  · rw [Int.tmod_eq_emod_of_nonneg (by omega)]; exact (Int.natCast_emod _ _).symm
theorem p_fix_Div {a b : Int} (ha : I64 a) (hb : I64 b) : PureC Tryz.prog fi_fix_Div [dN a, dN b] (dNE (fDiv a b)) := by
  refine pure_fix_Div (by simp) fun G hP hn => ?_
  unfold a_fix_Div
  by_cases hb0 : b = 0
  · subst hb0
    refine go trivial trivial ?_
    exact ends_ret rfl rfl rfl rfl
  have c1 : (b == 0) = false := by simpa using hb0
  have la := abs_lt ha
  have lb := abs_lt hb
  have hB : 0 < b.natAbs := by omega
  have ka := p_fix_size ha
  have kb := p_fix_size hb
  have kp := p_fix_apart a b
  have hf : fDiv a b = rng (sgn (a.natAbs * 4294967296 / b.natAbs) (decide (a.natAbs * 4294967296 % b.natAbs ≠ 0)) (apart a b)) := if_neg hb0
  generalize apart a b = ap at *
  generalize a.natAbs = A at *
  generalize b.natAbs = B at *
  obtain ⟨hi, lo, w0, hm, w1, rs, e1, e2, e3, e4, kd, e5, e6, e7, e8⟩ := div_plan hB la lb
  rw [← e7, ← e8] at hf
  have b0 : ((B : Int) = 0) = False := by simp; omega
  have e9 : decide (rs ≠ 0) = ((rs : Int) != 0) := by rw [Bool.eq_iff_iff]; simp
  rw [e9] at hf
  have ks := p_fix_signed e5 e6 ((rs : Int) != 0) ap
  rw [← hf] at ks
  refine go (aa c1 <| aa b0 <| aa e1 <| aa e2 <| aa e3 e4) (aa ka <| aa kb <| aa kd <| aa kp ks) ?_
  exact ends_ret rfl rfl rfl rfl
end Go.AM

namespace Go.AM
open Go Go.Proofs
set_option maxRecDepth 100000
set_option maxHeartbeats 4000000

theorem p_reduce_most (a b : Int) : PureC Tryz.prog fi_reduce_most [dN a, dN b] (dNE (max a b, 0)) := by
  refine pure_reduce_most (by simp) fun G hP hn => ?_
  refine go trivial trivial ?_
  exact ends_ret rfl rfl rfl rfl
def shareE (n S : Int) : Int × Int := fDiv n (S * 4294967296)
theorem p_reduce_share {n : Int} {S : Nat} (hn0 : I64 n) (h1 : 1 ≤ S) (h2 : S ≤ 16) : PureC Tryz.prog fi_reduce_share [dN n, dN S] (dNE (shareE n S)) := by
  unfold shareE
  refine pure_reduce_share (by simp) fun G hP hn => ?_
  have w1 : IntKind.i64.wrap ((S : Int) * 4294967296) = S * 4294967296 := wrap_in (by omega) (by omega)
  have k := p_fix_Div (a := n) (b := S * 4294967296) hn0 ⟨by omega, by omega⟩
  refine go w1 k ?_
  exact ends_ret rfl rfl rfl rfl
def mxS (s d : List Int) (a : Int) : (List Int × List Int) × Int := togetherF (fun a b => (max a b, 0)) (fun n _ => (n, 0)) (fun a => a) s d a
theorem p_reduce_Max (s d : List Int) (a : Int) (hd : I64s d) : PureC Tryz.prog fi_reduce_Max [dT s d, dN a] (dTE (mxS s d a)) := by
  refine pure_reduce_Max (by simp) fun G hP hn => ?_
  have k := p_reduce_together (W := fun a b => (max a b, 0)) (E := fun n _ => (n, 0)) (F := fun a => a) (fun a b _ _ => p_reduce_most a b) (fun a b ha hb => by show I64 (max a b); rw [Int.max_def]; split <;> assumption) (fun a S _ _ _ => p_reduce_done a S) (fun a _ => p_reduce_same a) (fun _ h => h) s d a hd
  refine go trivial k ?_
  exact ends_ret rfl rfl rfl rfl
def meanS (s d : List Int) (a : Int) : (List Int × List Int) × Int :=
  if (sumS s d a).2 = 0 then togetherF fAdd shareE (fun _ => 0) s d a else bad (sumS s d a).2
theorem p_reduce_Mean (s d : List Int) (a : Int) (hd : I64s d) : PureC Tryz.prog fi_reduce_Mean [dT s d, dN a] (dTE (meanS s d a)) := by
  refine pure_reduce_Mean (by simp) fun G hP hn => ?_
  have ks := p_reduce_Sum s d a hd
  have k := p_reduce_together (W := fAdd) (E := shareE) (F := fun _ => 0) (fun a b ha hb => p_fix_Add ha hb) (fun a b _ _ => fAdd_range a b) (fun a S h h1 h2 => p_reduce_share h h1 h2) (fun a _ => p_reduce_none a) (fun _ _ => i64_0) s d a hd
  by_cases h : (sumS s d a).2 = 0
  · have hm : meanS s d a = togetherF fAdd shareE (fun _ => 0) s d a := if_pos h
    rw [hm]
    have e1 : ((sumS s d a).2 != 0) = false := by simp [h]
    clear hm h
    generalize togetherF fAdd shareE (fun _ => 0) s d a = R at *
    generalize sumS s d a = R' at *
    refine go e1 (aa ks k) ?_
    exact ends_ret rfl rfl rfl rfl
  · have hm : meanS s d a = bad (sumS s d a).2 := if_neg h
    rw [hm]
    have e1 : ((sumS s d a).2 != 0) = true := by simp [h]
    clear hm h k
    generalize sumS s d a = R' at *
    refine go e1 ks ?_
    exact ends_ret rfl rfl rfl rfl
end Go.AM

namespace Go.AM
open Go Go.Proofs
set_option maxRecDepth 100000
set_option maxHeartbeats 4000000

theorem k_Div {s d t e : List Int} (hd : I64s d) (he : I64s e) : PureC Tryz.prog fi_elem_Two [dN 13, dT s d, dT t e] (dTE (twoF fDiv s d t e)) := p_elem_Two (.inr (.inr (.inr ⟨rfl, rfl⟩))) (fun _ _ ha hb => p_fix_Div ha hb) s d t e hd he
end Go.AM

namespace Go.AM
open Go Go.Proofs
set_option maxRecDepth 100000
set_option maxHeartbeats 4000000

def sq (N : Nat) : Nat → Nat → Nat
  | 0, r => r
  | k + 1, r => if (r + 2 ^ k) * (r + 2 ^ k) ≤ N then sq N k (r + 2 ^ k) else sq N k r
def rootN (a : Int) : Nat := sq (a.toNat * 4294967296) 48 0
def fSqrt (a : Int) : Int × Int := if a < 0 then (0, 12) else ((rootN a : Int), 0)
theorem sq_bound {N : Nat} : ∀ {k r : Nat}, sq N k r < r + 2 ^ k
  | 0, r => by simp [sq]
  | k + 1, r => by
    have hp : 2 ^ (k + 1) = 2 ^ k + 2 ^ k := by rw [Nat.pow_succ]; omega
    simp only [sq]
    split
    · have := sq_bound (N := N) (k := k) (r := r + 2 ^ k); omega
    · have := sq_bound (N := N) (k := k) (r := r)
      have hp2 := Nat.two_pow_pos k
      omega
theorem rootN_lt (a : Int) : rootN a < 281474976710656 := by
  have := sq_bound (N := a.toNat * 4294967296) (k := 48) (r := 0)
  simpa [rootN] using this
theorem fSqrt_range (a : Int) : I64 (fSqrt a).1 := by
  unfold fSqrt
  split
  · exact ⟨by decide, by decide⟩
  · have := rootN_lt a
    unfold I64
    simp only
    omega
theorem cmp_words {A m : Nat} : ∃ h l Nh Nl : Nat, h = m * m / 18446744073709551616 ∧ l = m * m % 18446744073709551616 ∧ Nh = A / 4294967296 ∧ Nl = A % 4294967296 * 4294967296 ∧
    ((Nl < l → (Nh < h + 1 ↔ A * 4294967296 < m * m)) ∧ (¬ Nl < l → (Nh < h ↔ A * 4294967296 < m * m))) := by
  refine ⟨_, _, _, _, rfl, rfl, rfl, rfl, ?_⟩
  generalize m * m = M
  omega
theorem p_fix_Sqrt {a : Int} (ha : I64 a) : PureC Tryz.prog fi_fix_Sqrt [dN a] (dNE (fSqrt a)) := by
  refine pure_fix_Sqrt (by simp) fun G hP hn => ?_
  unfold a_fix_Sqrt
  by_cases h0 : a < 0
  · have hf : fSqrt a = (0, 12) := if_pos h0
    refine go h0 trivial ?_
    exact ends_ret rfl rfl rfl (by rw [hf]; rfl)
  have hf : fSqrt a = ((rootN a : Int), 0) := if_neg h0
  have hrt := rootN_lt a
  unfold rootN at hf hrt
  obtain ⟨A, rfl⟩ := Int.eq_ofNat_of_zero_le (by omega : 0 ≤ a)
  rw [Int.toNat_natCast] at hf hrt
  have hA : A < 9223372036854775808 := by unfold I64 at ha; omega
  have wa : IntKind.u64.wrap (A : Int) = (A : Int) := u64_nat (by omega)
  have sh := shl32 A
  have sr := shr32 A
  obtain ⟨Tv, hT⟩ : ∃ Tv, Tv = sq (A * 4294967296) 48 0 := ⟨_, rfl⟩
  rw [← hT] at hf hrt
  refine go h0 trivial ?_
  refine T_for 48 (fun i (r : Nat) => { env := [(0, .one (.p (.int .i64 A))), (4, .one (.p (.int .u64 r))), (5, .one (.p (.int .u64 ((r + 2 ^ (48 - i) : Nat) : Int))))], σ := [] })
    (fun i r => r + 2 ^ (48 - i) ≤ 281474976710656 ∧ sq (A * 4294967296) (48 - i) r = Tv) 0 ⟨by decide, by rw [hT]⟩ (.refl _ _) fun i r hi hr => ?_
  obtain ⟨hb, hsq⟩ := hr
  clear hT
  by_cases hlt : i < 48
  · obtain ⟨w, hw⟩ : ∃ w, w = 2 ^ (48 - (i + 1)) := ⟨_, rfl⟩
    have hp : 2 ^ (48 - i) = 2 * w := by rw [hw, show 48 - i = (48 - (i + 1)) + 1 from by omega, Nat.pow_succ]; omega
    have hw1 : 1 ≤ w := by rw [hw]; exact Nat.two_pow_pos _
    rw [show 48 - i = (48 - (i + 1)) + 1 from by omega] at hsq
    simp only [sq] at hsq
    rw [← hw] at hsq
    rw [hp] at hb ⊢
    have s1 : IntKind.u64.wrap (((r + 2 * w : Nat) : Int) - (r : Int)) = ((2 * w : Nat) : Int) := by
      rw [show ((r + 2 * w : Nat) : Int) - (r : Int) = ((2 * w : Nat) : Int) from by omega]; exact u64_nat (by omega)
    have c1 : ((2 * w : Nat) : Int) > 1 := by omega
    have s2 : IntKind.u64.wrap ((r : Int) + ((r + 2 * w : Nat) : Int)) = ((2 * (r + w) : Nat) : Int) := by
      rw [show (r : Int) + ((r + 2 * w : Nat) : Int) = ((2 * (r + w) : Nat) : Int) from by omega]; exact u64_nat (by omega)
    have s3 : IntKind.u64.wrap (((2 * (r + w) : Nat) : Int).tdiv 2) = ((r + w : Nat) : Int) := by
      rw [Int.tdiv_eq_ediv_of_nonneg (by omega), show ((2 * (r + w) : Nat) : Int) / 2 = ((r + w : Nat) : Int) from by omega]
      exact u64_nat (by omega)
    have km := p_bits_Mul64 (x := r + w) (y := r + w) (by omega) (by omega)
    obtain ⟨h, l, Nh, Nl, e1, e2, e3, e4, e5, e6⟩ := cmp_words (A := A) (m := r + w)
    rw [← e1, ← e2] at km
    rw [← e4] at sh
    rw [← e3] at sr
    have nx1 : r + w + 2 ^ (48 - (i + 1)) = r + 2 * w := by rw [← hw]; omega
    have nx0 : r + 2 ^ (48 - (i + 1)) = r + w := by rw [← hw]
    have lo0 : A * 4294967296 < (r + w) * (r + w) → sq (A * 4294967296) (48 - (i + 1)) r = Tv := fun q => by rw [if_neg (Nat.not_le_of_lt q)] at hsq; exact hsq
    have lo1 : ¬ A * 4294967296 < (r + w) * (r + w) → sq (A * 4294967296) (48 - (i + 1)) (r + w) = Tv := fun q => by rw [if_pos (Nat.le_of_not_lt q)] at hsq; exact hsq
    clear e1 e2 e3 e4 hsq
    generalize (A * 4294967296 < (r + w) * (r + w)) = below at *
    by_cases b0 : Nl < l
    · have e5 := e5 b0
      by_cases b1 : Nh < h + 1
      · refine go (aa @wa <| aa @sh <| aa @sr <| aa s1 <| aa c1 <| aa s2 <| aa s3 <| aa b0 b1) km ?_
        exact rnd_next hlt r ⟨by rw [nx0]; omega, lo0 (e5.1 b1)⟩ (by rw [nx0]; exact .refl _ _)
      · refine go (aa @wa <| aa @sh <| aa @sr <| aa s1 <| aa c1 <| aa s2 <| aa s3 <| aa b0 b1) km ?_
        exact rnd_next hlt (r + w) ⟨by rw [nx1]; omega, lo1 (fun q => b1 (e5.2 q))⟩ (by rw [nx1]; exact .refl _ _)
    · have e6 := e6 b0
      by_cases b1 : Nh < h
      · refine go (aa @wa <| aa @sh <| aa @sr <| aa s1 <| aa c1 <| aa s2 <| aa s3 <| aa b0 b1) km ?_
        exact rnd_next hlt r ⟨by rw [nx0]; omega, lo0 (e6.1 b1)⟩ (by rw [nx0]; exact .refl _ _)
      · refine go (aa @wa <| aa @sh <| aa @sr <| aa s1 <| aa c1 <| aa s2 <| aa s3 <| aa b0 b1) km ?_
        exact rnd_next hlt (r + w) ⟨by rw [nx1]; omega, lo1 (fun q => b1 (e6.2 q))⟩ (by rw [nx1]; exact .refl _ _)
  · have hie : i = 48 := by omega
    subst hie
    simp only [Nat.sub_self, sq] at hsq
    rw [← hsq] at hf hrt
    have s1 : IntKind.u64.wrap (((r + 2 ^ (48 - 48) : Nat) : Int) - (r : Int)) = 1 := by
      rw [show ((r + 2 ^ (48 - 48) : Nat) : Int) - (r : Int) = ((1 : Nat) : Int) from by omega]; exact u64_nat (by omega)
    have s2 : IntKind.i64.wrap (r : Int) = (r : Int) := wrap_in (by omega) (by omega)
    refine go (aa s1 s2) trivial ?_
    exact ends_ret rfl rfl rfl (by rw [hf]; rfl)
end Go.AM

namespace Go.AM
open Go Go.Proofs
set_option maxRecDepth 100000
set_option maxHeartbeats 4000000

theorem k_Sqrt {s d : List Int} (hd : I64s d) : PureC Tryz.prog fi_elem_One [dN 23, dT s d] (dTE (oneF fSqrt s d)) := p_elem_One (.inr (.inr (.inr ⟨rfl, rfl⟩))) (fun _ ha => p_fix_Sqrt ha) s d hd
end Go.AM

namespace Go.AM
open Go Go.Proofs
set_option maxRecDepth 100000
set_option maxHeartbeats 4000000

def shF (n : Nat) (k : Int) : Int × Int :=
  if k < 0 then (((n / 2 ^ (min (-k).toNat 63) : Nat) : Int), 0) else rng ((n * 2 ^ (min k.toNat 63) : Nat) : Int)
theorem sh_over {n : Nat} (h0 : 1 ≤ n) {k : Nat} : (lenN n : Int) + k < 64 ↔ n * 2 ^ (min k 63) < 9223372036854775808 := by
  have h2 : lenN n = n.log2 + 1 := if_neg (by omega)
  have h3 := (Nat.log2_eq_iff (n := n) (by omega)).1 rfl
  have hp := Nat.two_pow_pos (min k 63)
  constructor
  · intro h
    have hk : min k 63 = k := by omega
    rw [hk]
    have : n * 2 ^ k < 2 ^ (n.log2 + 1) * 2 ^ k := Nat.mul_lt_mul_of_pos_right h3.2 (Nat.two_pow_pos k)
    rw [← Nat.pow_add] at this
    have h4 : 2 ^ (n.log2 + 1 + k) ≤ 2 ^ 63 := Nat.pow_le_pow_right (by decide) (by omega)
    omega
  · intro h
    have h4 : 2 ^ n.log2 * 2 ^ (min k 63) ≤ n * 2 ^ (min k 63) := Nat.mul_le_mul_right _ h3.1
    rw [← Nat.pow_add] at h4
    have h5 : 2 ^ (n.log2 + min k 63) < 2 ^ 63 := by omega
    have := (Nat.pow_lt_pow_iff_right (by decide : 1 < 2)).1 h5
    omega
theorem p_fix_shifted {n : Nat} {k : Int} (h0 : 1 ≤ n) (hn : n < 8589934592) (hk : -2147483648 ≤ k ∧ k ≤ 2147483647) : PureC Tryz.prog fi_fix_shifted [dU n, dN k] (dNE (shF n k)) := by
  refine pure_fix_shifted (by simp) fun G hP hnt => ?_
  unfold a_fix_shifted
  have hn := hnt
  by_cases c : k < 0
  · obtain ⟨m, hm⟩ : ∃ m : Nat, m = min (-k).toNat 63 := ⟨_, rfl⟩
    have hf : shF n k = (((n / 2 ^ m : Nat) : Int), 0) := by unfold shF; rw [if_pos c, hm]
    have hd := Nat.div_le_self n (2 ^ m)
    have w1 : IntKind.i64.wrap (-k) = -k := wrap_in (by omega) (by omega)
    have w1' : IntKind.i64.wrap (0 - k) = -k := by rw [Int.zero_sub]; exact w1
    have w2 : IntKind.u64.wrap (-k) = -k := u64_in (by omega) (by omega)
    have w3 : min (-k) 63 = (m : Int) := by omega
    have w4 : shrZ .u64 (n : Int) (m : Int) = ((n / 2 ^ m : Nat) : Int) := shrN (by omega)
    generalize n / 2 ^ m = z at *
    have w5 : IntKind.i64.wrap (z : Int) = (z : Int) := wrap_in (by omega) (by omega)
    refine go (aa @c <| aa w1 <| aa w1' <| aa w2 <| aa w3 <| aa w4 w5) trivial ?_
    exact ends_ret rfl rfl rfl (by rw [hf]; rfl)
  · obtain ⟨K, rfl⟩ := Int.eq_ofNat_of_zero_le (by omega : 0 ≤ k)
    obtain ⟨m, hm⟩ : ∃ m : Nat, m = min K 63 := ⟨_, rfl⟩
    have hf : shF n K = rng ((n * 2 ^ m : Nat) : Int) := by unfold shF; rw [if_neg c, Int.toNat_natCast, hm]
    have w3 : min (K : Int) 63 = (m : Int) := by omega
    have w4 : shlZ .u64 (n : Int) (m : Int) = ((n * 2 ^ m % 18446744073709551616 : Nat) : Int) := shlM (by omega)
    have kl := p_Len64 (x := n) (by omega)
    have hl := lenN_lt (n := 64) (x := n) (by omega)
    have w6 : IntKind.i64.wrap ((lenN n : Int) + (K : Int)) = (lenN n : Int) + K := wrap_in (by omega) (by omega)
    have hov := sh_over h0 (k := K)
    rw [← hm] at hov
    have kt := fun v b => p_fix_told v b
    by_cases c2 : (lenN n : Int) + K < 64
    · have hlt := hov.1 c2
      have w5 : IntKind.i64.wrap ((n * 2 ^ m % 18446744073709551616 : Nat) : Int) = ((n * 2 ^ m : Nat) : Int) := by
        rw [Nat.mod_eq_of_lt (by omega)]; exact wrap_in (by omega) (by omega)
      rw [rng_in (by unfold I64; omega)] at hf
      refine go (aa @c <| aa w3 <| aa w4 <| aa w5 <| aa w6 c2) (aa kl @p_fix_told) ?_
      exact ends_ret rfl rfl rfl (by rw [hf]; rfl)
    · have hge : ¬ n * 2 ^ m < 9223372036854775808 := fun q => c2 (hov.2 q)
      rw [rng_out (by unfold I64; omega)] at hf
      refine go (aa @c <| aa w3 <| aa w4 <| aa w6 c2) (aa kl @p_fix_told) ?_
      exact ends_ret rfl rfl rfl (by rw [hf]; rfl)
def fPow (a : Int) : Int × Int := shF ((4294967296 + a % 4294967296).toNat) (a / 4294967296)
theorem shF_range (n : Nat) (hn : n < 8589934592) (k : Int) : I64 (shF n k).1 := by
  unfold shF
  split
  · have := Nat.div_le_self n (2 ^ (min (-k).toNat 63))
    generalize n / 2 ^ (min (-k).toNat 63) = z at *
    unfold I64
    simp only
    omega
  · exact rng_range _
theorem fPow_range (a : Int) : I64 (fPow a).1 := shF_range _ (by omega) _
theorem i64_and (a : Int) (ha : I64 a) : andZ .i64 a 4294967295 = a % 4294967296 := by
  unfold andZ
  have h1 : (BitVec.ofInt IntKind.i64.bits a).toNat = (a % 18446744073709551616).toNat := by
    rw [BitVec.toNat_ofInt]; rfl
  have h2 : (BitVec.ofInt IntKind.i64.bits 4294967295).toNat = 2 ^ 32 - 1 := by
    rw [BitVec.toNat_ofInt]; rfl
  rw [BitVec.toNat_and, h1, h2, Nat.and_two_pow_sub_one_eq_mod]
  have : (((a % 18446744073709551616).toNat % 2 ^ 32 : Nat) : Int) = a % 4294967296 := by omega
  rw [this]
  exact wrap_in (by omega) (by omega)
theorem p_fix_Pow {a : Int} (ha : I64 a) : PureC Tryz.prog fi_fix_Pow [dN a] (dNE (fPow a)) := by
  refine pure_fix_Pow (by simp) fun G hP hn => ?_
  unfold a_fix_Pow
  have w1 := i64_and a ha
  obtain ⟨f, hf⟩ := Int.eq_ofNat_of_zero_le (by omega : 0 ≤ a % 4294967296)
  rw [hf] at w1
  have w2 : IntKind.i64.wrap (4294967296 + (f : Int)) = ((4294967296 + f : Nat) : Int) := by rw [wrap_in (by omega) (by omega)]; omega
  have w3 : IntKind.u64.wrap ((4294967296 + f : Nat) : Int) = ((4294967296 + f : Nat) : Int) := u64_nat (by omega)
  have w4 : shrZ .i64 a 32 = a / 4294967296 := by
    unfold shrZ
    have : (2 : Int) ^ (min (32 : Int).toNat IntKind.i64.bits) = 4294967296 := by decide
    rw [this, Int.fdiv_eq_ediv_of_nonneg _ (by decide)]
  have k := p_fix_shifted (n := 4294967296 + f) (k := a / 4294967296) (by omega) (by omega) (by unfold I64 at ha; omega)
  have e : fPow a = shF (4294967296 + f) (a / 4294967296) := by
    unfold fPow
    congr 1
    omega
  rw [← e] at k
  refine go (aa w1 <| aa w2 <| aa w3 w4) k ?_
  exact ends_ret rfl rfl rfl rfl
end Go.AM

namespace Go.AM
open Go Go.Proofs
set_option maxRecDepth 100000
set_option maxHeartbeats 4000000

theorem k_Pow {s d : List Int} (hd : I64s d) : PureC Tryz.prog fi_elem_One [dN 22, dT s d] (dTE (oneF fPow s d)) := p_elem_One (.inr (.inr (.inl ⟨rfl, rfl⟩))) (fun _ ha => p_fix_Pow ha) s d hd
end Go.AM

namespace Go.AM
open Go Go.Proofs

structure Nd where
  op : Int
  args : List Int
  nums : List Int
def kindL : List (Int × Int × Int) := [(1, 0, -1), (2, 0, -2), (3, 0, 1), (10, 2, 0), (11, 2, 0), (12, 2, 0), (13, 2, 0), (20, 1, 0), (21, 1, 0), (22, 1, 0), (23, 1, 0), (30, 2, 0), (40, 1, -1), (41, 1, 0), (42, 1, 3), (43, 2, 1), (50, 1, 1), (51, 1, 1), (52, 1, 1)]
def lkI {α : Type} (n : Int) : List (Int × α) → Option α
  | [] => none
  | p :: l => if p.1 = n then some p.2 else lkI n l
def kindF (op : Int) : Option (Int × Int) := lkI op kindL
def arityF (op : Int) : Int := match kindF op with | some k => k.1 | none => -1
def wellF (nums : List Int) (k : Int) : Bool :=
  if k = -2 then (match nums with | [] => false | p :: r => decide (0 ≤ p ∧ p < 8) && checkS r)
  else if k = -1 then checkS nums else (nums.length : Int) == k
def hd (nums : List Int) (i : Nat) : Int := (nums[i]?).getD 0
def nameF (n : Nd) : Int × Bool := if n.op = 1 then (-1, true) else if n.op = 2 then (hd n.nums 0, true) else (0, false)
def putI {α : Type} (n : Int) (v : α) : List (Int × α) → List (Int × α)
  | [] => [(n, v)]
  | p :: l => if p.1 = n then (n, v) :: l else p :: putI n v l
abbrev Shs := List (Int × List Int)
def stepG (i : Nat) (m : Shs) (n : Nd) : Option Shs :=
  match kindF n.op with
  | none => none
  | some k => if (n.args.length : Int) = k.1 ∧ wellF n.nums k.2 = true ∧ n.args.all (fun a => decide (0 ≤ a ∧ a < i)) = true then
      (if (nameF n).2 = true then (match lkI (nameF n).1 m with
        | some s => if sameL s n.nums = true then some (putI (nameF n).1 n.nums m) else none
        | none => some (putI (nameF n).1 n.nums m)) else some m) else none
def walkG : Nat → Shs → List Nd → Option Shs
  | _, m, [] => some m
  | i, m, n :: l => match stepG i m n with
    | some m' => walkG (i + 1) m' l
    | none => none
def checkG (l : List Nd) : Bool := (walkG 0 [] l).isSome && decide (0 < l.length ∧ l.length ≤ 24)
def gs (s : List (List Int)) (i : Int) : List Int := (s[i.toNat]?).getD []
def sidedF (s : List (List Int)) (nums : List Int) (f : Nat → List Int → List Int × Bool) : List Int × Bool :=
  if hd nums 0 < 0 ∨ hd nums 0 ≥ (gs s 0).length then ([], false) else f (hd nums 0).toNat nums.tail
def partF (a : List Int) (n : Nat) (nums : List Int) : List Int × Bool :=
  if hd nums 0 < 0 ∨ hd nums 0 ≥ hd nums 1 ∨ hd nums 1 > hd a n then ([], false) else (a.set n (w64 (hd nums 1 - hd nums 0)), true)
def behindF (a b : List Int) (n : Nat) : List Int × Bool :=
  if a.length = b.length ∧ sameL (a.set n (hd b n)) b = true then (a.set n (w64 (hd a n + hd b n)), checkS (a.set n (w64 (hd a n + hd b n)))) else ([], false)
def productF (a b : List Int) : List Int × Bool := match a, b with
  | [m, n], [n', p] => if n = n' then ([m, p], checkS [m, p]) else ([], false)
  | _, _ => ([], false)
def ruleF (op : Int) (s : List (List Int)) (nums : List Int) : List Int × Bool :=
  if op = 1 then (nums, true) else if op = 2 then (nums.tail, true) else if op = 3 then ([], true)
  else if op < 20 then ((joinSF (gs s 0) (gs s 1)).1, (joinSF (gs s 0) (gs s 1)).2 == 0) else if op < 30 then (gs s 0, true)
  else if op = 30 then productF (gs s 0) (gs s 1) else if op = 40 then (nums, sizeS nums == sizeS (gs s 0)) else if op = 41 then ((gs s 0).reverse, true)
  else if op = 42 then sidedF s nums (partF (gs s 0)) else if op = 43 then sidedF s nums (fun n _ => behindF (gs s 0) (gs s 1) n)
  else sidedF s nums (fun n _ => ((gs s 0).eraseIdx n, true))
def inferOk (op : Int) (nums : List Int) (s : List (List Int)) : Bool :=
  match kindF op with
  | none => false
  | some k => decide ((s.length : Int) = k.1) && (wellF nums k.2 && (s.all checkS && (ruleF op s nums).2))
def inferF (op : Int) (nums : List Int) (s : List (List Int)) : List Int × Int :=
  if inferOk op nums s = true then ((ruleF op s nums).1, 0) else ([], 20)
def shapesL : List Nd → List (List Int) → List (List Int) × Int × Int
  | [], out => (out, -1, 0)
  | n :: l, out => if (inferF n.op n.nums (n.args.map (gs out))).2 = 0 then shapesL l (out ++ [(inferF n.op n.nums (n.args.map (gs out))).1]) else ([], out.length, (inferF n.op n.nums (n.args.map (gs out))).2)
def shapesF (l : List Nd) : List (List Int) × Int × Int := if checkG l = true then shapesL l [] else ([], -1, 100)
def evF (op : Int) (t : List Tn) (nums : List Int) : Tn × Int :=
  if op = 10 then twoF fAdd (gT t 0).1 (gT t 0).2 (gT t 1).1 (gT t 1).2 else if op = 11 then twoF fSub (gT t 0).1 (gT t 0).2 (gT t 1).1 (gT t 1).2
  else if op = 12 then twoF fMul (gT t 0).1 (gT t 0).2 (gT t 1).1 (gT t 1).2 else if op = 13 then twoF fDiv (gT t 0).1 (gT t 0).2 (gT t 1).1 (gT t 1).2
  else if op = 20 then oneF fNeg (gT t 0).1 (gT t 0).2 else if op = 21 then oneF fRelu (gT t 0).1 (gT t 0).2 else if op = 22 then oneF fPow (gT t 0).1 (gT t 0).2
  else if op = 23 then oneF fSqrt (gT t 0).1 (gT t 0).2 else if op = 30 then mulF (gT t 0).1 (gT t 0).2 (gT t 1).1 (gT t 1).2
  else if op = 40 then reshapeF (gT t 0).1 (gT t 0).2 nums else if op = 41 then turnF (gT t 0).1 (gT t 0).2
  else if op = 42 then sliceF (gT t 0).1 (gT t 0).2 (hd nums 0) (hd nums 1) (hd nums 2) else if op = 43 then joinF (gT t 0).1 (gT t 0).2 (gT t 1).1 (gT t 1).2 (hd nums 0)
  else if op = 50 then sumS (gT t 0).1 (gT t 0).2 (hd nums 0) else if op = 51 then meanS (gT t 0).1 (gT t 0).2 (hd nums 0) else mxS (gT t 0).1 (gT t 0).2 (hd nums 0)
def givenF (t : Tn) (s : List Int) : Tn × Int := if checkT t.1 t.2 = true ∧ sameL t.1 s = true then (t, 0) else bad 130
def nodeF (n : Nd) (t : List Tn) (input : Tn) (ps : List Tn) : Tn × Int :=
  if t.all (fun x => checkT x.1 x.2) = true then
    (if (inferF n.op n.nums (t.map (·.1))).2 = 0 then
      (if n.op = 1 then givenF input (inferF n.op n.nums (t.map (·.1))).1 else if n.op = 2 then givenF (gT ps (hd n.nums 0).toNat) (inferF n.op n.nums (t.map (·.1))).1
      else if n.op = 3 then fullF [] (hd n.nums 0) else evF n.op t n.nums)
    else bad (inferF n.op n.nums (t.map (·.1))).2) else bad 30
def evLst (input : Tn) (ps : List Tn) : List Nd → List Tn → List Tn × Int × Int
  | [], out => (out, -1, 0)
  | n :: l, out => if (nodeF n (n.args.map fun a => gT out a.toNat) input ps).2 = 0 then evLst input ps l (out ++ [(nodeF n (n.args.map fun a => gT out a.toNat) input ps).1])
    else ([], out.length, (nodeF n (n.args.map fun a => gT out a.toNat) input ps).2)
def evAll (l : List Nd) (input : Tn) (ps : List Tn) : List Tn × Int × Int :=
  if (shapesF l).2.2 = 0 then evLst input ps l [] else ([], (shapesF l).2.1, (shapesF l).2.2)
end Go.AM

namespace Go.AM
open Go Go.Proofs

abbrev rTn (ps : List Tn) : List (List PV) := ps.map fun t => [eI t.1, eI t.2]
abbrev dTs (ps : List Tn) : DV := .one (.sl (rTn ps))
theorem gT_some {ps : List Tn} {p : Nat} (h : p < ps.length) : ps[p]? = some (gT ps p) := by unfold gT; rw [List.getElem?_eq_getElem h]; rfl
end Go.AM

