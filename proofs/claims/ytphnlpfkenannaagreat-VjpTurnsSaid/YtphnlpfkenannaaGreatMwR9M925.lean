import Derived.Test.YtphnlpfkenannaaGreatMwR9M924
set_option linter.unusedVariables false
set_option linter.unusedSimpArgs false
namespace Go.AM
open Go Go.Proofs
set_option maxRecDepth 100000
set_option maxHeartbeats 4000000

theorem tab_get (x : Nat) (h : x < 256) : (⟨#[0, 1, 2, 2, 3, 3, 3, 3, 4, 4, 4, 4, 4, 4, 4, 4, 5, 5, 5, 5, 5, 5, 5, 5, 5, 5, 5, 5, 5, 5, 5, 5, 6, 6, 6, 6, 6, 6, 6, 6, 6, 6, 6, 6, 6, 6, 6, 6, 6, 6, 6, 6, 6, 6, 6, 6, 6, 6, 6, 6, 6, 6, 6, 6, 7, 7, 7, 7, 7, 7, 7, 7, 7, 7, 7, 7, 7, 7, 7, 7, 7, 7, 7, 7, 7, 7, 7, 7, 7, 7, 7, 7, 7, 7, 7, 7, 7, 7, 7, 7, 7, 7, 7, 7, 7, 7, 7, 7, 7, 7, 7, 7, 7, 7, 7, 7, 7, 7, 7, 7, 7, 7, 7, 7, 7, 7, 7, 7, 8, 8, 8, 8, 8, 8, 8, 8, 8, 8, 8, 8, 8, 8, 8, 8, 8, 8, 8, 8, 8, 8, 8, 8, 8, 8, 8, 8, 8, 8, 8, 8, 8, 8, 8, 8, 8, 8, 8, 8, 8, 8, 8, 8, 8, 8, 8, 8, 8, 8, 8, 8, 8, 8, 8, 8, 8, 8, 8, 8, 8, 8, 8, 8, 8, 8, 8, 8, 8, 8, 8, 8, 8, 8, 8, 8, 8, 8, 8, 8, 8, 8, 8, 8, 8, 8, 8, 8, 8, 8, 8, 8, 8, 8, 8, 8, 8, 8, 8, 8, 8, 8, 8, 8, 8, 8, 8, 8, 8, 8, 8, 8, 8, 8, 8, 8, 8, 8, 8, 8, 8, 8, 8, 8, 8, 8, 8, 8]⟩ : ByteArray)[x]? = some (UInt8.ofNat (lenN x)) := by
  have := tab_lenN x h
  rw [Array.getElem?_eq_getElem (by rw [show tabL.size = 256 from rfl]; exact h)] at this
  rw [← this]
  exact getElem?_pos _ _ _
theorem u8_len {x : Nat} (h : x < 256) : (UInt8.ofNat (lenN x)).toNat = lenN x ∧ lenN x ≤ 8 := by
  have := lenN_lt (n := 8) (x := x) h
  refine ⟨?_, this⟩
  rw [UInt8.toNat_ofNat']
  omega
theorem u8_eq (n : Int) : IntKind.u8.wrap n = n % 256 := by
  simp [IntKind.wrap, IntKind.bits, IntKind.signed]
theorem p_Len64 {x : Nat} (hx : x < 18446744073709551616) : PureC Tryz.prog fi_math_bits_Len64 [dU x] (dN (lenN x)) := by
  refine pure_math_bits_Len64 (by simp) fun G hP hn => ?_
  unfold a_math_bits_Len64
  have fin : ∀ (y : Nat) (n : Int), y < 256 → (lenN x : Int) = lenN y + n → 0 ≤ n → n ≤ 56 → IntKind.u8.wrap (y : Int) = (y : Int) ∧ (⟨#[0, 1, 2, 2, 3, 3, 3, 3, 4, 4, 4, 4, 4, 4, 4, 4, 5, 5, 5, 5, 5, 5, 5, 5, 5, 5, 5, 5, 5, 5, 5, 5, 6, 6, 6, 6, 6, 6, 6, 6, 6, 6, 6, 6, 6, 6, 6, 6, 6, 6, 6, 6, 6, 6, 6, 6, 6, 6, 6, 6, 6, 6, 6, 6, 7, 7, 7, 7, 7, 7, 7, 7, 7, 7, 7, 7, 7, 7, 7, 7, 7, 7, 7, 7, 7, 7, 7, 7, 7, 7, 7, 7, 7, 7, 7, 7, 7, 7, 7, 7, 7, 7, 7, 7, 7, 7, 7, 7, 7, 7, 7, 7, 7, 7, 7, 7, 7, 7, 7, 7, 7, 7, 7, 7, 7, 7, 7, 7, 8, 8, 8, 8, 8, 8, 8, 8, 8, 8, 8, 8, 8, 8, 8, 8, 8, 8, 8, 8, 8, 8, 8, 8, 8, 8, 8, 8, 8, 8, 8, 8, 8, 8, 8, 8, 8, 8, 8, 8, 8, 8, 8, 8, 8, 8, 8, 8, 8, 8, 8, 8, 8, 8, 8, 8, 8, 8, 8, 8, 8, 8, 8, 8, 8, 8, 8, 8, 8, 8, 8, 8, 8, 8, 8, 8, 8, 8, 8, 8, 8, 8, 8, 8, 8, 8, 8, 8, 8, 8, 8, 8, 8, 8, 8, 8, 8, 8, 8, 8, 8, 8, 8, 8, 8, 8, 8, 8, 8, 8, 8, 8, 8, 8, 8, 8, 8, 8, 8, 8, 8, 8, 8, 8, 8, 8, 8, 8]⟩ : ByteArray)[y]? = some (UInt8.ofNat (lenN y)) ∧ IntKind.i64.wrap ((((UInt8.ofNat (lenN y)).toNat : Nat)) : Int) = (lenN y : Int) ∧ IntKind.i64.wrap (n + (lenN y : Int)) = (lenN x : Int) := fun y n h h2 h0 h3 => by
    have h4 := u8_len h
    refine ⟨by rw [u8_eq]; omega, tab_get y h, ?_, ?_⟩
    · rw [h4.1]; exact wrap_in (by omega) (by omega)
    · rw [wrap_in (by omega) (by omega), h2]; omega
  have s32 : shrZ .u64 (x : Int) 32 = ((x / 2 ^ 32 : Nat) : Int) := shr32 x
  have shr : ∀ (y k : Nat), k ≤ 64 → shrZ .u64 (y : Int) (k : Int) = ((y / 2 ^ k : Nat) : Int) := fun y k hk => by
    unfold shrZ
    rw [Int.toNat_natCast, show min k (IntKind.u64.bits) = k from by show min k 64 = k; omega, Int.fdiv_eq_ediv_of_nonneg _ (Int.pow_nonneg (by decide))]
    push_cast; rfl
  have shr16 : ∀ y : Nat, shrZ .u64 (y : Int) 16 = ((y / 2 ^ 16 : Nat) : Int) := fun y => shr y 16 (by decide)
  have shr8 : ∀ y : Nat, shrZ .u64 (y : Int) 8 = ((y / 2 ^ 8 : Nat) : Int) := fun y => shr y 8 (by decide)
  obtain ⟨x1, n1, e1, b1, h1⟩ : ∃ (x1 : Nat) (n1 : Int), (lenN x : Int) = lenN x1 + n1 ∧ x1 < 2 ^ 32 ∧ ((¬ (x : Int) ≥ 4294967296 ∧ x = x1 ∧ 0 = n1) ∨ ((x : Int) ≥ 4294967296 ∧ x / 2 ^ 32 = x1 ∧ 32 = n1)) := by
    by_cases h : x < 2 ^ 32
    · exact ⟨x, 0, by omega, h, .inl ⟨by omega, rfl, rfl⟩⟩
    · exact ⟨x / 2 ^ 32, 32, by have := lenN_step (x := x) (k := 32) (by omega); omega, by omega, .inr ⟨by omega, rfl, rfl⟩⟩
  obtain ⟨x2, n2, e2, b2, h2⟩ : ∃ (x2 : Nat) (n2 : Int), (lenN x1 : Int) = lenN x2 + n2 ∧ x2 < 2 ^ 16 ∧ ((¬ (x1 : Int) ≥ 65536 ∧ x1 = x2 ∧ 0 = n2) ∨ ((x1 : Int) ≥ 65536 ∧ x1 / 2 ^ 16 = x2 ∧ 16 = n2)) := by
    by_cases h : x1 < 2 ^ 16
    · exact ⟨x1, 0, by omega, h, .inl ⟨by omega, rfl, rfl⟩⟩
    · exact ⟨x1 / 2 ^ 16, 16, by have := lenN_step (x := x1) (k := 16) (by omega); omega, by omega, .inr ⟨by omega, rfl, rfl⟩⟩
  obtain ⟨x3, n3, e3, b3, h3⟩ : ∃ (x3 : Nat) (n3 : Int), (lenN x2 : Int) = lenN x3 + n3 ∧ x3 < 2 ^ 8 ∧ ((¬ (x2 : Int) ≥ 256 ∧ x2 = x3 ∧ 0 = n3) ∨ ((x2 : Int) ≥ 256 ∧ x2 / 2 ^ 8 = x3 ∧ 8 = n3)) := by
    by_cases h : x2 < 2 ^ 8
    · exact ⟨x2, 0, by omega, h, .inl ⟨by omega, rfl, rfl⟩⟩
    · exact ⟨x2 / 2 ^ 8, 8, by have := lenN_step (x := x2) (k := 8) (by omega); omega, by omega, .inr ⟨by omega, rfl, rfl⟩⟩
  have hnn : 0 ≤ n1 + n2 + n3 ∧ n1 + n2 + n3 ≤ 56 := by omega
  obtain ⟨g1, g2, g3, g4⟩ := fin x3 (n1 + n2 + n3) b3 (by omega) (by omega) (by omega)
  have w1 : IntKind.i64.wrap 8 = 8 := by decide
  have w2 : IntKind.i64.wrap 16 = 16 := by decide
  have w3 : IntKind.i64.wrap 24 = 24 := by decide
  have w4 : IntKind.i64.wrap 40 = 40 := by decide
  have w5 : IntKind.i64.wrap 48 = 48 := by decide
  have w6 : IntKind.i64.wrap 56 = 56 := by decide
  clear e1 e2 e3 fin shr
  rcases h1 with ⟨c1, rfl, rfl⟩ | ⟨c1, rfl, rfl⟩
  all_goals
    rcases h2 with ⟨c2, rfl, rfl⟩ | ⟨c2, rfl, rfl⟩
    all_goals
      rcases h3 with ⟨c3, rfl, rfl⟩ | ⟨c3, rfl, rfl⟩
      all_goals
        simp only [Int.add_zero, Int.zero_add, Int.reduceAdd] at g4
        refine go (aa c1 <| aa c2 <| aa c3 <| aa s32 <| aa @shr16 <| aa @shr8 <| aa w1 <| aa w2 <| aa w3 <| aa w4 <| aa w5 <| aa w6 <| aa g1 <| aa g2 <| aa g3 g4) trivial ?_
        exact ends_ret rfl rfl rfl (by first | rfl | (simp only [Int.zero_add]; rw [g4]; rfl))
def lzN (x : Nat) : Nat := 64 - lenN x
theorem p_LZ64 {x : Nat} (hx : x < 18446744073709551616) : PureC Tryz.prog fi_math_bits_LeadingZeros64 [dU x] (dN (lzN x)) := by
  refine pure_math_bits_LeadingZeros64 (by simp) fun G hP hn => ?_
  unfold a_math_bits_LeadingZeros64
  have k := p_Len64 hx
  have hl := lenN_lt (n := 64) (x := x) (by omega)
  have w : IntKind.i64.wrap (64 - (lenN x : Int)) = (lzN x : Int) := by unfold lzN; rw [wrap_in (by omega) (by omega)]; omega
  refine go @w k ?_
  exact ends_ret rfl rfl rfl rfl
end Go.AM

namespace Go.AM
open Go Go.Proofs
set_option maxRecDepth 100000
set_option maxHeartbeats 4000000

theorem shlN {x k : Nat} (hk : k ≤ 64) (h : x * 2 ^ k < 18446744073709551616) : shlZ .u64 (x : Int) (k : Int) = ((x * 2 ^ k : Nat) : Int) := by
  unfold shlZ
  rw [Int.toNat_natCast, show min k (IntKind.u64.bits) = k from by show min k 64 = k; omega]
  have : (x : Int) * 2 ^ k = ((x * 2 ^ k : Nat) : Int) := by push_cast; rfl
  rw [this]; exact u64_nat h
theorem shlM {x k : Nat} (hk : k ≤ 64) : shlZ .u64 (x : Int) (k : Int) = ((x * 2 ^ k % 18446744073709551616 : Nat) : Int) := by
  unfold shlZ
  rw [Int.toNat_natCast, show min k (IntKind.u64.bits) = k from by show min k 64 = k; omega]
  have : (x : Int) * 2 ^ k = ((x * 2 ^ k : Nat) : Int) := by push_cast; rfl
  rw [this, u64_eq]
  generalize x * 2 ^ k = m
  omega
theorem shrN {y k : Nat} (hk : k ≤ 64) : shrZ .u64 (y : Int) (k : Int) = ((y / 2 ^ k : Nat) : Int) := by
  unfold shrZ
  rw [Int.toNat_natCast, show min k (IntKind.u64.bits) = k from by show min k 64 = k; omega, Int.fdiv_eq_ediv_of_nonneg _ (Int.pow_nonneg (by decide))]
  push_cast; rfl
theorem orN {x y k : Nat} (hk : k ≤ 64) (hx : x * 2 ^ k < 18446744073709551616) (hy : y < 2 ^ k) : orZ .u64 ((x * 2 ^ k : Nat) : Int) (y : Int) = ((x * 2 ^ k + y : Nat) : Int) := by
  have hy2 : y < 18446744073709551616 := by
    have : 2 ^ k ≤ 2 ^ 64 := Nat.pow_le_pow_right (by decide) hk
    omega
  have e : x * 2 ^ k ||| y = x * 2 ^ k + y := by
    rw [← Nat.shiftLeft_eq, Nat.shiftLeft_add_eq_or_of_lt hy]
  have hs : x * 2 ^ k + y < 18446744073709551616 := by
    rw [← e]
    exact Nat.or_lt_two_pow (n := 64) hx hy2
  unfold orZ
  have h1 : (BitVec.ofInt IntKind.u64.bits ((x * 2 ^ k : Nat) : Int)).toNat = x * 2 ^ k := by
    rw [BitVec.toNat_ofInt]
    show (((x * 2 ^ k : Nat) : Int) % (18446744073709551616 : Int)).toNat = _
    omega
  have h2 : (BitVec.ofInt IntKind.u64.bits (y : Int)).toNat = y := by
    rw [BitVec.toNat_ofInt]
    show ((y : Int) % (18446744073709551616 : Int)).toNat = _
    omega
  rw [BitVec.toNat_or, h1, h2, e]
  exact u64_nat hs
theorem p_Div64_0 {lo y : Nat} (hl : lo < 18446744073709551616) (hy : y < 18446744073709551616) (h0 : 0 < y) : PureC Tryz.prog fi_math_bits_Div64 [dU 0, dU lo, dU y] (dUU (lo / y) (lo % y)) := by
  refine pure_math_bits_Div64 (by simp) fun G hP hn => ?_
  unfold a_math_bits_Div64
  have c1 : ((y : Int) == 0) = false := by simp; omega
  have c1' : ((y : Int) = 0) = False := by simp; omega
  have c2 : ¬ (y : Int) ≤ 0 := by omega
  have hq := Nat.div_le_self lo y
  have hr := Nat.mod_lt lo h0
  have qd : IntKind.u64.wrap ((lo : Int).tdiv (y : Int)) = ((lo / y : Nat) : Int) := by
    rw [Int.tdiv_eq_ediv_of_nonneg (by omega), ← Int.natCast_ediv]
    exact u64_nat (by omega)
  have qm : (lo : Int).tmod (y : Int) = ((lo % y : Nat) : Int) := by rw [Int.tmod_eq_emod_of_nonneg (by omega)]; omega
  refine go (aa c1 <| aa c1' <| aa c2 <| aa @qd @qm) trivial ?_
  exact ends_ret rfl rfl rfl rfl
end Go.AM

namespace Go.AM
open Go Go.Proofs
set_option maxRecDepth 100000
set_option maxHeartbeats 8000000

theorem T_cutX {G : Ground} {F : Fence} {n id : Nat} {Q : Exit → AS → Prop} {s S : AS} {c b : ACode} (h : T G F n c (fun e s' => e = .exit id ∧ Weak G s' S) s) (k : T G F n b Q S) : T G F n c (inB id (Then G F n b Q)) s :=
  T_mono h fun e s' ⟨h1, h2⟩ => by subst h1; exact inB_exit (T_then (T_weak h2 k))
theorem div_lin {b H Lh L U U1 U0 U2 A B R2 : Nat} (hU : U = H + Lh) (hL : L = U1 * b + U0) (h1 : U * b + U1 = A + U2) (h2 : U2 * b + U0 = B + R2) :
    H * (b * b) + (Lh * (b * b) + L) = A * b + B + R2 := by
  have e : H * (b * b) + (Lh * (b * b) + L) = (U * b + U1) * b + U0 := by
    rw [hU, hL]; simp only [Nat.add_mul, Nat.mul_assoc, Nat.add_assoc]
  rw [e, h1, Nat.add_mul, Nat.add_assoc, h2, Nat.add_assoc]
theorem kn_next {i r v : Nat} (h : i * 2147483648 ≤ r) (hv : 2147483648 ≤ v) : (i + 1) * 2147483648 ≤ r + v := by
  rw [Nat.add_mul, Nat.one_mul]; exact Nat.add_le_add h hv
theorem kn_lt {i r : Nat} (h : i * 2147483648 ≤ r) (h2 : r < 4294967296) : i < 2 :=
  Nat.lt_of_mul_lt_mul_right (Nat.lt_of_le_of_lt h h2 : i * 2147483648 < 2 * 2147483648)
theorem div_tail {T q y s Y R2 : Nat} (hY : Y = y * 2 ^ s) (e1 : T * 2 ^ s = (q * y) * 2 ^ s + R2) (h3 : R2 < Y) (hy : 0 < y) : T / y = q ∧ T % y = R2 / 2 ^ s := by
  have hp : 0 < 2 ^ s := Nat.two_pow_pos s
  have e2 : R2 = (T - q * y) * 2 ^ s := by rw [Nat.sub_mul]; omega
  have hle : q * y ≤ T := Nat.le_of_mul_le_mul_right (by omega : (q * y) * 2 ^ s ≤ T * 2 ^ s) hp
  have e3 : R2 / 2 ^ s = T - q * y := by rw [e2, Nat.mul_div_cancel _ hp]
  have e4 : T - q * y < y := by
    rw [e2, hY] at h3
    exact Nat.lt_of_mul_lt_mul_right h3
  have e5 : T = y * q + (T - q * y) := by rw [Nat.mul_comm y q]; omega
  rw [e3]
  generalize T - q * y = r at *
  subst e5
  exact ⟨by rw [Nat.mul_add_div hy, Nat.div_eq_of_lt e4]; rfl, by rw [Nat.mul_add_mod, Nat.mod_eq_of_lt e4]⟩
theorem div_parts {hi lo y s Y U L Lh U1 U0 U2 R2 q1 q0 : Nat} (hY : Y = y * 2 ^ s) (hU : U = hi * 2 ^ s + Lh) (hl : lo * 2 ^ s = Lh * 18446744073709551616 + L) (hL : L = U1 * 4294967296 + U0)
    (h1 : U * 4294967296 + U1 = q1 * Y + U2) (h2 : U2 * 4294967296 + U0 = q0 * Y + R2) (h3 : R2 < Y) (hy : 0 < y) :
    (hi * 18446744073709551616 + lo) / y = q1 * 4294967296 + q0 ∧ (hi * 18446744073709551616 + lo) % y = R2 / 2 ^ s := by
  refine div_tail hY ?_ h3 hy
  have a1 : (hi * 18446744073709551616 + lo) * 2 ^ s = (hi * 2 ^ s) * 18446744073709551616 + lo * 2 ^ s := by
    rw [Nat.add_mul, Nat.mul_right_comm]
  have a2 : ((q1 * 4294967296 + q0) * y) * 2 ^ s = (q1 * Y) * 4294967296 + q0 * Y := by
    rw [hY, Nat.mul_assoc, Nat.add_mul, Nat.mul_right_comm q1]
  rw [a1, a2, hl]
  exact div_lin (b := 4294967296) hU hL h1 h2
theorem wrap_sub {N P R : Nat} (h : N = P + R) (hR : R < 18446744073709551616) : IntKind.u64.wrap (((N % 18446744073709551616 : Nat) : Int) - ((P % 18446744073709551616 : Nat) : Int)) = (R : Int) := by
  rw [u64_eq]; omega
theorem wrap_mulB (a : Nat) : IntKind.u64.wrap ((a : Int) * 4294967296) = ((a * 4294967296 % 18446744073709551616 : Nat) : Int) := by
  rw [u64_eq]; omega
theorem wrap_mulN (a b : Nat) : IntKind.u64.wrap ((a : Int) * (b : Int)) = ((a * b % 18446744073709551616 : Nat) : Int) := by
  rw [u64_eq, ← Int.natCast_mul]
  generalize a * b = m
  omega
theorem wrap_addM (a b : Nat) : IntKind.u64.wrap (((a % 18446744073709551616 : Nat) : Int) + (b : Int)) = (((a + b) % 18446744073709551616 : Nat) : Int) := by
  rw [u64_eq]; omega
theorem low_B {q : Nat} (h : q < 4294967296) : q * 4294967296 % 18446744073709551616 = q * 4294967296 := by omega
theorem low_BB {q r : Nat} (h : q < 4294967296) (h2 : r < 4294967296) : IntKind.u64.wrap (((q * 4294967296 : Nat) : Int) + (r : Int)) = ((q * 4294967296 + r : Nat) : Int) := by
  rw [← Int.natCast_add]; exact u64_nat (by omega)
theorem p_Div64_1 {hi lo y : Nat} (hl : lo < 18446744073709551616) (hy : y < 18446744073709551616) (h0 : 0 < hi) (h1 : hi < y) :
    PureC Tryz.prog fi_math_bits_Div64 [dU hi, dU lo, dU y] (dUU ((hi * 18446744073709551616 + lo) / y) ((hi * 18446744073709551616 + lo) % y)) := by
  refine pure_math_bits_Div64 (by simp) fun G hP hn => ?_
  unfold a_math_bits_Div64
  have c1 : ((y : Int) == 0) = false := by simp; omega
  have c2 : ¬ (y : Int) ≤ hi := by omega
  have c3 : ((hi : Int) == 0) = false := by simp; omega
  have kl := p_LZ64 hy
  obtain ⟨p1, p2, p3, p4⟩ := lenN_pow (x := y) (by omega) hy
  obtain ⟨s, hs⟩ : ∃ s, s = lzN y := ⟨_, rfl⟩
  have hs64 : s ≤ 63 := by rw [hs]; unfold lzN; omega
  rw [show 64 - lenN y = s from by rw [hs]; rfl] at p3 p4
  rw [← hs] at kl
  have es : IntKind.u64.wrap (s : Int) = (s : Int) := u64_nat (by omega)
  have hp : 0 < 2 ^ s := Nat.two_pow_pos s
  obtain ⟨Y, hY⟩ : ∃ Y, Y = y * 2 ^ s := ⟨_, rfl⟩
  have f1 : shlZ .u64 (y : Int) (s : Int) = (Y : Int) := by rw [hY]; exact shlN (by omega) p4
  rw [← hY] at p3 p4
  obtain ⟨V1, hV1⟩ : ∃ V1, V1 = Y / 4294967296 := ⟨_, rfl⟩
  obtain ⟨V0, hV0⟩ : ∃ V0, V0 = Y % 4294967296 := ⟨_, rfl⟩
  have f2 : shrZ .u64 (Y : Int) 32 = (V1 : Int) := by rw [hV1]; exact shr32 Y
  have f3 : andZ .u64 (Y : Int) 4294967295 = (V0 : Int) := by rw [hV0]; exact u64_and p4
  have hYV : Y = V1 * 4294967296 + V0 := by omega
  obtain ⟨Lh, hLh⟩ : ∃ Lh, Lh = lo / 2 ^ (64 - s) := ⟨_, rfl⟩
  have hpp : 2 ^ (64 - s) * 2 ^ s = 18446744073709551616 := by rw [← Nat.pow_add, show 64 - s + s = 64 from by omega]
  have hLhs : Lh < 2 ^ s := by
    rw [hLh, Nat.div_lt_iff_lt_mul (Nat.two_pow_pos _), Nat.mul_comm, hpp]; exact hl
  have hHy : hi * 2 ^ s + 2 ^ s ≤ Y := by
    have := Nat.mul_le_mul_right (2 ^ s) (show hi + 1 ≤ y from h1)
    rw [Nat.add_mul, Nat.one_mul] at this
    rw [hY]; exact this
  have f4 : shlZ .u64 (hi : Int) (s : Int) = ((hi * 2 ^ s : Nat) : Int) := shlN (by omega) (by omega)
  have f5 : IntKind.u64.wrap (64 - (s : Int)) = ((64 - s : Nat) : Int) := by
    rw [show (64 : Int) - (s : Int) = ((64 - s : Nat) : Int) from by omega]; exact u64_nat (by omega)
  have f6 : shrZ .u64 (lo : Int) ((64 - s : Nat) : Int) = (Lh : Int) := by rw [hLh]; exact shrN (by omega)
  obtain ⟨U, hU⟩ : ∃ U, U = hi * 2 ^ s + Lh := ⟨_, rfl⟩
  have f7 : orZ .u64 ((hi * 2 ^ s : Nat) : Int) (Lh : Int) = (U : Int) := by rw [hU]; exact orN (by omega) (by omega) hLhs
  obtain ⟨L, hL⟩ : ∃ L, L = lo * 2 ^ s % 18446744073709551616 := ⟨_, rfl⟩
  have f8 : shlZ .u64 (lo : Int) (s : Int) = (L : Int) := by rw [hL]; exact shlM (by omega)
  have hlo : lo * 2 ^ s = Lh * 18446744073709551616 + L := by
    have : lo * 2 ^ s / 18446744073709551616 = Lh := by
      rw [hLh, ← hpp, Nat.mul_div_mul_right _ _ hp]
    have := Nat.div_add_mod (lo * 2 ^ s) 18446744073709551616
    omega
  have hL64 : L < 18446744073709551616 := by rw [hL]; exact Nat.mod_lt _ (by decide)
  obtain ⟨U1, hU1⟩ : ∃ U1, U1 = L / 4294967296 := ⟨_, rfl⟩
  obtain ⟨U0, hU0⟩ : ∃ U0, U0 = L % 4294967296 := ⟨_, rfl⟩
  have f9 : shrZ .u64 (L : Int) 32 = (U1 : Int) := by rw [hU1]; exact shr32 L
  have f10 : andZ .u64 (L : Int) 4294967295 = (U0 : Int) := by rw [hU0]; exact u64_and hL64
  have hLU : L = U1 * 4294967296 + U0 := by omega
  have K : Knuth V1 V0 U U1 := ⟨by omega, by omega, by omega, by omega, by omega⟩
  have hU0b : U0 < 4294967296 := by omega
  clear hLh hL hV1 hV0 hU1 hU0 hs p1 p2
  have v0 : ((V1 : Int) = 0) = False := by have := K.h1; simp; omega
  have K1 := K.start
  have hQ0 := Nat.div_le_self U V1
  obtain ⟨Q0, hQ⟩ : ∃ Q0, Q0 = U / V1 := ⟨_, rfl⟩
  obtain ⟨R0, hR⟩ : ∃ R0, R0 = U % V1 := ⟨_, rfl⟩
  rw [← hQ, ← hR] at K1
  have hU64 : U < 18446744073709551616 := by omega
  have f11 : IntKind.u64.wrap ((U : Int).tdiv (V1 : Int)) = (Q0 : Int) := by
    rw [Int.tdiv_eq_ediv_of_nonneg (by omega), ← Int.natCast_ediv, ← hQ]
    exact u64_nat (by omega)
  have f12 : IntKind.u64.wrap ((Q0 : Int) * (V1 : Int)) = ((Q0 * V1 : Nat) : Int) := by rw [← Int.natCast_mul]; exact u64_nat (by omega)
  have f13 : IntKind.u64.wrap ((U : Int) - ((Q0 * V1 : Nat) : Int)) = (R0 : Int) := by
    rw [show (U : Int) - ((Q0 * V1 : Nat) : Int) = (R0 : Int) from by omega]; exact u64_nat (by omega)
  refine go (aa c1 <| aa c2 <| aa c3 <| aa @es <| aa f1 <| aa f2 <| aa f3 <| aa f4 <| aa f5 <| aa f6 <| aa f7 <| aa f8 <| aa f9 <| aa f10 <| aa v0 <| aa f11 <| aa f12 f13) kl ?_
  refine T_cutX (S := { env := [(2, .one (.p (.int .u64 Y))), (8, .one (.p (.int .u64 s))), (9, .one (.p (.int .u64 V1))), (10, .one (.p (.int .u64 V0))), (11, .one (.p (.int .u64 U))), (13, .one (.p (.int .u64 U1))), (14, .one (.p (.int .u64 U0))), (15, .one (.p (.int .u64 K.q))), (16, .one (.p (.int .u64 ((U - K.q * V1 : Nat) : Int))))], σ := [] }) ?_ ?_
  · refine T_for 2 (fun _ (a : Nat × Nat) => { env := [(2, .one (.p (.int .u64 Y))), (8, .one (.p (.int .u64 s))), (9, .one (.p (.int .u64 V1))), (10, .one (.p (.int .u64 V0))), (11, .one (.p (.int .u64 U))), (13, .one (.p (.int .u64 U1))), (14, .one (.p (.int .u64 U0))), (15, .one (.p (.int .u64 a.1))), (16, .one (.p (.int .u64 a.2)))], σ := [] })
      (fun i a => a.1 * V1 + a.2 = U ∧ K.q ≤ a.1 ∧ a.2 < 4294967296 ∧ i * 2147483648 ≤ a.2 ∧ a.1 ≤ Q0) (Q0, R0) ⟨K1.1, K1.2.1, K1.2.2, by rw [Nat.zero_mul]; exact Nat.zero_le _, Nat.le_refl _⟩ (.refl _ _) fun i a hi ha => ?_
    obtain ⟨q, r⟩ := a
    obtain ⟨a1, a2, a3, a4, a5⟩ := ha
    simp only at a1 a2 a3 a4 a5
    have hv := K.h1
    have hv2 := K.h2
    have hv0 := K.h3
    have hK := K.q_lt
    have hiff := K.lt_iff a1
    have dec : K.q < q → (q - 1) * V1 + (r + V1) = U := fun h => by
      have : q * V1 = (q - 1) * V1 + V1 := by
        conv => lhs; rw [show q = (q - 1) + 1 from by omega, Nat.add_mul, Nat.one_mul]
      omega
    have w1 : 1 ≤ q → IntKind.u64.wrap ((q : Int) - 1) = ((q - 1 : Nat) : Int) := fun h => by
      rw [show (q : Int) - 1 = ((q - 1 : Nat) : Int) from by omega]; exact u64_nat (by omega)
    have w2 : IntKind.u64.wrap ((r : Int) + (V1 : Int)) = ((r + V1 : Nat) : Int) := by rw [← Int.natCast_add]; exact u64_nat (by omega)
    have stop : ∀ q' r' : Nat, q' * V1 + r' = U → q' = K.q → r' = U - K.q * V1 := fun q' r' h1 h2 => by subst h2; omega
    by_cases b1 : 4294967296 ≤ q
    · have b1' : (q : Int) ≥ 4294967296 := by omega
      have hlt : K.q < q := by omega
      have hd := dec hlt
      have w1' := w1 (by omega)
      by_cases b2 : 4294967296 ≤ r + V1
      · have b2' : ((r + V1 : Nat) : Int) ≥ 4294967296 := by omega
        have hsm := K.small hd b2
        refine go (aa b1' <| aa w1' <| aa w2 b2') trivial ?_
        refine ⟨rfl, ?_⟩
        rw [← stop _ _ hd (by omega), show K.q = q - 1 from by omega]
        exact Weak.pick [2, 8, 9, 10, 11, 13, 14, 15, 16]
      · have b2' : ¬ ((r + V1 : Nat) : Int) ≥ 4294967296 := by omega
        refine go (aa b1' <| aa w1' <| aa w2 b2') trivial ?_
        exact rnd_next (kn_lt a4 a3) (q - 1, r + V1) ⟨hd, Nat.le_sub_one_of_lt hlt, Nat.lt_of_not_le b2, kn_next a4 hv, Nat.le_trans (Nat.sub_le _ _) a5⟩ (Weak.pick [2, 8, 9, 10, 11, 13, 14, 15, 16])
    · have b1' : ¬ (q : Int) ≥ 4294967296 := by omega
      have hA : q * V0 ≤ 4294967295 * V0 := Nat.mul_le_mul_right V0 (by omega)
      have w3 : IntKind.u64.wrap ((q : Int) * (V0 : Int)) = ((q * V0 : Nat) : Int) := by rw [← Int.natCast_mul]; exact u64_nat (by omega)
      have w4 : IntKind.u64.wrap (4294967296 * (r : Int)) = ((4294967296 * r : Nat) : Int) := by
        rw [show 4294967296 * (r : Int) = ((4294967296 * r : Nat) : Int) from by omega]; exact u64_nat (by omega)
      have w5 : IntKind.u64.wrap (((4294967296 * r : Nat) : Int) + (U1 : Int)) = ((4294967296 * r + U1 : Nat) : Int) := by
        have := K.h5
        rw [← Int.natCast_add]; exact u64_nat (by omega)
      by_cases b3 : q * V0 > 4294967296 * r + U1
      · have b3' : ((q * V0 : Nat) : Int) > ((4294967296 * r + U1 : Nat) : Int) := by omega
        have hlt : K.q < q := hiff.2 b3
        have hd := dec hlt
        have w1' := w1 (by omega)
        by_cases b2 : 4294967296 ≤ r + V1
        · have b2' : ((r + V1 : Nat) : Int) ≥ 4294967296 := by omega
          have hsm := K.small hd b2
          refine go (aa b1' <| aa w1' <| aa w2 <| aa w3 <| aa w4 <| aa w5 <| aa b2' b3') trivial ?_
          refine ⟨rfl, ?_⟩
          rw [← stop _ _ hd (by omega), show K.q = q - 1 from by omega]
          exact Weak.pick [2, 8, 9, 10, 11, 13, 14, 15, 16]
        · have b2' : ¬ ((r + V1 : Nat) : Int) ≥ 4294967296 := by omega
          refine go (aa b1' <| aa w1' <| aa w2 <| aa w3 <| aa w4 <| aa w5 <| aa b2' b3') trivial ?_
          exact rnd_next (kn_lt a4 a3) (q - 1, r + V1) ⟨hd, Nat.le_sub_one_of_lt hlt, Nat.lt_of_not_le b2, kn_next a4 hv, Nat.le_trans (Nat.sub_le _ _) a5⟩ (Weak.pick [2, 8, 9, 10, 11, 13, 14, 15, 16])
      · have b3' : ¬ ((q * V0 : Nat) : Int) > ((4294967296 * r + U1 : Nat) : Int) := by omega
        have hle : ¬ K.q < q := fun h => b3 (hiff.1 h)
        refine go (aa b1' <| aa w3 <| aa w4 <| aa w5 b3') trivial ?_
        refine ⟨rfl, ?_⟩
        rw [← stop _ _ a1 (by omega), show K.q = q from by omega]
        exact Weak.pick [2, 8, 9, 10, 11, 13, 14, 15, 16]
  have hq1b := K.q_lt
  obtain ⟨q1, hq1⟩ : ∃ q1, q1 = K.q := ⟨_, rfl⟩
  have KR := K.rest
  rw [← hYV, ← hq1] at KR
  rw [← hq1] at hq1b
  obtain ⟨U2, hU2⟩ : ∃ U2, U2 = (U * 4294967296 + U1) % Y := ⟨_, rfl⟩
  rw [← hU2] at KR
  rw [← hq1]
  have t1 := wrap_mulB U
  have t2 := wrap_addM (U * 4294967296) U1
  have t3 := wrap_mulN q1 Y
  have t4 := wrap_sub KR.1 (Nat.lt_trans KR.2 p4)
  have K2 : Knuth V1 V0 U2 U0 := ⟨K.h1, K.h2, K.h3, by rw [← hYV]; exact KR.2, hU0b⟩
  have K21 := K2.start
  have hQ2' := Nat.div_le_self U2 V1
  have hU264 : U2 < 18446744073709551616 := Nat.lt_trans KR.2 p4
  obtain ⟨Q2, hQ2⟩ : ∃ Q2, Q2 = U2 / V1 := ⟨_, rfl⟩
  obtain ⟨R2, hR2⟩ : ∃ R2, R2 = U2 % V1 := ⟨_, rfl⟩
  rw [← hQ2, ← hR2] at K21
  have g11 : IntKind.u64.wrap ((U2 : Int).tdiv (V1 : Int)) = (Q2 : Int) := by
    rw [Int.tdiv_eq_ediv_of_nonneg (by omega), ← Int.natCast_ediv, ← hQ2]
    exact u64_nat (by omega)
  have g12 : IntKind.u64.wrap ((Q2 : Int) * (V1 : Int)) = ((Q2 * V1 : Nat) : Int) := by rw [← Int.natCast_mul]; exact u64_nat (by omega)
  have g13 : IntKind.u64.wrap ((U2 : Int) - ((Q2 * V1 : Nat) : Int)) = (R2 : Int) := by
    rw [show (U2 : Int) - ((Q2 * V1 : Nat) : Int) = (R2 : Int) from by omega]; exact u64_nat (by omega)
  refine go (aa t1 <| aa t2 <| aa t3 <| aa t4 <| aa v0 <| aa g11 <| aa g12 g13) trivial ?_
  refine T_cutX (S := { env := [(2, .one (.p (.int .u64 Y))), (8, .one (.p (.int .u64 s))), (9, .one (.p (.int .u64 V1))), (10, .one (.p (.int .u64 V0))), (14, .one (.p (.int .u64 U0))), (15, .one (.p (.int .u64 q1))), (17, .one (.p (.int .u64 U2))), (18, .one (.p (.int .u64 K2.q))), (16, .one (.p (.int .u64 ((U2 - K2.q * V1 : Nat) : Int))))], σ := [] }) ?_ ?_
  · refine T_for 2 (fun _ (a : Nat × Nat) => { env := [(2, .one (.p (.int .u64 Y))), (8, .one (.p (.int .u64 s))), (9, .one (.p (.int .u64 V1))), (10, .one (.p (.int .u64 V0))), (14, .one (.p (.int .u64 U0))), (15, .one (.p (.int .u64 q1))), (17, .one (.p (.int .u64 U2))), (18, .one (.p (.int .u64 a.1))), (16, .one (.p (.int .u64 a.2)))], σ := [] })
      (fun i a => a.1 * V1 + a.2 = U2 ∧ K2.q ≤ a.1 ∧ a.2 < 4294967296 ∧ i * 2147483648 ≤ a.2 ∧ a.1 ≤ Q2) (Q2, R2) ⟨K21.1, K21.2.1, K21.2.2, by rw [Nat.zero_mul]; exact Nat.zero_le _, Nat.le_refl _⟩ (Weak.pick [2, 8, 9, 10, 14, 15, 17, 18, 16]) fun i a hi ha => ?_
    obtain ⟨q, r⟩ := a
    obtain ⟨a1, a2, a3, a4, a5⟩ := ha
    simp only at a1 a2 a3 a4 a5
    have hv := K2.h1
    have hv2 := K2.h2
    have hv0 := K2.h3
    have hK := K2.q_lt
    have hiff := K2.lt_iff a1
    have dec : K2.q < q → (q - 1) * V1 + (r + V1) = U2 := fun h => by
      have : q * V1 = (q - 1) * V1 + V1 := by
        conv => lhs; rw [show q = (q - 1) + 1 from by omega, Nat.add_mul, Nat.one_mul]
      omega
    have w1 : 1 ≤ q → IntKind.u64.wrap ((q : Int) - 1) = ((q - 1 : Nat) : Int) := fun h => by
      rw [show (q : Int) - 1 = ((q - 1 : Nat) : Int) from by omega]; exact u64_nat (by omega)
    have w2 : IntKind.u64.wrap ((r : Int) + (V1 : Int)) = ((r + V1 : Nat) : Int) := by rw [← Int.natCast_add]; exact u64_nat (by omega)
    have stop : ∀ q' r' : Nat, q' * V1 + r' = U2 → q' = K2.q → r' = U2 - K2.q * V1 := fun q' r' h1 h2 => by subst h2; omega
    by_cases b1 : 4294967296 ≤ q
    · have b1' : (q : Int) ≥ 4294967296 := by omega
      have hlt : K2.q < q := by omega
      have hd := dec hlt
      have w1' := w1 (by omega)
      by_cases b2 : 4294967296 ≤ r + V1
      · have b2' : ((r + V1 : Nat) : Int) ≥ 4294967296 := by omega
        have hsm := K2.small hd b2
        refine go (aa b1' <| aa w1' <| aa w2 b2') trivial ?_
        refine ⟨rfl, ?_⟩
        rw [← stop _ _ hd (by omega), show K2.q = q - 1 from by omega]
        exact Weak.pick [2, 8, 9, 10, 14, 15, 17, 18, 16]
      · have b2' : ¬ ((r + V1 : Nat) : Int) ≥ 4294967296 := by omega
        refine go (aa b1' <| aa w1' <| aa w2 b2') trivial ?_
        exact rnd_next (kn_lt a4 a3) (q - 1, r + V1) ⟨hd, Nat.le_sub_one_of_lt hlt, Nat.lt_of_not_le b2, kn_next a4 hv, Nat.le_trans (Nat.sub_le _ _) a5⟩ (Weak.pick [2, 8, 9, 10, 14, 15, 17, 18, 16])
    · have b1' : ¬ (q : Int) ≥ 4294967296 := by omega
      have hA : q * V0 ≤ 4294967295 * V0 := Nat.mul_le_mul_right V0 (by omega)
      have w3 : IntKind.u64.wrap ((q : Int) * (V0 : Int)) = ((q * V0 : Nat) : Int) := by rw [← Int.natCast_mul]; exact u64_nat (by omega)
      have w4 : IntKind.u64.wrap (4294967296 * (r : Int)) = ((4294967296 * r : Nat) : Int) := by
        rw [show 4294967296 * (r : Int) = ((4294967296 * r : Nat) : Int) from by omega]; exact u64_nat (by omega)
      have w5 : IntKind.u64.wrap (((4294967296 * r : Nat) : Int) + (U0 : Int)) = ((4294967296 * r + U0 : Nat) : Int) := by
        have := K2.h5
        rw [← Int.natCast_add]; exact u64_nat (by omega)
      by_cases b3 : q * V0 > 4294967296 * r + U0
      · have b3' : ((q * V0 : Nat) : Int) > ((4294967296 * r + U0 : Nat) : Int) := by omega
        have hlt : K2.q < q := hiff.2 b3
        have hd := dec hlt
        have w1' := w1 (by omega)
        by_cases b2 : 4294967296 ≤ r + V1
        · have b2' : ((r + V1 : Nat) : Int) ≥ 4294967296 := by omega
          have hsm := K2.small hd b2
          refine go (aa b1' <| aa w1' <| aa w2 <| aa w3 <| aa w4 <| aa w5 <| aa b2' b3') trivial ?_
          refine ⟨rfl, ?_⟩
          rw [← stop _ _ hd (by omega), show K2.q = q - 1 from by omega]
          exact Weak.pick [2, 8, 9, 10, 14, 15, 17, 18, 16]
        · have b2' : ¬ ((r + V1 : Nat) : Int) ≥ 4294967296 := by omega
          refine go (aa b1' <| aa w1' <| aa w2 <| aa w3 <| aa w4 <| aa w5 <| aa b2' b3') trivial ?_
          exact rnd_next (kn_lt a4 a3) (q - 1, r + V1) ⟨hd, Nat.le_sub_one_of_lt hlt, Nat.lt_of_not_le b2, kn_next a4 hv, Nat.le_trans (Nat.sub_le _ _) a5⟩ (Weak.pick [2, 8, 9, 10, 14, 15, 17, 18, 16])
      · have b3' : ¬ ((q * V0 : Nat) : Int) > ((4294967296 * r + U0 : Nat) : Int) := by omega
        have hle : ¬ K2.q < q := fun h => b3 (hiff.1 h)
        refine go (aa b1' <| aa w3 <| aa w4 <| aa w5 b3') trivial ?_
        refine ⟨rfl, ?_⟩
        rw [← stop _ _ a1 (by omega), show K2.q = q from by omega]
        exact Weak.pick [2, 8, 9, 10, 14, 15, 17, 18, 16]
  have hq0b := K2.q_lt
  obtain ⟨q0, hq0⟩ : ∃ q0, q0 = K2.q := ⟨_, rfl⟩
  have KR2 := K2.rest
  rw [← hYV, ← hq0] at KR2
  rw [← hq0] at hq0b
  obtain ⟨X2, hX2⟩ : ∃ X2, X2 = (U2 * 4294967296 + U0) % Y := ⟨_, rfl⟩
  rw [← hX2] at KR2
  rw [← hq0]
  obtain ⟨r1, r2⟩ := div_parts hY hU hlo hLU KR.1 KR2.1 KR2.2 (by omega)
  have s1 := wrap_mulB q1
  rw [low_B hq1b] at s1
  have s2 := low_BB hq1b hq0b
  have s3 := wrap_mulB U2
  have s4 := wrap_addM (U2 * 4294967296) U0
  have s5 := wrap_mulN q0 Y
  have s6 := wrap_sub KR2.1 (Nat.lt_trans KR2.2 p4)
  have s7 : shrZ .u64 (X2 : Int) (s : Int) = ((X2 / 2 ^ s : Nat) : Int) := shrN (by omega)
  rw [r1, r2]
  refine go (aa s1 <| aa s2 <| aa s3 <| aa s4 <| aa s5 <| aa s6 s7) trivial ?_
  exact ends_ret rfl rfl rfl rfl
end Go.AM

namespace Go.AM
open Go Go.Proofs
set_option maxRecDepth 100000
set_option maxHeartbeats 4000000

theorem p_Div64 {hi lo y : Nat} (hl : lo < 18446744073709551616) (hy : y < 18446744073709551616) (h1 : hi < y) :
    PureC Tryz.prog fi_math_bits_Div64 [dU hi, dU lo, dU y] (dUU ((hi * 18446744073709551616 + lo) / y) ((hi * 18446744073709551616 + lo) % y)) := by
  by_cases h0 : hi = 0
  · subst h0
    rw [Nat.zero_mul, Nat.zero_add]
    exact p_Div64_0 hl hy h1
  · exact p_Div64_1 hl hy (by omega) h1
def fDiv (a b : Int) : Int × Int := if b = 0 then (0, 11) else rng (sgn (a.natAbs * 4294967296 / b.natAbs) (decide (a.natAbs * 4294967296 % b.natAbs ≠ 0)) (apart a b))
theorem div_words {A B : Nat} (hB : 0 < B) : A / 4294967296 / B * 18446744073709551616 + (A / 4294967296 % B * 18446744073709551616 + A % 4294967296 * 4294967296) / B = A * 4294967296 / B ∧
    (A / 4294967296 % B * 18446744073709551616 + A % 4294967296 * 4294967296) % B = A * 4294967296 % B := by
  have e1 := Nat.div_add_mod (A / 4294967296) B
  have e2 : A * 4294967296 = (A / 4294967296) * 18446744073709551616 + A % 4294967296 * 4294967296 := by omega
  have e3 : A * 4294967296 = B * ((A / 4294967296 / B) * 18446744073709551616) + (A / 4294967296 % B * 18446744073709551616 + A % 4294967296 * 4294967296) := by
    rw [e2, ← Nat.mul_assoc, ← Nat.add_assoc, ← Nat.add_mul, e1]
  rw [e3, Nat.mul_add_div hB, Nat.mul_add_mod]
  exact ⟨rfl, rfl⟩
theorem div_word {A B : Nat} (hB : 0 < B) : (A / 4294967296 % B * 18446744073709551616 + A % 4294967296 * 4294967296) / B < 18446744073709551616 := by
  have h1 := Nat.mod_lt (A / 4294967296) hB
  rw [Nat.div_lt_iff_lt_mul hB]
  generalize A / 4294967296 % B = h at *
  omega
theorem div_plan {A B : Nat} (hB : 0 < B) (hA : A ≤ 9223372036854775808) (hB2 : B ≤ 9223372036854775808) : ∃ hi lo w0 hm w1 rs : Nat, shrZ .u64 (A : Int) 32 = (hi : Int) ∧ shlZ .u64 (A : Int) 32 = (lo : Int) ∧ IntKind.u64.wrap ((hi : Int).tdiv (B : Int)) = (w0 : Int) ∧ (hi : Int).tmod (B : Int) = (hm : Int) ∧
    PureC Tryz.prog fi_math_bits_Div64 [dU hm, dU lo, dU B] (dUU w1 rs) ∧ w1 < 18446744073709551616 ∧ w0 < 18446744073709551615 ∧ w0 * 18446744073709551616 + w1 = A * 4294967296 / B ∧ rs = A * 4294967296 % B := by
  have hm := Nat.mod_lt (A / 4294967296) hB
  have hq := Nat.div_le_self (A / 4294967296) B
  have hA2 : A / 4294967296 < 4294967296 := by omega
  refine ⟨_, _, A / 4294967296 / B, A / 4294967296 % B, _, _, shr32 A, shl32 A, ?_, ?_, p_Div64 (by omega) (by omega) hm, div_word hB, by omega, (div_words hB).1, (div_words hB).2⟩
  · rw [Int.tdiv_eq_ediv_of_nonneg (by omega), ← Int.natCast_ediv]
    exact u64_nat (by omega)
  · rw [Int.tmod_eq_emod_of_nonneg (by omega)]; exact (Int.natCast_emod _ _).symm
theorem p_fix_Div {a b : Int} (ha : I64 a) (hb : I64 b) : PureC Tryz.prog fi_fix_Div [dN a, dN b] (dNE (fDiv a b)) := by
  refine pure_fix_Div (by simp) fun G hP hn => ?_
  unfold a_fix_Div
  by_cases hb0 : b = 0
  · subst hb0
    refine go trivial trivial ?_
    exact ends_ret rfl rfl rfl rfl
  have c1 : (b == 0) = false := by simpa using hb0
  have la := abs_lt ha
  have lb := abs_lt hb
  have hB : 0 < b.natAbs := by omega
  have ka := p_fix_size ha
  have kb := p_fix_size hb
  have kp := p_fix_apart a b
  have hf : fDiv a b = rng (sgn (a.natAbs * 4294967296 / b.natAbs) (decide (a.natAbs * 4294967296 % b.natAbs ≠ 0)) (apart a b)) := if_neg hb0
  generalize apart a b = ap at *
  generalize a.natAbs = A at *
  generalize b.natAbs = B at *
  obtain ⟨hi, lo, w0, hm, w1, rs, e1, e2, e3, e4, kd, e5, e6, e7, e8⟩ := div_plan hB la lb
  rw [← e7, ← e8] at hf
  have b0 : ((B : Int) = 0) = False := by simp; omega
  have e9 : decide (rs ≠ 0) = ((rs : Int) != 0) := by rw [Bool.eq_iff_iff]; simp
  rw [e9] at hf
  have ks := p_fix_signed e5 e6 ((rs : Int) != 0) ap
  rw [← hf] at ks
  refine go (aa c1 <| aa b0 <| aa e1 <| aa e2 <| aa e3 e4) (aa ka <| aa kb <| aa kd <| aa kp ks) ?_
  exact ends_ret rfl rfl rfl rfl
end Go.AM

namespace Go.AM
open Go Go.Proofs
set_option maxRecDepth 100000
set_option maxHeartbeats 4000000

theorem p_reduce_most (a b : Int) : PureC Tryz.prog fi_reduce_most [dN a, dN b] (dNE (max a b, 0)) := by
  refine pure_reduce_most (by simp) fun G hP hn => ?_
  refine go trivial trivial ?_
  exact ends_ret rfl rfl rfl rfl
def shareE (n S : Int) : Int × Int := fDiv n (S * 4294967296)
theorem p_reduce_share {n : Int} {S : Nat} (hn0 : I64 n) (h1 : 1 ≤ S) (h2 : S ≤ 16) : PureC Tryz.prog fi_reduce_share [dN n, dN S] (dNE (shareE n S)) := by
  unfold shareE
  refine pure_reduce_share (by simp) fun G hP hn => ?_
  have w1 : IntKind.i64.wrap ((S : Int) * 4294967296) = S * 4294967296 := wrap_in (by omega) (by omega)
  have k := p_fix_Div (a := n) (b := S * 4294967296) hn0 ⟨by omega, by omega⟩
  refine go w1 k ?_
  exact ends_ret rfl rfl rfl rfl
def mxS (s d : List Int) (a : Int) : (List Int × List Int) × Int := togetherF (fun a b => (max a b, 0)) (fun n _ => (n, 0)) (fun a => a) s d a
theorem p_reduce_Max (s d : List Int) (a : Int) (hd : I64s d) : PureC Tryz.prog fi_reduce_Max [dT s d, dN a] (dTE (mxS s d a)) := by
  refine pure_reduce_Max (by simp) fun G hP hn => ?_
  have k := p_reduce_together (W := fun a b => (max a b, 0)) (E := fun n _ => (n, 0)) (F := fun a => a) (fun a b _ _ => p_reduce_most a b) (fun a b ha hb => by show I64 (max a b); rw [Int.max_def]; split <;> assumption) (fun a S _ _ _ => p_reduce_done a S) (fun a _ => p_reduce_same a) (fun _ h => h) s d a hd
  refine go trivial k ?_
  exact ends_ret rfl rfl rfl rfl
def meanS (s d : List Int) (a : Int) : (List Int × List Int) × Int :=
  if (sumS s d a).2 = 0 then togetherF fAdd shareE (fun _ => 0) s d a else bad (sumS s d a).2
theorem p_reduce_Mean (s d : List Int) (a : Int) (hd : I64s d) : PureC Tryz.prog fi_reduce_Mean [dT s d, dN a] (dTE (meanS s d a)) := by
  refine pure_reduce_Mean (by simp) fun G hP hn => ?_
  have ks := p_reduce_Sum s d a hd
  have k := p_reduce_together (W := fAdd) (E := shareE) (F := fun _ => 0) (fun a b ha hb => p_fix_Add ha hb) (fun a b _ _ => fAdd_range a b) (fun a S h h1 h2 => p_reduce_share h h1 h2) (fun a _ => p_reduce_none a) (fun _ _ => i64_0) s d a hd
  by_cases h : (sumS s d a).2 = 0
  · have hm : meanS s d a = togetherF fAdd shareE (fun _ => 0) s d a := if_pos h
    rw [hm]
    have e1 : ((sumS s d a).2 != 0) = false := by simp [h]
    clear hm h
    generalize togetherF fAdd shareE (fun _ => 0) s d a = R at *
    generalize sumS s d a = R' at *
    refine go e1 (aa ks k) ?_
    exact ends_ret rfl rfl rfl rfl
  · have hm : meanS s d a = bad (sumS s d a).2 := if_neg h
    rw [hm]
    have e1 : ((sumS s d a).2 != 0) = true := by simp [h]
    clear hm h k
    generalize sumS s d a = R' at *
    refine go e1 ks ?_
    exact ends_ret rfl rfl rfl rfl
end Go.AM

namespace Go.AM
open Go
theorem owOf_ren {ρ : Nat → Nat} (hρ : ∀ t, ρ (ρ t) = t) (σ : Sto) (τ : Tau) : owOf (renS ρ σ) τ = owOf σ (fun t => τ (ρ t)) := by
  funext k
  apply propext
  constructor
  · rintro ⟨t, hm, ht⟩
    rw [lo_renS hρ, AO.ren_mu] at hm
    exact ⟨ρ t, hm, by show τ (ρ (ρ t)) = some k; rw [hρ]; exact ht⟩
  · rintro ⟨t, hm, ht⟩
    exact ⟨ρ t, by rw [lo_renS hρ, AO.ren_mu, hρ]; exact hm, ht⟩
theorem SepS.ren {ρ : Nat → Nat} (hρ : ∀ t, ρ (ρ t) = t) {σ : Sto} {τ : Tau} (h : SepS σ τ) : SepS (renS ρ σ) (fun t => τ (ρ t)) := fun t t' b h1 h2 hne hm hb => by
  rw [lo_renS hρ] at h1 h2 hm
  rw [AO.ren_mu] at hm
  exact h (ρ t) (ρ t') b (fun e => h1 (AO.ren_none.2 e)) (fun e => h2 (AO.ren_none.2 e)) (fun e => hne (by rw [← hρ t, e, hρ])) hm hb
theorem MutC.ren {P : Program} {f : FuncId} {vs : List AV} {σ σ' : Sto} {r : AV} {fr : List Nat} {ρ : Nat → Nat} (hρ : ∀ t, ρ (ρ t) = t) (h : MutC P f vs σ r σ' fr) :
    MutC P f (vs.map (AV.ren ρ)) (renS ρ σ) (r.ren ρ) (renS ρ σ') (fr.map ρ) := by
  refine ⟨h.enters, fun A τ w xs ex exs hA hxs hex hfr hob hsp => ?_⟩
  have hob2 : ∀ t, ORel (fun _ => True) A (fun t => τ (ρ t)) w t (lo σ t) := fun t => by
    have := (hob (ρ t)).ren (ρ := ρ) (τ := τ) hρ (t := t)
    rw [lo_renS hρ, hρ, AO.ren_ren hρ] at this
    exact this
  have hsp2 : SepS σ (fun t => τ (ρ t)) := by
    have := SepS.ren hρ hsp
    rw [renS_renS hρ] at this
    exact this
  have key := h.calls A (fun t => τ (ρ t)) w xs (ex.map (AV.ren ρ)) exs hA (all2_unmap hxs fun _ _ h => h.unren hρ)
    (all2_map hex fun _ _ h => h.ren (fun t => by show τ (ρ (ρ t)) = τ t; rw [hρ]))
    (fun d hd v hv => by
      obtain ⟨v0, hv0, rfl⟩ := List.mem_map.1 hv
      rw [AV.ren_has hρ]
      exact hfr (ρ d) (List.mem_map.2 ⟨d, hd, rfl⟩) v0 hv0) hob2 hsp2
  rw [owOf_ren hρ]
  refine key.mono ?_
  rintro e w' ⟨x, A', τ', he, hfm, ho, hs, hr, hx⟩
  refine ⟨x, A', fun t => τ' (ρ t), he, hfm, fun t => ?_, SepS.ren hρ hs, hr.ren (fun t => by show τ' (ρ (ρ t)) = τ' t; rw [hρ]), all2_unmap hx fun _ _ h => h.unren hρ⟩
  rw [lo_renS hρ]
  exact (ho (ρ t)).ren hρ
end Go.AM

namespace Go.AM
open Go Go.Proofs
set_option maxRecDepth 100000
set_option maxHeartbeats 4000000

theorem m_tensor_FullB {s : List Int} (n : Int) (h : checkS s = true) : MutC Tryz.prog fi_tensor_Full [.one (.p (eI s)), .one (.p (.int .i64 n))] []
    (.tup [.agg [.msl 55 0 1 s.length none, .msl 30 0 1 (sizeS s).toNat (some (sizeS s).toNat)], .one (.p (.int .i64 0))])
    [(55, .arr true 1 (rI s)), (30, .arr true 1 (rI (List.replicate (sizeS s).toNat n)))] [55, 30] :=
  (m_tensor_Full n h).ren (swp_swp 5 55)
end Go.AM

namespace Go.AM
open Go Go.Proofs
set_option maxRecDepth 100000
set_option maxHeartbeats 4000000

def fdL (at_ : Nat → Nat) (d : List Int) (N : Nat) : Nat → List Int
  | 0 => List.replicate N 0
  | k + 1 => (fdL at_ d N k).set (at_ k) (gt (fdL at_ d N k) (at_ k) + gt d k)
theorem fdL_len (at_ : Nat → Nat) (d : List Int) (N : Nat) : ∀ k, (fdL at_ d N k).length = N
  | 0 => List.length_replicate
  | k + 1 => by simp only [fdL, List.length_set]; exact fdL_len at_ d N k
def fdAt (s g : List Int) (k : Nat) : Nat := (fromAt g s (k : Int)).toNat
def foldK (s d g : List Int) (k : Nat) : List Int := fdL (fdAt s g) d (sizeS g).toNat k
def foldD (s d g : List Int) : List Int := foldK s d g (sizeS s).toNat
def FoldOk (s d g : List Int) : Prop := ∀ k, k < (sizeS s).toNat → I64 (gt (foldK s d g k) (fdAt s g k) + gt d k)
theorem foldK_range {s d g : List Int} (h : FoldOk s d g) : ∀ k, k ≤ (sizeS s).toNat → I64s (foldK s d g k)
  | 0, _ => fun x hx => by rw [List.eq_of_mem_replicate hx]; exact i64_0
  | k + 1, hk => by
    have ih := foldK_range h k (by omega)
    have h1 := h k (by omega)
    intro x hx
    unfold foldK at hx
    simp only [fdL] at hx
    rcases List.mem_or_eq_of_mem_set hx with hx | rfl
    · exact ih x hx
    · exact h1
def fdS (s d g : List Int) (k : Nat) : Sto :=
  [(2, .cells true [.p (eI s), .p (eI d)]), (4, .cells true [.nils, .nils]), (5, .cells true [.p (.int .i64 0)]), (6, .cells true [.msl 55 0 1 g.length none, .msl 30 0 1 (sizeS g).toNat (some (sizeS g).toNat)]), (55, .arr true 1 (rI g)), (30, .arr true 1 (rI (foldK s d g k)))]
theorem fd_fam (s d g : List Int) : Fam (fdS s d g) [] := by
  refine ⟨fun k p hp => ?_, fun k t ht => ?_, fun k d hd => ?_, fun k t d hd ht => ?_⟩
  · simp only [fdS, List.mem_cons, List.not_mem_nil, or_false] at hp
    rcases hp with rfl | rfl | rfl | rfl | rfl | rfl <;> rfl
  · by_cases h : t ∈ (fdS s d g k).map (·.1)
    · exact h
    · exact absurd (lo_none h) ht
  · simp at hd
  · simp at hd
theorem p_tensor_Fold {s d g : List Int} (h1 : checkT s d = true) (h2 : fitsS g s = true) (hd : I64s d) (ok : FoldOk s d g) : PureC Tryz.prog fi_tensor_Fold [dT s d, dI g] (dTE ((g, foldD s d g), 0)) := by
  refine pure_tensor_Fold (by simp) fun G hP hn => ?_
  have kc := p_tensor_Check s d
  rw [h1] at kc
  have kf := p_shape_Fits g s
  rw [h2] at kf
  have hj := of_fits h2
  have kF := m_tensor_FullB (s := g) 0 (checkS_iff.2 hj.ha)
  have kfrom := p_tensor_from g s
  refine go trivial (aa kc <| aa kf <| aa kF kfrom) ?_
  refine T_range rfl (by rw [hP]; exact q_tensor_from_1 hj.ha hj.hb hj.fitR.1) (fdS s d g) [] (by rw [hn]; rfl) (fun x hx => by
    simp only [allF, List.mem_map] at hx
    obtain ⟨p, _, rfl⟩ := hx
    rfl) (fun t => ?_) (fd_fam s d g) (fun t ht => ?_) (fun d hd => by simp at hd) ?_ ?_
  · left
    simp only [fdS, foldK, fdL, lo]
  · by_cases h : t ∈ (fdS s d g 0).map (·.1)
    · exact h
    · exact absurd (lo_none h) ht
  · intro k v hv F n G' G'' ex fw h1' h2' h3' h4' hfr
    have hP0 := hP
    have hn0 := hn
    have hP : G'.P = Tryz.prog := h1'.trans hP0
    have hn : G'.nt = 59 := h2'.trans hn0
    have hk : k < (sizeS s).toNat := by
      have := (List.getElem?_eq_some_iff.1 hv).1
      rwa [allF_len] at this
    rw [allF_get g s k hk] at hv
    cases hv
    have hsz := sizeS_ok hj.hb
    have hlt := fromAt_lt hj (p := k) (by omega)
    have hdl := (checkT_iff.1 h1).2
    obtain ⟨q, hq⟩ := Int.eq_ofNat_of_zero_le hlt.1
    have hgz := sizeS_ok hj.ha
    have hlen : (foldK s d g k).length = (sizeS g).toNat := fdL_len _ _ _ _
    have hqa : fdAt s g k = q := by unfold fdAt; rw [hq, Int.toNat_natCast]
    have hqN : q < (sizeS g).toNat := by omega
    obtain ⟨x, hx⟩ : ∃ x, d[k]? = some x := ⟨_, List.getElem?_eq_getElem (by omega)⟩
    have hgx : gt d k = x := by unfold gt; rw [hx]; rfl
    obtain ⟨z, hz⟩ : ∃ z, (foldK s d g k)[q]? = some z := ⟨_, List.getElem?_eq_getElem (by omega)⟩
    have hgz2 : gt (foldK s d g k) q = z := by unfold gt; rw [hz]; rfl
    have hok := ok k hk
    rw [hqa, hgx, hgz2] at hok
    have kA := p_fix_Add (a := z) (b := x) (foldK_range ok k (by omega) _ (List.mem_of_getElem? hz)) (hd _ (List.mem_of_getElem? hx))
    have hA : fAdd z x = (z + x, 0) := rng_in hok
    rw [hA] at kA
    have hset : (foldK s d g k).set q (z + x) = foldK s d g (k + 1) := by
      have : foldK s d g (k + 1) = (foldK s d g k).set (fdAt s g k) (gt (foldK s d g k) (fdAt s g k) + gt d k) := rfl
      rw [this, hqa, hgx, hgz2]
    have hkl : k < d.length := by omega
    have hkl2 : (k : Int) < d.length := by omega
    have hq2 : (q : Int) < ((sizeS g).toNat : Int) := by omega
    simp only [putE, List.map, fdS, hq]
    clear hok hA hgx hgz2 ok
    generalize (sizeS g).toNat = N at *
    generalize foldK s d g (k + 1) = R' at *
    generalize foldK s d g k = R at *
    refine go trivial trivial ?_
    refine ⟨rfl, ?_⟩
    have hP : G''.P = Tryz.prog := h3'.trans hP0
    have hn : G''.nt = 59 := h4'.trans hn0
    refine go (aa hx <| aa hz <| aa hlen <| aa hkl <| aa hkl2 <| aa hq2 <| aa hqN <| aa @rI_set hset) kA ?_
    refine ⟨rfl, fun p hp => ?_, rfl⟩
    simp only [List.mem_cons, List.not_mem_nil, or_false] at hp
    rcases hp with rfl | rfl | rfl | rfl | rfl | rfl <;> rfl
  · simp only [List.cons_append, List.nil_append, fdS, allF_len]
    have hsl : (foldK s d g (sizeS s).toNat).length = (sizeS g).toNat := fdL_len _ _ _ _
    unfold foldD
    generalize (sizeS g).toNat = N at *
    generalize foldK s d g (sizeS s).toNat = R at *
    refine go trivial trivial ?_
    exact ends_twoM (t1 := 55) (t2 := 30) (by decide) rfl rfl rfl (by simp) (by simp [hsl]) (.inr ⟨_, rfl, rfl⟩) rfl
end Go.AM

