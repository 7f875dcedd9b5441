import Derived.Test.YtcmbjbmghoopcaaMt3
import Derived.Lib.Mul64
import Derived.ProofKit
import Derived.HandedShaped
import Derived.ChangeArms
import Derived.DataReads
import Derived.Test.YtcmbjbmghoopcaaRows
set_option linter.unusedVariables false
set_option linter.unusedSimpArgs false
namespace Go.AM
open Go Go.Proofs
set_option maxRecDepth 100000
set_option maxHeartbeats 4000000
set_option linter.unusedSimpArgs false
set_option linter.unusedVariables false

def I64 (n : Int) : Prop := -9223372036854775808 ≤ n ∧ n < 9223372036854775808
instance (n : Int) : Decidable (I64 n) := by unfold I64; exact inferInstance
abbrev dU (n : Nat) : DV := .one (.int .u64 (n : Int))

theorem w64_eq (n : Int) : IntKind.i64.wrap n = if n % 18446744073709551616 ≥ 9223372036854775808 then n % 18446744073709551616 - 18446744073709551616 else n % 18446744073709551616 := by
  simp only [IntKind.wrap, IntKind.bits, IntKind.signed]
  simp
theorem u64_eq (n : Int) : IntKind.u64.wrap n = n % 18446744073709551616 := by
  simp only [IntKind.wrap, IntKind.bits, IntKind.signed]
  simp
theorem u64_in {n : Int} (h0 : 0 ≤ n) (h1 : n < 18446744073709551616) : IntKind.u64.wrap n = n := by
  rw [u64_eq]; omega
theorem u64_nat {n : Nat} (h1 : n < 18446744073709551616) : IntKind.u64.wrap (n : Int) = (n : Int) := u64_in (by omega) (by omega)

theorem u64_and {x : Nat} (hx : x < 18446744073709551616) : andZ .u64 (x : Int) 4294967295 = ((x % 4294967296 : Nat) : Int) := by
  unfold andZ
  have e1 : (BitVec.ofInt IntKind.u64.bits (x : Int) &&& BitVec.ofInt IntKind.u64.bits 4294967295).toNat = x % 4294967296 := by
    rw [BitVec.toNat_and]
    have h2 : (BitVec.ofInt IntKind.u64.bits (x : Int)).toNat = x := by
      show (BitVec.ofInt 64 (x : Int)).toNat = x
      rw [BitVec.toNat_ofInt]; omega
    have h3 : (BitVec.ofInt IntKind.u64.bits 4294967295).toNat = 2 ^ 32 - 1 := by decide
    rw [h2, h3, Nat.and_two_pow_sub_one_eq_mod]
  rw [e1, u64_nat (by omega)]

theorem u64_or {x y : Nat} (hx : x < 4294967296) (hy : y < 4294967296) : orZ .u64 ((x * 4294967296 : Nat) : Int) (y : Int) = ((x * 4294967296 + y : Nat) : Int) := by
  unfold orZ
  have e1 : (BitVec.ofInt IntKind.u64.bits ((x * 4294967296 : Nat) : Int) ||| BitVec.ofInt IntKind.u64.bits (y : Int)).toNat = x * 4294967296 + y := by
    rw [BitVec.toNat_or]
    have h2 : (BitVec.ofInt IntKind.u64.bits ((x * 4294967296 : Nat) : Int)).toNat = x * 4294967296 := by
      show (BitVec.ofInt 64 _).toNat = _
      rw [BitVec.toNat_ofInt]; omega
    have h3 : (BitVec.ofInt IntKind.u64.bits (y : Int)).toNat = y := by
      show (BitVec.ofInt 64 _).toNat = _
      rw [BitVec.toNat_ofInt]; omega
    rw [h2, h3]
    have := Nat.shiftLeft_add_eq_or_of_lt (i := 32) (b := y) (by omega) x
    rw [Nat.shiftLeft_eq] at this
    exact this.symm
  rw [e1, u64_nat (by omega)]

theorem shr32 (x : Nat) : shrZ .u64 (x : Int) 32 = ((x / 4294967296 : Nat) : Int) := by
  unfold shrZ
  have : (2 : Int) ^ (min (32 : Int).toNat IntKind.u64.bits) = 4294967296 := by decide
  rw [this, Int.fdiv_eq_ediv_of_nonneg _ (by decide)]
  omega
theorem shl32 (x : Nat) : shlZ .u64 (x : Int) 32 = ((x % 4294967296 * 4294967296 : Nat) : Int) := by
  unfold shlZ
  have : (2 : Int) ^ (min (32 : Int).toNat IntKind.u64.bits) = 4294967296 := by decide
  rw [this, u64_eq]
  omega

def rng (n : Int) : Int × Int := if I64 n then (n, 0) else (0, 10)
def fAdd (a b : Int) : Int × Int := rng (a + b)
def fMul (a b : Int) : Int × Int := rng (a * b / 4294967296)

theorem rng_in {n : Int} (h : I64 n) : rng n = (n, 0) := if_pos h
theorem rng_out {n : Int} (h : ¬ I64 n) : rng n = (0, 10) := if_neg h
theorem rng_range (n : Int) : I64 (rng n).1 := by
  by_cases h : I64 n
  · rw [rng_in h]; exact h
  · rw [rng_out h]; exact ⟨by decide, by decide⟩

theorem p_fix_told (n : Int) (b : Bool) : PureC Try.prog fi_fix_told [dN n, dB b] (dNE (if b then (n, 0) else (0, 10))) := by
  refine pure_fix_told (by simp) fun G hP hn => ?_
  unfold a_fix_told
  cases b
  · repeat' (first | apply T_then | apply then_ret | apply then_exit | apply then_goto | apply rnd_exit | apply rnd_ret | apply rnd_goto | apply noGo_normal | apply noGo_ret | apply noGo_exit | apply jmp_normal | apply jmp_ret | apply jmp_exit | apply jmp_goto | apply inB_normal | apply inB_ret | apply inB_goto | apply inB_exit | refine inB_exit_ne rfl ?_ | ((first | apply T_srK fw | apply T_regK fw); · ((try simp only [TOps.flat, List.cons_append, List.nil_append]); repeat (first | apply X_g0 | apply X_g | apply S_keep | apply X_skip | apply X_skipN | apply X_q | apply X_st | apply X_n | apply X_s | apply SKs0 | apply SKs2 | apply SKs1 | refine ⟨⟨rfl, rfl⟩, ?_⟩ | refine ⟨⟨rfl, ?_⟩, ?_⟩ | refine ⟨?_, ?_⟩ | (· (try simp only [go_sem, seval, reduceIte, ↓reduceIte, Bool.not_eq_true, reduceCtorEq, beq_false, beq_true, hn, hP]); first | done | rfl)))) | apply T_seq | apply T_block | refine T_scopeJ 0 rfl ?_ | apply T_scope | apply T_goto | apply T_ret | apply T_skip | apply T_exit | apply T_label | refine T_condT rfl ?_ | refine T_condF rfl ?_ | refine T_condD rfl (fun _ => ?_) (fun _ => ?_) | refine T_cond rfl (fun _ => ?_) (fun _ => ?_))
    exact ends_ret rfl rfl rfl rfl
  · repeat' (first | apply T_then | apply then_ret | apply then_exit | apply then_goto | apply rnd_exit | apply rnd_ret | apply rnd_goto | apply noGo_normal | apply noGo_ret | apply noGo_exit | apply jmp_normal | apply jmp_ret | apply jmp_exit | apply jmp_goto | apply inB_normal | apply inB_ret | apply inB_goto | apply inB_exit | refine inB_exit_ne rfl ?_ | ((first | apply T_srK fw | apply T_regK fw); · ((try simp only [TOps.flat, List.cons_append, List.nil_append]); repeat (first | apply X_g0 | apply X_g | apply S_keep | apply X_skip | apply X_skipN | apply X_q | apply X_st | apply X_n | apply X_s | apply SKs0 | apply SKs2 | apply SKs1 | refine ⟨⟨rfl, rfl⟩, ?_⟩ | refine ⟨⟨rfl, ?_⟩, ?_⟩ | refine ⟨?_, ?_⟩ | (· (try simp only [go_sem, seval, reduceIte, ↓reduceIte, Bool.not_eq_true, reduceCtorEq, beq_false, beq_true, hn, hP]); first | done | rfl)))) | apply T_seq | apply T_block | refine T_scopeJ 0 rfl ?_ | apply T_scope | apply T_goto | apply T_ret | apply T_skip | apply T_exit | apply T_label | refine T_condT rfl ?_ | refine T_condF rfl ?_ | refine T_condD rfl (fun _ => ?_) (fun _ => ?_) | refine T_cond rfl (fun _ => ?_) (fun _ => ?_))
    exact ends_ret rfl rfl rfl rfl

theorem p_fix_Add {a b : Int} (ha : I64 a) (hb : I64 b) : PureC Try.prog fi_fix_Add [dN a, dN b] (dNE (fAdd a b)) := by
  refine pure_fix_Add (by simp) fun G hP hn => ?_
  unfold a_fix_Add
  have hw := w64_eq (a + b)
  unfold I64 at ha hb
  have k1 : I64 (a + b) → fAdd a b = (IntKind.i64.wrap (a + b), 0) := fun h => by
    rw [wrap_in h.1 h.2]; exact rng_in h
  have k2 : ¬ I64 (a + b) → fAdd a b = (0, 10) := fun h => by
    exact rng_out h
  unfold I64 at k1 k2
  by_cases h1 : a < 0 <;> by_cases h2 : b < 0 <;> by_cases h3 : IntKind.i64.wrap (a + b) < 0
  all_goals
    repeat' (first | apply T_then | apply then_ret | apply then_exit | apply then_goto | apply rnd_exit | apply rnd_ret | apply rnd_goto | apply noGo_normal | apply noGo_ret | apply noGo_exit | apply jmp_normal | apply jmp_ret | apply jmp_exit | apply jmp_goto | apply inB_normal | apply inB_ret | apply inB_goto | apply inB_exit | refine inB_exit_ne rfl ?_ | ((first | apply T_srK fw | apply T_regK fw); · ((try simp only [TOps.flat, List.cons_append, List.nil_append]); repeat (first | apply X_g0 | apply X_g | apply S_keep | apply X_skip | apply X_skipN | refine X_call ?_ ⟨_, _, _, _, _, _, rfl, rfl, rfl, by rw [hP]; exact p_fix_told _ _⟩ ?_ | apply X_q | apply X_st | apply X_n | apply X_s | apply SKs0 | apply SKs2 | apply SKs1 | refine ⟨⟨rfl, rfl⟩, ?_⟩ | refine ⟨⟨rfl, ?_⟩, ?_⟩ | refine ⟨?_, ?_⟩ | (· (try simp only [go_sem, seval, reduceIte, ↓reduceIte, Bool.not_eq_true, reduceCtorEq, beq_false, beq_true, hn, hP, h1, h2, h3]); first | done | rfl)))) | apply T_seq | apply T_block | refine T_scopeJ 0 rfl ?_ | apply T_scope | apply T_goto | apply T_ret | apply T_skip | apply T_exit | apply T_label | refine T_condT rfl ?_ | refine T_condF rfl ?_ | refine T_condD rfl (fun _ => ?_) (fun _ => ?_) | refine T_cond rfl (fun _ => ?_) (fun _ => ?_))
    exact ends_ret rfl rfl rfl (by
      simp only [resD]
      first
        | (rw [k1 (by split at hw <;> omega)]; done)
        | (rw [k2 (by split at hw <;> omega)]; done)
        | (rw [k1 (by split at hw <;> omega)]; rfl)
        | (rw [k2 (by split at hw <;> omega)]; rfl))

theorem p_ref01_Add {a b : Int} (ha : I64 a) (hb : I64 b) : PureC Try.prog fi_fullerref01_Add [dN a, dN b] (dNE (fAdd a b)) := by
  refine pure_fullerref01_Add (by simp) fun G hP hn => ?_
  unfold a_fullerref01_Add
  unfold I64 at ha hb
  by_cases h1 : b > 0
  · have w1 : IntKind.i64.wrap (9223372036854775807 - b) = 9223372036854775807 - b := wrap_in (by omega) (by omega)
    by_cases h2 : a > 9223372036854775807 - b
    · repeat' (first | apply T_then | apply then_ret | apply then_exit | apply then_goto | apply rnd_exit | apply rnd_ret | apply rnd_goto | apply noGo_normal | apply noGo_ret | apply noGo_exit | apply jmp_normal | apply jmp_ret | apply jmp_exit | apply jmp_goto | apply inB_normal | apply inB_ret | apply inB_goto | apply inB_exit | refine inB_exit_ne rfl ?_ | ((first | apply T_srK fw | apply T_regK fw); · ((try simp only [TOps.flat, List.cons_append, List.nil_append]); repeat (first | apply X_g0 | apply X_g | apply S_keep | apply X_skip | apply X_skipN | apply X_q | apply X_st | apply X_n | apply X_s | apply SKs0 | apply SKs2 | apply SKs1 | refine ⟨⟨rfl, rfl⟩, ?_⟩ | refine ⟨⟨rfl, ?_⟩, ?_⟩ | refine ⟨?_, ?_⟩ | (· (try simp only [go_sem, seval, reduceIte, ↓reduceIte, Bool.not_eq_true, reduceCtorEq, beq_false, beq_true, hn, hP, h1, w1, h2]); first | done | rfl)))) | apply T_seq | apply T_block | refine T_scopeJ 0 rfl ?_ | apply T_scope | apply T_goto | apply T_ret | apply T_skip | apply T_exit | apply T_label | refine T_condT rfl ?_ | refine T_condF rfl ?_ | refine T_condD rfl (fun _ => ?_) (fun _ => ?_) | refine T_cond rfl (fun _ => ?_) (fun _ => ?_))
      exact ends_ret rfl rfl rfl (by rw [show fAdd a b = (0, 10) from rng_out (by unfold I64; omega)]; rfl)
    · have hr : I64 (a + b) := ⟨by omega, by omega⟩
      have h3 : ¬ b < 0 := by omega
      have w3 : IntKind.i64.wrap (a + b) = a + b := wrap_in hr.1 hr.2
      repeat' (first | apply T_then | apply then_ret | apply then_exit | apply then_goto | apply rnd_exit | apply rnd_ret | apply rnd_goto | apply noGo_normal | apply noGo_ret | apply noGo_exit | apply jmp_normal | apply jmp_ret | apply jmp_exit | apply jmp_goto | apply inB_normal | apply inB_ret | apply inB_goto | apply inB_exit | refine inB_exit_ne rfl ?_ | ((first | apply T_srK fw | apply T_regK fw); · ((try simp only [TOps.flat, List.cons_append, List.nil_append]); repeat (first | apply X_g0 | apply X_g | apply S_keep | apply X_skip | apply X_skipN | apply X_q | apply X_st | apply X_n | apply X_s | apply SKs0 | apply SKs2 | apply SKs1 | refine ⟨⟨rfl, rfl⟩, ?_⟩ | refine ⟨⟨rfl, ?_⟩, ?_⟩ | refine ⟨?_, ?_⟩ | (· (try simp only [go_sem, seval, reduceIte, ↓reduceIte, Bool.not_eq_true, reduceCtorEq, beq_false, beq_true, hn, hP, h1, w1, h2, h3, w3]); first | done | rfl)))) | apply T_seq | apply T_block | refine T_scopeJ 0 rfl ?_ | apply T_scope | apply T_goto | apply T_ret | apply T_skip | apply T_exit | apply T_label | refine T_condT rfl ?_ | refine T_condF rfl ?_ | refine T_condD rfl (fun _ => ?_) (fun _ => ?_) | refine T_cond rfl (fun _ => ?_) (fun _ => ?_))
      exact ends_ret rfl rfl rfl (by rw [show fAdd a b = (a + b, 0) from rng_in hr]; rfl)
  · by_cases h3 : b < 0
    · have w1 : IntKind.i64.wrap (-9223372036854775808 - b) = -9223372036854775808 - b := wrap_in (by omega) (by omega)
      by_cases h2 : a < -9223372036854775808 - b
      · repeat' (first | apply T_then | apply then_ret | apply then_exit | apply then_goto | apply rnd_exit | apply rnd_ret | apply rnd_goto | apply noGo_normal | apply noGo_ret | apply noGo_exit | apply jmp_normal | apply jmp_ret | apply jmp_exit | apply jmp_goto | apply inB_normal | apply inB_ret | apply inB_goto | apply inB_exit | refine inB_exit_ne rfl ?_ | ((first | apply T_srK fw | apply T_regK fw); · ((try simp only [TOps.flat, List.cons_append, List.nil_append]); repeat (first | apply X_g0 | apply X_g | apply S_keep | apply X_skip | apply X_skipN | apply X_q | apply X_st | apply X_n | apply X_s | apply SKs0 | apply SKs2 | apply SKs1 | refine ⟨⟨rfl, rfl⟩, ?_⟩ | refine ⟨⟨rfl, ?_⟩, ?_⟩ | refine ⟨?_, ?_⟩ | (· (try simp only [go_sem, seval, reduceIte, ↓reduceIte, Bool.not_eq_true, reduceCtorEq, beq_false, beq_true, hn, hP, h1, w1, h2, h3]); first | done | rfl)))) | apply T_seq | apply T_block | refine T_scopeJ 0 rfl ?_ | apply T_scope | apply T_goto | apply T_ret | apply T_skip | apply T_exit | apply T_label | refine T_condT rfl ?_ | refine T_condF rfl ?_ | refine T_condD rfl (fun _ => ?_) (fun _ => ?_) | refine T_cond rfl (fun _ => ?_) (fun _ => ?_))
        exact ends_ret rfl rfl rfl (by rw [show fAdd a b = (0, 10) from rng_out (by unfold I64; omega)]; rfl)
      · have hr : I64 (a + b) := ⟨by omega, by omega⟩
        have w3 : IntKind.i64.wrap (a + b) = a + b := wrap_in hr.1 hr.2
        repeat' (first | apply T_then | apply then_ret | apply then_exit | apply then_goto | apply rnd_exit | apply rnd_ret | apply rnd_goto | apply noGo_normal | apply noGo_ret | apply noGo_exit | apply jmp_normal | apply jmp_ret | apply jmp_exit | apply jmp_goto | apply inB_normal | apply inB_ret | apply inB_goto | apply inB_exit | refine inB_exit_ne rfl ?_ | ((first | apply T_srK fw | apply T_regK fw); · ((try simp only [TOps.flat, List.cons_append, List.nil_append]); repeat (first | apply X_g0 | apply X_g | apply S_keep | apply X_skip | apply X_skipN | apply X_q | apply X_st | apply X_n | apply X_s | apply SKs0 | apply SKs2 | apply SKs1 | refine ⟨⟨rfl, rfl⟩, ?_⟩ | refine ⟨⟨rfl, ?_⟩, ?_⟩ | refine ⟨?_, ?_⟩ | (· (try simp only [go_sem, seval, reduceIte, ↓reduceIte, Bool.not_eq_true, reduceCtorEq, beq_false, beq_true, hn, hP, h1, w1, h2, h3, w3]); first | done | rfl)))) | apply T_seq | apply T_block | refine T_scopeJ 0 rfl ?_ | apply T_scope | apply T_goto | apply T_ret | apply T_skip | apply T_exit | apply T_label | refine T_condT rfl ?_ | refine T_condF rfl ?_ | refine T_condD rfl (fun _ => ?_) (fun _ => ?_) | refine T_cond rfl (fun _ => ?_) (fun _ => ?_))
        exact ends_ret rfl rfl rfl (by rw [show fAdd a b = (a + b, 0) from rng_in hr]; rfl)
    · have hr : I64 (a + b) := ⟨by omega, by omega⟩
      have w3 : IntKind.i64.wrap (a + b) = a + b := wrap_in hr.1 hr.2
      repeat' (first | apply T_then | apply then_ret | apply then_exit | apply then_goto | apply rnd_exit | apply rnd_ret | apply rnd_goto | apply noGo_normal | apply noGo_ret | apply noGo_exit | apply jmp_normal | apply jmp_ret | apply jmp_exit | apply jmp_goto | apply inB_normal | apply inB_ret | apply inB_goto | apply inB_exit | refine inB_exit_ne rfl ?_ | ((first | apply T_srK fw | apply T_regK fw); · ((try simp only [TOps.flat, List.cons_append, List.nil_append]); repeat (first | apply X_g0 | apply X_g | apply S_keep | apply X_skip | apply X_skipN | apply X_q | apply X_st | apply X_n | apply X_s | apply SKs0 | apply SKs2 | apply SKs1 | refine ⟨⟨rfl, rfl⟩, ?_⟩ | refine ⟨⟨rfl, ?_⟩, ?_⟩ | refine ⟨?_, ?_⟩ | (· (try simp only [go_sem, seval, reduceIte, ↓reduceIte, Bool.not_eq_true, reduceCtorEq, beq_false, beq_true, hn, hP, h1, h3, w3]); first | done | rfl)))) | apply T_seq | apply T_block | refine T_scopeJ 0 rfl ?_ | apply T_scope | apply T_goto | apply T_ret | apply T_skip | apply T_exit | apply T_label | refine T_condT rfl ?_ | refine T_condF rfl ?_ | refine T_condD rfl (fun _ => ?_) (fun _ => ?_) | refine T_cond rfl (fun _ => ?_) (fun _ => ?_))
      exact ends_ret rfl rfl rfl (by rw [show fAdd a b = (a + b, 0) from rng_in hr]; rfl)

theorem p_fix_size {a : Int} (ha : I64 a) : PureC Try.prog fi_fix_size [dN a] (dU a.natAbs) := by
  refine pure_fix_size (by simp) fun G hP hn => ?_
  unfold a_fix_size
  unfold I64 at ha
  by_cases h1 : a < 0
  · have w : IntKind.u64.wrap (0 - IntKind.u64.wrap a) = (a.natAbs : Int) := by rw [u64_eq a, u64_eq]; omega
    repeat' (first | apply T_then | apply then_ret | apply then_exit | apply then_goto | apply rnd_exit | apply rnd_ret | apply rnd_goto | apply noGo_normal | apply noGo_ret | apply noGo_exit | apply jmp_normal | apply jmp_ret | apply jmp_exit | apply jmp_goto | apply inB_normal | apply inB_ret | apply inB_goto | apply inB_exit | refine inB_exit_ne rfl ?_ | ((first | apply T_srK fw | apply T_regK fw); · ((try simp only [TOps.flat, List.cons_append, List.nil_append]); repeat (first | apply X_g0 | apply X_g | apply S_keep | apply X_skip | apply X_skipN | apply X_q | apply X_st | apply X_n | apply X_s | apply SKs0 | apply SKs2 | apply SKs1 | refine ⟨⟨rfl, rfl⟩, ?_⟩ | refine ⟨⟨rfl, ?_⟩, ?_⟩ | refine ⟨?_, ?_⟩ | (· (try simp only [go_sem, seval, reduceIte, ↓reduceIte, Bool.not_eq_true, reduceCtorEq, beq_false, beq_true, hn, hP, h1, w]); first | done | rfl)))) | apply T_seq | apply T_block | refine T_scopeJ 0 rfl ?_ | apply T_scope | apply T_goto | apply T_ret | apply T_skip | apply T_exit | apply T_label | refine T_condT rfl ?_ | refine T_condF rfl ?_ | refine T_condD rfl (fun _ => ?_) (fun _ => ?_) | refine T_cond rfl (fun _ => ?_) (fun _ => ?_))
    exact ends_ret rfl rfl rfl rfl
  · have w : IntKind.u64.wrap a = (a.natAbs : Int) := by rw [u64_eq a]; omega
    repeat' (first | apply T_then | apply then_ret | apply then_exit | apply then_goto | apply rnd_exit | apply rnd_ret | apply rnd_goto | apply noGo_normal | apply noGo_ret | apply noGo_exit | apply jmp_normal | apply jmp_ret | apply jmp_exit | apply jmp_goto | apply inB_normal | apply inB_ret | apply inB_goto | apply inB_exit | refine inB_exit_ne rfl ?_ | ((first | apply T_srK fw | apply T_regK fw); · ((try simp only [TOps.flat, List.cons_append, List.nil_append]); repeat (first | apply X_g0 | apply X_g | apply S_keep | apply X_skip | apply X_skipN | apply X_q | apply X_st | apply X_n | apply X_s | apply SKs0 | apply SKs2 | apply SKs1 | refine ⟨⟨rfl, rfl⟩, ?_⟩ | refine ⟨⟨rfl, ?_⟩, ?_⟩ | refine ⟨?_, ?_⟩ | (· (try simp only [go_sem, seval, reduceIte, ↓reduceIte, Bool.not_eq_true, reduceCtorEq, beq_false, beq_true, hn, hP, h1, w]); first | done | rfl)))) | apply T_seq | apply T_block | refine T_scopeJ 0 rfl ?_ | apply T_scope | apply T_goto | apply T_ret | apply T_skip | apply T_exit | apply T_label | refine T_condT rfl ?_ | refine T_condF rfl ?_ | refine T_condD rfl (fun _ => ?_) (fun _ => ?_) | refine T_cond rfl (fun _ => ?_) (fun _ => ?_))
    exact ends_ret rfl rfl rfl rfl

theorem p_ref01_size {a : Int} (ha : I64 a) : PureC Try.prog fi_fullerref01_size [dN a] (dU a.natAbs) := by
  refine pure_fullerref01_size (by simp) fun G hP hn => ?_
  unfold a_fullerref01_size
  unfold I64 at ha
  by_cases h1 : a < 0
  · have w0 : IntKind.i64.wrap (a + 1) = a + 1 := wrap_in (by omega) (by omega)
    have w1 : IntKind.i64.wrap (0 - (a + 1)) = 0 - (a + 1) := wrap_in (by omega) (by omega)
    have w2 : IntKind.u64.wrap (0 - (a + 1)) = 0 - (a + 1) := u64_in (by omega) (by omega)
    have w3 : IntKind.u64.wrap (0 - (a + 1) + 1) = (a.natAbs : Int) := by rw [u64_eq]; omega
    repeat' (first | apply T_then | apply then_ret | apply then_exit | apply then_goto | apply rnd_exit | apply rnd_ret | apply rnd_goto | apply noGo_normal | apply noGo_ret | apply noGo_exit | apply jmp_normal | apply jmp_ret | apply jmp_exit | apply jmp_goto | apply inB_normal | apply inB_ret | apply inB_goto | apply inB_exit | refine inB_exit_ne rfl ?_ | ((first | apply T_srK fw | apply T_regK fw); · ((try simp only [TOps.flat, List.cons_append, List.nil_append]); repeat (first | apply X_g0 | apply X_g | apply S_keep | apply X_skip | apply X_skipN | apply X_q | apply X_st | apply X_n | apply X_s | apply SKs0 | apply SKs2 | apply SKs1 | refine ⟨⟨rfl, rfl⟩, ?_⟩ | refine ⟨⟨rfl, ?_⟩, ?_⟩ | refine ⟨?_, ?_⟩ | (· (try simp only [go_sem, seval, reduceIte, ↓reduceIte, Bool.not_eq_true, reduceCtorEq, beq_false, beq_true, hn, hP, h1, w0, w1, w2, w3]); first | done | rfl)))) | apply T_seq | apply T_block | refine T_scopeJ 0 rfl ?_ | apply T_scope | apply T_goto | apply T_ret | apply T_skip | apply T_exit | apply T_label | refine T_condT rfl ?_ | refine T_condF rfl ?_ | refine T_condD rfl (fun _ => ?_) (fun _ => ?_) | refine T_cond rfl (fun _ => ?_) (fun _ => ?_))
    exact ends_ret rfl rfl rfl rfl
  · have w : IntKind.u64.wrap a = (a.natAbs : Int) := by rw [u64_eq a]; omega
    repeat' (first | apply T_then | apply then_ret | apply then_exit | apply then_goto | apply rnd_exit | apply rnd_ret | apply rnd_goto | apply noGo_normal | apply noGo_ret | apply noGo_exit | apply jmp_normal | apply jmp_ret | apply jmp_exit | apply jmp_goto | apply inB_normal | apply inB_ret | apply inB_goto | apply inB_exit | refine inB_exit_ne rfl ?_ | ((first | apply T_srK fw | apply T_regK fw); · ((try simp only [TOps.flat, List.cons_append, List.nil_append]); repeat (first | apply X_g0 | apply X_g | apply S_keep | apply X_skip | apply X_skipN | apply X_q | apply X_st | apply X_n | apply X_s | apply SKs0 | apply SKs2 | apply SKs1 | refine ⟨⟨rfl, rfl⟩, ?_⟩ | refine ⟨⟨rfl, ?_⟩, ?_⟩ | refine ⟨?_, ?_⟩ | (· (try simp only [go_sem, seval, reduceIte, ↓reduceIte, Bool.not_eq_true, reduceCtorEq, beq_false, beq_true, hn, hP, h1, w]); first | done | rfl)))) | apply T_seq | apply T_block | refine T_scopeJ 0 rfl ?_ | apply T_scope | apply T_goto | apply T_ret | apply T_skip | apply T_exit | apply T_label | refine T_condT rfl ?_ | refine T_condF rfl ?_ | refine T_condD rfl (fun _ => ?_) (fun _ => ?_) | refine T_cond rfl (fun _ => ?_) (fun _ => ?_))
    exact ends_ret rfl rfl rfl rfl

def apart (a b : Int) : Bool := decide (a ≠ 0) && (decide (b ≠ 0) && (decide (a < 0) != decide (b < 0)))

theorem p_fix_apart (a b : Int) : PureC Try.prog fi_fix_apart [dN a, dN b] (dB (apart a b)) := by
  refine pure_fix_apart (by simp) fun G hP hn => ?_
  unfold a_fix_apart
  by_cases h1 : a = 0
  · have h1' : (a != 0) = false := by simp [h1]
    repeat' (first | apply T_then | apply then_ret | apply then_exit | apply then_goto | apply rnd_exit | apply rnd_ret | apply rnd_goto | apply noGo_normal | apply noGo_ret | apply noGo_exit | apply jmp_normal | apply jmp_ret | apply jmp_exit | apply jmp_goto | apply inB_normal | apply inB_ret | apply inB_goto | apply inB_exit | refine inB_exit_ne rfl ?_ | ((first | apply T_srK fw | apply T_regK fw); · ((try simp only [TOps.flat, List.cons_append, List.nil_append]); repeat (first | apply X_g0 | apply X_g | apply S_keep | apply X_skip | apply X_skipN | apply X_q | apply X_st | apply X_n | apply X_s | apply SKs0 | apply SKs2 | apply SKs1 | refine ⟨⟨rfl, rfl⟩, ?_⟩ | refine ⟨⟨rfl, ?_⟩, ?_⟩ | refine ⟨?_, ?_⟩ | (· (try simp only [go_sem, seval, reduceIte, ↓reduceIte, Bool.not_eq_true, reduceCtorEq, beq_false, beq_true, hn, hP, h1']); first | done | rfl)))) | apply T_seq | apply T_block | refine T_scopeJ 0 rfl ?_ | apply T_scope | apply T_goto | apply T_ret | apply T_skip | apply T_exit | apply T_label | refine T_condT rfl ?_ | refine T_condF rfl ?_ | refine T_condD rfl (fun _ => ?_) (fun _ => ?_) | refine T_cond rfl (fun _ => ?_) (fun _ => ?_))
    exact ends_ret rfl rfl rfl (by simp [resD, apart, h1])
  · have h1' : (a != 0) = true := by simp [h1]
    by_cases h2 : b = 0
    · have h2' : (b != 0) = false := by simp [h2]
      repeat' (first | apply T_then | apply then_ret | apply then_exit | apply then_goto | apply rnd_exit | apply rnd_ret | apply rnd_goto | apply noGo_normal | apply noGo_ret | apply noGo_exit | apply jmp_normal | apply jmp_ret | apply jmp_exit | apply jmp_goto | apply inB_normal | apply inB_ret | apply inB_goto | apply inB_exit | refine inB_exit_ne rfl ?_ | ((first | apply T_srK fw | apply T_regK fw); · ((try simp only [TOps.flat, List.cons_append, List.nil_append]); repeat (first | apply X_g0 | apply X_g | apply S_keep | apply X_skip | apply X_skipN | apply X_q | apply X_st | apply X_n | apply X_s | apply SKs0 | apply SKs2 | apply SKs1 | refine ⟨⟨rfl, rfl⟩, ?_⟩ | refine ⟨⟨rfl, ?_⟩, ?_⟩ | refine ⟨?_, ?_⟩ | (· (try simp only [go_sem, seval, reduceIte, ↓reduceIte, Bool.not_eq_true, reduceCtorEq, beq_false, beq_true, hn, hP, h1', h2']); first | done | rfl)))) | apply T_seq | apply T_block | refine T_scopeJ 0 rfl ?_ | apply T_scope | apply T_goto | apply T_ret | apply T_skip | apply T_exit | apply T_label | refine T_condT rfl ?_ | refine T_condF rfl ?_ | refine T_condD rfl (fun _ => ?_) (fun _ => ?_) | refine T_cond rfl (fun _ => ?_) (fun _ => ?_))
      exact ends_ret rfl rfl rfl (by simp [resD, apart, h2])
    · have h2' : (b != 0) = true := by simp [h2]
      by_cases h3 : a < 0 <;> by_cases h4 : b < 0
      all_goals
        repeat' (first | apply T_then | apply then_ret | apply then_exit | apply then_goto | apply rnd_exit | apply rnd_ret | apply rnd_goto | apply noGo_normal | apply noGo_ret | apply noGo_exit | apply jmp_normal | apply jmp_ret | apply jmp_exit | apply jmp_goto | apply inB_normal | apply inB_ret | apply inB_goto | apply inB_exit | refine inB_exit_ne rfl ?_ | ((first | apply T_srK fw | apply T_regK fw); · ((try simp only [TOps.flat, List.cons_append, List.nil_append]); repeat (first | apply X_g0 | apply X_g | apply S_keep | apply X_skip | apply X_skipN | apply X_q | apply X_st | apply X_n | apply X_s | apply SKs0 | apply SKs2 | apply SKs1 | refine ⟨⟨rfl, rfl⟩, ?_⟩ | refine ⟨⟨rfl, ?_⟩, ?_⟩ | refine ⟨?_, ?_⟩ | (· (try simp only [go_sem, seval, reduceIte, ↓reduceIte, Bool.not_eq_true, reduceCtorEq, beq_false, beq_true, hn, hP, h1', h2', h3, h4]); first | done | rfl)))) | apply T_seq | apply T_block | refine T_scopeJ 0 rfl ?_ | apply T_scope | apply T_goto | apply T_ret | apply T_skip | apply T_exit | apply T_label | refine T_condT rfl ?_ | refine T_condF rfl ?_ | refine T_condD rfl (fun _ => ?_) (fun _ => ?_) | refine T_cond rfl (fun _ => ?_) (fun _ => ?_))
        exact ends_ret rfl rfl rfl (by simp [resD, apart, h1, h2, h3, h4])
end Go.AM

namespace Go.AM
open Go Go.Proofs
set_option maxRecDepth 100000
set_option maxHeartbeats 4000000
set_option linter.unusedSimpArgs false
set_option linter.unusedVariables false

abbrev dUU (a b : Nat) : DV := .tup [dU a, dU b]

theorem p_bits_Mul64 {x y : Nat} (hx : x < 18446744073709551616) (hy : y < 18446744073709551616) : PureC Try.prog fi_math_bits_Mul64 [dU x, dU y] (dUU (x * y / 18446744073709551616) (x * y % 18446744073709551616)) := by
  refine pure_math_bits_Mul64 (by simp) fun G hP hn => ?_
  unfold a_math_bits_Mul64
  obtain ⟨l1, l2, l3, l4⟩ := Lib.mul64_hi x y hx hy
  have lq := Lib.half_mul_le (a := x / 4294967296) (b := y % 4294967296) (by omega) (by omega)
  have lr := Lib.half_mul_le (a := x % 4294967296) (b := y / 4294967296) (by omega) (by omega)
  have lp := Lib.half_mul_le (a := x / 4294967296) (b := y / 4294967296) (by omega) (by omega)
  have a1 := u64_and hx
  have a2 := u64_and hy
  have m1 : IntKind.u64.wrap (((x % 4294967296 : Nat) : Int) * ((y % 4294967296 : Nat) : Int)) = ((x % 4294967296 * (y % 4294967296) : Nat) : Int) := by rw [← Int.natCast_mul, u64_nat l1]
  have m2 : IntKind.u64.wrap (((x / 4294967296 : Nat) : Int) * ((y % 4294967296 : Nat) : Int)) = ((x / 4294967296 * (y % 4294967296) : Nat) : Int) := by rw [← Int.natCast_mul, u64_nat (by omega)]
  have m3 : IntKind.u64.wrap (((x % 4294967296 : Nat) : Int) * ((y / 4294967296 : Nat) : Int)) = ((x % 4294967296 * (y / 4294967296) : Nat) : Int) := by rw [← Int.natCast_mul, u64_nat (by omega)]
  have m4 : IntKind.u64.wrap (((x / 4294967296 : Nat) : Int) * ((y / 4294967296 : Nat) : Int)) = ((x / 4294967296 * (y / 4294967296) : Nat) : Int) := by rw [← Int.natCast_mul, u64_nat (by omega)]
  have m5 : IntKind.u64.wrap ((x : Int) * (y : Int)) = ((x * y % 18446744073709551616 : Nat) : Int) := by rw [← Int.natCast_mul, u64_eq]; omega
  have hh : x * y / 18446744073709551616 < 18446744073709551616 := by
    have : x * y ≤ 18446744073709551615 * 18446744073709551615 := Nat.mul_le_mul (by omega) (by omega)
    omega
  generalize x % 4294967296 * (y % 4294967296) = p0 at *
  generalize x / 4294967296 * (y % 4294967296) = p1 at *
  generalize x % 4294967296 * (y / 4294967296) = p2 at *
  generalize x / 4294967296 * (y / 4294967296) = p3 at *
  have s1 : IntKind.u64.wrap ((p1 : Int) + ((p0 / 4294967296 : Nat) : Int)) = ((p1 + p0 / 4294967296 : Nat) : Int) := by rw [← Int.natCast_add, u64_nat l2]
  have a3 := u64_and l2
  have s2 : IntKind.u64.wrap ((((p1 + p0 / 4294967296) % 4294967296 : Nat) : Int) + (p2 : Int)) = (((p1 + p0 / 4294967296) % 4294967296 + p2 : Nat) : Int) := by rw [← Int.natCast_add, u64_nat l3]
  have s3 : IntKind.u64.wrap ((p3 : Int) + (((p1 + p0 / 4294967296) / 4294967296 : Nat) : Int)) = ((p3 + (p1 + p0 / 4294967296) / 4294967296 : Nat) : Int) := by rw [← Int.natCast_add, u64_nat (by omega)]
  have s4 : IntKind.u64.wrap (((p3 + (p1 + p0 / 4294967296) / 4294967296 : Nat) : Int) + ((((p1 + p0 / 4294967296) % 4294967296 + p2) / 4294967296 : Nat) : Int)) = ((x * y / 18446744073709551616 : Nat) : Int) := by
    rw [← Int.natCast_add, l4, u64_nat hh]
  repeat' (first | apply T_then | apply then_ret | apply then_exit | apply then_goto | apply rnd_exit | apply rnd_ret | apply rnd_goto | apply noGo_normal | apply noGo_ret | apply noGo_exit | apply jmp_normal | apply jmp_ret | apply jmp_exit | apply jmp_goto | apply inB_normal | apply inB_ret | apply inB_goto | apply inB_exit | refine inB_exit_ne rfl ?_ | ((first | apply T_srK fw | apply T_regK fw); · ((try simp only [TOps.flat, List.cons_append, List.nil_append]); repeat (first | apply X_g0 | apply X_g | apply S_keep | apply X_skip | apply X_skipN | apply X_q | apply X_st | apply X_n | apply X_s | apply SKs0 | apply SKs2 | apply SKs1 | refine ⟨⟨rfl, rfl⟩, ?_⟩ | refine ⟨⟨rfl, ?_⟩, ?_⟩ | refine ⟨?_, ?_⟩ | (· (try simp only [go_sem, seval, reduceIte, ↓reduceIte, Bool.not_eq_true, reduceCtorEq, beq_false, beq_true, hn, hP, a1, a2, a3, shr32, m1, m2, m3, m4, m5, s1, s2, s3, s4]); first | done | rfl)))) | apply T_seq | apply T_block | refine T_scopeJ 0 rfl ?_ | apply T_scope | apply T_goto | apply T_ret | apply T_skip | apply T_exit | apply T_label | refine T_condT rfl ?_ | refine T_condF rfl ?_ | refine T_condD rfl (fun _ => ?_) (fun _ => ?_) | refine T_cond rfl (fun _ => ?_) (fun _ => ?_))
  exact ends_ret rfl rfl rfl rfl

/-- a number of two words, with a sign, floored, of which something is left, or not -/
def sgn (v : Nat) (rest below : Bool) : Int := if below then -((v : Int) + (if rest then 1 else 0)) else v

theorem m_signed_1 (t h l : Nat) (hl : l < 18446744073709551616) (hh : h < 18446744073709551615) : MutC Try.prog fi_fix_wide_signed_1 [.one (.ptr t 0 1 0)] [(t, .arr true 1 [[.int .u64 (h : Int)], [.int .u64 (l : Int)]])] (.tup [])
    [(t, .arr true 1 [[.int .u64 (((h * 18446744073709551616 + l + 1) / 18446744073709551616 : Nat) : Int)], [.int .u64 (((h * 18446744073709551616 + l + 1) % 18446744073709551616 : Nat) : Int)]])] [] := by
  refine mut_fix_wide_signed_1 (by simp) fun G ex hP hn hfr => ?_
  unfold a_fix_wide_signed_1
  have e1 : (l + 1) % 18446744073709551616 = (h * 18446744073709551616 + l + 1) % 18446744073709551616 := by omega
  have e2 : IntKind.u64.wrap ((h : Int) + (((l + 1) / 18446744073709551616 : Nat) : Int)) = (((h * 18446744073709551616 + l + 1) / 18446744073709551616 : Nat) : Int) := by rw [u64_eq]; omega
  repeat' (first | apply T_then | apply then_ret | apply then_exit | apply then_goto | apply rnd_exit | apply rnd_ret | apply rnd_goto | apply noGo_normal | apply noGo_ret | apply noGo_exit | apply jmp_normal | apply jmp_ret | apply jmp_exit | apply jmp_goto | apply inB_normal | apply inB_ret | apply inB_goto | apply inB_exit | refine inB_exit_ne rfl ?_ | ((first | apply T_srK fw | apply T_regK fw); · ((try simp only [TOps.flat, List.cons_append, List.nil_append]); repeat (first | apply X_g0 | apply X_g | apply S_keep | apply X_skip | apply X_skipN | apply X_q | apply X_st | apply X_n | apply X_s | apply SKs0 | apply SKs2 | apply SKs1 | refine ⟨⟨rfl, rfl⟩, ?_⟩ | refine ⟨⟨rfl, ?_⟩, ?_⟩ | refine ⟨?_, ?_⟩ | (· (try simp only [go_sem, seval, reduceIte, ↓reduceIte, Bool.not_eq_true, reduceCtorEq, beq_false, beq_true, hn, hP, e1, e2, Int.toNat_one, Int.toNat_zero, Nat.reducePow]); first | done | rfl)))) | apply T_seq | apply T_block | refine T_scopeJ 0 rfl ?_ | apply T_scope | apply T_goto | apply T_ret | apply T_skip | apply T_exit | apply T_label | refine T_condT rfl ?_ | refine T_condF rfl ?_ | refine T_condD rfl (fun _ => ?_) (fun _ => ?_) | refine T_cond rfl (fun _ => ?_) (fun _ => ?_))
  exact endsM_normal rfl rfl rfl (by simp [lo]) rfl
end Go.AM

namespace Go.AM
open Go Go.Proofs
set_option maxRecDepth 100000
set_option maxHeartbeats 4000000
set_option linter.unusedSimpArgs false
set_option linter.unusedVariables false

theorem neg_u64 {l : Nat} (h : l ≤ 9223372036854775808) : IntKind.i64.wrap (IntKind.u64.wrap (0 - (l : Int))) = -(l : Int) := by
  rw [u64_eq, w64_eq]; split <;> omega

theorem p_fix_signed {h l : Nat} (hl : l < 18446744073709551616) (hh : h < 18446744073709551615) (rest below : Bool) :
    PureC Try.prog fi_fix_wide_signed [.agg [.int .u64 (h : Int), .int .u64 (l : Int)], dB rest, dB below] (dNE (rng (sgn (h * 18446744073709551616 + l) rest below))) := by
  refine pure_fix_wide_signed (by simp) fun G hP hn => ?_
  unfold a_fix_wide_signed
  have w8 : IntKind.u64.wrap 9223372036854775808 = 9223372036854775808 := by decide
  cases below
  · by_cases h1 : (h : Int) > 0
    · repeat' (first | apply T_then | apply then_ret | apply then_exit | apply then_goto | apply rnd_exit | apply rnd_ret | apply rnd_goto | apply noGo_normal | apply noGo_ret | apply noGo_exit | apply jmp_normal | apply jmp_ret | apply jmp_exit | apply jmp_goto | apply inB_normal | apply inB_ret | apply inB_goto | apply inB_exit | refine inB_exit_ne rfl ?_ | ((first | apply T_srK fw | apply T_regK fw); · ((try simp only [TOps.flat, List.cons_append, List.nil_append]); repeat (first | apply X_g0 | apply X_g | apply S_keep | apply X_skip | apply X_skipN | apply X_q | apply X_st | apply X_n | apply X_s | apply SKs0 | apply SKs2 | apply SKs1 | refine ⟨⟨rfl, rfl⟩, ?_⟩ | refine ⟨⟨rfl, ?_⟩, ?_⟩ | refine ⟨?_, ?_⟩ | (· (try simp only [go_sem, seval, reduceIte, ↓reduceIte, Bool.not_eq_true, reduceCtorEq, beq_false, beq_true, hn, hP, h1]); first | done | rfl)))) | apply T_seq | apply T_block | refine T_scopeJ 0 rfl ?_ | apply T_scope | apply T_goto | apply T_ret | apply T_skip | apply T_exit | apply T_label | refine T_condT rfl ?_ | refine T_condF rfl ?_ | refine T_condD rfl (fun _ => ?_) (fun _ => ?_) | refine T_cond rfl (fun _ => ?_) (fun _ => ?_))
      exact ends_ret rfl rfl rfl (by rw [rng_out (by unfold I64 sgn; simp; omega)]; rfl)
    · by_cases h2 : (l : Int) > 9223372036854775807
      · repeat' (first | apply T_then | apply then_ret | apply then_exit | apply then_goto | apply rnd_exit | apply rnd_ret | apply rnd_goto | apply noGo_normal | apply noGo_ret | apply noGo_exit | apply jmp_normal | apply jmp_ret | apply jmp_exit | apply jmp_goto | apply inB_normal | apply inB_ret | apply inB_goto | apply inB_exit | refine inB_exit_ne rfl ?_ | ((first | apply T_srK fw | apply T_regK fw); · ((try simp only [TOps.flat, List.cons_append, List.nil_append]); repeat (first | apply X_g0 | apply X_g | apply S_keep | apply X_skip | apply X_skipN | apply X_q | apply X_st | apply X_n | apply X_s | apply SKs0 | apply SKs2 | apply SKs1 | refine ⟨⟨rfl, rfl⟩, ?_⟩ | refine ⟨⟨rfl, ?_⟩, ?_⟩ | refine ⟨?_, ?_⟩ | (· (try simp only [go_sem, seval, reduceIte, ↓reduceIte, Bool.not_eq_true, reduceCtorEq, beq_false, beq_true, hn, hP, h1, h2]); first | done | rfl)))) | apply T_seq | apply T_block | refine T_scopeJ 0 rfl ?_ | apply T_scope | apply T_goto | apply T_ret | apply T_skip | apply T_exit | apply T_label | refine T_condT rfl ?_ | refine T_condF rfl ?_ | refine T_condD rfl (fun _ => ?_) (fun _ => ?_) | refine T_cond rfl (fun _ => ?_) (fun _ => ?_))
        exact ends_ret rfl rfl rfl (by rw [rng_out (by unfold I64 sgn; simp; omega)]; rfl)
      · have w1 : IntKind.i64.wrap (l : Int) = (l : Int) := wrap_in (by omega) (by omega)
        repeat' (first | apply T_then | apply then_ret | apply then_exit | apply then_goto | apply rnd_exit | apply rnd_ret | apply rnd_goto | apply noGo_normal | apply noGo_ret | apply noGo_exit | apply jmp_normal | apply jmp_ret | apply jmp_exit | apply jmp_goto | apply inB_normal | apply inB_ret | apply inB_goto | apply inB_exit | refine inB_exit_ne rfl ?_ | ((first | apply T_srK fw | apply T_regK fw); · ((try simp only [TOps.flat, List.cons_append, List.nil_append]); repeat (first | apply X_g0 | apply X_g | apply S_keep | apply X_skip | apply X_skipN | apply X_q | apply X_st | apply X_n | apply X_s | apply SKs0 | apply SKs2 | apply SKs1 | refine ⟨⟨rfl, rfl⟩, ?_⟩ | refine ⟨⟨rfl, ?_⟩, ?_⟩ | refine ⟨?_, ?_⟩ | (· (try simp only [go_sem, seval, reduceIte, ↓reduceIte, Bool.not_eq_true, reduceCtorEq, beq_false, beq_true, hn, hP, h1, h2, w1]); first | done | rfl)))) | apply T_seq | apply T_block | refine T_scopeJ 0 rfl ?_ | apply T_scope | apply T_goto | apply T_ret | apply T_skip | apply T_exit | apply T_label | refine T_condT rfl ?_ | refine T_condF rfl ?_ | refine T_condD rfl (fun _ => ?_) (fun _ => ?_) | refine T_cond rfl (fun _ => ?_) (fun _ => ?_))
        have e : sgn (h * 18446744073709551616 + l) rest false = (l : Int) := by unfold sgn; simp; omega
        exact ends_ret rfl rfl rfl (by rw [e, rng_in (by unfold I64; omega)]; rfl)
  · cases rest
    · by_cases h1 : (h : Int) > 0
      · repeat' (first | apply T_then | apply then_ret | apply then_exit | apply then_goto | apply rnd_exit | apply rnd_ret | apply rnd_goto | apply noGo_normal | apply noGo_ret | apply noGo_exit | apply jmp_normal | apply jmp_ret | apply jmp_exit | apply jmp_goto | apply inB_normal | apply inB_ret | apply inB_goto | apply inB_exit | refine inB_exit_ne rfl ?_ | ((first | apply T_srK fw | apply T_regK fw); · ((try simp only [TOps.flat, List.cons_append, List.nil_append]); repeat (first | apply X_g0 | apply X_g | apply S_keep | apply X_skip | apply X_skipN | apply X_q | apply X_st | apply X_n | apply X_s | apply SKs0 | apply SKs2 | apply SKs1 | refine ⟨⟨rfl, rfl⟩, ?_⟩ | refine ⟨⟨rfl, ?_⟩, ?_⟩ | refine ⟨?_, ?_⟩ | (· (try simp only [go_sem, seval, reduceIte, ↓reduceIte, Bool.not_eq_true, reduceCtorEq, beq_false, beq_true, hn, hP, h1, w8]); first | done | rfl)))) | apply T_seq | apply T_block | refine T_scopeJ 0 rfl ?_ | apply T_scope | apply T_goto | apply T_ret | apply T_skip | apply T_exit | apply T_label | refine T_condT rfl ?_ | refine T_condF rfl ?_ | refine T_condD rfl (fun _ => ?_) (fun _ => ?_) | refine T_cond rfl (fun _ => ?_) (fun _ => ?_))
        exact ends_ret rfl rfl rfl (by rw [rng_out (by unfold I64 sgn; simp; omega)]; rfl)
      · by_cases h2 : (l : Int) > 9223372036854775808
        · repeat' (first | apply T_then | apply then_ret | apply then_exit | apply then_goto | apply rnd_exit | apply rnd_ret | apply rnd_goto | apply noGo_normal | apply noGo_ret | apply noGo_exit | apply jmp_normal | apply jmp_ret | apply jmp_exit | apply jmp_goto | apply inB_normal | apply inB_ret | apply inB_goto | apply inB_exit | refine inB_exit_ne rfl ?_ | ((first | apply T_srK fw | apply T_regK fw); · ((try simp only [TOps.flat, List.cons_append, List.nil_append]); repeat (first | apply X_g0 | apply X_g | apply S_keep | apply X_skip | apply X_skipN | apply X_q | apply X_st | apply X_n | apply X_s | apply SKs0 | apply SKs2 | apply SKs1 | refine ⟨⟨rfl, rfl⟩, ?_⟩ | refine ⟨⟨rfl, ?_⟩, ?_⟩ | refine ⟨?_, ?_⟩ | (· (try simp only [go_sem, seval, reduceIte, ↓reduceIte, Bool.not_eq_true, reduceCtorEq, beq_false, beq_true, hn, hP, h1, h2, w8]); first | done | rfl)))) | apply T_seq | apply T_block | refine T_scopeJ 0 rfl ?_ | apply T_scope | apply T_goto | apply T_ret | apply T_skip | apply T_exit | apply T_label | refine T_condT rfl ?_ | refine T_condF rfl ?_ | refine T_condD rfl (fun _ => ?_) (fun _ => ?_) | refine T_cond rfl (fun _ => ?_) (fun _ => ?_))
          exact ends_ret rfl rfl rfl (by rw [rng_out (by unfold I64 sgn; simp; omega)]; rfl)
        · have w1 := neg_u64 (l := l) (by omega)
          repeat' (first | apply T_then | apply then_ret | apply then_exit | apply then_goto | apply rnd_exit | apply rnd_ret | apply rnd_goto | apply noGo_normal | apply noGo_ret | apply noGo_exit | apply jmp_normal | apply jmp_ret | apply jmp_exit | apply jmp_goto | apply inB_normal | apply inB_ret | apply inB_goto | apply inB_exit | refine inB_exit_ne rfl ?_ | ((first | apply T_srK fw | apply T_regK fw); · ((try simp only [TOps.flat, List.cons_append, List.nil_append]); repeat (first | apply X_g0 | apply X_g | apply S_keep | apply X_skip | apply X_skipN | apply X_q | apply X_st | apply X_n | apply X_s | apply SKs0 | apply SKs2 | apply SKs1 | refine ⟨⟨rfl, rfl⟩, ?_⟩ | refine ⟨⟨rfl, ?_⟩, ?_⟩ | refine ⟨?_, ?_⟩ | (· (try simp only [go_sem, seval, reduceIte, ↓reduceIte, Bool.not_eq_true, reduceCtorEq, beq_false, beq_true, hn, hP, h1, h2, w1, w8]); first | done | rfl)))) | apply T_seq | apply T_block | refine T_scopeJ 0 rfl ?_ | apply T_scope | apply T_goto | apply T_ret | apply T_skip | apply T_exit | apply T_label | refine T_condT rfl ?_ | refine T_condF rfl ?_ | refine T_condD rfl (fun _ => ?_) (fun _ => ?_) | refine T_cond rfl (fun _ => ?_) (fun _ => ?_))
          have e : sgn (h * 18446744073709551616 + l) false true = -(l : Int) := by unfold sgn; simp; omega
          exact ends_ret rfl rfl rfl (by rw [e, rng_in (by unfold I64; omega)]; rfl)
    · have km := m_signed_1 3 h l hl hh
      have hv : (h * 18446744073709551616 + l + 1) / 18446744073709551616 * 18446744073709551616 + (h * 18446744073709551616 + l + 1) % 18446744073709551616 = h * 18446744073709551616 + l + 1 := by omega
      generalize (h * 18446744073709551616 + l + 1) / 18446744073709551616 = h' at km hv
      have hlt : (h * 18446744073709551616 + l + 1) % 18446744073709551616 < 18446744073709551616 := by omega
      generalize (h * 18446744073709551616 + l + 1) % 18446744073709551616 = l' at km hv hlt
      by_cases h1 : (h' : Int) > 0
      · repeat' (first | apply T_then | apply then_ret | apply then_exit | apply then_goto | apply rnd_exit | apply rnd_ret | apply rnd_goto | apply noGo_normal | apply noGo_ret | apply noGo_exit | apply jmp_normal | apply jmp_ret | apply jmp_exit | apply jmp_goto | apply inB_normal | apply inB_ret | apply inB_goto | apply inB_exit | refine inB_exit_ne rfl ?_ | ((first | apply T_srK fw | apply T_regK fw); · ((try simp only [TOps.flat, List.cons_append, List.nil_append]); repeat (first | apply X_g0 | apply X_g | apply S_keep | apply X_skip | apply X_skipN | refine X_callM ?_ (callM_mk rfl rfl (by rw [hP]; exact km) (by simp [lo]) (by simp) (by simp [AS.nr, AV.has, AC.has, AC.has.hasL, AO.nr, lo])) ?_ | apply X_q | apply X_st | apply X_n | apply X_s | apply SKs0 | apply SKs2 | apply SKs1 | refine ⟨⟨rfl, rfl⟩, ?_⟩ | refine ⟨⟨rfl, ?_⟩, ?_⟩ | refine ⟨?_, ?_⟩ | (· (try simp only [go_sem, seval, reduceIte, ↓reduceIte, Bool.not_eq_true, reduceCtorEq, beq_false, beq_true, hn, hP, h1, w8]); first | done | rfl)))) | apply T_seq | apply T_block | refine T_scopeJ 0 rfl ?_ | apply T_scope | apply T_goto | apply T_ret | apply T_skip | apply T_exit | apply T_label | refine T_condT rfl ?_ | refine T_condF rfl ?_ | refine T_condD rfl (fun _ => ?_) (fun _ => ?_) | refine T_cond rfl (fun _ => ?_) (fun _ => ?_))
        exact ends_ret rfl rfl rfl (by rw [rng_out (by unfold I64 sgn; simp; omega)]; rfl)
      · by_cases h2 : (l' : Int) > 9223372036854775808
        · repeat' (first | apply T_then | apply then_ret | apply then_exit | apply then_goto | apply rnd_exit | apply rnd_ret | apply rnd_goto | apply noGo_normal | apply noGo_ret | apply noGo_exit | apply jmp_normal | apply jmp_ret | apply jmp_exit | apply jmp_goto | apply inB_normal | apply inB_ret | apply inB_goto | apply inB_exit | refine inB_exit_ne rfl ?_ | ((first | apply T_srK fw | apply T_regK fw); · ((try simp only [TOps.flat, List.cons_append, List.nil_append]); repeat (first | apply X_g0 | apply X_g | apply S_keep | apply X_skip | apply X_skipN | refine X_callM ?_ (callM_mk rfl rfl (by rw [hP]; exact km) (by simp [lo]) (by simp) (by simp [AS.nr, AV.has, AC.has, AC.has.hasL, AO.nr, lo])) ?_ | apply X_q | apply X_st | apply X_n | apply X_s | apply SKs0 | apply SKs2 | apply SKs1 | refine ⟨⟨rfl, rfl⟩, ?_⟩ | refine ⟨⟨rfl, ?_⟩, ?_⟩ | refine ⟨?_, ?_⟩ | (· (try simp only [go_sem, seval, reduceIte, ↓reduceIte, Bool.not_eq_true, reduceCtorEq, beq_false, beq_true, hn, hP, h1, h2, w8]); first | done | rfl)))) | apply T_seq | apply T_block | refine T_scopeJ 0 rfl ?_ | apply T_scope | apply T_goto | apply T_ret | apply T_skip | apply T_exit | apply T_label | refine T_condT rfl ?_ | refine T_condF rfl ?_ | refine T_condD rfl (fun _ => ?_) (fun _ => ?_) | refine T_cond rfl (fun _ => ?_) (fun _ => ?_))
          exact ends_ret rfl rfl rfl (by rw [rng_out (by unfold I64 sgn; simp; omega)]; rfl)
        · have w1 := neg_u64 (l := l') (by omega)
          repeat' (first | apply T_then | apply then_ret | apply then_exit | apply then_goto | apply rnd_exit | apply rnd_ret | apply rnd_goto | apply noGo_normal | apply noGo_ret | apply noGo_exit | apply jmp_normal | apply jmp_ret | apply jmp_exit | apply jmp_goto | apply inB_normal | apply inB_ret | apply inB_goto | apply inB_exit | refine inB_exit_ne rfl ?_ | ((first | apply T_srK fw | apply T_regK fw); · ((try simp only [TOps.flat, List.cons_append, List.nil_append]); repeat (first | apply X_g0 | apply X_g | apply S_keep | apply X_skip | apply X_skipN | refine X_callM ?_ (callM_mk rfl rfl (by rw [hP]; exact km) (by simp [lo]) (by simp) (by simp [AS.nr, AV.has, AC.has, AC.has.hasL, AO.nr, lo])) ?_ | apply X_q | apply X_st | apply X_n | apply X_s | apply SKs0 | apply SKs2 | apply SKs1 | refine ⟨⟨rfl, rfl⟩, ?_⟩ | refine ⟨⟨rfl, ?_⟩, ?_⟩ | refine ⟨?_, ?_⟩ | (· (try simp only [go_sem, seval, reduceIte, ↓reduceIte, Bool.not_eq_true, reduceCtorEq, beq_false, beq_true, hn, hP, h1, h2, w1, w8]); first | done | rfl)))) | apply T_seq | apply T_block | refine T_scopeJ 0 rfl ?_ | apply T_scope | apply T_goto | apply T_ret | apply T_skip | apply T_exit | apply T_label | refine T_condT rfl ?_ | refine T_condF rfl ?_ | refine T_condD rfl (fun _ => ?_) (fun _ => ?_) | refine T_cond rfl (fun _ => ?_) (fun _ => ?_))
          have e : sgn (h * 18446744073709551616 + l) true true = -(l' : Int) := by unfold sgn; simp; omega
          exact ends_ret rfl rfl rfl (by rw [e, rng_in (by unfold I64; omega)]; rfl)

theorem p_ref01_signed {h l : Nat} (hl : l < 18446744073709551616) (hh : h < 18446744073709551615) (rest below : Bool) :
    PureC Try.prog fi_fullerref01_signed [dU h, dU l, dB rest, dB below] (dNE (rng (sgn (h * 18446744073709551616 + l) rest below))) := by
  refine pure_fullerref01_signed (by simp) fun G hP hn => ?_
  unfold a_fullerref01_signed
  have fin : ∀ (h' l' : Nat), l' < 18446744073709551616 → ∀ v : Int, v = -(((h' * 18446744073709551616 + l' : Nat) : Int)) → rng v =
      if (h' : Int) > 0 then (0, 10) else if (l' : Int) > 9223372036854775808 then (0, 10) else if (l' : Int) = 0 then (0, 0) else (v, 0) := by
    intro h' l' hl' v hv
    split
    · exact rng_out (by unfold I64; omega)
    · split
      · exact rng_out (by unfold I64; omega)
      · split
        · rw [rng_in (by unfold I64; omega), show v = 0 from by omega]
        · exact rng_in (by unfold I64; omega)
  have main : ∀ (h' l' : Nat), l' < 18446744073709551616 → ∀ v : Int, v = -(((h' * 18446744073709551616 + l' : Nat) : Int)) →
      ((h' : Int) > 0 ∧ rng v = (0, 10)) ∨ (¬ (h' : Int) > 0 ∧ (l' : Int) > 9223372036854775808 ∧ rng v = (0, 10)) ∨
      (¬ (h' : Int) > 0 ∧ ¬ (l' : Int) > 9223372036854775808 ∧ ((l' : Int) == 0) = true ∧ rng v = (0, 0)) ∨
      (¬ (h' : Int) > 0 ∧ ¬ (l' : Int) > 9223372036854775808 ∧ ((l' : Int) == 0) = false ∧ rng v = (v, 0) ∧ IntKind.u64.wrap ((l' : Int) - 1) = (l' : Int) - 1 ∧
        IntKind.i64.wrap ((l' : Int) - 1) = (l' : Int) - 1 ∧ IntKind.i64.wrap (0 - ((l' : Int) - 1)) = 0 - ((l' : Int) - 1) ∧ IntKind.i64.wrap (0 - ((l' : Int) - 1) - 1) = v) := by
    intro h' l' hl' v hv
    have := fin h' l' hl' v hv
    by_cases c1 : (h' : Int) > 0
    · rw [if_pos c1] at this; exact .inl ⟨c1, this⟩
    · rw [if_neg c1] at this
      by_cases c2 : (l' : Int) > 9223372036854775808
      · rw [if_pos c2] at this; exact .inr (.inl ⟨c1, c2, this⟩)
      · rw [if_neg c2] at this
        by_cases c3 : (l' : Int) = 0
        · rw [if_pos c3] at this; exact .inr (.inr (.inl ⟨c1, c2, by simpa using c3, this⟩))
        · rw [if_neg c3] at this
          refine .inr (.inr (.inr ⟨c1, c2, by simpa using c3, this, u64_in (by omega) (by omega), wrap_in (by omega) (by omega), wrap_in (by omega) (by omega), ?_⟩))
          rw [wrap_in (by omega) (by omega)]; omega
  cases below
  · by_cases h1 : (h : Int) > 0
    · repeat' (first | apply T_then | apply then_ret | apply then_exit | apply then_goto | apply rnd_exit | apply rnd_ret | apply rnd_goto | apply noGo_normal | apply noGo_ret | apply noGo_exit | apply jmp_normal | apply jmp_ret | apply jmp_exit | apply jmp_goto | apply inB_normal | apply inB_ret | apply inB_goto | apply inB_exit | refine inB_exit_ne rfl ?_ | ((first | apply T_srK fw | apply T_regK fw); · ((try simp only [TOps.flat, List.cons_append, List.nil_append]); repeat (first | apply X_g0 | apply X_g | apply S_keep | apply X_skip | apply X_skipN | apply X_q | apply X_st | apply X_n | apply X_s | apply SKs0 | apply SKs2 | apply SKs1 | refine ⟨⟨rfl, rfl⟩, ?_⟩ | refine ⟨⟨rfl, ?_⟩, ?_⟩ | refine ⟨?_, ?_⟩ | (· (try simp only [go_sem, seval, reduceIte, ↓reduceIte, Bool.not_eq_true, reduceCtorEq, beq_false, beq_true, hn, hP, h1]); first | done | rfl)))) | apply T_seq | apply T_block | refine T_scopeJ 0 rfl ?_ | apply T_scope | apply T_goto | apply T_ret | apply T_skip | apply T_exit | apply T_label | refine T_condT rfl ?_ | refine T_condF rfl ?_ | refine T_condD rfl (fun _ => ?_) (fun _ => ?_) | refine T_cond rfl (fun _ => ?_) (fun _ => ?_))
      exact ends_ret rfl rfl rfl (by rw [rng_out (by unfold I64 sgn; simp; omega)]; rfl)
    · by_cases h2 : (l : Int) > 9223372036854775807
      · repeat' (first | apply T_then | apply then_ret | apply then_exit | apply then_goto | apply rnd_exit | apply rnd_ret | apply rnd_goto | apply noGo_normal | apply noGo_ret | apply noGo_exit | apply jmp_normal | apply jmp_ret | apply jmp_exit | apply jmp_goto | apply inB_normal | apply inB_ret | apply inB_goto | apply inB_exit | refine inB_exit_ne rfl ?_ | ((first | apply T_srK fw | apply T_regK fw); · ((try simp only [TOps.flat, List.cons_append, List.nil_append]); repeat (first | apply X_g0 | apply X_g | apply S_keep | apply X_skip | apply X_skipN | apply X_q | apply X_st | apply X_n | apply X_s | apply SKs0 | apply SKs2 | apply SKs1 | refine ⟨⟨rfl, rfl⟩, ?_⟩ | refine ⟨⟨rfl, ?_⟩, ?_⟩ | refine ⟨?_, ?_⟩ | (· (try simp only [go_sem, seval, reduceIte, ↓reduceIte, Bool.not_eq_true, reduceCtorEq, beq_false, beq_true, hn, hP, h1, h2]); first | done | rfl)))) | apply T_seq | apply T_block | refine T_scopeJ 0 rfl ?_ | apply T_scope | apply T_goto | apply T_ret | apply T_skip | apply T_exit | apply T_label | refine T_condT rfl ?_ | refine T_condF rfl ?_ | refine T_condD rfl (fun _ => ?_) (fun _ => ?_) | refine T_cond rfl (fun _ => ?_) (fun _ => ?_))
        exact ends_ret rfl rfl rfl (by rw [rng_out (by unfold I64 sgn; simp; omega)]; rfl)
      · have w1 : IntKind.i64.wrap (l : Int) = (l : Int) := wrap_in (by omega) (by omega)
        repeat' (first | apply T_then | apply then_ret | apply then_exit | apply then_goto | apply rnd_exit | apply rnd_ret | apply rnd_goto | apply noGo_normal | apply noGo_ret | apply noGo_exit | apply jmp_normal | apply jmp_ret | apply jmp_exit | apply jmp_goto | apply inB_normal | apply inB_ret | apply inB_goto | apply inB_exit | refine inB_exit_ne rfl ?_ | ((first | apply T_srK fw | apply T_regK fw); · ((try simp only [TOps.flat, List.cons_append, List.nil_append]); repeat (first | apply X_g0 | apply X_g | apply S_keep | apply X_skip | apply X_skipN | apply X_q | apply X_st | apply X_n | apply X_s | apply SKs0 | apply SKs2 | apply SKs1 | refine ⟨⟨rfl, rfl⟩, ?_⟩ | refine ⟨⟨rfl, ?_⟩, ?_⟩ | refine ⟨?_, ?_⟩ | (· (try simp only [go_sem, seval, reduceIte, ↓reduceIte, Bool.not_eq_true, reduceCtorEq, beq_false, beq_true, hn, hP, h1, h2, w1]); first | done | rfl)))) | apply T_seq | apply T_block | refine T_scopeJ 0 rfl ?_ | apply T_scope | apply T_goto | apply T_ret | apply T_skip | apply T_exit | apply T_label | refine T_condT rfl ?_ | refine T_condF rfl ?_ | refine T_condD rfl (fun _ => ?_) (fun _ => ?_) | refine T_cond rfl (fun _ => ?_) (fun _ => ?_))
        have e : sgn (h * 18446744073709551616 + l) rest false = (l : Int) := by unfold sgn; simp; omega
        exact ends_ret rfl rfl rfl (by rw [e, rng_in (by unfold I64; omega)]; rfl)
  · cases rest
    · have hm := main h l hl (sgn (h * 18446744073709551616 + l) false true) (by unfold sgn; simp)
      rcases hm with ⟨c1, hr⟩ | ⟨c1, c2, hr⟩ | ⟨c1, c2, c3, hr⟩ | ⟨c1, c2, c3, hr, w1, w2, w3, w4⟩
      · repeat' (first | apply T_then | apply then_ret | apply then_exit | apply then_goto | apply rnd_exit | apply rnd_ret | apply rnd_goto | apply noGo_normal | apply noGo_ret | apply noGo_exit | apply jmp_normal | apply jmp_ret | apply jmp_exit | apply jmp_goto | apply inB_normal | apply inB_ret | apply inB_goto | apply inB_exit | refine inB_exit_ne rfl ?_ | ((first | apply T_srK fw | apply T_regK fw); · ((try simp only [TOps.flat, List.cons_append, List.nil_append]); repeat (first | apply X_g0 | apply X_g | apply S_keep | apply X_skip | apply X_skipN | apply X_q | apply X_st | apply X_n | apply X_s | apply SKs0 | apply SKs2 | apply SKs1 | refine ⟨⟨rfl, rfl⟩, ?_⟩ | refine ⟨⟨rfl, ?_⟩, ?_⟩ | refine ⟨?_, ?_⟩ | (· (try simp only [go_sem, seval, reduceIte, ↓reduceIte, Bool.not_eq_true, reduceCtorEq, beq_false, beq_true, hn, hP, c1]); first | done | rfl)))) | apply T_seq | apply T_block | refine T_scopeJ 0 rfl ?_ | apply T_scope | apply T_goto | apply T_ret | apply T_skip | apply T_exit | apply T_label | refine T_condT rfl ?_ | refine T_condF rfl ?_ | refine T_condD rfl (fun _ => ?_) (fun _ => ?_) | refine T_cond rfl (fun _ => ?_) (fun _ => ?_))
        exact ends_ret rfl rfl rfl (by rw [hr]; rfl)
      · repeat' (first | apply T_then | apply then_ret | apply then_exit | apply then_goto | apply rnd_exit | apply rnd_ret | apply rnd_goto | apply noGo_normal | apply noGo_ret | apply noGo_exit | apply jmp_normal | apply jmp_ret | apply jmp_exit | apply jmp_goto | apply inB_normal | apply inB_ret | apply inB_goto | apply inB_exit | refine inB_exit_ne rfl ?_ | ((first | apply T_srK fw | apply T_regK fw); · ((try simp only [TOps.flat, List.cons_append, List.nil_append]); repeat (first | apply X_g0 | apply X_g | apply S_keep | apply X_skip | apply X_skipN | apply X_q | apply X_st | apply X_n | apply X_s | apply SKs0 | apply SKs2 | apply SKs1 | refine ⟨⟨rfl, rfl⟩, ?_⟩ | refine ⟨⟨rfl, ?_⟩, ?_⟩ | refine ⟨?_, ?_⟩ | (· (try simp only [go_sem, seval, reduceIte, ↓reduceIte, Bool.not_eq_true, reduceCtorEq, beq_false, beq_true, hn, hP, c1, c2]); first | done | rfl)))) | apply T_seq | apply T_block | refine T_scopeJ 0 rfl ?_ | apply T_scope | apply T_goto | apply T_ret | apply T_skip | apply T_exit | apply T_label | refine T_condT rfl ?_ | refine T_condF rfl ?_ | refine T_condD rfl (fun _ => ?_) (fun _ => ?_) | refine T_cond rfl (fun _ => ?_) (fun _ => ?_))
        exact ends_ret rfl rfl rfl (by rw [hr]; rfl)
      · repeat' (first | apply T_then | apply then_ret | apply then_exit | apply then_goto | apply rnd_exit | apply rnd_ret | apply rnd_goto | apply noGo_normal | apply noGo_ret | apply noGo_exit | apply jmp_normal | apply jmp_ret | apply jmp_exit | apply jmp_goto | apply inB_normal | apply inB_ret | apply inB_goto | apply inB_exit | refine inB_exit_ne rfl ?_ | ((first | apply T_srK fw | apply T_regK fw); · ((try simp only [TOps.flat, List.cons_append, List.nil_append]); repeat (first | apply X_g0 | apply X_g | apply S_keep | apply X_skip | apply X_skipN | apply X_q | apply X_st | apply X_n | apply X_s | apply SKs0 | apply SKs2 | apply SKs1 | refine ⟨⟨rfl, rfl⟩, ?_⟩ | refine ⟨⟨rfl, ?_⟩, ?_⟩ | refine ⟨?_, ?_⟩ | (· (try simp only [go_sem, seval, reduceIte, ↓reduceIte, Bool.not_eq_true, reduceCtorEq, beq_false, beq_true, hn, hP, c1, c2, c3]); first | done | rfl)))) | apply T_seq | apply T_block | refine T_scopeJ 0 rfl ?_ | apply T_scope | apply T_goto | apply T_ret | apply T_skip | apply T_exit | apply T_label | refine T_condT rfl ?_ | refine T_condF rfl ?_ | refine T_condD rfl (fun _ => ?_) (fun _ => ?_) | refine T_cond rfl (fun _ => ?_) (fun _ => ?_))
        exact ends_ret rfl rfl rfl (by rw [hr]; rfl)
      · repeat' (first | apply T_then | apply then_ret | apply then_exit | apply then_goto | apply rnd_exit | apply rnd_ret | apply rnd_goto | apply noGo_normal | apply noGo_ret | apply noGo_exit | apply jmp_normal | apply jmp_ret | apply jmp_exit | apply jmp_goto | apply inB_normal | apply inB_ret | apply inB_goto | apply inB_exit | refine inB_exit_ne rfl ?_ | ((first | apply T_srK fw | apply T_regK fw); · ((try simp only [TOps.flat, List.cons_append, List.nil_append]); repeat (first | apply X_g0 | apply X_g | apply S_keep | apply X_skip | apply X_skipN | apply X_q | apply X_st | apply X_n | apply X_s | apply SKs0 | apply SKs2 | apply SKs1 | refine ⟨⟨rfl, rfl⟩, ?_⟩ | refine ⟨⟨rfl, ?_⟩, ?_⟩ | refine ⟨?_, ?_⟩ | (· (try simp only [go_sem, seval, reduceIte, ↓reduceIte, Bool.not_eq_true, reduceCtorEq, beq_false, beq_true, hn, hP, c1, c2, c3, w1, w2, w3, w4]); first | done | rfl)))) | apply T_seq | apply T_block | refine T_scopeJ 0 rfl ?_ | apply T_scope | apply T_goto | apply T_ret | apply T_skip | apply T_exit | apply T_label | refine T_condT rfl ?_ | refine T_condF rfl ?_ | refine T_condD rfl (fun _ => ?_) (fun _ => ?_) | refine T_cond rfl (fun _ => ?_) (fun _ => ?_))
        exact ends_ret rfl rfl rfl (by rw [hr]; rfl)
    · by_cases hl1 : l + 1 = 18446744073709551616
      · have w0 : IntKind.u64.wrap ((l : Int) + 1) = 0 := by rw [u64_eq]; omega
        have w00 : IntKind.u64.wrap ((h : Int) + 1) = ((h + 1 : Nat) : Int) := by rw [u64_eq]; omega
        have c1 : ((h + 1 : Nat) : Int) > 0 := by omega
        repeat' (first | apply T_then | apply then_ret | apply then_exit | apply then_goto | apply rnd_exit | apply rnd_ret | apply rnd_goto | apply noGo_normal | apply noGo_ret | apply noGo_exit | apply jmp_normal | apply jmp_ret | apply jmp_exit | apply jmp_goto | apply inB_normal | apply inB_ret | apply inB_goto | apply inB_exit | refine inB_exit_ne rfl ?_ | ((first | apply T_srK fw | apply T_regK fw); · ((try simp only [TOps.flat, List.cons_append, List.nil_append]); repeat (first | apply X_g0 | apply X_g | apply S_keep | apply X_skip | apply X_skipN | apply X_q | apply X_st | apply X_n | apply X_s | apply SKs0 | apply SKs2 | apply SKs1 | refine ⟨⟨rfl, rfl⟩, ?_⟩ | refine ⟨⟨rfl, ?_⟩, ?_⟩ | refine ⟨?_, ?_⟩ | (· (try simp only [go_sem, seval, reduceIte, ↓reduceIte, Bool.not_eq_true, reduceCtorEq, beq_false, beq_true, hn, hP, w0, w00, c1]); first | done | rfl)))) | apply T_seq | apply T_block | refine T_scopeJ 0 rfl ?_ | apply T_scope | apply T_goto | apply T_ret | apply T_skip | apply T_exit | apply T_label | refine T_condT rfl ?_ | refine T_condF rfl ?_ | refine T_condD rfl (fun _ => ?_) (fun _ => ?_) | refine T_cond rfl (fun _ => ?_) (fun _ => ?_))
        exact ends_ret rfl rfl rfl (by rw [rng_out (by unfold I64 sgn; simp; omega)]; rfl)
      · have w0 : IntKind.u64.wrap ((l : Int) + 1) = ((l + 1 : Nat) : Int) := by rw [u64_eq]; omega
        have c0 : (((l + 1 : Nat) : Int) == 0) = false := by simp; omega
        have hm := main h (l + 1) (by omega) (sgn (h * 18446744073709551616 + l) true true) (by unfold sgn; simp; omega)
        rcases hm with ⟨c1, hr⟩ | ⟨c1, c2, hr⟩ | ⟨c1, c2, c3, hr⟩ | ⟨c1, c2, c3, hr, w1, w2, w3, w4⟩
        · repeat' (first | apply T_then | apply then_ret | apply then_exit | apply then_goto | apply rnd_exit | apply rnd_ret | apply rnd_goto | apply noGo_normal | apply noGo_ret | apply noGo_exit | apply jmp_normal | apply jmp_ret | apply jmp_exit | apply jmp_goto | apply inB_normal | apply inB_ret | apply inB_goto | apply inB_exit | refine inB_exit_ne rfl ?_ | ((first | apply T_srK fw | apply T_regK fw); · ((try simp only [TOps.flat, List.cons_append, List.nil_append]); repeat (first | apply X_g0 | apply X_g | apply S_keep | apply X_skip | apply X_skipN | apply X_q | apply X_st | apply X_n | apply X_s | apply SKs0 | apply SKs2 | apply SKs1 | refine ⟨⟨rfl, rfl⟩, ?_⟩ | refine ⟨⟨rfl, ?_⟩, ?_⟩ | refine ⟨?_, ?_⟩ | (· (try simp only [go_sem, seval, reduceIte, ↓reduceIte, Bool.not_eq_true, reduceCtorEq, beq_false, beq_true, hn, hP, w0, c0, c1]); first | done | rfl)))) | apply T_seq | apply T_block | refine T_scopeJ 0 rfl ?_ | apply T_scope | apply T_goto | apply T_ret | apply T_skip | apply T_exit | apply T_label | refine T_condT rfl ?_ | refine T_condF rfl ?_ | refine T_condD rfl (fun _ => ?_) (fun _ => ?_) | refine T_cond rfl (fun _ => ?_) (fun _ => ?_))
          exact ends_ret rfl rfl rfl (by rw [hr]; rfl)
        · repeat' (first | apply T_then | apply then_ret | apply then_exit | apply then_goto | apply rnd_exit | apply rnd_ret | apply rnd_goto | apply noGo_normal | apply noGo_ret | apply noGo_exit | apply jmp_normal | apply jmp_ret | apply jmp_exit | apply jmp_goto | apply inB_normal | apply inB_ret | apply inB_goto | apply inB_exit | refine inB_exit_ne rfl ?_ | ((first | apply T_srK fw | apply T_regK fw); · ((try simp only [TOps.flat, List.cons_append, List.nil_append]); repeat (first | apply X_g0 | apply X_g | apply S_keep | apply X_skip | apply X_skipN | apply X_q | apply X_st | apply X_n | apply X_s | apply SKs0 | apply SKs2 | apply SKs1 | refine ⟨⟨rfl, rfl⟩, ?_⟩ | refine ⟨⟨rfl, ?_⟩, ?_⟩ | refine ⟨?_, ?_⟩ | (· (try simp only [go_sem, seval, reduceIte, ↓reduceIte, Bool.not_eq_true, reduceCtorEq, beq_false, beq_true, hn, hP, w0, c0, c1, c2]); first | done | rfl)))) | apply T_seq | apply T_block | refine T_scopeJ 0 rfl ?_ | apply T_scope | apply T_goto | apply T_ret | apply T_skip | apply T_exit | apply T_label | refine T_condT rfl ?_ | refine T_condF rfl ?_ | refine T_condD rfl (fun _ => ?_) (fun _ => ?_) | refine T_cond rfl (fun _ => ?_) (fun _ => ?_))
          exact ends_ret rfl rfl rfl (by rw [hr]; rfl)
        · rw [c0] at c3; cases c3
        · repeat' (first | apply T_then | apply then_ret | apply then_exit | apply then_goto | apply rnd_exit | apply rnd_ret | apply rnd_goto | apply noGo_normal | apply noGo_ret | apply noGo_exit | apply jmp_normal | apply jmp_ret | apply jmp_exit | apply jmp_goto | apply inB_normal | apply inB_ret | apply inB_goto | apply inB_exit | refine inB_exit_ne rfl ?_ | ((first | apply T_srK fw | apply T_regK fw); · ((try simp only [TOps.flat, List.cons_append, List.nil_append]); repeat (first | apply X_g0 | apply X_g | apply S_keep | apply X_skip | apply X_skipN | apply X_q | apply X_st | apply X_n | apply X_s | apply SKs0 | apply SKs2 | apply SKs1 | refine ⟨⟨rfl, rfl⟩, ?_⟩ | refine ⟨⟨rfl, ?_⟩, ?_⟩ | refine ⟨?_, ?_⟩ | (· (try simp only [go_sem, seval, reduceIte, ↓reduceIte, Bool.not_eq_true, reduceCtorEq, beq_false, beq_true, hn, hP, w0, c0, c1, c2, c3, w1, w2, w3, w4]); first | done | rfl)))) | apply T_seq | apply T_block | refine T_scopeJ 0 rfl ?_ | apply T_scope | apply T_goto | apply T_ret | apply T_skip | apply T_exit | apply T_label | refine T_condT rfl ?_ | refine T_condF rfl ?_ | refine T_condD rfl (fun _ => ?_) (fun _ => ?_) | refine T_cond rfl (fun _ => ?_) (fun _ => ?_))
          exact ends_ret rfl rfl rfl (by rw [hr]; rfl)
end Go.AM

namespace Go.AM
open Go Go.Proofs
set_option maxRecDepth 100000
set_option maxHeartbeats 4000000
set_option linter.unusedSimpArgs false
set_option linter.unusedVariables false

theorem apart_mul {a b : Int} : (apart a b = true → a * b = -((a.natAbs * b.natAbs : Nat) : Int)) ∧ (apart a b = false → a * b = ((a.natAbs * b.natAbs : Nat) : Int)) := by
  unfold apart
  have h := Int.natAbs_mul a b
  rcases Int.lt_trichotomy a 0 with ha | rfl | ha
  · rcases Int.lt_trichotomy b 0 with hb | rfl | hb
    · have := Int.mul_pos_of_neg_of_neg ha hb
      exact ⟨fun h => by simp [ha, hb] at h, fun _ => by rw [← h]; omega⟩
    · simp
    · have := Int.mul_neg_of_neg_of_pos ha hb
      exact ⟨fun _ => by rw [← h]; omega, fun h => by simp [ha] at h; omega⟩
  · simp
  · rcases Int.lt_trichotomy b 0 with hb | rfl | hb
    · have := Int.mul_neg_of_pos_of_neg ha hb
      exact ⟨fun _ => by rw [← h]; omega, fun h => by simp [hb] at h; omega⟩
    · simp
    · have := Int.mul_pos ha hb
      exact ⟨fun h => by simp at h; omega, fun _ => by rw [← h]; omega⟩

theorem mul_sgn (a b : Int) : sgn (a.natAbs * b.natAbs / 4294967296) (decide (a.natAbs * b.natAbs % 4294967296 ≠ 0)) (apart a b) = a * b / 4294967296 := by
  have h := apart_mul (a := a) (b := b)
  generalize a.natAbs * b.natAbs = m at *
  cases hp : apart a b
  · rw [h.2 hp]; unfold sgn; simp
  · rw [h.1 hp]; unfold sgn
    by_cases h0 : m % 4294967296 = 0
    · simp [h0]; omega
    · simp [h0]; omega

theorem abs_lt {a : Int} (ha : I64 a) : a.natAbs ≤ 9223372036854775808 := by unfold I64 at ha; omega

theorem p_fix_Mul {a b : Int} (ha : I64 a) (hb : I64 b) : PureC Try.prog fi_fix_Mul [dN a, dN b] (dNE (fMul a b)) := by
  refine pure_fix_Mul (by simp) fun G hP hn => ?_
  unfold a_fix_Mul
  have la := abs_lt ha
  have lb := abs_lt hb
  have km := p_bits_Mul64 (x := a.natAbs) (y := b.natAbs) (by omega) (by omega)
  have hm : a.natAbs * b.natAbs ≤ 9223372036854775808 * 9223372036854775808 := Nat.mul_le_mul la lb
  have e1 : ∀ m : Nat, m ≤ 9223372036854775808 * 9223372036854775808 → (m / 18446744073709551616) / 4294967296 * 18446744073709551616 + ((m / 18446744073709551616) % 4294967296 * 4294967296 + m % 18446744073709551616 / 4294967296) = m / 4294967296 := by
    intro m hm; omega
  have e1 := e1 _ hm
  have hs := mul_sgn a b
  have e2 : (decide (a.natAbs * b.natAbs % 4294967296 ≠ 0)) = (((a.natAbs * b.natAbs % 18446744073709551616 % 4294967296 : Nat) : Int) != 0) := by
    rw [Bool.eq_iff_iff]; simp; omega
  have ks : PureC Try.prog fi_fix_wide_signed [.agg [.int .u64 ((a.natAbs * b.natAbs / 18446744073709551616 / 4294967296 : Nat) : Int), .int .u64 ((a.natAbs * b.natAbs / 18446744073709551616 % 4294967296 * 4294967296 + a.natAbs * b.natAbs % 18446744073709551616 / 4294967296 : Nat) : Int)],
      dB (((a.natAbs * b.natAbs % 18446744073709551616 % 4294967296 : Nat) : Int) != 0), dB (apart a b)] (dNE (fMul a b)) := by
    have := p_fix_signed (h := a.natAbs * b.natAbs / 18446744073709551616 / 4294967296) (l := a.natAbs * b.natAbs / 18446744073709551616 % 4294967296 * 4294967296 + a.natAbs * b.natAbs % 18446744073709551616 / 4294967296) (by omega) (by omega)
      (((a.natAbs * b.natAbs % 18446744073709551616 % 4294967296 : Nat) : Int) != 0) (apart a b)
    rw [e1, ← e2, hs] at this
    rw [← e2]
    exact this
  have a1 := u64_and (x := a.natAbs * b.natAbs % 18446744073709551616) (by omega)
  have o1 := u64_or (x := a.natAbs * b.natAbs / 18446744073709551616 % 4294967296) (y := a.natAbs * b.natAbs % 18446744073709551616 / 4294967296) (by omega) (by omega)
  generalize a.natAbs * b.natAbs = m at *
  repeat' (first | apply T_then | apply then_ret | apply then_exit | apply then_goto | apply rnd_exit | apply rnd_ret | apply rnd_goto | apply noGo_normal | apply noGo_ret | apply noGo_exit | apply jmp_normal | apply jmp_ret | apply jmp_exit | apply jmp_goto | apply inB_normal | apply inB_ret | apply inB_goto | apply inB_exit | refine inB_exit_ne rfl ?_ | ((first | apply T_srK fw | apply T_regK fw); · ((try simp only [TOps.flat, List.cons_append, List.nil_append]); repeat (first | apply X_g0 | apply X_g | apply S_keep | apply X_skip | apply X_skipN | refine X_call ?_ ⟨_, _, _, _, _, _, rfl, rfl, rfl, by rw [hP]; exact p_fix_size ha⟩ ?_ | refine X_call ?_ ⟨_, _, _, _, _, _, rfl, rfl, rfl, by rw [hP]; exact p_fix_size hb⟩ ?_ | refine X_call ?_ ⟨_, _, _, _, _, _, rfl, rfl, rfl, by rw [hP]; exact km⟩ ?_ | refine X_call ?_ ⟨_, _, _, _, _, _, rfl, rfl, rfl, by rw [hP]; exact p_fix_apart _ _⟩ ?_ | refine X_call ?_ ⟨_, _, _, _, _, _, rfl, rfl, rfl, by rw [hP]; exact ks⟩ ?_ | apply X_q | apply X_st | apply X_n | apply X_s | apply SKs0 | apply SKs2 | apply SKs1 | refine ⟨⟨rfl, rfl⟩, ?_⟩ | refine ⟨⟨rfl, ?_⟩, ?_⟩ | refine ⟨?_, ?_⟩ | (· (try simp only [go_sem, seval, reduceIte, ↓reduceIte, Bool.not_eq_true, reduceCtorEq, beq_false, beq_true, hn, hP, shr32, shl32, a1, o1]); first | done | rfl)))) | apply T_seq | apply T_block | refine T_scopeJ 0 rfl ?_ | apply T_scope | apply T_goto | apply T_ret | apply T_skip | apply T_exit | apply T_label | refine T_condT rfl ?_ | refine T_condF rfl ?_ | refine T_condD rfl (fun _ => ?_) (fun _ => ?_) | refine T_cond rfl (fun _ => ?_) (fun _ => ?_))
  exact ends_ret rfl rfl rfl rfl

theorem p_ref01_Wide {x y : Nat} (hx : x < 18446744073709551616) (hy : y < 18446744073709551616) : PureC Try.prog fi_fullerref01_Wide [dU x, dU y] (dUU (x * y / 18446744073709551616) (x * y % 18446744073709551616)) := by
  refine pure_fullerref01_Wide (by simp) fun G hP hn => ?_
  unfold a_fullerref01_Wide
  have l1 := Lib.half_mul_le (a := x % 4294967296) (b := y % 4294967296) (by omega) (by omega)
  have l2 := Lib.half_mul_le (a := x / 4294967296) (b := y % 4294967296) (by omega) (by omega)
  have l3 := Lib.half_mul_le (a := x % 4294967296) (b := y / 4294967296) (by omega) (by omega)
  have l4 := Lib.half_mul_le (a := x / 4294967296) (b := y / 4294967296) (by omega) (by omega)
  have hh : x * y / 18446744073709551616 < 18446744073709551616 := by
    have : x * y ≤ 18446744073709551615 * 18446744073709551615 := Nat.mul_le_mul (by omega) (by omega)
    omega
  have e : x * y = (x / 4294967296) * (y / 4294967296) * (4294967296 * 4294967296) + ((x / 4294967296) * (y % 4294967296) + (x % 4294967296) * (y / 4294967296)) * 4294967296 + (x % 4294967296) * (y % 4294967296) := by
    rw [← Lib.split_mul, Nat.div_add_mod' x 4294967296, Nat.div_add_mod' y 4294967296]
  have d1 : ∀ z : Nat, (z : Int).tmod 4294967296 = ((z % 4294967296 : Nat) : Int) := fun z => by rw [Int.tmod_eq_emod_of_nonneg (by omega)]; omega
  have d2 : ∀ z : Nat, z < 18446744073709551616 → IntKind.u64.wrap ((z : Int).tdiv 4294967296) = ((z / 4294967296 : Nat) : Int) := fun z hz => by rw [Int.tdiv_eq_ediv_of_nonneg (by omega), u64_in (by omega) (by omega)]; omega
  have m1 : IntKind.u64.wrap (((x % 4294967296 : Nat) : Int) * ((y % 4294967296 : Nat) : Int)) = ((x % 4294967296 * (y % 4294967296) : Nat) : Int) := by rw [← Int.natCast_mul, u64_nat (by omega)]
  have m2 : IntKind.u64.wrap (((x / 4294967296 : Nat) : Int) * ((y % 4294967296 : Nat) : Int)) = ((x / 4294967296 * (y % 4294967296) : Nat) : Int) := by rw [← Int.natCast_mul, u64_nat (by omega)]
  have m3 : IntKind.u64.wrap (((x % 4294967296 : Nat) : Int) * ((y / 4294967296 : Nat) : Int)) = ((x % 4294967296 * (y / 4294967296) : Nat) : Int) := by rw [← Int.natCast_mul, u64_nat (by omega)]
  have m4 : IntKind.u64.wrap (((x / 4294967296 : Nat) : Int) * ((y / 4294967296 : Nat) : Int)) = ((x / 4294967296 * (y / 4294967296) : Nat) : Int) := by rw [← Int.natCast_mul, u64_nat (by omega)]
  have dx := d2 x hx
  have dy := d2 y hy
  generalize x % 4294967296 * (y % 4294967296) = p0 at *
  generalize x / 4294967296 * (y % 4294967296) = p1 at *
  generalize x % 4294967296 * (y / 4294967296) = p2 at *
  generalize x / 4294967296 * (y / 4294967296) = p3 at *
  have d3 := d2 p0 (by omega)
  have d4 := d2 p1 (by omega)
  have d5 := d2 p2 (by omega)
  have s1 : IntKind.u64.wrap (((p0 / 4294967296 : Nat) : Int) + ((p1 % 4294967296 : Nat) : Int)) = ((p0 / 4294967296 + p1 % 4294967296 : Nat) : Int) := by rw [← Int.natCast_add, u64_nat (by omega)]
  have s2 : IntKind.u64.wrap (((p0 / 4294967296 + p1 % 4294967296 : Nat) : Int) + ((p2 % 4294967296 : Nat) : Int)) = ((p0 / 4294967296 + p1 % 4294967296 + p2 % 4294967296 : Nat) : Int) := by rw [← Int.natCast_add, u64_nat (by omega)]
  have d6 := d2 (p0 / 4294967296 + p1 % 4294967296 + p2 % 4294967296) (by omega)
  have d7 := d1 (p0 / 4294967296 + p1 % 4294967296 + p2 % 4294967296)
  generalize hmid : p0 / 4294967296 + p1 % 4294967296 + p2 % 4294967296 = mid at *
  have s3 : IntKind.u64.wrap ((p3 : Int) + ((p1 / 4294967296 : Nat) : Int)) = ((p3 + p1 / 4294967296 : Nat) : Int) := by rw [← Int.natCast_add, u64_nat (by omega)]
  have s4 : IntKind.u64.wrap (((p3 + p1 / 4294967296 : Nat) : Int) + ((p2 / 4294967296 : Nat) : Int)) = ((p3 + p1 / 4294967296 + p2 / 4294967296 : Nat) : Int) := by rw [← Int.natCast_add, u64_nat (by omega)]
  have s5 : IntKind.u64.wrap (((p3 + p1 / 4294967296 + p2 / 4294967296 : Nat) : Int) + ((mid / 4294967296 : Nat) : Int)) = ((x * y / 18446744073709551616 : Nat) : Int) := by
    rw [← Int.natCast_add]
    have : p3 + p1 / 4294967296 + p2 / 4294967296 + mid / 4294967296 = x * y / 18446744073709551616 := by omega
    rw [this, u64_nat hh]
  have s6 : IntKind.u64.wrap (((mid % 4294967296 : Nat) : Int) * 4294967296) = ((mid % 4294967296 * 4294967296 : Nat) : Int) := by rw [u64_eq]; omega
  have s7 : IntKind.u64.wrap (((mid % 4294967296 * 4294967296 : Nat) : Int) + ((p0 % 4294967296 : Nat) : Int)) = ((x * y % 18446744073709551616 : Nat) : Int) := by
    rw [← Int.natCast_add]
    have : mid % 4294967296 * 4294967296 + p0 % 4294967296 = x * y % 18446744073709551616 := by omega
    rw [this, u64_nat (by omega)]
  have z1 : ((4294967296 : Int) = 0) = False := by simp
  repeat' (first | apply T_then | apply then_ret | apply then_exit | apply then_goto | apply rnd_exit | apply rnd_ret | apply rnd_goto | apply noGo_normal | apply noGo_ret | apply noGo_exit | apply jmp_normal | apply jmp_ret | apply jmp_exit | apply jmp_goto | apply inB_normal | apply inB_ret | apply inB_goto | apply inB_exit | refine inB_exit_ne rfl ?_ | ((first | apply T_srK fw | apply T_regK fw); · ((try simp only [TOps.flat, List.cons_append, List.nil_append]); repeat (first | apply X_g0 | apply X_g | apply S_keep | apply X_skip | apply X_skipN | apply X_q | apply X_st | apply X_n | apply X_s | apply SKs0 | apply SKs2 | apply SKs1 | refine ⟨⟨rfl, rfl⟩, ?_⟩ | refine ⟨⟨rfl, ?_⟩, ?_⟩ | refine ⟨?_, ?_⟩ | (· (try simp only [go_sem, seval, reduceIte, ↓reduceIte, Bool.not_eq_true, reduceCtorEq, beq_false, beq_true, hn, hP, d1, dx, dy, d3, d4, d5, d6, d7, m1, m2, m3, m4, s1, s2, s3, s4, s5, s6, s7, z1]); first | done | rfl)))) | apply T_seq | apply T_block | refine T_scopeJ 0 rfl ?_ | apply T_scope | apply T_goto | apply T_ret | apply T_skip | apply T_exit | apply T_label | refine T_condT rfl ?_ | refine T_condF rfl ?_ | refine T_condD rfl (fun _ => ?_) (fun _ => ?_) | refine T_cond rfl (fun _ => ?_) (fun _ => ?_))
  exact ends_ret rfl rfl rfl rfl

theorem p_ref01_Mul {a b : Int} (ha : I64 a) (hb : I64 b) : PureC Try.prog fi_fullerref01_Mul [dN a, dN b] (dNE (fMul a b)) := by
  refine pure_fullerref01_Mul (by simp) fun G hP hn => ?_
  unfold a_fullerref01_Mul
  have la := abs_lt ha
  have lb := abs_lt hb
  have km := p_ref01_Wide (x := a.natAbs) (y := b.natAbs) (by omega) (by omega)
  have hm : a.natAbs * b.natAbs ≤ 9223372036854775808 * 9223372036854775808 := Nat.mul_le_mul la lb
  have e1 : ∀ m : Nat, m ≤ 9223372036854775808 * 9223372036854775808 → (m / 18446744073709551616) / 4294967296 * 18446744073709551616 + ((m / 18446744073709551616) % 4294967296 * 4294967296 + m % 18446744073709551616 / 4294967296) = m / 4294967296 := by
    intro m hm; omega
  have e1 := e1 _ hm
  have hs := mul_sgn a b
  have d1 : ∀ z : Nat, (z : Int).tmod 4294967296 = ((z % 4294967296 : Nat) : Int) := fun z => by rw [Int.tmod_eq_emod_of_nonneg (by omega)]; omega
  have d2 : ∀ z : Nat, z < 18446744073709551616 → IntKind.u64.wrap ((z : Int).tdiv 4294967296) = ((z / 4294967296 : Nat) : Int) := fun z hz => by rw [Int.tdiv_eq_ediv_of_nonneg (by omega), u64_in (by omega) (by omega)]; omega
  have e2 : (decide (a.natAbs * b.natAbs % 4294967296 ≠ 0)) = decide (((a.natAbs * b.natAbs % 18446744073709551616 % 4294967296 : Nat) : Int) > 0) := by
    rw [Bool.eq_iff_iff]; simp; omega
  have ks : PureC Try.prog fi_fullerref01_signed [dU (a.natAbs * b.natAbs / 18446744073709551616 / 4294967296), dU (a.natAbs * b.natAbs / 18446744073709551616 % 4294967296 * 4294967296 + a.natAbs * b.natAbs % 18446744073709551616 / 4294967296),
      dB (decide (((a.natAbs * b.natAbs % 18446744073709551616 % 4294967296 : Nat) : Int) > 0)), dB (apart a b)] (dNE (fMul a b)) := by
    have := p_ref01_signed (h := a.natAbs * b.natAbs / 18446744073709551616 / 4294967296) (l := a.natAbs * b.natAbs / 18446744073709551616 % 4294967296 * 4294967296 + a.natAbs * b.natAbs % 18446744073709551616 / 4294967296) (by omega) (by omega)
      (decide (((a.natAbs * b.natAbs % 18446744073709551616 % 4294967296 : Nat) : Int) > 0)) (apart a b)
    rw [e1, ← e2, hs] at this
    rw [← e2]
    exact this
  have z1 : ((4294967296 : Int) = 0) = False := by simp
  have q1 := d2 (a.natAbs * b.natAbs / 18446744073709551616) (by omega)
  have q2 := d2 (a.natAbs * b.natAbs % 18446744073709551616) (by omega)
  have q3 : IntKind.u64.wrap (((a.natAbs * b.natAbs / 18446744073709551616 % 4294967296 : Nat) : Int) * 4294967296) = ((a.natAbs * b.natAbs / 18446744073709551616 % 4294967296 * 4294967296 : Nat) : Int) := by rw [u64_eq]; omega
  have q4 : IntKind.u64.wrap (((a.natAbs * b.natAbs / 18446744073709551616 % 4294967296 * 4294967296 : Nat) : Int) + ((a.natAbs * b.natAbs % 18446744073709551616 / 4294967296 : Nat) : Int)) = ((a.natAbs * b.natAbs / 18446744073709551616 % 4294967296 * 4294967296 + a.natAbs * b.natAbs % 18446744073709551616 / 4294967296 : Nat) : Int) := by
    rw [← Int.natCast_add, u64_nat (by omega)]
  have kp : ∀ c : Bool, c = apart a b → PureC Try.prog fi_fullerref01_signed [dU (a.natAbs * b.natAbs / 18446744073709551616 / 4294967296), dU (a.natAbs * b.natAbs / 18446744073709551616 % 4294967296 * 4294967296 + a.natAbs * b.natAbs % 18446744073709551616 / 4294967296),
      dB (decide (((a.natAbs * b.natAbs % 18446744073709551616 % 4294967296 : Nat) : Int) > 0)), dB c] (dNE (fMul a b)) := fun c hc => by rw [hc]; exact ks
  generalize a.natAbs * b.natAbs = m at *
  have hap : apart a b = ((decide (a < 0) != decide (b < 0)) && ((a != 0) && (b != 0))) := by
    unfold apart
    by_cases h1 : a = 0 <;> by_cases h2 : b = 0 <;> simp [h1, h2]
  rw [hap] at kp
  by_cases h1 : a < 0 <;> by_cases h2 : b < 0 <;> by_cases h3 : (a != 0) = true <;> by_cases h4 : (b != 0) = true
  all_goals
    have kq := kp _ rfl
    simp only [h1, h2, h3, h4, decide_true, decide_false, bne_self_eq_false, Bool.and_true, Bool.and_false, Bool.false_and, Bool.true_and, Bool.not_eq_true, Bool.bne_true, Bool.bne_false, Bool.not_true, Bool.not_false] at kq
    repeat' (first | apply T_then | apply then_ret | apply then_exit | apply then_goto | apply rnd_exit | apply rnd_ret | apply rnd_goto | apply noGo_normal | apply noGo_ret | apply noGo_exit | apply jmp_normal | apply jmp_ret | apply jmp_exit | apply jmp_goto | apply inB_normal | apply inB_ret | apply inB_goto | apply inB_exit | refine inB_exit_ne rfl ?_ | ((first | apply T_srK fw | apply T_regK fw); · ((try simp only [TOps.flat, List.cons_append, List.nil_append]); repeat (first | apply X_g0 | apply X_g | apply S_keep | apply X_skip | apply X_skipN | refine X_call ?_ ⟨_, _, _, _, _, _, rfl, rfl, rfl, by rw [hP]; exact p_ref01_size ha⟩ ?_ | refine X_call ?_ ⟨_, _, _, _, _, _, rfl, rfl, rfl, by rw [hP]; exact p_ref01_size hb⟩ ?_ | refine X_call ?_ ⟨_, _, _, _, _, _, rfl, rfl, rfl, by rw [hP]; exact km⟩ ?_ | refine X_call ?_ ⟨_, _, _, _, _, _, rfl, rfl, rfl, by rw [hP]; exact kq⟩ ?_ | apply X_q | apply X_st | apply X_n | apply X_s | apply SKs0 | apply SKs2 | apply SKs1 | refine ⟨⟨rfl, rfl⟩, ?_⟩ | refine ⟨⟨rfl, ?_⟩, ?_⟩ | refine ⟨?_, ?_⟩ | (· (try simp only [go_sem, seval, reduceIte, ↓reduceIte, Bool.not_eq_true, reduceCtorEq, beq_false, beq_true, hn, hP, d1, q1, q2, q3, q4, z1, h1, h2, h3, h4]); first | done | rfl)))) | apply T_seq | apply T_block | refine T_scopeJ 0 rfl ?_ | apply T_scope | apply T_goto | apply T_ret | apply T_skip | apply T_exit | apply T_label | refine T_condT rfl ?_ | refine T_condF rfl ?_ | refine T_condD rfl (fun _ => ?_) (fun _ => ?_) | refine T_cond rfl (fun _ => ?_) (fun _ => ?_))
    exact ends_ret rfl rfl rfl rfl
end Go.AM

namespace Go.AM
open Go Go.Proofs
set_option maxRecDepth 100000
set_option maxHeartbeats 4000000
set_option linter.unusedSimpArgs false
set_option linter.unusedVariables false

def I64s (d : List Int) : Prop := ∀ n ∈ d, I64 n
theorem I64s.get {d : List Int} (h : I64s d) {i : Nat} {x : Int} (hx : d[i]? = some x) : I64 x := h x (List.mem_of_getElem? hx)
theorem I64s.nil : I64s [] := fun n hn => by simp at hn
theorem I64s.append {d e : List Int} (h : I64s d) (k : I64s e) : I64s (d ++ e) := fun n hn => by
  rcases List.mem_append.1 hn with h1 | h1
  · exact h n h1
  · exact k n h1

def coll (f : Nat → Int × Int) : Nat → Nat → List Int → List Int × Int
  | 0, _, acc => (acc, 0)
  | n + 1, a, acc => if (f a).2 = 0 then coll f n (a + 1) (acc ++ [(f a).1]) else ([], (f a).2)

/-- a sum of products, in order, up to the first error -/
def dot (x y : Nat → Int) : Nat → Nat → Int → Int × Int
  | 0, _, s => (s, 0)
  | n + 1, k, s => if (fMul (x k) (y k)).2 = 0 then (if (fAdd s (fMul (x k) (y k)).1).2 = 0 then dot x y n (k + 1) (fAdd s (fMul (x k) (y k)).1).1 else (0, (fAdd s (fMul (x k) (y k)).1).2))
    else (0, (fMul (x k) (y k)).2)

theorem fAdd_range (a b : Int) : I64 (fAdd a b).1 := rng_range _
theorem fMul_range (a b : Int) : I64 (fMul a b).1 := rng_range _

abbrev rT (l : List (List Int × List Int)) : List (List PV) := l.map fun p => [eI p.1, eI p.2]

theorem p_matmul_may (l : List (List Int × List Int)) : PureC Try.prog fi_matmul_may [.one (.sl (rT l))] (dN (if l.all (fun p => checkT p.1 p.2) then 0 else 30)) := by
  refine pure_matmul_may (by simp) fun G hP hn => ?_
  unfold a_matmul_may
  refine T_wf 0 fun hl => ?_
  simp only [initE, lk, DV.av, wf_one, wf_sl, if_true, List.length_map] at hl
  repeat' (first | apply T_then | apply then_ret | apply then_exit | apply then_goto | apply rnd_exit | apply rnd_ret | apply rnd_goto | apply noGo_normal | apply noGo_ret | apply noGo_exit | apply jmp_normal | apply jmp_ret | apply jmp_exit | apply jmp_goto | apply inB_normal | apply inB_ret | apply inB_goto | apply inB_exit | refine inB_exit_ne rfl ?_ | ((first | apply T_srK fw | apply T_regK fw); · ((try simp only [TOps.flat, List.cons_append, List.nil_append]); repeat (first | apply X_g0 | apply X_g | apply S_keep | apply X_skip | apply X_skipN | apply X_q | apply X_st | apply X_n | apply X_s | apply SKs0 | apply SKs2 | apply SKs1 | refine ⟨⟨rfl, rfl⟩, ?_⟩ | refine ⟨⟨rfl, ?_⟩, ?_⟩ | refine ⟨?_, ?_⟩ | (· (try simp only [go_sem, seval, reduceIte, ↓reduceIte, Bool.not_eq_true, reduceCtorEq, beq_false, beq_true, hn, hP]); first | done | rfl)))) | apply T_seq | apply T_block | refine T_scopeJ 0 rfl ?_ | apply T_scope | apply T_goto | apply T_ret | apply T_skip | apply T_exit | apply T_label | refine T_condT rfl ?_ | refine T_condF rfl ?_ | refine T_condD rfl (fun _ => ?_) (fun _ => ?_) | refine T_cond rfl (fun _ => ?_) (fun _ => ?_))
  refine T_for l.length (fun i (_ : Unit) => { env := [(5, .one (.p (.sl (rT l)))), (6, .one (.p (.int .i64 l.length))), (7, .one (.p (.int .i64 i)))], σ := [] })
    (fun i _ => l.all (fun p => checkT p.1 p.2) = (l.drop i).all (fun p => checkT p.1 p.2)) () rfl (.refl _ _) fun i _ hi hc => ?_
  rcases nth hi with ⟨x, hlt, hx, hd⟩ | ⟨rfl, hd⟩
  · have hw := wrap_succ hlt hl.1
    rw [hd] at hc
    simp only [List.all_cons] at hc
    cases hx1 : checkT x.1 x.2
    · repeat' (first | apply T_then | apply then_ret | apply then_exit | apply then_goto | apply rnd_exit | apply rnd_ret | apply rnd_goto | apply noGo_normal | apply noGo_ret | apply noGo_exit | apply jmp_normal | apply jmp_ret | apply jmp_exit | apply jmp_goto | apply inB_normal | apply inB_ret | apply inB_goto | apply inB_exit | refine inB_exit_ne rfl ?_ | ((first | apply T_srK fw | apply T_regK fw); · ((try simp only [TOps.flat, List.cons_append, List.nil_append]); repeat (first | apply X_g0 | apply X_g | apply S_keep | apply X_skip | apply X_skipN | refine X_call ?_ ⟨_, _, _, _, _, _, rfl, rfl, rfl, by rw [hP]; exact p_tensor_Check _ _⟩ ?_ | apply X_q | apply X_st | apply X_n | apply X_s | apply SKs0 | apply SKs2 | apply SKs1 | refine ⟨⟨rfl, rfl⟩, ?_⟩ | refine ⟨⟨rfl, ?_⟩, ?_⟩ | refine ⟨?_, ?_⟩ | (· (try simp only [go_sem, seval, reduceIte, ↓reduceIte, Bool.not_eq_true, reduceCtorEq, beq_false, beq_true, hn, hP, hx, hlt, hw, hx1]); first | done | rfl)))) | apply T_seq | apply T_block | refine T_scopeJ 0 rfl ?_ | apply T_scope | apply T_goto | apply T_ret | apply T_skip | apply T_exit | apply T_label | refine T_condT rfl ?_ | refine T_condF rfl ?_ | refine T_condD rfl (fun _ => ?_) (fun _ => ?_) | refine T_cond rfl (fun _ => ?_) (fun _ => ?_))
      exact ends_ret rfl rfl rfl (by rw [hc, hx1]; rfl)
    · repeat' (first | apply T_then | apply then_ret | apply then_exit | apply then_goto | apply rnd_exit | apply rnd_ret | apply rnd_goto | apply noGo_normal | apply noGo_ret | apply noGo_exit | apply jmp_normal | apply jmp_ret | apply jmp_exit | apply jmp_goto | apply inB_normal | apply inB_ret | apply inB_goto | apply inB_exit | refine inB_exit_ne rfl ?_ | ((first | apply T_srK fw | apply T_regK fw); · ((try simp only [TOps.flat, List.cons_append, List.nil_append]); repeat (first | apply X_g0 | apply X_g | apply S_keep | apply X_skip | apply X_skipN | refine X_call ?_ ⟨_, _, _, _, _, _, rfl, rfl, rfl, by rw [hP]; exact p_tensor_Check _ _⟩ ?_ | apply X_q | apply X_st | apply X_n | apply X_s | apply SKs0 | apply SKs2 | apply SKs1 | refine ⟨⟨rfl, rfl⟩, ?_⟩ | refine ⟨⟨rfl, ?_⟩, ?_⟩ | refine ⟨?_, ?_⟩ | (· (try simp only [go_sem, seval, reduceIte, ↓reduceIte, Bool.not_eq_true, reduceCtorEq, beq_false, beq_true, hn, hP, hx, hlt, hw, hx1]); first | done | rfl)))) | apply T_seq | apply T_block | refine T_scopeJ 0 rfl ?_ | apply T_scope | apply T_goto | apply T_ret | apply T_skip | apply T_exit | apply T_label | refine T_condT rfl ?_ | refine T_condF rfl ?_ | refine T_condD rfl (fun _ => ?_) (fun _ => ?_) | refine T_cond rfl (fun _ => ?_) (fun _ => ?_))
      exact rnd_next hlt () (by rw [hc, hx1]; simp) (Weak.sub fun p hp => by simp at hp)
  · rw [hd] at hc
    repeat' (first | apply T_then | apply then_ret | apply then_exit | apply then_goto | apply rnd_exit | apply rnd_ret | apply rnd_goto | apply noGo_normal | apply noGo_ret | apply noGo_exit | apply jmp_normal | apply jmp_ret | apply jmp_exit | apply jmp_goto | apply inB_normal | apply inB_ret | apply inB_goto | apply inB_exit | refine inB_exit_ne rfl ?_ | ((first | apply T_srK fw | apply T_regK fw); · ((try simp only [TOps.flat, List.cons_append, List.nil_append]); repeat (first | apply X_g0 | apply X_g | apply S_keep | apply X_skip | apply X_skipN | apply X_q | apply X_st | apply X_n | apply X_s | apply SKs0 | apply SKs2 | apply SKs1 | refine ⟨⟨rfl, rfl⟩, ?_⟩ | refine ⟨⟨rfl, ?_⟩, ?_⟩ | refine ⟨?_, ?_⟩ | (· (try simp only [go_sem, seval, reduceIte, ↓reduceIte, Bool.not_eq_true, reduceCtorEq, beq_false, beq_true, hn, hP, Int.lt_irrefl, Nat.lt_irrefl]); first | done | rfl)))) | apply T_seq | apply T_block | refine T_scopeJ 0 rfl ?_ | apply T_scope | apply T_goto | apply T_ret | apply T_skip | apply T_exit | apply T_label | refine T_condT rfl ?_ | refine T_condF rfl ?_ | refine T_condD rfl (fun _ => ?_) (fun _ => ?_) | refine T_cond rfl (fun _ => ?_) (fun _ => ?_))
    exact ends_ret rfl rfl rfl (by rw [hc]; rfl)

theorem p_matmul_Mul_1 {s d : List Int} {i k n : Nat} {x : Int} (hx : d[i * n + k]? = some x) (hm : i * n + k < 4611686018427387904) :
    PureC Try.prog fi_matmul_Mul_1 [dN i, dN k, bxT s d, bxN n] (dN x) := by
  refine pure_matmul_Mul_1 (by simp) fun G hP hn => ?_
  unfold a_matmul_Mul_1
  have hlt := (List.getElem?_eq_some_iff.1 hx).1
  have w1 : IntKind.i64.wrap ((i : Int) * (n : Int)) = ((i * n : Nat) : Int) := by rw [← Int.natCast_mul, wrap_in (by omega) (by omega)]
  have w2 : IntKind.i64.wrap (((i * n : Nat) : Int) + (k : Int)) = ((i * n + k : Nat) : Int) := by rw [← Int.natCast_add, wrap_in (by omega) (by omega)]
  repeat' (first | apply T_then | apply then_ret | apply then_exit | apply then_goto | apply rnd_exit | apply rnd_ret | apply rnd_goto | apply noGo_normal | apply noGo_ret | apply noGo_exit | apply jmp_normal | apply jmp_ret | apply jmp_exit | apply jmp_goto | apply inB_normal | apply inB_ret | apply inB_goto | apply inB_exit | refine inB_exit_ne rfl ?_ | ((first | apply T_srK fw | apply T_regK fw); · ((try simp only [TOps.flat, List.cons_append, List.nil_append]); repeat (first | apply X_g0 | apply X_g | apply S_keep | apply X_skip | apply X_skipN | apply X_q | apply X_st | apply X_n | apply X_s | apply SKs0 | apply SKs2 | apply SKs1 | refine ⟨⟨rfl, rfl⟩, ?_⟩ | refine ⟨⟨rfl, ?_⟩, ?_⟩ | refine ⟨?_, ?_⟩ | (· (try simp only [go_sem, seval, reduceIte, ↓reduceIte, Bool.not_eq_true, reduceCtorEq, beq_false, beq_true, hn, hP, w1, w2, hx, hlt]); first | done | rfl)))) | apply T_seq | apply T_block | refine T_scopeJ 0 rfl ?_ | apply T_scope | apply T_goto | apply T_ret | apply T_skip | apply T_exit | apply T_label | refine T_condT rfl ?_ | refine T_condF rfl ?_ | refine T_condD rfl (fun _ => ?_) (fun _ => ?_) | refine T_cond rfl (fun _ => ?_) (fun _ => ?_))
  exact ends_ret rfl rfl rfl rfl

theorem p_matmul_Mul_2 {t e : List Int} {k j p : Nat} {m x : Int} (hx : e[k * p + j]? = some x) (hm : k * p + j < 4611686018427387904) :
    PureC Try.prog fi_matmul_Mul_2 [dN k, dN j, bxT t e, .one (.box [.int .i64 m, .int .i64 p])] (dN x) := by
  refine pure_matmul_Mul_2 (by simp) fun G hP hn => ?_
  unfold a_matmul_Mul_2
  have hlt := (List.getElem?_eq_some_iff.1 hx).1
  have w1 : IntKind.i64.wrap ((k : Int) * (p : Int)) = ((k * p : Nat) : Int) := by rw [← Int.natCast_mul, wrap_in (by omega) (by omega)]
  have w2 : IntKind.i64.wrap (((k * p : Nat) : Int) + (j : Int)) = ((k * p + j : Nat) : Int) := by rw [← Int.natCast_add, wrap_in (by omega) (by omega)]
  repeat' (first | apply T_then | apply then_ret | apply then_exit | apply then_goto | apply rnd_exit | apply rnd_ret | apply rnd_goto | apply noGo_normal | apply noGo_ret | apply noGo_exit | apply jmp_normal | apply jmp_ret | apply jmp_exit | apply jmp_goto | apply inB_normal | apply inB_ret | apply inB_goto | apply inB_exit | refine inB_exit_ne rfl ?_ | ((first | apply T_srK fw | apply T_regK fw); · ((try simp only [TOps.flat, List.cons_append, List.nil_append]); repeat (first | apply X_g0 | apply X_g | apply S_keep | apply X_skip | apply X_skipN | apply X_q | apply X_st | apply X_n | apply X_s | apply SKs0 | apply SKs2 | apply SKs1 | refine ⟨⟨rfl, rfl⟩, ?_⟩ | refine ⟨⟨rfl, ?_⟩, ?_⟩ | refine ⟨?_, ?_⟩ | (· (try simp only [go_sem, seval, reduceIte, ↓reduceIte, Bool.not_eq_true, reduceCtorEq, beq_false, beq_true, hn, hP, w1, w2, hx, hlt]); first | done | rfl)))) | apply T_seq | apply T_block | refine T_scopeJ 0 rfl ?_ | apply T_scope | apply T_goto | apply T_ret | apply T_skip | apply T_exit | apply T_label | refine T_condT rfl ?_ | refine T_condF rfl ?_ | refine T_condD rfl (fun _ => ?_) (fun _ => ?_) | refine T_cond rfl (fun _ => ?_) (fun _ => ?_))
  exact ends_ret rfl rfl rfl rfl
end Go.AM

namespace Go.AM
open Go Go.Proofs
set_option maxRecDepth 100000
set_option maxHeartbeats 4000000
set_option linter.unusedSimpArgs false
set_option linter.unusedVariables false

def gt (d : List Int) (i : Nat) : Int := (d[i]?).getD 0
/-- the number at a place of a product -/
def cell (n p : Nat) (d e : List Int) (at_ : Nat) : Int × Int := dot (fun k => gt d (at_ / p * n + k)) (fun k => gt e (k * p + at_ % p)) n 0 0
def mulF (s d t e : List Int) : (List Int × List Int) × Int :=
  if checkT s d = true ∧ checkT t e = true then
    match s, t with
    | [m, n], [n', p] => if n = n' ∧ checkS [m, p] = true then
        (if (coll (cell n.toNat p.toNat d e) (m * p).toNat 0 []).2 = 0 then (([m, p], (coll (cell n.toNat p.toNat d e) (m * p).toNat 0 []).1), 0) else bad (coll (cell n.toNat p.toNat d e) (m * p).toNat 0 []).2) else bad 20
    | _, _ => bad 20
  else bad 30

theorem ends_aggMM {rv : List RV} {s : AS} {t1 t2 k1 k2 l1 l2 : Nat} {cap1 cap2 : Option Nat} {m : Bool} {rows1 rows2 : List (List PV)} {v : PV}
    (h1 : evRV rv s.env s.σ = some [.agg [.msl t1 0 k1 l1 cap1, .msl t2 0 k2 l2 cap2], .one (.p v)]) (h2 : lo s.σ t1 = .arr false k1 rows1) (h3 : lo s.σ t2 = .arr m k2 rows2) (hl1 : l1 = rows1.length) (hl2 : l2 = rows2.length) :
    Ends rv (.tup [.agg [.sl rows1, .sl rows2], .one v]) .ret s :=
  ends_ret (ds := [.agg [.sl rows1, .sl rows2], .one v]) (σ' := if m then (t2, .arr false k2 rows2) :: s.σ else s.σ) h1 (by
    have h4 : foldP (toP 6) [.msl t1 0 k1 l1 cap1, .msl t2 0 k2 l2 cap2] s.σ = some ([.sl rows1, .sl rows2], if m then (t2, .arr false k2 rows2) :: s.σ else s.σ) := by
      have e1 := toD_list (n := 5) (cap := cap1) h2 hl1
      have e2 := toD_list (n := 5) (cap := cap2) h3 hl2
      simp only [Bool.false_eq_true, if_false] at e1
      simp only [foldP, e1, e2]
    simp only [toDs, toD, h4]; rfl) rfl rfl

theorem take_set_succ {d : List Int} {i : Nat} (h : i < d.length) (x : Int) : (d.set i x).take (i + 1) = d.take i ++ [x] := by
  rw [List.take_set, List.take_add_one, List.getElem?_eq_getElem h]
  simp only [Option.toList]
  rw [List.set_append_right _ _ (by simp; omega)]
  have : i - (d.take i).length = 0 := by simp; omega
  rw [this]; rfl

theorem p_matmul_Mul (s d t e : List Int) (hd : I64s d) (he : I64s e) : PureC Try.prog fi_matmul_Mul [dT s d, dT t e] (dTE (mulF s d t e)) := by
  refine pure_matmul_Mul (by simp) fun G hP hn => ?_
  unfold a_matmul_Mul
  have km := p_matmul_may [(s, d), (t, e)]
  simp only [rT, List.map, List.all_cons, List.all_nil, Bool.and_true] at km
  have fin : ∀ er : Int, mulF s d t e = bad er → dTE (mulF s d t e) = .tup [.agg [.sl [], .sl []], dN er] := fun er h => by rw [h]; rfl
  cases hc1 : checkT s d
  · have hf : mulF s d t e = bad 30 := by unfold mulF; rw [if_neg (by simp [hc1])]
    rw [hc1] at km
    repeat' (first | apply T_then | apply then_ret | apply then_exit | apply then_goto | apply rnd_exit | apply rnd_ret | apply rnd_goto | apply noGo_normal | apply noGo_ret | apply noGo_exit | apply jmp_normal | apply jmp_ret | apply jmp_exit | apply jmp_goto | apply inB_normal | apply inB_ret | apply inB_goto | apply inB_exit | refine inB_exit_ne rfl ?_ | ((first | apply T_srK fw | apply T_regK fw); · ((try simp only [TOps.flat, List.cons_append, List.nil_append]); repeat (first | apply X_g0 | apply X_g | apply S_keep | apply X_skip | apply X_skipN | refine X_call ?_ ⟨_, _, _, _, _, _, rfl, rfl, rfl, by rw [hP]; exact km⟩ ?_ | apply X_q | apply X_st | apply X_n | apply X_s | apply SKs0 | apply SKs2 | apply SKs1 | refine ⟨⟨rfl, rfl⟩, ?_⟩ | refine ⟨⟨rfl, ?_⟩, ?_⟩ | refine ⟨?_, ?_⟩ | (· (try simp only [go_sem, seval, reduceIte, ↓reduceIte, Bool.not_eq_true, reduceCtorEq, beq_false, beq_true, hn, hP]); first | done | rfl)))) | apply T_seq | apply T_block | refine T_scopeJ 0 rfl ?_ | apply T_scope | apply T_goto | apply T_ret | apply T_skip | apply T_exit | apply T_label | refine T_condT rfl ?_ | refine T_condF rfl ?_ | refine T_condD rfl (fun _ => ?_) (fun _ => ?_) | refine T_cond rfl (fun _ => ?_) (fun _ => ?_))
    exact ends_ret rfl rfl rfl (by rw [hf]; rfl)
  cases hc2 : checkT t e
  · have hf : mulF s d t e = bad 30 := by unfold mulF; rw [if_neg (by simp [hc2])]
    rw [hc1, hc2] at km
    repeat' (first | apply T_then | apply then_ret | apply then_exit | apply then_goto | apply rnd_exit | apply rnd_ret | apply rnd_goto | apply noGo_normal | apply noGo_ret | apply noGo_exit | apply jmp_normal | apply jmp_ret | apply jmp_exit | apply jmp_goto | apply inB_normal | apply inB_ret | apply inB_goto | apply inB_exit | refine inB_exit_ne rfl ?_ | ((first | apply T_srK fw | apply T_regK fw); · ((try simp only [TOps.flat, List.cons_append, List.nil_append]); repeat (first | apply X_g0 | apply X_g | apply S_keep | apply X_skip | apply X_skipN | refine X_call ?_ ⟨_, _, _, _, _, _, rfl, rfl, rfl, by rw [hP]; exact km⟩ ?_ | apply X_q | apply X_st | apply X_n | apply X_s | apply SKs0 | apply SKs2 | apply SKs1 | refine ⟨⟨rfl, rfl⟩, ?_⟩ | refine ⟨⟨rfl, ?_⟩, ?_⟩ | refine ⟨?_, ?_⟩ | (· (try simp only [go_sem, seval, reduceIte, ↓reduceIte, Bool.not_eq_true, reduceCtorEq, beq_false, beq_true, hn, hP]); first | done | rfl)))) | apply T_seq | apply T_block | refine T_scopeJ 0 rfl ?_ | apply T_scope | apply T_goto | apply T_ret | apply T_skip | apply T_exit | apply T_label | refine T_condT rfl ?_ | refine T_condF rfl ?_ | refine T_condD rfl (fun _ => ?_) (fun _ => ?_) | refine T_cond rfl (fun _ => ?_) (fun _ => ?_))
    exact ends_ret rfl rfl rfl (by rw [hf]; rfl)
  rw [hc1, hc2] at km
  have hcc : checkT s d = true ∧ checkT t e = true := ⟨hc1, hc2⟩
  by_cases hs2 : s.length = 2
  rotate_left
  · have hf : mulF s d t e = bad 20 := by
      unfold mulF; rw [if_pos hcc]
      match s, hs2 with
      | [], _ => rfl
      | [a], _ => rfl
      | a :: b :: c :: r, _ => rfl
      | [a, b], h => exact absurd rfl h
    have c1 : ((s.length : Int) != 2) = true := by simp; omega
    repeat' (first | apply T_then | apply then_ret | apply then_exit | apply then_goto | apply rnd_exit | apply rnd_ret | apply rnd_goto | apply noGo_normal | apply noGo_ret | apply noGo_exit | apply jmp_normal | apply jmp_ret | apply jmp_exit | apply jmp_goto | apply inB_normal | apply inB_ret | apply inB_goto | apply inB_exit | refine inB_exit_ne rfl ?_ | ((first | apply T_srK fw | apply T_regK fw); · ((try simp only [TOps.flat, List.cons_append, List.nil_append]); repeat (first | apply X_g0 | apply X_g | apply S_keep | apply X_skip | apply X_skipN | refine X_call ?_ ⟨_, _, _, _, _, _, rfl, rfl, rfl, by rw [hP]; exact km⟩ ?_ | apply X_q | apply X_st | apply X_n | apply X_s | apply SKs0 | apply SKs2 | apply SKs1 | refine ⟨⟨rfl, rfl⟩, ?_⟩ | refine ⟨⟨rfl, ?_⟩, ?_⟩ | refine ⟨?_, ?_⟩ | (· (try simp only [go_sem, seval, reduceIte, ↓reduceIte, Bool.not_eq_true, reduceCtorEq, beq_false, beq_true, hn, hP, c1]); first | done | rfl)))) | ((first | apply T_sdF fw (by rw [hP]; rfl) (by decide +kernel) | apply T_drF fw (by rw [hP]; rfl) (by decide +kernel)); · ((try simp only [TOps.flat, List.cons_append, List.nil_append]); repeat (first | apply Y_g0 | apply Y_g | apply Y_skip | apply Y_q | refine Y_call ⟨_, _, _, _, _, _, rfl, rfl, rfl, by rw [hP]; exact km⟩ ?_ ?_ | refine RunF_nil (P := G.P) ?_ | (· (try simp only [go_sem, seval, reduceIte, ↓reduceIte, Bool.not_eq_true, reduceCtorEq, beq_false, beq_true, hn, hP, c1]); first | done | rfl)))) | apply T_seq | apply T_block | refine T_scopeJ 0 rfl ?_ | apply T_scope | apply T_goto | apply T_ret | apply T_skip | apply T_exit | apply T_label | refine T_condT rfl ?_ | refine T_condF rfl ?_ | refine T_condD rfl (fun _ => ?_) (fun _ => ?_) | refine T_cond rfl (fun _ => ?_) (fun _ => ?_))
    exact ends_ret rfl rfl rfl (by rw [hf]; rfl)
  by_cases ht2 : t.length = 2
  rotate_left
  · have hf : mulF s d t e = bad 20 := by
      unfold mulF; rw [if_pos hcc]
      match s, t, hs2, ht2 with
      | [a, b], [], _, _ => rfl
      | [a, b], [c], _, _ => rfl
      | [a, b], c :: f :: g :: r, _, _ => rfl
      | [a, b], [c, f], _, h => exact absurd rfl h
    have c1 : ((s.length : Int) != 2) = false := by simp; omega
    have c2 : ((t.length : Int) != 2) = true := by simp; omega
    repeat' (first | apply T_then | apply then_ret | apply then_exit | apply then_goto | apply rnd_exit | apply rnd_ret | apply rnd_goto | apply noGo_normal | apply noGo_ret | apply noGo_exit | apply jmp_normal | apply jmp_ret | apply jmp_exit | apply jmp_goto | apply inB_normal | apply inB_ret | apply inB_goto | apply inB_exit | refine inB_exit_ne rfl ?_ | ((first | apply T_srK fw | apply T_regK fw); · ((try simp only [TOps.flat, List.cons_append, List.nil_append]); repeat (first | apply X_g0 | apply X_g | apply S_keep | apply X_skip | apply X_skipN | refine X_call ?_ ⟨_, _, _, _, _, _, rfl, rfl, rfl, by rw [hP]; exact km⟩ ?_ | apply X_q | apply X_st | apply X_n | apply X_s | apply SKs0 | apply SKs2 | apply SKs1 | refine ⟨⟨rfl, rfl⟩, ?_⟩ | refine ⟨⟨rfl, ?_⟩, ?_⟩ | refine ⟨?_, ?_⟩ | (· (try simp only [go_sem, seval, reduceIte, ↓reduceIte, Bool.not_eq_true, reduceCtorEq, beq_false, beq_true, hn, hP, c1, c2]); first | done | rfl)))) | ((first | apply T_sdF fw (by rw [hP]; rfl) (by decide +kernel) | apply T_drF fw (by rw [hP]; rfl) (by decide +kernel)); · ((try simp only [TOps.flat, List.cons_append, List.nil_append]); repeat (first | apply Y_g0 | apply Y_g | apply Y_skip | apply Y_q | refine Y_call ⟨_, _, _, _, _, _, rfl, rfl, rfl, by rw [hP]; exact km⟩ ?_ ?_ | refine RunF_nil (P := G.P) ?_ | (· (try simp only [go_sem, seval, reduceIte, ↓reduceIte, Bool.not_eq_true, reduceCtorEq, beq_false, beq_true, hn, hP, c1, c2]); first | done | rfl)))) | apply T_seq | apply T_block | refine T_scopeJ 0 rfl ?_ | apply T_scope | apply T_goto | apply T_ret | apply T_skip | apply T_exit | apply T_label | refine T_condT rfl ?_ | refine T_condF rfl ?_ | refine T_condD rfl (fun _ => ?_) (fun _ => ?_) | refine T_cond rfl (fun _ => ?_) (fun _ => ?_))
    exact ends_ret rfl rfl rfl (by rw [hf]; rfl)
  obtain ⟨m, n, rfl⟩ : ∃ m n, s = [m, n] := match s, hs2 with | [a, b], _ => ⟨a, b, rfl⟩
  obtain ⟨n', p, rfl⟩ : ∃ m n, t = [m, n] := match t, ht2 with | [a, b], _ => ⟨a, b, rfl⟩
  cases hnn : (n != n')
  rotate_left
  · have hne : ¬ n = n' := by simpa using hnn
    have hf : mulF [m, n] d [n', p] e = bad 20 := by
      unfold mulF; rw [if_pos hcc]; simp only; rw [if_neg (fun h => hne h.1)]
    repeat' (first | apply T_then | apply then_ret | apply then_exit | apply then_goto | apply rnd_exit | apply rnd_ret | apply rnd_goto | apply noGo_normal | apply noGo_ret | apply noGo_exit | apply jmp_normal | apply jmp_ret | apply jmp_exit | apply jmp_goto | apply inB_normal | apply inB_ret | apply inB_goto | apply inB_exit | refine inB_exit_ne rfl ?_ | ((first | apply T_srK fw | apply T_regK fw); · ((try simp only [TOps.flat, List.cons_append, List.nil_append]); repeat (first | apply X_g0 | apply X_g | apply S_keep | apply X_skip | apply X_skipN | refine X_call ?_ ⟨_, _, _, _, _, _, rfl, rfl, rfl, by rw [hP]; exact km⟩ ?_ | apply X_q | apply X_st | apply X_n | apply X_s | apply SKs0 | apply SKs2 | apply SKs1 | refine ⟨⟨rfl, rfl⟩, ?_⟩ | refine ⟨⟨rfl, ?_⟩, ?_⟩ | refine ⟨?_, ?_⟩ | (· (try simp only [go_sem, seval, reduceIte, ↓reduceIte, Bool.not_eq_true, reduceCtorEq, beq_false, beq_true, hn, hP, hnn]); first | done | rfl)))) | ((first | apply T_sdF fw (by rw [hP]; rfl) (by decide +kernel) | apply T_drF fw (by rw [hP]; rfl) (by decide +kernel)); · ((try simp only [TOps.flat, List.cons_append, List.nil_append]); repeat (first | apply Y_g0 | apply Y_g | apply Y_skip | apply Y_q | refine Y_call ⟨_, _, _, _, _, _, rfl, rfl, rfl, by rw [hP]; exact km⟩ ?_ ?_ | refine RunF_nil (P := G.P) ?_ | (· (try simp only [go_sem, seval, reduceIte, ↓reduceIte, Bool.not_eq_true, reduceCtorEq, beq_false, beq_true, hn, hP, hnn]); first | done | rfl)))) | apply T_seq | apply T_block | refine T_scopeJ 0 rfl ?_ | apply T_scope | apply T_goto | apply T_ret | apply T_skip | apply T_exit | apply T_label | refine T_condT rfl ?_ | refine T_condF rfl ?_ | refine T_condD rfl (fun _ => ?_) (fun _ => ?_) | refine T_cond rfl (fun _ => ?_) (fun _ => ?_))
    exact ends_ret rfl rfl rfl (by rw [hf]; rfl)
  obtain rfl : n = n' := by simpa using hnn
  cases hck : checkS [m, p]
  · have hf : mulF [m, n] d [n, p] e = bad 20 := by
      unfold mulF; rw [if_pos hcc]; simp only; rw [if_neg (fun h => by rw [hck] at h; cases h.2)]
    have kc := p_shape_Check [m, p]
    repeat' (first | apply T_then | apply then_ret | apply then_exit | apply then_goto | apply rnd_exit | apply rnd_ret | apply rnd_goto | apply noGo_normal | apply noGo_ret | apply noGo_exit | apply jmp_normal | apply jmp_ret | apply jmp_exit | apply jmp_goto | apply inB_normal | apply inB_ret | apply inB_goto | apply inB_exit | refine inB_exit_ne rfl ?_ | ((first | apply T_srK fw | apply T_regK fw); · ((try simp only [TOps.flat, List.cons_append, List.nil_append]); repeat (first | apply X_g0 | apply X_g | apply S_keep | apply X_skip | apply X_skipN | refine X_call ?_ ⟨_, _, _, _, _, _, rfl, rfl, rfl, by rw [hP]; exact km⟩ ?_ | refine X_call ?_ ⟨_, _, _, _, _, _, rfl, rfl, rfl, by rw [hP]; exact kc⟩ ?_ | apply X_q | apply X_st | apply X_n | apply X_s | apply SKs0 | apply SKs2 | apply SKs1 | refine ⟨⟨rfl, rfl⟩, ?_⟩ | refine ⟨⟨rfl, ?_⟩, ?_⟩ | refine ⟨?_, ?_⟩ | (· (try simp only [go_sem, seval, reduceIte, ↓reduceIte, Bool.not_eq_true, reduceCtorEq, beq_false, beq_true, hn, hP, hnn, hck]); first | done | rfl)))) | ((first | apply T_sdF fw (by rw [hP]; rfl) (by decide +kernel) | apply T_drF fw (by rw [hP]; rfl) (by decide +kernel)); · ((try simp only [TOps.flat, List.cons_append, List.nil_append]); repeat (first | apply Y_g0 | apply Y_g | apply Y_skip | apply Y_q | refine Y_call ⟨_, _, _, _, _, _, rfl, rfl, rfl, by rw [hP]; exact km⟩ ?_ ?_ | refine Y_call ⟨_, _, _, _, _, _, rfl, rfl, rfl, by rw [hP]; exact kc⟩ ?_ ?_ | refine RunF_nil (P := G.P) ?_ | (· (try simp only [go_sem, seval, reduceIte, ↓reduceIte, Bool.not_eq_true, reduceCtorEq, beq_false, beq_true, hn, hP, hnn, hck]); first | done | rfl)))) | ((first | apply T_sd fw (by rw [hP]; rfl) | apply T_dr fw (by rw [hP]; rfl)); · ((try simp only [go_sem, seval, reduceIte, ↓reduceIte, bne, beq_false, beq_true, Bool.not_eq_true, Bool.if_true_right, decide_not, reduceCtorEq, hP, hnn, hck]); (repeat ((first       | (refine ⟨_, ⟨_, _, _, _, _, _, rfl, rfl, rfl, km⟩, ?_⟩)       | (refine ⟨_, ⟨_, _, _, _, _, _, rfl, rfl, rfl, kc⟩, ?_⟩)); (try simp only [go_sem, seval, reduceIte, ↓reduceIte, bne, beq_false, beq_true, Bool.not_eq_true, Bool.if_true_right, decide_not, reduceCtorEq, hP, hnn, hck]))); (first | done | exact rfl))) | apply T_seq | apply T_block | refine T_scopeJ 0 rfl ?_ | apply T_scope | apply T_goto | apply T_ret | apply T_skip | apply T_exit | apply T_label | refine T_condT rfl ?_ | refine T_condF rfl ?_ | refine T_condD rfl (fun _ => ?_) (fun _ => ?_) | refine T_cond rfl (fun _ => ?_) (fun _ => ?_))
    exact ends_ret rfl rfl rfl (by rw [hf]; rfl)
  have hsd := checkT_iff.1 hc1
  have hte := checkT_iff.1 hc2
  have hm1 : 1 ≤ m ∧ m ≤ 16 := hsd.1.2.1 m (by simp)
  have hn1 : 1 ≤ n ∧ n ≤ 16 := hsd.1.2.1 n (by simp)
  have hp1 : 1 ≤ p ∧ p ≤ 16 := hte.1.2.1 p (by simp)
  obtain ⟨M, rfl⟩ := Int.eq_ofNat_of_zero_le (by omega : 0 ≤ m)
  obtain ⟨N, rfl⟩ := Int.eq_ofNat_of_zero_le (by omega : 0 ≤ n)
  obtain ⟨K, rfl⟩ := Int.eq_ofNat_of_zero_le (by omega : 0 ≤ p)
  have hdl : d.length = M * N := by have := hsd.2; simp only [prd, Int.mul_one] at this; exact_mod_cast this
  have hel : e.length = N * K := by have := hte.2; simp only [prd, Int.mul_one] at this; exact_mod_cast this
  have hMK : M * K ≤ 16 * 16 := Nat.mul_le_mul (by omega) (by omega)
  have w1 : IntKind.i64.wrap ((M : Int) * (K : Int)) = ((M * K : Nat) : Int) := by rw [← Int.natCast_mul, wrap_in (by omega) (by omega)]
  have hM : MaxN = 140737488355328 := rfl
  have q1 : ((M * K : Nat) : Int) * 8 ≤ MaxN := by omega
  have q2 : ((M * K : Nat) : Int) ≤ MaxN := by omega
  have kc := p_shape_Check [(M : Int), (K : Int)]
  repeat' (first | apply T_then | apply then_ret | apply then_exit | apply then_goto | apply rnd_exit | apply rnd_ret | apply rnd_goto | apply noGo_normal | apply noGo_ret | apply noGo_exit | apply jmp_normal | apply jmp_ret | apply jmp_exit | apply jmp_goto | apply inB_normal | apply inB_ret | apply inB_goto | apply inB_exit | refine inB_exit_ne rfl ?_ | ((first | apply T_srK fw | apply T_regK fw); · ((try simp only [TOps.flat, List.cons_append, List.nil_append]); repeat (first | apply X_g0 | apply X_g | apply S_keep | apply X_skip | apply X_skipN | refine X_call ?_ ⟨_, _, _, _, _, _, rfl, rfl, rfl, by rw [hP]; exact km⟩ ?_ | refine X_call ?_ ⟨_, _, _, _, _, _, rfl, rfl, rfl, by rw [hP]; exact kc⟩ ?_ | apply X_q | apply X_st | apply X_n | apply X_s | apply SKs0 | apply SKs2 | apply SKs1 | refine ⟨⟨rfl, rfl⟩, ?_⟩ | refine ⟨⟨rfl, ?_⟩, ?_⟩ | refine ⟨?_, ?_⟩ | (· (try simp only [go_sem, seval, reduceIte, ↓reduceIte, Bool.not_eq_true, reduceCtorEq, beq_false, beq_true, hn, hP, hnn, hck, w1, q1, q2, Int.le_refl]); first | done | rfl)))) | ((first | apply T_sdF fw (by rw [hP]; rfl) (by decide +kernel) | apply T_drF fw (by rw [hP]; rfl) (by decide +kernel)); · ((try simp only [TOps.flat, List.cons_append, List.nil_append]); repeat (first | apply Y_g0 | apply Y_g | apply Y_skip | apply Y_q | refine Y_call ⟨_, _, _, _, _, _, rfl, rfl, rfl, by rw [hP]; exact km⟩ ?_ ?_ | refine Y_call ⟨_, _, _, _, _, _, rfl, rfl, rfl, by rw [hP]; exact kc⟩ ?_ ?_ | refine RunF_nil (P := G.P) ?_ | (· (try simp only [go_sem, seval, reduceIte, ↓reduceIte, Bool.not_eq_true, reduceCtorEq, beq_false, beq_true, hn, hP, hnn, hck, w1, q1, q2, Int.le_refl]); first | done | rfl)))) | ((first | apply T_sd fw (by rw [hP]; rfl) | apply T_dr fw (by rw [hP]; rfl)); · ((try simp only [go_sem, seval, reduceIte, ↓reduceIte, bne, beq_false, beq_true, Bool.not_eq_true, Bool.if_true_right, decide_not, reduceCtorEq, hP, hnn, hck, w1, q1, q2, Int.le_refl]); (repeat ((first       | (refine ⟨_, ⟨_, _, _, _, _, _, rfl, rfl, rfl, km⟩, ?_⟩)       | (refine ⟨_, ⟨_, _, _, _, _, _, rfl, rfl, rfl, kc⟩, ?_⟩)); (try simp only [go_sem, seval, reduceIte, ↓reduceIte, bne, beq_false, beq_true, Bool.not_eq_true, Bool.if_true_right, decide_not, reduceCtorEq, hP, hnn, hck, w1, q1, q2, Int.le_refl]))); (first | done | exact rfl))) | apply T_seq | apply T_block | refine T_scopeJ 0 rfl ?_ | apply T_scope | apply T_goto | apply T_ret | apply T_skip | apply T_exit | apply T_label | refine T_condT rfl ?_ | refine T_condF rfl ?_ | refine T_condD rfl (fun _ => ?_) (fun _ => ?_) | refine T_cond rfl (fun _ => ?_) (fun _ => ?_))
  have hmul : mulF [(M : Int), (N : Int)] d [(N : Int), (K : Int)] e = if (coll (cell N K d e) (M * K) 0 []).2 = 0 then (([(M : Int), (K : Int)], (coll (cell N K d e) (M * K) 0 []).1), 0) else bad (coll (cell N K d e) (M * K) 0 []).2 := by
    have e1 : ((M : Int) * (K : Int)).toNat = M * K := by rw [← Int.natCast_mul]; omega
    unfold mulF; rw [if_pos hcc]; simp only [Int.toNat_natCast, e1]; rw [if_pos ⟨trivial, hck⟩]
  have fin2 : ∀ er : Int, coll (cell N K d e) (M * K) 0 [] = ([], er) → er ≠ 0 → mulF [(M : Int), (N : Int)] d [(N : Int), (K : Int)] e = bad er := fun er h1 h2 => by rw [hmul, h1]; exact if_neg h2
  refine T_weak (Weak.freeze (i := 8) rfl rfl) ?_
  refine T_weak (Weak.freeze (i := 9) rfl rfl) ?_
  refine T_for (M * K) (fun i data => { env := [(4, .one (.ptr 4 0 2 0)), (6, .one (.ptr 6 0 1 0)), (7, .one (.ptr 7 0 1 0)), (8, .one (.p (.fn fi_matmul_Mul_1 [] [.box [eI [(M : Int), (N : Int)], eI d], .box [.int .i64 N]]))), (9, .one (.p (.fn fi_matmul_Mul_2 [] [.box [eI [(N : Int), (K : Int)], eI e], .box [.int .i64 M, .int .i64 K]]))), (10, .one (.msl 68 0 1 (M * K) (some (M * K)))), (70, .one (.p (.int .i64 ((M * K : Nat) : Int)))), (71, .one (.p (.int .i64 i)))], σ := [(4, .cells true [.nils, .nils]), (6, .arr false 1 [[.int .i64 M], [.int .i64 K]]), (7, .cells false [.p (.int .i64 N)]), (68, .arr true 1 (rI data))] })
    (fun i data => data.length = M * K ∧ data.drop i = List.replicate (M * K - i) 0 ∧ coll (cell N K d e) (M * K - i) i (data.take i) = coll (cell N K d e) (M * K) 0 []) (List.replicate (M * K) 0) ⟨by simp, by simp, by simp⟩ ?_ fun i data hi hc => ?_
  · refine (Weak.pick [4, 6, 7, 8, 9, 10, 70, 71]).trans (Weak.sub fun p hp => ?_)
    simp only [List.mem_cons, List.not_mem_nil, or_false] at hp
    rcases hp with rfl | rfl | rfl | rfl
    · rfl
    · rfl
    · rfl
    · simp [lo, rI]
  obtain ⟨hc1', hc2', hc3⟩ := hc
  by_cases hlt : i < M * K
  · have c1 : (i : Int) < ((M * K : Nat) : Int) := by omega
    have w2 : IntKind.i64.wrap ((i : Int) + 1) = ((i + 1 : Nat) : Int) := by rw [wrap_in (by omega) (by omega)]; rfl
    have hK0 : ((K : Int) = 0) = False := by simp; omega
    have qd : IntKind.i64.wrap ((i : Int).tdiv (K : Int)) = ((i / K : Nat) : Int) := by
      have hq := Nat.div_le_self i K
      rw [Int.tdiv_eq_ediv_of_nonneg (by omega), ← Int.natCast_ediv]
      generalize i / K = q at hq ⊢
      exact wrap_in (by omega) (by omega)
    have qm : (i : Int).tmod (K : Int) = ((i % K : Nat) : Int) := by rw [Int.tmod_eq_emod_of_nonneg (by omega)]; omega
    have hiK : i / K < M := (Nat.div_lt_iff_lt_mul (by omega)).2 hlt
    have hmK : i % K < K := Nat.mod_lt _ (by omega)
    have hMN : M * N ≤ 16 * 16 := Nat.mul_le_mul (by omega) (by omega)
    have hNK : N * K ≤ 16 * 16 := Nat.mul_le_mul (by omega) (by omega)
    have hdi : data[i]? = some 0 := by
      have : (data.drop i)[0]? = some 0 := by rw [hc2', List.getElem?_replicate]; rw [if_pos (by omega)]
      rw [List.getElem?_drop] at this; simpa using this
    repeat' (first | apply T_then | apply then_ret | apply then_exit | apply then_goto | apply rnd_exit | apply rnd_ret | apply rnd_goto | apply noGo_normal | apply noGo_ret | apply noGo_exit | apply jmp_normal | apply jmp_ret | apply jmp_exit | apply jmp_goto | apply inB_normal | apply inB_ret | apply inB_goto | apply inB_exit | refine inB_exit_ne rfl ?_ | ((first | apply T_srK fw | apply T_regK fw); · ((try simp only [TOps.flat, List.cons_append, List.nil_append]); repeat (first | apply X_g0 | apply X_g | apply S_keep | apply X_skip | apply X_skipN | apply X_q | apply X_st | apply X_n | apply X_s | apply SKs0 | apply SKs2 | apply SKs1 | refine ⟨⟨rfl, rfl⟩, ?_⟩ | refine ⟨⟨rfl, ?_⟩, ?_⟩ | refine ⟨?_, ?_⟩ | (· (try simp only [go_sem, seval, reduceIte, ↓reduceIte, Bool.not_eq_true, reduceCtorEq, beq_false, beq_true, hn, hP, c1]); first | done | rfl)))) | apply T_seq | apply T_block | refine T_scopeJ 0 rfl ?_ | apply T_scope | apply T_goto | apply T_ret | apply T_skip | apply T_exit | apply T_label | refine T_condT rfl ?_ | refine T_condF rfl ?_ | refine T_condD rfl (fun _ => ?_) (fun _ => ?_) | refine T_cond rfl (fun _ => ?_) (fun _ => ?_))
    refine T_for N (fun k sum => { env := [(4, .one (.ptr 4 0 2 0)), (6, .one (.ptr 6 0 1 0)), (7, .one (.ptr 7 0 1 0)), (8, .one (.p (.fn fi_matmul_Mul_1 [] [.box [eI [(M : Int), (N : Int)], eI d], .box [.int .i64 N]]))), (9, .one (.p (.fn fi_matmul_Mul_2 [] [.box [eI [(N : Int), (K : Int)], eI e], .box [.int .i64 M, .int .i64 K]]))), (10, .one (.msl 68 0 1 (M * K) (some (M * K)))), (11, .one (.p (.int .i64 i))), (70, .one (.p (.int .i64 ((M * K : Nat) : Int)))), (71, .one (.p (.int .i64 i))), (74, .one (.p (.int .i64 N))), (75, .one (.p (.int .i64 k)))], σ := [(4, .cells true [.nils, .nils]), (6, .arr false 1 [[.int .i64 M], [.int .i64 K]]), (7, .cells false [.p (.int .i64 N)]), (68, .arr true 1 (rI (data.set i sum)))] })
      (fun k sum => I64 sum ∧ dot (fun k => gt d (i / K * N + k)) (fun k => gt e (k * K + i % K)) (N - k) k sum = cell N K d e i) 0 ⟨⟨by decide, by decide⟩, rfl⟩ ?_ fun k sum hk hck2 => ?_
    · have e0 : data.set i 0 = data := by
        apply List.ext_getElem?
        intro j
        rw [List.getElem?_set]
        split
        · rename_i hj; subst hj; rw [hdi]; simp [hc1', hlt]
        · rfl
      rw [e0]
      exact (Weak.pick [4, 6, 7, 8, 9, 10, 11, 70, 71, 74, 75]).trans (Weak.sub fun p hp => by
        simp only [List.mem_cons, List.not_mem_nil, or_false] at hp
        rcases hp with rfl | rfl | rfl | rfl <;> rfl)
    · obtain ⟨hsum, hdot⟩ := hck2
      by_cases hkN : k < N
      · have k1 : (k : Int) < (N : Int) := by omega
        have w4 : IntKind.i64.wrap ((k : Int) + 1) = ((k + 1 : Nat) : Int) := by rw [wrap_in (by omega) (by omega)]; rfl
        have hb1 : i / K * N + k < M * N := by
          have : (i / K + 1) * N ≤ M * N := Nat.mul_le_mul_right N hiK
          rw [Nat.succ_mul] at this; omega
        have hb2 : k * K + i % K < N * K := by
          have : (k + 1) * K ≤ N * K := Nat.mul_le_mul_right K hkN
          rw [Nat.succ_mul] at this; omega
        have hx : d[i / K * N + k]? = some (gt d (i / K * N + k)) := by
          rw [gt, List.getElem?_eq_getElem (by omega)]; rfl
        have hy : e[k * K + i % K]? = some (gt e (k * K + i % K)) := by
          rw [gt, List.getElem?_eq_getElem (by omega)]; rfl
        have kr := p_matmul_Mul_1 (s := [(M : Int), (N : Int)]) (i := i / K) (k := k) (n := N) hx (by omega)
        have kq := p_matmul_Mul_2 (t := [(N : Int), (K : Int)]) (k := k) (j := i % K) (p := K) (m := M) hy (by omega)
        have kmul := p_fix_Mul (hd.get hx) (he.get hy)
        have hNk : N - k = (N - (k + 1)) + 1 := by omega
        rw [hNk] at hdot
        simp only [dot] at hdot
        generalize gt d (i / K * N + k) = x at *
        generalize gt e (k * K + i % K) = y at *
        have hset : (data.set i sum)[i]? = some sum := by rw [List.getElem?_set_self (by omega)]
        have hsl : (data.set i sum).length = M * K := by simp [hc1']
        by_cases e1 : (fMul x y).2 = 0
        · rw [if_pos e1] at hdot
          have e1' : ((fMul x y).2 != 0) = false := by simp [e1]
          have kadd := p_fix_Add hsum (fMul_range x y)
          by_cases e2 : (fAdd sum (fMul x y).1).2 = 0
          · rw [if_pos e2] at hdot
            have e2' : ((fAdd sum (fMul x y).1).2 != 0) = false := by simp [e2]
            repeat' (first | apply T_then | apply then_ret | apply then_exit | apply then_goto | apply rnd_exit | apply rnd_ret | apply rnd_goto | apply noGo_normal | apply noGo_ret | apply noGo_exit | apply jmp_normal | apply jmp_ret | apply jmp_exit | apply jmp_goto | apply inB_normal | apply inB_ret | apply inB_goto | apply inB_exit | refine inB_exit_ne rfl ?_ | ((first | apply T_srK fw | apply T_regK fw); · ((try simp only [TOps.flat, List.cons_append, List.nil_append]); repeat (first | apply X_g0 | apply X_g | apply S_keep | apply X_skip | apply X_skipN | refine X_call ?_ ⟨_, _, _, _, _, _, rfl, rfl, rfl, by rw [hP]; exact kr⟩ ?_ | refine X_call ?_ ⟨_, _, _, _, _, _, rfl, rfl, rfl, by rw [hP]; exact kq⟩ ?_ | refine X_call ?_ ⟨_, _, _, _, _, _, rfl, rfl, rfl, by rw [hP]; exact kmul⟩ ?_ | refine X_call ?_ ⟨_, _, _, _, _, _, rfl, rfl, rfl, by rw [hP]; exact kadd⟩ ?_ | apply X_q | apply X_st | apply X_n | apply X_s | apply SKs0 | apply SKs2 | apply SKs1 | refine ⟨⟨rfl, rfl⟩, ?_⟩ | refine ⟨⟨rfl, ?_⟩, ?_⟩ | refine ⟨?_, ?_⟩ | (· (try simp only [go_sem, seval, reduceIte, ↓reduceIte, Bool.not_eq_true, reduceCtorEq, beq_false, beq_true, hn, hP, k1, hK0, qd, qm, e1', e2', w4, hlt, hset, hsl, hc1', rI_set, List.set_set]); first | done | rfl)))) | ((first | apply T_sdF fw (by rw [hP]; rfl) (by decide +kernel) | apply T_drF fw (by rw [hP]; rfl) (by decide +kernel)); · ((try simp only [TOps.flat, List.cons_append, List.nil_append]); repeat (first | apply Y_g0 | apply Y_g | apply Y_skip | apply Y_q | refine Y_call ⟨_, _, _, _, _, _, rfl, rfl, rfl, by rw [hP]; exact kr⟩ ?_ ?_ | refine Y_call ⟨_, _, _, _, _, _, rfl, rfl, rfl, by rw [hP]; exact kq⟩ ?_ ?_ | refine Y_call ⟨_, _, _, _, _, _, rfl, rfl, rfl, by rw [hP]; exact kmul⟩ ?_ ?_ | refine Y_call ⟨_, _, _, _, _, _, rfl, rfl, rfl, by rw [hP]; exact kadd⟩ ?_ ?_ | refine RunF_nil (P := G.P) ?_ | (· (try simp only [go_sem, seval, reduceIte, ↓reduceIte, Bool.not_eq_true, reduceCtorEq, beq_false, beq_true, hn, hP, k1, hK0, qd, qm, e1', e2', w4, hlt, hset, hsl, hc1', rI_set, List.set_set]); first | done | rfl)))) | apply T_seq | apply T_block | refine T_scopeJ 0 rfl ?_ | apply T_scope | apply T_goto | apply T_ret | apply T_skip | apply T_exit | apply T_label | refine T_condT rfl ?_ | refine T_condF rfl ?_ | refine T_condD rfl (fun _ => ?_) (fun _ => ?_) | refine T_cond rfl (fun _ => ?_) (fun _ => ?_))
            exact rnd_next hkN _ ⟨fAdd_range _ _, hdot⟩ (Weak.sub fun p hp => by
              simp only [List.mem_cons, List.not_mem_nil, or_false] at hp
              rcases hp with rfl | rfl | rfl | rfl <;> rfl)
          · rw [if_neg e2] at hdot
            have e2' : ((fAdd sum (fMul x y).1).2 != 0) = true := by simp [e2]
            have hf := fin2 _ (by
              rw [← hc3, show M * K - i = (M * K - (i + 1)) + 1 from by omega]
              simp only [coll]
              rw [if_neg (by rw [← hdot]; exact e2), ← hdot]) e2
            repeat' (first | apply T_then | apply then_ret | apply then_exit | apply then_goto | apply rnd_exit | apply rnd_ret | apply rnd_goto | apply noGo_normal | apply noGo_ret | apply noGo_exit | apply jmp_normal | apply jmp_ret | apply jmp_exit | apply jmp_goto | apply inB_normal | apply inB_ret | apply inB_goto | apply inB_exit | refine inB_exit_ne rfl ?_ | ((first | apply T_srK fw | apply T_regK fw); · ((try simp only [TOps.flat, List.cons_append, List.nil_append]); repeat (first | apply X_g0 | apply X_g | apply S_keep | apply X_skip | apply X_skipN | refine X_call ?_ ⟨_, _, _, _, _, _, rfl, rfl, rfl, by rw [hP]; exact kr⟩ ?_ | refine X_call ?_ ⟨_, _, _, _, _, _, rfl, rfl, rfl, by rw [hP]; exact kq⟩ ?_ | refine X_call ?_ ⟨_, _, _, _, _, _, rfl, rfl, rfl, by rw [hP]; exact kmul⟩ ?_ | refine X_call ?_ ⟨_, _, _, _, _, _, rfl, rfl, rfl, by rw [hP]; exact kadd⟩ ?_ | apply X_q | apply X_st | apply X_n | apply X_s | apply SKs0 | apply SKs2 | apply SKs1 | refine ⟨⟨rfl, rfl⟩, ?_⟩ | refine ⟨⟨rfl, ?_⟩, ?_⟩ | refine ⟨?_, ?_⟩ | (· (try simp only [go_sem, seval, reduceIte, ↓reduceIte, Bool.not_eq_true, reduceCtorEq, beq_false, beq_true, hn, hP, k1, hK0, qd, qm, e1', e2', w4, hlt, hset, hsl, hc1', rI_set, List.set_set]); first | done | rfl)))) | ((first | apply T_sdF fw (by rw [hP]; rfl) (by decide +kernel) | apply T_drF fw (by rw [hP]; rfl) (by decide +kernel)); · ((try simp only [TOps.flat, List.cons_append, List.nil_append]); repeat (first | apply Y_g0 | apply Y_g | apply Y_skip | apply Y_q | refine Y_call ⟨_, _, _, _, _, _, rfl, rfl, rfl, by rw [hP]; exact kr⟩ ?_ ?_ | refine Y_call ⟨_, _, _, _, _, _, rfl, rfl, rfl, by rw [hP]; exact kq⟩ ?_ ?_ | refine Y_call ⟨_, _, _, _, _, _, rfl, rfl, rfl, by rw [hP]; exact kmul⟩ ?_ ?_ | refine Y_call ⟨_, _, _, _, _, _, rfl, rfl, rfl, by rw [hP]; exact kadd⟩ ?_ ?_ | refine RunF_nil (P := G.P) ?_ | (· (try simp only [go_sem, seval, reduceIte, ↓reduceIte, Bool.not_eq_true, reduceCtorEq, beq_false, beq_true, hn, hP, k1, hK0, qd, qm, e1', e2', w4, hlt, hset, hsl, hc1', rI_set, List.set_set]); first | done | rfl)))) | apply T_seq | apply T_block | refine T_scopeJ 0 rfl ?_ | apply T_scope | apply T_goto | apply T_ret | apply T_skip | apply T_exit | apply T_label | refine T_condT rfl ?_ | refine T_condF rfl ?_ | refine T_condD rfl (fun _ => ?_) (fun _ => ?_) | refine T_cond rfl (fun _ => ?_) (fun _ => ?_))
            exact ends_ret rfl rfl rfl (by rw [hf]; rfl)
        · rw [if_neg e1] at hdot
          have e1' : ((fMul x y).2 != 0) = true := by simp [e1]
          have hf := fin2 _ (by
            rw [← hc3, show M * K - i = (M * K - (i + 1)) + 1 from by omega]
            simp only [coll]
            rw [if_neg (by rw [← hdot]; exact e1), ← hdot]) e1
          repeat' (first | apply T_then | apply then_ret | apply then_exit | apply then_goto | apply rnd_exit | apply rnd_ret | apply rnd_goto | apply noGo_normal | apply noGo_ret | apply noGo_exit | apply jmp_normal | apply jmp_ret | apply jmp_exit | apply jmp_goto | apply inB_normal | apply inB_ret | apply inB_goto | apply inB_exit | refine inB_exit_ne rfl ?_ | ((first | apply T_srK fw | apply T_regK fw); · ((try simp only [TOps.flat, List.cons_append, List.nil_append]); repeat (first | apply X_g0 | apply X_g | apply S_keep | apply X_skip | apply X_skipN | refine X_call ?_ ⟨_, _, _, _, _, _, rfl, rfl, rfl, by rw [hP]; exact kr⟩ ?_ | refine X_call ?_ ⟨_, _, _, _, _, _, rfl, rfl, rfl, by rw [hP]; exact kq⟩ ?_ | refine X_call ?_ ⟨_, _, _, _, _, _, rfl, rfl, rfl, by rw [hP]; exact kmul⟩ ?_ | apply X_q | apply X_st | apply X_n | apply X_s | apply SKs0 | apply SKs2 | apply SKs1 | refine ⟨⟨rfl, rfl⟩, ?_⟩ | refine ⟨⟨rfl, ?_⟩, ?_⟩ | refine ⟨?_, ?_⟩ | (· (try simp only [go_sem, seval, reduceIte, ↓reduceIte, Bool.not_eq_true, reduceCtorEq, beq_false, beq_true, hn, hP, k1, hK0, qd, qm, e1', w4]); first | done | rfl)))) | ((first | apply T_sdF fw (by rw [hP]; rfl) (by decide +kernel) | apply T_drF fw (by rw [hP]; rfl) (by decide +kernel)); · ((try simp only [TOps.flat, List.cons_append, List.nil_append]); repeat (first | apply Y_g0 | apply Y_g | apply Y_skip | apply Y_q | refine Y_call ⟨_, _, _, _, _, _, rfl, rfl, rfl, by rw [hP]; exact kr⟩ ?_ ?_ | refine Y_call ⟨_, _, _, _, _, _, rfl, rfl, rfl, by rw [hP]; exact kq⟩ ?_ ?_ | refine Y_call ⟨_, _, _, _, _, _, rfl, rfl, rfl, by rw [hP]; exact kmul⟩ ?_ ?_ | refine RunF_nil (P := G.P) ?_ | (· (try simp only [go_sem, seval, reduceIte, ↓reduceIte, Bool.not_eq_true, reduceCtorEq, beq_false, beq_true, hn, hP, k1, hK0, qd, qm, e1', w4]); first | done | rfl)))) | apply T_seq | apply T_block | refine T_scopeJ 0 rfl ?_ | apply T_scope | apply T_goto | apply T_ret | apply T_skip | apply T_exit | apply T_label | refine T_condT rfl ?_ | refine T_condF rfl ?_ | refine T_condD rfl (fun _ => ?_) (fun _ => ?_) | refine T_cond rfl (fun _ => ?_) (fun _ => ?_))
          exact ends_ret rfl rfl rfl (by rw [hf]; rfl)
      · have hkn : k = N := by omega
        subst hkn
        repeat' (first | apply T_then | apply then_ret | apply then_exit | apply then_goto | apply rnd_exit | apply rnd_ret | apply rnd_goto | apply noGo_normal | apply noGo_ret | apply noGo_exit | apply jmp_normal | apply jmp_ret | apply jmp_exit | apply jmp_goto | apply inB_normal | apply inB_ret | apply inB_goto | apply inB_exit | refine inB_exit_ne rfl ?_ | ((first | apply T_srK fw | apply T_regK fw); · ((try simp only [TOps.flat, List.cons_append, List.nil_append]); repeat (first | apply X_g0 | apply X_g | apply S_keep | apply X_skip | apply X_skipN | apply X_q | apply X_st | apply X_n | apply X_s | apply SKs0 | apply SKs2 | apply SKs1 | refine ⟨⟨rfl, rfl⟩, ?_⟩ | refine ⟨⟨rfl, ?_⟩, ?_⟩ | refine ⟨?_, ?_⟩ | (· (try simp only [go_sem, seval, reduceIte, ↓reduceIte, Bool.not_eq_true, reduceCtorEq, beq_false, beq_true, hn, hP, Int.lt_irrefl, w2]); first | done | rfl)))) | apply T_seq | apply T_block | refine T_scopeJ 0 rfl ?_ | apply T_scope | apply T_goto | apply T_ret | apply T_skip | apply T_exit | apply T_label | refine T_condT rfl ?_ | refine T_condF rfl ?_ | refine T_condD rfl (fun _ => ?_) (fun _ => ?_) | refine T_cond rfl (fun _ => ?_) (fun _ => ?_))
        rw [Nat.sub_self] at hdot
        simp only [dot] at hdot
        refine rnd_next hlt (data.set i sum) ⟨by simp [hc1'], ?_, ?_⟩ (Weak.sub fun p hp => by
          simp only [List.mem_cons, List.not_mem_nil, or_false] at hp
          rcases hp with rfl | rfl | rfl | rfl <;> rfl)
        · rw [List.drop_set_of_lt (by omega)]
          have : data.drop (i + 1) = (data.drop i).drop 1 := by rw [List.drop_drop]
          rw [this, hc2', List.drop_replicate]; congr 1
        · rw [take_set_succ (by omega), ← hc3, show M * K - i = (M * K - (i + 1)) + 1 from by omega]
          simp only [coll, ← hdot]
          rfl
  · have hi2 : i = M * K := by omega
    subst hi2
    rw [Nat.sub_self, List.take_of_length_le (by omega)] at hc3
    simp only [coll] at hc3
    repeat' (first | apply T_then | apply then_ret | apply then_exit | apply then_goto | apply rnd_exit | apply rnd_ret | apply rnd_goto | apply noGo_normal | apply noGo_ret | apply noGo_exit | apply jmp_normal | apply jmp_ret | apply jmp_exit | apply jmp_goto | apply inB_normal | apply inB_ret | apply inB_goto | apply inB_exit | refine inB_exit_ne rfl ?_ | ((first | apply T_srK fw | apply T_regK fw); · ((try simp only [TOps.flat, List.cons_append, List.nil_append]); repeat (first | apply X_g0 | apply X_g | apply S_keep | apply X_skip | apply X_skipN | apply X_q | apply X_st | apply X_n | apply X_s | apply SKs0 | apply SKs2 | apply SKs1 | refine ⟨⟨rfl, rfl⟩, ?_⟩ | refine ⟨⟨rfl, ?_⟩, ?_⟩ | refine ⟨?_, ?_⟩ | (· (try simp only [go_sem, seval, reduceIte, ↓reduceIte, Bool.not_eq_true, reduceCtorEq, beq_false, beq_true, hn, hP, Int.lt_irrefl]); first | done | rfl)))) | apply T_seq | apply T_block | refine T_scopeJ 0 rfl ?_ | apply T_scope | apply T_goto | apply T_ret | apply T_skip | apply T_exit | apply T_label | refine T_condT rfl ?_ | refine T_condF rfl ?_ | refine T_condD rfl (fun _ => ?_) (fun _ => ?_) | refine T_cond rfl (fun _ => ?_) (fun _ => ?_))
    rw [hmul, ← hc3]
    exact ends_aggMM rfl rfl rfl rfl (by simp [hc1'])
end Go.AM

namespace Go.AM
open Go Go.Proofs
set_option maxRecDepth 100000
set_option maxHeartbeats 4000000
set_option linter.unusedSimpArgs false
set_option linter.unusedVariables false

theorem p_matmul_of (s d : List Int) : PureC Try.prog fi_matmul_of [dT s d] (.tup [.agg [.top, .top], dB (decide (s.length = 2))]) := by
  refine pure_matmul_of (by simp) fun G hP hn => ?_
  unfold a_matmul_of
  match s with
  | [] =>
    repeat' (first | apply T_then | apply then_ret | apply then_exit | apply then_goto | apply rnd_exit | apply rnd_ret | apply rnd_goto | apply noGo_normal | apply noGo_ret | apply noGo_exit | apply jmp_normal | apply jmp_ret | apply jmp_exit | apply jmp_goto | apply inB_normal | apply inB_ret | apply inB_goto | apply inB_exit | refine inB_exit_ne rfl ?_ | ((first | apply T_srK fw | apply T_regK fw); · ((try simp only [TOps.flat, List.cons_append, List.nil_append]); repeat (first | apply X_g0 | apply X_g | apply S_keep | apply X_skip | apply X_skipN | apply X_q | apply X_st | apply X_n | apply X_s | apply SKs0 | apply SKs2 | apply SKs1 | refine ⟨⟨rfl, rfl⟩, ?_⟩ | refine ⟨⟨rfl, ?_⟩, ?_⟩ | refine ⟨?_, ?_⟩ | (· (try simp only [go_sem, seval, reduceIte, ↓reduceIte, Bool.not_eq_true, reduceCtorEq, beq_false, beq_true, hn, hP]); first | done | rfl)))) | apply T_seq | apply T_block | refine T_scopeJ 0 rfl ?_ | apply T_scope | apply T_goto | apply T_ret | apply T_skip | apply T_exit | apply T_label | refine T_condT rfl ?_ | refine T_condF rfl ?_ | refine T_condD rfl (fun _ => ?_) (fun _ => ?_) | refine T_cond rfl (fun _ => ?_) (fun _ => ?_))
    refine T_weak (Weak.arrTop 2 rfl) ?_
    apply T_drE fw (by rw [hP]; rfl)
    · simp only [go_sem, seval, reduceIte, ↓reduceIte, bne, beq_false, beq_true, Bool.not_eq_true, Bool.if_true_right, decide_not, reduceCtorEq, hP, all1]
      first | done | exact rfl
    repeat' (first | apply T_then | apply then_ret | apply then_exit | apply then_goto | apply rnd_exit | apply rnd_ret | apply rnd_goto | apply noGo_normal | apply noGo_ret | apply noGo_exit | apply jmp_normal | apply jmp_ret | apply jmp_exit | apply jmp_goto | apply inB_normal | apply inB_ret | apply inB_goto | apply inB_exit | refine inB_exit_ne rfl ?_ | ((first | apply T_srK fw | apply T_regK fw); · ((try simp only [TOps.flat, List.cons_append, List.nil_append]); repeat (first | apply X_g0 | apply X_g | apply S_keep | apply X_skip | apply X_skipN | apply X_q | apply X_st | apply X_n | apply X_s | apply SKs0 | apply SKs2 | apply SKs1 | refine ⟨⟨rfl, rfl⟩, ?_⟩ | refine ⟨⟨rfl, ?_⟩, ?_⟩ | refine ⟨?_, ?_⟩ | (· (try simp only [go_sem, seval, reduceIte, ↓reduceIte, Bool.not_eq_true, reduceCtorEq, beq_false, beq_true, hn, hP]); first | done | rfl)))) | apply T_seq | apply T_block | refine T_scopeJ 0 rfl ?_ | apply T_scope | apply T_goto | apply T_ret | apply T_skip | apply T_exit | apply T_label | refine T_condT rfl ?_ | refine T_condF rfl ?_ | refine T_condD rfl (fun _ => ?_) (fun _ => ?_) | refine T_cond rfl (fun _ => ?_) (fun _ => ?_))
    exact ends_ret rfl rfl rfl rfl
  | [a] =>
    repeat' (first | apply T_then | apply then_ret | apply then_exit | apply then_goto | apply rnd_exit | apply rnd_ret | apply rnd_goto | apply noGo_normal | apply noGo_ret | apply noGo_exit | apply jmp_normal | apply jmp_ret | apply jmp_exit | apply jmp_goto | apply inB_normal | apply inB_ret | apply inB_goto | apply inB_exit | refine inB_exit_ne rfl ?_ | ((first | apply T_srK fw | apply T_regK fw); · ((try simp only [TOps.flat, List.cons_append, List.nil_append]); repeat (first | apply X_g0 | apply X_g | apply S_keep | apply X_skip | apply X_skipN | apply X_q | apply X_st | apply X_n | apply X_s | apply SKs0 | apply SKs2 | apply SKs1 | refine ⟨⟨rfl, rfl⟩, ?_⟩ | refine ⟨⟨rfl, ?_⟩, ?_⟩ | refine ⟨?_, ?_⟩ | (· (try simp only [go_sem, seval, reduceIte, ↓reduceIte, Bool.not_eq_true, reduceCtorEq, beq_false, beq_true, hn, hP]); first | done | rfl)))) | apply T_seq | apply T_block | refine T_scopeJ 0 rfl ?_ | apply T_scope | apply T_goto | apply T_ret | apply T_skip | apply T_exit | apply T_label | refine T_condT rfl ?_ | refine T_condF rfl ?_ | refine T_condD rfl (fun _ => ?_) (fun _ => ?_) | refine T_cond rfl (fun _ => ?_) (fun _ => ?_))
    refine T_weak (Weak.arrTop 2 rfl) ?_
    apply T_drE fw (by rw [hP]; rfl)
    · simp only [go_sem, seval, reduceIte, ↓reduceIte, bne, beq_false, beq_true, Bool.not_eq_true, Bool.if_true_right, decide_not, reduceCtorEq, hP, all1]
      first | done | exact rfl
    repeat' (first | apply T_then | apply then_ret | apply then_exit | apply then_goto | apply rnd_exit | apply rnd_ret | apply rnd_goto | apply noGo_normal | apply noGo_ret | apply noGo_exit | apply jmp_normal | apply jmp_ret | apply jmp_exit | apply jmp_goto | apply inB_normal | apply inB_ret | apply inB_goto | apply inB_exit | refine inB_exit_ne rfl ?_ | ((first | apply T_srK fw | apply T_regK fw); · ((try simp only [TOps.flat, List.cons_append, List.nil_append]); repeat (first | apply X_g0 | apply X_g | apply S_keep | apply X_skip | apply X_skipN | apply X_q | apply X_st | apply X_n | apply X_s | apply SKs0 | apply SKs2 | apply SKs1 | refine ⟨⟨rfl, rfl⟩, ?_⟩ | refine ⟨⟨rfl, ?_⟩, ?_⟩ | refine ⟨?_, ?_⟩ | (· (try simp only [go_sem, seval, reduceIte, ↓reduceIte, Bool.not_eq_true, reduceCtorEq, beq_false, beq_true, hn, hP]); first | done | rfl)))) | apply T_seq | apply T_block | refine T_scopeJ 0 rfl ?_ | apply T_scope | apply T_goto | apply T_ret | apply T_skip | apply T_exit | apply T_label | refine T_condT rfl ?_ | refine T_condF rfl ?_ | refine T_condD rfl (fun _ => ?_) (fun _ => ?_) | refine T_cond rfl (fun _ => ?_) (fun _ => ?_))
    exact ends_ret rfl rfl rfl rfl
  | [a, b] =>
    repeat' (first | apply T_then | apply then_ret | apply then_exit | apply then_goto | apply rnd_exit | apply rnd_ret | apply rnd_goto | apply noGo_normal | apply noGo_ret | apply noGo_exit | apply jmp_normal | apply jmp_ret | apply jmp_exit | apply jmp_goto | apply inB_normal | apply inB_ret | apply inB_goto | apply inB_exit | refine inB_exit_ne rfl ?_ | ((first | apply T_srK fw | apply T_regK fw); · ((try simp only [TOps.flat, List.cons_append, List.nil_append]); repeat (first | apply X_g0 | apply X_g | apply S_keep | apply X_skip | apply X_skipN | apply X_q | apply X_st | apply X_n | apply X_s | apply SKs0 | apply SKs2 | apply SKs1 | refine ⟨⟨rfl, rfl⟩, ?_⟩ | refine ⟨⟨rfl, ?_⟩, ?_⟩ | refine ⟨?_, ?_⟩ | (· (try simp only [go_sem, seval, reduceIte, ↓reduceIte, Bool.not_eq_true, reduceCtorEq, beq_false, beq_true, hn, hP]); first | done | rfl)))) | apply T_seq | apply T_block | refine T_scopeJ 0 rfl ?_ | apply T_scope | apply T_goto | apply T_ret | apply T_skip | apply T_exit | apply T_label | refine T_condT rfl ?_ | refine T_condF rfl ?_ | refine T_condD rfl (fun _ => ?_) (fun _ => ?_) | refine T_cond rfl (fun _ => ?_) (fun _ => ?_))
    refine T_weak (Weak.arrTop 2 rfl) ?_
    apply T_drE fw (by rw [hP]; rfl)
    · simp only [go_sem, seval, reduceIte, ↓reduceIte, bne, beq_false, beq_true, Bool.not_eq_true, Bool.if_true_right, decide_not, reduceCtorEq, hP, all1]
      first | done | exact rfl
    repeat' (first | apply T_then | apply then_ret | apply then_exit | apply then_goto | apply rnd_exit | apply rnd_ret | apply rnd_goto | apply noGo_normal | apply noGo_ret | apply noGo_exit | apply jmp_normal | apply jmp_ret | apply jmp_exit | apply jmp_goto | apply inB_normal | apply inB_ret | apply inB_goto | apply inB_exit | refine inB_exit_ne rfl ?_ | ((first | apply T_srK fw | apply T_regK fw); · ((try simp only [TOps.flat, List.cons_append, List.nil_append]); repeat (first | apply X_g0 | apply X_g | apply S_keep | apply X_skip | apply X_skipN | apply X_q | apply X_st | apply X_n | apply X_s | apply SKs0 | apply SKs2 | apply SKs1 | refine ⟨⟨rfl, rfl⟩, ?_⟩ | refine ⟨⟨rfl, ?_⟩, ?_⟩ | refine ⟨?_, ?_⟩ | (· (try simp only [go_sem, seval, reduceIte, ↓reduceIte, Bool.not_eq_true, reduceCtorEq, beq_false, beq_true, hn, hP]); first | done | rfl)))) | apply T_seq | apply T_block | refine T_scopeJ 0 rfl ?_ | apply T_scope | apply T_goto | apply T_ret | apply T_skip | apply T_exit | apply T_label | refine T_condT rfl ?_ | refine T_condF rfl ?_ | refine T_condD rfl (fun _ => ?_) (fun _ => ?_) | refine T_cond rfl (fun _ => ?_) (fun _ => ?_))
    exact ends_ret rfl rfl rfl rfl
  | a :: b :: c :: r =>
    have q1 : (min ((r.length + 1 + 1 + 1 : Nat) : Int) 2 == 2) = true := by simp; omega
    have q2 : (((r.length + 1 + 1 + 1 : Nat) : Int) == 2) = false := by simp; omega
    repeat' (first | apply T_then | apply then_ret | apply then_exit | apply then_goto | apply rnd_exit | apply rnd_ret | apply rnd_goto | apply noGo_normal | apply noGo_ret | apply noGo_exit | apply jmp_normal | apply jmp_ret | apply jmp_exit | apply jmp_goto | apply inB_normal | apply inB_ret | apply inB_goto | apply inB_exit | refine inB_exit_ne rfl ?_ | ((first | apply T_srK fw | apply T_regK fw); · ((try simp only [TOps.flat, List.cons_append, List.nil_append]); repeat (first | apply X_g0 | apply X_g | apply S_keep | apply X_skip | apply X_skipN | apply X_q | apply X_st | apply X_n | apply X_s | apply SKs0 | apply SKs2 | apply SKs1 | refine ⟨⟨rfl, rfl⟩, ?_⟩ | refine ⟨⟨rfl, ?_⟩, ?_⟩ | refine ⟨?_, ?_⟩ | (· (try simp only [go_sem, seval, reduceIte, ↓reduceIte, Bool.not_eq_true, reduceCtorEq, beq_false, beq_true, hn, hP]); first | done | rfl)))) | apply T_seq | apply T_block | refine T_scopeJ 0 rfl ?_ | apply T_scope | apply T_goto | apply T_ret | apply T_skip | apply T_exit | apply T_label | refine T_condT rfl ?_ | refine T_condF rfl ?_ | refine T_condD rfl (fun _ => ?_) (fun _ => ?_) | refine T_cond rfl (fun _ => ?_) (fun _ => ?_))
    refine T_weak (Weak.arrTop 2 rfl) ?_
    apply T_drE fw (by rw [hP]; rfl)
    · simp only [go_sem, seval, reduceIte, ↓reduceIte, bne, beq_false, beq_true, Bool.not_eq_true, Bool.if_true_right, decide_not, reduceCtorEq, hP, all1, q1, q2]
      first | done | exact rfl
    repeat' (first | apply T_then | apply then_ret | apply then_exit | apply then_goto | apply rnd_exit | apply rnd_ret | apply rnd_goto | apply noGo_normal | apply noGo_ret | apply noGo_exit | apply jmp_normal | apply jmp_ret | apply jmp_exit | apply jmp_goto | apply inB_normal | apply inB_ret | apply inB_goto | apply inB_exit | refine inB_exit_ne rfl ?_ | ((first | apply T_srK fw | apply T_regK fw); · ((try simp only [TOps.flat, List.cons_append, List.nil_append]); repeat (first | apply X_g0 | apply X_g | apply S_keep | apply X_skip | apply X_skipN | apply X_q | apply X_st | apply X_n | apply X_s | apply SKs0 | apply SKs2 | apply SKs1 | refine ⟨⟨rfl, rfl⟩, ?_⟩ | refine ⟨⟨rfl, ?_⟩, ?_⟩ | refine ⟨?_, ?_⟩ | (· (try simp only [go_sem, seval, reduceIte, ↓reduceIte, Bool.not_eq_true, reduceCtorEq, beq_false, beq_true, hn, hP]); first | done | rfl)))) | apply T_seq | apply T_block | refine T_scopeJ 0 rfl ?_ | apply T_scope | apply T_goto | apply T_ret | apply T_skip | apply T_exit | apply T_label | refine T_condT rfl ?_ | refine T_condF rfl ?_ | refine T_condD rfl (fun _ => ?_) (fun _ => ?_) | refine T_cond rfl (fun _ => ?_) (fun _ => ?_))
    exact ends_ret rfl rfl rfl (by simp [resD])

def turned2F (t e s d : List Int) : (List Int × List Int) × Int :=
  if checkT t e = true ∧ checkT s d = true then (if t.length = 2 then turnF t e else bad 20) else bad 30

theorem p_matmul_turned (t e s d : List Int) : PureC Try.prog fi_matmul_turned [dT t e, dT s d] (dTE (turned2F t e s d)) := by
  refine pure_matmul_turned (by simp) fun G hP hn => ?_
  unfold a_matmul_turned
  have km := p_matmul_may [(t, e), (s, d)]
  simp only [rT, List.map, List.all_cons, List.all_nil, Bool.and_true] at km
  by_cases hc : checkT t e = true ∧ checkT s d = true
  · rw [hc.1, hc.2] at km
    have ko := p_matmul_of t e
    by_cases ht : t.length = 2
    · rw [decide_eq_true ht] at ko
      have hf : turned2F t e s d = turnF t e := by unfold turned2F; rw [if_pos hc, if_pos ht]
      repeat' (first | apply T_then | apply then_ret | apply then_exit | apply then_goto | apply rnd_exit | apply rnd_ret | apply rnd_goto | apply noGo_normal | apply noGo_ret | apply noGo_exit | apply jmp_normal | apply jmp_ret | apply jmp_exit | apply jmp_goto | apply inB_normal | apply inB_ret | apply inB_goto | apply inB_exit | refine inB_exit_ne rfl ?_ | ((first | apply T_srK fw | apply T_regK fw); · ((try simp only [TOps.flat, List.cons_append, List.nil_append]); repeat (first | apply X_g0 | apply X_g | apply S_keep | apply X_skip | apply X_skipN | refine X_call ?_ ⟨_, _, _, _, _, _, rfl, rfl, rfl, by rw [hP]; exact km⟩ ?_ | refine X_call ?_ ⟨_, _, _, _, _, _, rfl, rfl, rfl, by rw [hP]; exact ko⟩ ?_ | refine X_call ?_ ⟨_, _, _, _, _, _, rfl, rfl, rfl, by rw [hP]; exact p_move_Turn _ _⟩ ?_ | apply X_q | apply X_st | apply X_n | apply X_s | apply SKs0 | apply SKs2 | apply SKs1 | refine ⟨⟨rfl, rfl⟩, ?_⟩ | refine ⟨⟨rfl, ?_⟩, ?_⟩ | refine ⟨?_, ?_⟩ | (· (try simp only [go_sem, seval, reduceIte, ↓reduceIte, Bool.not_eq_true, reduceCtorEq, beq_false, beq_true, hn, hP]); first | done | rfl)))) | apply T_seq | apply T_block | refine T_scopeJ 0 rfl ?_ | apply T_scope | apply T_goto | apply T_ret | apply T_skip | apply T_exit | apply T_label | refine T_condT rfl ?_ | refine T_condF rfl ?_ | refine T_condD rfl (fun _ => ?_) (fun _ => ?_) | refine T_cond rfl (fun _ => ?_) (fun _ => ?_))
      exact ends_ret rfl rfl rfl (by rw [hf]; rfl)
    · rw [decide_eq_false ht] at ko
      have hf : turned2F t e s d = bad 20 := by unfold turned2F; rw [if_pos hc, if_neg ht]
      repeat' (first | apply T_then | apply then_ret | apply then_exit | apply then_goto | apply rnd_exit | apply rnd_ret | apply rnd_goto | apply noGo_normal | apply noGo_ret | apply noGo_exit | apply jmp_normal | apply jmp_ret | apply jmp_exit | apply jmp_goto | apply inB_normal | apply inB_ret | apply inB_goto | apply inB_exit | refine inB_exit_ne rfl ?_ | ((first | apply T_srK fw | apply T_regK fw); · ((try simp only [TOps.flat, List.cons_append, List.nil_append]); repeat (first | apply X_g0 | apply X_g | apply S_keep | apply X_skip | apply X_skipN | refine X_call ?_ ⟨_, _, _, _, _, _, rfl, rfl, rfl, by rw [hP]; exact km⟩ ?_ | refine X_call ?_ ⟨_, _, _, _, _, _, rfl, rfl, rfl, by rw [hP]; exact ko⟩ ?_ | apply X_q | apply X_st | apply X_n | apply X_s | apply SKs0 | apply SKs2 | apply SKs1 | refine ⟨⟨rfl, rfl⟩, ?_⟩ | refine ⟨⟨rfl, ?_⟩, ?_⟩ | refine ⟨?_, ?_⟩ | (· (try simp only [go_sem, seval, reduceIte, ↓reduceIte, Bool.not_eq_true, reduceCtorEq, beq_false, beq_true, hn, hP]); first | done | rfl)))) | apply T_seq | apply T_block | refine T_scopeJ 0 rfl ?_ | apply T_scope | apply T_goto | apply T_ret | apply T_skip | apply T_exit | apply T_label | refine T_condT rfl ?_ | refine T_condF rfl ?_ | refine T_condD rfl (fun _ => ?_) (fun _ => ?_) | refine T_cond rfl (fun _ => ?_) (fun _ => ?_))
      exact ends_ret rfl rfl rfl (by rw [hf]; rfl)
  · have hf : turned2F t e s d = bad 30 := by unfold turned2F; rw [if_neg hc]
    have : (checkT t e && checkT s d) = false := by
      cases h1 : checkT t e <;> cases h2 : checkT s d <;> simp_all
    rw [this] at km
    repeat' (first | apply T_then | apply then_ret | apply then_exit | apply then_goto | apply rnd_exit | apply rnd_ret | apply rnd_goto | apply noGo_normal | apply noGo_ret | apply noGo_exit | apply jmp_normal | apply jmp_ret | apply jmp_exit | apply jmp_goto | apply inB_normal | apply inB_ret | apply inB_goto | apply inB_exit | refine inB_exit_ne rfl ?_ | ((first | apply T_srK fw | apply T_regK fw); · ((try simp only [TOps.flat, List.cons_append, List.nil_append]); repeat (first | apply X_g0 | apply X_g | apply S_keep | apply X_skip | apply X_skipN | refine X_call ?_ ⟨_, _, _, _, _, _, rfl, rfl, rfl, by rw [hP]; exact km⟩ ?_ | apply X_q | apply X_st | apply X_n | apply X_s | apply SKs0 | apply SKs2 | apply SKs1 | refine ⟨⟨rfl, rfl⟩, ?_⟩ | refine ⟨⟨rfl, ?_⟩, ?_⟩ | refine ⟨?_, ?_⟩ | (· (try simp only [go_sem, seval, reduceIte, ↓reduceIte, Bool.not_eq_true, reduceCtorEq, beq_false, beq_true, hn, hP]); first | done | rfl)))) | apply T_seq | apply T_block | refine T_scopeJ 0 rfl ?_ | apply T_scope | apply T_goto | apply T_ret | apply T_skip | apply T_exit | apply T_label | refine T_condT rfl ?_ | refine T_condF rfl ?_ | refine T_condD rfl (fun _ => ?_) (fun _ => ?_) | refine T_cond rfl (fun _ => ?_) (fun _ => ?_))
    exact ends_ret rfl rfl rfl (by rw [hf]; rfl)

theorem I64s.mk {s : List Int} {g : List Int → Int} (h : ∀ x, I64 (g x)) : I64s (mk s g) := fun n hn => by
  simp only [AM.mk, List.mem_map] at hn
  obtain ⟨p, _, rfl⟩ := hn
  exact h _
theorem atF_range {s d x : List Int} (hd : I64s d) : I64 (atF s d x).1 := by
  have z : I64 0 := ⟨by decide, by decide⟩
  unfold atF
  split
  · exact z
  · split
    · exact z
    · cases h : d[(placeF s x).1.toNat]? with
      | none => exact z
      | some v => exact hd.get h
theorem turnF_range {s d : List Int} (hd : I64s d) : I64s (turnF s d).1.2 := by
  unfold turnF
  split
  · exact I64s.mk fun x => atF_range hd
  · exact I64s.nil

def leftF (s d t e : List Int) : (List Int × List Int) × Int :=
  if checkT t e = true ∧ checkT s d = true then (if t.length = 2 then mulF s d t.reverse (turnF t e).1.2 else bad 20) else bad 30
def rightF (s d t e : List Int) : (List Int × List Int) × Int :=
  if checkT s d = true ∧ checkT t e = true then (if s.length = 2 then mulF s.reverse (turnF s d).1.2 t e else bad 20) else bad 30

theorem p_matmul_Left (s d t e : List Int) (hd : I64s d) (he : I64s e) : PureC Try.prog fi_matmul_Left [dT s d, dT t e] (dTE (leftF s d t e)) := by
  refine pure_matmul_Left (by simp) fun G hP hn => ?_
  unfold a_matmul_Left
  have kt := p_matmul_turned t e s d
  by_cases hc : checkT t e = true ∧ checkT s d = true
  · by_cases ht : t.length = 2
    · have hf : leftF s d t e = mulF s d t.reverse (turnF t e).1.2 := by unfold leftF; rw [if_pos hc, if_pos ht]
      have ht2 : turned2F t e s d = ((t.reverse, (turnF t e).1.2), 0) := by unfold turned2F; rw [if_pos hc, if_pos ht]; unfold turnF; rw [if_pos hc.1]
      rw [ht2] at kt
      have kmul := p_matmul_Mul s d t.reverse (turnF t e).1.2 hd (turnF_range he)
      generalize (turnF t e).1.2 = e' at *
      repeat' (first | apply T_then | apply then_ret | apply then_exit | apply then_goto | apply rnd_exit | apply rnd_ret | apply rnd_goto | apply noGo_normal | apply noGo_ret | apply noGo_exit | apply jmp_normal | apply jmp_ret | apply jmp_exit | apply jmp_goto | apply inB_normal | apply inB_ret | apply inB_goto | apply inB_exit | refine inB_exit_ne rfl ?_ | ((first | apply T_srK fw | apply T_regK fw); · ((try simp only [TOps.flat, List.cons_append, List.nil_append]); repeat (first | apply X_g0 | apply X_g | apply S_keep | apply X_skip | apply X_skipN | refine X_call ?_ ⟨_, _, _, _, _, _, rfl, rfl, rfl, by rw [hP]; exact kt⟩ ?_ | refine X_call ?_ ⟨_, _, _, _, _, _, rfl, rfl, rfl, by rw [hP]; exact kmul⟩ ?_ | apply X_q | apply X_st | apply X_n | apply X_s | apply SKs0 | apply SKs2 | apply SKs1 | refine ⟨⟨rfl, rfl⟩, ?_⟩ | refine ⟨⟨rfl, ?_⟩, ?_⟩ | refine ⟨?_, ?_⟩ | (· (try simp only [go_sem, seval, reduceIte, ↓reduceIte, Bool.not_eq_true, reduceCtorEq, beq_false, beq_true, hn, hP]); first | done | rfl)))) | apply T_seq | apply T_block | refine T_scopeJ 0 rfl ?_ | apply T_scope | apply T_goto | apply T_ret | apply T_skip | apply T_exit | apply T_label | refine T_condT rfl ?_ | refine T_condF rfl ?_ | refine T_condD rfl (fun _ => ?_) (fun _ => ?_) | refine T_cond rfl (fun _ => ?_) (fun _ => ?_))
      exact ends_ret rfl rfl rfl (by rw [hf]; rfl)
    · have hf : leftF s d t e = bad 20 := by unfold leftF; rw [if_pos hc, if_neg ht]
      have ht2 : turned2F t e s d = bad 20 := by unfold turned2F; rw [if_pos hc, if_neg ht]
      rw [ht2] at kt
      repeat' (first | apply T_then | apply then_ret | apply then_exit | apply then_goto | apply rnd_exit | apply rnd_ret | apply rnd_goto | apply noGo_normal | apply noGo_ret | apply noGo_exit | apply jmp_normal | apply jmp_ret | apply jmp_exit | apply jmp_goto | apply inB_normal | apply inB_ret | apply inB_goto | apply inB_exit | refine inB_exit_ne rfl ?_ | ((first | apply T_srK fw | apply T_regK fw); · ((try simp only [TOps.flat, List.cons_append, List.nil_append]); repeat (first | apply X_g0 | apply X_g | apply S_keep | apply X_skip | apply X_skipN | refine X_call ?_ ⟨_, _, _, _, _, _, rfl, rfl, rfl, by rw [hP]; exact kt⟩ ?_ | apply X_q | apply X_st | apply X_n | apply X_s | apply SKs0 | apply SKs2 | apply SKs1 | refine ⟨⟨rfl, rfl⟩, ?_⟩ | refine ⟨⟨rfl, ?_⟩, ?_⟩ | refine ⟨?_, ?_⟩ | (· (try simp only [go_sem, seval, reduceIte, ↓reduceIte, Bool.not_eq_true, reduceCtorEq, beq_false, beq_true, hn, hP]); first | done | rfl)))) | apply T_seq | apply T_block | refine T_scopeJ 0 rfl ?_ | apply T_scope | apply T_goto | apply T_ret | apply T_skip | apply T_exit | apply T_label | refine T_condT rfl ?_ | refine T_condF rfl ?_ | refine T_condD rfl (fun _ => ?_) (fun _ => ?_) | refine T_cond rfl (fun _ => ?_) (fun _ => ?_))
      exact ends_ret rfl rfl rfl (by rw [hf]; rfl)
  · have hf : leftF s d t e = bad 30 := by unfold leftF; rw [if_neg hc]
    have ht2 : turned2F t e s d = bad 30 := by unfold turned2F; rw [if_neg hc]
    rw [ht2] at kt
    repeat' (first | apply T_then | apply then_ret | apply then_exit | apply then_goto | apply rnd_exit | apply rnd_ret | apply rnd_goto | apply noGo_normal | apply noGo_ret | apply noGo_exit | apply jmp_normal | apply jmp_ret | apply jmp_exit | apply jmp_goto | apply inB_normal | apply inB_ret | apply inB_goto | apply inB_exit | refine inB_exit_ne rfl ?_ | ((first | apply T_srK fw | apply T_regK fw); · ((try simp only [TOps.flat, List.cons_append, List.nil_append]); repeat (first | apply X_g0 | apply X_g | apply S_keep | apply X_skip | apply X_skipN | refine X_call ?_ ⟨_, _, _, _, _, _, rfl, rfl, rfl, by rw [hP]; exact kt⟩ ?_ | apply X_q | apply X_st | apply X_n | apply X_s | apply SKs0 | apply SKs2 | apply SKs1 | refine ⟨⟨rfl, rfl⟩, ?_⟩ | refine ⟨⟨rfl, ?_⟩, ?_⟩ | refine ⟨?_, ?_⟩ | (· (try simp only [go_sem, seval, reduceIte, ↓reduceIte, Bool.not_eq_true, reduceCtorEq, beq_false, beq_true, hn, hP]); first | done | rfl)))) | apply T_seq | apply T_block | refine T_scopeJ 0 rfl ?_ | apply T_scope | apply T_goto | apply T_ret | apply T_skip | apply T_exit | apply T_label | refine T_condT rfl ?_ | refine T_condF rfl ?_ | refine T_condD rfl (fun _ => ?_) (fun _ => ?_) | refine T_cond rfl (fun _ => ?_) (fun _ => ?_))
    exact ends_ret rfl rfl rfl (by rw [hf]; rfl)

theorem p_matmul_Right (s d t e : List Int) (hd : I64s d) (he : I64s e) : PureC Try.prog fi_matmul_Right [dT s d, dT t e] (dTE (rightF s d t e)) := by
  refine pure_matmul_Right (by simp) fun G hP hn => ?_
  unfold a_matmul_Right
  have kt := p_matmul_turned s d t e
  by_cases hc : checkT s d = true ∧ checkT t e = true
  · by_cases ht : s.length = 2
    · have hf : rightF s d t e = mulF s.reverse (turnF s d).1.2 t e := by unfold rightF; rw [if_pos hc, if_pos ht]
      have ht2 : turned2F s d t e = ((s.reverse, (turnF s d).1.2), 0) := by unfold turned2F; rw [if_pos hc, if_pos ht]; unfold turnF; rw [if_pos hc.1]
      rw [ht2] at kt
      have kmul := p_matmul_Mul s.reverse (turnF s d).1.2 t e (turnF_range hd) he
      generalize (turnF s d).1.2 = d' at *
      repeat' (first | apply T_then | apply then_ret | apply then_exit | apply then_goto | apply rnd_exit | apply rnd_ret | apply rnd_goto | apply noGo_normal | apply noGo_ret | apply noGo_exit | apply jmp_normal | apply jmp_ret | apply jmp_exit | apply jmp_goto | apply inB_normal | apply inB_ret | apply inB_goto | apply inB_exit | refine inB_exit_ne rfl ?_ | ((first | apply T_srK fw | apply T_regK fw); · ((try simp only [TOps.flat, List.cons_append, List.nil_append]); repeat (first | apply X_g0 | apply X_g | apply S_keep | apply X_skip | apply X_skipN | refine X_call ?_ ⟨_, _, _, _, _, _, rfl, rfl, rfl, by rw [hP]; exact kt⟩ ?_ | refine X_call ?_ ⟨_, _, _, _, _, _, rfl, rfl, rfl, by rw [hP]; exact kmul⟩ ?_ | apply X_q | apply X_st | apply X_n | apply X_s | apply SKs0 | apply SKs2 | apply SKs1 | refine ⟨⟨rfl, rfl⟩, ?_⟩ | refine ⟨⟨rfl, ?_⟩, ?_⟩ | refine ⟨?_, ?_⟩ | (· (try simp only [go_sem, seval, reduceIte, ↓reduceIte, Bool.not_eq_true, reduceCtorEq, beq_false, beq_true, hn, hP]); first | done | rfl)))) | apply T_seq | apply T_block | refine T_scopeJ 0 rfl ?_ | apply T_scope | apply T_goto | apply T_ret | apply T_skip | apply T_exit | apply T_label | refine T_condT rfl ?_ | refine T_condF rfl ?_ | refine T_condD rfl (fun _ => ?_) (fun _ => ?_) | refine T_cond rfl (fun _ => ?_) (fun _ => ?_))
      exact ends_ret rfl rfl rfl (by rw [hf]; rfl)
    · have hf : rightF s d t e = bad 20 := by unfold rightF; rw [if_pos hc, if_neg ht]
      have ht2 : turned2F s d t e = bad 20 := by unfold turned2F; rw [if_pos hc, if_neg ht]
      rw [ht2] at kt
      repeat' (first | apply T_then | apply then_ret | apply then_exit | apply then_goto | apply rnd_exit | apply rnd_ret | apply rnd_goto | apply noGo_normal | apply noGo_ret | apply noGo_exit | apply jmp_normal | apply jmp_ret | apply jmp_exit | apply jmp_goto | apply inB_normal | apply inB_ret | apply inB_goto | apply inB_exit | refine inB_exit_ne rfl ?_ | ((first | apply T_srK fw | apply T_regK fw); · ((try simp only [TOps.flat, List.cons_append, List.nil_append]); repeat (first | apply X_g0 | apply X_g | apply S_keep | apply X_skip | apply X_skipN | refine X_call ?_ ⟨_, _, _, _, _, _, rfl, rfl, rfl, by rw [hP]; exact kt⟩ ?_ | apply X_q | apply X_st | apply X_n | apply X_s | apply SKs0 | apply SKs2 | apply SKs1 | refine ⟨⟨rfl, rfl⟩, ?_⟩ | refine ⟨⟨rfl, ?_⟩, ?_⟩ | refine ⟨?_, ?_⟩ | (· (try simp only [go_sem, seval, reduceIte, ↓reduceIte, Bool.not_eq_true, reduceCtorEq, beq_false, beq_true, hn, hP]); first | done | rfl)))) | apply T_seq | apply T_block | refine T_scopeJ 0 rfl ?_ | apply T_scope | apply T_goto | apply T_ret | apply T_skip | apply T_exit | apply T_label | refine T_condT rfl ?_ | refine T_condF rfl ?_ | refine T_condD rfl (fun _ => ?_) (fun _ => ?_) | refine T_cond rfl (fun _ => ?_) (fun _ => ?_))
      exact ends_ret rfl rfl rfl (by rw [hf]; rfl)
  · have hf : rightF s d t e = bad 30 := by unfold rightF; rw [if_neg hc]
    have ht2 : turned2F s d t e = bad 30 := by unfold turned2F; rw [if_neg hc]
    rw [ht2] at kt
    repeat' (first | apply T_then | apply then_ret | apply then_exit | apply then_goto | apply rnd_exit | apply rnd_ret | apply rnd_goto | apply noGo_normal | apply noGo_ret | apply noGo_exit | apply jmp_normal | apply jmp_ret | apply jmp_exit | apply jmp_goto | apply inB_normal | apply inB_ret | apply inB_goto | apply inB_exit | refine inB_exit_ne rfl ?_ | ((first | apply T_srK fw | apply T_regK fw); · ((try simp only [TOps.flat, List.cons_append, List.nil_append]); repeat (first | apply X_g0 | apply X_g | apply S_keep | apply X_skip | apply X_skipN | refine X_call ?_ ⟨_, _, _, _, _, _, rfl, rfl, rfl, by rw [hP]; exact kt⟩ ?_ | apply X_q | apply X_st | apply X_n | apply X_s | apply SKs0 | apply SKs2 | apply SKs1 | refine ⟨⟨rfl, rfl⟩, ?_⟩ | refine ⟨⟨rfl, ?_⟩, ?_⟩ | refine ⟨?_, ?_⟩ | (· (try simp only [go_sem, seval, reduceIte, ↓reduceIte, Bool.not_eq_true, reduceCtorEq, beq_false, beq_true, hn, hP]); first | done | rfl)))) | apply T_seq | apply T_block | refine T_scopeJ 0 rfl ?_ | apply T_scope | apply T_goto | apply T_ret | apply T_skip | apply T_exit | apply T_label | refine T_condT rfl ?_ | refine T_condF rfl ?_ | refine T_condD rfl (fun _ => ?_) (fun _ => ?_) | refine T_cond rfl (fun _ => ?_) (fun _ => ?_))
    exact ends_ret rfl rfl rfl (by rw [hf]; rfl)
end Go.AM

namespace Go.AM
open Go Go.Proofs
set_option maxRecDepth 100000
set_option maxHeartbeats 4000000
set_option linter.unusedSimpArgs false
set_option linter.unusedVariables false

theorem at2 {M N : Nat} {d : List Int} (hc : checkT [(M : Int), (N : Int)] d = true) {i k : Nat} (hi : i < M) (hk : k < N) : atF [(M : Int), (N : Int)] d [(i : Int), (k : Int)] = (gt d (i * N + k), 0) := by
  have hin : InIdx [(M : Int), (N : Int)] [(i : Int), (k : Int)] := .cons (by omega) (by omega) (.cons (by omega) (by omega) .nil)
  rw [atF_ok hc hin]
  have : (pl [(M : Int), (N : Int)] [(i : Int), (k : Int)] 0).toNat = i * N + k := by
    simp only [pl, Int.zero_mul, Int.zero_add]
    rw [← Int.natCast_mul, ← Int.natCast_add]; omega
  rw [this]; rfl

theorem p_ref07_number {M N K : Nat} {d e : List Int} (hd : I64s d) (he : I64s e) (hc1 : checkT [(M : Int), (N : Int)] d = true) (hc2 : checkT [(N : Int), (K : Int)] e = true) {i j : Nat} (hi : i < M) (hj : j < K) :
    PureC Try.prog fi_fullerref07_number [dT [(M : Int), (N : Int)] d, dT [(N : Int), (K : Int)] e, dN i, dN j] (dNE (dot (fun k => gt d (i * N + k)) (fun k => gt e (k * K + j)) N 0 0)) := by
  refine pure_fullerref07_number (by simp) fun G hP hn => ?_
  unfold a_fullerref07_number
  have hN : (N : Int) ≤ 16 := ((checkT_iff.1 hc1).1.2.1 (N : Int) (by simp)).2
  repeat' (first | apply T_then | apply then_ret | apply then_exit | apply then_goto | apply rnd_exit | apply rnd_ret | apply rnd_goto | apply noGo_normal | apply noGo_ret | apply noGo_exit | apply jmp_normal | apply jmp_ret | apply jmp_exit | apply jmp_goto | apply inB_normal | apply inB_ret | apply inB_goto | apply inB_exit | refine inB_exit_ne rfl ?_ | ((first | apply T_srK fw | apply T_regK fw); · ((try simp only [TOps.flat, List.cons_append, List.nil_append]); repeat (first | apply X_g0 | apply X_g | apply S_keep | apply X_skip | apply X_skipN | apply X_q | apply X_st | apply X_n | apply X_s | apply SKs0 | apply SKs2 | apply SKs1 | refine ⟨⟨rfl, rfl⟩, ?_⟩ | refine ⟨⟨rfl, ?_⟩, ?_⟩ | refine ⟨?_, ?_⟩ | (· (try simp only [go_sem, seval, reduceIte, ↓reduceIte, Bool.not_eq_true, reduceCtorEq, beq_false, beq_true, hn, hP]); first | done | rfl)))) | apply T_seq | apply T_block | refine T_scopeJ 0 rfl ?_ | apply T_scope | apply T_goto | apply T_ret | apply T_skip | apply T_exit | apply T_label | refine T_condT rfl ?_ | refine T_condF rfl ?_ | refine T_condD rfl (fun _ => ?_) (fun _ => ?_) | refine T_cond rfl (fun _ => ?_) (fun _ => ?_))
  refine T_for N (fun k sum => { env := [(2, .one (.p (.int .i64 i))), (3, .one (.p (.int .i64 j))), (4, .one (.ptr 4 0 2 0)), (5, .one (.ptr 5 0 2 0)), (10, .one (.p (.int .i64 sum))), (11, .one (.p (.int .i64 k)))], σ := [(4, .cells true [.p (eI [(M : Int), (N : Int)]), .p (eI d)]), (5, .cells true [.p (eI [(N : Int), (K : Int)]), .p (eI e)])] })
    (fun k sum => I64 sum ∧ dot (fun k => gt d (i * N + k)) (fun k => gt e (k * K + j)) (N - k) k sum = dot (fun k => gt d (i * N + k)) (fun k => gt e (k * K + j)) N 0 0) 0 ⟨⟨by decide, by decide⟩, rfl⟩ (.refl _ _) fun k sum hk hc => ?_
  obtain ⟨hsum, hdot⟩ := hc
  by_cases hkN : k < N
  · have k1 : (k : Int) < (N : Int) := by omega
    have w1 : IntKind.i64.wrap ((k : Int) + 1) = ((k + 1 : Nat) : Int) := by rw [wrap_in (by omega) (by omega)]; rfl
    have ka := p_ref03_At [(M : Int), (N : Int)] d [(i : Int), (k : Int)]
    have kb := p_ref03_At [(N : Int), (K : Int)] e [(k : Int), (j : Int)]
    rw [at2 hc1 hi hkN] at ka
    rw [at2 hc2 hkN hj] at kb
    have hx : I64 (gt d (i * N + k)) := by have := atF_range (s := [(M : Int), (N : Int)]) (x := [(i : Int), (k : Int)]) hd; rwa [at2 hc1 hi hkN] at this
    have hy : I64 (gt e (k * K + j)) := by have := atF_range (s := [(N : Int), (K : Int)]) (x := [(k : Int), (j : Int)]) he; rwa [at2 hc2 hkN hj] at this
    have kmul := p_ref01_Mul hx hy
    rw [show N - k = (N - (k + 1)) + 1 from by omega] at hdot
    simp only [dot] at hdot
    generalize gt d (i * N + k) = x at *
    generalize gt e (k * K + j) = y at *
    by_cases e1 : (fMul x y).2 = 0
    · rw [if_pos e1] at hdot
      have e1' : ((fMul x y).2 != 0) = false := by simp [e1]
      have kadd := p_ref01_Add hsum (fMul_range x y)
      by_cases e2 : (fAdd sum (fMul x y).1).2 = 0
      · rw [if_pos e2] at hdot
        have e2' : ((fAdd sum (fMul x y).1).2 != 0) = false := by simp [e2]
        repeat' (first | apply T_then | apply then_ret | apply then_exit | apply then_goto | apply rnd_exit | apply rnd_ret | apply rnd_goto | apply noGo_normal | apply noGo_ret | apply noGo_exit | apply jmp_normal | apply jmp_ret | apply jmp_exit | apply jmp_goto | apply inB_normal | apply inB_ret | apply inB_goto | apply inB_exit | refine inB_exit_ne rfl ?_ | ((first | apply T_srK fw | apply T_regK fw); · ((try simp only [TOps.flat, List.cons_append, List.nil_append]); repeat (first | apply X_g0 | apply X_g | apply S_keep | apply X_skip | apply X_skipN | refine X_call ?_ ⟨_, _, _, _, _, _, rfl, rfl, rfl, by rw [hP]; exact ka⟩ ?_ | refine X_call ?_ ⟨_, _, _, _, _, _, rfl, rfl, rfl, by rw [hP]; exact kb⟩ ?_ | refine X_call ?_ ⟨_, _, _, _, _, _, rfl, rfl, rfl, by rw [hP]; exact kmul⟩ ?_ | refine X_call ?_ ⟨_, _, _, _, _, _, rfl, rfl, rfl, by rw [hP]; exact kadd⟩ ?_ | apply X_q | apply X_st | apply X_n | apply X_s | apply SKs0 | apply SKs2 | apply SKs1 | refine ⟨⟨rfl, rfl⟩, ?_⟩ | refine ⟨⟨rfl, ?_⟩, ?_⟩ | refine ⟨?_, ?_⟩ | (· (try simp only [go_sem, seval, reduceIte, ↓reduceIte, Bool.not_eq_true, reduceCtorEq, beq_false, beq_true, hn, hP, k1, w1, e1', e2']); first | done | rfl)))) | apply T_seq | apply T_block | refine T_scopeJ 0 rfl ?_ | apply T_scope | apply T_goto | apply T_ret | apply T_skip | apply T_exit | apply T_label | refine T_condT rfl ?_ | refine T_condF rfl ?_ | refine T_condD rfl (fun _ => ?_) (fun _ => ?_) | refine T_cond rfl (fun _ => ?_) (fun _ => ?_))
        exact rnd_next hkN _ ⟨fAdd_range _ _, hdot⟩ (Weak.sub fun p hp => by
          simp only [List.mem_cons, List.not_mem_nil, or_false] at hp
          rcases hp with rfl | rfl <;> rfl)
      · rw [if_neg e2] at hdot
        have e2' : ((fAdd sum (fMul x y).1).2 != 0) = true := by simp [e2]
        repeat' (first | apply T_then | apply then_ret | apply then_exit | apply then_goto | apply rnd_exit | apply rnd_ret | apply rnd_goto | apply noGo_normal | apply noGo_ret | apply noGo_exit | apply jmp_normal | apply jmp_ret | apply jmp_exit | apply jmp_goto | apply inB_normal | apply inB_ret | apply inB_goto | apply inB_exit | refine inB_exit_ne rfl ?_ | ((first | apply T_srK fw | apply T_regK fw); · ((try simp only [TOps.flat, List.cons_append, List.nil_append]); repeat (first | apply X_g0 | apply X_g | apply S_keep | apply X_skip | apply X_skipN | refine X_call ?_ ⟨_, _, _, _, _, _, rfl, rfl, rfl, by rw [hP]; exact ka⟩ ?_ | refine X_call ?_ ⟨_, _, _, _, _, _, rfl, rfl, rfl, by rw [hP]; exact kb⟩ ?_ | refine X_call ?_ ⟨_, _, _, _, _, _, rfl, rfl, rfl, by rw [hP]; exact kmul⟩ ?_ | refine X_call ?_ ⟨_, _, _, _, _, _, rfl, rfl, rfl, by rw [hP]; exact kadd⟩ ?_ | apply X_q | apply X_st | apply X_n | apply X_s | apply SKs0 | apply SKs2 | apply SKs1 | refine ⟨⟨rfl, rfl⟩, ?_⟩ | refine ⟨⟨rfl, ?_⟩, ?_⟩ | refine ⟨?_, ?_⟩ | (· (try simp only [go_sem, seval, reduceIte, ↓reduceIte, Bool.not_eq_true, reduceCtorEq, beq_false, beq_true, hn, hP, k1, w1, e1', e2']); first | done | rfl)))) | apply T_seq | apply T_block | refine T_scopeJ 0 rfl ?_ | apply T_scope | apply T_goto | apply T_ret | apply T_skip | apply T_exit | apply T_label | refine T_condT rfl ?_ | refine T_condF rfl ?_ | refine T_condD rfl (fun _ => ?_) (fun _ => ?_) | refine T_cond rfl (fun _ => ?_) (fun _ => ?_))
        exact ends_ret rfl rfl rfl (by rw [← hdot]; rfl)
    · rw [if_neg e1] at hdot
      have e1' : ((fMul x y).2 != 0) = true := by simp [e1]
      repeat' (first | apply T_then | apply then_ret | apply then_exit | apply then_goto | apply rnd_exit | apply rnd_ret | apply rnd_goto | apply noGo_normal | apply noGo_ret | apply noGo_exit | apply jmp_normal | apply jmp_ret | apply jmp_exit | apply jmp_goto | apply inB_normal | apply inB_ret | apply inB_goto | apply inB_exit | refine inB_exit_ne rfl ?_ | ((first | apply T_srK fw | apply T_regK fw); · ((try simp only [TOps.flat, List.cons_append, List.nil_append]); repeat (first | apply X_g0 | apply X_g | apply S_keep | apply X_skip | apply X_skipN | refine X_call ?_ ⟨_, _, _, _, _, _, rfl, rfl, rfl, by rw [hP]; exact ka⟩ ?_ | refine X_call ?_ ⟨_, _, _, _, _, _, rfl, rfl, rfl, by rw [hP]; exact kb⟩ ?_ | refine X_call ?_ ⟨_, _, _, _, _, _, rfl, rfl, rfl, by rw [hP]; exact kmul⟩ ?_ | apply X_q | apply X_st | apply X_n | apply X_s | apply SKs0 | apply SKs2 | apply SKs1 | refine ⟨⟨rfl, rfl⟩, ?_⟩ | refine ⟨⟨rfl, ?_⟩, ?_⟩ | refine ⟨?_, ?_⟩ | (· (try simp only [go_sem, seval, reduceIte, ↓reduceIte, Bool.not_eq_true, reduceCtorEq, beq_false, beq_true, hn, hP, k1, w1, e1']); first | done | rfl)))) | apply T_seq | apply T_block | refine T_scopeJ 0 rfl ?_ | apply T_scope | apply T_goto | apply T_ret | apply T_skip | apply T_exit | apply T_label | refine T_condT rfl ?_ | refine T_condF rfl ?_ | refine T_condD rfl (fun _ => ?_) (fun _ => ?_) | refine T_cond rfl (fun _ => ?_) (fun _ => ?_))
      exact ends_ret rfl rfl rfl (by rw [← hdot]; rfl)
  · have hkn : k = N := by omega
    subst hkn
    rw [Nat.sub_self] at hdot
    simp only [dot] at hdot
    repeat' (first | apply T_then | apply then_ret | apply then_exit | apply then_goto | apply rnd_exit | apply rnd_ret | apply rnd_goto | apply noGo_normal | apply noGo_ret | apply noGo_exit | apply jmp_normal | apply jmp_ret | apply jmp_exit | apply jmp_goto | apply inB_normal | apply inB_ret | apply inB_goto | apply inB_exit | refine inB_exit_ne rfl ?_ | ((first | apply T_srK fw | apply T_regK fw); · ((try simp only [TOps.flat, List.cons_append, List.nil_append]); repeat (first | apply X_g0 | apply X_g | apply S_keep | apply X_skip | apply X_skipN | apply X_q | apply X_st | apply X_n | apply X_s | apply SKs0 | apply SKs2 | apply SKs1 | refine ⟨⟨rfl, rfl⟩, ?_⟩ | refine ⟨⟨rfl, ?_⟩, ?_⟩ | refine ⟨?_, ?_⟩ | (· (try simp only [go_sem, seval, reduceIte, ↓reduceIte, Bool.not_eq_true, reduceCtorEq, beq_false, beq_true, hn, hP, Int.lt_irrefl]); first | done | rfl)))) | apply T_seq | apply T_block | refine T_scopeJ 0 rfl ?_ | apply T_scope | apply T_goto | apply T_ret | apply T_skip | apply T_exit | apply T_label | refine T_condT rfl ?_ | refine T_condF rfl ?_ | refine T_condD rfl (fun _ => ?_) (fun _ => ?_) | refine T_cond rfl (fun _ => ?_) (fun _ => ?_))
    exact ends_ret rfl rfl rfl (by rw [← hdot]; rfl)

theorem p_ref07_Mul (s d t e : List Int) (hd : I64s d) (he : I64s e) : PureC Try.prog fi_fullerref07_Mul [dT s d, dT t e] (dTE (mulF s d t e)) := by
  refine pure_fullerref07_Mul (by simp) fun G hP hn => ?_
  unfold a_fullerref07_Mul
  cases hc1 : checkT s d
  · have hf : mulF s d t e = bad 30 := by unfold mulF; rw [if_neg (by simp [hc1])]
    cases hc2 : checkT t e
    all_goals
      repeat' (first | apply T_then | apply then_ret | apply then_exit | apply then_goto | apply rnd_exit | apply rnd_ret | apply rnd_goto | apply noGo_normal | apply noGo_ret | apply noGo_exit | apply jmp_normal | apply jmp_ret | apply jmp_exit | apply jmp_goto | apply inB_normal | apply inB_ret | apply inB_goto | apply inB_exit | refine inB_exit_ne rfl ?_ | ((first | apply T_srK fw | apply T_regK fw); · ((try simp only [TOps.flat, List.cons_append, List.nil_append]); repeat (first | apply X_g0 | apply X_g | apply S_keep | apply X_skip | apply X_skipN | refine X_call ?_ ⟨_, _, _, _, _, _, rfl, rfl, rfl, by rw [hP]; exact p_ref03_Check _ _⟩ ?_ | apply X_q | apply X_st | apply X_n | apply X_s | apply SKs0 | apply SKs2 | apply SKs1 | refine ⟨⟨rfl, rfl⟩, ?_⟩ | refine ⟨⟨rfl, ?_⟩, ?_⟩ | refine ⟨?_, ?_⟩ | (· (try simp only [go_sem, seval, reduceIte, ↓reduceIte, Bool.not_eq_true, reduceCtorEq, beq_false, beq_true, hn, hP, hc1, hc2]); first | done | rfl)))) | apply T_seq | apply T_block | refine T_scopeJ 0 rfl ?_ | apply T_scope | apply T_goto | apply T_ret | apply T_skip | apply T_exit | apply T_label | refine T_condT rfl ?_ | refine T_condF rfl ?_ | refine T_condD rfl (fun _ => ?_) (fun _ => ?_) | refine T_cond rfl (fun _ => ?_) (fun _ => ?_))
      exact ends_ret rfl rfl rfl (by rw [hf]; rfl)
  cases hc2 : checkT t e
  · have hf : mulF s d t e = bad 30 := by unfold mulF; rw [if_neg (by simp [hc2])]
    repeat' (first | apply T_then | apply then_ret | apply then_exit | apply then_goto | apply rnd_exit | apply rnd_ret | apply rnd_goto | apply noGo_normal | apply noGo_ret | apply noGo_exit | apply jmp_normal | apply jmp_ret | apply jmp_exit | apply jmp_goto | apply inB_normal | apply inB_ret | apply inB_goto | apply inB_exit | refine inB_exit_ne rfl ?_ | ((first | apply T_srK fw | apply T_regK fw); · ((try simp only [TOps.flat, List.cons_append, List.nil_append]); repeat (first | apply X_g0 | apply X_g | apply S_keep | apply X_skip | apply X_skipN | refine X_call ?_ ⟨_, _, _, _, _, _, rfl, rfl, rfl, by rw [hP]; exact p_ref03_Check _ _⟩ ?_ | apply X_q | apply X_st | apply X_n | apply X_s | apply SKs0 | apply SKs2 | apply SKs1 | refine ⟨⟨rfl, rfl⟩, ?_⟩ | refine ⟨⟨rfl, ?_⟩, ?_⟩ | refine ⟨?_, ?_⟩ | (· (try simp only [go_sem, seval, reduceIte, ↓reduceIte, Bool.not_eq_true, reduceCtorEq, beq_false, beq_true, hn, hP, hc1, hc2]); first | done | rfl)))) | apply T_seq | apply T_block | refine T_scopeJ 0 rfl ?_ | apply T_scope | apply T_goto | apply T_ret | apply T_skip | apply T_exit | apply T_label | refine T_condT rfl ?_ | refine T_condF rfl ?_ | refine T_condD rfl (fun _ => ?_) (fun _ => ?_) | refine T_cond rfl (fun _ => ?_) (fun _ => ?_))
    exact ends_ret rfl rfl rfl (by rw [hf]; rfl)
  have hcc : checkT s d = true ∧ checkT t e = true := ⟨hc1, hc2⟩
  have k1 := p_ref03_Check s d
  have k2 := p_ref03_Check t e
  rw [hc1] at k1
  rw [hc2] at k2
  by_cases hs2 : s.length = 2
  rotate_left
  · have hf : mulF s d t e = bad 20 := by
      unfold mulF; rw [if_pos hcc]
      match s, hs2 with
      | [], _ => rfl
      | [a], _ => rfl
      | a :: b :: c :: r, _ => rfl
      | [a, b], h => exact absurd rfl h
    have c1 : ((s.length : Int) != 2) = true := by simp; omega
    repeat' (first | apply T_then | apply then_ret | apply then_exit | apply then_goto | apply rnd_exit | apply rnd_ret | apply rnd_goto | apply noGo_normal | apply noGo_ret | apply noGo_exit | apply jmp_normal | apply jmp_ret | apply jmp_exit | apply jmp_goto | apply inB_normal | apply inB_ret | apply inB_goto | apply inB_exit | refine inB_exit_ne rfl ?_ | ((first | apply T_srK fw | apply T_regK fw); · ((try simp only [TOps.flat, List.cons_append, List.nil_append]); repeat (first | apply X_g0 | apply X_g | apply S_keep | apply X_skip | apply X_skipN | refine X_call ?_ ⟨_, _, _, _, _, _, rfl, rfl, rfl, by rw [hP]; exact k1⟩ ?_ | refine X_call ?_ ⟨_, _, _, _, _, _, rfl, rfl, rfl, by rw [hP]; exact k2⟩ ?_ | apply X_q | apply X_st | apply X_n | apply X_s | apply SKs0 | apply SKs2 | apply SKs1 | refine ⟨⟨rfl, rfl⟩, ?_⟩ | refine ⟨⟨rfl, ?_⟩, ?_⟩ | refine ⟨?_, ?_⟩ | (· (try simp only [go_sem, seval, reduceIte, ↓reduceIte, Bool.not_eq_true, reduceCtorEq, beq_false, beq_true, hn, hP, c1]); first | done | rfl)))) | ((first | apply T_sdF fw (by rw [hP]; rfl) (by decide +kernel) | apply T_drF fw (by rw [hP]; rfl) (by decide +kernel)); · ((try simp only [TOps.flat, List.cons_append, List.nil_append]); repeat (first | apply Y_g0 | apply Y_g | apply Y_skip | apply Y_q | refine Y_call ⟨_, _, _, _, _, _, rfl, rfl, rfl, by rw [hP]; exact k1⟩ ?_ ?_ | refine Y_call ⟨_, _, _, _, _, _, rfl, rfl, rfl, by rw [hP]; exact k2⟩ ?_ ?_ | refine RunF_nil (P := G.P) ?_ | (· (try simp only [go_sem, seval, reduceIte, ↓reduceIte, Bool.not_eq_true, reduceCtorEq, beq_false, beq_true, hn, hP, c1]); first | done | rfl)))) | apply T_seq | apply T_block | refine T_scopeJ 0 rfl ?_ | apply T_scope | apply T_goto | apply T_ret | apply T_skip | apply T_exit | apply T_label | refine T_condT rfl ?_ | refine T_condF rfl ?_ | refine T_condD rfl (fun _ => ?_) (fun _ => ?_) | refine T_cond rfl (fun _ => ?_) (fun _ => ?_))
    exact ends_ret rfl rfl rfl (by rw [hf]; rfl)
  by_cases ht2 : t.length = 2
  rotate_left
  · have hf : mulF s d t e = bad 20 := by
      unfold mulF; rw [if_pos hcc]
      match s, t, hs2, ht2 with
      | [a, b], [], _, _ => rfl
      | [a, b], [c], _, _ => rfl
      | [a, b], c :: f :: g :: r, _, _ => rfl
      | [a, b], [c, f], _, h => exact absurd rfl h
    have c1 : ((s.length : Int) != 2) = false := by simp; omega
    have c2 : ((t.length : Int) != 2) = true := by simp; omega
    repeat' (first | apply T_then | apply then_ret | apply then_exit | apply then_goto | apply rnd_exit | apply rnd_ret | apply rnd_goto | apply noGo_normal | apply noGo_ret | apply noGo_exit | apply jmp_normal | apply jmp_ret | apply jmp_exit | apply jmp_goto | apply inB_normal | apply inB_ret | apply inB_goto | apply inB_exit | refine inB_exit_ne rfl ?_ | ((first | apply T_srK fw | apply T_regK fw); · ((try simp only [TOps.flat, List.cons_append, List.nil_append]); repeat (first | apply X_g0 | apply X_g | apply S_keep | apply X_skip | apply X_skipN | refine X_call ?_ ⟨_, _, _, _, _, _, rfl, rfl, rfl, by rw [hP]; exact k1⟩ ?_ | refine X_call ?_ ⟨_, _, _, _, _, _, rfl, rfl, rfl, by rw [hP]; exact k2⟩ ?_ | apply X_q | apply X_st | apply X_n | apply X_s | apply SKs0 | apply SKs2 | apply SKs1 | refine ⟨⟨rfl, rfl⟩, ?_⟩ | refine ⟨⟨rfl, ?_⟩, ?_⟩ | refine ⟨?_, ?_⟩ | (· (try simp only [go_sem, seval, reduceIte, ↓reduceIte, Bool.not_eq_true, reduceCtorEq, beq_false, beq_true, hn, hP, c1, c2]); first | done | rfl)))) | ((first | apply T_sdF fw (by rw [hP]; rfl) (by decide +kernel) | apply T_drF fw (by rw [hP]; rfl) (by decide +kernel)); · ((try simp only [TOps.flat, List.cons_append, List.nil_append]); repeat (first | apply Y_g0 | apply Y_g | apply Y_skip | apply Y_q | refine Y_call ⟨_, _, _, _, _, _, rfl, rfl, rfl, by rw [hP]; exact k1⟩ ?_ ?_ | refine Y_call ⟨_, _, _, _, _, _, rfl, rfl, rfl, by rw [hP]; exact k2⟩ ?_ ?_ | refine RunF_nil (P := G.P) ?_ | (· (try simp only [go_sem, seval, reduceIte, ↓reduceIte, Bool.not_eq_true, reduceCtorEq, beq_false, beq_true, hn, hP, c1, c2]); first | done | rfl)))) | apply T_seq | apply T_block | refine T_scopeJ 0 rfl ?_ | apply T_scope | apply T_goto | apply T_ret | apply T_skip | apply T_exit | apply T_label | refine T_condT rfl ?_ | refine T_condF rfl ?_ | refine T_condD rfl (fun _ => ?_) (fun _ => ?_) | refine T_cond rfl (fun _ => ?_) (fun _ => ?_))
    exact ends_ret rfl rfl rfl (by rw [hf]; rfl)
  obtain ⟨m, n, rfl⟩ : ∃ m n, s = [m, n] := match s, hs2 with | [a, b], _ => ⟨a, b, rfl⟩
  obtain ⟨n', p, rfl⟩ : ∃ m n, t = [m, n] := match t, ht2 with | [a, b], _ => ⟨a, b, rfl⟩
  cases hnn : (n != n')
  rotate_left
  · have hne : ¬ n = n' := by simpa using hnn
    have hf : mulF [m, n] d [n', p] e = bad 20 := by
      unfold mulF; rw [if_pos hcc]; simp only; rw [if_neg (fun h => hne h.1)]
    repeat' (first | apply T_then | apply then_ret | apply then_exit | apply then_goto | apply rnd_exit | apply rnd_ret | apply rnd_goto | apply noGo_normal | apply noGo_ret | apply noGo_exit | apply jmp_normal | apply jmp_ret | apply jmp_exit | apply jmp_goto | apply inB_normal | apply inB_ret | apply inB_goto | apply inB_exit | refine inB_exit_ne rfl ?_ | ((first | apply T_srK fw | apply T_regK fw); · ((try simp only [TOps.flat, List.cons_append, List.nil_append]); repeat (first | apply X_g0 | apply X_g | apply S_keep | apply X_skip | apply X_skipN | refine X_call ?_ ⟨_, _, _, _, _, _, rfl, rfl, rfl, by rw [hP]; exact k1⟩ ?_ | refine X_call ?_ ⟨_, _, _, _, _, _, rfl, rfl, rfl, by rw [hP]; exact k2⟩ ?_ | apply X_q | apply X_st | apply X_n | apply X_s | apply SKs0 | apply SKs2 | apply SKs1 | refine ⟨⟨rfl, rfl⟩, ?_⟩ | refine ⟨⟨rfl, ?_⟩, ?_⟩ | refine ⟨?_, ?_⟩ | (· (try simp only [go_sem, seval, reduceIte, ↓reduceIte, Bool.not_eq_true, reduceCtorEq, beq_false, beq_true, hn, hP, hnn]); first | done | rfl)))) | ((first | apply T_sdF fw (by rw [hP]; rfl) (by decide +kernel) | apply T_drF fw (by rw [hP]; rfl) (by decide +kernel)); · ((try simp only [TOps.flat, List.cons_append, List.nil_append]); repeat (first | apply Y_g0 | apply Y_g | apply Y_skip | apply Y_q | refine Y_call ⟨_, _, _, _, _, _, rfl, rfl, rfl, by rw [hP]; exact k1⟩ ?_ ?_ | refine Y_call ⟨_, _, _, _, _, _, rfl, rfl, rfl, by rw [hP]; exact k2⟩ ?_ ?_ | refine RunF_nil (P := G.P) ?_ | (· (try simp only [go_sem, seval, reduceIte, ↓reduceIte, Bool.not_eq_true, reduceCtorEq, beq_false, beq_true, hn, hP, hnn]); first | done | rfl)))) | apply T_seq | apply T_block | refine T_scopeJ 0 rfl ?_ | apply T_scope | apply T_goto | apply T_ret | apply T_skip | apply T_exit | apply T_label | refine T_condT rfl ?_ | refine T_condF rfl ?_ | refine T_condD rfl (fun _ => ?_) (fun _ => ?_) | refine T_cond rfl (fun _ => ?_) (fun _ => ?_))
    exact ends_ret rfl rfl rfl (by rw [hf]; rfl)
  obtain rfl : n = n' := by simpa using hnn
  cases hck : checkS [m, p]
  · have hf : mulF [m, n] d [n, p] e = bad 20 := by
      unfold mulF; rw [if_pos hcc]; simp only; rw [if_neg (fun h => by rw [hck] at h; cases h.2)]
    have kc := p_ref02_Check [m, p]
    repeat' (first | apply T_then | apply then_ret | apply then_exit | apply then_goto | apply rnd_exit | apply rnd_ret | apply rnd_goto | apply noGo_normal | apply noGo_ret | apply noGo_exit | apply jmp_normal | apply jmp_ret | apply jmp_exit | apply jmp_goto | apply inB_normal | apply inB_ret | apply inB_goto | apply inB_exit | refine inB_exit_ne rfl ?_ | ((first | apply T_srK fw | apply T_regK fw); · ((try simp only [TOps.flat, List.cons_append, List.nil_append]); repeat (first | apply X_g0 | apply X_g | apply S_keep | apply X_skip | apply X_skipN | refine X_call ?_ ⟨_, _, _, _, _, _, rfl, rfl, rfl, by rw [hP]; exact k1⟩ ?_ | refine X_call ?_ ⟨_, _, _, _, _, _, rfl, rfl, rfl, by rw [hP]; exact k2⟩ ?_ | refine X_call ?_ ⟨_, _, _, _, _, _, rfl, rfl, rfl, by rw [hP]; exact kc⟩ ?_ | apply X_q | apply X_st | apply X_n | apply X_s | apply SKs0 | apply SKs2 | apply SKs1 | refine ⟨⟨rfl, rfl⟩, ?_⟩ | refine ⟨⟨rfl, ?_⟩, ?_⟩ | refine ⟨?_, ?_⟩ | (· (try simp only [go_sem, seval, reduceIte, ↓reduceIte, Bool.not_eq_true, reduceCtorEq, beq_false, beq_true, hn, hP, hnn, hck]); first | done | rfl)))) | ((first | apply T_sdF fw (by rw [hP]; rfl) (by decide +kernel) | apply T_drF fw (by rw [hP]; rfl) (by decide +kernel)); · ((try simp only [TOps.flat, List.cons_append, List.nil_append]); repeat (first | apply Y_g0 | apply Y_g | apply Y_skip | apply Y_q | refine Y_call ⟨_, _, _, _, _, _, rfl, rfl, rfl, by rw [hP]; exact k1⟩ ?_ ?_ | refine Y_call ⟨_, _, _, _, _, _, rfl, rfl, rfl, by rw [hP]; exact k2⟩ ?_ ?_ | refine Y_call ⟨_, _, _, _, _, _, rfl, rfl, rfl, by rw [hP]; exact kc⟩ ?_ ?_ | refine RunF_nil (P := G.P) ?_ | (· (try simp only [go_sem, seval, reduceIte, ↓reduceIte, Bool.not_eq_true, reduceCtorEq, beq_false, beq_true, hn, hP, hnn, hck]); first | done | rfl)))) | ((first | apply T_sd fw (by rw [hP]; rfl) | apply T_dr fw (by rw [hP]; rfl)); · ((try simp only [go_sem, seval, reduceIte, ↓reduceIte, bne, beq_false, beq_true, Bool.not_eq_true, Bool.if_true_right, decide_not, reduceCtorEq, hP, hnn, hck]); (repeat ((first       | (refine ⟨_, ⟨_, _, _, _, _, _, rfl, rfl, rfl, k1⟩, ?_⟩)       | (refine ⟨_, ⟨_, _, _, _, _, _, rfl, rfl, rfl, k2⟩, ?_⟩)       | (refine ⟨_, ⟨_, _, _, _, _, _, rfl, rfl, rfl, kc⟩, ?_⟩)); (try simp only [go_sem, seval, reduceIte, ↓reduceIte, bne, beq_false, beq_true, Bool.not_eq_true, Bool.if_true_right, decide_not, reduceCtorEq, hP, hnn, hck]))); (first | done | exact rfl))) | apply T_seq | apply T_block | refine T_scopeJ 0 rfl ?_ | apply T_scope | apply T_goto | apply T_ret | apply T_skip | apply T_exit | apply T_label | refine T_condT rfl ?_ | refine T_condF rfl ?_ | refine T_condD rfl (fun _ => ?_) (fun _ => ?_) | refine T_cond rfl (fun _ => ?_) (fun _ => ?_))
    exact ends_ret rfl rfl rfl (by rw [hf]; rfl)
  have hsd := checkT_iff.1 hc1
  have hte := checkT_iff.1 hc2
  have hm1 : 1 ≤ m ∧ m ≤ 16 := hsd.1.2.1 m (by simp)
  have hn1 : 1 ≤ n ∧ n ≤ 16 := hsd.1.2.1 n (by simp)
  have hp1 : 1 ≤ p ∧ p ≤ 16 := hte.1.2.1 p (by simp)
  obtain ⟨M, rfl⟩ := Int.eq_ofNat_of_zero_le (by omega : 0 ≤ m)
  obtain ⟨N, rfl⟩ := Int.eq_ofNat_of_zero_le (by omega : 0 ≤ n)
  obtain ⟨K, rfl⟩ := Int.eq_ofNat_of_zero_le (by omega : 0 ≤ p)
  have hMK : M * K ≤ 16 * 16 := Nat.mul_le_mul (by omega) (by omega)
  have hmul : mulF [(M : Int), (N : Int)] d [(N : Int), (K : Int)] e = if (coll (cell N K d e) (M * K) 0 []).2 = 0 then (([(M : Int), (K : Int)], (coll (cell N K d e) (M * K) 0 []).1), 0) else bad (coll (cell N K d e) (M * K) 0 []).2 := by
    have e1 : ((M : Int) * (K : Int)).toNat = M * K := by rw [← Int.natCast_mul]; omega
    unfold mulF; rw [if_pos hcc]; simp only [Int.toNat_natCast, e1]; rw [if_pos ⟨trivial, hck⟩]
  have fin2 : ∀ er : Int, coll (cell N K d e) (M * K) 0 [] = ([], er) → er ≠ 0 → mulF [(M : Int), (N : Int)] d [(N : Int), (K : Int)] e = bad er := fun er h1 h2 => by rw [hmul, h1]; exact if_neg h2
  have kc := p_ref02_Check [(M : Int), (K : Int)]
  repeat' (first | apply T_then | apply then_ret | apply then_exit | apply then_goto | apply rnd_exit | apply rnd_ret | apply rnd_goto | apply noGo_normal | apply noGo_ret | apply noGo_exit | apply jmp_normal | apply jmp_ret | apply jmp_exit | apply jmp_goto | apply inB_normal | apply inB_ret | apply inB_goto | apply inB_exit | refine inB_exit_ne rfl ?_ | ((first | apply T_srK fw | apply T_regK fw); · ((try simp only [TOps.flat, List.cons_append, List.nil_append]); repeat (first | apply X_g0 | apply X_g | apply S_keep | apply X_skip | apply X_skipN | refine X_call ?_ ⟨_, _, _, _, _, _, rfl, rfl, rfl, by rw [hP]; exact k1⟩ ?_ | refine X_call ?_ ⟨_, _, _, _, _, _, rfl, rfl, rfl, by rw [hP]; exact k2⟩ ?_ | refine X_call ?_ ⟨_, _, _, _, _, _, rfl, rfl, rfl, by rw [hP]; exact kc⟩ ?_ | apply X_q | apply X_st | apply X_n | apply X_s | apply SKs0 | apply SKs2 | apply SKs1 | refine ⟨⟨rfl, rfl⟩, ?_⟩ | refine ⟨⟨rfl, ?_⟩, ?_⟩ | refine ⟨?_, ?_⟩ | (· (try simp only [go_sem, seval, reduceIte, ↓reduceIte, Bool.not_eq_true, reduceCtorEq, beq_false, beq_true, hn, hP, hnn, hck]); first | done | rfl)))) | ((first | apply T_sdF fw (by rw [hP]; rfl) (by decide +kernel) | apply T_drF fw (by rw [hP]; rfl) (by decide +kernel)); · ((try simp only [TOps.flat, List.cons_append, List.nil_append]); repeat (first | apply Y_g0 | apply Y_g | apply Y_skip | apply Y_q | refine Y_call ⟨_, _, _, _, _, _, rfl, rfl, rfl, by rw [hP]; exact k1⟩ ?_ ?_ | refine Y_call ⟨_, _, _, _, _, _, rfl, rfl, rfl, by rw [hP]; exact k2⟩ ?_ ?_ | refine Y_call ⟨_, _, _, _, _, _, rfl, rfl, rfl, by rw [hP]; exact kc⟩ ?_ ?_ | refine RunF_nil (P := G.P) ?_ | (· (try simp only [go_sem, seval, reduceIte, ↓reduceIte, Bool.not_eq_true, reduceCtorEq, beq_false, beq_true, hn, hP, hnn, hck]); first | done | rfl)))) | ((first | apply T_sd fw (by rw [hP]; rfl) | apply T_dr fw (by rw [hP]; rfl)); · ((try simp only [go_sem, seval, reduceIte, ↓reduceIte, bne, beq_false, beq_true, Bool.not_eq_true, Bool.if_true_right, decide_not, reduceCtorEq, hP, hnn, hck]); (repeat ((first       | (refine ⟨_, ⟨_, _, _, _, _, _, rfl, rfl, rfl, k1⟩, ?_⟩)       | (refine ⟨_, ⟨_, _, _, _, _, _, rfl, rfl, rfl, k2⟩, ?_⟩)       | (refine ⟨_, ⟨_, _, _, _, _, _, rfl, rfl, rfl, kc⟩, ?_⟩)); (try simp only [go_sem, seval, reduceIte, ↓reduceIte, bne, beq_false, beq_true, Bool.not_eq_true, Bool.if_true_right, decide_not, reduceCtorEq, hP, hnn, hck]))); (first | done | exact rfl))) | apply T_seq | apply T_block | refine T_scopeJ 0 rfl ?_ | apply T_scope | apply T_goto | apply T_ret | apply T_skip | apply T_exit | apply T_label | refine T_condT rfl ?_ | refine T_condF rfl ?_ | refine T_condD rfl (fun _ => ?_) (fun _ => ?_) | refine T_cond rfl (fun _ => ?_) (fun _ => ?_))
  refine T_weak (Weak.nilC 8 100 1 1 rfl rfl rfl rfl) ?_
  refine T_for M (fun i acc => { env := [(2, .one (.ptr 2 0 2 0)), (3, .one (.ptr 3 0 2 0)), (4, .one (.ptr 4 0 2 0)), (8, .one (.ptr 8 0 2 0)), (10, .one (.p (.int .i64 i)))], σ := [(2, .cells true [.p (eI [(M : Int), (N : Int)]), .p (eI d)]), (3, .cells true [.p (eI [(N : Int), (K : Int)]), .p (eI e)]), (4, .cells true [.nils, .nils]), (8, .cells true [.msl 55 0 1 2 none, .msl 100 0 1 (i * K) none]), (55, .arr false 1 [[.int .i64 M], [.int .i64 K]]), (100, .arr true 1 (rI acc))] })
    (fun i acc => acc.length = i * K ∧ coll (cell N K d e) (M * K - i * K) (i * K) acc = coll (cell N K d e) (M * K) 0 []) [] ⟨by simp, by simp⟩ ?_ fun i acc hi hc => ?_
  · refine (Weak.pick [2, 3, 4, 8, 10]).trans (Weak.sub fun p hp => ?_)
    simp only [List.mem_cons, List.not_mem_nil, or_false] at hp
    rcases hp with rfl | rfl | rfl | rfl | rfl | rfl
    · rfl
    · rfl
    · rfl
    · simp [lo]
    · rfl
    · rfl
  obtain ⟨hal, hcol⟩ := hc
  by_cases hiM : i < M
  · have c1 : (i : Int) < (M : Int) := by omega
    have w1 : IntKind.i64.wrap ((i : Int) + 1) = ((i + 1 : Nat) : Int) := by rw [wrap_in (by omega) (by omega)]; rfl
    repeat' (first | apply T_then | apply then_ret | apply then_exit | apply then_goto | apply rnd_exit | apply rnd_ret | apply rnd_goto | apply noGo_normal | apply noGo_ret | apply noGo_exit | apply jmp_normal | apply jmp_ret | apply jmp_exit | apply jmp_goto | apply inB_normal | apply inB_ret | apply inB_goto | apply inB_exit | refine inB_exit_ne rfl ?_ | ((first | apply T_srK fw | apply T_regK fw); · ((try simp only [TOps.flat, List.cons_append, List.nil_append]); repeat (first | apply X_g0 | apply X_g | apply S_keep | apply X_skip | apply X_skipN | apply X_q | apply X_st | apply X_n | apply X_s | apply SKs0 | apply SKs2 | apply SKs1 | refine ⟨⟨rfl, rfl⟩, ?_⟩ | refine ⟨⟨rfl, ?_⟩, ?_⟩ | refine ⟨?_, ?_⟩ | (· (try simp only [go_sem, seval, reduceIte, ↓reduceIte, Bool.not_eq_true, reduceCtorEq, beq_false, beq_true, hn, hP, c1]); first | done | rfl)))) | apply T_seq | apply T_block | refine T_scopeJ 0 rfl ?_ | apply T_scope | apply T_goto | apply T_ret | apply T_skip | apply T_exit | apply T_label | refine T_condT rfl ?_ | refine T_condF rfl ?_ | refine T_condD rfl (fun _ => ?_) (fun _ => ?_) | refine T_cond rfl (fun _ => ?_) (fun _ => ?_))
    have hiK : (i + 1) * K ≤ M * K := Nat.mul_le_mul_right K hiM
    rw [Nat.succ_mul] at hiK
    refine T_for K (fun j acc => { env := [(2, .one (.ptr 2 0 2 0)), (3, .one (.ptr 3 0 2 0)), (4, .one (.ptr 4 0 2 0)), (8, .one (.ptr 8 0 2 0)), (10, .one (.p (.int .i64 i))), (11, .one (.p (.int .i64 j)))], σ := [(2, .cells true [.p (eI [(M : Int), (N : Int)]), .p (eI d)]), (3, .cells true [.p (eI [(N : Int), (K : Int)]), .p (eI e)]), (4, .cells true [.nils, .nils]), (8, .cells true [.msl 55 0 1 2 none, .msl 100 0 1 (i * K + j) none]), (55, .arr false 1 [[.int .i64 M], [.int .i64 K]]), (100, .arr true 1 (rI acc))] })
      (fun j acc => acc.length = i * K + j ∧ coll (cell N K d e) (M * K - (i * K + j)) (i * K + j) acc = coll (cell N K d e) (M * K) 0 []) acc ⟨by simp [hal], by simpa using hcol⟩ ?_ fun j acc2 hj hc2' => ?_
    · refine (Weak.pick [2, 3, 4, 8, 10, 11]).trans (Weak.sub fun p hp => ?_)
      simp only [List.mem_cons, List.not_mem_nil, or_false] at hp
      rcases hp with rfl | rfl | rfl | rfl | rfl | rfl <;> rfl
    obtain ⟨hal2, hcol2⟩ := hc2'
    by_cases hjK : j < K
    · have c2 : (j : Int) < (K : Int) := by omega
      have w2 : IntKind.i64.wrap ((j : Int) + 1) = ((j + 1 : Nat) : Int) := by rw [wrap_in (by omega) (by omega)]; rfl
      have kn := p_ref07_number hd he hc1 hc2 hiM hjK
      have hcell : cell N K d e (i * K + j) = dot (fun k => gt d (i * N + k)) (fun k => gt e (k * K + j)) N 0 0 := by
        unfold cell
        have h1 : (i * K + j) / K = i := by rw [Nat.mul_comm, Nat.mul_add_div (by omega), Nat.div_eq_of_lt hjK]; omega
        have h2 : (i * K + j) % K = j := by rw [Nat.mul_comm, Nat.mul_add_mod, Nat.mod_eq_of_lt hjK]
        rw [h1, h2]
      rw [← hcell] at kn
      rw [show M * K - (i * K + j) = (M * K - (i * K + j + 1)) + 1 from by omega] at hcol2
      simp only [coll] at hcol2
      generalize cell N K d e (i * K + j) = r at *
      by_cases e1 : r.2 = 0
      · rw [if_pos e1] at hcol2
        have e1' : (r.2 != 0) = false := by simp [e1]
        have c4 : (i * K + j + 1) * 8 ≤ 2 ^ 40 := by omega
        have c5 : i * K + j + 1 ≤ 2 ^ 40 := by omega
        repeat' (first | apply T_then | apply then_ret | apply then_exit | apply then_goto | apply rnd_exit | apply rnd_ret | apply rnd_goto | apply noGo_normal | apply noGo_ret | apply noGo_exit | apply jmp_normal | apply jmp_ret | apply jmp_exit | apply jmp_goto | apply inB_normal | apply inB_ret | apply inB_goto | apply inB_exit | refine inB_exit_ne rfl ?_ | ((first | apply T_srK fw | apply T_regK fw); · ((try simp only [TOps.flat, List.cons_append, List.nil_append]); repeat (first | apply X_g0 | apply X_g | apply S_keep | apply X_skip | apply X_skipN | refine X_call ?_ ⟨_, _, _, _, _, _, rfl, rfl, rfl, by rw [hP]; exact kn⟩ ?_ | apply X_q | apply X_st | apply X_n | apply X_s | apply SKs0 | apply SKs2 | apply SKs1 | refine ⟨⟨rfl, rfl⟩, ?_⟩ | refine ⟨⟨rfl, ?_⟩, ?_⟩ | refine ⟨?_, ?_⟩ | (· (try simp only [go_sem, seval, reduceIte, ↓reduceIte, Bool.not_eq_true, reduceCtorEq, beq_false, beq_true, hn, hP, c2, w2, e1', hal2, c4, c5]); first | done | rfl)))) | apply T_seq | apply T_block | refine T_scopeJ 0 rfl ?_ | apply T_scope | apply T_goto | apply T_ret | apply T_skip | apply T_exit | apply T_label | refine T_condT rfl ?_ | refine T_condF rfl ?_ | refine T_condD rfl (fun _ => ?_) (fun _ => ?_) | refine T_cond rfl (fun _ => ?_) (fun _ => ?_))
        refine rnd_next hjK (acc2 ++ [r.1]) ⟨by simp [hal2]; omega, hcol2⟩ (Weak.sub fun p hp => ?_)
        simp only [List.mem_cons, List.not_mem_nil, or_false] at hp
        rcases hp with rfl | rfl | rfl | rfl | rfl | rfl
        · rfl
        · rfl
        · rfl
        · rfl
        · rfl
        · simp [lo, rI]
      · rw [if_neg e1] at hcol2
        have e1' : (r.2 != 0) = true := by simp [e1]
        have hf := fin2 _ hcol2.symm e1
        repeat' (first | apply T_then | apply then_ret | apply then_exit | apply then_goto | apply rnd_exit | apply rnd_ret | apply rnd_goto | apply noGo_normal | apply noGo_ret | apply noGo_exit | apply jmp_normal | apply jmp_ret | apply jmp_exit | apply jmp_goto | apply inB_normal | apply inB_ret | apply inB_goto | apply inB_exit | refine inB_exit_ne rfl ?_ | ((first | apply T_srK fw | apply T_regK fw); · ((try simp only [TOps.flat, List.cons_append, List.nil_append]); repeat (first | apply X_g0 | apply X_g | apply S_keep | apply X_skip | apply X_skipN | refine X_call ?_ ⟨_, _, _, _, _, _, rfl, rfl, rfl, by rw [hP]; exact kn⟩ ?_ | apply X_q | apply X_st | apply X_n | apply X_s | apply SKs0 | apply SKs2 | apply SKs1 | refine ⟨⟨rfl, rfl⟩, ?_⟩ | refine ⟨⟨rfl, ?_⟩, ?_⟩ | refine ⟨?_, ?_⟩ | (· (try simp only [go_sem, seval, reduceIte, ↓reduceIte, Bool.not_eq_true, reduceCtorEq, beq_false, beq_true, hn, hP, c2, w2, e1']); first | done | rfl)))) | apply T_seq | apply T_block | refine T_scopeJ 0 rfl ?_ | apply T_scope | apply T_goto | apply T_ret | apply T_skip | apply T_exit | apply T_label | refine T_condT rfl ?_ | refine T_condF rfl ?_ | refine T_condD rfl (fun _ => ?_) (fun _ => ?_) | refine T_cond rfl (fun _ => ?_) (fun _ => ?_))
        exact ends_ret rfl rfl rfl (by rw [hf]; rfl)
    · have hjn : j = K := by omega
      subst hjn
      repeat' (first | apply T_then | apply then_ret | apply then_exit | apply then_goto | apply rnd_exit | apply rnd_ret | apply rnd_goto | apply noGo_normal | apply noGo_ret | apply noGo_exit | apply jmp_normal | apply jmp_ret | apply jmp_exit | apply jmp_goto | apply inB_normal | apply inB_ret | apply inB_goto | apply inB_exit | refine inB_exit_ne rfl ?_ | ((first | apply T_srK fw | apply T_regK fw); · ((try simp only [TOps.flat, List.cons_append, List.nil_append]); repeat (first | apply X_g0 | apply X_g | apply S_keep | apply X_skip | apply X_skipN | apply X_q | apply X_st | apply X_n | apply X_s | apply SKs0 | apply SKs2 | apply SKs1 | refine ⟨⟨rfl, rfl⟩, ?_⟩ | refine ⟨⟨rfl, ?_⟩, ?_⟩ | refine ⟨?_, ?_⟩ | (· (try simp only [go_sem, seval, reduceIte, ↓reduceIte, Bool.not_eq_true, reduceCtorEq, beq_false, beq_true, hn, hP, Int.lt_irrefl, w1]); first | done | rfl)))) | apply T_seq | apply T_block | refine T_scopeJ 0 rfl ?_ | apply T_scope | apply T_goto | apply T_ret | apply T_skip | apply T_exit | apply T_label | refine T_condT rfl ?_ | refine T_condF rfl ?_ | refine T_condD rfl (fun _ => ?_) (fun _ => ?_) | refine T_cond rfl (fun _ => ?_) (fun _ => ?_))
      refine rnd_next hiM acc2 ⟨by rw [hal2, Nat.succ_mul], by rw [Nat.succ_mul]; exact hcol2⟩ (Weak.sub fun p hp => ?_)
      simp only [List.mem_cons, List.not_mem_nil, or_false] at hp
      rcases hp with rfl | rfl | rfl | rfl | rfl | rfl
      · rfl
      · rfl
      · rfl
      · simp [lo, Nat.succ_mul]
      · rfl
      · rfl
  · have hin : i = M := by omega
    subst hin
    rw [Nat.sub_self] at hcol
    simp only [coll] at hcol
    repeat' (first | apply T_then | apply then_ret | apply then_exit | apply then_goto | apply rnd_exit | apply rnd_ret | apply rnd_goto | apply noGo_normal | apply noGo_ret | apply noGo_exit | apply jmp_normal | apply jmp_ret | apply jmp_exit | apply jmp_goto | apply inB_normal | apply inB_ret | apply inB_goto | apply inB_exit | refine inB_exit_ne rfl ?_ | ((first | apply T_srK fw | apply T_regK fw); · ((try simp only [TOps.flat, List.cons_append, List.nil_append]); repeat (first | apply X_g0 | apply X_g | apply S_keep | apply X_skip | apply X_skipN | apply X_q | apply X_st | apply X_n | apply X_s | apply SKs0 | apply SKs2 | apply SKs1 | refine ⟨⟨rfl, rfl⟩, ?_⟩ | refine ⟨⟨rfl, ?_⟩, ?_⟩ | refine ⟨?_, ?_⟩ | (· (try simp only [go_sem, seval, reduceIte, ↓reduceIte, Bool.not_eq_true, reduceCtorEq, beq_false, beq_true, hn, hP, Int.lt_irrefl]); first | done | rfl)))) | apply T_seq | apply T_block | refine T_scopeJ 0 rfl ?_ | apply T_scope | apply T_goto | apply T_ret | apply T_skip | apply T_exit | apply T_label | refine T_condT rfl ?_ | refine T_condF rfl ?_ | refine T_condD rfl (fun _ => ?_) (fun _ => ?_) | refine T_cond rfl (fun _ => ?_) (fun _ => ?_))
    rw [hmul, ← hcol]
    exact ends_aggMM rfl rfl rfl rfl (by simp [hal])
end Go.AM

namespace Go.AM
open Go Go.Proofs
set_option maxRecDepth 100000
set_option maxHeartbeats 4000000
set_option linter.unusedSimpArgs false
set_option linter.unusedVariables false

theorem c_refTurn {s d : List Int} (h : checkT s d = true) : PureC Try.prog fi_fullerref05_Turn [dT s d] (.tup [dT s.reverse (turnF s d).1.2, dN 0]) := by
  have := p_ref05_Turn s d
  have e : turnF s d = ((s.reverse, (turnF s d).1.2), 0) := by unfold turnF; rw [if_pos h]
  rw [e] at this; exact this

theorem p_ref07_Left (s d t e : List Int) (hd : I64s d) (he : I64s e) : PureC Try.prog fi_fullerref07_Left [dT s d, dT t e] (dTE (leftF s d t e)) := by
  refine pure_fullerref07_Left (by simp) fun G hP hn => ?_
  unfold a_fullerref07_Left
  by_cases hc : checkT t e = true ∧ checkT s d = true
  · have k1 := p_ref03_Check s d
    have k2 := p_ref03_Check t e
    rw [hc.2] at k1
    rw [hc.1] at k2
    by_cases ht : t.length = 2
    · have hf : leftF s d t e = mulF s d t.reverse (turnF t e).1.2 := by unfold leftF; rw [if_pos hc, if_pos ht]
      have kt := c_refTurn hc.1
      have kmul := p_ref07_Mul s d t.reverse (turnF t e).1.2 hd (turnF_range he)
      generalize (turnF t e).1.2 = e' at *
      have c1 : ((t.length : Int) != 2) = false := by simp; omega
      repeat' (first | apply T_then | apply then_ret | apply then_exit | apply then_goto | apply rnd_exit | apply rnd_ret | apply rnd_goto | apply noGo_normal | apply noGo_ret | apply noGo_exit | apply jmp_normal | apply jmp_ret | apply jmp_exit | apply jmp_goto | apply inB_normal | apply inB_ret | apply inB_goto | apply inB_exit | refine inB_exit_ne rfl ?_ | ((first | apply T_srK fw | apply T_regK fw); · ((try simp only [TOps.flat, List.cons_append, List.nil_append]); repeat (first | apply X_g0 | apply X_g | apply S_keep | apply X_skip | apply X_skipN | refine X_call ?_ ⟨_, _, _, _, _, _, rfl, rfl, rfl, by rw [hP]; exact k1⟩ ?_ | refine X_call ?_ ⟨_, _, _, _, _, _, rfl, rfl, rfl, by rw [hP]; exact k2⟩ ?_ | refine X_call ?_ ⟨_, _, _, _, _, _, rfl, rfl, rfl, by rw [hP]; exact kt⟩ ?_ | refine X_call ?_ ⟨_, _, _, _, _, _, rfl, rfl, rfl, by rw [hP]; exact kmul⟩ ?_ | apply X_q | apply X_st | apply X_n | apply X_s | apply SKs0 | apply SKs2 | apply SKs1 | refine ⟨⟨rfl, rfl⟩, ?_⟩ | refine ⟨⟨rfl, ?_⟩, ?_⟩ | refine ⟨?_, ?_⟩ | (· (try simp only [go_sem, seval, reduceIte, ↓reduceIte, Bool.not_eq_true, reduceCtorEq, beq_false, beq_true, hn, hP, c1]); first | done | rfl)))) | apply T_seq | apply T_block | refine T_scopeJ 0 rfl ?_ | apply T_scope | apply T_goto | apply T_ret | apply T_skip | apply T_exit | apply T_label | refine T_condT rfl ?_ | refine T_condF rfl ?_ | refine T_condD rfl (fun _ => ?_) (fun _ => ?_) | refine T_cond rfl (fun _ => ?_) (fun _ => ?_))
      exact ends_ret rfl rfl rfl (by rw [hf]; rfl)
    · have hf : leftF s d t e = bad 20 := by unfold leftF; rw [if_pos hc, if_neg ht]
      have c1 : ((t.length : Int) != 2) = true := by simp; omega
      repeat' (first | apply T_then | apply then_ret | apply then_exit | apply then_goto | apply rnd_exit | apply rnd_ret | apply rnd_goto | apply noGo_normal | apply noGo_ret | apply noGo_exit | apply jmp_normal | apply jmp_ret | apply jmp_exit | apply jmp_goto | apply inB_normal | apply inB_ret | apply inB_goto | apply inB_exit | refine inB_exit_ne rfl ?_ | ((first | apply T_srK fw | apply T_regK fw); · ((try simp only [TOps.flat, List.cons_append, List.nil_append]); repeat (first | apply X_g0 | apply X_g | apply S_keep | apply X_skip | apply X_skipN | refine X_call ?_ ⟨_, _, _, _, _, _, rfl, rfl, rfl, by rw [hP]; exact k1⟩ ?_ | refine X_call ?_ ⟨_, _, _, _, _, _, rfl, rfl, rfl, by rw [hP]; exact k2⟩ ?_ | apply X_q | apply X_st | apply X_n | apply X_s | apply SKs0 | apply SKs2 | apply SKs1 | refine ⟨⟨rfl, rfl⟩, ?_⟩ | refine ⟨⟨rfl, ?_⟩, ?_⟩ | refine ⟨?_, ?_⟩ | (· (try simp only [go_sem, seval, reduceIte, ↓reduceIte, Bool.not_eq_true, reduceCtorEq, beq_false, beq_true, hn, hP, c1]); first | done | rfl)))) | apply T_seq | apply T_block | refine T_scopeJ 0 rfl ?_ | apply T_scope | apply T_goto | apply T_ret | apply T_skip | apply T_exit | apply T_label | refine T_condT rfl ?_ | refine T_condF rfl ?_ | refine T_condD rfl (fun _ => ?_) (fun _ => ?_) | refine T_cond rfl (fun _ => ?_) (fun _ => ?_))
      exact ends_ret rfl rfl rfl (by rw [hf]; rfl)
  · have hf : leftF s d t e = bad 30 := by unfold leftF; rw [if_neg hc]
    cases h1 : checkT s d <;> cases h2 : checkT t e
    rotate_right
    · exact absurd ⟨h2, h1⟩ hc
    all_goals
      repeat' (first | apply T_then | apply then_ret | apply then_exit | apply then_goto | apply rnd_exit | apply rnd_ret | apply rnd_goto | apply noGo_normal | apply noGo_ret | apply noGo_exit | apply jmp_normal | apply jmp_ret | apply jmp_exit | apply jmp_goto | apply inB_normal | apply inB_ret | apply inB_goto | apply inB_exit | refine inB_exit_ne rfl ?_ | ((first | apply T_srK fw | apply T_regK fw); · ((try simp only [TOps.flat, List.cons_append, List.nil_append]); repeat (first | apply X_g0 | apply X_g | apply S_keep | apply X_skip | apply X_skipN | refine X_call ?_ ⟨_, _, _, _, _, _, rfl, rfl, rfl, by rw [hP]; exact p_ref03_Check _ _⟩ ?_ | apply X_q | apply X_st | apply X_n | apply X_s | apply SKs0 | apply SKs2 | apply SKs1 | refine ⟨⟨rfl, rfl⟩, ?_⟩ | refine ⟨⟨rfl, ?_⟩, ?_⟩ | refine ⟨?_, ?_⟩ | (· (try simp only [go_sem, seval, reduceIte, ↓reduceIte, Bool.not_eq_true, reduceCtorEq, beq_false, beq_true, hn, hP, h1, h2]); first | done | rfl)))) | apply T_seq | apply T_block | refine T_scopeJ 0 rfl ?_ | apply T_scope | apply T_goto | apply T_ret | apply T_skip | apply T_exit | apply T_label | refine T_condT rfl ?_ | refine T_condF rfl ?_ | refine T_condD rfl (fun _ => ?_) (fun _ => ?_) | refine T_cond rfl (fun _ => ?_) (fun _ => ?_))
      exact ends_ret rfl rfl rfl (by rw [hf]; rfl)

theorem p_ref07_Right (s d t e : List Int) (hd : I64s d) (he : I64s e) : PureC Try.prog fi_fullerref07_Right [dT s d, dT t e] (dTE (rightF s d t e)) := by
  refine pure_fullerref07_Right (by simp) fun G hP hn => ?_
  unfold a_fullerref07_Right
  by_cases hc : checkT s d = true ∧ checkT t e = true
  · have k1 := p_ref03_Check s d
    have k2 := p_ref03_Check t e
    rw [hc.1] at k1
    rw [hc.2] at k2
    by_cases ht : s.length = 2
    · have hf : rightF s d t e = mulF s.reverse (turnF s d).1.2 t e := by unfold rightF; rw [if_pos hc, if_pos ht]
      have kt := c_refTurn hc.1
      have kmul := p_ref07_Mul s.reverse (turnF s d).1.2 t e (turnF_range hd) he
      generalize (turnF s d).1.2 = d' at *
      have c1 : ((s.length : Int) != 2) = false := by simp; omega
      repeat' (first | apply T_then | apply then_ret | apply then_exit | apply then_goto | apply rnd_exit | apply rnd_ret | apply rnd_goto | apply noGo_normal | apply noGo_ret | apply noGo_exit | apply jmp_normal | apply jmp_ret | apply jmp_exit | apply jmp_goto | apply inB_normal | apply inB_ret | apply inB_goto | apply inB_exit | refine inB_exit_ne rfl ?_ | ((first | apply T_srK fw | apply T_regK fw); · ((try simp only [TOps.flat, List.cons_append, List.nil_append]); repeat (first | apply X_g0 | apply X_g | apply S_keep | apply X_skip | apply X_skipN | refine X_call ?_ ⟨_, _, _, _, _, _, rfl, rfl, rfl, by rw [hP]; exact k1⟩ ?_ | refine X_call ?_ ⟨_, _, _, _, _, _, rfl, rfl, rfl, by rw [hP]; exact k2⟩ ?_ | refine X_call ?_ ⟨_, _, _, _, _, _, rfl, rfl, rfl, by rw [hP]; exact kt⟩ ?_ | refine X_call ?_ ⟨_, _, _, _, _, _, rfl, rfl, rfl, by rw [hP]; exact kmul⟩ ?_ | apply X_q | apply X_st | apply X_n | apply X_s | apply SKs0 | apply SKs2 | apply SKs1 | refine ⟨⟨rfl, rfl⟩, ?_⟩ | refine ⟨⟨rfl, ?_⟩, ?_⟩ | refine ⟨?_, ?_⟩ | (· (try simp only [go_sem, seval, reduceIte, ↓reduceIte, Bool.not_eq_true, reduceCtorEq, beq_false, beq_true, hn, hP, c1]); first | done | rfl)))) | apply T_seq | apply T_block | refine T_scopeJ 0 rfl ?_ | apply T_scope | apply T_goto | apply T_ret | apply T_skip | apply T_exit | apply T_label | refine T_condT rfl ?_ | refine T_condF rfl ?_ | refine T_condD rfl (fun _ => ?_) (fun _ => ?_) | refine T_cond rfl (fun _ => ?_) (fun _ => ?_))
      exact ends_ret rfl rfl rfl (by rw [hf]; rfl)
    · have hf : rightF s d t e = bad 20 := by unfold rightF; rw [if_pos hc, if_neg ht]
      have c1 : ((s.length : Int) != 2) = true := by simp; omega
      repeat' (first | apply T_then | apply then_ret | apply then_exit | apply then_goto | apply rnd_exit | apply rnd_ret | apply rnd_goto | apply noGo_normal | apply noGo_ret | apply noGo_exit | apply jmp_normal | apply jmp_ret | apply jmp_exit | apply jmp_goto | apply inB_normal | apply inB_ret | apply inB_goto | apply inB_exit | refine inB_exit_ne rfl ?_ | ((first | apply T_srK fw | apply T_regK fw); · ((try simp only [TOps.flat, List.cons_append, List.nil_append]); repeat (first | apply X_g0 | apply X_g | apply S_keep | apply X_skip | apply X_skipN | refine X_call ?_ ⟨_, _, _, _, _, _, rfl, rfl, rfl, by rw [hP]; exact k1⟩ ?_ | refine X_call ?_ ⟨_, _, _, _, _, _, rfl, rfl, rfl, by rw [hP]; exact k2⟩ ?_ | apply X_q | apply X_st | apply X_n | apply X_s | apply SKs0 | apply SKs2 | apply SKs1 | refine ⟨⟨rfl, rfl⟩, ?_⟩ | refine ⟨⟨rfl, ?_⟩, ?_⟩ | refine ⟨?_, ?_⟩ | (· (try simp only [go_sem, seval, reduceIte, ↓reduceIte, Bool.not_eq_true, reduceCtorEq, beq_false, beq_true, hn, hP, c1]); first | done | rfl)))) | apply T_seq | apply T_block | refine T_scopeJ 0 rfl ?_ | apply T_scope | apply T_goto | apply T_ret | apply T_skip | apply T_exit | apply T_label | refine T_condT rfl ?_ | refine T_condF rfl ?_ | refine T_condD rfl (fun _ => ?_) (fun _ => ?_) | refine T_cond rfl (fun _ => ?_) (fun _ => ?_))
      exact ends_ret rfl rfl rfl (by rw [hf]; rfl)
  · have hf : rightF s d t e = bad 30 := by unfold rightF; rw [if_neg hc]
    cases h1 : checkT s d <;> cases h2 : checkT t e
    rotate_right
    · exact absurd ⟨h1, h2⟩ hc
    all_goals
      repeat' (first | apply T_then | apply then_ret | apply then_exit | apply then_goto | apply rnd_exit | apply rnd_ret | apply rnd_goto | apply noGo_normal | apply noGo_ret | apply noGo_exit | apply jmp_normal | apply jmp_ret | apply jmp_exit | apply jmp_goto | apply inB_normal | apply inB_ret | apply inB_goto | apply inB_exit | refine inB_exit_ne rfl ?_ | ((first | apply T_srK fw | apply T_regK fw); · ((try simp only [TOps.flat, List.cons_append, List.nil_append]); repeat (first | apply X_g0 | apply X_g | apply S_keep | apply X_skip | apply X_skipN | refine X_call ?_ ⟨_, _, _, _, _, _, rfl, rfl, rfl, by rw [hP]; exact p_ref03_Check _ _⟩ ?_ | apply X_q | apply X_st | apply X_n | apply X_s | apply SKs0 | apply SKs2 | apply SKs1 | refine ⟨⟨rfl, rfl⟩, ?_⟩ | refine ⟨⟨rfl, ?_⟩, ?_⟩ | refine ⟨?_, ?_⟩ | (· (try simp only [go_sem, seval, reduceIte, ↓reduceIte, Bool.not_eq_true, reduceCtorEq, beq_false, beq_true, hn, hP, h1, h2]); first | done | rfl)))) | apply T_seq | apply T_block | refine T_scopeJ 0 rfl ?_ | apply T_scope | apply T_goto | apply T_ret | apply T_skip | apply T_exit | apply T_label | refine T_condT rfl ?_ | refine T_condF rfl ?_ | refine T_condD rfl (fun _ => ?_) (fun _ => ?_) | refine T_cond rfl (fun _ => ?_) (fun _ => ?_))
      exact ends_ret rfl rfl rfl (by rw [hf]; rfl)

theorem i64s_dec {l : List Int} (h : (l.all fun n => decide (I64 n)) = true) : I64s l := fun n hn => by simpa using List.all_eq_true.1 h n hn

theorem aw71 : mulF [1, 2] [4294967296, 8589934592] [2, 1] [12884901888, 17179869184] = (([1, 1], [47244640256]), 0) := by decide +kernel
theorem aw72 : leftF [1, 1] [47244640256] [2, 1] [12884901888, 17179869184] = (([1, 2], [141733920768, 188978561024]), 0) := by decide +kernel
theorem aw73 : rightF [1, 2] [4294967296, 8589934592] [1, 1] [47244640256] = (([2, 1], [47244640256, 94489280512]), 0) := by decide +kernel
theorem aw74 : mulF [1, 2] [4294967296, 8589934592] [1, 2] [4294967296, 8589934592] = bad 20 := by decide +kernel
theorem aw75 : mulF [1, 2] [4294967296, 8589934592] [] [] = bad 30 := by decide +kernel

theorem p_awake7 : PureC Try.prog fi_fullerlaw07_awake [] (dB true) := by
  refine pure_fullerlaw07_awake (by simp) fun G hP hn => ?_
  unfold a_fullerlaw07_awake
  have ha : I64s [4294967296, 8589934592] := i64s_dec (by decide)
  have hb : I64s [12884901888, 17179869184] := i64s_dec (by decide)
  have hc : I64s [47244640256] := i64s_dec (by decide)
  have k1 := p_matmul_Mul [1, 2] [4294967296, 8589934592] [2, 1] [12884901888, 17179869184] ha hb
  have k2 := p_matmul_Left [1, 1] [47244640256] [2, 1] [12884901888, 17179869184] hc hb
  have k3 := p_matmul_Right [1, 2] [4294967296, 8589934592] [1, 1] [47244640256] ha hc
  have k4 := p_matmul_Mul [1, 2] [4294967296, 8589934592] [1, 2] [4294967296, 8589934592] ha ha
  have k5 := p_matmul_Mul [1, 2] [4294967296, 8589934592] [] [] ha I64s.nil
  rw [aw71] at k1; rw [aw72] at k2; rw [aw73] at k3; rw [aw74] at k4; rw [aw75] at k5
  have s1 := c_same' [47244640256]
  have s2 := c_same' [141733920768, 188978561024]
  have s3 := c_same' [47244640256, 94489280512]
  repeat' (first | apply T_then | apply then_ret | apply then_exit | apply then_goto | apply rnd_exit | apply rnd_ret | apply rnd_goto | apply noGo_normal | apply noGo_ret | apply noGo_exit | apply jmp_normal | apply jmp_ret | apply jmp_exit | apply jmp_goto | apply inB_normal | apply inB_ret | apply inB_goto | apply inB_exit | refine inB_exit_ne rfl ?_ | ((first | apply T_srK fw | apply T_regK fw); · ((try simp only [TOps.flat, List.cons_append, List.nil_append]); repeat (first | apply X_g0 | apply X_g | apply S_keep | apply X_skip | apply X_skipN | refine X_call ?_ ⟨_, _, _, _, _, _, rfl, rfl, rfl, by rw [hP]; exact k1⟩ ?_ | refine X_call ?_ ⟨_, _, _, _, _, _, rfl, rfl, rfl, by rw [hP]; exact k2⟩ ?_ | refine X_call ?_ ⟨_, _, _, _, _, _, rfl, rfl, rfl, by rw [hP]; exact k3⟩ ?_ | refine X_call ?_ ⟨_, _, _, _, _, _, rfl, rfl, rfl, by rw [hP]; exact k4⟩ ?_ | refine X_call ?_ ⟨_, _, _, _, _, _, rfl, rfl, rfl, by rw [hP]; exact k5⟩ ?_ | refine X_call ?_ ⟨_, _, _, _, _, _, rfl, rfl, rfl, by rw [hP]; exact s1⟩ ?_ | refine X_call ?_ ⟨_, _, _, _, _, _, rfl, rfl, rfl, by rw [hP]; exact s2⟩ ?_ | refine X_call ?_ ⟨_, _, _, _, _, _, rfl, rfl, rfl, by rw [hP]; exact s3⟩ ?_ | apply X_q | apply X_st | apply X_n | apply X_s | apply SKs0 | apply SKs2 | apply SKs1 | refine ⟨⟨rfl, rfl⟩, ?_⟩ | refine ⟨⟨rfl, ?_⟩, ?_⟩ | refine ⟨?_, ?_⟩ | (· (try simp only [go_sem, seval, reduceIte, ↓reduceIte, Bool.not_eq_true, reduceCtorEq, beq_false, beq_true, hn, hP]); first | done | rfl)))) | apply T_seq | apply T_block | refine T_scopeJ 0 rfl ?_ | apply T_scope | apply T_goto | apply T_ret | apply T_skip | apply T_exit | apply T_label | refine T_condT rfl ?_ | refine T_condF rfl ?_ | refine T_condD rfl (fun _ => ?_) (fun _ => ?_) | refine T_cond rfl (fun _ => ?_) (fun _ => ?_))
  exact ends_ret rfl rfl rfl rfl

theorem p_MatmulTells (s d t e : List Int) (hd : I64s d) (he : I64s e) : PureC Try.prog fi_fullerlaw07_MatmulTells [dT s d, dT t e] (dB true) := by
  refine pure_fullerlaw07_MatmulTells (by simp) fun G hP hn => ?_
  unfold a_fullerlaw07_MatmulTells
  cases f1 : fewT s d
  · repeat' (first | apply T_then | apply then_ret | apply then_exit | apply then_goto | apply rnd_exit | apply rnd_ret | apply rnd_goto | apply noGo_normal | apply noGo_ret | apply noGo_exit | apply jmp_normal | apply jmp_ret | apply jmp_exit | apply jmp_goto | apply inB_normal | apply inB_ret | apply inB_goto | apply inB_exit | refine inB_exit_ne rfl ?_ | ((first | apply T_srK fw | apply T_regK fw); · ((try simp only [TOps.flat, List.cons_append, List.nil_append]); repeat (first | apply X_g0 | apply X_g | apply S_keep | apply X_skip | apply X_skipN | refine X_call ?_ ⟨_, _, _, _, _, _, rfl, rfl, rfl, by rw [hP]; exact p_awake7⟩ ?_ | refine X_call ?_ ⟨_, _, _, _, _, _, rfl, rfl, rfl, by rw [hP]; exact p_ref03_Few _ _⟩ ?_ | apply X_q | apply X_st | apply X_n | apply X_s | apply SKs0 | apply SKs2 | apply SKs1 | refine ⟨⟨rfl, rfl⟩, ?_⟩ | refine ⟨⟨rfl, ?_⟩, ?_⟩ | refine ⟨?_, ?_⟩ | (· (try simp only [go_sem, seval, reduceIte, ↓reduceIte, Bool.not_eq_true, reduceCtorEq, beq_false, beq_true, hn, hP, f1]); first | done | rfl)))) | apply T_seq | apply T_block | refine T_scopeJ 0 rfl ?_ | apply T_scope | apply T_goto | apply T_ret | apply T_skip | apply T_exit | apply T_label | refine T_condT rfl ?_ | refine T_condF rfl ?_ | refine T_condD rfl (fun _ => ?_) (fun _ => ?_) | refine T_cond rfl (fun _ => ?_) (fun _ => ?_))
    exact ends_ret rfl rfl rfl rfl
  cases f2 : fewT t e
  · repeat' (first | apply T_then | apply then_ret | apply then_exit | apply then_goto | apply rnd_exit | apply rnd_ret | apply rnd_goto | apply noGo_normal | apply noGo_ret | apply noGo_exit | apply jmp_normal | apply jmp_ret | apply jmp_exit | apply jmp_goto | apply inB_normal | apply inB_ret | apply inB_goto | apply inB_exit | refine inB_exit_ne rfl ?_ | ((first | apply T_srK fw | apply T_regK fw); · ((try simp only [TOps.flat, List.cons_append, List.nil_append]); repeat (first | apply X_g0 | apply X_g | apply S_keep | apply X_skip | apply X_skipN | refine X_call ?_ ⟨_, _, _, _, _, _, rfl, rfl, rfl, by rw [hP]; exact p_awake7⟩ ?_ | refine X_call ?_ ⟨_, _, _, _, _, _, rfl, rfl, rfl, by rw [hP]; exact p_ref03_Few _ _⟩ ?_ | apply X_q | apply X_st | apply X_n | apply X_s | apply SKs0 | apply SKs2 | apply SKs1 | refine ⟨⟨rfl, rfl⟩, ?_⟩ | refine ⟨⟨rfl, ?_⟩, ?_⟩ | refine ⟨?_, ?_⟩ | (· (try simp only [go_sem, seval, reduceIte, ↓reduceIte, Bool.not_eq_true, reduceCtorEq, beq_false, beq_true, hn, hP, f1, f2]); first | done | rfl)))) | apply T_seq | apply T_block | refine T_scopeJ 0 rfl ?_ | apply T_scope | apply T_goto | apply T_ret | apply T_skip | apply T_exit | apply T_label | refine T_condT rfl ?_ | refine T_condF rfl ?_ | refine T_condD rfl (fun _ => ?_) (fun _ => ?_) | refine T_cond rfl (fun _ => ?_) (fun _ => ?_))
    exact ends_ret rfl rfl rfl rfl
  have k1 := p_matmul_Mul s d t e hd he
  have k2 := p_ref07_Mul s d t e hd he
  have k3 := p_matmul_Left s d t e hd he
  have k4 := p_ref07_Left s d t e hd he
  have k5 := p_matmul_Right s d t e hd he
  have k6 := p_ref07_Right s d t e hd he
  repeat' (first | apply T_then | apply then_ret | apply then_exit | apply then_goto | apply rnd_exit | apply rnd_ret | apply rnd_goto | apply noGo_normal | apply noGo_ret | apply noGo_exit | apply jmp_normal | apply jmp_ret | apply jmp_exit | apply jmp_goto | apply inB_normal | apply inB_ret | apply inB_goto | apply inB_exit | refine inB_exit_ne rfl ?_ | ((first | apply T_srK fw | apply T_regK fw); · ((try simp only [TOps.flat, List.cons_append, List.nil_append]); repeat (first | apply X_g0 | apply X_g | apply S_keep | apply X_skip | apply X_skipN | refine X_call ?_ ⟨_, _, _, _, _, _, rfl, rfl, rfl, by rw [hP]; exact p_awake7⟩ ?_ | refine X_call ?_ ⟨_, _, _, _, _, _, rfl, rfl, rfl, by rw [hP]; exact p_ref03_Few _ _⟩ ?_ | refine X_call ?_ ⟨_, _, _, _, _, _, rfl, rfl, rfl, by rw [hP]; exact k1⟩ ?_ | refine X_call ?_ ⟨_, _, _, _, _, _, rfl, rfl, rfl, by rw [hP]; exact k2⟩ ?_ | refine X_call ?_ ⟨_, _, _, _, _, _, rfl, rfl, rfl, by rw [hP]; exact k3⟩ ?_ | refine X_call ?_ ⟨_, _, _, _, _, _, rfl, rfl, rfl, by rw [hP]; exact k4⟩ ?_ | refine X_call ?_ ⟨_, _, _, _, _, _, rfl, rfl, rfl, by rw [hP]; exact k5⟩ ?_ | refine X_call ?_ ⟨_, _, _, _, _, _, rfl, rfl, rfl, by rw [hP]; exact k6⟩ ?_ | refine X_call ?_ ⟨_, _, _, _, _, _, rfl, rfl, rfl, by rw [hP]; exact c_sameT _ _⟩ ?_ | apply X_q | apply X_st | apply X_n | apply X_s | apply SKs0 | apply SKs2 | apply SKs1 | refine ⟨⟨rfl, rfl⟩, ?_⟩ | refine ⟨⟨rfl, ?_⟩, ?_⟩ | refine ⟨?_, ?_⟩ | (· (try simp only [go_sem, seval, reduceIte, ↓reduceIte, Bool.not_eq_true, reduceCtorEq, beq_false, beq_true, hn, hP, f1, f2]); first | done | rfl)))) | apply T_seq | apply T_block | refine T_scopeJ 0 rfl ?_ | apply T_scope | apply T_goto | apply T_ret | apply T_skip | apply T_exit | apply T_label | refine T_condT rfl ?_ | refine T_condF rfl ?_ | refine T_condD rfl (fun _ => ?_) (fun _ => ?_) | refine T_cond rfl (fun _ => ?_) (fun _ => ?_))
  exact ends_ret rfl rfl rfl rfl
end Go.AM

namespace Go.AM
open Go.RowKit (Below)
set_option linter.unusedSimpArgs false
set_option linter.unusedVariables false

mutual
inductive Conf (P : Program) : TypeId → List PV → Prop
  | bool {t : TypeId} (b : Bool) (ht : P.underlying t = some .bool) : Conf P t [.bool b]
  | int {t : TypeId} {k : IntKind} (n : Int) (ht : P.underlying t = some (.int k)) (hw : (Lit.int k n).wf = true) : Conf P t [.int k n]
  | str {t : TypeId} (s : ByteArray) (ht : P.underlying t = some .string) : Conf P t [.str s]
  | sl {t e : TypeId} (rows : List (List PV)) (ht : P.underlying t = some (.slice e)) (h : ∀ r ∈ rows, Conf P e r) : Conf P t [.sl rows]
  | st {t : TypeId} {fs : Array Field} (parts : List (List PV)) (ht : P.underlying t = some (.struct fs)) (h : ConfAll P (fs.toList.map (·.type)) parts) : Conf P t parts.flatten
inductive ConfAll (P : Program) : List TypeId → List (List PV) → Prop
  | nil : ConfAll P [] []
  | cons {t : TypeId} {ts : List TypeId} {r : List PV} {rs : List (List PV)} (h : Conf P t r) (hs : ConfAll P ts rs) : ConfAll P (t :: ts) (r :: rs)
end

def contig (P : Program) : Nat → List Field → Nat → Bool
  | off, [], n => off == n
  | off, f :: fs, n => f.offset == off && contig P (off + P.cellsOf f.type) fs n

/-- integers, bools, strings, slices and structs of such -/
def okTy (P : Program) : Nat → TypeId → Bool
  | 0, _ => false
  | m + 1, t => match P.underlying t with
    | some .bool => P.cellsOf t == 1
    | some (.int _) => P.cellsOf t == 1
    | some .string => P.cellsOf t == 1
    | some (.slice e) => P.cellsOf t == 1 && decide (1 ≤ P.cellsOf e) && decide (1 ≤ P.bytesOf e) && okTy P m e
    | some (.struct fs) => contig P 0 fs.toList (P.cellsOf t) && fs.toList.all fun f => okTy P m f.type
    | _ => false

theorem flat_at {A : Nat → Prop} {w : World} {b c : Nat} : ∀ {rows : List (List PV)} {off : Nat}, (∀ r ∈ rows, r.length = c) → (∀ i r, rows[i]? = some r → PAt A w r b (off + i * c)) → PAt A w rows.flatten b off
  | [], off, _, _ => .atNil b off
  | r :: rows, off, h1, h2 => by
    simp only [List.flatten_cons]
    refine PAt.append (by simpa using h2 0 r rfl) ?_
    refine flat_at (fun r hr => h1 r (by simp [hr])) fun i r' hi => ?_
    have := h2 (i + 1) r' (by simpa using hi)
    rw [h1 r (by simp)]
    rwa [show off + (i + 1) * c = off + c + i * c from by rw [Nat.add_mul]; omega] at this

section
variable {H : Type} {enc : TypeId × Value → H} {P : Program} {w : World}

def inHeap (w : World) (b : Nat) : Prop := b < w.heap.size

theorem cell_lt {a : Addr} {v : Value} (h : w.cell? a = some v) : a.block < w.heap.size ∧ a.spot = none ∧ w.cell? ⟨a.block, a.off, none⟩ = some v := by
  unfold World.cell? at h ⊢
  split at h
  · rename_i c e z hb
    split at h
    · cases h
    · rename_i hs
      have : a.spot = none := by cases hz : a.spot <;> simp_all
      exact ⟨heap_lt hb, this, by simp [hb, h]⟩
  · cases h

theorem weights_mem {e : TypeId} {l : List (DataW H)} {n : Nat} (h : (DataW.weightsAll P e l).all (· ≤ n) = true) : ∀ d ∈ l, (d.weights P e).all (· ≤ n) = true := by
  induction l with
  | nil => intro d hd; simp at hd
  | cons x l ih =>
    simp only [DataW.weightsAll, List.all_append, Bool.and_eq_true] at h
    intro d hd
    rcases List.mem_cons.1 hd with rfl | hd
    · exact h.1
    · exact ih h.2 d hd

theorem reads_fields {total n : Nat} {cs : List Value} (hlen : cs.length = total) (ih : ∀ (t : TypeId), okTy P n t = true → ∀ (m : Nat) (cs : List Value) (d : DataW H) (ps : List MemPlace),
      DataW.trod enc P w 0 (fun _ => true) true m t cs = some (d, ps) → (d.weights P t).all (· ≤ reachBytes) = true → ∃ vs, Conf P t vs ∧ vs.length = P.cellsOf t ∧ PRels (inHeap w) w vs cs) {m : Nat} :
    ∀ (fs : List Field) (off : Nat) (xs : List (DataW H × List MemPlace)), contig P off fs total = true → (fs.all fun f => okTy P n f.type) = true → xs.length = fs.length →
      (∀ (i : Nat) (f : Field), fs[i]? = some f → DataW.trod enc P w 0 (fun _ => true) true m f.type ((cs.drop f.offset).take (P.cellsOf f.type)) = xs[i]?) →
      (DataW.weightsEach P (fs.map (·.type)) (xs.map (·.1))).all (· ≤ reachBytes) = true → off ≤ total →
      ∃ parts, ConfAll P (fs.map (·.type)) parts ∧ parts.flatten.length = total - off ∧ PRels (inHeap w) w parts.flatten (cs.drop off)
  | [], off, xs, h1, _, _, _, _, hle => by
    simp only [contig, beq_iff_eq] at h1
    subst h1
    exact ⟨[], .nil, by simp, by rw [List.drop_eq_nil_of_le (by omega)]; exact .psNil⟩
  | f :: fs, off, xs, h1, h2, h3, h4, h5, hle => by
    simp only [contig, Bool.and_eq_true, beq_iff_eq] at h1
    simp only [List.all_cons, Bool.and_eq_true] at h2
    obtain ⟨ho, h1⟩ := h1
    cases xs with
    | nil => simp at h3
    | cons x xs =>
      have e0 := h4 0 f rfl
      rw [ho] at e0
      simp only [List.getElem?_cons_zero] at e0
      simp only [List.map_cons, DataW.weightsEach, List.all_append, Bool.and_eq_true] at h5
      obtain ⟨vs, c1, c2, c3⟩ := ih f.type h2.1 m _ x.1 x.2 e0 h5.1
      have hlen2 := (PRels.all2.1 c3).length
      have hle2 : off + P.cellsOf f.type ≤ total := by
        rw [c2, List.length_take, List.length_drop] at hlen2
        omega
      obtain ⟨parts, p1, p2, p3⟩ := reads_fields hlen ih fs (off + P.cellsOf f.type) xs h1 h2.2 (by simpa using h3) (fun i f' hi => by simpa using h4 (i + 1) f' (by simpa using hi)) h5.2 hle2
      refine ⟨vs :: parts, .cons c1 p1, by simp only [List.flatten_cons, List.length_append, p2, c2]; omega, ?_⟩
      simp only [List.flatten_cons]
      have := PRels.all2.2 ((PRels.all2.1 c3).append (PRels.all2.1 p3))
      rwa [← List.drop_drop, List.take_append_drop] at this

theorem rows_of {α : Type} {Q : Nat → α → Prop} : ∀ (n : Nat), (∀ i, i < n → ∃ r, Q i r) → ∃ rows : List α, rows.length = n ∧ ∀ i r, rows[i]? = some r → Q i r
  | 0, _ => ⟨[], rfl, fun i r h => by simp at h⟩
  | n + 1, h => by
    obtain ⟨rows, h1, h2⟩ := rows_of n fun i hi => h i (by omega)
    obtain ⟨r, hr⟩ := h n (by omega)
    refine ⟨rows ++ [r], by simp [h1], fun i x hx => ?_⟩
    by_cases hi : i < n
    · rw [List.getElem?_append_left (by omega)] at hx; exact h2 i x hx
    · rw [List.getElem?_append_right (by omega)] at hx
      have : i = n := by
        by_cases e : i = n
        · exact e
        · rw [List.getElem?_eq_none (by simp; omega)] at hx; cases hx
      subst this
      rw [show i - rows.length = 0 from by omega] at hx
      simp at hx; subst hx; exact hr

theorem add_none (b off k : Nat) : (⟨b, off, none⟩ : Addr).add k = ⟨b, off + k, none⟩ := by
  unfold Addr.add
  split
  · rename_i h; subst h; rfl
  · rfl

theorem reads : ∀ (n : Nat) (t : TypeId), okTy P n t = true → ∀ (m : Nat) (cs : List Value) (d : DataW H) (ps : List MemPlace),
    DataW.trod enc P w 0 (fun _ => true) true m t cs = some (d, ps) → (d.weights P t).all (· ≤ reachBytes) = true → ∃ vs, Conf P t vs ∧ vs.length = P.cellsOf t ∧ PRels (inHeap w) w vs cs
  | 0, t, h => by simp [okTy] at h
  | n + 1, t, h => by
    intro m cs d ps hd hw
    unfold okTy at h
    split at h
    · rename_i ht
      obtain ⟨b, rfl, hx⟩ := DataW.trod_bool ht hd
      exact ⟨[.bool b], .bool b ht, by simpa using (beq_iff_eq.1 h).symm, .psCons _ _ _ _ (.bool b) .psNil⟩
    · rename_i k ht
      obtain ⟨z, rfl, hx, hwf⟩ := DataW.trod_int ht hd
      exact ⟨[.int k z], .int z ht hwf, by simpa using (beq_iff_eq.1 h).symm, .psCons _ _ _ _ (.int k z) .psNil⟩
    · rename_i ht
      obtain ⟨z, rfl, hx, _⟩ := DataW.trod_string ht hd
      exact ⟨[.str z], .str z ht, by simpa using (beq_iff_eq.1 h).symm, .psCons _ _ _ _ (.str z) .psNil⟩
    · rename_i e ht
      simp only [Bool.and_eq_true, beq_iff_eq, decide_eq_true_eq] at h
      obtain ⟨⟨⟨h1, h2⟩, h3⟩, h4⟩ := h
      rcases DataW.trod_slice ht hd with ⟨rfl, hx⟩ | ⟨a, len, cap, elems, rest, m', _, rfl, hx, _, hlc, hcm, hel, hget, hsp, _⟩
      · exact ⟨[.sl []], .sl [] ht (by simp), by simp [h1], .psCons _ _ _ _ (.nil none 0) .psNil⟩
      · obtain ⟨hrl, _⟩ := hsp rfl
        simp only [Prod.mk.injEq] at hx
        obtain ⟨rfl, _⟩ := hx
        simp only [DataW.weights, ht, List.all_cons, List.all_append, Bool.and_eq_true, decide_eq_true_eq, List.length_map] at hw
        obtain ⟨hw1, hw2, _⟩ := hw
        have hcap : cap ≤ reachBytes := by
          have : (elems.length + rest.length) * 1 ≤ (elems.length + rest.length) * P.bytesOf e := Nat.mul_le_mul_left _ h3
          omega
        have each : ∀ i, i < len → ∃ r, Conf P e r ∧ r.length = P.cellsOf e ∧ ∃ cs', w.cells? 0 (a.add (i * P.cellsOf e)) (P.cellsOf e) = some cs' ∧ PRels (inHeap w) w r cs' := by
          intro i hi
          have hi2 : i < elems.length := by omega
          have := hget i hi
          rw [List.getElem?_eq_getElem hi2] at this
          obtain ⟨cs', q1, q2⟩ := Option.bind_eq_some_iff.1 this
          obtain ⟨vs, r1, r2, r3⟩ := reads n e h4 m' cs' _ _ q2 (weights_mem hw2 _ (List.mem_map_of_mem (List.getElem_mem hi2)))
          exact ⟨vs, r1, r2, cs', q1, r3⟩
        obtain ⟨rows, hrows, hrow⟩ := rows_of len each
        have hconf : ∀ r ∈ rows, Conf P e r ∧ r.length = P.cellsOf e := by
          intro r hr
          obtain ⟨i, hi⟩ := List.getElem?_of_mem hr
          exact ⟨(hrow i r hi).1, (hrow i r hi).2.1⟩
        refine ⟨[.sl rows], .sl rows ht fun r hr => (hconf r hr).1, by simp [h1], .psCons _ _ _ _ ?_ .psNil⟩
        by_cases h0 : len = 0
        · subst h0
          have : rows = [] := List.length_eq_zero_iff.1 hrows
          subst this
          exact .nil (some a) cap
        · obtain ⟨_, _, _, cs', q1, q2⟩ := each 0 (by omega)
          obtain ⟨_, q3, q4⟩ := World.cells?_some q1
          have q5 := q4 0 (by omega)
          rw [List.getElem?_eq_getElem (by omega)] at q5
          have e1 : (a.add (0 * P.cellsOf e)).add 0 = a := by simp [Addr.add]
          rw [e1] at q5
          obtain ⟨z1, z2, _⟩ := cell_lt q5
          obtain ⟨b, off, spot⟩ := a
          simp only at z1 z2
          subst z2
          have hM : reachBytes ≤ MaxN := by decide
          have := Rel.sl (A := inHeap w) (w := w) rows b off cap (P.cellsOf e) z1 (fun r hr => (hconf r hr).2) (by omega) (by omega) (flat_at (fun r hr => (hconf r hr).2) fun i r hi => by
            obtain ⟨_, s2, cs', s3, s4⟩ := hrow i r hi
            obtain ⟨_, s5, s6⟩ := World.cells?_some s3
            refine PAt.of_get fun j v hj => ?_
            obtain ⟨x, hx, hr⟩ := (PRels.all2.1 s4).get j v hj
            refine ⟨x, ?_, hr⟩
            have := s6 j (by have := (List.getElem?_eq_some_iff.1 hj).1; omega)
            rw [add_none, add_none, hx] at this
            exact this)
          rw [hrows] at this
          exact this
    · rename_i fs ht
      simp only [Bool.and_eq_true] at h
      obtain ⟨xs, m', _, hx, hl, hxl, hf⟩ := DataW.trod_struct ht hd
      simp only [Prod.mk.injEq] at hx
      obtain ⟨rfl, _⟩ := hx
      simp only [DataW.weights, ht] at hw
      obtain ⟨parts, p1, p2, p3⟩ := reads_fields (m := m') hl (reads n) fs.toList 0 xs h.1 h.2 (by simpa using hxl) (fun i f hi => hf i f (by simpa using hi)) hw (Nat.zero_le _)
      exact ⟨parts.flatten, .st parts ht p1, by simpa using p2, by simpa using p3⟩
    · cases h
end

/-- what an argument of that type is -/
def ArgOk (P : Program) (t : TypeId) (d : DV) : Prop :=
  match P.underlying t with
  | some (.struct _) => ∃ vs, d = .agg vs ∧ Conf P t vs
  | _ => ∃ v, d = .one v ∧ Conf P t [v]

theorem arg_reads {H : Type} {enc : TypeId × Value → H} {P : Program} {w : World} {base n : Nat} {t : TypeId} {v : Value} {d : DataW H} {ps : List MemPlace} (ht : okTy P n t = true) (hv : Value.okWide P w .any base t v)
    (hd : DataW.Trod enc P w 0 (fun _ => true) true t v d ps) (hw : (d.weights P t).all (· ≤ reachBytes) = true) : ∃ x, ArgOk P t x ∧ DRel (inHeap w) w x v := by
  obtain ⟨m, hd⟩ := hd
  obtain ⟨vs, h1, h2, h3⟩ := reads n t ht m _ d ps hd hw
  have one : (∀ xs, v ≠ .agg xs) → P.cellsOf t = 1 → ∃ c, vs = [c] ∧ DRel (inHeap w) w (.one c) v := by
    intro hn hc
    have hcell : v.cells.toList = [v] := by cases v <;> first | rfl | exact absurd rfl (hn _)
    rw [hcell] at h3
    cases h3 with
    | psCons c _ cs _ h t =>
      cases t
      exact ⟨c, rfl, .d1 (.one h)⟩
  cases n with
  | zero => simp [okTy] at ht
  | succ n =>
  unfold okTy at ht
  unfold ArgOk
  unfold Value.okWide at hv
  split at ht
  · rename_i hu
    simp only [hu] at hv ⊢
    obtain ⟨c, rfl, hr⟩ := one (fun xs e => by subst e; simp [Cell.okWide, Cell.ok, hu] at hv) (by simpa using ht)
    exact ⟨_, ⟨c, rfl, h1⟩, hr⟩
  · rename_i k hu
    simp only [hu] at hv ⊢
    obtain ⟨c, rfl, hr⟩ := one (fun xs e => by subst e; simp [Cell.okWide, Cell.ok, hu] at hv) (by simpa using ht)
    exact ⟨_, ⟨c, rfl, h1⟩, hr⟩
  · rename_i hu
    simp only [hu] at hv ⊢
    obtain ⟨c, rfl, hr⟩ := one (fun xs e => by subst e; simp [Cell.okWide, Cell.ok, hu] at hv) (by simpa using ht)
    exact ⟨_, ⟨c, rfl, h1⟩, hr⟩
  · rename_i e hu
    simp only [hu] at hv ⊢
    simp only [Bool.and_eq_true, beq_iff_eq] at ht
    obtain ⟨c, rfl, hr⟩ := one (fun xs e => by subst e; simp [Cell.okWide, Cell.ok, hu] at hv) ht.1.1.1
    exact ⟨_, ⟨c, rfl, h1⟩, hr⟩
  · rename_i fs hu
    simp only [hu] at hv ⊢
    obtain ⟨cs, rfl, _, _⟩ := hv
    exact ⟨_, ⟨vs, rfl, h1⟩, .d1 (.agg (PRels.all2.1 h3))⟩
  · cases ht

theorem args_read {H : Type} {enc : TypeId × Value → H} {P : Program} {w : World} {base n : Nat} : ∀ {ts : List TypeId} {vs : List Value} {ds : List (DataW H)} {ps : List MemPlace}, (ts.all fun t => okTy P n t) = true →
    (∀ (j : Nat) t v, ts[j]? = some t → vs[j]? = some v → Value.okWide P w .any base t v) → DataW.TrodAll enc P w 0 (fun _ => true) true ts vs ds ps → (DataW.weightsEach P ts ds).all (· ≤ reachBytes) = true →
    ∃ xs, All2 (ArgOk P) ts xs ∧ All2 (DRel (inHeap w) w) xs vs
  | [], vs, ds, ps, _, _, h, _ => by
    cases vs <;> cases ds <;> simp [DataW.TrodAll] at h
    exact ⟨[], .nil, .nil⟩
  | t :: ts, vs, ds, ps, ht, hv, h, hw => by
    obtain ⟨v, vs', d, ds', p, q, rfl, rfl, rfl, h1, h2⟩ := Go.ChangeShapes.trodAll_cons h
    simp only [List.all_cons, Bool.and_eq_true] at ht
    simp only [DataW.weightsEach, List.all_append, Bool.and_eq_true] at hw
    obtain ⟨x, a1, a2⟩ := arg_reads ht.1 (hv 0 t v rfl rfl) h1 hw.1
    obtain ⟨xs, b1, b2⟩ := args_read ht.2 (fun j t v h3 h4 => hv (j + 1) t v (by simpa using h3) (by simpa using h4)) h2 hw.2
    exact ⟨x :: xs, .cons a1 b1, .cons a2 b2⟩

theorem args_carry {H : Type} {enc : TypeId × Value → H} {P : Program} (hl : laidOutB P = true) {W W' : World} {sp : Nat → Bool} : ∀ {ts : List TypeId} {vs : List Value} {ds : List (DataW H)} {ps : List MemPlace},
    (ts.all fun t => P.readableRec t && decide (t < P.types.size)) = true → DataW.TrodAll enc P W 0 (fun _ => true) true ts vs ds ps → (∀ p ∈ ps, W.sameAt W' p) → (∀ p ∈ ps, sp p.block = true) → DataW.TrodAll enc P W' 0 sp true ts vs ds ps
  | [], vs, ds, ps, _, h, _, _ => by cases vs <;> cases ds <;> simp [DataW.TrodAll] at h ⊢; exact h
  | t :: ts, vs, ds, ps, ht, h, h1, h2 => by
    obtain ⟨v, vs', d, ds', p, q, rfl, rfl, rfl, h3, h4⟩ := Go.ChangeShapes.trodAll_cons h
    simp only [List.all_cons, Bool.and_eq_true, decide_eq_true_eq] at ht
    exact ⟨p, q, Go.WideElems.Trod_stays hl ht.1.1 ht.1.2 h3 (fun x hx => h1 x (by simp [hx])) (fun x hx => h2 x (by simp [hx])), args_carry hl ht.2 h4 (fun x hx => h1 x (by simp [hx])) (fun x hx => h2 x (by simp [hx])), rfl⟩

/-- A LAW's ROW, OUT OF ITS CONTRACT. -/
theorem law_lifted {C : Checked} {os : Os} {f : FuncId} {fn : Func} {spec : ChangeSpec} {conds : List PathCond} {H : Type} {enc : TypeId × Value → H} {tb : TypeId} (n : Nat)
    (own : ownKnob C.prog.godebug = none) (started : os.Started) (noInit : C.prog.inits.idxOf? f = none) (hfn : C.prog.funcs[f]? = some fn)
    (witness : ∃ (w : World) (tape : Tape) (i : Input), w.os = os ∧ (w.forCall tape i).Shaped C.prog ∧ i.vars = [] ∧ Input.okWide C.prog (w.forCall tape i) .any w.heap.size f i ∧
      spec.pre6 enc C.prog fn conds false (w.forCall tape i).memory i.args ∧ ({} : Assume).holds C.prog (lone (Frame.enter C.prog f i.args .normal) [] (w.forCall tape i)))
    (hl : laidOutB C.prog = true) (hts : (fn.params.toList.all fun t => okTy C.prog n t) = true) (hrd : (fn.params.toList.all fun t => C.prog.readableRec t && decide (t < C.prog.types.size)) = true)
    (hvars : spec.vars = []) (hres : fn.resultTypes = #[tb]) (hb : C.prog.underlying tb = some .bool)
    (hspec : ∀ ds : List (DataW H), ds.length = fn.params.size → spec.fn H ds = { results := [.lit (.bool true)], args := ds })
    (law : ∀ xs, All2 (ArgOk C.prog) fn.params.toList xs → PureC C.prog f xs (.one (.bool true))) :
    ReturnsInHanded {} C os f .any (spec.pre6 enc C.prog fn conds false) (spec.post enc C.prog fn false true false false) := by
  refine returnsInHanded_of_change_shaped own started noInit hfn witness ?_
  intro W base args ds gs before hval hW _ hwt _ _
  obtain ⟨p, q, hA, hV, rfl, hfz, hnd⟩ := id hW
  rw [hvars] at hV
  have hgs : gs = [] ∧ q = [] := by
    cases gs with
    | nil => simp only [DataW.TrodVars] at hV; exact ⟨rfl, hV⟩
    | cons _ _ => exact hV.elim
  obtain ⟨rfl, rfl⟩ := hgs
  have hvt : spec.plain.varTypes C.prog = [] := by
    simp [DataSpec.varTypes, ChangeSpec.plain, hvars]
  rw [hvt, List.append_nil, List.append_nil] at hwt
  obtain ⟨xs, h1, h2⟩ := args_read hts (fun j t v h3 h4 => hval j t v (by simpa using h3) (by simpa using h4)) hA hwt
  have hlen : ds.length = fn.params.size := by
    have key : ∀ {ts : List TypeId} {vs : List Value} {ds : List (DataW H)} {ps : List MemPlace}, DataW.TrodAll enc C.prog W 0 (fun _ => true) true ts vs ds ps → ds.length = ts.length := by
      intro ts
      induction ts with
      | nil => intro vs ds ps h; cases vs <;> cases ds <;> simp [DataW.TrodAll] at h ⊢
      | cons t ts ih =>
        intro vs ds ps h
        obtain ⟨_, _, _, _, _, _, rfl, rfl, _, _, h4⟩ := Go.ChangeShapes.trodAll_cons h
        simp [ih h4]
    simpa using key hA
  have hsp := hspec ds hlen
  have hcall := (law xs h1).calls (inHeap W) W args.toList (fun _ hb => hb) h2
  refine Calls.mono (by simpa using hcall) ?_
  rintro e W' ⟨x, rfl, hbel, hr⟩
  have hx : x = .bool true := by
    cases hr with | d1 h => cases h with | one h => cases h; rfl
  subst hx
  refine ⟨_, rfl, ds, [], p ++ [], [], p, [], hW, ?_, ?_, ?_, hbel.frame _, fun h => by cases h⟩
  · rw [List.append_nil, hsp, hres]
    exact Go.ChangeShapes.trodAll_mk1 (Go.RowKit.shut_bool hb true)
  · rw [List.append_nil, hsp]
    exact args_carry hl hrd hA (fun x hx => hbel.same (hW.lt x (by simpa using hx))) (fun x hx => by simpa using hW.lt x (by simpa using hx))
  · rw [List.append_nil, hsp, hvars]
    rfl
end Go.AM

namespace Go.AM
open Go Go.Proofs Go.Proofs.Ytcmbjbmghoopcaa
set_option maxRecDepth 100000
set_option linter.unusedSimpArgs false
set_option linter.unusedVariables false

theorem wf_i64 {n : Int} (h : (Lit.int .i64 n).wf = true) : -9223372036854775808 ≤ n ∧ n < 9223372036854775808 := by
  simp only [Lit.wf, IntKind.has, IntKind.min, IntKind.max, IntKind.bits, IntKind.signed] at h
  simp at h
  omega

theorem conf_int {v : List PV} (h : Conf Try.prog 3 v) : ∃ n : Int, v = [.int .i64 n] ∧ -9223372036854775808 ≤ n ∧ n < 9223372036854775808 := by
  have hu := Try.underlying3
  cases h with
  | bool b ht => rw [hu] at ht; cases ht
  | int n ht hw => rw [hu] at ht; cases ht; exact ⟨n, rfl, wf_i64 hw⟩
  | str s ht => rw [hu] at ht; cases ht
  | sl rows ht h => rw [hu] at ht; cases ht
  | st parts ht h => rw [hu] at ht; cases ht

def i64s (s : List Int) : Prop := ∀ n ∈ s, -9223372036854775808 ≤ n ∧ n < 9223372036854775808

theorem conf_rows : ∀ {rows : List (List PV)}, (∀ r ∈ rows, Conf Try.prog 3 r) → ∃ s : List Int, rows = rI s ∧ i64s s
  | [], _ => ⟨[], rfl, fun n hn => by simp at hn⟩
  | r :: rows, h => by
    obtain ⟨n, rfl, hn⟩ := conf_int (h r (by simp))
    obtain ⟨s, rfl, hs⟩ := conf_rows (rows := rows) fun r hr => h r (by simp [hr])
    exact ⟨n :: s, rfl, fun m hm => by
      rcases List.mem_cons.1 hm with rfl | hm
      · exact hn
      · exact hs m hm⟩

theorem conf_ints {v : List PV} (h : Conf Try.prog 22 v) : ∃ s : List Int, v = [eI s] ∧ i64s s := by
  have hu := Try.underlying22
  cases h with
  | bool b ht => rw [hu] at ht; cases ht
  | int n ht hw => rw [hu] at ht; cases ht
  | str s ht => rw [hu] at ht; cases ht
  | sl rows ht h =>
    rw [hu] at ht; cases ht
    obtain ⟨s, rfl, hs⟩ := conf_rows h
    exact ⟨s, rfl, hs⟩
  | st parts ht h => rw [hu] at ht; cases ht

theorem conf_T {v : List PV} (h : Conf Try.prog 24 v) : ∃ s d : List Int, v = [eI s, eI d] ∧ i64s s ∧ i64s d := by
  have hu := Try.underlying24
  cases h with
  | bool b ht => rw [hu] at ht; cases ht
  | int n ht hw => rw [hu] at ht; cases ht
  | str s ht => rw [hu] at ht; cases ht
  | sl rows ht h => rw [hu] at ht; cases ht
  | st parts ht h =>
    rw [hu] at ht; cases ht
    cases h with | cons h1 h => cases h with | cons h2 h => cases h with | nil =>
      obtain ⟨s, rfl, hs⟩ := conf_ints h1
      obtain ⟨d, rfl, hd⟩ := conf_ints h2
      exact ⟨s, d, rfl, hs, hd⟩

theorem arg_T {d : DV} (h : ArgOk Try.prog 24 d) : ∃ s e : List Int, d = dT s e ∧ i64s s ∧ i64s e := by
  unfold ArgOk at h
  rw [Try.underlying24] at h
  obtain ⟨vs, rfl, h⟩ := h
  obtain ⟨s, e, rfl, hs, he⟩ := conf_T h
  exact ⟨s, e, rfl, hs, he⟩
theorem own : ownKnob Try.prog.godebug = none := by kernel_rfl
theorem laidOut : laidOutB Try.prog = true := by kernel_rfl

end Go.AM

