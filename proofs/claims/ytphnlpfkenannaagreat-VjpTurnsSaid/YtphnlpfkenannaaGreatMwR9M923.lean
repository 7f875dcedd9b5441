import Derived.Test.YtphnlpfkenannaaGreatMwR9M922
set_option linter.unusedVariables false
set_option linter.unusedSimpArgs false
namespace Go.AM
open Go Go.Proofs
set_option maxRecDepth 100000
set_option maxHeartbeats 4000000

abbrev dUU (a b : Nat) : DV := .tup [dU a, dU b]
theorem p_bits_Mul64 {x y : Nat} (hx : x < 18446744073709551616) (hy : y < 18446744073709551616) : PureC Tryz.prog fi_math_bits_Mul64 [dU x, dU y] (dUU (x * y / 18446744073709551616) (x * y % 18446744073709551616)) := by
  refine pure_math_bits_Mul64 (by simp) fun G hP hn => ?_
  unfold a_math_bits_Mul64
  obtain ⟨l1, l2, l3, l4⟩ := Lib.mul64_hi x y hx hy
  have lq := Lib.half_mul_le (a := x / 4294967296) (b := y % 4294967296) (by omega) (by omega)
  have lr := Lib.half_mul_le (a := x % 4294967296) (b := y / 4294967296) (by omega) (by omega)
  have lp := Lib.half_mul_le (a := x / 4294967296) (b := y / 4294967296) (by omega) (by omega)
  have a1 := u64_and hx
  have a2 := u64_and hy
  have m1 : IntKind.u64.wrap (((x % 4294967296 : Nat) : Int) * ((y % 4294967296 : Nat) : Int)) = ((x % 4294967296 * (y % 4294967296) : Nat) : Int) := by rw [← Int.natCast_mul, u64_nat l1]
  have m2 : IntKind.u64.wrap (((x / 4294967296 : Nat) : Int) * ((y % 4294967296 : Nat) : Int)) = ((x / 4294967296 * (y % 4294967296) : Nat) : Int) := by rw [← Int.natCast_mul, u64_nat (by omega)]
  have m3 : IntKind.u64.wrap (((x % 4294967296 : Nat) : Int) * ((y / 4294967296 : Nat) : Int)) = ((x % 4294967296 * (y / 4294967296) : Nat) : Int) := by rw [← Int.natCast_mul, u64_nat (by omega)]
  have m4 : IntKind.u64.wrap (((x / 4294967296 : Nat) : Int) * ((y / 4294967296 : Nat) : Int)) = ((x / 4294967296 * (y / 4294967296) : Nat) : Int) := by rw [← Int.natCast_mul, u64_nat (by omega)]
  have m5 : IntKind.u64.wrap ((x : Int) * (y : Int)) = ((x * y % 18446744073709551616 : Nat) : Int) := by rw [← Int.natCast_mul, u64_eq]; omega
  have hh : x * y / 18446744073709551616 < 18446744073709551616 := by
    have : x * y ≤ 18446744073709551615 * 18446744073709551615 := Nat.mul_le_mul (by omega) (by omega)
    omega
  generalize x % 4294967296 * (y % 4294967296) = p0 at *
  generalize x / 4294967296 * (y % 4294967296) = p1 at *
  generalize x % 4294967296 * (y / 4294967296) = p2 at *
  generalize x / 4294967296 * (y / 4294967296) = p3 at *
  have s1 : IntKind.u64.wrap ((p1 : Int) + ((p0 / 4294967296 : Nat) : Int)) = ((p1 + p0 / 4294967296 : Nat) : Int) := by rw [← Int.natCast_add, u64_nat l2]
  have a3 := u64_and l2
  have s2 : IntKind.u64.wrap ((((p1 + p0 / 4294967296) % 4294967296 : Nat) : Int) + (p2 : Int)) = (((p1 + p0 / 4294967296) % 4294967296 + p2 : Nat) : Int) := by rw [← Int.natCast_add, u64_nat l3]
  have s3 : IntKind.u64.wrap ((p3 : Int) + (((p1 + p0 / 4294967296) / 4294967296 : Nat) : Int)) = ((p3 + (p1 + p0 / 4294967296) / 4294967296 : Nat) : Int) := by rw [← Int.natCast_add, u64_nat (by omega)]
  have s4 : IntKind.u64.wrap (((p3 + (p1 + p0 / 4294967296) / 4294967296 : Nat) : Int) + ((((p1 + p0 / 4294967296) % 4294967296 + p2) / 4294967296 : Nat) : Int)) = ((x * y / 18446744073709551616 : Nat) : Int) := by
    rw [← Int.natCast_add, l4, u64_nat hh]
  refine go (aa a1 <| aa a2 <| aa a3 <| aa @shr32 <| aa m1 <| aa m2 <| aa m3 <| aa m4 <| aa m5 <| aa s1 <| aa s2 <| aa s3 s4) trivial ?_
  exact ends_ret rfl rfl rfl rfl
def sgn (v : Nat) (rest below : Bool) : Int := if below then -((v : Int) + (if rest then 1 else 0)) else v
theorem m_signed_1 (t h l : Nat) (hl : l < 18446744073709551616) (hh : h < 18446744073709551615) : MutC Tryz.prog fi_fix_wide_signed_1 [.one (.ptr t 0 1 0)] [(t, .arr true 1 [[.int .u64 (h : Int)], [.int .u64 (l : Int)]])] (.tup [])
    [(t, .arr true 1 [[.int .u64 (((h * 18446744073709551616 + l + 1) / 18446744073709551616 : Nat) : Int)], [.int .u64 (((h * 18446744073709551616 + l + 1) % 18446744073709551616 : Nat) : Int)]])] [] := by
  refine mut_fix_wide_signed_1 (by simp) fun G ex hP hn hfr => ?_
  unfold a_fix_wide_signed_1
  have e1 : (l + 1) % 18446744073709551616 = (h * 18446744073709551616 + l + 1) % 18446744073709551616 := by omega
  have e2 : IntKind.u64.wrap ((h : Int) + (((l + 1) / 18446744073709551616 : Nat) : Int)) = (((h * 18446744073709551616 + l + 1) / 18446744073709551616 : Nat) : Int) := by rw [u64_eq]; omega
  repeat' (first | apply T_then | apply then_ret | apply then_exit | apply then_goto | apply rnd_exit | apply rnd_ret | apply rnd_goto | apply noGo_normal | apply noGo_ret | apply noGo_exit | apply jmp_normal | apply jmp_ret | apply jmp_exit | apply jmp_goto | apply inB_normal | apply inB_ret | apply inB_goto | apply inB_exit | refine inB_exit_ne rfl ?_ | ((first | apply T_srK fw | apply T_regK fw); · ((try simp only [TOps.flat, List.cons_append, List.nil_append]); repeat (first | apply X_g0 | apply X_g | apply S_keep | apply X_skip | apply X_skipN | apply X_q | apply X_st | apply X_n | apply X_s | apply SKs0 | apply SKs2 | apply SKs1 | refine ⟨⟨rfl, rfl⟩, ?_⟩ | refine ⟨⟨rfl, ?_⟩, ?_⟩ | refine ⟨?_, ?_⟩ | (· (try simp only [go_sem, seval, reduceIte, ↓reduceIte, Bool.not_eq_true, reduceCtorEq, beq_false, beq_true, hn, hP, e1, e2, Int.toNat_one, Int.toNat_zero, Nat.reducePow]); first | done | rfl)))) | apply T_seq | apply T_block | refine T_scopeJ 0 rfl ?_ | apply T_scope | apply T_goto | apply T_ret | apply T_skip | apply T_exit | apply T_label | refine T_condT rfl ?_ | refine T_condF rfl ?_ | refine T_condD rfl (fun _ => ?_) (fun _ => ?_) | refine T_cond rfl (fun _ => ?_) (fun _ => ?_))
  exact endsM_normal rfl rfl rfl (by simp [lo]) rfl
end Go.AM

namespace Go.AM
open Go Go.Proofs
set_option maxRecDepth 100000
set_option maxHeartbeats 4000000

theorem neg_u64 {l : Nat} (h : l ≤ 9223372036854775808) : IntKind.i64.wrap (IntKind.u64.wrap (0 - (l : Int))) = -(l : Int) := by
  rw [u64_eq, w64_eq]; split <;> omega
theorem p_fix_signed {h l : Nat} (hl : l < 18446744073709551616) (hh : h < 18446744073709551615) (rest below : Bool) :
    PureC Tryz.prog fi_fix_wide_signed [.agg [.int .u64 (h : Int), .int .u64 (l : Int)], dB rest, dB below] (dNE (rng (sgn (h * 18446744073709551616 + l) rest below))) := by
  refine pure_fix_wide_signed (by simp) fun G hP hn => ?_
  unfold a_fix_wide_signed
  have w8 : IntKind.u64.wrap 9223372036854775808 = 9223372036854775808 := by decide
  cases below
  · by_cases h1 : (h : Int) > 0
    · refine go h1 trivial ?_
      exact ends_ret rfl rfl rfl (by rw [rng_out (by unfold I64 sgn; simp; omega)]; rfl)
    · by_cases h2 : (l : Int) > 9223372036854775807
      · refine go (aa h1 h2) trivial ?_
        exact ends_ret rfl rfl rfl (by rw [rng_out (by unfold I64 sgn; simp; omega)]; rfl)
      · have w1 : IntKind.i64.wrap (l : Int) = (l : Int) := wrap_in (by omega) (by omega)
        refine go (aa h1 <| aa h2 w1) trivial ?_
        have e : sgn (h * 18446744073709551616 + l) rest false = (l : Int) := by unfold sgn; simp; omega
        exact ends_ret rfl rfl rfl (by rw [e, rng_in (by unfold I64; omega)]; rfl)
  · cases rest
    · by_cases h1 : (h : Int) > 0
      · refine go (aa h1 w8) trivial ?_
        exact ends_ret rfl rfl rfl (by rw [rng_out (by unfold I64 sgn; simp; omega)]; rfl)
      · by_cases h2 : (l : Int) > 9223372036854775808
        · refine go (aa h1 <| aa h2 w8) trivial ?_
          exact ends_ret rfl rfl rfl (by rw [rng_out (by unfold I64 sgn; simp; omega)]; rfl)
        · have w1 := neg_u64 (l := l) (by omega)
          refine go (aa h1 <| aa h2 <| aa w1 w8) trivial ?_
          have e : sgn (h * 18446744073709551616 + l) false true = -(l : Int) := by unfold sgn; simp; omega
          exact ends_ret rfl rfl rfl (by rw [e, rng_in (by unfold I64; omega)]; rfl)
    · have km := m_signed_1 3 h l hl hh
      have hv : (h * 18446744073709551616 + l + 1) / 18446744073709551616 * 18446744073709551616 + (h * 18446744073709551616 + l + 1) % 18446744073709551616 = h * 18446744073709551616 + l + 1 := by omega
      generalize (h * 18446744073709551616 + l + 1) / 18446744073709551616 = h' at km hv
      have hlt : (h * 18446744073709551616 + l + 1) % 18446744073709551616 < 18446744073709551616 := by omega
      generalize (h * 18446744073709551616 + l + 1) % 18446744073709551616 = l' at km hv hlt
      by_cases h1 : (h' : Int) > 0
      · refine go (aa h1 w8) km ?_
        exact ends_ret rfl rfl rfl (by rw [rng_out (by unfold I64 sgn; simp; omega)]; rfl)
      · by_cases h2 : (l' : Int) > 9223372036854775808
        · refine go (aa h1 <| aa h2 w8) km ?_
          exact ends_ret rfl rfl rfl (by rw [rng_out (by unfold I64 sgn; simp; omega)]; rfl)
        · have w1 := neg_u64 (l := l') (by omega)
          refine go (aa h1 <| aa h2 <| aa w1 w8) km ?_
          have e : sgn (h * 18446744073709551616 + l) true true = -(l' : Int) := by unfold sgn; simp; omega
          exact ends_ret rfl rfl rfl (by rw [e, rng_in (by unfold I64; omega)]; rfl)
end Go.AM

namespace Go.AM
open Go Go.Proofs
set_option maxRecDepth 100000
set_option maxHeartbeats 4000000

theorem apart_mul {a b : Int} : (apart a b = true → a * b = -((a.natAbs * b.natAbs : Nat) : Int)) ∧ (apart a b = false → a * b = ((a.natAbs * b.natAbs : Nat) : Int)) := by
  unfold apart
  have h := Int.natAbs_mul a b
  rcases Int.lt_trichotomy a 0 with ha | rfl | ha
  · rcases Int.lt_trichotomy b 0 with hb | rfl | hb
    · have := Int.mul_pos_of_neg_of_neg ha hb
      exact ⟨fun h => by simp [ha, hb] at h, fun _ => by rw [← h]; omega⟩
    · simp
    · have := Int.mul_neg_of_neg_of_pos ha hb
      exact ⟨fun _ => by rw [← h]; omega, fun h => by simp [ha] at h; omega⟩
  · simp
  · rcases Int.lt_trichotomy b 0 with hb | rfl | hb
    · have := Int.mul_neg_of_pos_of_neg ha hb
      exact ⟨fun _ => by rw [← h]; omega, fun h => by simp [hb] at h; omega⟩
    · simp
    · have := Int.mul_pos ha hb
      exact ⟨fun h => by simp at h; omega, fun _ => by rw [← h]; omega⟩
theorem mul_sgn (a b : Int) : sgn (a.natAbs * b.natAbs / 4294967296) (decide (a.natAbs * b.natAbs % 4294967296 ≠ 0)) (apart a b) = a * b / 4294967296 := by
  have h := apart_mul (a := a) (b := b)
  generalize a.natAbs * b.natAbs = m at *
  cases hp : apart a b
  · rw [h.2 hp]; unfold sgn; simp
  · rw [h.1 hp]; unfold sgn
    by_cases h0 : m % 4294967296 = 0
    · simp [h0]; omega
    · simp [h0]; omega
theorem abs_lt {a : Int} (ha : I64 a) : a.natAbs ≤ 9223372036854775808 := by unfold I64 at ha; omega
theorem p_fix_Mul {a b : Int} (ha : I64 a) (hb : I64 b) : PureC Tryz.prog fi_fix_Mul [dN a, dN b] (dNE (fMul a b)) := by
  refine pure_fix_Mul (by simp) fun G hP hn => ?_
  unfold a_fix_Mul
  have la := abs_lt ha
  have lb := abs_lt hb
  have km := p_bits_Mul64 (x := a.natAbs) (y := b.natAbs) (by omega) (by omega)
  have hm : a.natAbs * b.natAbs ≤ 9223372036854775808 * 9223372036854775808 := Nat.mul_le_mul la lb
  have e1 : ∀ m : Nat, m ≤ 9223372036854775808 * 9223372036854775808 → (m / 18446744073709551616) / 4294967296 * 18446744073709551616 + ((m / 18446744073709551616) % 4294967296 * 4294967296 + m % 18446744073709551616 / 4294967296) = m / 4294967296 := by
    intro m hm; omega
  have e1 := e1 _ hm
  have hs := mul_sgn a b
  have e2 : (decide (a.natAbs * b.natAbs % 4294967296 ≠ 0)) = (((a.natAbs * b.natAbs % 18446744073709551616 % 4294967296 : Nat) : Int) != 0) := by
    rw [Bool.eq_iff_iff]; simp; omega
  have ks : PureC Tryz.prog fi_fix_wide_signed [.agg [.int .u64 ((a.natAbs * b.natAbs / 18446744073709551616 / 4294967296 : Nat) : Int), .int .u64 ((a.natAbs * b.natAbs / 18446744073709551616 % 4294967296 * 4294967296 + a.natAbs * b.natAbs % 18446744073709551616 / 4294967296 : Nat) : Int)],
      dB (((a.natAbs * b.natAbs % 18446744073709551616 % 4294967296 : Nat) : Int) != 0), dB (apart a b)] (dNE (fMul a b)) := by
    have := p_fix_signed (h := a.natAbs * b.natAbs / 18446744073709551616 / 4294967296) (l := a.natAbs * b.natAbs / 18446744073709551616 % 4294967296 * 4294967296 + a.natAbs * b.natAbs % 18446744073709551616 / 4294967296) (by omega) (by omega)
      (((a.natAbs * b.natAbs % 18446744073709551616 % 4294967296 : Nat) : Int) != 0) (apart a b)
    rw [e1, ← e2, hs] at this
    rw [← e2]
    exact this
  have a1 := u64_and (x := a.natAbs * b.natAbs % 18446744073709551616) (by omega)
  have o1 := u64_or (x := a.natAbs * b.natAbs / 18446744073709551616 % 4294967296) (y := a.natAbs * b.natAbs % 18446744073709551616 / 4294967296) (by omega) (by omega)
  generalize a.natAbs * b.natAbs = m at *
  refine go (aa @shr32 <| aa @shl32 <| aa a1 o1) (aa (p_fix_size ha) <| aa (p_fix_size hb) <| aa km <| aa @p_fix_apart ks) ?_
  exact ends_ret rfl rfl rfl rfl
end Go.AM

namespace Go.AM
open Go Go.Proofs
set_option maxRecDepth 100000
set_option maxHeartbeats 4000000

def I64s (d : List Int) : Prop := ∀ n ∈ d, I64 n
theorem I64s.get {d : List Int} (h : I64s d) {i : Nat} {x : Int} (hx : d[i]? = some x) : I64 x := h x (List.mem_of_getElem? hx)
theorem I64s.nil : I64s [] := fun n hn => by simp at hn
theorem I64s.append {d e : List Int} (h : I64s d) (k : I64s e) : I64s (d ++ e) := fun n hn => by
  rcases List.mem_append.1 hn with h1 | h1
  · exact h n h1
  · exact k n h1
def coll (f : Nat → Int × Int) : Nat → Nat → List Int → List Int × Int
  | 0, _, acc => (acc, 0)
  | n + 1, a, acc => if (f a).2 = 0 then coll f n (a + 1) (acc ++ [(f a).1]) else ([], (f a).2)
theorem coll_ok {f : Nat → Int × Int} : ∀ {n a : Nat} {acc : List Int}, (∀ k, k < n → (f (a + k)).2 = 0) → coll f n a acc = (acc ++ (List.range n).map (fun k => (f (a + k)).1), 0)
  | 0, a, acc, _ => by simp [coll]
  | n + 1, a, acc, h => by
    have h0 := h 0 (by omega)
    simp only [Nat.add_zero] at h0
    simp only [coll]
    rw [if_pos h0, coll_ok (fun k hk => by have := h (k + 1) (by omega); rwa [show a + (k + 1) = a + 1 + k from by omega] at this)]
    rw [List.range_succ_eq_map, List.map_cons, List.map_map]
    simp only [List.append_assoc, List.cons_append, List.nil_append, Nat.add_zero]
    congr 3
    apply List.map_congr_left
    intro k _
    simp only [Function.comp]
    rw [show a + 1 + k = a + (k + 1) from by omega]
theorem coll_err {f : Nat → Int × Int} : ∀ {n a : Nat} {acc : List Int} {k : Nat}, k < n → (∀ j, j < k → (f (a + j)).2 = 0) → (f (a + k)).2 ≠ 0 → coll f n a acc = ([], (f (a + k)).2)
  | n + 1, a, acc, 0, _, _, h => by
    simp only [coll, Nat.add_zero] at h ⊢
    rw [if_neg h]
  | n + 1, a, acc, k + 1, hk, hj, h => by
    have h0 := hj 0 (by omega)
    simp only [Nat.add_zero] at h0
    simp only [coll]
    rw [if_pos h0, coll_err (k := k) (by omega) (fun j hj' => by have := hj (j + 1) (by omega); rwa [show a + (j + 1) = a + 1 + j from by omega] at this) (by rwa [show a + 1 + k = a + (k + 1) from by omega])]
    rw [show a + 1 + k = a + (k + 1) from by omega]
theorem coll_cases (f : Nat → Int × Int) (n : Nat) : (∀ k, k < n → (f k).2 = 0) ∨ ∃ k, k < n ∧ (∀ j, j < k → (f j).2 = 0) ∧ (f k).2 ≠ 0 := by
  induction n with
  | zero => exact .inl fun k hk => by omega
  | succ n ih =>
    rcases ih with h | ⟨k, hk, h1, h2⟩
    · by_cases hn : (f n).2 = 0
      · exact .inl fun k hk => by
          by_cases hkn : k = n
          · subst hkn; exact hn
          · exact h k (by omega)
      · exact .inr ⟨n, by omega, h, hn⟩
    · exact .inr ⟨k, by omega, h1, h2⟩
def dot (x y : Nat → Int) : Nat → Nat → Int → Int × Int
  | 0, _, s => (s, 0)
  | n + 1, k, s => if (fMul (x k) (y k)).2 = 0 then (if (fAdd s (fMul (x k) (y k)).1).2 = 0 then dot x y n (k + 1) (fAdd s (fMul (x k) (y k)).1).1 else (0, (fAdd s (fMul (x k) (y k)).1).2))
    else (0, (fMul (x k) (y k)).2)
theorem fAdd_range (a b : Int) : I64 (fAdd a b).1 := rng_range _
theorem fMul_range (a b : Int) : I64 (fMul a b).1 := rng_range _
abbrev rT (l : List (List Int × List Int)) : List (List PV) := l.map fun p => [eI p.1, eI p.2]
theorem p_matmul_may (l : List (List Int × List Int)) : PureC Tryz.prog fi_matmul_may [.one (.sl (rT l))] (dN (if l.all (fun p => checkT p.1 p.2) then 0 else 30)) := by
  refine pure_matmul_may (by simp) fun G hP hn => ?_
  unfold a_matmul_may
  refine T_wf 0 fun hl => ?_
  simp only [initE, lk, DV.av, wf_one, wf_sl, if_true, List.length_map] at hl
  refine go trivial trivial ?_
  refine T_for l.length (fun i (_ : Unit) => { env := [(5, .one (.p (.sl (rT l)))), (6, .one (.p (.int .i64 l.length))), (7, .one (.p (.int .i64 i)))], σ := [] })
    (fun i _ => l.all (fun p => checkT p.1 p.2) = (l.drop i).all (fun p => checkT p.1 p.2)) () rfl (.refl _ _) fun i _ hi hc => ?_
  rcases nth hi with ⟨x, hlt, hx, hd⟩ | ⟨rfl, hd⟩
  · have hw := wrap_succ hlt hl.1
    rw [hd] at hc
    simp only [List.all_cons] at hc
    cases hx1 : checkT x.1 x.2
    · refine go (aa hx <| aa hlt <| aa hw hx1) @p_tensor_Check ?_
      exact ends_ret rfl rfl rfl (by rw [hc, hx1]; rfl)
    · refine go (aa hx <| aa hlt <| aa hw hx1) @p_tensor_Check ?_
      exact rnd_next hlt () (by rw [hc, hx1]; simp) (Weak.sub fun p hp => by simp at hp)
  · rw [hd] at hc
    refine go trivial trivial ?_
    exact ends_ret rfl rfl rfl (by rw [hc]; rfl)
theorem p_matmul_Mul_1 {s d : List Int} {i k n : Nat} {x : Int} (hx : d[i * n + k]? = some x) (hm : i * n + k < 4611686018427387904) :
    PureC Tryz.prog fi_matmul_Mul_1 [dN i, dN k, bxT s d, bxN n] (dN x) := by
  refine pure_matmul_Mul_1 (by simp) fun G hP hn => ?_
  unfold a_matmul_Mul_1
  have hlt := (List.getElem?_eq_some_iff.1 hx).1
  have w1 : IntKind.i64.wrap ((i : Int) * (n : Int)) = ((i * n : Nat) : Int) := by rw [← Int.natCast_mul, wrap_in (by omega) (by omega)]
  have w2 : IntKind.i64.wrap (((i * n : Nat) : Int) + (k : Int)) = ((i * n + k : Nat) : Int) := by rw [← Int.natCast_add, wrap_in (by omega) (by omega)]
  refine go (aa w1 <| aa w2 <| aa hx hlt) trivial ?_
  exact ends_ret rfl rfl rfl rfl
theorem p_matmul_Mul_2 {t e : List Int} {k j p : Nat} {m x : Int} (hx : e[k * p + j]? = some x) (hm : k * p + j < 4611686018427387904) :
    PureC Tryz.prog fi_matmul_Mul_2 [dN k, dN j, bxT t e, .one (.box [.int .i64 m, .int .i64 p])] (dN x) := by
  refine pure_matmul_Mul_2 (by simp) fun G hP hn => ?_
  unfold a_matmul_Mul_2
  have hlt := (List.getElem?_eq_some_iff.1 hx).1
  have w1 : IntKind.i64.wrap ((k : Int) * (p : Int)) = ((k * p : Nat) : Int) := by rw [← Int.natCast_mul, wrap_in (by omega) (by omega)]
  have w2 : IntKind.i64.wrap (((k * p : Nat) : Int) + (j : Int)) = ((k * p + j : Nat) : Int) := by rw [← Int.natCast_add, wrap_in (by omega) (by omega)]
  refine go (aa w1 <| aa w2 <| aa hx hlt) trivial ?_
  exact ends_ret rfl rfl rfl rfl
end Go.AM

namespace Go.AM
open Go Go.Proofs
set_option maxRecDepth 100000
set_option maxHeartbeats 4000000

def gt (d : List Int) (i : Nat) : Int := (d[i]?).getD 0
def cell (n p : Nat) (d e : List Int) (at_ : Nat) : Int × Int := dot (fun k => gt d (at_ / p * n + k)) (fun k => gt e (k * p + at_ % p)) n 0 0
def mulF (s d t e : List Int) : (List Int × List Int) × Int :=
  if checkT s d = true ∧ checkT t e = true then
    match s, t with
    | [m, n], [n', p] => if n = n' ∧ checkS [m, p] = true then
        (if (coll (cell n.toNat p.toNat d e) (m * p).toNat 0 []).2 = 0 then (([m, p], (coll (cell n.toNat p.toNat d e) (m * p).toNat 0 []).1), 0) else bad (coll (cell n.toNat p.toNat d e) (m * p).toNat 0 []).2) else bad 20
    | _, _ => bad 20
  else bad 30
theorem ends_aggMM {rv : List RV} {s : AS} {t1 t2 k1 k2 l1 l2 : Nat} {cap1 cap2 : Option Nat} {m : Bool} {rows1 rows2 : List (List PV)} {v : PV}
    (h1 : evRV rv s.env s.σ = some [.agg [.msl t1 0 k1 l1 cap1, .msl t2 0 k2 l2 cap2], .one (.p v)]) (h2 : lo s.σ t1 = .arr false k1 rows1) (h3 : lo s.σ t2 = .arr m k2 rows2) (hl1 : l1 = rows1.length) (hl2 : l2 = rows2.length) :
    Ends rv (.tup [.agg [.sl rows1, .sl rows2], .one v]) .ret s :=
  ends_ret (ds := [.agg [.sl rows1, .sl rows2], .one v]) (σ' := if m then (t2, .arr false k2 rows2) :: s.σ else s.σ) h1 (by
    have h4 : foldP (toP 6) [.msl t1 0 k1 l1 cap1, .msl t2 0 k2 l2 cap2] s.σ = some ([.sl rows1, .sl rows2], if m then (t2, .arr false k2 rows2) :: s.σ else s.σ) := by
      have e1 := toD_list (n := 5) (cap := cap1) h2 hl1
      have e2 := toD_list (n := 5) (cap := cap2) h3 hl2
      simp only [Bool.false_eq_true, if_false] at e1
      simp only [foldP, e1, e2]
    simp only [toDs, toD, h4]; rfl) rfl rfl
theorem take_set_succ {d : List Int} {i : Nat} (h : i < d.length) (x : Int) : (d.set i x).take (i + 1) = d.take i ++ [x] := by
  rw [List.take_set, List.take_add_one, List.getElem?_eq_getElem h]
  simp only [Option.toList]
  rw [List.set_append_right _ _ (by simp; omega)]
  have : i - (d.take i).length = 0 := by simp; omega
  rw [this]; rfl
theorem p_matmul_Mul (s d t e : List Int) (hd : I64s d) (he : I64s e) : PureC Tryz.prog fi_matmul_Mul [dT s d, dT t e] (dTE (mulF s d t e)) := by
  refine pure_matmul_Mul (by simp) fun G hP hn => ?_
  unfold a_matmul_Mul
  have km := p_matmul_may [(s, d), (t, e)]
  simp only [rT, List.map, List.all_cons, List.all_nil, Bool.and_true] at km
  have fin : ∀ er : Int, mulF s d t e = bad er → dTE (mulF s d t e) = .tup [.agg [.sl [], .sl []], dN er] := fun er h => by rw [h]; rfl
  cases hc1 : checkT s d
  · have hf : mulF s d t e = bad 30 := by unfold mulF; rw [if_neg (by simp [hc1])]
    rw [hc1] at km
    refine go trivial km ?_
    exact ends_ret rfl rfl rfl (by rw [hf]; rfl)
  cases hc2 : checkT t e
  · have hf : mulF s d t e = bad 30 := by unfold mulF; rw [if_neg (by simp [hc2])]
    rw [hc1, hc2] at km
    refine go trivial km ?_
    exact ends_ret rfl rfl rfl (by rw [hf]; rfl)
  rw [hc1, hc2] at km
  have hcc : checkT s d = true ∧ checkT t e = true := ⟨hc1, hc2⟩
  by_cases hs2 : s.length = 2
  rotate_left
  · have hf : mulF s d t e = bad 20 := by
      unfold mulF; rw [if_pos hcc]
      match s, hs2 with
      | [], _ => rfl
      | [a], _ => rfl
      | a :: b :: c :: r, _ => rfl
      | [a, b], h => exact absurd rfl h
    have c1 : ((s.length : Int) != 2) = true := by simp; omega
    refine go c1 km ?_
    exact ends_ret rfl rfl rfl (by rw [hf]; rfl)
  by_cases ht2 : t.length = 2
  rotate_left
  · have hf : mulF s d t e = bad 20 := by
      unfold mulF; rw [if_pos hcc]
      match s, t, hs2, ht2 with
      | [a, b], [], _, _ => rfl
      | [a, b], [c], _, _ => rfl
      | [a, b], c :: f :: g :: r, _, _ => rfl
      | [a, b], [c, f], _, h => exact absurd rfl h
    have c1 : ((s.length : Int) != 2) = false := by simp; omega
    have c2 : ((t.length : Int) != 2) = true := by simp; omega
    refine go (aa c1 c2) km ?_
    exact ends_ret rfl rfl rfl (by rw [hf]; rfl)
  obtain ⟨m, n, rfl⟩ : ∃ m n, s = [m, n] := match s, hs2 with | [a, b], _ => ⟨a, b, rfl⟩
  obtain ⟨n', p, rfl⟩ : ∃ m n, t = [m, n] := match t, ht2 with | [a, b], _ => ⟨a, b, rfl⟩
  cases hnn : (n != n')
  rotate_left
  · have hne : ¬ n = n' := by simpa using hnn
    have hf : mulF [m, n] d [n', p] e = bad 20 := by
      unfold mulF; rw [if_pos hcc]; simp only; rw [if_neg (fun h => hne h.1)]
    refine go hnn km ?_
    exact ends_ret rfl rfl rfl (by rw [hf]; rfl)
  obtain rfl : n = n' := by simpa using hnn
  cases hck : checkS [m, p]
  · have hf : mulF [m, n] d [n, p] e = bad 20 := by
      unfold mulF; rw [if_pos hcc]; simp only; rw [if_neg (fun h => by rw [hck] at h; cases h.2)]
    have kc := p_shape_Check [m, p]
    refine go (aa hnn hck) (aa km kc) ?_
    exact ends_ret rfl rfl rfl (by rw [hf]; rfl)
  have hsd := checkT_iff.1 hc1
  have hte := checkT_iff.1 hc2
  have hm1 : 1 ≤ m ∧ m ≤ 16 := hsd.1.2.1 m (by simp)
  have hn1 : 1 ≤ n ∧ n ≤ 16 := hsd.1.2.1 n (by simp)
  have hp1 : 1 ≤ p ∧ p ≤ 16 := hte.1.2.1 p (by simp)
  obtain ⟨M, rfl⟩ := Int.eq_ofNat_of_zero_le (by omega : 0 ≤ m)
  obtain ⟨N, rfl⟩ := Int.eq_ofNat_of_zero_le (by omega : 0 ≤ n)
  obtain ⟨K, rfl⟩ := Int.eq_ofNat_of_zero_le (by omega : 0 ≤ p)
  have hdl : d.length = M * N := by have := hsd.2; simp only [prd, Int.mul_one] at this; exact_mod_cast this
  have hel : e.length = N * K := by have := hte.2; simp only [prd, Int.mul_one] at this; exact_mod_cast this
  have hMK : M * K ≤ 16 * 16 := Nat.mul_le_mul (by omega) (by omega)
  have w1 : IntKind.i64.wrap ((M : Int) * (K : Int)) = ((M * K : Nat) : Int) := by rw [← Int.natCast_mul, wrap_in (by omega) (by omega)]
  have hM : MaxN = 140737488355328 := rfl
  have q1 : ((M * K : Nat) : Int) * 8 ≤ MaxN := by omega
  have q2 : ((M * K : Nat) : Int) ≤ MaxN := by omega
  have kc := p_shape_Check [(M : Int), (K : Int)]
  refine go (aa hnn <| aa hck <| aa w1 <| aa q1 q2) (aa km kc) ?_
  have hmul : mulF [(M : Int), (N : Int)] d [(N : Int), (K : Int)] e = if (coll (cell N K d e) (M * K) 0 []).2 = 0 then (([(M : Int), (K : Int)], (coll (cell N K d e) (M * K) 0 []).1), 0) else bad (coll (cell N K d e) (M * K) 0 []).2 := by
    have e1 : ((M : Int) * (K : Int)).toNat = M * K := by rw [← Int.natCast_mul]; omega
    unfold mulF; rw [if_pos hcc]; simp only [Int.toNat_natCast, e1]; rw [if_pos ⟨trivial, hck⟩]
  have fin2 : ∀ er : Int, coll (cell N K d e) (M * K) 0 [] = ([], er) → er ≠ 0 → mulF [(M : Int), (N : Int)] d [(N : Int), (K : Int)] e = bad er := fun er h1 h2 => by rw [hmul, h1]; exact if_neg h2
  refine T_weak (Weak.freeze (i := 8) rfl rfl) ?_
  refine T_weak (Weak.freeze (i := 9) rfl rfl) ?_
  refine T_for (M * K) (fun i data => { env := [(4, .one (.ptr 4 0 2 0)), (6, .one (.ptr 6 0 1 0)), (7, .one (.ptr 7 0 1 0)), (8, .one (.p (.fn fi_matmul_Mul_1 [] [.box [eI [(M : Int), (N : Int)], eI d], .box [.int .i64 N]]))), (9, .one (.p (.fn fi_matmul_Mul_2 [] [.box [eI [(N : Int), (K : Int)], eI e], .box [.int .i64 M, .int .i64 K]]))), (10, .one (.msl 68 0 1 (M * K) (some (M * K)))), (70, .one (.p (.int .i64 ((M * K : Nat) : Int)))), (71, .one (.p (.int .i64 i)))], σ := [(4, .cells true [.nils, .nils]), (6, .arr false 1 [[.int .i64 M], [.int .i64 K]]), (7, .cells false [.p (.int .i64 N)]), (68, .arr true 1 (rI data))] })
    (fun i data => data.length = M * K ∧ data.drop i = List.replicate (M * K - i) 0 ∧ coll (cell N K d e) (M * K - i) i (data.take i) = coll (cell N K d e) (M * K) 0 []) (List.replicate (M * K) 0) ⟨by simp, by simp, by simp⟩ ?_ fun i data hi hc => ?_
  · refine (Weak.pick [4, 6, 7, 8, 9, 10, 70, 71]).trans (Weak.sub fun p hp => ?_)
    simp only [List.mem_cons, List.not_mem_nil, or_false] at hp
    rcases hp with rfl | rfl | rfl | rfl
    · rfl
    · rfl
    · rfl
    · simp [lo, rI]
  obtain ⟨hc1', hc2', hc3⟩ := hc
  by_cases hlt : i < M * K
  · have c1 : (i : Int) < ((M * K : Nat) : Int) := by omega
    have w2 : IntKind.i64.wrap ((i : Int) + 1) = ((i + 1 : Nat) : Int) := by rw [wrap_in (by omega) (by omega)]; rfl
    have hK0 : ((K : Int) = 0) = False := by simp; omega
    have qd : IntKind.i64.wrap ((i : Int).tdiv (K : Int)) = ((i / K : Nat) : Int) := by
      have hq := Nat.div_le_self i K
      rw [Int.tdiv_eq_ediv_of_nonneg (by omega), ← Int.natCast_ediv]
      generalize i / K = q at hq ⊢
      exact wrap_in (by omega) (by omega)
    have qm : (i : Int).tmod (K : Int) = ((i % K : Nat) : Int) := by rw [Int.tmod_eq_emod_of_nonneg (by omega)]; omega
    have hiK : i / K < M := (Nat.div_lt_iff_lt_mul (by omega)).2 hlt
    have hmK : i % K < K := Nat.mod_lt _ (by omega)
    have hMN : M * N ≤ 16 * 16 := Nat.mul_le_mul (by omega) (by omega)
    have hNK : N * K ≤ 16 * 16 := Nat.mul_le_mul (by omega) (by omega)
    have hdi : data[i]? = some 0 := by
      have : (data.drop i)[0]? = some 0 := by rw [hc2', List.getElem?_replicate]; rw [if_pos (by omega)]
      rw [List.getElem?_drop] at this; simpa using this
    refine go c1 trivial ?_
    refine T_for N (fun k sum => { env := [(4, .one (.ptr 4 0 2 0)), (6, .one (.ptr 6 0 1 0)), (7, .one (.ptr 7 0 1 0)), (8, .one (.p (.fn fi_matmul_Mul_1 [] [.box [eI [(M : Int), (N : Int)], eI d], .box [.int .i64 N]]))), (9, .one (.p (.fn fi_matmul_Mul_2 [] [.box [eI [(N : Int), (K : Int)], eI e], .box [.int .i64 M, .int .i64 K]]))), (10, .one (.msl 68 0 1 (M * K) (some (M * K)))), (11, .one (.p (.int .i64 i))), (70, .one (.p (.int .i64 ((M * K : Nat) : Int)))), (71, .one (.p (.int .i64 i))), (74, .one (.p (.int .i64 N))), (75, .one (.p (.int .i64 k)))], σ := [(4, .cells true [.nils, .nils]), (6, .arr false 1 [[.int .i64 M], [.int .i64 K]]), (7, .cells false [.p (.int .i64 N)]), (68, .arr true 1 (rI (data.set i sum)))] })
      (fun k sum => I64 sum ∧ dot (fun k => gt d (i / K * N + k)) (fun k => gt e (k * K + i % K)) (N - k) k sum = cell N K d e i) 0 ⟨⟨by decide, by decide⟩, rfl⟩ ?_ fun k sum hk hck2 => ?_
    · have e0 : data.set i 0 = data := by
        apply List.ext_getElem?
        intro j
        rw [List.getElem?_set]
        split
        · rename_i hj; subst hj; rw [hdi]; simp [hc1', hlt]
        · rfl
      rw [e0]
      exact (Weak.pick [4, 6, 7, 8, 9, 10, 11, 70, 71, 74, 75]).trans (Weak.sub fun p hp => by
        simp only [List.mem_cons, List.not_mem_nil, or_false] at hp
        rcases hp with rfl | rfl | rfl | rfl <;> rfl)
    · obtain ⟨hsum, hdot⟩ := hck2
      by_cases hkN : k < N
      · have k1 : (k : Int) < (N : Int) := by omega
        have w4 : IntKind.i64.wrap ((k : Int) + 1) = ((k + 1 : Nat) : Int) := by rw [wrap_in (by omega) (by omega)]; rfl
        have hb1 : i / K * N + k < M * N := by
          have : (i / K + 1) * N ≤ M * N := Nat.mul_le_mul_right N hiK
          rw [Nat.succ_mul] at this; omega
        have hb2 : k * K + i % K < N * K := by
          have : (k + 1) * K ≤ N * K := Nat.mul_le_mul_right K hkN
          rw [Nat.succ_mul] at this; omega
        have hx : d[i / K * N + k]? = some (gt d (i / K * N + k)) := by
          rw [gt, List.getElem?_eq_getElem (by omega)]; rfl
        have hy : e[k * K + i % K]? = some (gt e (k * K + i % K)) := by
          rw [gt, List.getElem?_eq_getElem (by omega)]; rfl
        have kr := p_matmul_Mul_1 (s := [(M : Int), (N : Int)]) (i := i / K) (k := k) (n := N) hx (by omega)
        have kq := p_matmul_Mul_2 (t := [(N : Int), (K : Int)]) (k := k) (j := i % K) (p := K) (m := M) hy (by omega)
        have kmul := p_fix_Mul (hd.get hx) (he.get hy)
        have hNk : N - k = (N - (k + 1)) + 1 := by omega
        rw [hNk] at hdot
        simp only [dot] at hdot
        generalize gt d (i / K * N + k) = x at *
        generalize gt e (k * K + i % K) = y at *
        have hset : (data.set i sum)[i]? = some sum := by rw [List.getElem?_set_self (by omega)]
        have hsl : (data.set i sum).length = M * K := by simp [hc1']
        by_cases e1 : (fMul x y).2 = 0
        · rw [if_pos e1] at hdot
          have e1' : ((fMul x y).2 != 0) = false := by simp [e1]
          have kadd := p_fix_Add hsum (fMul_range x y)
          by_cases e2 : (fAdd sum (fMul x y).1).2 = 0
          · rw [if_pos e2] at hdot
            have e2' : ((fAdd sum (fMul x y).1).2 != 0) = false := by simp [e2]
            repeat' (first | apply T_then | apply then_ret | apply then_exit | apply then_goto | apply rnd_exit | apply rnd_ret | apply rnd_goto | apply noGo_normal | apply noGo_ret | apply noGo_exit | apply jmp_normal | apply jmp_ret | apply jmp_exit | apply jmp_goto | apply inB_normal | apply inB_ret | apply inB_goto | apply inB_exit | refine inB_exit_ne rfl ?_ | ((first | apply T_srK fw | apply T_regK fw); · ((try simp only [TOps.flat, List.cons_append, List.nil_append]); repeat (first | apply X_g0 | apply X_g | apply S_keep | apply X_skip | apply X_skipN | refine X_call ?_ ⟨_, _, _, _, _, _, rfl, rfl, rfl, by rw [hP]; exact kr⟩ ?_ | refine X_call ?_ ⟨_, _, _, _, _, _, rfl, rfl, rfl, by rw [hP]; exact kq⟩ ?_ | refine X_call ?_ ⟨_, _, _, _, _, _, rfl, rfl, rfl, by rw [hP]; exact kmul⟩ ?_ | refine X_call ?_ ⟨_, _, _, _, _, _, rfl, rfl, rfl, by rw [hP]; exact kadd⟩ ?_ | apply X_q | apply X_st | apply X_n | apply X_s | apply SKs0 | apply SKs2 | apply SKs1 | refine ⟨⟨rfl, rfl⟩, ?_⟩ | refine ⟨⟨rfl, ?_⟩, ?_⟩ | refine ⟨?_, ?_⟩ | (· (try simp only [go_sem, seval, reduceIte, ↓reduceIte, Bool.not_eq_true, reduceCtorEq, beq_false, beq_true, hn, hP, k1, hK0, qd, qm, e1', e2', w4, hlt, hset, hsl, hc1', rI_set, List.set_set]); first | done | rfl)))) | ((first | apply T_sdF fw (by rw [hP]; rfl) (by decide +kernel) | apply T_drF fw (by rw [hP]; rfl) (by decide +kernel)); · ((try simp only [TOps.flat, List.cons_append, List.nil_append]); repeat (first | apply Y_g0 | apply Y_g | apply Y_skip | apply Y_q | refine Y_call ⟨_, _, _, _, _, _, rfl, rfl, rfl, by rw [hP]; exact kr⟩ ?_ ?_ | refine Y_call ⟨_, _, _, _, _, _, rfl, rfl, rfl, by rw [hP]; exact kq⟩ ?_ ?_ | refine Y_call ⟨_, _, _, _, _, _, rfl, rfl, rfl, by rw [hP]; exact kmul⟩ ?_ ?_ | refine Y_call ⟨_, _, _, _, _, _, rfl, rfl, rfl, by rw [hP]; exact kadd⟩ ?_ ?_ | refine RunF_nil (P := G.P) ?_ | (· (try simp only [go_sem, seval, reduceIte, ↓reduceIte, Bool.not_eq_true, reduceCtorEq, beq_false, beq_true, hn, hP, k1, hK0, qd, qm, e1', e2', w4, hlt, hset, hsl, hc1', rI_set, List.set_set]); first | done | rfl)))) | apply T_seq | apply T_block | refine T_scopeJ 0 rfl ?_ | apply T_scope | apply T_goto | apply T_ret | apply T_skip | apply T_exit | apply T_label | refine T_condT rfl ?_ | refine T_condF rfl ?_ | refine T_condD rfl (fun _ => ?_) (fun _ => ?_) | refine T_cond rfl (fun _ => ?_) (fun _ => ?_))
            exact rnd_next hkN _ ⟨fAdd_range _ _, hdot⟩ (Weak.sub fun p hp => by
              simp only [List.mem_cons, List.not_mem_nil, or_false] at hp
              rcases hp with rfl | rfl | rfl | rfl <;> rfl)
          · rw [if_neg e2] at hdot
            have e2' : ((fAdd sum (fMul x y).1).2 != 0) = true := by simp [e2]
            have hf := fin2 _ (by
              rw [← hc3, show M * K - i = (M * K - (i + 1)) + 1 from by omega]
              simp only [coll]
              rw [if_neg (by rw [← hdot]; exact e2), ← hdot]) e2
            repeat' (first | apply T_then | apply then_ret | apply then_exit | apply then_goto | apply rnd_exit | apply rnd_ret | apply rnd_goto | apply noGo_normal | apply noGo_ret | apply noGo_exit | apply jmp_normal | apply jmp_ret | apply jmp_exit | apply jmp_goto | apply inB_normal | apply inB_ret | apply inB_goto | apply inB_exit | refine inB_exit_ne rfl ?_ | ((first | apply T_srK fw | apply T_regK fw); · ((try simp only [TOps.flat, List.cons_append, List.nil_append]); repeat (first | apply X_g0 | apply X_g | apply S_keep | apply X_skip | apply X_skipN | refine X_call ?_ ⟨_, _, _, _, _, _, rfl, rfl, rfl, by rw [hP]; exact kr⟩ ?_ | refine X_call ?_ ⟨_, _, _, _, _, _, rfl, rfl, rfl, by rw [hP]; exact kq⟩ ?_ | refine X_call ?_ ⟨_, _, _, _, _, _, rfl, rfl, rfl, by rw [hP]; exact kmul⟩ ?_ | refine X_call ?_ ⟨_, _, _, _, _, _, rfl, rfl, rfl, by rw [hP]; exact kadd⟩ ?_ | apply X_q | apply X_st | apply X_n | apply X_s | apply SKs0 | apply SKs2 | apply SKs1 | refine ⟨⟨rfl, rfl⟩, ?_⟩ | refine ⟨⟨rfl, ?_⟩, ?_⟩ | refine ⟨?_, ?_⟩ | (· (try simp only [go_sem, seval, reduceIte, ↓reduceIte, Bool.not_eq_true, reduceCtorEq, beq_false, beq_true, hn, hP, k1, hK0, qd, qm, e1', e2', w4, hlt, hset, hsl, hc1', rI_set, List.set_set]); first | done | rfl)))) | ((first | apply T_sdF fw (by rw [hP]; rfl) (by decide +kernel) | apply T_drF fw (by rw [hP]; rfl) (by decide +kernel)); · ((try simp only [TOps.flat, List.cons_append, List.nil_append]); repeat (first | apply Y_g0 | apply Y_g | apply Y_skip | apply Y_q | refine Y_call ⟨_, _, _, _, _, _, rfl, rfl, rfl, by rw [hP]; exact kr⟩ ?_ ?_ | refine Y_call ⟨_, _, _, _, _, _, rfl, rfl, rfl, by rw [hP]; exact kq⟩ ?_ ?_ | refine Y_call ⟨_, _, _, _, _, _, rfl, rfl, rfl, by rw [hP]; exact kmul⟩ ?_ ?_ | refine Y_call ⟨_, _, _, _, _, _, rfl, rfl, rfl, by rw [hP]; exact kadd⟩ ?_ ?_ | refine RunF_nil (P := G.P) ?_ | (· (try simp only [go_sem, seval, reduceIte, ↓reduceIte, Bool.not_eq_true, reduceCtorEq, beq_false, beq_true, hn, hP, k1, hK0, qd, qm, e1', e2', w4, hlt, hset, hsl, hc1', rI_set, List.set_set]); first | done | rfl)))) | apply T_seq | apply T_block | refine T_scopeJ 0 rfl ?_ | apply T_scope | apply T_goto | apply T_ret | apply T_skip | apply T_exit | apply T_label | refine T_condT rfl ?_ | refine T_condF rfl ?_ | refine T_condD rfl (fun _ => ?_) (fun _ => ?_) | refine T_cond rfl (fun _ => ?_) (fun _ => ?_))
            exact ends_ret rfl rfl rfl (by rw [hf]; rfl)
        · rw [if_neg e1] at hdot
          have e1' : ((fMul x y).2 != 0) = true := by simp [e1]
          have hf := fin2 _ (by
            rw [← hc3, show M * K - i = (M * K - (i + 1)) + 1 from by omega]
            simp only [coll]
            rw [if_neg (by rw [← hdot]; exact e1), ← hdot]) e1
          refine go (aa k1 <| aa hK0 <| aa @qd <| aa @qm <| aa e1' w4) (aa kr <| aa kq kmul) ?_
          exact ends_ret rfl rfl rfl (by rw [hf]; rfl)
      · have hkn : k = N := by omega
        subst hkn
        refine go w2 trivial ?_
        rw [Nat.sub_self] at hdot
        simp only [dot] at hdot
        refine rnd_next hlt (data.set i sum) ⟨by simp [hc1'], ?_, ?_⟩ (Weak.sub fun p hp => by
          simp only [List.mem_cons, List.not_mem_nil, or_false] at hp
          rcases hp with rfl | rfl | rfl | rfl <;> rfl)
        · rw [List.drop_set_of_lt (by omega)]
          have : data.drop (i + 1) = (data.drop i).drop 1 := by rw [List.drop_drop]
          rw [this, hc2', List.drop_replicate]; congr 1
        · rw [take_set_succ (by omega), ← hc3, show M * K - i = (M * K - (i + 1)) + 1 from by omega]
          simp only [coll, ← hdot]
          rfl
  · have hi2 : i = M * K := by omega
    subst hi2
    rw [Nat.sub_self, List.take_of_length_le (by omega)] at hc3
    simp only [coll] at hc3
    refine go trivial trivial ?_
    rw [hmul, ← hc3]
    exact ends_aggMM rfl rfl rfl rfl (by simp [hc1'])
end Go.AM

namespace Go.AM
open Go Go.Proofs
set_option maxRecDepth 100000
set_option maxHeartbeats 4000000

theorem I64s.mk {s : List Int} {g : List Int → Int} (h : ∀ x, I64 (g x)) : I64s (mk s g) := fun n hn => by
  simp only [AM.mk, List.mem_map] at hn
  obtain ⟨p, _, rfl⟩ := hn
  exact h _
theorem atF_range {s d x : List Int} (hd : I64s d) : I64 (atF s d x).1 := by
  have z : I64 0 := ⟨by decide, by decide⟩
  unfold atF
  split
  · exact z
  · split
    · exact z
    · cases h : d[(placeF s x).1.toNat]? with
      | none => exact z
      | some v => exact hd.get h
theorem turnF_range {s d : List Int} (hd : I64s d) : I64s (turnF s d).1.2 := by
  unfold turnF
  split
  · exact I64s.mk fun x => atF_range hd
  · exact I64s.nil
end Go.AM

namespace Go.AM
open Go Go.Proofs
set_option maxRecDepth 100000
set_option maxHeartbeats 4000000

theorem i64_0 : I64 0 := ⟨by decide, by decide⟩
theorem fMul_zero (a : Int) : fMul a 0 = (0, 0) := by unfold fMul; rw [Int.mul_zero]; exact rng_in i64_0
theorem fAdd_zero {a : Int} (h : I64 a) : fAdd a 0 = (a, 0) := by unfold fAdd; rw [Int.add_zero]; exact rng_in h
theorem dot_none {x y : Nat → Int} : ∀ {n k : Nat} {s : Int}, I64 s → (∀ j, j < n → y (k + j) = 0) → dot x y n k s = (s, 0)
  | 0, _, _, _, _ => rfl
  | n + 1, k, s, hs, h => by
    have h0 := h 0 (by omega)
    rw [Nat.add_zero] at h0
    simp only [dot, h0, fMul_zero, fAdd_zero hs, if_true]
    exact dot_none hs fun j hj => by
      have := h (j + 1) (by omega)
      rwa [show k + (j + 1) = k + 1 + j from by omega] at this
def tab (m p : Nat) (g : Nat → Nat → Int) : List Int := (List.range (m * p)).map fun a => g (a / p) (a % p)
theorem row_lt {m p i j : Nat} (hi : i < m) (hj : j < p) : i * p + j < m * p := by
  have : (i + 1) * p ≤ m * p := Nat.mul_le_mul_right p (by omega)
  rw [Nat.succ_mul] at this; omega
theorem row_div {p i j : Nat} (hj : j < p) : (i * p + j) / p = i := by
  rw [Nat.add_comm, Nat.add_mul_div_right _ _ (by omega), Nat.div_eq_of_lt hj, Nat.zero_add]
theorem row_mod {p i j : Nat} (hj : j < p) : (i * p + j) % p = j := by
  rw [Nat.add_comm, Nat.add_mul_mod_self_right, Nat.mod_eq_of_lt hj]
theorem row_of {m p a : Nat} (h : a < m * p) : a / p < m ∧ a % p < p ∧ a / p * p + a % p = a := by
  have hp : 0 < p := by
    rcases Nat.eq_zero_or_pos p with rfl | hp
    · simp at h
    · exact hp
  refine ⟨by rw [Nat.div_lt_iff_lt_mul hp]; exact h, Nat.mod_lt _ hp, ?_⟩
  have := Nat.div_add_mod a p
  rw [Nat.mul_comm] at this; exact this
theorem gt_tab {m p : Nat} {g : Nat → Nat → Int} {i j : Nat} (hi : i < m) (hj : j < p) : gt (tab m p g) (i * p + j) = g i j := by
  unfold gt tab
  rw [List.getElem?_map, List.getElem?_range (row_lt hi hj)]
  simp only [Option.map_some, Option.getD_some, row_div hj, row_mod hj]
theorem tab_congr {m p : Nat} {g g' : Nat → Nat → Int} (h : ∀ i j, i < m → j < p → g i j = g' i j) : tab m p g = tab m p g' := by
  unfold tab
  apply List.map_congr_left
  intro a ha
  obtain ⟨h1, h2, _⟩ := row_of (List.mem_range.1 ha)
  exact h _ _ h1 h2
theorem gt_range {d : List Int} (h : I64s d) (i : Nat) : I64 (gt d i) := by
  unfold gt
  cases e : d[i]? with
  | none => exact i64_0
  | some v => exact h.get e
def cel (n p : Nat) (d e : List Int) (i j : Nat) : Int × Int := dot (fun k => gt d (i * n + k)) (fun k => gt e (k * p + j)) n 0 0
theorem cell_cel (n p : Nat) (d e : List Int) (a : Nat) : cell n p d e a = cel n p d e (a / p) (a % p) := rfl
def Goes (m n p : Nat) (d e : List Int) : Prop := ∀ i j, i < m → j < p → (cel n p d e i j).2 = 0
def prod (m n p : Nat) (d e : List Int) : List Int := tab m p fun i j => (cel n p d e i j).1
theorem mul_go {m n p : Nat} {d e : List Int} (h1 : checkT [(m : Int), (n : Int)] d = true) (h2 : checkT [(n : Int), (p : Int)] e = true) (h3 : checkS [(m : Int), (p : Int)] = true) (h : Goes m n p d e) :
    mulF [(m : Int), (n : Int)] d [(n : Int), (p : Int)] e = (([(m : Int), (p : Int)], prod m n p d e), 0) := by
  unfold mulF
  rw [if_pos ⟨h1, h2⟩]
  simp only [h3, and_self, if_true, Int.toNat_natCast]
  rw [← Int.natCast_mul, Int.toNat_natCast]
  have hc := coll_ok (f := cell n p d e) (n := m * p) (a := 0) (acc := []) fun k hk => by
    rw [Nat.zero_add, cell_cel]
    exact h _ _ (row_of hk).1 (row_of hk).2.1
  rw [hc]
  simp only [if_true, List.nil_append, Nat.zero_add, cell_cel]
  rfl
theorem len2 {s d : List Int} (h : checkT s d = true) (hl : s.length = 2) : ∃ m n : Nat, s = [(m : Int), (n : Int)] := by
  match s, hl with
  | [m, n], _ =>
    have q1 := (checkT_iff.1 h).1.2.1 m (by simp)
    have q2 := (checkT_iff.1 h).1.2.1 n (by simp)
    obtain ⟨m, rfl⟩ := Int.eq_ofNat_of_zero_le (by omega : 0 ≤ m)
    obtain ⟨n, rfl⟩ := Int.eq_ofNat_of_zero_le (by omega : 0 ≤ n)
    exact ⟨m, n, rfl⟩
end Go.AM

namespace Go.AM
open Go Go.Proofs
set_option maxRecDepth 100000
set_option maxHeartbeats 4000000

theorem ends_twoM {rv : List RV} {s : AS} {t1 t2 k1 k2 l1 l2 : Nat} {cap1 cap2 : Option Nat} {rows1 rows2 : List (List PV)} {tl : List AV} {ds : List DV} {r : DV} (hne : t1 ≠ t2)
    (h1 : evRV rv s.env s.σ = some (.agg [.msl t1 0 k1 l1 cap1, .msl t2 0 k2 l2 cap2] :: tl)) (h2 : lo s.σ t1 = .arr true k1 rows1) (h3 : lo s.σ t2 = .arr true k2 rows2) (hl1 : l1 = rows1.length) (hl2 : l2 = rows2.length)
    (ht : (tl = [] ∧ ds = []) ∨ ∃ v, tl = [.one (.p v)] ∧ ds = [.one v]) (hr : r = resD (.agg [.sl rows1, .sl rows2] :: ds)) :
    Ends rv r .ret s := by
  have h4 : foldP (toP 6) [.msl t1 0 k1 l1 cap1, .msl t2 0 k2 l2 cap2] s.σ = some ([.sl rows1, .sl rows2], (t2, .arr false k2 rows2) :: (t1, .arr false k1 rows1) :: s.σ) := by
    have e1 := toD_list (n := 5) (cap := cap1) h2 hl1
    have e2 := toD_list (n := 5) (cap := cap2) (σ := (t1, .arr false k1 rows1) :: s.σ) (t := t2) (k := k2) (rows := rows2) (m := true) (by rw [← h3]; simp [lo, hne.symm]) hl2
    simp only [if_true] at e1 e2
    simp only [foldP, e1, e2]
  rcases ht with ⟨rfl, rfl⟩ | ⟨v, rfl, rfl⟩
  · exact ends_ret (ds := [.agg [.sl rows1, .sl rows2]]) (σ' := (t2, .arr false k2 rows2) :: (t1, .arr false k1 rows1) :: s.σ) h1 (by simp only [toDs, toD, h4]) rfl hr.symm
  · exact ends_ret (ds := [.agg [.sl rows1, .sl rows2], .one v]) (σ' := (t2, .arr false k2 rows2) :: (t1, .arr false k1 rows1) :: s.σ) h1 (by simp only [toDs, toD, h4]; rfl) rfl hr.symm
end Go.AM

namespace Go.AM
open Go Go.Proofs
set_option maxRecDepth 100000
set_option maxHeartbeats 4000000

theorem p_bits_Mul {x y : Nat} (hx : x < 18446744073709551616) (hy : y < 18446744073709551616) : PureC Tryz.prog fi_math_bits_Mul [dU x, dU y] (dUU (x * y / 18446744073709551616) (x * y % 18446744073709551616)) := by
  refine pure_math_bits_Mul (by simp) fun G hP hn => ?_
  unfold a_math_bits_Mul
  have k := p_bits_Mul64 hx hy
  have w1 := u64_nat hx
  have w2 := u64_nat hy
  have w3 : IntKind.u64.wrap ((x * y / 18446744073709551616 : Nat) : Int) = ((x * y / 18446744073709551616 : Nat) : Int) := u64_nat (by
    have : x * y < 18446744073709551616 * 18446744073709551616 := Nat.mul_lt_mul'' hx hy
    omega)
  have w4 : IntKind.u64.wrap ((x * y % 18446744073709551616 : Nat) : Int) = ((x * y % 18446744073709551616 : Nat) : Int) := u64_nat (by omega)
  generalize x * y / 18446744073709551616 = h at *
  generalize x * y % 18446744073709551616 = l at *
  refine go (aa w1 <| aa w2 <| aa w3 w4) k ?_
  exact ends_ret rfl rfl rfl rfl
def repL (v : Int) (k n : Nat) : List Int := List.replicate n v ++ List.replicate (k - n) 0
theorem m_slices_Repeat (v : Int) (k : Nat) (h1 : 1 ≤ k) (h2 : k ≤ 64) : MutC Tryz.prog fi_slices_Repeat_int_int [.one (.msl 13 0 1 1 none), .one (.p (.int .i64 k))] [(13, .arr true 1 (rI [v]))]
    (.one (.msl 30 0 1 k (some k))) [(13, .arr true 1 (rI [v])), (30, .arr true 1 (rI (List.replicate k v)))] [30] := by
  refine mut_slices_Repeat_int_int (by simp) fun G ex hP hn hfr => ?_
  unfold a_slices_Repeat_int_int
  have hfr := hfr 30 (by simp)
  have kb := p_bits_Mul (x := 1) (y := k) (by omega) (by omega)
  rw [Nat.one_mul, show k / 18446744073709551616 = 0 from by omega, show k % 18446744073709551616 = k from by omega] at kb
  have w1 : IntKind.u64.wrap (1 : Int) = 1 := by decide
  have w2 := u64_nat (n := k) (by omega)
  have w3 : IntKind.i64.wrap (k : Int) = (k : Int) := wrap_in (by omega) (by omega)
  have c0 : ¬ (k : Int) < 0 := by omega
  have c1 : ¬ (k : Int) > 9223372036854775807 := by omega
  have hM : MaxN = 140737488355328 := rfl
  have q1 : (k : Int) * 8 ≤ MaxN := by omega
  have q2 : (k : Int) ≤ MaxN := by omega
  have m1 : min (1 : Int) (k : Int) = 1 := by omega
  refine go (aa w1 <| aa w2 <| aa w3 <| aa c0 <| aa c1 <| aa m1 <| aa q1 <| aa q2 <| aa hfr (scr_ex hfr)) kb ?_
  have e0 : List.take k [[PV.int IntKind.i64 v]] = [[PV.int IntKind.i64 v]] := List.take_of_length_le (by simpa using h1)
  refine T_for k (fun i (n : Nat) => { env := [(7, .one (.msl 30 0 1 k (some k))), (8, .one (.p (.int .i64 n)))], σ := [(30, .arr true 1 (rI (repL v k n))), (13, .arr true 1 (rI [v]))], ex := ex })
    (fun i n => i < n ∧ n ≤ k) 1 ⟨by omega, h1⟩ ?_ fun i n hi hc => ?_
  · refine Weak.sub fun p hp => ?_
    simp only [List.mem_cons, List.not_mem_nil, or_false] at hp
    rcases hp with rfl | rfl
    · simp [lo, e0, repL, rI]
    · rfl
  obtain ⟨c1, c2⟩ := hc
  by_cases hlt : n < k
  · have c3 : (n : Int) < k := by omega
    have c4 : (n : Int) ≤ k := by omega
    refine go (aa c3 <| aa c4 c2) trivial ?_
    have n0 : ¬ n = 0 := by omega
    have n1 : ¬ n = k := by omega
    have hl : (repL v k n).length = k := by simp [repL]; omega
    have c5 : n + (k - n) = k := by omega
    have e1 : (List.take (k - n) (List.take n (rI (repL v k n)))) = rI (List.replicate (min n (k - n)) v) := by
      simp [repL, rI, List.take_append_of_le_length, List.take_replicate, Nat.min_comm]
    have e2 : (List.take n (rI (repL v k n))).length = n := by simp [hl]; omega
    have w4 : IntKind.i64.wrap ((n : Int) + min (n : Int) ((k - n : Nat) : Int)) = ((n + min n (k - n) : Nat) : Int) := by rw [wrap_in (by omega) (by omega)]; omega
    have e3 : List.take n (rI (repL v k n)) ++ rI (List.replicate (min n (k - n)) v) ++ List.drop (n + min n (k - n)) (rI (repL v k n)) = rI (repL v k (n + min n (k - n))) := by
      rw [← List.map_take, ← List.map_drop, ← List.map_append, ← List.map_append]
      congr 1
      unfold repL
      rw [List.take_append_of_le_length (by simp), List.take_of_length_le (by simp), List.drop_append, List.drop_of_length_le (by simp), List.nil_append, List.length_replicate, List.drop_replicate, List.replicate_append_replicate]
      congr 2
      omega
    apply T_dr fw (by rw [hP]; rfl)
    · simp only [go_sem, seval, reduceIte, ↓reduceIte, bne, beq_false, beq_true, Bool.not_eq_true, Bool.if_true_right, decide_not, reduceCtorEq, hP, all1, n0, n1, hlt, hl, c3, c4, c2, c5, e1, e2, w4, Nat.le_refl, Int.le_refl]
      exact rfl
    refine go trivial trivial ?_
    refine rnd_next (by omega) (n + min n (k - n)) ⟨by omega, by omega⟩ (Weak.sub fun p hp => ?_)
    simp only [List.mem_cons, List.not_mem_nil, or_false] at hp
    rcases hp with rfl | rfl
    · rw [← e3]; simp [lo]
    · rfl
  · have c3 : ¬ (n : Int) < k := by omega
    have hnk : n = k := by omega
    refine go c3 trivial ?_
    refine endsM_ret rfl rfl rfl (fun p hp => ?_) rfl
    simp only [List.mem_cons, List.not_mem_nil, or_false] at hp
    rcases hp with rfl | rfl
    · rfl
    · simp [lo, hnk, repL]
end Go.AM

