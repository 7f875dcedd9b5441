import Derived.Test.YtphnlpfkenannaaGreatMx18
set_option linter.unusedVariables false
set_option linter.unusedSimpArgs false
namespace Go.AM
open Go Go.Proofs
set_option maxRecDepth 100000
set_option maxHeartbeats 4000000

theorem neg_u64 {l : Nat} (h : l ≤ 9223372036854775808) : IntKind.i64.wrap (IntKind.u64.wrap (0 - (l : Int))) = -(l : Int) := by
  rw [u64_eq, w64_eq]; split <;> omega
theorem p_fix_signed {h l : Nat} (hl : l < 18446744073709551616) (hh : h < 18446744073709551615) (rest below : Bool) :
    PureC Tryz.prog fi_fix_wide_signed [.agg [.int .u64 (h : Int), .int .u64 (l : Int)], dB rest, dB below] (dNE (rng (sgn (h * 18446744073709551616 + l) rest below))) := by
  refine pure_fix_wide_signed (by simp) fun G hP hn => ?_
  unfold a_fix_wide_signed
  have w8 : IntKind.u64.wrap 9223372036854775808 = 9223372036854775808 := by decide
  cases below
  · by_cases h1 : (h : Int) > 0
    · refine go h1 trivial ?_
      exact ends_ret rfl rfl rfl (by rw [rng_out (by unfold I64 sgn; simp; omega)]; rfl)
    · by_cases h2 : (l : Int) > 9223372036854775807
      · refine go (aa h1 h2) trivial ?_
        exact ends_ret rfl rfl rfl (by rw [rng_out (by unfold I64 sgn; simp; omega)]; rfl)
      · have w1 : IntKind.i64.wrap (l : Int) = (l : Int) := wrap_in (by omega) (by omega)
        refine go (aa h1 <| aa h2 w1) trivial ?_
        have e : sgn (h * 18446744073709551616 + l) rest false = (l : Int) := by unfold sgn; simp; omega
        exact ends_ret rfl rfl rfl (by rw [e, rng_in (by unfold I64; omega)]; rfl)
  · cases rest
    · by_cases h1 : (h : Int) > 0
      · refine go (aa h1 w8) trivial ?_
        exact ends_ret rfl rfl rfl (by rw [rng_out (by unfold I64 sgn; simp; omega)]; rfl)
      · by_cases h2 : (l : Int) > 9223372036854775808
        · refine go (aa h1 <| aa h2 w8) trivial ?_
          exact ends_ret rfl rfl rfl (by rw [rng_out (by unfold I64 sgn; simp; omega)]; rfl)
        · have w1 := neg_u64 (l := l) (by omega)
          refine go (aa h1 <| aa h2 <| aa w1 w8) trivial ?_
          have e : sgn (h * 18446744073709551616 + l) false true = -(l : Int) := by unfold sgn; simp; omega
          exact ends_ret rfl rfl rfl (by rw [e, rng_in (by unfold I64; omega)]; rfl)
    · have km := m_signed_1 3 h l hl hh
      have hv : (h * 18446744073709551616 + l + 1) / 18446744073709551616 * 18446744073709551616 + (h * 18446744073709551616 + l + 1) % 18446744073709551616 = h * 18446744073709551616 + l + 1 := by omega
      generalize (h * 18446744073709551616 + l + 1) / 18446744073709551616 = h' at km hv
      have hlt : (h * 18446744073709551616 + l + 1) % 18446744073709551616 < 18446744073709551616 := by omega
      generalize (h * 18446744073709551616 + l + 1) % 18446744073709551616 = l' at km hv hlt
      by_cases h1 : (h' : Int) > 0
      · refine go (aa h1 w8) km ?_
        exact ends_ret rfl rfl rfl (by rw [rng_out (by unfold I64 sgn; simp; omega)]; rfl)
      · by_cases h2 : (l' : Int) > 9223372036854775808
        · refine go (aa h1 <| aa h2 w8) km ?_
          exact ends_ret rfl rfl rfl (by rw [rng_out (by unfold I64 sgn; simp; omega)]; rfl)
        · have w1 := neg_u64 (l := l') (by omega)
          refine go (aa h1 <| aa h2 <| aa w1 w8) km ?_
          have e : sgn (h * 18446744073709551616 + l) true true = -(l' : Int) := by unfold sgn; simp; omega
          exact ends_ret rfl rfl rfl (by rw [e, rng_in (by unfold I64; omega)]; rfl)
end Go.AM

namespace Go.AM
open Go Go.Proofs
set_option maxRecDepth 100000
set_option maxHeartbeats 4000000

theorem apart_mul {a b : Int} : (apart a b = true → a * b = -((a.natAbs * b.natAbs : Nat) : Int)) ∧ (apart a b = false → a * b = ((a.natAbs * b.natAbs : Nat) : Int)) := by
  unfold apart
  have h := Int.natAbs_mul a b
  rcases Int.lt_trichotomy a 0 with ha | rfl | ha
  · rcases Int.lt_trichotomy b 0 with hb | rfl | hb
    · have := Int.mul_pos_of_neg_of_neg ha hb
      exact ⟨fun h => by simp [ha, hb] at h, fun _ => by rw [← h]; omega⟩
    · simp
    · have := Int.mul_neg_of_neg_of_pos ha hb
      exact ⟨fun _ => by rw [← h]; omega, fun h => by simp [ha] at h; omega⟩
  · simp
  · rcases Int.lt_trichotomy b 0 with hb | rfl | hb
    · have := Int.mul_neg_of_pos_of_neg ha hb
      exact ⟨fun _ => by rw [← h]; omega, fun h => by simp [hb] at h; omega⟩
    · simp
    · have := Int.mul_pos ha hb
      exact ⟨fun h => by simp at h; omega, fun _ => by rw [← h]; omega⟩
theorem mul_sgn (a b : Int) : sgn (a.natAbs * b.natAbs / 4294967296) (decide (a.natAbs * b.natAbs % 4294967296 ≠ 0)) (apart a b) = a * b / 4294967296 := by
  have h := apart_mul (a := a) (b := b)
  generalize a.natAbs * b.natAbs = m at *
  cases hp : apart a b
  · rw [h.2 hp]; unfold sgn; simp
  · rw [h.1 hp]; unfold sgn
    by_cases h0 : m % 4294967296 = 0
    · simp [h0]; omega
    · simp [h0]; omega
theorem abs_lt {a : Int} (ha : I64 a) : a.natAbs ≤ 9223372036854775808 := by unfold I64 at ha; omega
theorem p_fix_Mul {a b : Int} (ha : I64 a) (hb : I64 b) : PureC Tryz.prog fi_fix_Mul [dN a, dN b] (dNE (fMul a b)) := by
  refine pure_fix_Mul (by simp) fun G hP hn => ?_
  unfold a_fix_Mul
  have la := abs_lt ha
  have lb := abs_lt hb
  have km := p_bits_Mul64 (x := a.natAbs) (y := b.natAbs) (by omega) (by omega)
  have hm : a.natAbs * b.natAbs ≤ 9223372036854775808 * 9223372036854775808 := Nat.mul_le_mul la lb
  have e1 : ∀ m : Nat, m ≤ 9223372036854775808 * 9223372036854775808 → (m / 18446744073709551616) / 4294967296 * 18446744073709551616 + ((m / 18446744073709551616) % 4294967296 * 4294967296 + m % 18446744073709551616 / 4294967296) = m / 4294967296 := by
    intro m hm; omega
  have e1 := e1 _ hm
  have hs := mul_sgn a b
  have e2 : (decide (a.natAbs * b.natAbs % 4294967296 ≠ 0)) = (((a.natAbs * b.natAbs % 18446744073709551616 % 4294967296 : Nat) : Int) != 0) := by
    rw [Bool.eq_iff_iff]; simp; omega
  have ks : PureC Tryz.prog fi_fix_wide_signed [.agg [.int .u64 ((a.natAbs * b.natAbs / 18446744073709551616 / 4294967296 : Nat) : Int), .int .u64 ((a.natAbs * b.natAbs / 18446744073709551616 % 4294967296 * 4294967296 + a.natAbs * b.natAbs % 18446744073709551616 / 4294967296 : Nat) : Int)],
      dB (((a.natAbs * b.natAbs % 18446744073709551616 % 4294967296 : Nat) : Int) != 0), dB (apart a b)] (dNE (fMul a b)) := by
    have := p_fix_signed (h := a.natAbs * b.natAbs / 18446744073709551616 / 4294967296) (l := a.natAbs * b.natAbs / 18446744073709551616 % 4294967296 * 4294967296 + a.natAbs * b.natAbs % 18446744073709551616 / 4294967296) (by omega) (by omega)
      (((a.natAbs * b.natAbs % 18446744073709551616 % 4294967296 : Nat) : Int) != 0) (apart a b)
    rw [e1, ← e2, hs] at this
    rw [← e2]
    exact this
  have a1 := u64_and (x := a.natAbs * b.natAbs % 18446744073709551616) (by omega)
  have o1 := u64_or (x := a.natAbs * b.natAbs / 18446744073709551616 % 4294967296) (y := a.natAbs * b.natAbs % 18446744073709551616 / 4294967296) (by omega) (by omega)
  generalize a.natAbs * b.natAbs = m at *
  refine go (aa @shr32 <| aa @shl32 <| aa a1 o1) (aa (p_fix_size ha) <| aa (p_fix_size hb) <| aa km <| aa @p_fix_apart ks) ?_
  exact ends_ret rfl rfl rfl rfl
end Go.AM

namespace Go.AM
open Go Go.Proofs
set_option maxRecDepth 100000

theorem p_move_indices (s : List Int) : PureC Tryz.prog fi_move_indices [dI s] (.one (.fn fi_move_indices_1 [] [.box [eI s]])) := by
  refine pure_move_indices (by simp) fun G hP hn => ?_
  unfold a_move_indices
  refine go trivial trivial ?_
  exact ends_ret rfl rfl rfl rfl
def allX (s : List Int) : List (List DV) := (List.range (sizeS s).toNat).map fun p => [dI (idxF s ((p : Nat) : Int))]
theorem allX_get (s : List Int) (k : Nat) (h : k < (sizeS s).toNat) : (allX s)[k]? = some [dI (idxF s k)] := by
  simp [allX, h]
theorem allX_len (s : List Int) : (allX s).length = (sizeS s).toNat := by simp [allX]
theorem prodW_i64 : ∀ (s : List Int) (a : Int), -9223372036854775808 ≤ a → a < 9223372036854775808 → -9223372036854775808 ≤ prodW s a ∧ prodW s a < 9223372036854775808
  | [], a, h1, h2 => ⟨h1, h2⟩
  | x :: r, a, _, _ => by
    simp only [prodW]
    have : -9223372036854775808 ≤ IntKind.i64.wrap (a * x) ∧ IntKind.i64.wrap (a * x) < 9223372036854775808 := by
      simp only [IntKind.wrap, IntKind.bits, IntKind.signed]
      simp
      omega
    exact prodW_i64 r _ this.1 this.2
theorem q_move_indices_1 (s : List Int) : SeqC Tryz.prog fi_move_indices_1 [.box [eI s]] (allX s) := by
  refine seqC_of call_move_indices_1 func_move_indices_1 (by rfl) is_move_indices_1 ok_move_indices_1 rv_move_indices_1 (Nat.le_of_ble_eq_true (by rfl)) fun R l σ fr G ex hP hnt hR hno hA fam hex hy => ?_
  have hnt : G.nt = 22 := hnt
  unfold a_move_indices_1
  repeat' (first     | refine T_then ?_ | refine then_ret ?_ | refine then_exit ?_ | refine then_goto ?_     | refine rnd_exit ?_ | refine rnd_ret ?_ | refine rnd_goto ?_     | refine noGo_normal ?_ | refine noGo_ret ?_ | refine noGo_exit ?_ | refine jmp_normal ?_ | refine jmp_ret ?_ | refine jmp_exit ?_ | refine jmp_goto ?_     | refine inB_normal ?_ | refine inB_ret ?_ | refine inB_goto ?_ | refine inB_exit ?_ | refine inB_exit_ne rfl ?_     | ((first | apply T_srE fw | apply T_regE fw); · ((try simp only [go_sem, seval, reduceIte, ↓reduceIte, hP]); (repeat ((first       | (refine ⟨true, false, rfl, fun h => absurd h (by decide), ?_⟩) | (refine ⟨false, false, rfl, fun h => absurd h (by decide), ?_⟩) | refine ⟨_, _, rfl, fun _ => rfl, ?_⟩       | (refine .inl ⟨_, _, ⟨_, _, _, _, _, _, rfl, rfl, rfl, p_shape_Size _⟩, ?_⟩)       | (refine ⟨_, ?_, rfl, fun _ => ⟨_, ⟨_, _, _, _, _, _, rfl, rfl, rfl, p_shape_Size _⟩, ?_⟩, ?_⟩; rotate_left; (· (simp only [go_sem, seval, reduceIte, ↓reduceIte, hP]; first | done | exact rfl)))); (try simp only [go_sem, seval, reduceIte, ↓reduceIte, hP]))); (first | done | exact rfl)))     | ((first | apply T_sdF fw (by rw [hP]; rfl) (by decide +kernel) | apply T_drF fw (by rw [hP]; rfl) (by decide +kernel)); · ((try simp only [TOps.flat, List.cons_append, List.nil_append]); (repeat ((first | refine Y_g0 ?_ | refine Y_g (by (try simp only [go_sem, seval, reduceIte, ↓reduceIte, Bool.not_eq_true, reduceCtorEq, beq_false, beq_true, hP]); (first | done | exact rfl)) ?_); (first | refine Y_skip ?_ | ((first | apply Y_q | (refine Y_call ⟨_, _, _, _, _, _, rfl, rfl, rfl, (by rw [hP]; exact p_shape_Size _)⟩ ?_ ?_)); (· ((try simp only [go_sem, seval, reduceIte, ↓reduceIte, Bool.not_eq_true, reduceCtorEq, beq_false, beq_true, hP]); (first | done | exact rfl))))))); apply RunF_nil; (try simp only [go_sem, seval, reduceIte, ↓reduceIte, Bool.not_eq_true, reduceCtorEq, beq_false, beq_true, hP]); (first | done | exact rfl)))     | ((first | apply T_sd fw (by rw [hP]; rfl) | apply T_dr fw (by rw [hP]; rfl)); · ((try simp only [go_sem, seval, reduceIte, ↓reduceIte, bne, beq_false, beq_true, Bool.not_eq_true, Bool.if_true_right, decide_not, reduceCtorEq, hP]); (repeat ((first       | (refine ⟨_, ⟨_, _, _, _, _, _, rfl, rfl, rfl, p_shape_Size _⟩, ?_⟩)); (try simp only [go_sem, seval, reduceIte, ↓reduceIte, bne, beq_false, beq_true, Bool.not_eq_true, Bool.if_true_right, decide_not, reduceCtorEq, hP]))); (first | done | exact rfl)))     | refine T_seq ?_ | refine T_block ?_ | refine T_scopeJ 0 rfl ?_ | refine T_scope ?_ | refine T_goto ?_ | refine T_ret ?_ | refine T_skip ?_ | refine T_exit ?_ | refine T_label ?_     | refine T_condT rfl ?_ | refine T_condF rfl ?_     | refine T_condD rfl (fun _ => ?_) (fun _ => ?_)     | refine T_cond rfl (fun _ => ?_) (fun _ => ?_))
  have hz := prodW_i64 s 1 (by decide) (by decide)
  have hz2 : -9223372036854775808 ≤ sizeS s ∧ sizeS s < 9223372036854775808 := by
    unfold sizeS
    split
    · exact hz
    · omega
  refine T_for (sizeS s).toNat (fun i (_ : Unit) => { env := [(0, .one (.raw (.func (.yield l) #[] #[]))), (1, .one (.p (.box [eI s]))), (7, .one (.p (.int .i64 (sizeS s)))), (8, .one (.p (.int .i64 i)))], σ := σ i, ex := ex })
    (fun _ _ => True) () trivial (.refl _ _) fun i _ hi _ => ?_
  by_cases hlt : i < (sizeS s).toNat
  · have c1 : (i : Int) < sizeS s := by omega
    have w1 : IntKind.i64.wrap ((i : Int) + 1) = ((i + 1 : Nat) : Int) := by rw [wrap_in (by omega) (by omega)]; rfl
    have c2 : ¬ (sizeS s ≤ (i : Int)) := by omega
    have hpx : PureC Tryz.prog fi_shape_Index [dI s, dN i] (.tup [dI (idxF s i), dN 0]) := by
      have := p_shape_Index s i
      rw [if_neg (by simp; omega)] at this
      exact this
    repeat' (first     | refine T_then ?_ | refine then_ret ?_ | refine then_exit ?_ | refine then_goto ?_     | refine rnd_exit ?_ | refine rnd_ret ?_ | refine rnd_goto ?_     | refine noGo_normal ?_ | refine noGo_ret ?_ | refine noGo_exit ?_ | refine jmp_normal ?_ | refine jmp_ret ?_ | refine jmp_exit ?_ | refine jmp_goto ?_     | refine inB_normal ?_ | refine inB_ret ?_ | refine inB_goto ?_ | refine inB_exit ?_ | refine inB_exit_ne rfl ?_     | ((first | apply T_srE fw | apply T_regE fw); · ((try simp only [go_sem, seval, reduceIte, ↓reduceIte, hP, c1, w1]); (repeat ((first       | (refine ⟨true, false, rfl, fun h => absurd h (by decide), ?_⟩) | (refine ⟨false, false, rfl, fun h => absurd h (by decide), ?_⟩) | refine ⟨_, _, rfl, fun _ => rfl, ?_⟩       | (refine .inl ⟨_, _, ⟨_, _, _, _, _, _, rfl, rfl, rfl, hpx⟩, ?_⟩)       | (refine ⟨_, ?_, rfl, fun _ => ⟨_, ⟨_, _, _, _, _, _, rfl, rfl, rfl, hpx⟩, ?_⟩, ?_⟩; rotate_left; (· (simp only [go_sem, seval, reduceIte, ↓reduceIte, hP, c1, w1]; first | done | exact rfl)))); (try simp only [go_sem, seval, reduceIte, ↓reduceIte, hP, c1, w1]))); (first | done | exact rfl)))     | ((first | apply T_sdF fw (by rw [hP]; rfl) (by decide +kernel) | apply T_drF fw (by rw [hP]; rfl) (by decide +kernel)); · ((try simp only [TOps.flat, List.cons_append, List.nil_append]); (repeat ((first | refine Y_g0 ?_ | refine Y_g (by (try simp only [go_sem, seval, reduceIte, ↓reduceIte, Bool.not_eq_true, reduceCtorEq, beq_false, beq_true, hP, c1, w1]); (first | done | exact rfl)) ?_); (first | refine Y_skip ?_ | ((first | apply Y_q | (refine Y_call ⟨_, _, _, _, _, _, rfl, rfl, rfl, (by rw [hP]; exact hpx)⟩ ?_ ?_)); (· ((try simp only [go_sem, seval, reduceIte, ↓reduceIte, Bool.not_eq_true, reduceCtorEq, beq_false, beq_true, hP, c1, w1]); (first | done | exact rfl))))))); apply RunF_nil; (try simp only [go_sem, seval, reduceIte, ↓reduceIte, Bool.not_eq_true, reduceCtorEq, beq_false, beq_true, hP, c1, w1]); (first | done | exact rfl)))     | ((first | apply T_sd fw (by rw [hP]; rfl) | apply T_dr fw (by rw [hP]; rfl)); · ((try simp only [go_sem, seval, reduceIte, ↓reduceIte, bne, beq_false, beq_true, Bool.not_eq_true, Bool.if_true_right, decide_not, reduceCtorEq, hP, c1, w1]); (repeat ((first       | (refine ⟨_, ⟨_, _, _, _, _, _, rfl, rfl, rfl, hpx⟩, ?_⟩)); (try simp only [go_sem, seval, reduceIte, ↓reduceIte, bne, beq_false, beq_true, Bool.not_eq_true, Bool.if_true_right, decide_not, reduceCtorEq, hP, c1, w1]))); (first | done | exact rfl)))     | refine T_seq ?_ | refine T_block ?_ | refine T_scopeJ 0 rfl ?_ | refine T_scope ?_ | refine T_goto ?_ | refine T_ret ?_ | refine T_skip ?_ | refine T_exit ?_ | refine T_label ?_     | refine T_condT rfl ?_ | refine T_condF rfl ?_     | refine T_condD rfl (fun _ => ?_) (fun _ => ?_)     | refine T_cond rfl (fun _ => ?_) (fun _ => ?_))
    have hd : ∀ (d : Nat), d < 22 → ∀ t, some d = some t → t < G.nt := fun d hd t ht => by cases ht; omega
    refine T_steps fw (S := { env := [(0, .one (.raw (.func (.yield l) #[] #[]))), (1, .one (.p (.box [eI s]))), (7, .one (.p (.int .i64 (sizeS s)))), (8, .one (.p (.int .i64 i))), (20, .one (.p (.bool false)))], σ := σ (i + 1), ex := ex })
      (.q (hd _ (by decide)) rfl (.q (hd _ (by decide)) rfl (.yld (hd _ (by decide)) (yStep fam hR hno hA (hy i _ (allX_get s i hlt)) hex rfl rfl fun d i => lk_has (by simp only [putd, get, lk, List.all_cons, List.all_nil]; simp [AV.has, AC.has, lk]) i) (.q (hd _ (by decide)) rfl (.weak (Weak.drop.trans (Weak.pick [0, 1, 7, 8, 20])) .nil))))) ?_
    repeat' (first     | refine T_then ?_ | refine then_ret ?_ | refine then_exit ?_ | refine then_goto ?_     | refine rnd_exit ?_ | refine rnd_ret ?_ | refine rnd_goto ?_     | refine noGo_normal ?_ | refine noGo_ret ?_ | refine noGo_exit ?_ | refine jmp_normal ?_ | refine jmp_ret ?_ | refine jmp_exit ?_ | refine jmp_goto ?_     | refine inB_normal ?_ | refine inB_ret ?_ | refine inB_goto ?_ | refine inB_exit ?_ | refine inB_exit_ne rfl ?_     | ((first | apply T_srE fw | apply T_regE fw); · ((try simp only [go_sem, seval, reduceIte, ↓reduceIte, hP, w1]); (repeat ((first       | (refine ⟨true, false, rfl, fun h => absurd h (by decide), ?_⟩) | (refine ⟨false, false, rfl, fun h => absurd h (by decide), ?_⟩) | refine ⟨_, _, rfl, fun _ => rfl, ?_⟩); (try simp only [go_sem, seval, reduceIte, ↓reduceIte, hP, w1]))); (first | done | exact rfl)))     | ((first | apply T_sdF fw (by rw [hP]; rfl) (by decide +kernel) | apply T_drF fw (by rw [hP]; rfl) (by decide +kernel)); · ((try simp only [TOps.flat, List.cons_append, List.nil_append]); (repeat ((first | refine Y_g0 ?_ | refine Y_g (by (try simp only [go_sem, seval, reduceIte, ↓reduceIte, Bool.not_eq_true, reduceCtorEq, beq_false, beq_true, hP, w1]); (first | done | exact rfl)) ?_); (first | refine Y_skip ?_ | ((first | apply Y_q); (· ((try simp only [go_sem, seval, reduceIte, ↓reduceIte, Bool.not_eq_true, reduceCtorEq, beq_false, beq_true, hP, w1]); (first | done | exact rfl))))))); apply RunF_nil; (try simp only [go_sem, seval, reduceIte, ↓reduceIte, Bool.not_eq_true, reduceCtorEq, beq_false, beq_true, hP, w1]); (first | done | exact rfl)))     | ((first | apply T_sd fw (by rw [hP]; rfl) | apply T_dr fw (by rw [hP]; rfl)); · ((try simp only [go_sem, seval, reduceIte, ↓reduceIte, bne, beq_false, beq_true, Bool.not_eq_true, Bool.if_true_right, decide_not, reduceCtorEq, hP, w1]); (first | done | exact rfl)))     | refine T_seq ?_ | refine T_block ?_ | refine T_scopeJ 0 rfl ?_ | refine T_scope ?_ | refine T_goto ?_ | refine T_ret ?_ | refine T_skip ?_ | refine T_exit ?_ | refine T_label ?_     | refine T_condT rfl ?_ | refine T_condF rfl ?_     | refine T_condD rfl (fun _ => ?_) (fun _ => ?_)     | refine T_cond rfl (fun _ => ?_) (fun _ => ?_))
    exact rnd_next hlt () trivial (.refl _ _)
  · have c1 : ¬ (i : Int) < sizeS s := by omega
    have e1 : i = (allX s).length := by rw [allX_len]; omega
    repeat' (first     | refine T_then ?_ | refine then_ret ?_ | refine then_exit ?_ | refine then_goto ?_     | refine rnd_exit ?_ | refine rnd_ret ?_ | refine rnd_goto ?_     | refine noGo_normal ?_ | refine noGo_ret ?_ | refine noGo_exit ?_ | refine jmp_normal ?_ | refine jmp_ret ?_ | refine jmp_exit ?_ | refine jmp_goto ?_     | refine inB_normal ?_ | refine inB_ret ?_ | refine inB_goto ?_ | refine inB_exit ?_ | refine inB_exit_ne rfl ?_     | ((first | apply T_srE fw | apply T_regE fw); · ((try simp only [go_sem, seval, reduceIte, ↓reduceIte, hP, c1]); (repeat ((first       | (refine ⟨true, false, rfl, fun h => absurd h (by decide), ?_⟩) | (refine ⟨false, false, rfl, fun h => absurd h (by decide), ?_⟩) | refine ⟨_, _, rfl, fun _ => rfl, ?_⟩); (try simp only [go_sem, seval, reduceIte, ↓reduceIte, hP, c1]))); (first | done | exact rfl)))     | ((first | apply T_sdF fw (by rw [hP]; rfl) (by decide +kernel) | apply T_drF fw (by rw [hP]; rfl) (by decide +kernel)); · ((try simp only [TOps.flat, List.cons_append, List.nil_append]); (repeat ((first | refine Y_g0 ?_ | refine Y_g (by (try simp only [go_sem, seval, reduceIte, ↓reduceIte, Bool.not_eq_true, reduceCtorEq, beq_false, beq_true, hP, c1]); (first | done | exact rfl)) ?_); (first | refine Y_skip ?_ | ((first | apply Y_q); (· ((try simp only [go_sem, seval, reduceIte, ↓reduceIte, Bool.not_eq_true, reduceCtorEq, beq_false, beq_true, hP, c1]); (first | done | exact rfl))))))); apply RunF_nil; (try simp only [go_sem, seval, reduceIte, ↓reduceIte, Bool.not_eq_true, reduceCtorEq, beq_false, beq_true, hP, c1]); (first | done | exact rfl)))     | ((first | apply T_sd fw (by rw [hP]; rfl) | apply T_dr fw (by rw [hP]; rfl)); · ((try simp only [go_sem, seval, reduceIte, ↓reduceIte, bne, beq_false, beq_true, Bool.not_eq_true, Bool.if_true_right, decide_not, reduceCtorEq, hP, c1]); (first | done | exact rfl)))     | refine T_seq ?_ | refine T_block ?_ | refine T_scopeJ 0 rfl ?_ | refine T_scope ?_ | refine T_goto ?_ | refine T_ret ?_ | refine T_skip ?_ | refine T_exit ?_ | refine T_label ?_     | refine T_condT rfl ?_ | refine T_condF rfl ?_     | refine T_condD rfl (fun _ => ?_) (fun _ => ?_)     | refine T_cond rfl (fun _ => ?_) (fun _ => ?_))
    exact ⟨.inl rfl, by rw [e1], rfl⟩
end Go.AM

namespace Go.AM
open Go Go.Proofs

def prd : List Int → Int
  | [] => 1
  | m :: s => m * prd s
def Sides (s : List Int) : Prop := ∀ m ∈ s, 1 ≤ m ∧ m ≤ 16
theorem Sides.tail {m : Int} {s : List Int} (h : Sides (m :: s)) : Sides s := fun k hk => h k (by simp [hk])
theorem Sides.head {m : Int} {s : List Int} (h : Sides (m :: s)) : 1 ≤ m ∧ m ≤ 16 := h m (by simp)
theorem prd_pos : ∀ {s : List Int}, Sides s → 1 ≤ prd s
  | [], _ => by simp [prd]
  | m :: s, h => by
    have h1 := h.head
    have h2 := prd_pos h.tail
    simp only [prd]
    have : 1 * 1 ≤ m * prd s := Int.mul_le_mul h1.1 h2 (by omega) (by omega)
    omega
theorem prd_le : ∀ {s : List Int}, Sides s → prd s ≤ 16 ^ s.length
  | [], _ => by simp [prd]
  | m :: s, h => by
    have h1 := h.head
    have h2 := prd_le h.tail
    have h3 := prd_pos h.tail
    simp only [prd, List.length_cons]
    rw [Int.pow_succ, Int.mul_comm]
    exact Int.mul_le_mul h2 h1.2 (by omega) (by have : (0 : Int) ≤ 16 ^ s.length := Int.pow_nonneg (by decide); omega)
theorem prodW_eq : ∀ {s : List Int} {a : Int}, Sides s → 0 ≤ a → a * prd s ≤ 4611686018427387904 → prodW s a = a * prd s
  | [], a, _, _, _ => by simp [prodW, prd]
  | m :: s, a, h, h0, h1 => by
    have hm := h.head
    have hp := prd_pos h.tail
    simp only [prd, ← Int.mul_assoc] at h1
    have h2 : 0 ≤ a * m := Int.mul_nonneg h0 (by omega)
    have h3 : a * m * 1 ≤ a * m * prd s := Int.mul_le_mul_of_nonneg_left hp h2
    simp only [prodW]
    rw [wrap_in (by omega) (by omega), prodW_eq h.tail h2 h1]
    simp [prd, Int.mul_assoc]
theorem chk_eq : ∀ {s : List Int} {a : Int}, Sides s → chk s a = prodW s a
  | [], a, _ => rfl
  | m :: s, a, h => by
    have hm := h.head
    simp only [chk, prodW]
    rw [if_neg (by omega), chk_eq h.tail]
theorem chk_not : ∀ {s : List Int} {a : Int}, ¬ Sides s → chk s a = 0
  | [], a, h => absurd (fun m hm => by simp at hm) h
  | m :: s, a, h => by
    simp only [chk]
    split
    · rfl
    · rename_i hm
      refine chk_not fun hs => h fun k hk => ?_
      rcases List.mem_cons.1 hk with rfl | hk
      · omega
      · exact hs k hk
def ShapeOk (s : List Int) : Prop := s.length ≤ 3 ∧ Sides s ∧ prd s ≤ 64
theorem prodW_one {s : List Int} (h : Sides s) (h3 : s.length ≤ 3) : prodW s 1 = prd s := by
  have h1 := prd_le h
  have h2 : (16 : Int) ^ s.length ≤ 16 ^ 3 := by
    have : s.length = 0 ∨ s.length = 1 ∨ s.length = 2 ∨ s.length = 3 := by omega
    rcases this with e | e | e | e <;> rw [e] <;> decide
  have h4 : (16 : Int) ^ 3 = 4096 := by decide
  rw [prodW_eq h (by decide) (by omega)]
  omega
theorem checkS_iff {s : List Int} : checkS s = true ↔ ShapeOk s := by
  unfold checkS ShapeOk
  simp only [Bool.and_eq_true, Bool.not_eq_true', decide_eq_false_iff_not, decide_eq_true_eq]
  constructor
  · rintro ⟨h1, h2, h3⟩
    have h4 : s.length ≤ 3 := by omega
    by_cases hs : Sides s
    · rw [chk_eq hs, prodW_one hs h4] at h3
      exact ⟨h4, hs, h3⟩
    · rw [chk_not hs] at h2; omega
  · rintro ⟨h1, hs, h3⟩
    rw [chk_eq hs, prodW_one hs h1]
    have := prd_pos hs
    exact ⟨by omega, by omega, h3⟩
theorem sizeS_ok {s : List Int} (h : ShapeOk s) : sizeS s = prd s := by
  unfold sizeS
  rw [if_pos (checkS_iff.2 h), prodW_one h.2.1 h.1]
theorem sizeS_not {s : List Int} (h : ¬ ShapeOk s) : sizeS s = 0 := by
  unfold sizeS
  rw [if_neg (fun h' => h (checkS_iff.1 h'))]
theorem sizeS_nn (s : List Int) : 0 ≤ sizeS s ∧ sizeS s ≤ 64 := by
  by_cases h : ShapeOk s
  · rw [sizeS_ok h]
    have := prd_pos h.2.1
    have := h.2.2
    omega
  · rw [sizeS_not h]; omega
theorem sizeS_pos {s : List Int} (h : 0 < sizeS s) : ShapeOk s := by
  by_cases hs : ShapeOk s
  · exact hs
  · rw [sizeS_not hs] at h; omega
inductive InIdx : List Int → List Int → Prop
  | nil : InIdx [] []
  | cons {m k : Int} {s x : List Int} (h0 : 0 ≤ k) (h1 : k < m) (h : InIdx s x) : InIdx (m :: s) (k :: x)
def pl : List Int → List Int → Int → Int
  | m :: s, k :: x, a => pl s x (a * m + k)
  | _, _, a => a
theorem InIdx.length {s x : List Int} (h : InIdx s x) : s.length = x.length := by
  induction h with
  | nil => rfl
  | cons _ _ _ ih => simp [ih]
theorem pl_add {s x : List Int} (h : InIdx s x) (a : Int) : pl s x a = a * prd s + pl s x 0 := by
  induction h generalizing a with
  | nil => simp [pl, prd]
  | @cons m k s x h0 h1 h ih =>
    simp only [pl, prd]
    rw [ih (a * m + k), ih (0 * m + k)]
    simp [Int.add_mul, Int.mul_assoc, Int.add_assoc]
theorem pl_lt {s x : List Int} (h : InIdx s x) : 0 ≤ pl s x 0 ∧ pl s x 0 < prd s := by
  induction h with
  | nil => simp [pl, prd]
  | @cons m k s x h0 h1 h ih =>
    simp only [pl, prd]
    rw [pl_add h]
    have hp : 0 ≤ prd s := by omega
    have h2 : 0 ≤ k * prd s := Int.mul_nonneg h0 hp
    have h3 : (k + 1) * prd s ≤ m * prd s := Int.mul_le_mul_of_nonneg_right (by omega) hp
    simp only [Int.zero_mul, Int.zero_add]
    rw [Int.add_mul] at h3
    omega
theorem plW_ok {s x : List Int} (h : InIdx s x) : ∀ {a : Int}, 0 ≤ a → (a + 1) * prd s ≤ 4611686018427387904 → plW s x a = (pl s x a, 0) := by
  induction h with
  | nil => intro a _ _; rfl
  | @cons m k s x h0 h1 h ih =>
    intro a ha hb
    have hp : 1 ≤ prd s := by have := pl_lt h; omega
    have hm : 1 ≤ m := by omega
    simp only [prd, ← Int.mul_assoc] at hb
    have e1 : (a + 1) * m = a * m + m := by rw [Int.add_mul]; omega
    have h2 : 0 ≤ a * m := Int.mul_nonneg ha (by omega)
    have h3 : (a + 1) * m * 1 ≤ (a + 1) * m * prd s := Int.mul_le_mul_of_nonneg_left hp (by omega)
    have h4 : (a * m + k + 1) * prd s ≤ (a + 1) * m * prd s := Int.mul_le_mul_of_nonneg_right (by omega) (by omega)
    simp only [plW, pl]
    rw [if_neg (by omega), wrap_in (n := a * m) (by omega) (by omega), wrap_in (by omega) (by omega), ih (by omega) (by omega)]
theorem plW_not : ∀ {s x : List Int} {a : Int}, s.length = x.length → ¬ InIdx s x → plW s x a = (0, 20)
  | [], [], _, _, h => absurd .nil h
  | m :: s, k :: x, a, hl, h => by
    simp only [plW]
    split
    · rfl
    · rename_i hk
      exact plW_not (by simpa using hl) fun h' => h (.cons (by omega) (by omega) h')
theorem placeF_ok {s x : List Int} (h : ShapeOk s) (hx : InIdx s x) : placeF s x = (pl s x 0, 0) := by
  unfold placeF
  have := prd_pos h.2.1
  have := h.2.2
  rw [if_neg (by simp [checkS_iff.2 h, hx.length]), plW_ok hx (by omega) (by omega)]
theorem placeF_not {s x : List Int} (h : ¬ (ShapeOk s ∧ InIdx s x)) : placeF s x = (0, 20) := by
  unfold placeF
  split
  · rfl
  · rename_i hc
    simp only [Bool.or_eq_true, Bool.not_eq_true', bne_iff_ne, ne_eq, not_or, Bool.not_eq_false, Decidable.not_not] at hc
    exact plW_not (by omega) fun h' => h ⟨checkS_iff.1 hc.1, h'⟩
theorem placeF_range {s x : List Int} {p : Int} (h : placeF s x = (p, 0)) : 0 ≤ p ∧ p < prd s := by
  by_cases hc : ShapeOk s ∧ InIdx s x
  · rw [placeF_ok hc.1 hc.2] at h
    cases h
    exact pl_lt hc.2
  · rw [placeF_not hc] at h; cases h
theorem checkT_iff {s d : List Int} : checkT s d = true ↔ ShapeOk s ∧ (d.length : Int) = prd s := by
  unfold checkT
  simp only [Bool.and_eq_true, beq_iff_eq, checkS_iff]
  constructor
  · rintro ⟨h1, h2⟩; rw [sizeS_ok h1] at h2; exact ⟨h1, h2⟩
  · rintro ⟨h1, h2⟩; rw [sizeS_ok h1]; exact ⟨h1, h2⟩
def atF (s d x : List Int) : Int × Int := if (!checkT s d) = true then (0, 30) else if ((placeF s x).2 != 0) = true then (0, (placeF s x).2) else ((d[(placeF s x).1.toNat]?).getD 0, 0)
theorem p_tensorAt (s d x : List Int) : PureC Tryz.prog fi_tensor_At [dT s d, dI x] (dNE (atF s d x)) :=
  p_tensor_At s d x fun p h1 h2 => by
    have h3 := checkT_iff.1 h1
    have h4 := placeF_range h2
    omega
theorem atF_ok {s d x : List Int} (h : checkT s d = true) (hx : InIdx s x) : atF s d x = ((d[(pl s x 0).toNat]?).getD 0, 0) := by
  unfold atF
  rw [if_neg (by simp [h]), placeF_ok (checkT_iff.1 h).1 hx]
  simp
end Go.AM

namespace Go.AM
open Go Go.Proofs

def ix : List Int → Int → List Int
  | [], _ => []
  | m :: s, p => (p / prd s) % m :: ix s p
def dg : List Int → Int → List Int
  | [], _ => []
  | n :: r, p => p % n :: dg r (p / n)
theorem digs_eq : ∀ {l : List Int} {p : Int}, Sides l → 0 ≤ p → p ≤ 4611686018427387904 → digs l p = dg l p
  | [], _, _, _, _ => rfl
  | n :: r, p, h, h0, h1 => by
    have hn := h.head
    have h2 : 0 ≤ p / n := Int.ediv_nonneg h0 (by omega)
    have h3 : p / n ≤ p := Int.ediv_le_self n h0
    simp only [digs, dg]
    rw [Int.tmod_eq_emod_of_nonneg h0, Int.tdiv_eq_ediv_of_nonneg h0, wrap_in (by omega) (by omega), digs_eq h.tail h2 (by omega)]
theorem prd_append : ∀ (l k : List Int), prd (l ++ k) = prd l * prd k
  | [], k => by simp [prd]
  | m :: l, k => by simp [prd, prd_append l k, Int.mul_assoc]
theorem prd_reverse : ∀ (l : List Int), prd l.reverse = prd l
  | [] => rfl
  | m :: l => by simp [prd_append, prd_reverse l, prd, Int.mul_comm]
theorem dg_append : ∀ {l : List Int} {m p : Int}, Sides l → dg (l ++ [m]) p = dg l p ++ [(p / prd l) % m]
  | [], m, p, _ => by simp [dg, prd]
  | n :: l, m, p, h => by
    have hn := h.head
    simp only [List.cons_append, dg, prd]
    rw [dg_append h.tail, Int.ediv_ediv_of_nonneg (by omega)]
theorem Sides.reverse {s : List Int} (h : Sides s) : Sides s.reverse := fun m hm => h m (by simpa using hm)
theorem dg_rev : ∀ {s : List Int} {p : Int}, Sides s → (dg s.reverse p).reverse = ix s p
  | [], _, _ => rfl
  | m :: s, p, h => by
    simp only [List.reverse_cons, ix]
    rw [dg_append h.tail.reverse, List.reverse_append, prd_reverse]
    simp [dg_rev h.tail]
theorem idxF_eq {s : List Int} {p : Int} (h : Sides s) (h0 : 0 ≤ p) (h1 : p ≤ 4611686018427387904) : idxF s p = ix s p := by
  unfold idxF
  rw [digs_eq h.reverse h0 h1, dg_rev h]
theorem ix_in : ∀ {s : List Int} {p : Int}, Sides s → InIdx s (ix s p)
  | [], _, _ => .nil
  | m :: s, p, h => by
    have hm := h.head
    exact .cons (Int.emod_nonneg _ (by omega)) (Int.emod_lt_of_pos _ (by omega)) (ix_in h.tail)
theorem emod_split (p b m : Int) (hb : 0 < b) (hm : 0 < m) : p % (m * b) = (p / b) % m * b + p % b := by
  have h1 := Int.mul_ediv_add_emod p b
  have h2 := Int.mul_ediv_add_emod (p / b) m
  have h3 := Int.emod_nonneg p (b := b) (by omega)
  have h4 := Int.emod_lt_of_pos p hb
  have h5 := Int.emod_nonneg (p / b) (b := m) (by omega)
  have h6 := Int.emod_lt_of_pos (p / b) hm
  generalize p / b / m = q at h2
  generalize (p / b) % m = r at h2 h5 h6 ⊢
  generalize p % b = t at h1 h3 h4 ⊢
  rw [← h2] at h1
  have e : p = (m * b) * q + (r * b + t) := by
    rw [← h1, Int.mul_add, Int.mul_comm b (m * q), Int.mul_assoc, Int.mul_comm q b, Int.mul_comm b r, ← Int.mul_assoc, Int.add_assoc]
  rw [e, Int.mul_add_emod_self_left]
  have h7 : 0 ≤ r * b := Int.mul_nonneg h5 (by omega)
  have h8 : (r + 1) * b ≤ m * b := Int.mul_le_mul_of_nonneg_right (by omega) (by omega)
  rw [Int.add_mul] at h8
  exact Int.emod_eq_of_lt (by omega) (by omega)
theorem pl_ix : ∀ {s : List Int} {p : Int}, Sides s → pl s (ix s p) 0 = p % prd s
  | [], p, _ => by simp [pl, prd, Int.emod_one]
  | m :: s, p, h => by
    have hm := h.head
    have hp := prd_pos h.tail
    simp only [pl, ix, prd]
    rw [pl_add (ix_in h.tail), pl_ix h.tail, emod_split p (prd s) m (by omega) (by omega)]
    simp
theorem ix_pl {s x : List Int} (h : InIdx s x) (hs : Sides s) (a : Int) : ix s (a * prd s + pl s x 0) = x := by
  induction h generalizing a with
  | nil => rfl
  | @cons m k s x h0 h1 h ih =>
    have hl := pl_lt h
    have hp := prd_pos hs.tail
    simp only [ix, prd, pl]
    rw [pl_add h]
    have e : a * (m * prd s) + ((0 * m + k) * prd s + pl s x 0) = (a * m + k) * prd s + pl s x 0 := by
      simp [Int.add_mul, Int.mul_assoc, Int.add_assoc]
    rw [e, ih hs.tail]
    congr 1
    rw [Int.add_comm, Int.add_mul_ediv_right _ _ (by omega), Int.ediv_eq_zero_of_lt hl.1 hl.2, Int.zero_add, Int.mul_comm a m, Int.add_comm, Int.add_mul_emod_self_left]
    exact Int.emod_eq_of_lt h0 h1
theorem ix_pl0 {s x : List Int} (h : InIdx s x) (hs : Sides s) : ix s (pl s x 0) = x := by
  have := ix_pl h hs 0
  simpa using this
end Go.AM

namespace Go.AM
open Go Go.Proofs
set_option maxRecDepth 100000

theorem p_move_Turn_1 (s d x : List Int) (hx : x.length ≤ 2 ^ 36) : PureC Tryz.prog fi_move_Turn_1 [dI x, .one (.box [eI s, eI d])] (dN (atF s d x.reverse).1) := by
  refine pure_move_Turn_1 (by simp) fun G hP hn => ?_
  unfold a_move_Turn_1
  refine go trivial (aa (p_move_turned _ hx) @p_tensorAt) ?_
  exact ends_ret rfl rfl rfl rfl
theorem p_move_sided (s : List Int) (a : Nat) (n : Int) (hs : s.length ≤ 2 ^ 36) (ha : a < s.length) : PureC Tryz.prog fi_move_sided [dI s, dN a, dN n] (dI (s.set a n)) := by
  refine pure_move_sided (by simp) fun G hP hn => ?_
  unfold a_move_sided
  have hg : s[a]? = some s[a] := List.getElem?_eq_getElem ha
  refine go (aa ha <| aa hg @rI_set) (m_slices_Clone _ hs) ?_
  exact ends_list rfl rfl (by simp)
theorem p_move_shifted (s d x : List Int) (a : Nat) (k m : Int) (hx : x.length ≤ 2 ^ 36) (ha : x[a]? = some k) : PureC Tryz.prog fi_move_shifted [dT s d, dI x, dN a, dN m] (dN (atF s d (x.set a (w64 (k + m)))).1) := by
  refine pure_move_shifted (by simp) fun G hP hn => ?_
  unfold a_move_shifted
  have hlt : a < x.length := by
    have := (List.getElem?_eq_some_iff.1 ha).1; exact this
  refine go (aa ha <| aa hlt @rI_set) (aa (m_slices_Clone _ hx) @p_tensorAt) ?_
  refine T_weak (Weak.freeze (i := 1) rfl (toD_list (n := 5) rfl (by simp))) ?_
  simp only [lo, Nat.reduceEqDiff, if_true, if_false, if_pos]
  refine go trivial @p_tensorAt ?_
  exact ends_ret rfl rfl rfl rfl
abbrev bxN (n : Int) : DV := .one (.box [.int .i64 n])
abbrev bxT (s d : List Int) : DV := .one (.box [eI s, eI d])
theorem p_move_Slice_1 (s d x : List Int) (a : Nat) (k m : Int) (hx : x.length ≤ 2 ^ 36) (ha : x[a]? = some k) : PureC Tryz.prog fi_move_Slice_1 [dI x, bxT s d, bxN a, bxN m] (dN (atF s d (x.set a (w64 (k + m)))).1) := by
  refine pure_move_Slice_1 (by simp) fun G hP hn => ?_
  unfold a_move_Slice_1
  refine go trivial (p_move_shifted _ _ _ _ _ _ hx ha) ?_
  exact ends_ret rfl rfl rfl rfl
theorem p_move_Join_1 (s d t e x : List Int) (a : Nat) (k m : Int) (hx : x.length ≤ 2 ^ 36) (ha : x[a]? = some k) : PureC Tryz.prog fi_move_Join_1 [dI x, bxN a, bxN m, bxT s d, bxT t e]
    (dN (if k < m then (atF s d (x.set a (w64 (k + 0)))).1 else (atF t e (x.set a (w64 (k + w64 (0 - m))))).1)) := by
  refine pure_move_Join_1 (by simp) fun G hP hn => ?_
  unfold a_move_Join_1
  have hlt : a < x.length := (List.getElem?_eq_some_iff.1 ha).1
  repeat' (first     | refine T_then ?_ | refine then_ret ?_ | refine then_exit ?_ | refine then_goto ?_     | refine rnd_exit ?_ | refine rnd_ret ?_ | refine rnd_goto ?_     | refine noGo_normal ?_ | refine noGo_ret ?_ | refine noGo_exit ?_ | refine jmp_normal ?_ | refine jmp_ret ?_ | refine jmp_exit ?_ | refine jmp_goto ?_     | refine inB_normal ?_ | refine inB_ret ?_ | refine inB_goto ?_ | refine inB_exit ?_ | refine inB_exit_ne rfl ?_     | ((first | apply T_sr fw | apply T_reg fw); · ((try simp only [go_sem, seval, reduceIte, ↓reduceIte, hP, ha, hlt]); (repeat ((first       | (refine ⟨true, false, rfl, fun h => absurd h (by decide), ?_⟩) | (refine ⟨false, false, rfl, fun h => absurd h (by decide), ?_⟩) | refine ⟨_, _, rfl, fun _ => rfl, ?_⟩       | (refine .inl ⟨_, _, ⟨_, _, _, _, _, _, rfl, rfl, rfl, p_move_shifted _ _ _ _ _ _ hx ha⟩, ?_⟩)       | (refine ⟨_, ?_, rfl, fun _ => ⟨_, ⟨_, _, _, _, _, _, rfl, rfl, rfl, p_move_shifted _ _ _ _ _ _ hx ha⟩, ?_⟩, ?_⟩; rotate_left; (· (simp only [go_sem, seval, reduceIte, ↓reduceIte, hP, ha, hlt]; first | done | exact rfl)))); (try simp only [go_sem, seval, reduceIte, ↓reduceIte, hP, ha, hlt]))); (first | done | exact rfl)))     | ((first | apply T_sdF fw (by rw [hP]; rfl) (by decide +kernel) | apply T_drF fw (by rw [hP]; rfl) (by decide +kernel)); · ((try simp only [TOps.flat, List.cons_append, List.nil_append]); (repeat ((first | refine Y_g0 ?_ | refine Y_g (by (try simp only [go_sem, seval, reduceIte, ↓reduceIte, Bool.not_eq_true, reduceCtorEq, beq_false, beq_true, hP, ha, hlt]); (first | done | exact rfl)) ?_); (first | refine Y_skip ?_ | ((first | apply Y_q | (refine Y_call ⟨_, _, _, _, _, _, rfl, rfl, rfl, (by rw [hP]; exact p_move_shifted _ _ _ _ _ _ hx ha)⟩ ?_ ?_)); (· ((try simp only [go_sem, seval, reduceIte, ↓reduceIte, Bool.not_eq_true, reduceCtorEq, beq_false, beq_true, hP, ha, hlt]); (first | done | exact rfl))))))); apply RunF_nil; (try simp only [go_sem, seval, reduceIte, ↓reduceIte, Bool.not_eq_true, reduceCtorEq, beq_false, beq_true, hP, ha, hlt]); (first | done | exact rfl)))     | ((first | apply T_sd fw (by rw [hP]; rfl) | apply T_dr fw (by rw [hP]; rfl)); · ((try simp only [go_sem, seval, reduceIte, ↓reduceIte, bne, beq_false, beq_true, Bool.not_eq_true, Bool.if_true_right, decide_not, reduceCtorEq, hP, ha, hlt]); (repeat ((first       | (refine ⟨_, ⟨_, _, _, _, _, _, rfl, rfl, rfl, p_move_shifted _ _ _ _ _ _ hx ha⟩, ?_⟩)); (try simp only [go_sem, seval, reduceIte, ↓reduceIte, bne, beq_false, beq_true, Bool.not_eq_true, Bool.if_true_right, decide_not, reduceCtorEq, hP, ha, hlt]))); (first | done | exact rfl)))     | refine T_seq ?_ | refine T_block ?_ | refine T_scopeJ 0 rfl ?_ | refine T_scope ?_ | refine T_goto ?_ | refine T_ret ?_ | refine T_skip ?_ | refine T_exit ?_ | refine T_label ?_     | refine T_condT rfl ?_ | refine T_condF rfl ?_     | refine T_condD rfl (fun _ => ?_) (fun _ => ?_)     | refine T_cond rfl (fun _ => ?_) (fun _ => ?_))
  · rename_i h
    exact ends_ret rfl rfl rfl (by simp only [resD]; rw [if_pos h])
  · rename_i h
    exact ends_ret rfl rfl rfl (by simp only [resD]; rw [if_neg h])
end Go.AM

namespace Go.AM
open Go Go.Proofs
set_option maxRecDepth 100000

def mk (s : List Int) (g : List Int → Int) : List Int := (List.range (sizeS s).toNat).map fun p => g (idxF s ((p : Nat) : Int))
def mkn (s : List Int) (g : List Int → Int) (k : Nat) : List Int := (List.range k).map fun p => g (idxF s ((p : Nat) : Int))
theorem mkn_succ (s : List Int) (g : List Int → Int) (k : Nat) : mkn s g (k + 1) = mkn s g k ++ [g (idxF s k)] := by
  simp [mkn, List.range_succ]
theorem mkn_len (s : List Int) (g : List Int → Int) (k : Nat) : (mkn s g k).length = k := by simp [mkn]
def madeS (s : List Int) (f : FuncId) (caps : List PV) (g : List Int → Int) (k : Nat) : Sto :=
  [(3, .cells true [.p (.fn f [] caps)]), (4, .cells true [.nils, .nils]), (6, .cells true [.p (eI s), .msl 100 0 1 k none]), (100, .arr true 1 (rI (mkn s g k)))]
theorem made_fam (s : List Int) (f : FuncId) (caps : List PV) (g : List Int → Int) : Fam (madeS s f caps g) [18, 100] := by
  refine ⟨fun k p hp => ?_, fun k t ht => ?_, fun k d hd => ?_, fun k t d hd ht => ?_⟩
  · simp only [madeS, List.mem_cons, List.not_mem_nil, or_false] at hp
    rcases hp with rfl | rfl | rfl | rfl <;> rfl
  · by_cases h : t ∈ (madeS s f caps g k).map (·.1)
    · exact h
    · exact absurd (lo_none h) ht
  · simp only [List.mem_cons, List.not_mem_nil, or_false] at hd
    rcases hd with rfl | rfl
    · exact .inl rfl
    · exact .inr (by simp [madeS])
  · have : lo (madeS s f caps g k) t = .none := lo_none ht
    rw [this]; rfl
theorem p_move_made (s : List Int) (f : FuncId) (caps : List PV) (g : List Int → Int)
    (hf : ∀ p : Nat, p < (sizeS s).toNat → PureC Tryz.prog f ([dI (idxF s p)] ++ caps.map .one) (dN (g (idxF s p)))) :
    PureC Tryz.prog fi_move_made [dI s, .one (.fn f [] caps)] (.tup [dT s (mk s g), dN 0]) := by
  refine pure_move_made (by simp) fun G hP hn => ?_
  unfold a_move_made
  refine go trivial @p_move_indices ?_
  refine T_weak (Weak.nilC 6 100 1 1 rfl rfl rfl rfl) ?_
  simp only [List.set]
  refine T_range rfl (by rw [hP]; exact q_move_indices_1 s) (madeS s f caps g) [18, 100] (by rw [hn]; rfl) (fun x hx => by
    simp only [allX, List.mem_map] at hx
    obtain ⟨p, _, rfl⟩ := hx
    rfl) (fun t => ?_) (made_fam s f caps g) (fun t ht => ?_) (fun d hd => ?_) ?_ ?_
  · left
    simp only [madeS, mkn, List.range_zero, List.map_nil, lo]
    repeat' split
    all_goals first | rfl | simp_all
  · by_cases h : t ∈ (madeS s f caps g 0).map (·.1)
    · exact h
    · exact absurd (lo_none h) ht
  · simp only [List.mem_cons, List.not_mem_nil, or_false] at hd
    rcases hd with rfl | rfl <;> exact FrOk.of [3, 4, 6, 100] rfl rfl rfl rfl (by first | exact .inl rfl | exact .inr rfl)
  · intro k v hv F n G' G'' ex fw h1 h2 h3 h4 hfr
    have hP : G''.P = Tryz.prog := h3.trans hP
    have hfr18 := hfr 18 (by simp)
    have hfr100 := hfr 100 (by simp)
    have hk : k < (sizeS s).toNat := by
      have := (List.getElem?_eq_some_iff.1 hv).1
      rwa [allX_len] at this
    rw [allX_get s k hk] at hv
    cases hv
    have hfk := hf k hk
    simp only [putE, List.map, madeS]
    repeat' (first     | refine T_then ?_ | refine then_ret ?_ | refine then_exit ?_ | refine then_goto ?_     | refine rnd_exit ?_ | refine rnd_ret ?_ | refine rnd_goto ?_     | refine noGo_normal ?_ | refine noGo_ret ?_ | refine noGo_exit ?_ | refine jmp_normal ?_ | refine jmp_ret ?_ | refine jmp_exit ?_ | refine jmp_goto ?_     | refine inB_normal ?_ | refine inB_ret ?_ | refine inB_goto ?_ | refine inB_exit ?_ | refine inB_exit_ne rfl ?_     | ((first | apply T_sr fw | apply T_reg fw); · ((try simp only [go_sem, seval, reduceIte, ↓reduceIte, hP]); (repeat ((first       | (refine ⟨true, false, rfl, fun h => absurd h (by decide), ?_⟩) | (refine ⟨false, false, rfl, fun h => absurd h (by decide), ?_⟩) | refine ⟨_, _, rfl, fun _ => rfl, ?_⟩       | (refine .inl ⟨_, _, ⟨_, _, _, _, _, _, rfl, rfl, rfl, hfk⟩, ?_⟩)       | (refine ⟨_, ?_, rfl, fun _ => ⟨_, ⟨_, _, _, _, _, _, rfl, rfl, rfl, hfk⟩, ?_⟩, ?_⟩; rotate_left; (· (simp only [go_sem, seval, reduceIte, ↓reduceIte, hP]; first | done | exact rfl)))); (try simp only [go_sem, seval, reduceIte, ↓reduceIte, hP]))); (first | done | exact rfl)))     | ((first | apply T_sdF fw (by rw [hP]; rfl) (by decide +kernel) | apply T_drF fw (by rw [hP]; rfl) (by decide +kernel)); · ((try simp only [TOps.flat, List.cons_append, List.nil_append]); (repeat ((first | refine Y_g0 ?_ | refine Y_g (by (try simp only [go_sem, seval, reduceIte, ↓reduceIte, Bool.not_eq_true, reduceCtorEq, beq_false, beq_true, hP]); (first | done | exact rfl)) ?_); (first | refine Y_skip ?_ | ((first | apply Y_q | (refine Y_call ⟨_, _, _, _, _, _, rfl, rfl, rfl, (by rw [hP]; exact hfk)⟩ ?_ ?_)); (· ((try simp only [go_sem, seval, reduceIte, ↓reduceIte, Bool.not_eq_true, reduceCtorEq, beq_false, beq_true, hP]); (first | done | exact rfl))))))); apply RunF_nil; (try simp only [go_sem, seval, reduceIte, ↓reduceIte, Bool.not_eq_true, reduceCtorEq, beq_false, beq_true, hP]); (first | done | exact rfl)))     | ((first | apply T_sd fw (by rw [hP]; rfl) | apply T_dr fw (by rw [hP]; rfl)); · ((try simp only [go_sem, seval, reduceIte, ↓reduceIte, bne, beq_false, beq_true, Bool.not_eq_true, Bool.if_true_right, decide_not, reduceCtorEq, hP]); (repeat ((first       | (refine ⟨_, ⟨_, _, _, _, _, _, rfl, rfl, rfl, hfk⟩, ?_⟩)); (try simp only [go_sem, seval, reduceIte, ↓reduceIte, bne, beq_false, beq_true, Bool.not_eq_true, Bool.if_true_right, decide_not, reduceCtorEq, hP]))); (first | done | exact rfl)))     | refine T_seq ?_ | refine T_block ?_ | refine T_scopeJ 0 rfl ?_ | refine T_scope ?_ | refine T_goto ?_ | refine T_ret ?_ | refine T_skip ?_ | refine T_exit ?_ | refine T_label ?_     | refine T_condT rfl ?_ | refine T_condF rfl ?_     | refine T_condD rfl (fun _ => ?_) (fun _ => ?_)     | refine T_cond rfl (fun _ => ?_) (fun _ => ?_))
    refine ⟨rfl, ?_⟩
    have h64 := sizeS_nn s
    have c1 : (k + 1) * 8 ≤ 2 ^ 40 := by omega
    have c2 : k + 1 ≤ 2 ^ 40 := by omega
    refine go (aa @mkn_len <| aa c1 <| aa c2 <| aa hfr18 <| aa hfr100 (scr_ex hfr100)) hfk ?_
    refine ⟨rfl, fun p hp => ?_, rfl⟩
    simp only [List.mem_cons, List.not_mem_nil, or_false] at hp
    rcases hp with rfl | rfl | rfl | rfl
    · rfl
    · rfl
    · rfl
    · simp [lo, mkn_succ, rI]
  · simp only [List.cons_append, List.nil_append, madeS, allX_len]
    refine go trivial trivial ?_
    exact ends_agg2 rfl rfl (by simp [mk])
end Go.AM

