import Derived.Test.YtphnlpfkenannaaGreatMx21
set_option linter.unusedVariables false
set_option linter.unusedSimpArgs false
namespace Go.AM
open Go Go.Proofs
set_option maxRecDepth 100000
set_option maxHeartbeats 4000000

def gt (d : List Int) (i : Nat) : Int := (d[i]?).getD 0
def cell (n p : Nat) (d e : List Int) (at_ : Nat) : Int × Int := dot (fun k => gt d (at_ / p * n + k)) (fun k => gt e (k * p + at_ % p)) n 0 0
def mulF (s d t e : List Int) : (List Int × List Int) × Int :=
  if checkT s d = true ∧ checkT t e = true then
    match s, t with
    | [m, n], [n', p] => if n = n' ∧ checkS [m, p] = true then
        (if (coll (cell n.toNat p.toNat d e) (m * p).toNat 0 []).2 = 0 then (([m, p], (coll (cell n.toNat p.toNat d e) (m * p).toNat 0 []).1), 0) else bad (coll (cell n.toNat p.toNat d e) (m * p).toNat 0 []).2) else bad 20
    | _, _ => bad 20
  else bad 30
theorem ends_aggMM {rv : List RV} {s : AS} {t1 t2 k1 k2 l1 l2 : Nat} {cap1 cap2 : Option Nat} {m : Bool} {rows1 rows2 : List (List PV)} {v : PV}
    (h1 : evRV rv s.env s.σ = some [.agg [.msl t1 0 k1 l1 cap1, .msl t2 0 k2 l2 cap2], .one (.p v)]) (h2 : lo s.σ t1 = .arr false k1 rows1) (h3 : lo s.σ t2 = .arr m k2 rows2) (hl1 : l1 = rows1.length) (hl2 : l2 = rows2.length) :
    Ends rv (.tup [.agg [.sl rows1, .sl rows2], .one v]) .ret s :=
  ends_ret (ds := [.agg [.sl rows1, .sl rows2], .one v]) (σ' := if m then (t2, .arr false k2 rows2) :: s.σ else s.σ) h1 (by
    have h4 : foldP (toP 6) [.msl t1 0 k1 l1 cap1, .msl t2 0 k2 l2 cap2] s.σ = some ([.sl rows1, .sl rows2], if m then (t2, .arr false k2 rows2) :: s.σ else s.σ) := by
      have e1 := toD_list (n := 5) (cap := cap1) h2 hl1
      have e2 := toD_list (n := 5) (cap := cap2) h3 hl2
      simp only [Bool.false_eq_true, if_false] at e1
      simp only [foldP, e1, e2]
    simp only [toDs, toD, h4]; rfl) rfl rfl
theorem take_set_succ {d : List Int} {i : Nat} (h : i < d.length) (x : Int) : (d.set i x).take (i + 1) = d.take i ++ [x] := by
  rw [List.take_set, List.take_add_one, List.getElem?_eq_getElem h]
  simp only [Option.toList]
  rw [List.set_append_right _ _ (by simp; omega)]
  have : i - (d.take i).length = 0 := by simp; omega
  rw [this]; rfl
theorem p_matmul_Mul (s d t e : List Int) (hd : I64s d) (he : I64s e) : PureC Tryz.prog fi_matmul_Mul [dT s d, dT t e] (dTE (mulF s d t e)) := by
  refine pure_matmul_Mul (by simp) fun G hP hn => ?_
  unfold a_matmul_Mul
  have km := p_matmul_may [(s, d), (t, e)]
  simp only [rT, List.map, List.all_cons, List.all_nil, Bool.and_true] at km
  have fin : ∀ er : Int, mulF s d t e = bad er → dTE (mulF s d t e) = .tup [.agg [.sl [], .sl []], dN er] := fun er h => by rw [h]; rfl
  cases hc1 : checkT s d
  · have hf : mulF s d t e = bad 30 := by unfold mulF; rw [if_neg (by simp [hc1])]
    rw [hc1] at km
    refine go trivial km ?_
    exact ends_ret rfl rfl rfl (by rw [hf]; rfl)
  cases hc2 : checkT t e
  · have hf : mulF s d t e = bad 30 := by unfold mulF; rw [if_neg (by simp [hc2])]
    rw [hc1, hc2] at km
    refine go trivial km ?_
    exact ends_ret rfl rfl rfl (by rw [hf]; rfl)
  rw [hc1, hc2] at km
  have hcc : checkT s d = true ∧ checkT t e = true := ⟨hc1, hc2⟩
  by_cases hs2 : s.length = 2
  rotate_left
  · have hf : mulF s d t e = bad 20 := by
      unfold mulF; rw [if_pos hcc]
      match s, hs2 with
      | [], _ => rfl
      | [a], _ => rfl
      | a :: b :: c :: r, _ => rfl
      | [a, b], h => exact absurd rfl h
    have c1 : ((s.length : Int) != 2) = true := by simp; omega
    refine go c1 km ?_
    exact ends_ret rfl rfl rfl (by rw [hf]; rfl)
  by_cases ht2 : t.length = 2
  rotate_left
  · have hf : mulF s d t e = bad 20 := by
      unfold mulF; rw [if_pos hcc]
      match s, t, hs2, ht2 with
      | [a, b], [], _, _ => rfl
      | [a, b], [c], _, _ => rfl
      | [a, b], c :: f :: g :: r, _, _ => rfl
      | [a, b], [c, f], _, h => exact absurd rfl h
    have c1 : ((s.length : Int) != 2) = false := by simp; omega
    have c2 : ((t.length : Int) != 2) = true := by simp; omega
    refine go (aa c1 c2) km ?_
    exact ends_ret rfl rfl rfl (by rw [hf]; rfl)
  obtain ⟨m, n, rfl⟩ : ∃ m n, s = [m, n] := match s, hs2 with | [a, b], _ => ⟨a, b, rfl⟩
  obtain ⟨n', p, rfl⟩ : ∃ m n, t = [m, n] := match t, ht2 with | [a, b], _ => ⟨a, b, rfl⟩
  cases hnn : (n != n')
  rotate_left
  · have hne : ¬ n = n' := by simpa using hnn
    have hf : mulF [m, n] d [n', p] e = bad 20 := by
      unfold mulF; rw [if_pos hcc]; simp only; rw [if_neg (fun h => hne h.1)]
    refine go hnn km ?_
    exact ends_ret rfl rfl rfl (by rw [hf]; rfl)
  obtain rfl : n = n' := by simpa using hnn
  cases hck : checkS [m, p]
  · have hf : mulF [m, n] d [n, p] e = bad 20 := by
      unfold mulF; rw [if_pos hcc]; simp only; rw [if_neg (fun h => by rw [hck] at h; cases h.2)]
    have kc := p_shape_Check [m, p]
    refine go (aa hnn hck) (aa km kc) ?_
    exact ends_ret rfl rfl rfl (by rw [hf]; rfl)
  have hsd := checkT_iff.1 hc1
  have hte := checkT_iff.1 hc2
  have hm1 : 1 ≤ m ∧ m ≤ 16 := hsd.1.2.1 m (by simp)
  have hn1 : 1 ≤ n ∧ n ≤ 16 := hsd.1.2.1 n (by simp)
  have hp1 : 1 ≤ p ∧ p ≤ 16 := hte.1.2.1 p (by simp)
  obtain ⟨M, rfl⟩ := Int.eq_ofNat_of_zero_le (by omega : 0 ≤ m)
  obtain ⟨N, rfl⟩ := Int.eq_ofNat_of_zero_le (by omega : 0 ≤ n)
  obtain ⟨K, rfl⟩ := Int.eq_ofNat_of_zero_le (by omega : 0 ≤ p)
  have hdl : d.length = M * N := by have := hsd.2; simp only [prd, Int.mul_one] at this; exact_mod_cast this
  have hel : e.length = N * K := by have := hte.2; simp only [prd, Int.mul_one] at this; exact_mod_cast this
  have hMK : M * K ≤ 16 * 16 := Nat.mul_le_mul (by omega) (by omega)
  have w1 : IntKind.i64.wrap ((M : Int) * (K : Int)) = ((M * K : Nat) : Int) := by rw [← Int.natCast_mul, wrap_in (by omega) (by omega)]
  have hM : MaxN = 140737488355328 := rfl
  have q1 : ((M * K : Nat) : Int) * 8 ≤ MaxN := by omega
  have q2 : ((M * K : Nat) : Int) ≤ MaxN := by omega
  have kc := p_shape_Check [(M : Int), (K : Int)]
  refine go (aa hnn <| aa hck <| aa w1 <| aa q1 q2) (aa km kc) ?_
  have hmul : mulF [(M : Int), (N : Int)] d [(N : Int), (K : Int)] e = if (coll (cell N K d e) (M * K) 0 []).2 = 0 then (([(M : Int), (K : Int)], (coll (cell N K d e) (M * K) 0 []).1), 0) else bad (coll (cell N K d e) (M * K) 0 []).2 := by
    have e1 : ((M : Int) * (K : Int)).toNat = M * K := by rw [← Int.natCast_mul]; omega
    unfold mulF; rw [if_pos hcc]; simp only [Int.toNat_natCast, e1]; rw [if_pos ⟨trivial, hck⟩]
  have fin2 : ∀ er : Int, coll (cell N K d e) (M * K) 0 [] = ([], er) → er ≠ 0 → mulF [(M : Int), (N : Int)] d [(N : Int), (K : Int)] e = bad er := fun er h1 h2 => by rw [hmul, h1]; exact if_neg h2
  refine T_weak (Weak.freeze (i := 8) rfl rfl) ?_
  refine T_weak (Weak.freeze (i := 9) rfl rfl) ?_
  refine T_for (M * K) (fun i data => { env := [(4, .one (.ptr 4 0 2 0)), (6, .one (.ptr 6 0 1 0)), (7, .one (.ptr 7 0 1 0)), (8, .one (.p (.fn fi_matmul_Mul_1 [] [.box [eI [(M : Int), (N : Int)], eI d], .box [.int .i64 N]]))), (9, .one (.p (.fn fi_matmul_Mul_2 [] [.box [eI [(N : Int), (K : Int)], eI e], .box [.int .i64 M, .int .i64 K]]))), (10, .one (.msl 68 0 1 (M * K) (some (M * K)))), (70, .one (.p (.int .i64 ((M * K : Nat) : Int)))), (71, .one (.p (.int .i64 i)))], σ := [(4, .cells true [.nils, .nils]), (6, .arr false 1 [[.int .i64 M], [.int .i64 K]]), (7, .cells false [.p (.int .i64 N)]), (68, .arr true 1 (rI data))] })
    (fun i data => data.length = M * K ∧ data.drop i = List.replicate (M * K - i) 0 ∧ coll (cell N K d e) (M * K - i) i (data.take i) = coll (cell N K d e) (M * K) 0 []) (List.replicate (M * K) 0) ⟨by simp, by simp, by simp⟩ ?_ fun i data hi hc => ?_
  · refine (Weak.pick [4, 6, 7, 8, 9, 10, 70, 71]).trans (Weak.sub fun p hp => ?_)
    simp only [List.mem_cons, List.not_mem_nil, or_false] at hp
    rcases hp with rfl | rfl | rfl | rfl
    · rfl
    · rfl
    · rfl
    · simp [lo, rI]
  obtain ⟨hc1', hc2', hc3⟩ := hc
  by_cases hlt : i < M * K
  · have c1 : (i : Int) < ((M * K : Nat) : Int) := by omega
    have w2 : IntKind.i64.wrap ((i : Int) + 1) = ((i + 1 : Nat) : Int) := by rw [wrap_in (by omega) (by omega)]; rfl
    have hK0 : ((K : Int) = 0) = False := by simp; omega
    have qd : IntKind.i64.wrap ((i : Int).tdiv (K : Int)) = ((i / K : Nat) : Int) := by
      have hq := Nat.div_le_self i K
      rw [Int.tdiv_eq_ediv_of_nonneg (by omega), ← Int.natCast_ediv]
      generalize i / K = q at hq ⊢
      exact wrap_in (by omega) (by omega)
    have qm : (i : Int).tmod (K : Int) = ((i % K : Nat) : Int) := by rw [Int.tmod_eq_emod_of_nonneg (by omega)]; omega
    have hiK : i / K < M := (Nat.div_lt_iff_lt_mul (by omega)).2 hlt
    have hmK : i % K < K := Nat.mod_lt _ (by omega)
    have hMN : M * N ≤ 16 * 16 := Nat.mul_le_mul (by omega) (by omega)
    have hNK : N * K ≤ 16 * 16 := Nat.mul_le_mul (by omega) (by omega)
    have hdi : data[i]? = some 0 := by
      have : (data.drop i)[0]? = some 0 := by rw [hc2', List.getElem?_replicate]; rw [if_pos (by omega)]
      rw [List.getElem?_drop] at this; simpa using this
    refine go c1 trivial ?_
    refine T_for N (fun k sum => { env := [(4, .one (.ptr 4 0 2 0)), (6, .one (.ptr 6 0 1 0)), (7, .one (.ptr 7 0 1 0)), (8, .one (.p (.fn fi_matmul_Mul_1 [] [.box [eI [(M : Int), (N : Int)], eI d], .box [.int .i64 N]]))), (9, .one (.p (.fn fi_matmul_Mul_2 [] [.box [eI [(N : Int), (K : Int)], eI e], .box [.int .i64 M, .int .i64 K]]))), (10, .one (.msl 68 0 1 (M * K) (some (M * K)))), (11, .one (.p (.int .i64 i))), (70, .one (.p (.int .i64 ((M * K : Nat) : Int)))), (71, .one (.p (.int .i64 i))), (74, .one (.p (.int .i64 N))), (75, .one (.p (.int .i64 k)))], σ := [(4, .cells true [.nils, .nils]), (6, .arr false 1 [[.int .i64 M], [.int .i64 K]]), (7, .cells false [.p (.int .i64 N)]), (68, .arr true 1 (rI (data.set i sum)))] })
      (fun k sum => I64 sum ∧ dot (fun k => gt d (i / K * N + k)) (fun k => gt e (k * K + i % K)) (N - k) k sum = cell N K d e i) 0 ⟨⟨by decide, by decide⟩, rfl⟩ ?_ fun k sum hk hck2 => ?_
    · have e0 : data.set i 0 = data := by
        apply List.ext_getElem?
        intro j
        rw [List.getElem?_set]
        split
        · rename_i hj; subst hj; rw [hdi]; simp [hc1', hlt]
        · rfl
      rw [e0]
      exact (Weak.pick [4, 6, 7, 8, 9, 10, 11, 70, 71, 74, 75]).trans (Weak.sub fun p hp => by
        simp only [List.mem_cons, List.not_mem_nil, or_false] at hp
        rcases hp with rfl | rfl | rfl | rfl <;> rfl)
    · obtain ⟨hsum, hdot⟩ := hck2
      by_cases hkN : k < N
      · have k1 : (k : Int) < (N : Int) := by omega
        have w4 : IntKind.i64.wrap ((k : Int) + 1) = ((k + 1 : Nat) : Int) := by rw [wrap_in (by omega) (by omega)]; rfl
        have hb1 : i / K * N + k < M * N := by
          have : (i / K + 1) * N ≤ M * N := Nat.mul_le_mul_right N hiK
          rw [Nat.succ_mul] at this; omega
        have hb2 : k * K + i % K < N * K := by
          have : (k + 1) * K ≤ N * K := Nat.mul_le_mul_right K hkN
          rw [Nat.succ_mul] at this; omega
        have hx : d[i / K * N + k]? = some (gt d (i / K * N + k)) := by
          rw [gt, List.getElem?_eq_getElem (by omega)]; rfl
        have hy : e[k * K + i % K]? = some (gt e (k * K + i % K)) := by
          rw [gt, List.getElem?_eq_getElem (by omega)]; rfl
        have kr := p_matmul_Mul_1 (s := [(M : Int), (N : Int)]) (i := i / K) (k := k) (n := N) hx (by omega)
        have kq := p_matmul_Mul_2 (t := [(N : Int), (K : Int)]) (k := k) (j := i % K) (p := K) (m := M) hy (by omega)
        have kmul := p_fix_Mul (hd.get hx) (he.get hy)
        have hNk : N - k = (N - (k + 1)) + 1 := by omega
        rw [hNk] at hdot
        simp only [dot] at hdot
        generalize gt d (i / K * N + k) = x at *
        generalize gt e (k * K + i % K) = y at *
        have hset : (data.set i sum)[i]? = some sum := by rw [List.getElem?_set_self (by omega)]
        have hsl : (data.set i sum).length = M * K := by simp [hc1']
        by_cases e1 : (fMul x y).2 = 0
        · rw [if_pos e1] at hdot
          have e1' : ((fMul x y).2 != 0) = false := by simp [e1]
          have kadd := p_fix_Add hsum (fMul_range x y)
          by_cases e2 : (fAdd sum (fMul x y).1).2 = 0
          · rw [if_pos e2] at hdot
            have e2' : ((fAdd sum (fMul x y).1).2 != 0) = false := by simp [e2]
            repeat' (first | apply T_then | apply then_ret | apply then_exit | apply then_goto | apply rnd_exit | apply rnd_ret | apply rnd_goto | apply noGo_normal | apply noGo_ret | apply noGo_exit | apply jmp_normal | apply jmp_ret | apply jmp_exit | apply jmp_goto | apply inB_normal | apply inB_ret | apply inB_goto | apply inB_exit | refine inB_exit_ne rfl ?_ | ((first | apply T_srK fw | apply T_regK fw); · ((try simp only [TOps.flat, List.cons_append, List.nil_append]); repeat (first | apply X_g0 | apply X_g | apply S_keep | apply X_skip | apply X_skipN | refine X_call ?_ ⟨_, _, _, _, _, _, rfl, rfl, rfl, by rw [hP]; exact kr⟩ ?_ | refine X_call ?_ ⟨_, _, _, _, _, _, rfl, rfl, rfl, by rw [hP]; exact kq⟩ ?_ | refine X_call ?_ ⟨_, _, _, _, _, _, rfl, rfl, rfl, by rw [hP]; exact kmul⟩ ?_ | refine X_call ?_ ⟨_, _, _, _, _, _, rfl, rfl, rfl, by rw [hP]; exact kadd⟩ ?_ | apply X_q | apply X_st | apply X_n | apply X_s | apply SKs0 | apply SKs2 | apply SKs1 | refine ⟨⟨rfl, rfl⟩, ?_⟩ | refine ⟨⟨rfl, ?_⟩, ?_⟩ | refine ⟨?_, ?_⟩ | (· (try simp only [go_sem, seval, reduceIte, ↓reduceIte, Bool.not_eq_true, reduceCtorEq, beq_false, beq_true, hn, hP, k1, hK0, qd, qm, e1', e2', w4, hlt, hset, hsl, hc1', rI_set, List.set_set]); first | done | rfl)))) | ((first | apply T_sdF fw (by rw [hP]; rfl) (by decide +kernel) | apply T_drF fw (by rw [hP]; rfl) (by decide +kernel)); · ((try simp only [TOps.flat, List.cons_append, List.nil_append]); repeat (first | apply Y_g0 | apply Y_g | apply Y_skip | apply Y_q | refine Y_call ⟨_, _, _, _, _, _, rfl, rfl, rfl, by rw [hP]; exact kr⟩ ?_ ?_ | refine Y_call ⟨_, _, _, _, _, _, rfl, rfl, rfl, by rw [hP]; exact kq⟩ ?_ ?_ | refine Y_call ⟨_, _, _, _, _, _, rfl, rfl, rfl, by rw [hP]; exact kmul⟩ ?_ ?_ | refine Y_call ⟨_, _, _, _, _, _, rfl, rfl, rfl, by rw [hP]; exact kadd⟩ ?_ ?_ | refine RunF_nil (P := G.P) ?_ | (· (try simp only [go_sem, seval, reduceIte, ↓reduceIte, Bool.not_eq_true, reduceCtorEq, beq_false, beq_true, hn, hP, k1, hK0, qd, qm, e1', e2', w4, hlt, hset, hsl, hc1', rI_set, List.set_set]); first | done | rfl)))) | apply T_seq | apply T_block | refine T_scopeJ 0 rfl ?_ | apply T_scope | apply T_goto | apply T_ret | apply T_skip | apply T_exit | apply T_label | refine T_condT rfl ?_ | refine T_condF rfl ?_ | refine T_condD rfl (fun _ => ?_) (fun _ => ?_) | refine T_cond rfl (fun _ => ?_) (fun _ => ?_))
            exact rnd_next hkN _ ⟨fAdd_range _ _, hdot⟩ (Weak.sub fun p hp => by
              simp only [List.mem_cons, List.not_mem_nil, or_false] at hp
              rcases hp with rfl | rfl | rfl | rfl <;> rfl)
          · rw [if_neg e2] at hdot
            have e2' : ((fAdd sum (fMul x y).1).2 != 0) = true := by simp [e2]
            have hf := fin2 _ (by
              rw [← hc3, show M * K - i = (M * K - (i + 1)) + 1 from by omega]
              simp only [coll]
              rw [if_neg (by rw [← hdot]; exact e2), ← hdot]) e2
            repeat' (first | apply T_then | apply then_ret | apply then_exit | apply then_goto | apply rnd_exit | apply rnd_ret | apply rnd_goto | apply noGo_normal | apply noGo_ret | apply noGo_exit | apply jmp_normal | apply jmp_ret | apply jmp_exit | apply jmp_goto | apply inB_normal | apply inB_ret | apply inB_goto | apply inB_exit | refine inB_exit_ne rfl ?_ | ((first | apply T_srK fw | apply T_regK fw); · ((try simp only [TOps.flat, List.cons_append, List.nil_append]); repeat (first | apply X_g0 | apply X_g | apply S_keep | apply X_skip | apply X_skipN | refine X_call ?_ ⟨_, _, _, _, _, _, rfl, rfl, rfl, by rw [hP]; exact kr⟩ ?_ | refine X_call ?_ ⟨_, _, _, _, _, _, rfl, rfl, rfl, by rw [hP]; exact kq⟩ ?_ | refine X_call ?_ ⟨_, _, _, _, _, _, rfl, rfl, rfl, by rw [hP]; exact kmul⟩ ?_ | refine X_call ?_ ⟨_, _, _, _, _, _, rfl, rfl, rfl, by rw [hP]; exact kadd⟩ ?_ | apply X_q | apply X_st | apply X_n | apply X_s | apply SKs0 | apply SKs2 | apply SKs1 | refine ⟨⟨rfl, rfl⟩, ?_⟩ | refine ⟨⟨rfl, ?_⟩, ?_⟩ | refine ⟨?_, ?_⟩ | (· (try simp only [go_sem, seval, reduceIte, ↓reduceIte, Bool.not_eq_true, reduceCtorEq, beq_false, beq_true, hn, hP, k1, hK0, qd, qm, e1', e2', w4, hlt, hset, hsl, hc1', rI_set, List.set_set]); first | done | rfl)))) | ((first | apply T_sdF fw (by rw [hP]; rfl) (by decide +kernel) | apply T_drF fw (by rw [hP]; rfl) (by decide +kernel)); · ((try simp only [TOps.flat, List.cons_append, List.nil_append]); repeat (first | apply Y_g0 | apply Y_g | apply Y_skip | apply Y_q | refine Y_call ⟨_, _, _, _, _, _, rfl, rfl, rfl, by rw [hP]; exact kr⟩ ?_ ?_ | refine Y_call ⟨_, _, _, _, _, _, rfl, rfl, rfl, by rw [hP]; exact kq⟩ ?_ ?_ | refine Y_call ⟨_, _, _, _, _, _, rfl, rfl, rfl, by rw [hP]; exact kmul⟩ ?_ ?_ | refine Y_call ⟨_, _, _, _, _, _, rfl, rfl, rfl, by rw [hP]; exact kadd⟩ ?_ ?_ | refine RunF_nil (P := G.P) ?_ | (· (try simp only [go_sem, seval, reduceIte, ↓reduceIte, Bool.not_eq_true, reduceCtorEq, beq_false, beq_true, hn, hP, k1, hK0, qd, qm, e1', e2', w4, hlt, hset, hsl, hc1', rI_set, List.set_set]); first | done | rfl)))) | apply T_seq | apply T_block | refine T_scopeJ 0 rfl ?_ | apply T_scope | apply T_goto | apply T_ret | apply T_skip | apply T_exit | apply T_label | refine T_condT rfl ?_ | refine T_condF rfl ?_ | refine T_condD rfl (fun _ => ?_) (fun _ => ?_) | refine T_cond rfl (fun _ => ?_) (fun _ => ?_))
            exact ends_ret rfl rfl rfl (by rw [hf]; rfl)
        · rw [if_neg e1] at hdot
          have e1' : ((fMul x y).2 != 0) = true := by simp [e1]
          have hf := fin2 _ (by
            rw [← hc3, show M * K - i = (M * K - (i + 1)) + 1 from by omega]
            simp only [coll]
            rw [if_neg (by rw [← hdot]; exact e1), ← hdot]) e1
          refine go (aa k1 <| aa hK0 <| aa @qd <| aa @qm <| aa e1' w4) (aa kr <| aa kq kmul) ?_
          exact ends_ret rfl rfl rfl (by rw [hf]; rfl)
      · have hkn : k = N := by omega
        subst hkn
        refine go w2 trivial ?_
        rw [Nat.sub_self] at hdot
        simp only [dot] at hdot
        refine rnd_next hlt (data.set i sum) ⟨by simp [hc1'], ?_, ?_⟩ (Weak.sub fun p hp => by
          simp only [List.mem_cons, List.not_mem_nil, or_false] at hp
          rcases hp with rfl | rfl | rfl | rfl <;> rfl)
        · rw [List.drop_set_of_lt (by omega)]
          have : data.drop (i + 1) = (data.drop i).drop 1 := by rw [List.drop_drop]
          rw [this, hc2', List.drop_replicate]; congr 1
        · rw [take_set_succ (by omega), ← hc3, show M * K - i = (M * K - (i + 1)) + 1 from by omega]
          simp only [coll, ← hdot]
          rfl
  · have hi2 : i = M * K := by omega
    subst hi2
    rw [Nat.sub_self, List.take_of_length_le (by omega)] at hc3
    simp only [coll] at hc3
    refine go trivial trivial ?_
    rw [hmul, ← hc3]
    exact ends_aggMM rfl rfl rfl rfl (by simp [hc1'])
end Go.AM

namespace Go.AM
open Go Go.Proofs

theorem inIdx_iff : ∀ {s x : List Int}, InIdx s x ↔ s.length = x.length ∧ ∀ (i : Nat) (m k : Int), s[i]? = some m → x[i]? = some k → 0 ≤ k ∧ k < m
  | [], [] => ⟨fun _ => ⟨rfl, fun i m k h => by simp at h⟩, fun _ => .nil⟩
  | [], _ :: _ => ⟨fun h => (by cases h), fun h => by simp at h⟩
  | _ :: _, [] => ⟨fun h => (by cases h), fun h => by simp at h⟩
  | m :: s, k :: x => by
    constructor
    · intro h
      cases h with
      | cons h0 h1 h =>
        have := inIdx_iff.1 h
        refine ⟨by simp [this.1], fun i m' k' hm hk => ?_⟩
        cases i with
        | zero => simp at hm hk; subst hm hk; exact ⟨h0, h1⟩
        | succ i => exact this.2 i m' k' (by simpa using hm) (by simpa using hk)
    · rintro ⟨h1, h2⟩
      have := h2 0 m k rfl rfl
      exact .cons this.1 this.2 (inIdx_iff.2 ⟨by simpa using h1, fun i m' k' hm hk => h2 (i + 1) m' k' (by simpa using hm) (by simpa using hk)⟩)
theorem InIdx.get {s x : List Int} (h : InIdx s x) {n : Nat} {m : Int} (hm : s[n]? = some m) : ∃ k, x[n]? = some k ∧ 0 ≤ k ∧ k < m := by
  have h1 := inIdx_iff.1 h
  have hn := (List.getElem?_eq_some_iff.1 hm).1
  have hk : x[n]? = some (x[n]'(by omega)) := List.getElem?_eq_getElem (by omega)
  exact ⟨_, hk, h1.2 n _ _ hm hk⟩
theorem InIdx.set {s x : List Int} (h : InIdx s x) (n : Nat) {m k : Int} (h0 : 0 ≤ k) (h1 : k < m) : InIdx (s.set n m) (x.set n k) := by
  have h2 := inIdx_iff.1 h
  refine inIdx_iff.2 ⟨by simp [h2.1], fun i m' k' hm hk => ?_⟩
  by_cases hi : i = n
  · subst hi
    rw [List.getElem?_set] at hm hk
    simp at hm hk
    omega
  · rw [List.getElem?_set_ne (Ne.symm hi)] at hm hk
    exact h2.2 i m' k' hm hk
theorem Sides.set {s : List Int} (h : Sides s) (n : Nat) {m : Int} (h1 : 1 ≤ m ∧ m ≤ 16) : Sides (s.set n m) := by
  intro k hk
  rcases List.mem_or_eq_of_mem_set hk with hk | rfl
  · exact h k hk
  · exact h1
theorem prd_set : ∀ {s : List Int} {n : Nat} {m k : Int}, s[n]? = some m → prd (s.set n k) * m = prd s * k
  | [], n, m, k, h => by simp at h
  | a :: s, 0, m, k, h => by
    simp at h; subst h
    simp only [List.set_cons_zero, prd]
    rw [Int.mul_right_comm, Int.mul_comm k a, Int.mul_assoc, Int.mul_comm k, ← Int.mul_assoc]
  | a :: s, n + 1, m, k, h => by
    simp only [List.set_cons_succ, prd]
    rw [Int.mul_assoc, prd_set (s := s) (by simpa using h), Int.mul_assoc]
theorem prd_set_le {s : List Int} {n : Nat} {m k : Int} (hs : Sides s) (h : s[n]? = some m) (h1 : 1 ≤ k ∧ k ≤ m) : prd (s.set n k) ≤ prd s := by
  have hp := prd_set (k := k) h
  have h2 := prd_pos hs
  have hm : 0 < m := by omega
  have h3 : prd s * k ≤ prd s * m := Int.mul_le_mul_of_nonneg_left h1.2 (by omega)
  rw [← hp] at h3
  exact Int.le_of_mul_le_mul_right h3 hm
theorem ShapeOk.cut {s : List Int} (h : ShapeOk s) {n : Nat} {m k : Int} (hm : s[n]? = some m) (h1 : 1 ≤ k ∧ k ≤ m) : ShapeOk (s.set n k) := by
  have hb := h.2.1 m (List.mem_of_getElem? hm)
  exact ⟨by simpa using h.1, h.2.1.set n ⟨h1.1, by omega⟩, by have := prd_set_le h.2.1 hm h1; have := h.2.2; omega⟩
end Go.AM

namespace Go.AM
open Go Go.Proofs

structure Joins (s d t e : List Int) (n : Nat) (k m : Int) : Prop where
  one : checkT s d = true
  two : checkT t e = true
  hk : s[n]? = some k
  hm : t[n]? = some m
  like : t = s.set n m
  ok : ShapeOk (s.set n (k + m))
theorem Joins.kb {s d t e : List Int} {n : Nat} {k m : Int} (h : Joins s d t e n k m) : 1 ≤ k ∧ k ≤ 16 := (checkT_iff.1 h.one).1.2.1 k (List.mem_of_getElem? h.hk)
theorem Joins.lt {s d t e : List Int} {n : Nat} {k m : Int} (h : Joins s d t e n k m) : n < s.length := (List.getElem?_eq_some_iff.1 h.hk).1
end Go.AM

namespace Go.AM
open Go Go.Proofs

theorem c_same' (s : List Int) : PureC Tryz.prog fi_fullerref02_Same [dI s, dI s] (dB true) := by
  have := p_ref02_Same s s; rw [sameL_refl] at this; exact this
end Go.AM

namespace Go.AM
open Go Go.Proofs
set_option maxRecDepth 100000
set_option maxHeartbeats 4000000

theorem I64s.mk {s : List Int} {g : List Int → Int} (h : ∀ x, I64 (g x)) : I64s (mk s g) := fun n hn => by
  simp only [AM.mk, List.mem_map] at hn
  obtain ⟨p, _, rfl⟩ := hn
  exact h _
theorem atF_range {s d x : List Int} (hd : I64s d) : I64 (atF s d x).1 := by
  have z : I64 0 := ⟨by decide, by decide⟩
  unfold atF
  split
  · exact z
  · split
    · exact z
    · cases h : d[(placeF s x).1.toNat]? with
      | none => exact z
      | some v => exact hd.get h
theorem turnF_range {s d : List Int} (hd : I64s d) : I64s (turnF s d).1.2 := by
  unfold turnF
  split
  · exact I64s.mk fun x => atF_range hd
  · exact I64s.nil
end Go.AM

namespace Go.AM
open Go Go.Proofs
set_option maxRecDepth 100000
set_option maxHeartbeats 4000000

theorem i64_0 : I64 0 := ⟨by decide, by decide⟩
theorem fMul_zero (a : Int) : fMul a 0 = (0, 0) := by unfold fMul; rw [Int.mul_zero]; exact rng_in i64_0
theorem fAdd_zero {a : Int} (h : I64 a) : fAdd a 0 = (a, 0) := by unfold fAdd; rw [Int.add_zero]; exact rng_in h
theorem dot_none {x y : Nat → Int} : ∀ {n k : Nat} {s : Int}, I64 s → (∀ j, j < n → y (k + j) = 0) → dot x y n k s = (s, 0)
  | 0, _, _, _, _ => rfl
  | n + 1, k, s, hs, h => by
    have h0 := h 0 (by omega)
    rw [Nat.add_zero] at h0
    simp only [dot, h0, fMul_zero, fAdd_zero hs, if_true]
    exact dot_none hs fun j hj => by
      have := h (j + 1) (by omega)
      rwa [show k + (j + 1) = k + 1 + j from by omega] at this
def tab (m p : Nat) (g : Nat → Nat → Int) : List Int := (List.range (m * p)).map fun a => g (a / p) (a % p)
theorem row_lt {m p i j : Nat} (hi : i < m) (hj : j < p) : i * p + j < m * p := by
  have : (i + 1) * p ≤ m * p := Nat.mul_le_mul_right p (by omega)
  rw [Nat.succ_mul] at this; omega
theorem row_div {p i j : Nat} (hj : j < p) : (i * p + j) / p = i := by
  rw [Nat.add_comm, Nat.add_mul_div_right _ _ (by omega), Nat.div_eq_of_lt hj, Nat.zero_add]
theorem row_mod {p i j : Nat} (hj : j < p) : (i * p + j) % p = j := by
  rw [Nat.add_comm, Nat.add_mul_mod_self_right, Nat.mod_eq_of_lt hj]
theorem row_of {m p a : Nat} (h : a < m * p) : a / p < m ∧ a % p < p ∧ a / p * p + a % p = a := by
  have hp : 0 < p := by
    rcases Nat.eq_zero_or_pos p with rfl | hp
    · simp at h
    · exact hp
  refine ⟨by rw [Nat.div_lt_iff_lt_mul hp]; exact h, Nat.mod_lt _ hp, ?_⟩
  have := Nat.div_add_mod a p
  rw [Nat.mul_comm] at this; exact this
theorem gt_tab {m p : Nat} {g : Nat → Nat → Int} {i j : Nat} (hi : i < m) (hj : j < p) : gt (tab m p g) (i * p + j) = g i j := by
  unfold gt tab
  rw [List.getElem?_map, List.getElem?_range (row_lt hi hj)]
  simp only [Option.map_some, Option.getD_some, row_div hj, row_mod hj]
theorem tab_congr {m p : Nat} {g g' : Nat → Nat → Int} (h : ∀ i j, i < m → j < p → g i j = g' i j) : tab m p g = tab m p g' := by
  unfold tab
  apply List.map_congr_left
  intro a ha
  obtain ⟨h1, h2, _⟩ := row_of (List.mem_range.1 ha)
  exact h _ _ h1 h2
theorem gt_range {d : List Int} (h : I64s d) (i : Nat) : I64 (gt d i) := by
  unfold gt
  cases e : d[i]? with
  | none => exact i64_0
  | some v => exact h.get e
def cel (n p : Nat) (d e : List Int) (i j : Nat) : Int × Int := dot (fun k => gt d (i * n + k)) (fun k => gt e (k * p + j)) n 0 0
theorem cell_cel (n p : Nat) (d e : List Int) (a : Nat) : cell n p d e a = cel n p d e (a / p) (a % p) := rfl
def Goes (m n p : Nat) (d e : List Int) : Prop := ∀ i j, i < m → j < p → (cel n p d e i j).2 = 0
def prod (m n p : Nat) (d e : List Int) : List Int := tab m p fun i j => (cel n p d e i j).1
theorem mul_go {m n p : Nat} {d e : List Int} (h1 : checkT [(m : Int), (n : Int)] d = true) (h2 : checkT [(n : Int), (p : Int)] e = true) (h3 : checkS [(m : Int), (p : Int)] = true) (h : Goes m n p d e) :
    mulF [(m : Int), (n : Int)] d [(n : Int), (p : Int)] e = (([(m : Int), (p : Int)], prod m n p d e), 0) := by
  unfold mulF
  rw [if_pos ⟨h1, h2⟩]
  simp only [h3, and_self, if_true, Int.toNat_natCast]
  rw [← Int.natCast_mul, Int.toNat_natCast]
  have hc := coll_ok (f := cell n p d e) (n := m * p) (a := 0) (acc := []) fun k hk => by
    rw [Nat.zero_add, cell_cel]
    exact h _ _ (row_of hk).1 (row_of hk).2.1
  rw [hc]
  simp only [if_true, List.nil_append, Nat.zero_add, cell_cel]
  rfl
theorem len2 {s d : List Int} (h : checkT s d = true) (hl : s.length = 2) : ∃ m n : Nat, s = [(m : Int), (n : Int)] := by
  match s, hl with
  | [m, n], _ =>
    have q1 := (checkT_iff.1 h).1.2.1 m (by simp)
    have q2 := (checkT_iff.1 h).1.2.1 n (by simp)
    obtain ⟨m, rfl⟩ := Int.eq_ofNat_of_zero_le (by omega : 0 ≤ m)
    obtain ⟨n, rfl⟩ := Int.eq_ofNat_of_zero_le (by omega : 0 ≤ n)
    exact ⟨m, n, rfl⟩
end Go.AM

namespace Go.AM
open Go Go.Proofs
set_option maxRecDepth 100000
set_option maxHeartbeats 4000000

theorem ends_twoM {rv : List RV} {s : AS} {t1 t2 k1 k2 l1 l2 : Nat} {cap1 cap2 : Option Nat} {rows1 rows2 : List (List PV)} {tl : List AV} {ds : List DV} {r : DV} (hne : t1 ≠ t2)
    (h1 : evRV rv s.env s.σ = some (.agg [.msl t1 0 k1 l1 cap1, .msl t2 0 k2 l2 cap2] :: tl)) (h2 : lo s.σ t1 = .arr true k1 rows1) (h3 : lo s.σ t2 = .arr true k2 rows2) (hl1 : l1 = rows1.length) (hl2 : l2 = rows2.length)
    (ht : (tl = [] ∧ ds = []) ∨ ∃ v, tl = [.one (.p v)] ∧ ds = [.one v]) (hr : r = resD (.agg [.sl rows1, .sl rows2] :: ds)) :
    Ends rv r .ret s := by
  have h4 : foldP (toP 6) [.msl t1 0 k1 l1 cap1, .msl t2 0 k2 l2 cap2] s.σ = some ([.sl rows1, .sl rows2], (t2, .arr false k2 rows2) :: (t1, .arr false k1 rows1) :: s.σ) := by
    have e1 := toD_list (n := 5) (cap := cap1) h2 hl1
    have e2 := toD_list (n := 5) (cap := cap2) (σ := (t1, .arr false k1 rows1) :: s.σ) (t := t2) (k := k2) (rows := rows2) (m := true) (by rw [← h3]; simp [lo, hne.symm]) hl2
    simp only [if_true] at e1 e2
    simp only [foldP, e1, e2]
  rcases ht with ⟨rfl, rfl⟩ | ⟨v, rfl, rfl⟩
  · exact ends_ret (ds := [.agg [.sl rows1, .sl rows2]]) (σ' := (t2, .arr false k2 rows2) :: (t1, .arr false k1 rows1) :: s.σ) h1 (by simp only [toDs, toD, h4]) rfl hr.symm
  · exact ends_ret (ds := [.agg [.sl rows1, .sl rows2], .one v]) (σ' := (t2, .arr false k2 rows2) :: (t1, .arr false k1 rows1) :: s.σ) h1 (by simp only [toDs, toD, h4]; rfl) rfl hr.symm
end Go.AM

namespace Go.AM
open Go Go.Proofs
set_option maxRecDepth 100000
set_option maxHeartbeats 4000000

theorem p_fix_Sub {a b : Int} (ha : I64 a) (hb : I64 b) : PureC Tryz.prog fi_fix_Sub [dN a, dN b] (dNE (fSub a b)) := by
  refine pure_fix_Sub (by simp) fun G hP hn => ?_
  unfold a_fix_Sub
  have hw := w64_eq (a - b)
  unfold I64 at ha hb
  have k1 : I64 (a - b) → fSub a b = (IntKind.i64.wrap (a - b), 0) := fun h => by
    rw [wrap_in h.1 h.2]; exact rng_in h
  have k2 : ¬ I64 (a - b) → fSub a b = (0, 10) := fun h => by
    exact rng_out h
  unfold I64 at k1 k2
  by_cases h1 : a < 0 <;> by_cases h2 : b < 0 <;> by_cases h3 : IntKind.i64.wrap (a - b) < 0
  all_goals
    refine go (aa h1 <| aa h2 h3) @p_fix_told ?_
    exact ends_ret rfl rfl rfl (by
      simp only [resD]
      first
        | (rw [k1 (by split at hw <;> omega)]; done)
        | (rw [k2 (by split at hw <;> omega)]; done)
        | (rw [k1 (by split at hw <;> omega)]; rfl)
        | (rw [k2 (by split at hw <;> omega)]; rfl))
theorem p_fix_Neg {a : Int} (ha : I64 a) : PureC Tryz.prog fi_fix_Neg [dN a] (dNE (fNeg a)) := by
  refine pure_fix_Neg (by simp) fun G hP hn => ?_
  unfold a_fix_Neg
  by_cases h : a = -9223372036854775808
  · subst h
    have w : IntKind.i64.wrap (-(-9223372036854775808)) = -9223372036854775808 := by decide
    have w' : IntKind.i64.wrap (0 - -9223372036854775808) = -9223372036854775808 := by decide
    refine go (aa @w @w') @p_fix_told ?_
    exact ends_ret rfl rfl rfl rfl
  · have e : (a != -9223372036854775808) = true := by simpa using h
    have w' : IntKind.i64.wrap (0 - a) = 0 - a := wrap_in (by unfold I64 at ha; omega) (by unfold I64 at ha; omega)
    have w : IntKind.i64.wrap (-a) = 0 - a := by rw [← Int.zero_sub]; exact w'
    have hf : fNeg a = (0 - a, 0) := rng_in (by unfold I64 at ha ⊢; omega)
    refine go (aa @w <| aa @w' @e) @p_fix_told ?_
    exact ends_ret rfl rfl rfl (by rw [hf]; rfl)
def fRelu (a : Int) : Int × Int := (max a 0, 0)
theorem p_relu (a : Int) : PureC Tryz.prog fi_elem_kinds_1 [dN a] (dNE (fRelu a)) := by
  refine pure_elem_kinds_1 (by simp) fun G hP hn => ?_
  unfold a_elem_kinds_1
  refine go trivial trivial ?_
  exact ends_ret rfl rfl rfl rfl
def kindsM : PV := .map [(10, true, [.nilF, .fn fi_fix_Add [] []]), (11, true, [.nilF, .fn fi_fix_Sub [] []]), (12, true, [.nilF, .fn fi_fix_Mul [] []]), (13, true, [.nilF, .fn fi_fix_Div [] []]),
  (20, true, [.fn fi_fix_Neg [] [], .nilF]), (21, true, [.fn fi_elem_kinds_1 [] [], .nilF]), (22, true, [.fn fi_fix_Pow [] [], .nilF]), (23, true, [.fn fi_fix_Sqrt [] [], .nilF])]
theorem p_elem_kinds : PureC Tryz.prog fi_elem_kinds [] (.one kindsM) := by
  refine pure_elem_kinds (by simp) fun G hP hn => ?_
  unfold a_elem_kinds
  refine go trivial trivial ?_
  exact ends_ret rfl rfl rfl rfl
def eachF (s : List Int) (h : Nat → Int × Int) : (List Int × List Int) × Int :=
  if (coll h (sizeS s).toNat 0 []).2 = 0 then ((s, (coll h (sizeS s).toNat 0 []).1), 0) else bad (coll h (sizeS s).toNat 0 []).2
theorem p_elem_each {f : FuncId} {caps : List PV} {s : List Int} {h : Nat → Int × Int} (hs : s.length ≤ 64) (hf : ∀ p : Nat, p < (sizeS s).toNat → PureC Tryz.prog f ([dN p] ++ caps.map .one) (dNE (h p))) :
    PureC Tryz.prog fi_elem_each [dI s, .one (.fn f [] caps)] (dTE (eachF s h)) := by
  refine pure_elem_each (by simp) fun G hP hn => ?_
  unfold a_elem_each
  have kl := m_slices_Clone s (by omega)
  have ks := p_shape_Size s
  have hz := sizeS_nn s
  refine go trivial (aa kl ks) ?_
  refine T_weak (Weak.nilC 6 100 1 1 rfl rfl rfl rfl) ?_
  refine T_for (sizeS s).toNat (fun i acc => { env := [(1, .one (.p (.fn f [] caps))), (4, .one (.ptr 4 0 2 0)), (6, .one (.ptr 6 0 2 0)), (14, .one (.p (.int .i64 (sizeS s)))), (15, .one (.p (.int .i64 i)))], σ := [(4, .cells true [.nils, .nils]), (6, .cells true [.msl 5 0 1 s.length none, .msl 100 0 1 i none]), (5, .arr true 1 (rI s)), (100, .arr true 1 (rI acc))] })
    (fun i acc => acc.length = i ∧ coll h ((sizeS s).toNat - i) i acc = coll h (sizeS s).toNat 0 []) [] ⟨rfl, rfl⟩ ?_ fun i acc hi hinv => ?_
  · refine Weak.sub fun q hq => ?_
    simp only [List.mem_cons, List.not_mem_nil, or_false] at hq
    rcases hq with rfl | rfl | rfl | rfl <;> rfl
  obtain ⟨hal, hcol⟩ := hinv
  by_cases hlt : i < (sizeS s).toNat
  · have c1 : (i : Int) < sizeS s := by omega
    have w1 : IntKind.i64.wrap ((i : Int) + 1) = ((i + 1 : Nat) : Int) := by rw [wrap_in (by omega) (by omega)]; rfl
    have kf := hf i hlt
    rw [show (sizeS s).toNat - i = ((sizeS s).toNat - (i + 1)) + 1 from by omega] at hcol
    simp only [coll] at hcol
    generalize h i = v at *
    by_cases e : v.2 = 0
    · rw [if_pos e] at hcol
      have e' : (v.2 != 0) = false := by simp [e]
      have c4 : (i + 1) * 8 ≤ 2 ^ 40 := by omega
      have c5 : i + 1 ≤ 2 ^ 40 := by omega
      refine go (aa c1 <| aa w1 <| aa @e' <| aa hal <| aa c4 c5) kf ?_
      refine rnd_next hlt (acc ++ [v.1]) ⟨by simp [hal], hcol⟩ (Weak.sub fun q hq => ?_)
      simp only [List.mem_cons, List.not_mem_nil, or_false] at hq
      rcases hq with rfl | rfl | rfl | rfl
      · rfl
      · rfl
      · rfl
      · simp [lo, rI]
    · rw [if_neg e] at hcol
      have e' : (v.2 != 0) = true := by simp [e]
      have hE : eachF s h = bad v.2 := by unfold eachF; rw [← hcol, if_neg e]
      refine go (aa c1 <| aa w1 @e') kf ?_
      exact ends_ret rfl rfl rfl (by rw [hE]; rfl)
  · have c1 : ¬ (i : Int) < sizeS s := by omega
    have hie : i = (sizeS s).toNat := by omega
    rw [hie, Nat.sub_self] at hcol
    simp only [coll] at hcol
    have hE : eachF s h = ((s, acc), 0) := by unfold eachF; rw [← hcol, if_pos rfl]
    refine go c1 trivial ?_
    exact ends_twoM (t1 := 5) (t2 := 100) (by decide) rfl rfl rfl (by simp) (by simp [hal]) (.inr ⟨_, rfl, rfl⟩) (by rw [hE]; rfl)
theorem p_elem_Two_1 {f : FuncId} {W : Int → Int → Int × Int} {k1 : PV} {s d t e : List Int} {p : Nat} {a b : Int} (ha : d[p]? = some a) (hb : e[p]? = some b) (hW : PureC Tryz.prog f [dN a, dN b] (dNE (W a b))) :
    PureC Tryz.prog fi_elem_Two_1 [dN p, .one (.box [k1, .fn f [] []]), .one (.box [eI s, eI d]), .one (.box [eI t, eI e])] (dNE (W a b)) := by
  refine pure_elem_Two_1 (by simp) fun G hP hn => ?_
  unfold a_elem_Two_1
  have hl := (List.getElem?_eq_some_iff.1 ha).1
  have hl2 := (List.getElem?_eq_some_iff.1 hb).1
  refine go (aa ha <| aa hb <| aa hl hl2) hW ?_
  exact ends_ret rfl rfl rfl rfl
theorem p_elem_One_1 {f : FuncId} {W : Int → Int × Int} {k2 : PV} {s d : List Int} {p : Nat} {a : Int} (ha : d[p]? = some a) (hW : PureC Tryz.prog f [dN a] (dNE (W a))) :
    PureC Tryz.prog fi_elem_One_1 [dN p, .one (.box [.fn f [] [], k2]), .one (.box [eI s, eI d])] (dNE (W a)) := by
  refine pure_elem_One_1 (by simp) fun G hP hn => ?_
  unfold a_elem_One_1
  have hl := (List.getElem?_eq_some_iff.1 ha).1
  refine go (aa ha hl) hW ?_
  exact ends_ret rfl rfl rfl rfl
end Go.AM

namespace Go.AM
open Go Go.Proofs
set_option maxRecDepth 100000
set_option maxHeartbeats 4000000

def sideS (s : List Int) (i : Nat) : Int := (s.reverse[i]?).getD 1
theorem sideS_ge {s : List Int} {i : Nat} (h : s.length ≤ i) : sideS s i = 1 := by unfold sideS; rw [List.getElem?_eq_none (by simpa using h)]; rfl
theorem sideS_lt {s : List Int} {i : Nat} (h : i < s.length) : s[s.length - 1 - i]? = some (sideS s i) := by
  unfold sideS
  rw [List.getElem?_reverse h, List.getElem?_eq_getElem (by omega)]; rfl
theorem p_shape_side (s : List Int) (i : Nat) (hs : s.length ≤ 64) (hi : i ≤ 64) : PureC Tryz.prog fi_shape_side [dI s, dN i] (dN (sideS s i)) := by
  refine pure_shape_side (by simp) fun G hP hn => ?_
  unfold a_shape_side
  by_cases h : s.length ≤ i
  · have c1 : (i : Int) ≥ s.length := by omega
    refine go c1 trivial ?_
    exact ends_ret rfl rfl rfl (by rw [sideS_ge h]; rfl)
  · have c1 : ¬ (i : Int) ≥ s.length := by omega
    have hx := sideS_lt (s := s) (i := i) (by omega)
    have w1 : IntKind.i64.wrap ((s.length : Int) - 1) = ((s.length - 1 : Nat) : Int) := by rw [wrap_in (by omega) (by omega)]; omega
    have w2 : IntKind.i64.wrap (((s.length - 1 : Nat) : Int) - (i : Int)) = ((s.length - 1 - i : Nat) : Int) := by rw [wrap_in (by omega) (by omega)]; omega
    have hlt : s.length - 1 - i < s.length := by omega
    refine go (aa c1 <| aa w1 <| aa w2 <| aa hx hlt) trivial ?_
    exact ends_ret rfl rfl rfl rfl
def clash (x y : Int) : Bool := x != y && (x != 1 && y != 1)
def maxS (a b : List Int) (i : Nat) : Int := max (sideS a i) (sideS b i)
def joinSh (a b : List Int) (k : Nat) : List Int := ((List.range k).map (maxS a b)).reverse
def joinOk (a b : List Int) : Bool := checkS a && (checkS b && ((List.range (max a.length b.length)).all (fun i => !clash (sideS a i) (sideS b i)) && checkS (joinSh a b (max a.length b.length))))
def joinSF (a b : List Int) : List Int × Int := if joinOk a b = true then (joinSh a b (max a.length b.length), 0) else ([], 20)
theorem joinSh_succ (a b : List Int) (k : Nat) : joinSh a b (k + 1) = maxS a b k :: joinSh a b k := by
  unfold joinSh; rw [List.range_succ, List.map_append, List.reverse_append]; rfl
theorem joinSh_len (a b : List Int) (k : Nat) : (joinSh a b k).length = k := by simp [joinSh]
theorem p_shape_Join (a b : List Int) : PureC Tryz.prog fi_shape_Join [dI a, dI b] (.tup [dI (joinSF a b).1, dN (joinSF a b).2]) := by
  refine pure_shape_Join (by simp) fun G hP hn => ?_
  unfold a_shape_Join
  cases h1 : checkS a
  · have hf : joinSF a b = ([], 20) := by unfold joinSF joinOk; rw [h1]; rfl
    have k1 := p_shape_Check a
    rw [h1] at k1
    refine go trivial k1 ?_
    exact ends_ret rfl rfl rfl (by rw [hf]; rfl)
  cases h2 : checkS b
  · have hf : joinSF a b = ([], 20) := by unfold joinSF joinOk; rw [h1, h2]; rfl
    have k1 := p_shape_Check a
    have k2 := p_shape_Check b
    rw [h1] at k1
    rw [h2] at k2
    refine go trivial (aa k1 k2) ?_
    exact ends_ret rfl rfl rfl (by rw [hf]; rfl)
  have k1 := p_shape_Check a
  have k2 := p_shape_Check b
  rw [h1] at k1
  rw [h2] at k2
  have la := check_len h1
  have lb := check_len h2
  have hM : MaxN = 140737488355328 := rfl
  have m1 : max (a.length : Int) (b.length : Int) = ((max a.length b.length : Nat) : Int) := by omega
  have hmax : max a.length b.length ≤ 3 := by omega
  have hla : a.length ≤ max a.length b.length := by omega
  have hlb : b.length ≤ max a.length b.length := by omega
  have hf : joinSF a b = if ((List.range (max a.length b.length)).all (fun i => !clash (sideS a i) (sideS b i)) && checkS (joinSh a b (max a.length b.length))) = true then (joinSh a b (max a.length b.length), 0) else ([], 20) := by
    unfold joinSF joinOk; rw [h1, h2]; rfl
  generalize max a.length b.length = k at *
  have q1 : (k : Int) * 8 ≤ MaxN := by omega
  have q2 : (k : Int) ≤ MaxN := by omega
  refine go (aa m1 <| aa q1 q2) (aa k1 k2) ?_
  refine T_for k (fun i (_ : Unit) => { env := [(0, .one (.p (eI a))), (1, .one (.p (eI b))), (6, .one (.msl 23 0 1 k (some k))), (25, .one (.p (.int .i64 k))), (26, .one (.p (.int .i64 i)))], σ := [(23, .arr true 1 (rI (List.replicate (k - i) 0 ++ joinSh a b i)))] })
    (fun i _ => ∀ j, j < i → clash (sideS a j) (sideS b j) = false) () (fun j hj => by omega) ?_ fun i _ hi hno => ?_
  · refine Weak.sub fun q hq => ?_
    simp only [List.mem_cons, List.not_mem_nil, or_false] at hq
    rcases hq with rfl
    simp [lo, joinSh, rI]
  by_cases hlt : i < k
  · have c1 : (i : Int) < (k : Int) := by omega
    have w0 : IntKind.i64.wrap ((i : Int) + 1) = ((i + 1 : Nat) : Int) := by rw [wrap_in (by omega) (by omega)]; rfl
    have w1 : IntKind.i64.wrap ((k : Int) - 1) = ((k - 1 : Nat) : Int) := by rw [wrap_in (by omega) (by omega)]; omega
    have w2 : IntKind.i64.wrap (((k - 1 : Nat) : Int) - (i : Int)) = ((k - 1 - i : Nat) : Int) := by rw [wrap_in (by omega) (by omega)]; omega
    have kx := p_shape_side a i (by omega) (by omega)
    have ky := p_shape_side b i (by omega) (by omega)
    have c2 : k - 1 - i < k := by omega
    have hrep : List.replicate (k - i) (0 : Int) = List.replicate (k - 1 - i + 1) 0 := by congr 1; omega
    have hz : (List.replicate (k - 1 - i + 1) (0 : Int) ++ joinSh a b i)[k - 1 - i]? = some 0 := by
      rw [List.getElem?_append_left (by simp)]; simp
    have hst := rep_set (k - 1 - i) (maxS a b i) (joinSh a b i)
    have hlen : (List.replicate (k - 1 - i + 1) (0 : Int) ++ joinSh a b i).length = k := by simp [joinSh_len]; omega
    have hmx : maxS a b i = max (sideS a i) (sideS b i) := rfl
    rw [hrep]
    generalize List.replicate (k - 1 - i + 1) (0 : Int) ++ joinSh a b i = R at hz hst hlen
    rw [hmx] at hst
    have hx : sideS a i = sideS a i := rfl
    have hy : sideS b i = sideS b i := rfl
    generalize hx' : sideS a i = x at kx hst hx
    generalize hy' : sideS b i = y at ky hst hy
    have nxt : clash x y = false → ∀ j, j < i + 1 → clash (sideS a j) (sideS b j) = false := fun hc j hj => by
      rcases Nat.lt_succ_iff_lt_or_eq.1 hj with hj | rfl
      · exact hno j hj
      · rw [hx', hy']; exact hc
    have fin : ∀ q ∈ [((23 : Nat), AO.arr true 1 (rI (List.replicate (k - (i + 1)) 0 ++ joinSh a b (i + 1))))], lo [(23, AO.arr true 1 (rI (R.set (k - 1 - i) (max x y))))] q.1 = q.2 := fun q hq => by
      simp only [List.mem_cons, List.not_mem_nil, or_false] at hq
      rcases hq with rfl
      rw [hst, joinSh_succ, hmx, hx', hy', show k - (i + 1) = k - 1 - i from by omega]
      rfl
    cases e1 : (x != y)
    · refine go (aa c1 <| aa w0 <| aa w1 <| aa w2 <| aa e1 <| aa hz <| aa hlen <| aa c2 @rI_set) (aa kx ky) ?_
      exact rnd_next hlt () (nxt (by simp [clash, e1])) (Weak.sub fin)
    cases e2 : (x != 1)
    · refine go (aa c1 <| aa w0 <| aa w1 <| aa w2 <| aa e1 <| aa e2 <| aa hz <| aa hlen <| aa c2 @rI_set) (aa kx ky) ?_
      exact rnd_next hlt () (nxt (by simp [clash, e1, e2])) (Weak.sub fin)
    cases e3 : (y != 1)
    · refine go (aa c1 <| aa w0 <| aa w1 <| aa w2 <| aa e1 <| aa e2 <| aa e3 <| aa hz <| aa hlen <| aa c2 @rI_set) (aa kx ky) ?_
      exact rnd_next hlt () (nxt (by simp [clash, e1, e2, e3])) (Weak.sub fin)
    · refine go (aa c1 <| aa w0 <| aa w1 <| aa w2 <| aa e1 <| aa e2 <| aa e3 <| aa hz <| aa hlen <| aa c2 @rI_set) (aa kx ky) ?_
      have hcl : ((List.range k).all fun i => !clash (sideS a i) (sideS b i)) = false := by
        rw [List.all_eq_false]
        exact ⟨i, List.mem_range.2 hlt, by rw [hx', hy']; simp [clash, e1, e2, e3]⟩
      exact ends_ret rfl rfl rfl (by rw [hf, hcl]; rfl)
  · have hik : i = k := by omega
    have c1 : ¬ (i : Int) < (k : Int) := by omega
    have hal : ((List.range k).all fun i => !clash (sideS a i) (sideS b i)) = true := by
      rw [List.all_eq_true]
      intro j hj
      rw [hno j (by have := List.mem_range.1 hj; omega)]; rfl
    rw [hal] at hf
    subst hik
    have e0 : List.replicate (i - i) (0 : Int) ++ joinSh a b i = joinSh a b i := by simp
    rw [e0]
    have kc := p_shape_Check (joinSh a b i)
    have hl2 := joinSh_len a b i
    cases hc : checkS (joinSh a b i)
    · rw [hc] at hf kc
      generalize joinSh a b i = R at *
      subst hl2
      refine T_weak (Weak.freeze (i := 6) rfl (toD_list (n := 5) (rows := rI R) (m := true) rfl (by simp))) ?_
      simp only [if_true]
      refine go c1 kc ?_
      exact ends_ret rfl rfl rfl (by rw [hf]; rfl)
    · rw [hc] at hf kc
      generalize joinSh a b i = R at *
      subst hl2
      refine T_weak (Weak.freeze (i := 6) rfl (toD_list (n := 5) (rows := rI R) (m := true) rfl (by simp))) ?_
      simp only [if_true]
      refine go c1 kc ?_
      exact ends_ret rfl rfl rfl (by rw [hf]; rfl)
end Go.AM

