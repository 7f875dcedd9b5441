import Derived.Test.YtcmbjbmghoopcaaMt6
import Derived.ProofKit
import Derived.HandedShaped
import Derived.ChangeArms
import Derived.DataReads
import Derived.Test.YtcmbjbmghoopcaaRows
set_option linter.unusedVariables false
set_option linter.unusedSimpArgs false
namespace Go.AM
open Go Go.Proofs
set_option maxRecDepth 100000
set_option maxHeartbeats 4000000

theorem p_ref04_One_no {op : Int} (s d : List Int) (ho : op < 20 ∨ 23 < op) : PureC Try.prog fi_fullerref04_One [dN op, dT s d] (dTE (bad 1)) := by
  refine pure_fullerref04_One (by simp) fun G hP hn => ?_
  unfold a_fullerref04_One
  by_cases h1 : op < 20
  · repeat' (first | apply T_then | apply then_ret | apply then_exit | apply then_goto | apply rnd_exit | apply rnd_ret | apply rnd_goto | apply noGo_normal | apply noGo_ret | apply noGo_exit | apply jmp_normal | apply jmp_ret | apply jmp_exit | apply jmp_goto | apply inB_normal | apply inB_ret | apply inB_goto | apply inB_exit | refine inB_exit_ne rfl ?_ | ((first | apply T_srK fw | apply T_regK fw); · ((try simp only [TOps.flat, List.cons_append, List.nil_append]); repeat (first | apply X_g0 | apply X_g | apply S_keep | apply X_skip | apply X_skipN | apply X_q | apply X_st | apply X_n | apply X_s | apply SKs0 | apply SKs2 | apply SKs1 | refine ⟨⟨rfl, rfl⟩, ?_⟩ | refine ⟨⟨rfl, ?_⟩, ?_⟩ | refine ⟨?_, ?_⟩ | (· (try simp only [go_sem, seval, reduceIte, ↓reduceIte, Bool.not_eq_true, reduceCtorEq, beq_false, beq_true, hn, hP, h1]); first | done | rfl)))) | apply T_seq | apply T_block | refine T_scopeJ 0 rfl ?_ | apply T_scope | apply T_goto | apply T_ret | apply T_skip | apply T_exit | apply T_label | refine T_condT rfl ?_ | refine T_condF rfl ?_ | refine T_condD rfl (fun _ => ?_) (fun _ => ?_) | refine T_cond rfl (fun _ => ?_) (fun _ => ?_))
    exact ends_ret rfl rfl rfl rfl
  · have h2 : 23 < op := by omega
    repeat' (first | apply T_then | apply then_ret | apply then_exit | apply then_goto | apply rnd_exit | apply rnd_ret | apply rnd_goto | apply noGo_normal | apply noGo_ret | apply noGo_exit | apply jmp_normal | apply jmp_ret | apply jmp_exit | apply jmp_goto | apply inB_normal | apply inB_ret | apply inB_goto | apply inB_exit | refine inB_exit_ne rfl ?_ | ((first | apply T_srK fw | apply T_regK fw); · ((try simp only [TOps.flat, List.cons_append, List.nil_append]); repeat (first | apply X_g0 | apply X_g | apply S_keep | apply X_skip | apply X_skipN | apply X_q | apply X_st | apply X_n | apply X_s | apply SKs0 | apply SKs2 | apply SKs1 | refine ⟨⟨rfl, rfl⟩, ?_⟩ | refine ⟨⟨rfl, ?_⟩, ?_⟩ | refine ⟨?_, ?_⟩ | (· (try simp only [go_sem, seval, reduceIte, ↓reduceIte, Bool.not_eq_true, reduceCtorEq, beq_false, beq_true, hn, hP, h1, h2]); first | done | rfl)))) | apply T_seq | apply T_block | refine T_scopeJ 0 rfl ?_ | apply T_scope | apply T_goto | apply T_ret | apply T_skip | apply T_exit | apply T_label | refine T_condT rfl ?_ | refine T_condF rfl ?_ | refine T_condD rfl (fun _ => ?_) (fun _ => ?_) | refine T_cond rfl (fun _ => ?_) (fun _ => ?_))
    exact ends_ret rfl rfl rfl rfl
theorem p_ref04_One {op : Int} {W : Int → Int × Int} (ho : 20 ≤ op ∧ op ≤ 23) (s d : List Int) (hd : I64s d) (hW : ∀ a, I64 a → PureC Try.prog fi_fullerref04_Number [dN op, dN a] (dNE (W a))) :
    PureC Try.prog fi_fullerref04_One [dN op, dT s d] (dTE (oneF W s d)) := by
  refine pure_fullerref04_One (by simp) fun G hP hn => ?_
  unfold a_fullerref04_One
  have o1 : ¬ op < 20 := by omega
  have o2 : ¬ 23 < op := by omega
  have kc := p_ref03_Check s d
  cases h1 : checkT s d
  · have hf : oneF W s d = bad 30 := by unfold oneF; rw [if_neg (by simp [h1])]
    rw [h1] at kc
    repeat' (first | apply T_then | apply then_ret | apply then_exit | apply then_goto | apply rnd_exit | apply rnd_ret | apply rnd_goto | apply noGo_normal | apply noGo_ret | apply noGo_exit | apply jmp_normal | apply jmp_ret | apply jmp_exit | apply jmp_goto | apply inB_normal | apply inB_ret | apply inB_goto | apply inB_exit | refine inB_exit_ne rfl ?_ | ((first | apply T_srK fw | apply T_regK fw); · ((try simp only [TOps.flat, List.cons_append, List.nil_append]); repeat (first | apply X_g0 | apply X_g | apply S_keep | apply X_skip | apply X_skipN | refine X_call ?_ ⟨_, _, _, _, _, _, rfl, rfl, rfl, by rw [hP]; exact kc⟩ ?_ | apply X_q | apply X_st | apply X_n | apply X_s | apply SKs0 | apply SKs2 | apply SKs1 | refine ⟨⟨rfl, rfl⟩, ?_⟩ | refine ⟨⟨rfl, ?_⟩, ?_⟩ | refine ⟨?_, ?_⟩ | (· (try simp only [go_sem, seval, reduceIte, ↓reduceIte, Bool.not_eq_true, reduceCtorEq, beq_false, beq_true, hn, hP, o1, o2]); first | done | rfl)))) | apply T_seq | apply T_block | refine T_scopeJ 0 rfl ?_ | apply T_scope | apply T_goto | apply T_ret | apply T_skip | apply T_exit | apply T_label | refine T_condT rfl ?_ | refine T_condF rfl ?_ | refine T_condD rfl (fun _ => ?_) (fun _ => ?_) | refine T_cond rfl (fun _ => ?_) (fun _ => ?_))
    exact ends_ret rfl rfl rfl (by rw [hf]; rfl)
  have hsd := checkT_iff.1 h1
  have hsz := sizeS_nn s
  have hf : oneF W s d = eachF s (fun p => W (gt d p)) := by unfold oneF; rw [if_pos h1]
  have hdl : (sizeS s).toNat = d.length := by have := sizeS_ok hsd.1; have := hsd.2; omega
  rw [h1] at kc
  repeat' (first | apply T_then | apply then_ret | apply then_exit | apply then_goto | apply rnd_exit | apply rnd_ret | apply rnd_goto | apply noGo_normal | apply noGo_ret | apply noGo_exit | apply jmp_normal | apply jmp_ret | apply jmp_exit | apply jmp_goto | apply inB_normal | apply inB_ret | apply inB_goto | apply inB_exit | refine inB_exit_ne rfl ?_ | ((first | apply T_srK fw | apply T_regK fw); · ((try simp only [TOps.flat, List.cons_append, List.nil_append]); repeat (first | apply X_g0 | apply X_g | apply S_keep | apply X_skip | apply X_skipN | refine X_call ?_ ⟨_, _, _, _, _, _, rfl, rfl, rfl, by rw [hP]; exact kc⟩ ?_ | apply X_q | apply X_st | apply X_n | apply X_s | apply SKs0 | apply SKs2 | apply SKs1 | refine ⟨⟨rfl, rfl⟩, ?_⟩ | refine ⟨⟨rfl, ?_⟩, ?_⟩ | refine ⟨?_, ?_⟩ | (· (try simp only [go_sem, seval, reduceIte, ↓reduceIte, Bool.not_eq_true, reduceCtorEq, beq_false, beq_true, hn, hP, o1, o2]); first | done | rfl)))) | apply T_seq | apply T_block | refine T_scopeJ 0 rfl ?_ | apply T_scope | apply T_goto | apply T_ret | apply T_skip | apply T_exit | apply T_label | refine T_condT rfl ?_ | refine T_condF rfl ?_ | refine T_condD rfl (fun _ => ?_) (fun _ => ?_) | refine T_cond rfl (fun _ => ?_) (fun _ => ?_))
  refine T_nils 7 100 1 rfl rfl rfl ?_
  refine T_for d.length (fun i acc => { env := [(0, .one (.p (.int .i64 op))), (3, .one (.ptr 3 0 2 0)), (4, .one (.ptr 4 0 2 0)), (7, .one (.msl 100 0 1 i none)), (8, .one (.p (.int .i64 i)))], σ := [(3, .cells true [.p (eI s), .p (eI d)]), (4, .cells true [.nils, .nils]), (100, .arr true 1 (rI acc))] })
    (fun i acc => acc.length = i ∧ coll (fun p => W (gt d p)) (d.length - i) i acc = coll (fun p => W (gt d p)) d.length 0 []) [] ⟨rfl, rfl⟩ ?_ fun i acc hi hinv => ?_
  · refine (Weak.pick [0, 3, 4, 7, 8]).trans (Weak.sub fun q hq => ?_)
    simp only [List.mem_cons, List.not_mem_nil, or_false] at hq
    rcases hq with rfl | rfl | rfl <;> rfl
  obtain ⟨hal, hcol⟩ := hinv
  by_cases hlt : i < d.length
  · have c1 : (i : Int) < (d.length : Int) := by omega
    have w1 : IntKind.i64.wrap ((i : Int) + 1) = ((i + 1 : Nat) : Int) := by rw [wrap_in (by omega) (by omega)]; rfl
    have kf := hW (gt d i) (gt_range hd i)
    have hx : d[i]? = some (gt d i) := gt_some hlt
    rw [show d.length - i = (d.length - (i + 1)) + 1 from by omega] at hcol
    simp only [coll] at hcol
    generalize gt d i = a at *
    generalize W a = v at *
    by_cases e : v.2 = 0
    · rw [if_pos e] at hcol
      have e' : (v.2 != 0) = false := by simp [e]
      have c4 : (i + 1) * 8 ≤ 2 ^ 40 := by omega
      have c5 : i + 1 ≤ 2 ^ 40 := by omega
      repeat' (first | apply T_then | apply then_ret | apply then_exit | apply then_goto | apply rnd_exit | apply rnd_ret | apply rnd_goto | apply noGo_normal | apply noGo_ret | apply noGo_exit | apply jmp_normal | apply jmp_ret | apply jmp_exit | apply jmp_goto | apply inB_normal | apply inB_ret | apply inB_goto | apply inB_exit | refine inB_exit_ne rfl ?_ | ((first | apply T_srK fw | apply T_regK fw); · ((try simp only [TOps.flat, List.cons_append, List.nil_append]); repeat (first | apply X_g0 | apply X_g | apply S_keep | apply X_skip | apply X_skipN | refine X_call ?_ ⟨_, _, _, _, _, _, rfl, rfl, rfl, by rw [hP]; exact kf⟩ ?_ | apply X_q | apply X_st | apply X_n | apply X_s | apply SKs0 | apply SKs2 | apply SKs1 | refine ⟨⟨rfl, rfl⟩, ?_⟩ | refine ⟨⟨rfl, ?_⟩, ?_⟩ | refine ⟨?_, ?_⟩ | (· (try simp only [go_sem, seval, reduceIte, ↓reduceIte, Bool.not_eq_true, reduceCtorEq, beq_false, beq_true, hn, hP, c1, w1, hx, hlt, e', hal, c4, c5]); first | done | rfl)))) | apply T_seq | apply T_block | refine T_scopeJ 0 rfl ?_ | apply T_scope | apply T_goto | apply T_ret | apply T_skip | apply T_exit | apply T_label | refine T_condT rfl ?_ | refine T_condF rfl ?_ | refine T_condD rfl (fun _ => ?_) (fun _ => ?_) | refine T_cond rfl (fun _ => ?_) (fun _ => ?_))
      refine rnd_next hlt (acc ++ [v.1]) ⟨by simp [hal], hcol⟩ (Weak.sub fun q hq => ?_)
      simp only [List.mem_cons, List.not_mem_nil, or_false] at hq
      rcases hq with rfl | rfl | rfl
      · rfl
      · rfl
      · simp [lo, rI]
    · rw [if_neg e] at hcol
      have e' : (v.2 != 0) = true := by simp [e]
      have hE : oneF W s d = bad v.2 := by rw [hf]; unfold eachF; rw [hdl, ← hcol, if_neg e]
      repeat' (first | apply T_then | apply then_ret | apply then_exit | apply then_goto | apply rnd_exit | apply rnd_ret | apply rnd_goto | apply noGo_normal | apply noGo_ret | apply noGo_exit | apply jmp_normal | apply jmp_ret | apply jmp_exit | apply jmp_goto | apply inB_normal | apply inB_ret | apply inB_goto | apply inB_exit | refine inB_exit_ne rfl ?_ | ((first | apply T_srK fw | apply T_regK fw); · ((try simp only [TOps.flat, List.cons_append, List.nil_append]); repeat (first | apply X_g0 | apply X_g | apply S_keep | apply X_skip | apply X_skipN | refine X_call ?_ ⟨_, _, _, _, _, _, rfl, rfl, rfl, by rw [hP]; exact kf⟩ ?_ | apply X_q | apply X_st | apply X_n | apply X_s | apply SKs0 | apply SKs2 | apply SKs1 | refine ⟨⟨rfl, rfl⟩, ?_⟩ | refine ⟨⟨rfl, ?_⟩, ?_⟩ | refine ⟨?_, ?_⟩ | (· (try simp only [go_sem, seval, reduceIte, ↓reduceIte, Bool.not_eq_true, reduceCtorEq, beq_false, beq_true, hn, hP, c1, w1, hx, hlt, e']); first | done | rfl)))) | apply T_seq | apply T_block | refine T_scopeJ 0 rfl ?_ | apply T_scope | apply T_goto | apply T_ret | apply T_skip | apply T_exit | apply T_label | refine T_condT rfl ?_ | refine T_condF rfl ?_ | refine T_condD rfl (fun _ => ?_) (fun _ => ?_) | refine T_cond rfl (fun _ => ?_) (fun _ => ?_))
      exact ends_ret rfl rfl rfl (by rw [hE]; rfl)
  · have hie : i = d.length := by omega
    subst hie
    rw [Nat.sub_self] at hcol
    simp only [coll] at hcol
    have hE : oneF W s d = ((s, acc), 0) := by rw [hf]; unfold eachF; rw [hdl, ← hcol, if_pos rfl]
    repeat' (first | apply T_then | apply then_ret | apply then_exit | apply then_goto | apply rnd_exit | apply rnd_ret | apply rnd_goto | apply noGo_normal | apply noGo_ret | apply noGo_exit | apply jmp_normal | apply jmp_ret | apply jmp_exit | apply jmp_goto | apply inB_normal | apply inB_ret | apply inB_goto | apply inB_exit | refine inB_exit_ne rfl ?_ | ((first | apply T_srK fw | apply T_regK fw); · ((try simp only [TOps.flat, List.cons_append, List.nil_append]); repeat (first | apply X_g0 | apply X_g | apply S_keep | apply X_skip | apply X_skipN | apply X_q | apply X_st | apply X_n | apply X_s | apply SKs0 | apply SKs2 | apply SKs1 | refine ⟨⟨rfl, rfl⟩, ?_⟩ | refine ⟨⟨rfl, ?_⟩, ?_⟩ | refine ⟨?_, ?_⟩ | (· (try simp only [go_sem, seval, reduceIte, ↓reduceIte, Bool.not_eq_true, reduceCtorEq, beq_false, beq_true, hn, hP, Int.lt_irrefl]); first | done | rfl)))) | apply T_seq | apply T_block | refine T_scopeJ 0 rfl ?_ | apply T_scope | apply T_goto | apply T_ret | apply T_skip | apply T_exit | apply T_label | refine T_condT rfl ?_ | refine T_condF rfl ?_ | refine T_condD rfl (fun _ => ?_) (fun _ => ?_) | refine T_cond rfl (fun _ => ?_) (fun _ => ?_))
    rw [hE]
    exact ends_agg2 rfl rfl (hal.symm.trans (List.length_map _).symm)
theorem p_ref04_Two_no {op : Int} (s d t e : List Int) (ho : op < 10 ∨ 13 < op) : PureC Try.prog fi_fullerref04_Two [dN op, dT s d, dT t e] (dTE (bad 1)) := by
  refine pure_fullerref04_Two (by simp) fun G hP hn => ?_
  unfold a_fullerref04_Two
  by_cases h1 : op < 10
  · repeat' (first | apply T_then | apply then_ret | apply then_exit | apply then_goto | apply rnd_exit | apply rnd_ret | apply rnd_goto | apply noGo_normal | apply noGo_ret | apply noGo_exit | apply jmp_normal | apply jmp_ret | apply jmp_exit | apply jmp_goto | apply inB_normal | apply inB_ret | apply inB_goto | apply inB_exit | refine inB_exit_ne rfl ?_ | ((first | apply T_srK fw | apply T_regK fw); · ((try simp only [TOps.flat, List.cons_append, List.nil_append]); repeat (first | apply X_g0 | apply X_g | apply S_keep | apply X_skip | apply X_skipN | apply X_q | apply X_st | apply X_n | apply X_s | apply SKs0 | apply SKs2 | apply SKs1 | refine ⟨⟨rfl, rfl⟩, ?_⟩ | refine ⟨⟨rfl, ?_⟩, ?_⟩ | refine ⟨?_, ?_⟩ | (· (try simp only [go_sem, seval, reduceIte, ↓reduceIte, Bool.not_eq_true, reduceCtorEq, beq_false, beq_true, hn, hP, h1]); first | done | rfl)))) | apply T_seq | apply T_block | refine T_scopeJ 0 rfl ?_ | apply T_scope | apply T_goto | apply T_ret | apply T_skip | apply T_exit | apply T_label | refine T_condT rfl ?_ | refine T_condF rfl ?_ | refine T_condD rfl (fun _ => ?_) (fun _ => ?_) | refine T_cond rfl (fun _ => ?_) (fun _ => ?_))
    exact ends_ret rfl rfl rfl rfl
  · have h2 : 13 < op := by omega
    repeat' (first | apply T_then | apply then_ret | apply then_exit | apply then_goto | apply rnd_exit | apply rnd_ret | apply rnd_goto | apply noGo_normal | apply noGo_ret | apply noGo_exit | apply jmp_normal | apply jmp_ret | apply jmp_exit | apply jmp_goto | apply inB_normal | apply inB_ret | apply inB_goto | apply inB_exit | refine inB_exit_ne rfl ?_ | ((first | apply T_srK fw | apply T_regK fw); · ((try simp only [TOps.flat, List.cons_append, List.nil_append]); repeat (first | apply X_g0 | apply X_g | apply S_keep | apply X_skip | apply X_skipN | apply X_q | apply X_st | apply X_n | apply X_s | apply SKs0 | apply SKs2 | apply SKs1 | refine ⟨⟨rfl, rfl⟩, ?_⟩ | refine ⟨⟨rfl, ?_⟩, ?_⟩ | refine ⟨?_, ?_⟩ | (· (try simp only [go_sem, seval, reduceIte, ↓reduceIte, Bool.not_eq_true, reduceCtorEq, beq_false, beq_true, hn, hP, h1, h2]); first | done | rfl)))) | apply T_seq | apply T_block | refine T_scopeJ 0 rfl ?_ | apply T_scope | apply T_goto | apply T_ret | apply T_skip | apply T_exit | apply T_label | refine T_condT rfl ?_ | refine T_condF rfl ?_ | refine T_condD rfl (fun _ => ?_) (fun _ => ?_) | refine T_cond rfl (fun _ => ?_) (fun _ => ?_))
    exact ends_ret rfl rfl rfl rfl
theorem p_ref04_Two {op : Int} {W : Int → Int → Int × Int} (ho : 10 ≤ op ∧ op ≤ 13) (s d t e : List Int) (hd : I64s d) (he : I64s e) (hW : ∀ a b, I64 a → I64 b → PureC Try.prog fi_fullerref04_Numbers [dN op, dN a, dN b] (dNE (W a b))) :
    PureC Try.prog fi_fullerref04_Two [dN op, dT s d, dT t e] (dTE (twoF W s d t e)) := by
  refine pure_fullerref04_Two (by simp) fun G hP hn => ?_
  unfold a_fullerref04_Two
  have o1 : ¬ op < 10 := by omega
  have o2 : ¬ 13 < op := by omega
  have kc1 := p_ref03_Check s d
  have kc2 := p_ref03_Check t e
  cases h1 : checkT s d
  · have hf : twoF W s d t e = bad 30 := by unfold twoF; rw [if_neg (by simp [h1])]
    rw [h1] at kc1
    repeat' (first | apply T_then | apply then_ret | apply then_exit | apply then_goto | apply rnd_exit | apply rnd_ret | apply rnd_goto | apply noGo_normal | apply noGo_ret | apply noGo_exit | apply jmp_normal | apply jmp_ret | apply jmp_exit | apply jmp_goto | apply inB_normal | apply inB_ret | apply inB_goto | apply inB_exit | refine inB_exit_ne rfl ?_ | ((first | apply T_srK fw | apply T_regK fw); · ((try simp only [TOps.flat, List.cons_append, List.nil_append]); repeat (first | apply X_g0 | apply X_g | apply S_keep | apply X_skip | apply X_skipN | refine X_call ?_ ⟨_, _, _, _, _, _, rfl, rfl, rfl, by rw [hP]; exact kc1⟩ ?_ | refine X_call ?_ ⟨_, _, _, _, _, _, rfl, rfl, rfl, by rw [hP]; exact kc2⟩ ?_ | apply X_q | apply X_st | apply X_n | apply X_s | apply SKs0 | apply SKs2 | apply SKs1 | refine ⟨⟨rfl, rfl⟩, ?_⟩ | refine ⟨⟨rfl, ?_⟩, ?_⟩ | refine ⟨?_, ?_⟩ | (· (try simp only [go_sem, seval, reduceIte, ↓reduceIte, Bool.not_eq_true, reduceCtorEq, beq_false, beq_true, hn, hP, o1, o2]); first | done | rfl)))) | apply T_seq | apply T_block | refine T_scopeJ 0 rfl ?_ | apply T_scope | apply T_goto | apply T_ret | apply T_skip | apply T_exit | apply T_label | refine T_condT rfl ?_ | refine T_condF rfl ?_ | refine T_condD rfl (fun _ => ?_) (fun _ => ?_) | refine T_cond rfl (fun _ => ?_) (fun _ => ?_))
    exact ends_ret rfl rfl rfl (by rw [hf]; rfl)
  cases h2 : checkT t e
  · have hf : twoF W s d t e = bad 30 := by unfold twoF; rw [if_neg (by simp [h2])]
    rw [h1] at kc1
    rw [h2] at kc2
    repeat' (first | apply T_then | apply then_ret | apply then_exit | apply then_goto | apply rnd_exit | apply rnd_ret | apply rnd_goto | apply noGo_normal | apply noGo_ret | apply noGo_exit | apply jmp_normal | apply jmp_ret | apply jmp_exit | apply jmp_goto | apply inB_normal | apply inB_ret | apply inB_goto | apply inB_exit | refine inB_exit_ne rfl ?_ | ((first | apply T_srK fw | apply T_regK fw); · ((try simp only [TOps.flat, List.cons_append, List.nil_append]); repeat (first | apply X_g0 | apply X_g | apply S_keep | apply X_skip | apply X_skipN | refine X_call ?_ ⟨_, _, _, _, _, _, rfl, rfl, rfl, by rw [hP]; exact kc1⟩ ?_ | refine X_call ?_ ⟨_, _, _, _, _, _, rfl, rfl, rfl, by rw [hP]; exact kc2⟩ ?_ | apply X_q | apply X_st | apply X_n | apply X_s | apply SKs0 | apply SKs2 | apply SKs1 | refine ⟨⟨rfl, rfl⟩, ?_⟩ | refine ⟨⟨rfl, ?_⟩, ?_⟩ | refine ⟨?_, ?_⟩ | (· (try simp only [go_sem, seval, reduceIte, ↓reduceIte, Bool.not_eq_true, reduceCtorEq, beq_false, beq_true, hn, hP, o1, o2]); first | done | rfl)))) | apply T_seq | apply T_block | refine T_scopeJ 0 rfl ?_ | apply T_scope | apply T_goto | apply T_ret | apply T_skip | apply T_exit | apply T_label | refine T_condT rfl ?_ | refine T_condF rfl ?_ | refine T_condD rfl (fun _ => ?_) (fun _ => ?_) | refine T_cond rfl (fun _ => ?_) (fun _ => ?_))
    exact ends_ret rfl rfl rfl (by rw [hf]; rfl)
  rw [h1] at kc1
  rw [h2] at kc2
  have kj := p_ref02_Join s t
  rcases join_or s t with ⟨r, hj, hr⟩ | ⟨_, hr⟩
  rotate_left
  · have hf : twoF W s d t e = bad 20 := by unfold twoF; rw [if_pos ⟨h1, h2⟩, hr, if_neg (by simp)]
    rw [hr] at kj
    repeat' (first | apply T_then | apply then_ret | apply then_exit | apply then_goto | apply rnd_exit | apply rnd_ret | apply rnd_goto | apply noGo_normal | apply noGo_ret | apply noGo_exit | apply jmp_normal | apply jmp_ret | apply jmp_exit | apply jmp_goto | apply inB_normal | apply inB_ret | apply inB_goto | apply inB_exit | refine inB_exit_ne rfl ?_ | ((first | apply T_srK fw | apply T_regK fw); · ((try simp only [TOps.flat, List.cons_append, List.nil_append]); repeat (first | apply X_g0 | apply X_g | apply S_keep | apply X_skip | apply X_skipN | refine X_call ?_ ⟨_, _, _, _, _, _, rfl, rfl, rfl, by rw [hP]; exact kc1⟩ ?_ | refine X_call ?_ ⟨_, _, _, _, _, _, rfl, rfl, rfl, by rw [hP]; exact kc2⟩ ?_ | refine X_call ?_ ⟨_, _, _, _, _, _, rfl, rfl, rfl, by rw [hP]; exact kj⟩ ?_ | apply X_q | apply X_st | apply X_n | apply X_s | apply SKs0 | apply SKs2 | apply SKs1 | refine ⟨⟨rfl, rfl⟩, ?_⟩ | refine ⟨⟨rfl, ?_⟩, ?_⟩ | refine ⟨?_, ?_⟩ | (· (try simp only [go_sem, seval, reduceIte, ↓reduceIte, Bool.not_eq_true, reduceCtorEq, beq_false, beq_true, hn, hP, o1, o2]); first | done | rfl)))) | apply T_seq | apply T_block | refine T_scopeJ 0 rfl ?_ | apply T_scope | apply T_goto | apply T_ret | apply T_skip | apply T_exit | apply T_label | refine T_condT rfl ?_ | refine T_condF rfl ?_ | refine T_condD rfl (fun _ => ?_) (fun _ => ?_) | refine T_cond rfl (fun _ => ?_) (fun _ => ?_))
    exact ends_ret rfl rfl rfl (by rw [hf]; rfl)
  have hf : twoF W s d t e = eachF r (fun p => W (gt (spreadD s d r) p) (gt (spreadD t e r) p)) := by unfold twoF; rw [if_pos ⟨h1, h2⟩, hr, if_pos rfl]
  rw [hr] at kj
  have kx := p_ref03_Spread s d r
  have ky := p_ref03_Spread t e r
  have hx : spreadF s d r = ((r, spreadD s d r), 0) := by unfold spreadF; rw [if_pos h1, if_pos (fits_of hj.left)]
  have hy : spreadF t e r = ((r, spreadD t e r), 0) := by unfold spreadF; rw [if_pos h2, if_pos (fits_of hj.right)]
  rw [hx] at kx
  rw [hy] at ky
  have lx := spread_len (s := s) (d := d) hj.hr
  have ly := spread_len (s := t) (d := e) hj.hr
  have ix := spread_I64 (s := s) (g := r) hd
  have iy := spread_I64 (s := t) (g := r) he
  have hsr := sizeS_ok hj.hr
  generalize spreadD s d r = xd at *
  generalize spreadD t e r = yd at *
  repeat' (first | apply T_then | apply then_ret | apply then_exit | apply then_goto | apply rnd_exit | apply rnd_ret | apply rnd_goto | apply noGo_normal | apply noGo_ret | apply noGo_exit | apply jmp_normal | apply jmp_ret | apply jmp_exit | apply jmp_goto | apply inB_normal | apply inB_ret | apply inB_goto | apply inB_exit | refine inB_exit_ne rfl ?_ | ((first | apply T_srK fw | apply T_regK fw); · ((try simp only [TOps.flat, List.cons_append, List.nil_append]); repeat (first | apply X_g0 | apply X_g | apply S_keep | apply X_skip | apply X_skipN | refine X_call ?_ ⟨_, _, _, _, _, _, rfl, rfl, rfl, by rw [hP]; exact kc1⟩ ?_ | refine X_call ?_ ⟨_, _, _, _, _, _, rfl, rfl, rfl, by rw [hP]; exact kc2⟩ ?_ | refine X_call ?_ ⟨_, _, _, _, _, _, rfl, rfl, rfl, by rw [hP]; exact kj⟩ ?_ | refine X_call ?_ ⟨_, _, _, _, _, _, rfl, rfl, rfl, by rw [hP]; exact kx⟩ ?_ | refine X_call ?_ ⟨_, _, _, _, _, _, rfl, rfl, rfl, by rw [hP]; exact ky⟩ ?_ | apply X_q | apply X_st | apply X_n | apply X_s | apply SKs0 | apply SKs2 | apply SKs1 | refine ⟨⟨rfl, rfl⟩, ?_⟩ | refine ⟨⟨rfl, ?_⟩, ?_⟩ | refine ⟨?_, ?_⟩ | (· (try simp only [go_sem, seval, reduceIte, ↓reduceIte, Bool.not_eq_true, reduceCtorEq, beq_false, beq_true, hn, hP, o1, o2]); first | done | rfl)))) | apply T_seq | apply T_block | refine T_scopeJ 0 rfl ?_ | apply T_scope | apply T_goto | apply T_ret | apply T_skip | apply T_exit | apply T_label | refine T_condT rfl ?_ | refine T_condF rfl ?_ | refine T_condD rfl (fun _ => ?_) (fun _ => ?_) | refine T_cond rfl (fun _ => ?_) (fun _ => ?_))
  have hz := sizeS_nn r
  have hdl : (sizeS r).toNat = xd.length := by omega
  have hyl : yd.length = xd.length := by omega
  refine T_nils 16 100 1 rfl rfl rfl ?_
  refine T_for xd.length (fun i acc => { env := [(0, .one (.p (.int .i64 op))), (6, .one (.ptr 6 0 2 0)), (10, .one (.p (eI r))), (12, .one (.ptr 12 0 2 0)), (14, .one (.ptr 14 0 2 0)), (16, .one (.msl 100 0 1 i none)), (17, .one (.p (.int .i64 i)))], σ := [(6, .cells true [.nils, .nils]), (12, .cells true [.p (eI r), .p (eI xd)]), (14, .cells true [.p (eI r), .p (eI yd)]), (100, .arr true 1 (rI acc))] })
    (fun i acc => acc.length = i ∧ coll (fun p => W (gt xd p) (gt yd p)) (xd.length - i) i acc = coll (fun p => W (gt xd p) (gt yd p)) xd.length 0 []) [] ⟨rfl, rfl⟩ ?_ fun i acc hi hinv => ?_
  · refine (Weak.pick [0, 6, 10, 12, 14, 16, 17]).trans (Weak.sub fun q hq => ?_)
    simp only [List.mem_cons, List.not_mem_nil, or_false] at hq
    rcases hq with rfl | rfl | rfl | rfl <;> rfl
  obtain ⟨hal, hcol⟩ := hinv
  by_cases hlt : i < xd.length
  · have c1 : (i : Int) < (xd.length : Int) := by omega
    have w1 : IntKind.i64.wrap ((i : Int) + 1) = ((i + 1 : Nat) : Int) := by rw [wrap_in (by omega) (by omega)]; rfl
    have kf := hW (gt xd i) (gt yd i) (gt_range ix i) (gt_range iy i)
    have hx1 : xd[i]? = some (gt xd i) := gt_some hlt
    have hlt2 : i < yd.length := by omega
    have hy1 : yd[i]? = some (gt yd i) := gt_some hlt2
    have c4 : (i + 1) * 8 ≤ 2 ^ 40 := by omega
    have c5 : i + 1 ≤ 2 ^ 40 := by omega
    rw [show xd.length - i = (xd.length - (i + 1)) + 1 from by omega] at hcol
    simp only [coll] at hcol
    generalize gt xd i = a at *
    generalize gt yd i = b at *
    generalize W a b = v at *
    by_cases e1 : v.2 = 0
    · rw [if_pos e1] at hcol
      have e' : (v.2 != 0) = false := by simp [e1]
      repeat' (first | apply T_then | apply then_ret | apply then_exit | apply then_goto | apply rnd_exit | apply rnd_ret | apply rnd_goto | apply noGo_normal | apply noGo_ret | apply noGo_exit | apply jmp_normal | apply jmp_ret | apply jmp_exit | apply jmp_goto | apply inB_normal | apply inB_ret | apply inB_goto | apply inB_exit | refine inB_exit_ne rfl ?_ | ((first | apply T_srK fw | apply T_regK fw); · ((try simp only [TOps.flat, List.cons_append, List.nil_append]); repeat (first | apply X_g0 | apply X_g | apply S_keep | apply X_skip | apply X_skipN | refine X_call ?_ ⟨_, _, _, _, _, _, rfl, rfl, rfl, by rw [hP]; exact kf⟩ ?_ | apply X_q | apply X_st | apply X_n | apply X_s | apply SKs0 | apply SKs2 | apply SKs1 | refine ⟨⟨rfl, rfl⟩, ?_⟩ | refine ⟨⟨rfl, ?_⟩, ?_⟩ | refine ⟨?_, ?_⟩ | (· (try simp only [go_sem, seval, reduceIte, ↓reduceIte, Bool.not_eq_true, reduceCtorEq, beq_false, beq_true, hn, hP, c1, w1, hx1, hy1, hlt, hlt2, e', hal, c4, c5]); first | done | rfl)))) | ((first | apply T_sdF fw (by rw [hP]; rfl) (by decide +kernel) | apply T_drF fw (by rw [hP]; rfl) (by decide +kernel)); · ((try simp only [TOps.flat, List.cons_append, List.nil_append]); repeat (first | apply Y_g0 | apply Y_g | apply Y_skip | apply Y_q | refine Y_call ⟨_, _, _, _, _, _, rfl, rfl, rfl, by rw [hP]; exact kf⟩ ?_ ?_ | refine RunF_nil (P := G.P) ?_ | (· (try simp only [go_sem, seval, reduceIte, ↓reduceIte, Bool.not_eq_true, reduceCtorEq, beq_false, beq_true, hn, hP, c1, w1, hx1, hy1, hlt, hlt2, e', hal, c4, c5]); first | done | rfl)))) | apply T_seq | apply T_block | refine T_scopeJ 0 rfl ?_ | apply T_scope | apply T_goto | apply T_ret | apply T_skip | apply T_exit | apply T_label | refine T_condT rfl ?_ | refine T_condF rfl ?_ | refine T_condD rfl (fun _ => ?_) (fun _ => ?_) | refine T_cond rfl (fun _ => ?_) (fun _ => ?_))
      refine rnd_next hlt (acc ++ [v.1]) ⟨by simp [hal], hcol⟩ (Weak.sub fun q hq => ?_)
      simp only [List.mem_cons, List.not_mem_nil, or_false] at hq
      rcases hq with rfl | rfl | rfl | rfl
      · rfl
      · rfl
      · rfl
      · simp [lo, rI]
    · rw [if_neg e1] at hcol
      have e' : (v.2 != 0) = true := by simp [e1]
      have hE : twoF W s d t e = bad v.2 := by rw [hf]; unfold eachF; rw [hdl, ← hcol, if_neg e1]
      repeat' (first | apply T_then | apply then_ret | apply then_exit | apply then_goto | apply rnd_exit | apply rnd_ret | apply rnd_goto | apply noGo_normal | apply noGo_ret | apply noGo_exit | apply jmp_normal | apply jmp_ret | apply jmp_exit | apply jmp_goto | apply inB_normal | apply inB_ret | apply inB_goto | apply inB_exit | refine inB_exit_ne rfl ?_ | ((first | apply T_srK fw | apply T_regK fw); · ((try simp only [TOps.flat, List.cons_append, List.nil_append]); repeat (first | apply X_g0 | apply X_g | apply S_keep | apply X_skip | apply X_skipN | refine X_call ?_ ⟨_, _, _, _, _, _, rfl, rfl, rfl, by rw [hP]; exact kf⟩ ?_ | apply X_q | apply X_st | apply X_n | apply X_s | apply SKs0 | apply SKs2 | apply SKs1 | refine ⟨⟨rfl, rfl⟩, ?_⟩ | refine ⟨⟨rfl, ?_⟩, ?_⟩ | refine ⟨?_, ?_⟩ | (· (try simp only [go_sem, seval, reduceIte, ↓reduceIte, Bool.not_eq_true, reduceCtorEq, beq_false, beq_true, hn, hP, c1, w1, hx1, hy1, hlt, hlt2, e']); first | done | rfl)))) | ((first | apply T_sdF fw (by rw [hP]; rfl) (by decide +kernel) | apply T_drF fw (by rw [hP]; rfl) (by decide +kernel)); · ((try simp only [TOps.flat, List.cons_append, List.nil_append]); repeat (first | apply Y_g0 | apply Y_g | apply Y_skip | apply Y_q | refine Y_call ⟨_, _, _, _, _, _, rfl, rfl, rfl, by rw [hP]; exact kf⟩ ?_ ?_ | refine RunF_nil (P := G.P) ?_ | (· (try simp only [go_sem, seval, reduceIte, ↓reduceIte, Bool.not_eq_true, reduceCtorEq, beq_false, beq_true, hn, hP, c1, w1, hx1, hy1, hlt, hlt2, e']); first | done | rfl)))) | apply T_seq | apply T_block | refine T_scopeJ 0 rfl ?_ | apply T_scope | apply T_goto | apply T_ret | apply T_skip | apply T_exit | apply T_label | refine T_condT rfl ?_ | refine T_condF rfl ?_ | refine T_condD rfl (fun _ => ?_) (fun _ => ?_) | refine T_cond rfl (fun _ => ?_) (fun _ => ?_))
      exact ends_ret rfl rfl rfl (by rw [hE]; rfl)
  · have hie : i = xd.length := by omega
    subst hie
    rw [Nat.sub_self] at hcol
    simp only [coll] at hcol
    have hE : twoF W s d t e = ((r, acc), 0) := by rw [hf]; unfold eachF; rw [hdl, ← hcol, if_pos rfl]
    repeat' (first | apply T_then | apply then_ret | apply then_exit | apply then_goto | apply rnd_exit | apply rnd_ret | apply rnd_goto | apply noGo_normal | apply noGo_ret | apply noGo_exit | apply jmp_normal | apply jmp_ret | apply jmp_exit | apply jmp_goto | apply inB_normal | apply inB_ret | apply inB_goto | apply inB_exit | refine inB_exit_ne rfl ?_ | ((first | apply T_srK fw | apply T_regK fw); · ((try simp only [TOps.flat, List.cons_append, List.nil_append]); repeat (first | apply X_g0 | apply X_g | apply S_keep | apply X_skip | apply X_skipN | apply X_q | apply X_st | apply X_n | apply X_s | apply SKs0 | apply SKs2 | apply SKs1 | refine ⟨⟨rfl, rfl⟩, ?_⟩ | refine ⟨⟨rfl, ?_⟩, ?_⟩ | refine ⟨?_, ?_⟩ | (· (try simp only [go_sem, seval, reduceIte, ↓reduceIte, Bool.not_eq_true, reduceCtorEq, beq_false, beq_true, hn, hP, Int.lt_irrefl]); first | done | rfl)))) | apply T_seq | apply T_block | refine T_scopeJ 0 rfl ?_ | apply T_scope | apply T_goto | apply T_ret | apply T_skip | apply T_exit | apply T_label | refine T_condT rfl ?_ | refine T_condF rfl ?_ | refine T_condD rfl (fun _ => ?_) (fun _ => ?_) | refine T_cond rfl (fun _ => ?_) (fun _ => ?_))
    rw [hE]
    exact ends_agg2 rfl rfl (hal.symm.trans (List.length_map _).symm)
end Go.AM

namespace Go.AM
open Go Go.Proofs
set_option maxRecDepth 100000
set_option maxHeartbeats 4000000

theorem p_elem_One {op : Int} {f : FuncId} {W : Int → Int × Int} (hop : (op = 20 ∧ f = fi_fix_Neg) ∨ (op = 21 ∧ f = fi_elem_kinds_1) ∨ (op = 22 ∧ f = fi_fix_Pow) ∨ (op = 23 ∧ f = fi_fix_Sqrt))
    (hW : ∀ a, I64 a → PureC Try.prog f [dN a] (dNE (W a))) (s d : List Int) (hd : I64s d) : PureC Try.prog fi_elem_One [dN op, dT s d] (dTE (oneF W s d)) := by
  refine pure_elem_One (by simp) fun G hP hn => ?_
  unfold a_elem_One
  have kk := p_elem_kinds
  unfold kindsM at kk
  have kc1 := p_tensor_Check s d
  rcases hop with ⟨rfl, rfl⟩ | ⟨rfl, rfl⟩ | ⟨rfl, rfl⟩ | ⟨rfl, rfl⟩
  all_goals
    cases h1 : checkT s d
    · have hf : oneF W s d = bad 30 := by unfold oneF; rw [if_neg (by simp [h1])]
      rw [h1] at kc1
      repeat' (first | apply T_then | apply then_ret | apply then_exit | apply then_goto | apply rnd_exit | apply rnd_ret | apply rnd_goto | apply noGo_normal | apply noGo_ret | apply noGo_exit | apply jmp_normal | apply jmp_ret | apply jmp_exit | apply jmp_goto | apply inB_normal | apply inB_ret | apply inB_goto | apply inB_exit | refine inB_exit_ne rfl ?_ | ((first | apply T_srK fw | apply T_regK fw); · ((try simp only [TOps.flat, List.cons_append, List.nil_append]); repeat (first | apply X_g0 | apply X_g | apply S_keep | apply X_skip | apply X_skipN | refine X_call ?_ ⟨_, _, _, _, _, _, rfl, rfl, rfl, by rw [hP]; exact kk⟩ ?_ | refine X_call ?_ ⟨_, _, _, _, _, _, rfl, rfl, rfl, by rw [hP]; exact kc1⟩ ?_ | apply X_q | apply X_st | apply X_n | apply X_s | apply SKs0 | apply SKs2 | apply SKs1 | refine ⟨⟨rfl, rfl⟩, ?_⟩ | refine ⟨⟨rfl, ?_⟩, ?_⟩ | refine ⟨?_, ?_⟩ | (· (try simp only [go_sem, seval, reduceIte, ↓reduceIte, Bool.not_eq_true, reduceCtorEq, beq_false, beq_true, hn, hP]); first | done | rfl)))) | apply T_seq | apply T_block | refine T_scopeJ 0 rfl ?_ | apply T_scope | apply T_goto | apply T_ret | apply T_skip | apply T_exit | apply T_label | refine T_condT rfl ?_ | refine T_condF rfl ?_ | refine T_condD rfl (fun _ => ?_) (fun _ => ?_) | refine T_cond rfl (fun _ => ?_) (fun _ => ?_))
      exact ends_ret rfl rfl rfl (by rw [hf]; rfl)
    · rw [h1] at kc1
      have hf : oneF W s d = eachF s (fun p => W (gt d p)) := by unfold oneF; rw [if_pos h1]
      have hc := checkT_iff.1 h1
      have hsz := sizeS_ok hc.1
      have kE := fun (k2 : PV) (f2 : FuncId) (hW : ∀ a, I64 a → PureC Try.prog f2 [dN a] (dNE (W a))) => p_elem_each (f := fi_elem_One_1) (caps := [.box [.fn f2 [] [], k2], .box [eI s, eI d]]) (s := s) (h := fun p => W (gt d p)) (by have := hc.1.1; omega)
        (fun p hp => p_elem_One_1 (gt_some (by omega)) (hW _ (gt_range hd p)))
      repeat' (first | apply T_then | apply then_ret | apply then_exit | apply then_goto | apply rnd_exit | apply rnd_ret | apply rnd_goto | apply noGo_normal | apply noGo_ret | apply noGo_exit | apply jmp_normal | apply jmp_ret | apply jmp_exit | apply jmp_goto | apply inB_normal | apply inB_ret | apply inB_goto | apply inB_exit | refine inB_exit_ne rfl ?_ | ((first | apply T_srK fw | apply T_regK fw); · ((try simp only [TOps.flat, List.cons_append, List.nil_append]); repeat (first | apply X_g0 | apply X_g | apply S_keep | apply X_skip | apply X_skipN | refine X_call ?_ ⟨_, _, _, _, _, _, rfl, rfl, rfl, by rw [hP]; exact kk⟩ ?_ | refine X_call ?_ ⟨_, _, _, _, _, _, rfl, rfl, rfl, by rw [hP]; exact kc1⟩ ?_ | refine X_call ?_ ⟨_, _, _, _, _, _, rfl, rfl, rfl, by rw [hP]; exact kE _ _ hW⟩ ?_ | apply X_q | apply X_st | apply X_n | apply X_s | apply SKs0 | apply SKs2 | apply SKs1 | refine ⟨⟨rfl, rfl⟩, ?_⟩ | refine ⟨⟨rfl, ?_⟩, ?_⟩ | refine ⟨?_, ?_⟩ | (· (try simp only [go_sem, seval, reduceIte, ↓reduceIte, Bool.not_eq_true, reduceCtorEq, beq_false, beq_true, hn, hP]); first | done | rfl)))) | apply T_seq | apply T_block | refine T_scopeJ 0 rfl ?_ | apply T_scope | apply T_goto | apply T_ret | apply T_skip | apply T_exit | apply T_label | refine T_condT rfl ?_ | refine T_condF rfl ?_ | refine T_condD rfl (fun _ => ?_) (fun _ => ?_) | refine T_cond rfl (fun _ => ?_) (fun _ => ?_))
      exact ends_ret rfl rfl rfl (by rw [hf]; rfl)
theorem p_elem_Two_no {op : Int} (h1 : op ≠ 10) (h2 : op ≠ 11) (h3 : op ≠ 12) (h4 : op ≠ 13) (s d t e : List Int) : PureC Try.prog fi_elem_Two [dN op, dT s d, dT t e] (dTE (bad 1)) := by
  refine pure_elem_Two (by simp) fun G hP hn => ?_
  unfold a_elem_Two
  have kk := p_elem_kinds
  unfold kindsM at kk
  have g1 : ¬ 10 = op := fun h => h1 h.symm
  have g2 : ¬ 11 = op := fun h => h2 h.symm
  have g3 : ¬ 12 = op := fun h => h3 h.symm
  have g4 : ¬ 13 = op := fun h => h4 h.symm
  by_cases h5 : op = 20
  · subst h5
    repeat' (first | apply T_then | apply then_ret | apply then_exit | apply then_goto | apply rnd_exit | apply rnd_ret | apply rnd_goto | apply noGo_normal | apply noGo_ret | apply noGo_exit | apply jmp_normal | apply jmp_ret | apply jmp_exit | apply jmp_goto | apply inB_normal | apply inB_ret | apply inB_goto | apply inB_exit | refine inB_exit_ne rfl ?_ | ((first | apply T_srK fw | apply T_regK fw); · ((try simp only [TOps.flat, List.cons_append, List.nil_append]); repeat (first | apply X_g0 | apply X_g | apply S_keep | apply X_skip | apply X_skipN | refine X_call ?_ ⟨_, _, _, _, _, _, rfl, rfl, rfl, by rw [hP]; exact kk⟩ ?_ | apply X_q | apply X_st | apply X_n | apply X_s | apply SKs0 | apply SKs2 | apply SKs1 | refine ⟨⟨rfl, rfl⟩, ?_⟩ | refine ⟨⟨rfl, ?_⟩, ?_⟩ | refine ⟨?_, ?_⟩ | (· (try simp only [go_sem, seval, reduceIte, ↓reduceIte, Bool.not_eq_true, reduceCtorEq, beq_false, beq_true, hn, hP]); first | done | rfl)))) | apply T_seq | apply T_block | refine T_scopeJ 0 rfl ?_ | apply T_scope | apply T_goto | apply T_ret | apply T_skip | apply T_exit | apply T_label | refine T_condT rfl ?_ | refine T_condF rfl ?_ | refine T_condD rfl (fun _ => ?_) (fun _ => ?_) | refine T_cond rfl (fun _ => ?_) (fun _ => ?_))
    exact ends_ret rfl rfl rfl rfl
  by_cases h6 : op = 21
  · subst h6
    repeat' (first | apply T_then | apply then_ret | apply then_exit | apply then_goto | apply rnd_exit | apply rnd_ret | apply rnd_goto | apply noGo_normal | apply noGo_ret | apply noGo_exit | apply jmp_normal | apply jmp_ret | apply jmp_exit | apply jmp_goto | apply inB_normal | apply inB_ret | apply inB_goto | apply inB_exit | refine inB_exit_ne rfl ?_ | ((first | apply T_srK fw | apply T_regK fw); · ((try simp only [TOps.flat, List.cons_append, List.nil_append]); repeat (first | apply X_g0 | apply X_g | apply S_keep | apply X_skip | apply X_skipN | refine X_call ?_ ⟨_, _, _, _, _, _, rfl, rfl, rfl, by rw [hP]; exact kk⟩ ?_ | apply X_q | apply X_st | apply X_n | apply X_s | apply SKs0 | apply SKs2 | apply SKs1 | refine ⟨⟨rfl, rfl⟩, ?_⟩ | refine ⟨⟨rfl, ?_⟩, ?_⟩ | refine ⟨?_, ?_⟩ | (· (try simp only [go_sem, seval, reduceIte, ↓reduceIte, Bool.not_eq_true, reduceCtorEq, beq_false, beq_true, hn, hP]); first | done | rfl)))) | apply T_seq | apply T_block | refine T_scopeJ 0 rfl ?_ | apply T_scope | apply T_goto | apply T_ret | apply T_skip | apply T_exit | apply T_label | refine T_condT rfl ?_ | refine T_condF rfl ?_ | refine T_condD rfl (fun _ => ?_) (fun _ => ?_) | refine T_cond rfl (fun _ => ?_) (fun _ => ?_))
    exact ends_ret rfl rfl rfl rfl
  by_cases h7 : op = 22
  · subst h7
    repeat' (first | apply T_then | apply then_ret | apply then_exit | apply then_goto | apply rnd_exit | apply rnd_ret | apply rnd_goto | apply noGo_normal | apply noGo_ret | apply noGo_exit | apply jmp_normal | apply jmp_ret | apply jmp_exit | apply jmp_goto | apply inB_normal | apply inB_ret | apply inB_goto | apply inB_exit | refine inB_exit_ne rfl ?_ | ((first | apply T_srK fw | apply T_regK fw); · ((try simp only [TOps.flat, List.cons_append, List.nil_append]); repeat (first | apply X_g0 | apply X_g | apply S_keep | apply X_skip | apply X_skipN | refine X_call ?_ ⟨_, _, _, _, _, _, rfl, rfl, rfl, by rw [hP]; exact kk⟩ ?_ | apply X_q | apply X_st | apply X_n | apply X_s | apply SKs0 | apply SKs2 | apply SKs1 | refine ⟨⟨rfl, rfl⟩, ?_⟩ | refine ⟨⟨rfl, ?_⟩, ?_⟩ | refine ⟨?_, ?_⟩ | (· (try simp only [go_sem, seval, reduceIte, ↓reduceIte, Bool.not_eq_true, reduceCtorEq, beq_false, beq_true, hn, hP]); first | done | rfl)))) | apply T_seq | apply T_block | refine T_scopeJ 0 rfl ?_ | apply T_scope | apply T_goto | apply T_ret | apply T_skip | apply T_exit | apply T_label | refine T_condT rfl ?_ | refine T_condF rfl ?_ | refine T_condD rfl (fun _ => ?_) (fun _ => ?_) | refine T_cond rfl (fun _ => ?_) (fun _ => ?_))
    exact ends_ret rfl rfl rfl rfl
  by_cases h8 : op = 23
  · subst h8
    repeat' (first | apply T_then | apply then_ret | apply then_exit | apply then_goto | apply rnd_exit | apply rnd_ret | apply rnd_goto | apply noGo_normal | apply noGo_ret | apply noGo_exit | apply jmp_normal | apply jmp_ret | apply jmp_exit | apply jmp_goto | apply inB_normal | apply inB_ret | apply inB_goto | apply inB_exit | refine inB_exit_ne rfl ?_ | ((first | apply T_srK fw | apply T_regK fw); · ((try simp only [TOps.flat, List.cons_append, List.nil_append]); repeat (first | apply X_g0 | apply X_g | apply S_keep | apply X_skip | apply X_skipN | refine X_call ?_ ⟨_, _, _, _, _, _, rfl, rfl, rfl, by rw [hP]; exact kk⟩ ?_ | apply X_q | apply X_st | apply X_n | apply X_s | apply SKs0 | apply SKs2 | apply SKs1 | refine ⟨⟨rfl, rfl⟩, ?_⟩ | refine ⟨⟨rfl, ?_⟩, ?_⟩ | refine ⟨?_, ?_⟩ | (· (try simp only [go_sem, seval, reduceIte, ↓reduceIte, Bool.not_eq_true, reduceCtorEq, beq_false, beq_true, hn, hP]); first | done | rfl)))) | apply T_seq | apply T_block | refine T_scopeJ 0 rfl ?_ | apply T_scope | apply T_goto | apply T_ret | apply T_skip | apply T_exit | apply T_label | refine T_condT rfl ?_ | refine T_condF rfl ?_ | refine T_condD rfl (fun _ => ?_) (fun _ => ?_) | refine T_cond rfl (fun _ => ?_) (fun _ => ?_))
    exact ends_ret rfl rfl rfl rfl
  have g5 : ¬ 20 = op := fun h => h5 h.symm
  have g6 : ¬ 21 = op := fun h => h6 h.symm
  have g7 : ¬ 22 = op := fun h => h7 h.symm
  have g8 : ¬ 23 = op := fun h => h8 h.symm
  repeat' (first | apply T_then | apply then_ret | apply then_exit | apply then_goto | apply rnd_exit | apply rnd_ret | apply rnd_goto | apply noGo_normal | apply noGo_ret | apply noGo_exit | apply jmp_normal | apply jmp_ret | apply jmp_exit | apply jmp_goto | apply inB_normal | apply inB_ret | apply inB_goto | apply inB_exit | refine inB_exit_ne rfl ?_ | ((first | apply T_srK fw | apply T_regK fw); · ((try simp only [TOps.flat, List.cons_append, List.nil_append]); repeat (first | apply X_g0 | apply X_g | apply S_keep | apply X_skip | apply X_skipN | refine X_call ?_ ⟨_, _, _, _, _, _, rfl, rfl, rfl, by rw [hP]; exact kk⟩ ?_ | apply X_q | apply X_st | apply X_n | apply X_s | apply SKs0 | apply SKs2 | apply SKs1 | refine ⟨⟨rfl, rfl⟩, ?_⟩ | refine ⟨⟨rfl, ?_⟩, ?_⟩ | refine ⟨?_, ?_⟩ | (· (try simp only [go_sem, seval, reduceIte, ↓reduceIte, Bool.not_eq_true, reduceCtorEq, beq_false, beq_true, hn, hP, h1, h2, h3, h4, h5, h6, h7, h8, g1, g2, g3, g4, g5, g6, g7, g8]); first | done | rfl)))) | apply T_seq | apply T_block | refine T_scopeJ 0 rfl ?_ | apply T_scope | apply T_goto | apply T_ret | apply T_skip | apply T_exit | apply T_label | refine T_condT rfl ?_ | refine T_condF rfl ?_ | refine T_condD rfl (fun _ => ?_) (fun _ => ?_) | refine T_cond rfl (fun _ => ?_) (fun _ => ?_))
  exact ends_ret rfl rfl rfl rfl
theorem p_elem_One_no {op : Int} (h5 : op ≠ 20) (h6 : op ≠ 21) (h7 : op ≠ 22) (h8 : op ≠ 23) (s d : List Int) : PureC Try.prog fi_elem_One [dN op, dT s d] (dTE (bad 1)) := by
  refine pure_elem_One (by simp) fun G hP hn => ?_
  unfold a_elem_One
  have kk := p_elem_kinds
  unfold kindsM at kk
  have g5 : ¬ 20 = op := fun h => h5 h.symm
  have g6 : ¬ 21 = op := fun h => h6 h.symm
  have g7 : ¬ 22 = op := fun h => h7 h.symm
  have g8 : ¬ 23 = op := fun h => h8 h.symm
  by_cases h1 : op = 10
  · subst h1
    repeat' (first | apply T_then | apply then_ret | apply then_exit | apply then_goto | apply rnd_exit | apply rnd_ret | apply rnd_goto | apply noGo_normal | apply noGo_ret | apply noGo_exit | apply jmp_normal | apply jmp_ret | apply jmp_exit | apply jmp_goto | apply inB_normal | apply inB_ret | apply inB_goto | apply inB_exit | refine inB_exit_ne rfl ?_ | ((first | apply T_srK fw | apply T_regK fw); · ((try simp only [TOps.flat, List.cons_append, List.nil_append]); repeat (first | apply X_g0 | apply X_g | apply S_keep | apply X_skip | apply X_skipN | refine X_call ?_ ⟨_, _, _, _, _, _, rfl, rfl, rfl, by rw [hP]; exact kk⟩ ?_ | apply X_q | apply X_st | apply X_n | apply X_s | apply SKs0 | apply SKs2 | apply SKs1 | refine ⟨⟨rfl, rfl⟩, ?_⟩ | refine ⟨⟨rfl, ?_⟩, ?_⟩ | refine ⟨?_, ?_⟩ | (· (try simp only [go_sem, seval, reduceIte, ↓reduceIte, Bool.not_eq_true, reduceCtorEq, beq_false, beq_true, hn, hP]); first | done | rfl)))) | apply T_seq | apply T_block | refine T_scopeJ 0 rfl ?_ | apply T_scope | apply T_goto | apply T_ret | apply T_skip | apply T_exit | apply T_label | refine T_condT rfl ?_ | refine T_condF rfl ?_ | refine T_condD rfl (fun _ => ?_) (fun _ => ?_) | refine T_cond rfl (fun _ => ?_) (fun _ => ?_))
    exact ends_ret rfl rfl rfl rfl
  by_cases h2 : op = 11
  · subst h2
    repeat' (first | apply T_then | apply then_ret | apply then_exit | apply then_goto | apply rnd_exit | apply rnd_ret | apply rnd_goto | apply noGo_normal | apply noGo_ret | apply noGo_exit | apply jmp_normal | apply jmp_ret | apply jmp_exit | apply jmp_goto | apply inB_normal | apply inB_ret | apply inB_goto | apply inB_exit | refine inB_exit_ne rfl ?_ | ((first | apply T_srK fw | apply T_regK fw); · ((try simp only [TOps.flat, List.cons_append, List.nil_append]); repeat (first | apply X_g0 | apply X_g | apply S_keep | apply X_skip | apply X_skipN | refine X_call ?_ ⟨_, _, _, _, _, _, rfl, rfl, rfl, by rw [hP]; exact kk⟩ ?_ | apply X_q | apply X_st | apply X_n | apply X_s | apply SKs0 | apply SKs2 | apply SKs1 | refine ⟨⟨rfl, rfl⟩, ?_⟩ | refine ⟨⟨rfl, ?_⟩, ?_⟩ | refine ⟨?_, ?_⟩ | (· (try simp only [go_sem, seval, reduceIte, ↓reduceIte, Bool.not_eq_true, reduceCtorEq, beq_false, beq_true, hn, hP]); first | done | rfl)))) | apply T_seq | apply T_block | refine T_scopeJ 0 rfl ?_ | apply T_scope | apply T_goto | apply T_ret | apply T_skip | apply T_exit | apply T_label | refine T_condT rfl ?_ | refine T_condF rfl ?_ | refine T_condD rfl (fun _ => ?_) (fun _ => ?_) | refine T_cond rfl (fun _ => ?_) (fun _ => ?_))
    exact ends_ret rfl rfl rfl rfl
  by_cases h3 : op = 12
  · subst h3
    repeat' (first | apply T_then | apply then_ret | apply then_exit | apply then_goto | apply rnd_exit | apply rnd_ret | apply rnd_goto | apply noGo_normal | apply noGo_ret | apply noGo_exit | apply jmp_normal | apply jmp_ret | apply jmp_exit | apply jmp_goto | apply inB_normal | apply inB_ret | apply inB_goto | apply inB_exit | refine inB_exit_ne rfl ?_ | ((first | apply T_srK fw | apply T_regK fw); · ((try simp only [TOps.flat, List.cons_append, List.nil_append]); repeat (first | apply X_g0 | apply X_g | apply S_keep | apply X_skip | apply X_skipN | refine X_call ?_ ⟨_, _, _, _, _, _, rfl, rfl, rfl, by rw [hP]; exact kk⟩ ?_ | apply X_q | apply X_st | apply X_n | apply X_s | apply SKs0 | apply SKs2 | apply SKs1 | refine ⟨⟨rfl, rfl⟩, ?_⟩ | refine ⟨⟨rfl, ?_⟩, ?_⟩ | refine ⟨?_, ?_⟩ | (· (try simp only [go_sem, seval, reduceIte, ↓reduceIte, Bool.not_eq_true, reduceCtorEq, beq_false, beq_true, hn, hP]); first | done | rfl)))) | apply T_seq | apply T_block | refine T_scopeJ 0 rfl ?_ | apply T_scope | apply T_goto | apply T_ret | apply T_skip | apply T_exit | apply T_label | refine T_condT rfl ?_ | refine T_condF rfl ?_ | refine T_condD rfl (fun _ => ?_) (fun _ => ?_) | refine T_cond rfl (fun _ => ?_) (fun _ => ?_))
    exact ends_ret rfl rfl rfl rfl
  by_cases h4 : op = 13
  · subst h4
    repeat' (first | apply T_then | apply then_ret | apply then_exit | apply then_goto | apply rnd_exit | apply rnd_ret | apply rnd_goto | apply noGo_normal | apply noGo_ret | apply noGo_exit | apply jmp_normal | apply jmp_ret | apply jmp_exit | apply jmp_goto | apply inB_normal | apply inB_ret | apply inB_goto | apply inB_exit | refine inB_exit_ne rfl ?_ | ((first | apply T_srK fw | apply T_regK fw); · ((try simp only [TOps.flat, List.cons_append, List.nil_append]); repeat (first | apply X_g0 | apply X_g | apply S_keep | apply X_skip | apply X_skipN | refine X_call ?_ ⟨_, _, _, _, _, _, rfl, rfl, rfl, by rw [hP]; exact kk⟩ ?_ | apply X_q | apply X_st | apply X_n | apply X_s | apply SKs0 | apply SKs2 | apply SKs1 | refine ⟨⟨rfl, rfl⟩, ?_⟩ | refine ⟨⟨rfl, ?_⟩, ?_⟩ | refine ⟨?_, ?_⟩ | (· (try simp only [go_sem, seval, reduceIte, ↓reduceIte, Bool.not_eq_true, reduceCtorEq, beq_false, beq_true, hn, hP]); first | done | rfl)))) | apply T_seq | apply T_block | refine T_scopeJ 0 rfl ?_ | apply T_scope | apply T_goto | apply T_ret | apply T_skip | apply T_exit | apply T_label | refine T_condT rfl ?_ | refine T_condF rfl ?_ | refine T_condD rfl (fun _ => ?_) (fun _ => ?_) | refine T_cond rfl (fun _ => ?_) (fun _ => ?_))
    exact ends_ret rfl rfl rfl rfl
  have g1 : ¬ 10 = op := fun h => h1 h.symm
  have g2 : ¬ 11 = op := fun h => h2 h.symm
  have g3 : ¬ 12 = op := fun h => h3 h.symm
  have g4 : ¬ 13 = op := fun h => h4 h.symm
  repeat' (first | apply T_then | apply then_ret | apply then_exit | apply then_goto | apply rnd_exit | apply rnd_ret | apply rnd_goto | apply noGo_normal | apply noGo_ret | apply noGo_exit | apply jmp_normal | apply jmp_ret | apply jmp_exit | apply jmp_goto | apply inB_normal | apply inB_ret | apply inB_goto | apply inB_exit | refine inB_exit_ne rfl ?_ | ((first | apply T_srK fw | apply T_regK fw); · ((try simp only [TOps.flat, List.cons_append, List.nil_append]); repeat (first | apply X_g0 | apply X_g | apply S_keep | apply X_skip | apply X_skipN | refine X_call ?_ ⟨_, _, _, _, _, _, rfl, rfl, rfl, by rw [hP]; exact kk⟩ ?_ | apply X_q | apply X_st | apply X_n | apply X_s | apply SKs0 | apply SKs2 | apply SKs1 | refine ⟨⟨rfl, rfl⟩, ?_⟩ | refine ⟨⟨rfl, ?_⟩, ?_⟩ | refine ⟨?_, ?_⟩ | (· (try simp only [go_sem, seval, reduceIte, ↓reduceIte, Bool.not_eq_true, reduceCtorEq, beq_false, beq_true, hn, hP, h1, h2, h3, h4, h5, h6, h7, h8, g1, g2, g3, g4, g5, g6, g7, g8]); first | done | rfl)))) | apply T_seq | apply T_block | refine T_scopeJ 0 rfl ?_ | apply T_scope | apply T_goto | apply T_ret | apply T_skip | apply T_exit | apply T_label | refine T_condT rfl ?_ | refine T_condF rfl ?_ | refine T_condD rfl (fun _ => ?_) (fun _ => ?_) | refine T_cond rfl (fun _ => ?_) (fun _ => ?_))
  exact ends_ret rfl rfl rfl rfl
end Go.AM

namespace Go.AM
open Go Go.Proofs
set_option maxRecDepth 100000
set_option maxHeartbeats 4000000

theorem i64s_dec {l : List Int} (h : (l.all fun n => decide (I64 n)) = true) : I64s l := fun n hn => by simpa using List.all_eq_true.1 h n hn
end Go.AM

namespace Go.AM
open Go Go.Proofs
set_option maxRecDepth 100000
set_option maxHeartbeats 4000000

theorem p_fix_Div_zero (a : Int) : PureC Try.prog fi_fix_Div [dN a, dN 0] (dNE (0, 11)) := by
  refine pure_fix_Div (by simp) fun G hP hn => ?_
  unfold a_fix_Div
  repeat' (first | apply T_then | apply then_ret | apply then_exit | apply then_goto | apply rnd_exit | apply rnd_ret | apply rnd_goto | apply noGo_normal | apply noGo_ret | apply noGo_exit | apply jmp_normal | apply jmp_ret | apply jmp_exit | apply jmp_goto | apply inB_normal | apply inB_ret | apply inB_goto | apply inB_exit | refine inB_exit_ne rfl ?_ | ((first | apply T_srK fw | apply T_regK fw); · ((try simp only [TOps.flat, List.cons_append, List.nil_append]); repeat (first | apply X_g0 | apply X_g | apply S_keep | apply X_skip | apply X_skipN | apply X_q | apply X_st | apply X_n | apply X_s | apply SKs0 | apply SKs2 | apply SKs1 | refine ⟨⟨rfl, rfl⟩, ?_⟩ | refine ⟨⟨rfl, ?_⟩, ?_⟩ | refine ⟨?_, ?_⟩ | (· (try simp only [go_sem, seval, reduceIte, ↓reduceIte, Bool.not_eq_true, reduceCtorEq, beq_false, beq_true, hn, hP]); first | done | rfl)))) | apply T_seq | apply T_block | refine T_scopeJ 0 rfl ?_ | apply T_scope | apply T_goto | apply T_ret | apply T_skip | apply T_exit | apply T_label | refine T_condT rfl ?_ | refine T_condF rfl ?_ | refine T_condD rfl (fun _ => ?_) (fun _ => ?_) | refine T_cond rfl (fun _ => ?_) (fun _ => ?_))
  exact ends_ret rfl rfl rfl rfl
theorem k_Add {s d t e : List Int} (hd : I64s d) (he : I64s e) : PureC Try.prog fi_elem_Two [dN 10, dT s d, dT t e] (dTE (twoF fAdd s d t e)) := p_elem_Two (.inl ⟨rfl, rfl⟩) (fun _ _ ha hb => p_fix_Add ha hb) s d t e hd he
theorem k_Sub {s d t e : List Int} (hd : I64s d) (he : I64s e) : PureC Try.prog fi_elem_Two [dN 11, dT s d, dT t e] (dTE (twoF fSub s d t e)) := p_elem_Two (.inr (.inl ⟨rfl, rfl⟩)) (fun _ _ ha hb => p_fix_Sub ha hb) s d t e hd he
theorem k_Mul {s d t e : List Int} (hd : I64s d) (he : I64s e) : PureC Try.prog fi_elem_Two [dN 12, dT s d, dT t e] (dTE (twoF fMul s d t e)) := p_elem_Two (.inr (.inr (.inl ⟨rfl, rfl⟩))) (fun _ _ ha hb => p_fix_Mul ha hb) s d t e hd he
theorem k_Neg {s d : List Int} (hd : I64s d) : PureC Try.prog fi_elem_One [dN 20, dT s d] (dTE (oneF fNeg s d)) := p_elem_One (.inl ⟨rfl, rfl⟩) (fun _ ha => p_fix_Neg ha) s d hd
theorem k_Relu {s d : List Int} (hd : I64s d) : PureC Try.prog fi_elem_One [dN 21, dT s d] (dTE (oneF fRelu s d)) := p_elem_One (.inr (.inl ⟨rfl, rfl⟩)) (fun _ _ => p_relu _) s d hd
theorem aw41 : twoF fSub [2] [5, 1] [] [2] = (([2], [3, -1]), 0) := by decide +kernel
theorem aw42 : oneF fNeg [2] [5, 1] = (([2], [-5, -1]), 0) := by decide +kernel
theorem aw43 : twoF (fun _ _ => (0, 11)) [2] [5, 1] [] [0] = bad 11 := by decide +kernel
theorem aw44 : oneF fRelu [2] [-5, -1] = (([2], [0, 0]), 0) := by decide +kernel
theorem aw45 : ∀ p, p < (sizeS (joinSF [2] []).1).toNat → gt (spreadD [] [0] (joinSF [2] []).1) p = 0 := by decide +kernel
theorem p_awake4 : PureC Try.prog fi_fullerlaw04_awake [] (dB true) := by
  refine pure_fullerlaw04_awake (by simp) fun G hP hn => ?_
  unfold a_fullerlaw04_awake
  have ha : I64s [5, 1] := i64s_dec (by decide)
  have hb : I64s [2] := i64s_dec (by decide)
  have hc : I64s [-5, -1] := i64s_dec (by decide)
  have hz : I64s [0] := i64s_dec (by decide)
  have k1 := k_Sub (s := [2]) (t := []) ha hb
  have k2 := k_Neg (s := [2]) ha
  have k3 := p_elem_One_no (op := 10) (by decide) (by decide) (by decide) (by decide) [2] [5, 1]
  have k4 := p_elem_Two_no (op := 20) (by decide) (by decide) (by decide) (by decide) [2] [5, 1] [] [2]
  have k5 := p_elem_Two' (op := 13) (f := fi_fix_Div) (W := fun _ _ => (0, 11)) (.inr (.inr (.inr ⟨rfl, rfl⟩))) [2] [5, 1] [] [0] ha hz (fun p hp => by rw [aw45 p hp]; exact p_fix_Div_zero _)
  have k6 := k_Relu (s := [2]) hc
  rw [aw41] at k1; rw [aw42] at k2; rw [aw43] at k5; rw [aw44] at k6
  have s1 := c_same' [3, -1]
  have s2 := c_same' [-5, -1]
  have s3 := c_same' [0, 0]
  repeat' (first | apply T_then | apply then_ret | apply then_exit | apply then_goto | apply rnd_exit | apply rnd_ret | apply rnd_goto | apply noGo_normal | apply noGo_ret | apply noGo_exit | apply jmp_normal | apply jmp_ret | apply jmp_exit | apply jmp_goto | apply inB_normal | apply inB_ret | apply inB_goto | apply inB_exit | refine inB_exit_ne rfl ?_ | ((first | apply T_srK fw | apply T_regK fw); · ((try simp only [TOps.flat, List.cons_append, List.nil_append]); repeat (first | apply X_g0 | apply X_g | apply S_keep | apply X_skip | apply X_skipN | refine X_call ?_ ⟨_, _, _, _, _, _, rfl, rfl, rfl, by rw [hP]; exact k1⟩ ?_ | refine X_call ?_ ⟨_, _, _, _, _, _, rfl, rfl, rfl, by rw [hP]; exact k2⟩ ?_ | refine X_call ?_ ⟨_, _, _, _, _, _, rfl, rfl, rfl, by rw [hP]; exact k3⟩ ?_ | refine X_call ?_ ⟨_, _, _, _, _, _, rfl, rfl, rfl, by rw [hP]; exact k4⟩ ?_ | refine X_call ?_ ⟨_, _, _, _, _, _, rfl, rfl, rfl, by rw [hP]; exact k5⟩ ?_ | refine X_call ?_ ⟨_, _, _, _, _, _, rfl, rfl, rfl, by rw [hP]; exact k6⟩ ?_ | refine X_call ?_ ⟨_, _, _, _, _, _, rfl, rfl, rfl, by rw [hP]; exact s1⟩ ?_ | refine X_call ?_ ⟨_, _, _, _, _, _, rfl, rfl, rfl, by rw [hP]; exact s2⟩ ?_ | refine X_call ?_ ⟨_, _, _, _, _, _, rfl, rfl, rfl, by rw [hP]; exact s3⟩ ?_ | apply X_q | apply X_st | apply X_n | apply X_s | apply SKs0 | apply SKs2 | apply SKs1 | refine ⟨⟨rfl, rfl⟩, ?_⟩ | refine ⟨⟨rfl, ?_⟩, ?_⟩ | refine ⟨?_, ?_⟩ | (· (try simp only [go_sem, seval, reduceIte, ↓reduceIte, Bool.not_eq_true, reduceCtorEq, beq_false, beq_true, hn, hP]); first | done | rfl)))) | apply T_seq | apply T_block | refine T_scopeJ 0 rfl ?_ | apply T_scope | apply T_goto | apply T_ret | apply T_skip | apply T_exit | apply T_label | refine T_condT rfl ?_ | refine T_condF rfl ?_ | refine T_condD rfl (fun _ => ?_) (fun _ => ?_) | refine T_cond rfl (fun _ => ?_) (fun _ => ?_))
  exact ends_ret rfl rfl rfl rfl
end Go.AM

namespace Go.AM
open Go Go.Proofs
set_option maxRecDepth 100000
set_option maxHeartbeats 4000000

theorem t_Div {s d t e : List Int} (hd : I64s d) (he : I64s e) : PureC Try.prog fi_elem_Two [dN 13, dT s d, dT t e] (dTE (twoF fDiv s d t e)) := p_elem_Two (.inr (.inr (.inr ⟨rfl, rfl⟩))) (fun _ _ ha hb => p_fix_Div ha hb) s d t e hd he
theorem t_Sqrt {s d : List Int} (hd : I64s d) : PureC Try.prog fi_elem_One [dN 23, dT s d] (dTE (oneF fSqrt s d)) := p_elem_One (.inr (.inr (.inr ⟨rfl, rfl⟩))) (fun _ ha => p_fix_Sqrt ha) s d hd
theorem t_Pow {s d : List Int} (hd : I64s d) : PureC Try.prog fi_elem_One [dN 22, dT s d] (dTE (oneF fPow s d)) := p_elem_One (.inr (.inr (.inl ⟨rfl, rfl⟩))) (fun _ ha => p_fix_Pow ha) s d hd
theorem tells_op {op : Int} {s d t e : List Int} {X Y : (List Int × List Int) × Int} (k1 : PureC Try.prog fi_elem_One [dN op, dT s d] (dTE X)) (k2 : PureC Try.prog fi_fullerref04_One [dN op, dT s d] (dTE X))
    (k3 : PureC Try.prog fi_elem_Two [dN op, dT s d, dT t e] (dTE Y)) (k4 : PureC Try.prog fi_fullerref04_Two [dN op, dT s d, dT t e] (dTE Y)) : PureC Try.prog fi_fullerlaw04_ElemTells [dN op, dT s d, dT t e] (dB true) := by
  refine pure_fullerlaw04_ElemTells (by simp) fun G hP hn => ?_
  unfold a_fullerlaw04_ElemTells
  cases f1 : fewT s d
  · repeat' (first | apply T_then | apply then_ret | apply then_exit | apply then_goto | apply rnd_exit | apply rnd_ret | apply rnd_goto | apply noGo_normal | apply noGo_ret | apply noGo_exit | apply jmp_normal | apply jmp_ret | apply jmp_exit | apply jmp_goto | apply inB_normal | apply inB_ret | apply inB_goto | apply inB_exit | refine inB_exit_ne rfl ?_ | ((first | apply T_srK fw | apply T_regK fw); · ((try simp only [TOps.flat, List.cons_append, List.nil_append]); repeat (first | apply X_g0 | apply X_g | apply S_keep | apply X_skip | apply X_skipN | refine X_call ?_ ⟨_, _, _, _, _, _, rfl, rfl, rfl, by rw [hP]; exact p_awake4⟩ ?_ | refine X_call ?_ ⟨_, _, _, _, _, _, rfl, rfl, rfl, by rw [hP]; exact p_ref03_Few _ _⟩ ?_ | apply X_q | apply X_st | apply X_n | apply X_s | apply SKs0 | apply SKs2 | apply SKs1 | refine ⟨⟨rfl, rfl⟩, ?_⟩ | refine ⟨⟨rfl, ?_⟩, ?_⟩ | refine ⟨?_, ?_⟩ | (· (try simp only [go_sem, seval, reduceIte, ↓reduceIte, Bool.not_eq_true, reduceCtorEq, beq_false, beq_true, hn, hP, f1]); first | done | rfl)))) | apply T_seq | apply T_block | refine T_scopeJ 0 rfl ?_ | apply T_scope | apply T_goto | apply T_ret | apply T_skip | apply T_exit | apply T_label | refine T_condT rfl ?_ | refine T_condF rfl ?_ | refine T_condD rfl (fun _ => ?_) (fun _ => ?_) | refine T_cond rfl (fun _ => ?_) (fun _ => ?_))
    exact ends_ret rfl rfl rfl rfl
  cases f2 : fewT t e
  · repeat' (first | apply T_then | apply then_ret | apply then_exit | apply then_goto | apply rnd_exit | apply rnd_ret | apply rnd_goto | apply noGo_normal | apply noGo_ret | apply noGo_exit | apply jmp_normal | apply jmp_ret | apply jmp_exit | apply jmp_goto | apply inB_normal | apply inB_ret | apply inB_goto | apply inB_exit | refine inB_exit_ne rfl ?_ | ((first | apply T_srK fw | apply T_regK fw); · ((try simp only [TOps.flat, List.cons_append, List.nil_append]); repeat (first | apply X_g0 | apply X_g | apply S_keep | apply X_skip | apply X_skipN | refine X_call ?_ ⟨_, _, _, _, _, _, rfl, rfl, rfl, by rw [hP]; exact p_awake4⟩ ?_ | refine X_call ?_ ⟨_, _, _, _, _, _, rfl, rfl, rfl, by rw [hP]; exact p_ref03_Few _ _⟩ ?_ | apply X_q | apply X_st | apply X_n | apply X_s | apply SKs0 | apply SKs2 | apply SKs1 | refine ⟨⟨rfl, rfl⟩, ?_⟩ | refine ⟨⟨rfl, ?_⟩, ?_⟩ | refine ⟨?_, ?_⟩ | (· (try simp only [go_sem, seval, reduceIte, ↓reduceIte, Bool.not_eq_true, reduceCtorEq, beq_false, beq_true, hn, hP, f1, f2]); first | done | rfl)))) | apply T_seq | apply T_block | refine T_scopeJ 0 rfl ?_ | apply T_scope | apply T_goto | apply T_ret | apply T_skip | apply T_exit | apply T_label | refine T_condT rfl ?_ | refine T_condF rfl ?_ | refine T_condD rfl (fun _ => ?_) (fun _ => ?_) | refine T_cond rfl (fun _ => ?_) (fun _ => ?_))
    exact ends_ret rfl rfl rfl rfl
  repeat' (first | apply T_then | apply then_ret | apply then_exit | apply then_goto | apply rnd_exit | apply rnd_ret | apply rnd_goto | apply noGo_normal | apply noGo_ret | apply noGo_exit | apply jmp_normal | apply jmp_ret | apply jmp_exit | apply jmp_goto | apply inB_normal | apply inB_ret | apply inB_goto | apply inB_exit | refine inB_exit_ne rfl ?_ | ((first | apply T_srK fw | apply T_regK fw); · ((try simp only [TOps.flat, List.cons_append, List.nil_append]); repeat (first | apply X_g0 | apply X_g | apply S_keep | apply X_skip | apply X_skipN | refine X_call ?_ ⟨_, _, _, _, _, _, rfl, rfl, rfl, by rw [hP]; exact p_awake4⟩ ?_ | refine X_call ?_ ⟨_, _, _, _, _, _, rfl, rfl, rfl, by rw [hP]; exact p_ref03_Few _ _⟩ ?_ | refine X_call ?_ ⟨_, _, _, _, _, _, rfl, rfl, rfl, by rw [hP]; exact k1⟩ ?_ | refine X_call ?_ ⟨_, _, _, _, _, _, rfl, rfl, rfl, by rw [hP]; exact k2⟩ ?_ | refine X_call ?_ ⟨_, _, _, _, _, _, rfl, rfl, rfl, by rw [hP]; exact k3⟩ ?_ | refine X_call ?_ ⟨_, _, _, _, _, _, rfl, rfl, rfl, by rw [hP]; exact k4⟩ ?_ | refine X_call ?_ ⟨_, _, _, _, _, _, rfl, rfl, rfl, by rw [hP]; exact c_sameT _ _⟩ ?_ | apply X_q | apply X_st | apply X_n | apply X_s | apply SKs0 | apply SKs2 | apply SKs1 | refine ⟨⟨rfl, rfl⟩, ?_⟩ | refine ⟨⟨rfl, ?_⟩, ?_⟩ | refine ⟨?_, ?_⟩ | (· (try simp only [go_sem, seval, reduceIte, ↓reduceIte, Bool.not_eq_true, reduceCtorEq, beq_false, beq_true, hn, hP, f1, f2]); first | done | rfl)))) | apply T_seq | apply T_block | refine T_scopeJ 0 rfl ?_ | apply T_scope | apply T_goto | apply T_ret | apply T_skip | apply T_exit | apply T_label | refine T_condT rfl ?_ | refine T_condF rfl ?_ | refine T_condD rfl (fun _ => ?_) (fun _ => ?_) | refine T_cond rfl (fun _ => ?_) (fun _ => ?_))
  exact ends_ret rfl rfl rfl rfl
theorem p_ElemTells (op : Int) (s d t e : List Int) (hd : I64s d) (he : I64s e) : PureC Try.prog fi_fullerlaw04_ElemTells [dN op, dT s d, dT t e] (dB true) := by
  by_cases h1 : op = 10
  · subst h1
    exact tells_op (p_elem_One_no (by decide) (by decide) (by decide) (by decide) s d) (p_ref04_One_no s d (.inl (by decide))) (k_Add hd he) (p_ref04_Two (by decide) s d t e hd he fun a b ha hb => p_ref04_Numbers_10 ha hb)
  by_cases h2 : op = 11
  · subst h2
    exact tells_op (p_elem_One_no (by decide) (by decide) (by decide) (by decide) s d) (p_ref04_One_no s d (.inl (by decide))) (k_Sub hd he) (p_ref04_Two (by decide) s d t e hd he fun a b ha hb => p_ref04_Numbers_11 ha hb)
  by_cases h3 : op = 12
  · subst h3
    exact tells_op (p_elem_One_no (by decide) (by decide) (by decide) (by decide) s d) (p_ref04_One_no s d (.inl (by decide))) (k_Mul hd he) (p_ref04_Two (by decide) s d t e hd he fun a b ha hb => p_ref04_Numbers_12 ha hb)
  by_cases h4 : op = 13
  · subst h4
    exact tells_op (p_elem_One_no (by decide) (by decide) (by decide) (by decide) s d) (p_ref04_One_no s d (.inl (by decide))) (t_Div hd he) (p_ref04_Two (by decide) s d t e hd he fun a b ha hb => p_ref04_Numbers_13 ha hb)
  by_cases h5 : op = 20
  · subst h5
    exact tells_op (k_Neg hd) (p_ref04_One (by decide) s d hd fun a ha => p_ref04_Number_20 ha) (p_elem_Two_no (by decide) (by decide) (by decide) (by decide) s d t e) (p_ref04_Two_no s d t e (.inr (by decide)))
  by_cases h6 : op = 21
  · subst h6
    exact tells_op (k_Relu hd) (p_ref04_One (by decide) s d hd fun a ha => p_ref04_Number_21 ha) (p_elem_Two_no (by decide) (by decide) (by decide) (by decide) s d t e) (p_ref04_Two_no s d t e (.inr (by decide)))
  by_cases h7 : op = 22
  · subst h7
    exact tells_op (t_Pow hd) (p_ref04_One (by decide) s d hd fun a ha => p_ref04_Number_22 ha) (p_elem_Two_no (by decide) (by decide) (by decide) (by decide) s d t e) (p_ref04_Two_no s d t e (.inr (by decide)))
  by_cases h8 : op = 23
  · subst h8
    exact tells_op (t_Sqrt hd) (p_ref04_One (by decide) s d hd fun a ha => p_ref04_Number_23 ha) (p_elem_Two_no (by decide) (by decide) (by decide) (by decide) s d t e) (p_ref04_Two_no s d t e (.inr (by decide)))
  exact tells_op (p_elem_One_no h5 h6 h7 h8 s d) (p_ref04_One_no s d (by omega)) (p_elem_Two_no h1 h2 h3 h4 s d t e) (p_ref04_Two_no s d t e (by omega))
end Go.AM

namespace Go.AM
open Go.RowKit (Below)

mutual
inductive Conf (P : Program) : TypeId → List PV → Prop
  | bool {t : TypeId} (b : Bool) (ht : P.underlying t = some .bool) : Conf P t [.bool b]
  | int {t : TypeId} {k : IntKind} (n : Int) (ht : P.underlying t = some (.int k)) (hw : (Lit.int k n).wf = true) : Conf P t [.int k n]
  | str {t : TypeId} (s : ByteArray) (ht : P.underlying t = some .string) : Conf P t [.str s]
  | sl {t e : TypeId} (rows : List (List PV)) (ht : P.underlying t = some (.slice e)) (h : ∀ r ∈ rows, Conf P e r) : Conf P t [.sl rows]
  | st {t : TypeId} {fs : Array Field} (parts : List (List PV)) (ht : P.underlying t = some (.struct fs)) (h : ConfAll P (fs.toList.map (·.type)) parts) : Conf P t parts.flatten
inductive ConfAll (P : Program) : List TypeId → List (List PV) → Prop
  | nil : ConfAll P [] []
  | cons {t : TypeId} {ts : List TypeId} {r : List PV} {rs : List (List PV)} (h : Conf P t r) (hs : ConfAll P ts rs) : ConfAll P (t :: ts) (r :: rs)
end
def contig (P : Program) : Nat → List Field → Nat → Bool
  | off, [], n => off == n
  | off, f :: fs, n => f.offset == off && contig P (off + P.cellsOf f.type) fs n
def okTy (P : Program) : Nat → TypeId → Bool
  | 0, _ => false
  | m + 1, t => match P.underlying t with
    | some .bool => P.cellsOf t == 1
    | some (.int _) => P.cellsOf t == 1
    | some .string => P.cellsOf t == 1
    | some (.slice e) => P.cellsOf t == 1 && decide (1 ≤ P.cellsOf e) && decide (1 ≤ P.bytesOf e) && okTy P m e
    | some (.struct fs) => contig P 0 fs.toList (P.cellsOf t) && fs.toList.all fun f => okTy P m f.type
    | _ => false
theorem flat_at {A : Nat → Prop} {w : World} {b c : Nat} : ∀ {rows : List (List PV)} {off : Nat}, (∀ r ∈ rows, r.length = c) → (∀ i r, rows[i]? = some r → PAt A w r b (off + i * c)) → PAt A w rows.flatten b off
  | [], off, _, _ => .atNil b off
  | r :: rows, off, h1, h2 => by
    simp only [List.flatten_cons]
    refine PAt.append (by simpa using h2 0 r rfl) ?_
    refine flat_at (fun r hr => h1 r (by simp [hr])) fun i r' hi => ?_
    have := h2 (i + 1) r' (by simpa using hi)
    rw [h1 r (by simp)]
    rwa [show off + (i + 1) * c = off + c + i * c from by rw [Nat.add_mul]; omega] at this
section
variable {H : Type} {enc : TypeId × Value → H} {P : Program} {w : World}
def inHeap (w : World) (b : Nat) : Prop := b < w.heap.size
theorem cell_lt {a : Addr} {v : Value} (h : w.cell? a = some v) : a.block < w.heap.size ∧ a.spot = none ∧ w.cell? ⟨a.block, a.off, none⟩ = some v := by
  unfold World.cell? at h ⊢
  split at h
  · rename_i c e z hb
    split at h
    · cases h
    · rename_i hs
      have : a.spot = none := by cases hz : a.spot <;> simp_all
      exact ⟨heap_lt hb, this, by simp [hb, h]⟩
  · cases h
theorem weights_mem {e : TypeId} {l : List (DataW H)} {n : Nat} (h : (DataW.weightsAll P e l).all (· ≤ n) = true) : ∀ d ∈ l, (d.weights P e).all (· ≤ n) = true := by
  induction l with
  | nil => intro d hd; simp at hd
  | cons x l ih =>
    simp only [DataW.weightsAll, List.all_append, Bool.and_eq_true] at h
    intro d hd
    rcases List.mem_cons.1 hd with rfl | hd
    · exact h.1
    · exact ih h.2 d hd
theorem reads_fields {total n : Nat} {cs : List Value} (hlen : cs.length = total) (ih : ∀ (t : TypeId), okTy P n t = true → ∀ (m : Nat) (cs : List Value) (d : DataW H) (ps : List MemPlace),
      DataW.trod enc P w 0 (fun _ => true) true m t cs = some (d, ps) → (d.weights P t).all (· ≤ reachBytes) = true → ∃ vs, Conf P t vs ∧ vs.length = P.cellsOf t ∧ PRels (inHeap w) w vs cs) {m : Nat} :
    ∀ (fs : List Field) (off : Nat) (xs : List (DataW H × List MemPlace)), contig P off fs total = true → (fs.all fun f => okTy P n f.type) = true → xs.length = fs.length →
      (∀ (i : Nat) (f : Field), fs[i]? = some f → DataW.trod enc P w 0 (fun _ => true) true m f.type ((cs.drop f.offset).take (P.cellsOf f.type)) = xs[i]?) →
      (DataW.weightsEach P (fs.map (·.type)) (xs.map (·.1))).all (· ≤ reachBytes) = true → off ≤ total →
      ∃ parts, ConfAll P (fs.map (·.type)) parts ∧ parts.flatten.length = total - off ∧ PRels (inHeap w) w parts.flatten (cs.drop off)
  | [], off, xs, h1, _, _, _, _, hle => by
    simp only [contig, beq_iff_eq] at h1
    subst h1
    exact ⟨[], .nil, by simp, by rw [List.drop_eq_nil_of_le (by omega)]; exact .psNil⟩
  | f :: fs, off, xs, h1, h2, h3, h4, h5, hle => by
    simp only [contig, Bool.and_eq_true, beq_iff_eq] at h1
    simp only [List.all_cons, Bool.and_eq_true] at h2
    obtain ⟨ho, h1⟩ := h1
    cases xs with
    | nil => simp at h3
    | cons x xs =>
      have e0 := h4 0 f rfl
      rw [ho] at e0
      simp only [List.getElem?_cons_zero] at e0
      simp only [List.map_cons, DataW.weightsEach, List.all_append, Bool.and_eq_true] at h5
      obtain ⟨vs, c1, c2, c3⟩ := ih f.type h2.1 m _ x.1 x.2 e0 h5.1
      have hlen2 := (PRels.all2.1 c3).length
      have hle2 : off + P.cellsOf f.type ≤ total := by
        rw [c2, List.length_take, List.length_drop] at hlen2
        omega
      obtain ⟨parts, p1, p2, p3⟩ := reads_fields hlen ih fs (off + P.cellsOf f.type) xs h1 h2.2 (by simpa using h3) (fun i f' hi => by simpa using h4 (i + 1) f' (by simpa using hi)) h5.2 hle2
      refine ⟨vs :: parts, .cons c1 p1, by simp only [List.flatten_cons, List.length_append, p2, c2]; omega, ?_⟩
      simp only [List.flatten_cons]
      have := PRels.all2.2 ((PRels.all2.1 c3).append (PRels.all2.1 p3))
      rwa [← List.drop_drop, List.take_append_drop] at this
theorem rows_of {α : Type} {Q : Nat → α → Prop} : ∀ (n : Nat), (∀ i, i < n → ∃ r, Q i r) → ∃ rows : List α, rows.length = n ∧ ∀ i r, rows[i]? = some r → Q i r
  | 0, _ => ⟨[], rfl, fun i r h => by simp at h⟩
  | n + 1, h => by
    obtain ⟨rows, h1, h2⟩ := rows_of n fun i hi => h i (by omega)
    obtain ⟨r, hr⟩ := h n (by omega)
    refine ⟨rows ++ [r], by simp [h1], fun i x hx => ?_⟩
    by_cases hi : i < n
    · rw [List.getElem?_append_left (by omega)] at hx; exact h2 i x hx
    · rw [List.getElem?_append_right (by omega)] at hx
      have : i = n := by
        by_cases e : i = n
        · exact e
        · rw [List.getElem?_eq_none (by simp; omega)] at hx; cases hx
      subst this
      rw [show i - rows.length = 0 from by omega] at hx
      simp at hx; subst hx; exact hr
theorem add_none (b off k : Nat) : (⟨b, off, none⟩ : Addr).add k = ⟨b, off + k, none⟩ := by
  unfold Addr.add
  split
  · rename_i h; subst h; rfl
  · rfl
theorem reads : ∀ (n : Nat) (t : TypeId), okTy P n t = true → ∀ (m : Nat) (cs : List Value) (d : DataW H) (ps : List MemPlace),
    DataW.trod enc P w 0 (fun _ => true) true m t cs = some (d, ps) → (d.weights P t).all (· ≤ reachBytes) = true → ∃ vs, Conf P t vs ∧ vs.length = P.cellsOf t ∧ PRels (inHeap w) w vs cs
  | 0, t, h => by simp [okTy] at h
  | n + 1, t, h => by
    intro m cs d ps hd hw
    unfold okTy at h
    split at h
    · rename_i ht
      obtain ⟨b, rfl, hx⟩ := DataW.trod_bool ht hd
      exact ⟨[.bool b], .bool b ht, by simpa using (beq_iff_eq.1 h).symm, .psCons _ _ _ _ (.bool b) .psNil⟩
    · rename_i k ht
      obtain ⟨z, rfl, hx, hwf⟩ := DataW.trod_int ht hd
      exact ⟨[.int k z], .int z ht hwf, by simpa using (beq_iff_eq.1 h).symm, .psCons _ _ _ _ (.int k z) .psNil⟩
    · rename_i ht
      obtain ⟨z, rfl, hx, _⟩ := DataW.trod_string ht hd
      exact ⟨[.str z], .str z ht, by simpa using (beq_iff_eq.1 h).symm, .psCons _ _ _ _ (.str z) .psNil⟩
    · rename_i e ht
      simp only [Bool.and_eq_true, beq_iff_eq, decide_eq_true_eq] at h
      obtain ⟨⟨⟨h1, h2⟩, h3⟩, h4⟩ := h
      rcases DataW.trod_slice ht hd with ⟨rfl, hx⟩ | ⟨a, len, cap, elems, rest, m', _, rfl, hx, _, hlc, hcm, hel, hget, hsp, _⟩
      · exact ⟨[.sl []], .sl [] ht (by simp), by simp [h1], .psCons _ _ _ _ (.nil none 0) .psNil⟩
      · obtain ⟨hrl, _⟩ := hsp rfl
        simp only [Prod.mk.injEq] at hx
        obtain ⟨rfl, _⟩ := hx
        simp only [DataW.weights, ht, List.all_cons, List.all_append, Bool.and_eq_true, decide_eq_true_eq, List.length_map] at hw
        obtain ⟨hw1, hw2, _⟩ := hw
        have hcap : cap ≤ reachBytes := by
          have : (elems.length + rest.length) * 1 ≤ (elems.length + rest.length) * P.bytesOf e := Nat.mul_le_mul_left _ h3
          omega
        have each : ∀ i, i < len → ∃ r, Conf P e r ∧ r.length = P.cellsOf e ∧ ∃ cs', w.cells? 0 (a.add (i * P.cellsOf e)) (P.cellsOf e) = some cs' ∧ PRels (inHeap w) w r cs' := by
          intro i hi
          have hi2 : i < elems.length := by omega
          have := hget i hi
          rw [List.getElem?_eq_getElem hi2] at this
          obtain ⟨cs', q1, q2⟩ := Option.bind_eq_some_iff.1 this
          obtain ⟨vs, r1, r2, r3⟩ := reads n e h4 m' cs' _ _ q2 (weights_mem hw2 _ (List.mem_map_of_mem (List.getElem_mem hi2)))
          exact ⟨vs, r1, r2, cs', q1, r3⟩
        obtain ⟨rows, hrows, hrow⟩ := rows_of len each
        have hconf : ∀ r ∈ rows, Conf P e r ∧ r.length = P.cellsOf e := by
          intro r hr
          obtain ⟨i, hi⟩ := List.getElem?_of_mem hr
          exact ⟨(hrow i r hi).1, (hrow i r hi).2.1⟩
        refine ⟨[.sl rows], .sl rows ht fun r hr => (hconf r hr).1, by simp [h1], .psCons _ _ _ _ ?_ .psNil⟩
        by_cases h0 : len = 0
        · subst h0
          have : rows = [] := List.length_eq_zero_iff.1 hrows
          subst this
          exact .nil (some a) cap
        · obtain ⟨_, _, _, cs', q1, q2⟩ := each 0 (by omega)
          obtain ⟨_, q3, q4⟩ := World.cells?_some q1
          have q5 := q4 0 (by omega)
          rw [List.getElem?_eq_getElem (by omega)] at q5
          have e1 : (a.add (0 * P.cellsOf e)).add 0 = a := by simp [Addr.add]
          rw [e1] at q5
          obtain ⟨z1, z2, _⟩ := cell_lt q5
          obtain ⟨b, off, spot⟩ := a
          simp only at z1 z2
          subst z2
          have hM : reachBytes ≤ MaxN := by decide
          have := Rel.sl (A := inHeap w) (w := w) rows b off cap (P.cellsOf e) z1 (fun r hr => (hconf r hr).2) (by omega) (by omega) (flat_at (fun r hr => (hconf r hr).2) fun i r hi => by
            obtain ⟨_, s2, cs', s3, s4⟩ := hrow i r hi
            obtain ⟨_, s5, s6⟩ := World.cells?_some s3
            refine PAt.of_get fun j v hj => ?_
            obtain ⟨x, hx, hr⟩ := (PRels.all2.1 s4).get j v hj
            refine ⟨x, ?_, hr⟩
            have := s6 j (by have := (List.getElem?_eq_some_iff.1 hj).1; omega)
            rw [add_none, add_none, hx] at this
            exact this)
          rw [hrows] at this
          exact this
    · rename_i fs ht
      simp only [Bool.and_eq_true] at h
      obtain ⟨xs, m', _, hx, hl, hxl, hf⟩ := DataW.trod_struct ht hd
      simp only [Prod.mk.injEq] at hx
      obtain ⟨rfl, _⟩ := hx
      simp only [DataW.weights, ht] at hw
      obtain ⟨parts, p1, p2, p3⟩ := reads_fields (m := m') hl (reads n) fs.toList 0 xs h.1 h.2 (by simpa using hxl) (fun i f hi => hf i f (by simpa using hi)) hw (Nat.zero_le _)
      exact ⟨parts.flatten, .st parts ht p1, by simpa using p2, by simpa using p3⟩
    · cases h
end
def ArgOk (P : Program) (t : TypeId) (d : DV) : Prop :=
  match P.underlying t with
  | some (.struct _) => ∃ vs, d = .agg vs ∧ Conf P t vs
  | _ => ∃ v, d = .one v ∧ Conf P t [v]
theorem arg_reads {H : Type} {enc : TypeId × Value → H} {P : Program} {w : World} {base n : Nat} {t : TypeId} {v : Value} {d : DataW H} {ps : List MemPlace} (ht : okTy P n t = true) (hv : Value.okWide P w .any base t v)
    (hd : DataW.Trod enc P w 0 (fun _ => true) true t v d ps) (hw : (d.weights P t).all (· ≤ reachBytes) = true) : ∃ x, ArgOk P t x ∧ DRel (inHeap w) w x v := by
  obtain ⟨m, hd⟩ := hd
  obtain ⟨vs, h1, h2, h3⟩ := reads n t ht m _ d ps hd hw
  have one : (∀ xs, v ≠ .agg xs) → P.cellsOf t = 1 → ∃ c, vs = [c] ∧ DRel (inHeap w) w (.one c) v := by
    intro hn hc
    have hcell : v.cells.toList = [v] := by cases v <;> first | rfl | exact absurd rfl (hn _)
    rw [hcell] at h3
    cases h3 with
    | psCons c _ cs _ h t =>
      cases t
      exact ⟨c, rfl, .d1 (.one h)⟩
  cases n with
  | zero => simp [okTy] at ht
  | succ n =>
  unfold okTy at ht
  unfold ArgOk
  unfold Value.okWide at hv
  split at ht
  · rename_i hu
    simp only [hu] at hv ⊢
    obtain ⟨c, rfl, hr⟩ := one (fun xs e => by subst e; simp [Cell.okWide, Cell.ok, hu] at hv) (by simpa using ht)
    exact ⟨_, ⟨c, rfl, h1⟩, hr⟩
  · rename_i k hu
    simp only [hu] at hv ⊢
    obtain ⟨c, rfl, hr⟩ := one (fun xs e => by subst e; simp [Cell.okWide, Cell.ok, hu] at hv) (by simpa using ht)
    exact ⟨_, ⟨c, rfl, h1⟩, hr⟩
  · rename_i hu
    simp only [hu] at hv ⊢
    obtain ⟨c, rfl, hr⟩ := one (fun xs e => by subst e; simp [Cell.okWide, Cell.ok, hu] at hv) (by simpa using ht)
    exact ⟨_, ⟨c, rfl, h1⟩, hr⟩
  · rename_i e hu
    simp only [hu] at hv ⊢
    simp only [Bool.and_eq_true, beq_iff_eq] at ht
    obtain ⟨c, rfl, hr⟩ := one (fun xs e => by subst e; simp [Cell.okWide, Cell.ok, hu] at hv) ht.1.1.1
    exact ⟨_, ⟨c, rfl, h1⟩, hr⟩
  · rename_i fs hu
    simp only [hu] at hv ⊢
    obtain ⟨cs, rfl, _, _⟩ := hv
    exact ⟨_, ⟨vs, rfl, h1⟩, .d1 (.agg (PRels.all2.1 h3))⟩
  · cases ht
theorem args_read {H : Type} {enc : TypeId × Value → H} {P : Program} {w : World} {base n : Nat} : ∀ {ts : List TypeId} {vs : List Value} {ds : List (DataW H)} {ps : List MemPlace}, (ts.all fun t => okTy P n t) = true →
    (∀ (j : Nat) t v, ts[j]? = some t → vs[j]? = some v → Value.okWide P w .any base t v) → DataW.TrodAll enc P w 0 (fun _ => true) true ts vs ds ps → (DataW.weightsEach P ts ds).all (· ≤ reachBytes) = true →
    ∃ xs, All2 (ArgOk P) ts xs ∧ All2 (DRel (inHeap w) w) xs vs
  | [], vs, ds, ps, _, _, h, _ => by
    cases vs <;> cases ds <;> simp [DataW.TrodAll] at h
    exact ⟨[], .nil, .nil⟩
  | t :: ts, vs, ds, ps, ht, hv, h, hw => by
    obtain ⟨v, vs', d, ds', p, q, rfl, rfl, rfl, h1, h2⟩ := Go.ChangeShapes.trodAll_cons h
    simp only [List.all_cons, Bool.and_eq_true] at ht
    simp only [DataW.weightsEach, List.all_append, Bool.and_eq_true] at hw
    obtain ⟨x, a1, a2⟩ := arg_reads ht.1 (hv 0 t v rfl rfl) h1 hw.1
    obtain ⟨xs, b1, b2⟩ := args_read ht.2 (fun j t v h3 h4 => hv (j + 1) t v (by simpa using h3) (by simpa using h4)) h2 hw.2
    exact ⟨x :: xs, .cons a1 b1, .cons a2 b2⟩
theorem args_carry {H : Type} {enc : TypeId × Value → H} {P : Program} (hl : laidOutB P = true) {W W' : World} {sp : Nat → Bool} : ∀ {ts : List TypeId} {vs : List Value} {ds : List (DataW H)} {ps : List MemPlace},
    (ts.all fun t => P.readableRec t && decide (t < P.types.size)) = true → DataW.TrodAll enc P W 0 (fun _ => true) true ts vs ds ps → (∀ p ∈ ps, W.sameAt W' p) → (∀ p ∈ ps, sp p.block = true) → DataW.TrodAll enc P W' 0 sp true ts vs ds ps
  | [], vs, ds, ps, _, h, _, _ => by cases vs <;> cases ds <;> simp [DataW.TrodAll] at h ⊢; exact h
  | t :: ts, vs, ds, ps, ht, h, h1, h2 => by
    obtain ⟨v, vs', d, ds', p, q, rfl, rfl, rfl, h3, h4⟩ := Go.ChangeShapes.trodAll_cons h
    simp only [List.all_cons, Bool.and_eq_true, decide_eq_true_eq] at ht
    exact ⟨p, q, Go.WideElems.Trod_stays hl ht.1.1 ht.1.2 h3 (fun x hx => h1 x (by simp [hx])) (fun x hx => h2 x (by simp [hx])), args_carry hl ht.2 h4 (fun x hx => h1 x (by simp [hx])) (fun x hx => h2 x (by simp [hx])), rfl⟩
theorem law_lifted {C : Checked} {os : Os} {f : FuncId} {fn : Func} {spec : ChangeSpec} {conds : List PathCond} {H : Type} {enc : TypeId × Value → H} {tb : TypeId} (n : Nat)
    (own : ownKnob C.prog.godebug = none) (started : os.Started) (noInit : C.prog.inits.idxOf? f = none) (hfn : C.prog.funcs[f]? = some fn)
    (witness : ∃ (w : World) (tape : Tape) (i : Input), w.os = os ∧ (w.forCall tape i).Shaped C.prog ∧ i.vars = [] ∧ Input.okWide C.prog (w.forCall tape i) .any w.heap.size f i ∧
      spec.pre6 enc C.prog fn conds false (w.forCall tape i).memory i.args ∧ ({} : Assume).holds C.prog (lone (Frame.enter C.prog f i.args .normal) [] (w.forCall tape i)))
    (hl : laidOutB C.prog = true) (hts : (fn.params.toList.all fun t => okTy C.prog n t) = true) (hrd : (fn.params.toList.all fun t => C.prog.readableRec t && decide (t < C.prog.types.size)) = true)
    (hvars : spec.vars = []) (hres : fn.resultTypes = #[tb]) (hb : C.prog.underlying tb = some .bool)
    (hspec : ∀ ds : List (DataW H), ds.length = fn.params.size → spec.fn H ds = { results := [.lit (.bool true)], args := ds })
    (law : ∀ xs, All2 (ArgOk C.prog) fn.params.toList xs → PureC C.prog f xs (.one (.bool true))) :
    ReturnsInHanded {} C os f .any (spec.pre6 enc C.prog fn conds false) (spec.post enc C.prog fn false true false false) := by
  refine returnsInHanded_of_change_shaped own started noInit hfn witness ?_
  intro W base args ds gs before hval hW _ hwt _ _
  obtain ⟨p, q, hA, hV, rfl, hfz, hnd⟩ := id hW
  rw [hvars] at hV
  have hgs : gs = [] ∧ q = [] := by
    cases gs with
    | nil => simp only [DataW.TrodVars] at hV; exact ⟨rfl, hV⟩
    | cons _ _ => exact hV.elim
  obtain ⟨rfl, rfl⟩ := hgs
  have hvt : spec.plain.varTypes C.prog = [] := by
    simp [DataSpec.varTypes, ChangeSpec.plain, hvars]
  rw [hvt, List.append_nil, List.append_nil] at hwt
  obtain ⟨xs, h1, h2⟩ := args_read hts (fun j t v h3 h4 => hval j t v (by simpa using h3) (by simpa using h4)) hA hwt
  have hlen : ds.length = fn.params.size := by
    have key : ∀ {ts : List TypeId} {vs : List Value} {ds : List (DataW H)} {ps : List MemPlace}, DataW.TrodAll enc C.prog W 0 (fun _ => true) true ts vs ds ps → ds.length = ts.length := by
      intro ts
      induction ts with
      | nil => intro vs ds ps h; cases vs <;> cases ds <;> simp [DataW.TrodAll] at h ⊢
      | cons t ts ih =>
        intro vs ds ps h
        obtain ⟨_, _, _, _, _, _, rfl, rfl, _, _, h4⟩ := Go.ChangeShapes.trodAll_cons h
        simp [ih h4]
    simpa using key hA
  have hsp := hspec ds hlen
  have hcall := (law xs h1).calls (inHeap W) W args.toList (fun _ hb => hb) h2
  refine Calls.mono (by simpa using hcall) ?_
  rintro e W' ⟨x, rfl, hbel, hr⟩
  have hx : x = .bool true := by
    cases hr with | d1 h => cases h with | one h => cases h; rfl
  subst hx
  refine ⟨_, rfl, ds, [], p ++ [], [], p, [], hW, ?_, ?_, ?_, hbel.frame _, fun h => by cases h⟩
  · rw [List.append_nil, hsp, hres]
    exact Go.ChangeShapes.trodAll_mk1 (Go.RowKit.shut_bool hb true)
  · rw [List.append_nil, hsp]
    exact args_carry hl hrd hA (fun x hx => hbel.same (hW.lt x (by simpa using hx))) (fun x hx => by simpa using hW.lt x (by simpa using hx))
  · rw [List.append_nil, hsp, hvars]
    rfl
end Go.AM

namespace Go.AM
open Go Go.Proofs Go.Proofs.Ytcmbjbmghoopcaa
set_option maxRecDepth 100000

theorem wf_i64 {n : Int} (h : (Lit.int .i64 n).wf = true) : -9223372036854775808 ≤ n ∧ n < 9223372036854775808 := by
  simp only [Lit.wf, IntKind.has, IntKind.min, IntKind.max, IntKind.bits, IntKind.signed] at h
  simp at h
  omega
theorem conf_int {v : List PV} (h : Conf Try.prog 3 v) : ∃ n : Int, v = [.int .i64 n] ∧ -9223372036854775808 ≤ n ∧ n < 9223372036854775808 := by
  have hu := Try.underlying3
  cases h with
  | bool b ht => rw [hu] at ht; cases ht
  | int n ht hw => rw [hu] at ht; cases ht; exact ⟨n, rfl, wf_i64 hw⟩
  | str s ht => rw [hu] at ht; cases ht
  | sl rows ht h => rw [hu] at ht; cases ht
  | st parts ht h => rw [hu] at ht; cases ht
def i64s (s : List Int) : Prop := ∀ n ∈ s, -9223372036854775808 ≤ n ∧ n < 9223372036854775808
theorem conf_rows : ∀ {rows : List (List PV)}, (∀ r ∈ rows, Conf Try.prog 3 r) → ∃ s : List Int, rows = rI s ∧ i64s s
  | [], _ => ⟨[], rfl, fun n hn => by simp at hn⟩
  | r :: rows, h => by
    obtain ⟨n, rfl, hn⟩ := conf_int (h r (by simp))
    obtain ⟨s, rfl, hs⟩ := conf_rows (rows := rows) fun r hr => h r (by simp [hr])
    exact ⟨n :: s, rfl, fun m hm => by
      rcases List.mem_cons.1 hm with rfl | hm
      · exact hn
      · exact hs m hm⟩
theorem conf_ints {v : List PV} (h : Conf Try.prog 22 v) : ∃ s : List Int, v = [eI s] ∧ i64s s := by
  have hu := Try.underlying22
  cases h with
  | bool b ht => rw [hu] at ht; cases ht
  | int n ht hw => rw [hu] at ht; cases ht
  | str s ht => rw [hu] at ht; cases ht
  | sl rows ht h =>
    rw [hu] at ht; cases ht
    obtain ⟨s, rfl, hs⟩ := conf_rows h
    exact ⟨s, rfl, hs⟩
  | st parts ht h => rw [hu] at ht; cases ht
theorem conf_T {v : List PV} (h : Conf Try.prog 24 v) : ∃ s d : List Int, v = [eI s, eI d] ∧ i64s s ∧ i64s d := by
  have hu := Try.underlying24
  cases h with
  | bool b ht => rw [hu] at ht; cases ht
  | int n ht hw => rw [hu] at ht; cases ht
  | str s ht => rw [hu] at ht; cases ht
  | sl rows ht h => rw [hu] at ht; cases ht
  | st parts ht h =>
    rw [hu] at ht; cases ht
    cases h with | cons h1 h => cases h with | cons h2 h => cases h with | nil =>
      obtain ⟨s, rfl, hs⟩ := conf_ints h1
      obtain ⟨d, rfl, hd⟩ := conf_ints h2
      exact ⟨s, d, rfl, hs, hd⟩
theorem arg_T {d : DV} (h : ArgOk Try.prog 24 d) : ∃ s e : List Int, d = dT s e ∧ i64s s ∧ i64s e := by
  unfold ArgOk at h
  rw [Try.underlying24] at h
  obtain ⟨vs, rfl, h⟩ := h
  obtain ⟨s, e, rfl, hs, he⟩ := conf_T h
  exact ⟨s, e, rfl, hs, he⟩
theorem arg_N {d : DV} (h : ArgOk Try.prog 3 d) : ∃ n : Int, d = dN n ∧ -9223372036854775808 ≤ n ∧ n < 9223372036854775808 := by
  unfold ArgOk at h
  rw [Try.underlying3] at h
  obtain ⟨v, rfl, h⟩ := h
  obtain ⟨s, e, hs⟩ := conf_int h
  cases e
  exact ⟨s, rfl, hs⟩
theorem own : ownKnob Try.prog.godebug = none := by kernel_rfl
theorem laidOut : laidOutB Try.prog = true := by kernel_rfl
end Go.AM

