import Derived.Test.YtcmbjbmghoopcaaMu2
import Derived.Lib.Mul64
set_option linter.unusedVariables false
set_option linter.unusedSimpArgs false
namespace Go.AM
open Go Go.Proofs
set_option maxRecDepth 100000
abbrev eI (s : List Int) : PV := .sl (s.map fun n => [.int .i64 n])
abbrev dI (s : List Int) : DV := .one (eI s)
abbrev dB (b : Bool) : DV := .one (.bool b)
abbrev dN (n : Int) : DV := .one (.int .i64 n)
theorem all1 (s : List Int) : (s.map fun n => [PV.int .i64 n]).all (fun r => r.length == 1) = true := by
  simp
def chk : List Int → Int → Int
  | [], n => n
  | x :: r, n => if x < 1 ∨ x > 16 then 0 else chk r (IntKind.i64.wrap (n * x))
def checkS (s : List Int) : Bool := !decide ((s.length : Int) > 3) && (decide (chk s 1 > 0) && decide (chk s 1 ≤ 64))
theorem p_shape_Check (s : List Int) : PureC Try.prog fi_shape_Check [dI s] (dB (checkS s)) := by
  refine pure_shape_Check (by simp) fun G hP hn => ?_
  unfold a_shape_Check
  refine T_wf 0 fun hl => ?_
  simp only [initE, lk, dI, eI, DV.av, wf_one, wf_sl, if_true, List.length_map] at hl
  repeat' (first     | refine T_then ?_ | refine then_ret ?_ | refine then_exit ?_ | refine then_goto ?_     | refine rnd_exit ?_ | refine rnd_ret ?_ | refine rnd_goto ?_     | refine noGo_normal ?_ | refine noGo_ret ?_ | refine noGo_exit ?_ | refine jmp_normal ?_ | refine jmp_ret ?_ | refine jmp_exit ?_ | refine jmp_goto ?_     | refine inB_normal ?_ | refine inB_ret ?_ | refine inB_goto ?_ | refine inB_exit ?_ | refine inB_exit_ne rfl ?_     | ((first | apply T_sr fw | apply T_reg fw); · ((try simp only [go_sem, seval, reduceIte, ↓reduceIte]); (repeat ((first       | (refine ⟨true, false, rfl, fun h => absurd h (by decide), ?_⟩) | (refine ⟨false, false, rfl, fun h => absurd h (by decide), ?_⟩) | refine ⟨_, _, rfl, fun _ => rfl, ?_⟩); (try simp only [go_sem, seval, reduceIte, ↓reduceIte]))); (first | done | exact rfl)))     | ((first | apply T_sdF fw (by rw [hP]; rfl) (by decide +kernel) | apply T_drF fw (by rw [hP]; rfl) (by decide +kernel)); · ((try simp only [TOps.flat, List.cons_append, List.nil_append]); (repeat ((first | refine Y_g0 ?_ | refine Y_g (by (try simp only [go_sem, seval, reduceIte, ↓reduceIte, Bool.not_eq_true, reduceCtorEq, beq_false, beq_true]); (first | done | exact rfl)) ?_); (first | refine Y_skip ?_ | ((first | apply Y_q); (· ((try simp only [go_sem, seval, reduceIte, ↓reduceIte, Bool.not_eq_true, reduceCtorEq, beq_false, beq_true]); (first | done | exact rfl))))))); apply RunF_nil; (try simp only [go_sem, seval, reduceIte, ↓reduceIte, Bool.not_eq_true, reduceCtorEq, beq_false, beq_true]); (first | done | exact rfl)))     | ((first | apply T_sd fw (by rw [hP]; rfl) | apply T_dr fw (by rw [hP]; rfl)); · ((try simp only [go_sem, seval, reduceIte, ↓reduceIte, bne, beq_false, beq_true, Bool.not_eq_true, Bool.if_true_right, decide_not, reduceCtorEq]); (first | done | exact rfl)))     | refine T_seq ?_ | refine T_block ?_ | refine T_scopeJ 0 rfl ?_ | refine T_scope ?_ | refine T_goto ?_ | refine T_ret ?_ | refine T_skip ?_ | refine T_exit ?_ | refine T_label ?_     | refine T_condT rfl ?_ | refine T_condF rfl ?_     | refine T_condD rfl (fun _ => ?_) (fun _ => ?_)     | refine T_cond rfl (fun _ => ?_) (fun _ => ?_))
  · rename_i h
    exact ends_ret rfl rfl rfl (by simp [resD, checkS, h])
  · rename_i h
    refine T_for s.length (fun i acc => { env := [(3, .one (.p (.int .i64 acc))), (9, .one (.p (eI s))), (10, .one (.p (.int .i64 s.length))), (11, .one (.p (.int .i64 i)))], σ := [] })
      (fun i acc => chk (s.drop i) acc = chk s 1) 1 rfl (.refl _ _) fun i acc hi hc => ?_
    rcases nth hi with ⟨x, hlt, hx, hd⟩ | ⟨rfl, hd⟩
    · have hw := wrap_succ hlt hl.1
      rw [hd] at hc
      repeat' (first     | refine T_then ?_ | refine then_ret ?_ | refine then_exit ?_ | refine then_goto ?_     | refine rnd_exit ?_ | refine rnd_ret ?_ | refine rnd_goto ?_     | refine noGo_normal ?_ | refine noGo_ret ?_ | refine noGo_exit ?_ | refine jmp_normal ?_ | refine jmp_ret ?_ | refine jmp_exit ?_ | refine jmp_goto ?_     | refine inB_normal ?_ | refine inB_ret ?_ | refine inB_goto ?_ | refine inB_exit ?_ | refine inB_exit_ne rfl ?_     | ((first | apply T_sr fw | apply T_reg fw); · ((try simp only [go_sem, seval, reduceIte, ↓reduceIte, hx, hlt, hw]); (repeat ((first       | (refine ⟨true, false, rfl, fun h => absurd h (by decide), ?_⟩) | (refine ⟨false, false, rfl, fun h => absurd h (by decide), ?_⟩) | refine ⟨_, _, rfl, fun _ => rfl, ?_⟩); (try simp only [go_sem, seval, reduceIte, ↓reduceIte, hx, hlt, hw]))); (first | done | exact rfl)))     | ((first | apply T_sdF fw (by rw [hP]; rfl) (by decide +kernel) | apply T_drF fw (by rw [hP]; rfl) (by decide +kernel)); · ((try simp only [TOps.flat, List.cons_append, List.nil_append]); (repeat ((first | refine Y_g0 ?_ | refine Y_g (by (try simp only [go_sem, seval, reduceIte, ↓reduceIte, Bool.not_eq_true, reduceCtorEq, beq_false, beq_true, hx, hlt, hw]); (first | done | exact rfl)) ?_); (first | refine Y_skip ?_ | ((first | apply Y_q); (· ((try simp only [go_sem, seval, reduceIte, ↓reduceIte, Bool.not_eq_true, reduceCtorEq, beq_false, beq_true, hx, hlt, hw]); (first | done | exact rfl))))))); apply RunF_nil; (try simp only [go_sem, seval, reduceIte, ↓reduceIte, Bool.not_eq_true, reduceCtorEq, beq_false, beq_true, hx, hlt, hw]); (first | done | exact rfl)))     | ((first | apply T_sd fw (by rw [hP]; rfl) | apply T_dr fw (by rw [hP]; rfl)); · ((try simp only [go_sem, seval, reduceIte, ↓reduceIte, bne, beq_false, beq_true, Bool.not_eq_true, Bool.if_true_right, decide_not, reduceCtorEq, hx, hlt, hw]); (first | done | exact rfl)))     | refine T_seq ?_ | refine T_block ?_ | refine T_scopeJ 0 rfl ?_ | refine T_scope ?_ | refine T_goto ?_ | refine T_ret ?_ | refine T_skip ?_ | refine T_exit ?_ | refine T_label ?_     | refine T_condT rfl ?_ | refine T_condF rfl ?_     | refine T_condD rfl (fun _ => ?_) (fun _ => ?_)     | refine T_cond rfl (fun _ => ?_) (fun _ => ?_))
      · rename_i h2
        refine ends_ret rfl rfl rfl ?_
        have h3 : chk s 1 = 0 := by rw [← hc]; simp only [chk]; rw [if_pos (by simpa using h2)]
        simp [resD, checkS, h3]
      · rename_i h2
        refine rnd_next hlt _ ?_ (.refl _ _)
        rw [← hc]; simp only [chk]; rw [if_neg (by simpa using h2)]
    · rw [hd] at hc
      repeat' (first     | refine T_then ?_ | refine then_ret ?_ | refine then_exit ?_ | refine then_goto ?_     | refine rnd_exit ?_ | refine rnd_ret ?_ | refine rnd_goto ?_     | refine noGo_normal ?_ | refine noGo_ret ?_ | refine noGo_exit ?_ | refine jmp_normal ?_ | refine jmp_ret ?_ | refine jmp_exit ?_ | refine jmp_goto ?_     | refine inB_normal ?_ | refine inB_ret ?_ | refine inB_goto ?_ | refine inB_exit ?_ | refine inB_exit_ne rfl ?_     | ((first | apply T_sr fw | apply T_reg fw); · ((try simp only [go_sem, seval, reduceIte, ↓reduceIte, Int.lt_irrefl, Nat.lt_irrefl]); (repeat ((first       | (refine ⟨true, false, rfl, fun h => absurd h (by decide), ?_⟩) | (refine ⟨false, false, rfl, fun h => absurd h (by decide), ?_⟩) | refine ⟨_, _, rfl, fun _ => rfl, ?_⟩); (try simp only [go_sem, seval, reduceIte, ↓reduceIte, Int.lt_irrefl, Nat.lt_irrefl]))); (first | done | exact rfl)))     | ((first | apply T_sdF fw (by rw [hP]; rfl) (by decide +kernel) | apply T_drF fw (by rw [hP]; rfl) (by decide +kernel)); · ((try simp only [TOps.flat, List.cons_append, List.nil_append]); (repeat ((first | refine Y_g0 ?_ | refine Y_g (by (try simp only [go_sem, seval, reduceIte, ↓reduceIte, Bool.not_eq_true, reduceCtorEq, beq_false, beq_true, Int.lt_irrefl, Nat.lt_irrefl]); (first | done | exact rfl)) ?_); (first | refine Y_skip ?_ | ((first | apply Y_q); (· ((try simp only [go_sem, seval, reduceIte, ↓reduceIte, Bool.not_eq_true, reduceCtorEq, beq_false, beq_true, Int.lt_irrefl, Nat.lt_irrefl]); (first | done | exact rfl))))))); apply RunF_nil; (try simp only [go_sem, seval, reduceIte, ↓reduceIte, Bool.not_eq_true, reduceCtorEq, beq_false, beq_true, Int.lt_irrefl, Nat.lt_irrefl]); (first | done | exact rfl)))     | ((first | apply T_sd fw (by rw [hP]; rfl) | apply T_dr fw (by rw [hP]; rfl)); · ((try simp only [go_sem, seval, reduceIte, ↓reduceIte, bne, beq_false, beq_true, Bool.not_eq_true, Bool.if_true_right, decide_not, reduceCtorEq, Int.lt_irrefl, Nat.lt_irrefl]); (first | done | exact rfl)))     | refine T_seq ?_ | refine T_block ?_ | refine T_scopeJ 0 rfl ?_ | refine T_scope ?_ | refine T_goto ?_ | refine T_ret ?_ | refine T_skip ?_ | refine T_exit ?_ | refine T_label ?_     | refine T_condT rfl ?_ | refine T_condF rfl ?_     | refine T_condD rfl (fun _ => ?_) (fun _ => ?_)     | refine T_cond rfl (fun _ => ?_) (fun _ => ?_))
      refine ends_ret rfl rfl rfl ?_
      simp only [chk] at hc
      simp [resD, checkS, hc]; omega
def prodW : List Int → Int → Int
  | [], n => n
  | x :: r, n => prodW r (IntKind.i64.wrap (n * x))
def sizeS (s : List Int) : Int := if checkS s then prodW s 1 else 0
theorem p_shape_Size (s : List Int) : PureC Try.prog fi_shape_Size [dI s] (dN (sizeS s)) := by
  refine pure_shape_Size (by simp) fun G hP hn => ?_
  unfold a_shape_Size
  refine T_wf 0 fun hl => ?_
  simp only [initE, lk, dI, eI, DV.av, wf_one, wf_sl, if_true, List.length_map] at hl
  repeat' (first     | refine T_then ?_ | refine then_ret ?_ | refine then_exit ?_ | refine then_goto ?_     | refine rnd_exit ?_ | refine rnd_ret ?_ | refine rnd_goto ?_     | refine noGo_normal ?_ | refine noGo_ret ?_ | refine noGo_exit ?_ | refine jmp_normal ?_ | refine jmp_ret ?_ | refine jmp_exit ?_ | refine jmp_goto ?_     | refine inB_normal ?_ | refine inB_ret ?_ | refine inB_goto ?_ | refine inB_exit ?_ | refine inB_exit_ne rfl ?_     | ((first | apply T_sr fw | apply T_reg fw); · ((try simp only [go_sem, seval, reduceIte, ↓reduceIte, hP]); (repeat ((first       | (refine ⟨true, false, rfl, fun h => absurd h (by decide), ?_⟩) | (refine ⟨false, false, rfl, fun h => absurd h (by decide), ?_⟩) | refine ⟨_, _, rfl, fun _ => rfl, ?_⟩       | (refine .inl ⟨_, _, ⟨_, _, _, _, _, _, rfl, rfl, rfl, p_shape_Check _⟩, ?_⟩)       | (refine ⟨_, ?_, rfl, fun _ => ⟨_, ⟨_, _, _, _, _, _, rfl, rfl, rfl, p_shape_Check _⟩, ?_⟩, ?_⟩; rotate_left; (· (simp only [go_sem, seval, reduceIte, ↓reduceIte, hP]; first | done | exact rfl)))); (try simp only [go_sem, seval, reduceIte, ↓reduceIte, hP]))); (first | done | exact rfl)))     | ((first | apply T_sdF fw (by rw [hP]; rfl) (by decide +kernel) | apply T_drF fw (by rw [hP]; rfl) (by decide +kernel)); · ((try simp only [TOps.flat, List.cons_append, List.nil_append]); (repeat ((first | refine Y_g0 ?_ | refine Y_g (by (try simp only [go_sem, seval, reduceIte, ↓reduceIte, Bool.not_eq_true, reduceCtorEq, beq_false, beq_true, hP]); (first | done | exact rfl)) ?_); (first | refine Y_skip ?_ | ((first | apply Y_q | (refine Y_call ⟨_, _, _, _, _, _, rfl, rfl, rfl, (by rw [hP]; exact p_shape_Check _)⟩ ?_ ?_)); (· ((try simp only [go_sem, seval, reduceIte, ↓reduceIte, Bool.not_eq_true, reduceCtorEq, beq_false, beq_true, hP]); (first | done | exact rfl))))))); apply RunF_nil; (try simp only [go_sem, seval, reduceIte, ↓reduceIte, Bool.not_eq_true, reduceCtorEq, beq_false, beq_true, hP]); (first | done | exact rfl)))     | ((first | apply T_sd fw (by rw [hP]; rfl) | apply T_dr fw (by rw [hP]; rfl)); · ((try simp only [go_sem, seval, reduceIte, ↓reduceIte, bne, beq_false, beq_true, Bool.not_eq_true, Bool.if_true_right, decide_not, reduceCtorEq, hP]); (repeat ((first       | (refine ⟨_, ⟨_, _, _, _, _, _, rfl, rfl, rfl, p_shape_Check _⟩, ?_⟩)); (try simp only [go_sem, seval, reduceIte, ↓reduceIte, bne, beq_false, beq_true, Bool.not_eq_true, Bool.if_true_right, decide_not, reduceCtorEq, hP]))); (first | done | exact rfl)))     | refine T_seq ?_ | refine T_block ?_ | refine T_scopeJ 0 rfl ?_ | refine T_scope ?_ | refine T_goto ?_ | refine T_ret ?_ | refine T_skip ?_ | refine T_exit ?_ | refine T_label ?_     | refine T_condT rfl ?_ | refine T_condF rfl ?_     | refine T_condD rfl (fun _ => ?_) (fun _ => ?_)     | refine T_cond rfl (fun _ => ?_) (fun _ => ?_))
  · rename_i h
    exact ends_ret rfl rfl rfl (by simp at h; simp [resD, sizeS, h])
  · rename_i h
    refine T_for s.length (fun i acc => { env := [(3, .one (.p (.int .i64 acc))), (9, .one (.p (eI s))), (10, .one (.p (.int .i64 s.length))), (11, .one (.p (.int .i64 i)))], σ := [] })
      (fun i acc => prodW (s.drop i) acc = prodW s 1) 1 rfl (.refl _ _) fun i acc hi hc => ?_
    rcases nth hi with ⟨x, hlt, hx, hd⟩ | ⟨rfl, hd⟩
    · have hw := wrap_succ hlt hl.1
      rw [hd] at hc
      refine go (aa hx <| aa hlt hw) trivial ?_
      exact rnd_next hlt _ hc (.refl _ _)
    · rw [hd] at hc
      refine go trivial trivial ?_
      refine ends_ret rfl rfl rfl ?_
      simp only [prodW] at hc
      simp at h
      simp [resD, sizeS, h, hc]
abbrev rI (s : List Int) : List (List PV) := s.map fun n => [.int .i64 n]
theorem m_slices_Clone (s : List Int) (hs : s.length ≤ 2 ^ 36) : MutC Try.prog fi_slices_Clone_int_int [.one (.p (eI s))] [] (.one (.msl 5 0 1 s.length none)) [(5, .arr true 1 (rI s))] [5] := by
  refine mut_slices_Clone_int_int (by simp) fun G ex hP hn hfr => ?_
  unfold a_slices_Clone_int_int
  have hfr := hfr 5 (by simp)
  refine go trivial trivial ?_
  refine T_eqnil fw (by decide) rfl fun b hb => ?_
  simp only [AS.keep, List.map, lk, lo, Nat.reduceEqDiff, if_true, if_false, restS, List.filter, ddS, List.length, List.nil_append, initV]
  have h8 : s.length * 8 ≤ 2 ^ 40 := by omega
  have h9 : s.length ≤ 2 ^ 40 := by omega
  cases b
  · refine go (aa @all1 <| aa h8 <| aa h9 <| aa hfr (scr_ex hfr)) trivial ?_
    exact endsM_ret rfl rfl rfl (by simp [lo]) rfl
  · have hs0 : s = [] := by simpa using hb rfl
    subst hs0
    refine T_then ?_
    refine T_condT rfl ?_
    refine T_sr fw (S := { env := [(2, .one .nils)], σ := [], ex := ex }) ?_ ?_
    · simp only [go_sem, seval, reduceIte, ↓reduceIte]
    · refine T_nils 2 5 1 rfl (by simp [AS.nr, AV.has, AC.has]; simpa using hfr) rfl ?_
      refine go trivial trivial ?_
      exact endsM_ret rfl rfl rfl (by simp [lo]) rfl
theorem rI_set (l : List Int) (i : Nat) (y : Int) : (rI l).set i [.int .i64 y] = rI (l.set i y) := by
  simp [List.map_set]
end Go.AM

namespace Go.AM
open Go Go.Proofs
set_option maxRecDepth 100000
abbrev dT (s d : List Int) : DV := .agg [eI s, eI d]
def checkT (s d : List Int) : Bool := checkS s && ((d.length : Int) == sizeS s)
theorem p_tensor_Check (s d : List Int) : PureC Try.prog fi_tensor_Check [dT s d] (dB (checkT s d)) := by
  refine pure_tensor_Check (by simp) fun G hP hn => ?_
  unfold a_tensor_Check
  cases hc : checkS s
  · refine go hc (aa @p_shape_Check @p_shape_Size) ?_
    exact ends_ret rfl rfl rfl (by simp [resD, checkT, hc])
  · refine go hc (aa @p_shape_Check @p_shape_Size) ?_
    exact ends_ret rfl rfl rfl (by simp [resD, checkT, hc])
end Go.AM

namespace Go.AM
open Go Go.Proofs
set_option maxRecDepth 100000
abbrev dNE (p : Int × Int) : DV := .tup [dN p.1, dN p.2]
def plW : List Int → List Int → Int → Int × Int
  | n :: s, k :: x, a => if k < 0 ∨ k ≥ n then (0, 20) else plW s x (IntKind.i64.wrap (IntKind.i64.wrap (a * n) + k))
  | _, _, a => (a, 0)
def placeF (s x : List Int) : Int × Int := if (!checkS s || ((x.length : Int) != s.length)) = true then (0, 20) else plW s x 0
end Go.AM

namespace Go.AM
open Go Go.Proofs
set_option maxRecDepth 100000
def digs : List Int → Int → List Int
  | [], _ => []
  | n :: r, p => p.tmod n :: digs r (IntKind.i64.wrap (p.tdiv n))
def idxF (s : List Int) (p : Int) : List Int := (digs s.reverse p).reverse
theorem chk_pos : ∀ {s : List Int} {a : Int}, chk s a > 0 → ∀ m ∈ s, 1 ≤ m ∧ m ≤ 16
  | [], _, _, m, hm => by simp at hm
  | x :: r, a, h, m, hm => by
    simp only [chk] at h
    split at h
    · omega
    · rename_i hx
      rcases List.mem_cons.1 hm with rfl | hm
      · omega
      · exact chk_pos h m hm
theorem check_pos {s : List Int} (h : checkS s = true) : ∀ m ∈ s, 1 ≤ m ∧ m ≤ 16 := by
  simp only [checkS, Bool.and_eq_true, decide_eq_true_eq] at h
  exact chk_pos h.2.1
theorem check_len {s : List Int} (h : checkS s = true) : s.length ≤ 3 := by
  simp [checkS] at h; omega
end Go.AM

namespace Go.AM
open Go Go.Proofs
set_option maxRecDepth 100000

theorem p_ref02_product (s : List Int) : PureC Try.prog fi_fullerref02_product [dI s] (dN (prodW s 1)) := by
  refine pure_fullerref02_product (by simp) fun G hP hn => ?_
  unfold a_fullerref02_product
  refine T_wf 0 fun hl => ?_
  simp only [initE, lk, dI, eI, DV.av, wf_one, wf_sl, if_true, List.length_map] at hl
  refine go trivial trivial ?_
  refine T_for s.length (fun i acc => { env := [(0, .one (.p (eI s))), (3, .one (.p (.int .i64 acc))), (4, .one (.p (.int .i64 i)))], σ := [] })
    (fun i acc => prodW (s.drop i) acc = prodW s 1) 1 rfl (.refl _ _) fun i acc hi hc => ?_
  rcases nth hi with ⟨x, hlt, hx, hd⟩ | ⟨rfl, hd⟩
  · have hw := wrap_succ hlt hl.1
    rw [hd] at hc
    refine go (aa hx <| aa hlt hw) trivial ?_
    exact rnd_next hlt _ hc (.refl _ _)
  · rw [hd] at hc
    refine go trivial trivial ?_
    exact ends_ret rfl rfl rfl (by simp only [prodW] at hc; simp [resD, hc])
def eqL : List Int → List Int → Bool
  | a :: s, b :: t => if (!(a == b)) = true then false else eqL s t
  | _, _ => true
def sameL (s t : List Int) : Bool := if ((s.length : Int) != t.length) = true then false else eqL s t
end Go.AM

namespace Go.AM
open Go Go.Proofs
set_option maxRecDepth 100000

theorem chk_all : ∀ {s : List Int} {a : Int}, (∀ m ∈ s, 1 ≤ m ∧ m ≤ 16) → chk s a = prodW s a
  | [], a, _ => rfl
  | x :: r, a, h => by
    have hx := h x (by simp)
    simp only [chk, prodW]
    rw [if_neg (by omega)]
    exact chk_all fun m hm => h m (by simp [hm])
theorem chk_bad : ∀ {s : List Int} {a m : Int}, m ∈ s → (m < 1 ∨ m > 16) → chk s a = 0
  | x :: r, a, m, hm, hb => by
    simp only [chk]
    split
    · rfl
    · rename_i hx
      rcases List.mem_cons.1 hm with rfl | hm
      · exact absurd hb hx
      · exact chk_bad hm hb
theorem prod_pos : ∀ {s : List Int}, s.length ≤ 3 → (∀ m ∈ s, 1 ≤ m ∧ m ≤ 16) → prodW s 1 > 0
  | [], _, _ => by decide
  | [a], _, h => by
    have h1 := h a (by simp)
    simp only [prodW]
    rw [wrap_in (by omega) (by omega)]; omega
  | [a, b], _, h => by
    have h1 := h a (by simp)
    have h2 := h b (by simp)
    simp only [prodW]
    have e1 : (1 : Int) * a = a := by omega
    have p1 : 1 ≤ a * b := by
      have := Int.mul_le_mul h1.1 h2.1 (by omega) (by omega); omega
    have p2 : a * b ≤ 16 * 16 := Int.mul_le_mul h1.2 h2.2 (by omega) (by omega)
    rw [e1, wrap_in (n := a) (by omega) (by omega), wrap_in (n := a * b) (by omega) (by omega)]; omega
  | [a, b, c], _, h => by
    have h1 := h a (by simp)
    have h2 := h b (by simp)
    have h3 := h c (by simp)
    simp only [prodW]
    have e1 : (1 : Int) * a = a := by omega
    have p1 : 1 ≤ a * b := by
      have := Int.mul_le_mul h1.1 h2.1 (by omega) (by omega); omega
    have p2 : a * b ≤ 16 * 16 := Int.mul_le_mul h1.2 h2.2 (by omega) (by omega)
    have p3 : 1 ≤ a * b * c := by
      have := Int.mul_le_mul p1 h3.1 (by omega) (by omega); omega
    have p4 : a * b * c ≤ 256 * 16 := Int.mul_le_mul (by omega) h3.2 (by omega) (by omega)
    rw [e1, wrap_in (n := a) (by omega) (by omega), wrap_in (n := a * b) (by omega) (by omega), wrap_in (n := a * b * c) (by omega) (by omega)]; omega
  | _ :: _ :: _ :: _ :: _, h, _ => by simp at h
theorem p_ref02_Check (s : List Int) : PureC Try.prog fi_fullerref02_Check [dI s] (dB (checkS s)) := by
  refine pure_fullerref02_Check (by simp) fun G hP hn => ?_
  unfold a_fullerref02_Check
  refine T_wf 0 fun hl => ?_
  simp only [initE, lk, dI, eI, DV.av, wf_one, wf_sl, if_true, List.length_map] at hl
  repeat' (first     | refine T_then ?_ | refine then_ret ?_ | refine then_exit ?_ | refine then_goto ?_     | refine rnd_exit ?_ | refine rnd_ret ?_ | refine rnd_goto ?_     | refine noGo_normal ?_ | refine noGo_ret ?_ | refine noGo_exit ?_ | refine jmp_normal ?_ | refine jmp_ret ?_ | refine jmp_exit ?_ | refine jmp_goto ?_     | refine inB_normal ?_ | refine inB_ret ?_ | refine inB_goto ?_ | refine inB_exit ?_ | refine inB_exit_ne rfl ?_     | ((first | apply T_sr fw | apply T_reg fw); · ((try simp only [go_sem, seval, reduceIte, ↓reduceIte, hP]); (repeat ((first       | (refine ⟨true, false, rfl, fun h => absurd h (by decide), ?_⟩) | (refine ⟨false, false, rfl, fun h => absurd h (by decide), ?_⟩) | refine ⟨_, _, rfl, fun _ => rfl, ?_⟩); (try simp only [go_sem, seval, reduceIte, ↓reduceIte, hP]))); (first | done | exact rfl)))     | ((first | apply T_sdF fw (by rw [hP]; rfl) (by decide +kernel) | apply T_drF fw (by rw [hP]; rfl) (by decide +kernel)); · ((try simp only [TOps.flat, List.cons_append, List.nil_append]); (repeat ((first | refine Y_g0 ?_ | refine Y_g (by (try simp only [go_sem, seval, reduceIte, ↓reduceIte, Bool.not_eq_true, reduceCtorEq, beq_false, beq_true, hP]); (first | done | exact rfl)) ?_); (first | refine Y_skip ?_ | ((first | apply Y_q); (· ((try simp only [go_sem, seval, reduceIte, ↓reduceIte, Bool.not_eq_true, reduceCtorEq, beq_false, beq_true, hP]); (first | done | exact rfl))))))); apply RunF_nil; (try simp only [go_sem, seval, reduceIte, ↓reduceIte, Bool.not_eq_true, reduceCtorEq, beq_false, beq_true, hP]); (first | done | exact rfl)))     | ((first | apply T_sd fw (by rw [hP]; rfl) | apply T_dr fw (by rw [hP]; rfl)); · ((try simp only [go_sem, seval, reduceIte, ↓reduceIte, bne, beq_false, beq_true, Bool.not_eq_true, Bool.if_true_right, decide_not, reduceCtorEq, hP]); (first | done | exact rfl)))     | refine T_seq ?_ | refine T_block ?_ | refine T_scopeJ 0 rfl ?_ | refine T_scope ?_ | refine T_goto ?_ | refine T_ret ?_ | refine T_skip ?_ | refine T_exit ?_ | refine T_label ?_     | refine T_condT rfl ?_ | refine T_condF rfl ?_     | refine T_condD rfl (fun _ => ?_) (fun _ => ?_)     | refine T_cond rfl (fun _ => ?_) (fun _ => ?_))
  · rename_i h
    exact ends_ret rfl rfl rfl (by simp [resD, checkS, h])
  · rename_i h
    refine T_for s.length (fun i (_ : Unit) => { env := [(0, .one (.p (eI s))), (3, .one (.p (.int .i64 i)))], σ := [] })
      (fun i _ => ∀ j m, j < i → s[j]? = some m → 1 ≤ m ∧ m ≤ 16) () (by intro j m hj; omega) (.refl _ _) fun i _ hi hc => ?_
    rcases nth hi with ⟨x, hlt, hx, hd⟩ | ⟨rfl, hd⟩
    · have hw := wrap_succ hlt hl.1
      repeat' (first     | refine T_then ?_ | refine then_ret ?_ | refine then_exit ?_ | refine then_goto ?_     | refine rnd_exit ?_ | refine rnd_ret ?_ | refine rnd_goto ?_     | refine noGo_normal ?_ | refine noGo_ret ?_ | refine noGo_exit ?_ | refine jmp_normal ?_ | refine jmp_ret ?_ | refine jmp_exit ?_ | refine jmp_goto ?_     | refine inB_normal ?_ | refine inB_ret ?_ | refine inB_goto ?_ | refine inB_exit ?_ | refine inB_exit_ne rfl ?_     | ((first | apply T_sr fw | apply T_reg fw); · ((try simp only [go_sem, seval, reduceIte, ↓reduceIte, hP, hx, hlt, hw]); (repeat ((first       | (refine ⟨true, false, rfl, fun h => absurd h (by decide), ?_⟩) | (refine ⟨false, false, rfl, fun h => absurd h (by decide), ?_⟩) | refine ⟨_, _, rfl, fun _ => rfl, ?_⟩); (try simp only [go_sem, seval, reduceIte, ↓reduceIte, hP, hx, hlt, hw]))); (first | done | exact rfl)))     | ((first | apply T_sdF fw (by rw [hP]; rfl) (by decide +kernel) | apply T_drF fw (by rw [hP]; rfl) (by decide +kernel)); · ((try simp only [TOps.flat, List.cons_append, List.nil_append]); (repeat ((first | refine Y_g0 ?_ | refine Y_g (by (try simp only [go_sem, seval, reduceIte, ↓reduceIte, Bool.not_eq_true, reduceCtorEq, beq_false, beq_true, hP, hx, hlt, hw]); (first | done | exact rfl)) ?_); (first | refine Y_skip ?_ | ((first | apply Y_q); (· ((try simp only [go_sem, seval, reduceIte, ↓reduceIte, Bool.not_eq_true, reduceCtorEq, beq_false, beq_true, hP, hx, hlt, hw]); (first | done | exact rfl))))))); apply RunF_nil; (try simp only [go_sem, seval, reduceIte, ↓reduceIte, Bool.not_eq_true, reduceCtorEq, beq_false, beq_true, hP, hx, hlt, hw]); (first | done | exact rfl)))     | ((first | apply T_sd fw (by rw [hP]; rfl) | apply T_dr fw (by rw [hP]; rfl)); · ((try simp only [go_sem, seval, reduceIte, ↓reduceIte, bne, beq_false, beq_true, Bool.not_eq_true, Bool.if_true_right, decide_not, reduceCtorEq, hP, hx, hlt, hw]); (first | done | exact rfl)))     | refine T_seq ?_ | refine T_block ?_ | refine T_scopeJ 0 rfl ?_ | refine T_scope ?_ | refine T_goto ?_ | refine T_ret ?_ | refine T_skip ?_ | refine T_exit ?_ | refine T_label ?_     | refine T_condT rfl ?_ | refine T_condF rfl ?_     | refine T_condD rfl (fun _ => ?_) (fun _ => ?_)     | refine T_cond rfl (fun _ => ?_) (fun _ => ?_))
      · rename_i h2
        have h3 : chk s 1 = 0 := chk_bad (List.mem_of_getElem? hx) (by simpa using h2)
        exact ends_ret rfl rfl rfl (by simp [resD, checkS, h3])
      · rename_i h2
        refine rnd_next hlt () (fun j m hj hm => ?_) (.refl _ _)
        by_cases hji : j = i
        · subst hji
          rw [hx] at hm; cases hm
          simp at h2; omega
        · exact hc j m (by omega) hm
    · refine go trivial @p_ref02_product ?_
      have hall : ∀ m ∈ s, 1 ≤ m ∧ m ≤ 16 := fun m hm => by
        obtain ⟨j, hj, rfl⟩ := List.getElem_of_mem hm
        exact hc j _ hj (List.getElem?_eq_getElem hj)
      have hpos := prod_pos (s := s) (by omega) hall
      have h4 := chk_all (a := 1) hall
      exact ends_ret rfl rfl rfl (by simp [resD, checkS, h4, hpos]; omega)
end Go.AM

namespace Go.AM
open Go Go.Proofs
set_option maxRecDepth 100000

theorem p_ref02_Size (s : List Int) : PureC Try.prog fi_fullerref02_Size [dI s] (dN (sizeS s)) := by
  refine pure_fullerref02_Size (by simp) fun G hP hn => ?_
  unfold a_fullerref02_Size
  repeat' (first     | refine T_then ?_ | refine then_ret ?_ | refine then_exit ?_ | refine then_goto ?_     | refine rnd_exit ?_ | refine rnd_ret ?_ | refine rnd_goto ?_     | refine noGo_normal ?_ | refine noGo_ret ?_ | refine noGo_exit ?_ | refine jmp_normal ?_ | refine jmp_ret ?_ | refine jmp_exit ?_ | refine jmp_goto ?_     | refine inB_normal ?_ | refine inB_ret ?_ | refine inB_goto ?_ | refine inB_exit ?_ | refine inB_exit_ne rfl ?_     | ((first | apply T_sr fw | apply T_reg fw); · ((try simp only [go_sem, seval, reduceIte, ↓reduceIte, hP]); (repeat ((first       | (refine ⟨true, false, rfl, fun h => absurd h (by decide), ?_⟩) | (refine ⟨false, false, rfl, fun h => absurd h (by decide), ?_⟩) | refine ⟨_, _, rfl, fun _ => rfl, ?_⟩       | (refine .inl ⟨_, _, ⟨_, _, _, _, _, _, rfl, rfl, rfl, p_ref02_Check _⟩, ?_⟩)       | (refine .inl ⟨_, _, ⟨_, _, _, _, _, _, rfl, rfl, rfl, p_ref02_product _⟩, ?_⟩)       | (refine ⟨_, ?_, rfl, fun _ => ⟨_, ⟨_, _, _, _, _, _, rfl, rfl, rfl, p_ref02_Check _⟩, ?_⟩, ?_⟩; rotate_left; (· (simp only [go_sem, seval, reduceIte, ↓reduceIte, hP]; first | done | exact rfl)))       | (refine ⟨_, ?_, rfl, fun _ => ⟨_, ⟨_, _, _, _, _, _, rfl, rfl, rfl, p_ref02_product _⟩, ?_⟩, ?_⟩; rotate_left; (· (simp only [go_sem, seval, reduceIte, ↓reduceIte, hP]; first | done | exact rfl)))); (try simp only [go_sem, seval, reduceIte, ↓reduceIte, hP]))); (first | done | exact rfl)))     | ((first | apply T_sdF fw (by rw [hP]; rfl) (by decide +kernel) | apply T_drF fw (by rw [hP]; rfl) (by decide +kernel)); · ((try simp only [TOps.flat, List.cons_append, List.nil_append]); (repeat ((first | refine Y_g0 ?_ | refine Y_g (by (try simp only [go_sem, seval, reduceIte, ↓reduceIte, Bool.not_eq_true, reduceCtorEq, beq_false, beq_true, hP]); (first | done | exact rfl)) ?_); (first | refine Y_skip ?_ | ((first | apply Y_q | (refine Y_call ⟨_, _, _, _, _, _, rfl, rfl, rfl, (by rw [hP]; exact p_ref02_Check _)⟩ ?_ ?_) | (refine Y_call ⟨_, _, _, _, _, _, rfl, rfl, rfl, (by rw [hP]; exact p_ref02_product _)⟩ ?_ ?_)); (· ((try simp only [go_sem, seval, reduceIte, ↓reduceIte, Bool.not_eq_true, reduceCtorEq, beq_false, beq_true, hP]); (first | done | exact rfl))))))); apply RunF_nil; (try simp only [go_sem, seval, reduceIte, ↓reduceIte, Bool.not_eq_true, reduceCtorEq, beq_false, beq_true, hP]); (first | done | exact rfl)))     | ((first | apply T_sd fw (by rw [hP]; rfl) | apply T_dr fw (by rw [hP]; rfl)); · ((try simp only [go_sem, seval, reduceIte, ↓reduceIte, bne, beq_false, beq_true, Bool.not_eq_true, Bool.if_true_right, decide_not, reduceCtorEq, hP]); (repeat ((first       | (refine ⟨_, ⟨_, _, _, _, _, _, rfl, rfl, rfl, p_ref02_Check _⟩, ?_⟩)       | (refine ⟨_, ⟨_, _, _, _, _, _, rfl, rfl, rfl, p_ref02_product _⟩, ?_⟩)); (try simp only [go_sem, seval, reduceIte, ↓reduceIte, bne, beq_false, beq_true, Bool.not_eq_true, Bool.if_true_right, decide_not, reduceCtorEq, hP]))); (first | done | exact rfl)))     | refine T_seq ?_ | refine T_block ?_ | refine T_scopeJ 0 rfl ?_ | refine T_scope ?_ | refine T_goto ?_ | refine T_ret ?_ | refine T_skip ?_ | refine T_exit ?_ | refine T_label ?_     | refine T_condT rfl ?_ | refine T_condF rfl ?_     | refine T_condD rfl (fun _ => ?_) (fun _ => ?_)     | refine T_cond rfl (fun _ => ?_) (fun _ => ?_))
  · rename_i h
    exact ends_ret rfl rfl rfl (by simp at h; simp [resD, sizeS, h])
  · rename_i h
    exact ends_ret rfl rfl rfl (by simp at h; simp [resD, sizeS, h])
theorem p_ref03_Check (s d : List Int) : PureC Try.prog fi_fullerref03_Check [dT s d] (dB (checkT s d)) := by
  refine pure_fullerref03_Check (by simp) fun G hP hn => ?_
  unfold a_fullerref03_Check
  cases hc : checkS s
  · refine go hc (aa @p_ref02_Check @p_ref02_Size) ?_
    exact ends_ret rfl rfl rfl (by simp [resD, checkT, hc])
  · refine go hc (aa @p_ref02_Check @p_ref02_Size) ?_
    exact ends_ret rfl rfl rfl (by simp [resD, checkT, hc])
end Go.AM

namespace Go.AM
open Go Go.Proofs
set_option maxRecDepth 100000

theorem p_ref02_Same (s t : List Int) : PureC Try.prog fi_fullerref02_Same [dI s, dI t] (dB (sameL s t)) := by
  refine pure_fullerref02_Same (by simp) fun G hP hn => ?_
  unfold a_fullerref02_Same
  refine T_wf 0 fun hl => ?_
  simp only [initE, lk, dI, eI, DV.av, wf_one, wf_sl, if_true, List.length_map] at hl
  repeat' (first     | refine T_then ?_ | refine then_ret ?_ | refine then_exit ?_ | refine then_goto ?_     | refine rnd_exit ?_ | refine rnd_ret ?_ | refine rnd_goto ?_     | refine noGo_normal ?_ | refine noGo_ret ?_ | refine noGo_exit ?_ | refine jmp_normal ?_ | refine jmp_ret ?_ | refine jmp_exit ?_ | refine jmp_goto ?_     | refine inB_normal ?_ | refine inB_ret ?_ | refine inB_goto ?_ | refine inB_exit ?_ | refine inB_exit_ne rfl ?_     | ((first | apply T_sr fw | apply T_reg fw); · ((try simp only [go_sem, seval, reduceIte, ↓reduceIte, hP]); (repeat ((first       | (refine ⟨true, false, rfl, fun h => absurd h (by decide), ?_⟩) | (refine ⟨false, false, rfl, fun h => absurd h (by decide), ?_⟩) | refine ⟨_, _, rfl, fun _ => rfl, ?_⟩); (try simp only [go_sem, seval, reduceIte, ↓reduceIte, hP]))); (first | done | exact rfl)))     | ((first | apply T_sdF fw (by rw [hP]; rfl) (by decide +kernel) | apply T_drF fw (by rw [hP]; rfl) (by decide +kernel)); · ((try simp only [TOps.flat, List.cons_append, List.nil_append]); (repeat ((first | refine Y_g0 ?_ | refine Y_g (by (try simp only [go_sem, seval, reduceIte, ↓reduceIte, Bool.not_eq_true, reduceCtorEq, beq_false, beq_true, hP]); (first | done | exact rfl)) ?_); (first | refine Y_skip ?_ | ((first | apply Y_q); (· ((try simp only [go_sem, seval, reduceIte, ↓reduceIte, Bool.not_eq_true, reduceCtorEq, beq_false, beq_true, hP]); (first | done | exact rfl))))))); apply RunF_nil; (try simp only [go_sem, seval, reduceIte, ↓reduceIte, Bool.not_eq_true, reduceCtorEq, beq_false, beq_true, hP]); (first | done | exact rfl)))     | ((first | apply T_sd fw (by rw [hP]; rfl) | apply T_dr fw (by rw [hP]; rfl)); · ((try simp only [go_sem, seval, reduceIte, ↓reduceIte, bne, beq_false, beq_true, Bool.not_eq_true, Bool.if_true_right, decide_not, reduceCtorEq, hP]); (first | done | exact rfl)))     | refine T_seq ?_ | refine T_block ?_ | refine T_scopeJ 0 rfl ?_ | refine T_scope ?_ | refine T_goto ?_ | refine T_ret ?_ | refine T_skip ?_ | refine T_exit ?_ | refine T_label ?_     | refine T_condT rfl ?_ | refine T_condF rfl ?_     | refine T_condD rfl (fun _ => ?_) (fun _ => ?_)     | refine T_cond rfl (fun _ => ?_) (fun _ => ?_))
  · rename_i h
    exact ends_ret rfl rfl rfl (by simp only [resD, sameL]; rw [if_pos h])
  · rename_i h
    have hxl : t.length = s.length := by
      simp only [bne_eq_false_iff_eq] at h
      omega
    refine T_for s.length (fun i (_ : Unit) => { env := [(0, .one (.p (eI s))), (1, .one (.p (eI t))), (5, .one (.p (.int .i64 i)))], σ := [] })
      (fun i _ => eqL (s.drop i) (t.drop i) = eqL s t) () rfl (.refl _ _) fun i _ hi hc => ?_
    rcases nth hi with ⟨m, hlt, hm, hd⟩ | ⟨rfl, hd⟩
    · rcases nth (s := t) (i := i) (by omega) with ⟨k, hlt2, hk, hd2⟩ | ⟨hi2, _⟩
      · have hw := wrap_succ hlt hl.1
        rw [hd, hd2] at hc
        simp only [eqL] at hc
        repeat' (first     | refine T_then ?_ | refine then_ret ?_ | refine then_exit ?_ | refine then_goto ?_     | refine rnd_exit ?_ | refine rnd_ret ?_ | refine rnd_goto ?_     | refine noGo_normal ?_ | refine noGo_ret ?_ | refine noGo_exit ?_ | refine jmp_normal ?_ | refine jmp_ret ?_ | refine jmp_exit ?_ | refine jmp_goto ?_     | refine inB_normal ?_ | refine inB_ret ?_ | refine inB_goto ?_ | refine inB_exit ?_ | refine inB_exit_ne rfl ?_     | ((first | apply T_sr fw | apply T_reg fw); · ((try simp only [go_sem, seval, reduceIte, ↓reduceIte, hP, hm, hk, hlt, hlt2, hw]); (repeat ((first       | (refine ⟨true, false, rfl, fun h => absurd h (by decide), ?_⟩) | (refine ⟨false, false, rfl, fun h => absurd h (by decide), ?_⟩) | refine ⟨_, _, rfl, fun _ => rfl, ?_⟩); (try simp only [go_sem, seval, reduceIte, ↓reduceIte, hP, hm, hk, hlt, hlt2, hw]))); (first | done | exact rfl)))     | ((first | apply T_sdF fw (by rw [hP]; rfl) (by decide +kernel) | apply T_drF fw (by rw [hP]; rfl) (by decide +kernel)); · ((try simp only [TOps.flat, List.cons_append, List.nil_append]); (repeat ((first | refine Y_g0 ?_ | refine Y_g (by (try simp only [go_sem, seval, reduceIte, ↓reduceIte, Bool.not_eq_true, reduceCtorEq, beq_false, beq_true, hP, hm, hk, hlt, hlt2, hw]); (first | done | exact rfl)) ?_); (first | refine Y_skip ?_ | ((first | apply Y_q); (· ((try simp only [go_sem, seval, reduceIte, ↓reduceIte, Bool.not_eq_true, reduceCtorEq, beq_false, beq_true, hP, hm, hk, hlt, hlt2, hw]); (first | done | exact rfl))))))); apply RunF_nil; (try simp only [go_sem, seval, reduceIte, ↓reduceIte, Bool.not_eq_true, reduceCtorEq, beq_false, beq_true, hP, hm, hk, hlt, hlt2, hw]); (first | done | exact rfl)))     | ((first | apply T_sd fw (by rw [hP]; rfl) | apply T_dr fw (by rw [hP]; rfl)); · ((try simp only [go_sem, seval, reduceIte, ↓reduceIte, bne, beq_false, beq_true, Bool.not_eq_true, Bool.if_true_right, decide_not, reduceCtorEq, hP, hm, hk, hlt, hlt2, hw]); (first | done | exact rfl)))     | refine T_seq ?_ | refine T_block ?_ | refine T_scopeJ 0 rfl ?_ | refine T_scope ?_ | refine T_goto ?_ | refine T_ret ?_ | refine T_skip ?_ | refine T_exit ?_ | refine T_label ?_     | refine T_condT rfl ?_ | refine T_condF rfl ?_     | refine T_condD rfl (fun _ => ?_) (fun _ => ?_)     | refine T_cond rfl (fun _ => ?_) (fun _ => ?_))
        · rename_i h2
          have h2 : (!(m == k)) = true := h2
          rw [if_pos h2] at hc
          exact ends_ret rfl rfl rfl (by simp only [resD, sameL]; rw [if_neg (by rw [h]; simp), ← hc])
        · rename_i h2
          have h2 : (!(m == k)) = false := h2
          rw [if_neg (by rw [h2]; simp)] at hc
          exact rnd_next hlt () hc (.refl _ _)
      · omega
    · rw [hd] at hc
      refine go trivial trivial ?_
      simp only [eqL] at hc
      exact ends_ret rfl rfl rfl (by simp only [resD, sameL]; rw [if_neg (by rw [h]; simp), ← hc])
end Go.AM

namespace Go.AM
open Go Go.Proofs

def prd : List Int → Int
  | [] => 1
  | m :: s => m * prd s
def Sides (s : List Int) : Prop := ∀ m ∈ s, 1 ≤ m ∧ m ≤ 16
theorem Sides.tail {m : Int} {s : List Int} (h : Sides (m :: s)) : Sides s := fun k hk => h k (by simp [hk])
theorem Sides.head {m : Int} {s : List Int} (h : Sides (m :: s)) : 1 ≤ m ∧ m ≤ 16 := h m (by simp)
theorem prd_pos : ∀ {s : List Int}, Sides s → 1 ≤ prd s
  | [], _ => by simp [prd]
  | m :: s, h => by
    have h1 := h.head
    have h2 := prd_pos h.tail
    simp only [prd]
    have : 1 * 1 ≤ m * prd s := Int.mul_le_mul h1.1 h2 (by omega) (by omega)
    omega
theorem prd_le : ∀ {s : List Int}, Sides s → prd s ≤ 16 ^ s.length
  | [], _ => by simp [prd]
  | m :: s, h => by
    have h1 := h.head
    have h2 := prd_le h.tail
    have h3 := prd_pos h.tail
    simp only [prd, List.length_cons]
    rw [Int.pow_succ, Int.mul_comm]
    exact Int.mul_le_mul h2 h1.2 (by omega) (by have : (0 : Int) ≤ 16 ^ s.length := Int.pow_nonneg (by decide); omega)
theorem prodW_eq : ∀ {s : List Int} {a : Int}, Sides s → 0 ≤ a → a * prd s ≤ 4611686018427387904 → prodW s a = a * prd s
  | [], a, _, _, _ => by simp [prodW, prd]
  | m :: s, a, h, h0, h1 => by
    have hm := h.head
    have hp := prd_pos h.tail
    simp only [prd, ← Int.mul_assoc] at h1
    have h2 : 0 ≤ a * m := Int.mul_nonneg h0 (by omega)
    have h3 : a * m * 1 ≤ a * m * prd s := Int.mul_le_mul_of_nonneg_left hp h2
    simp only [prodW]
    rw [wrap_in (by omega) (by omega), prodW_eq h.tail h2 h1]
    simp [prd, Int.mul_assoc]
theorem chk_eq : ∀ {s : List Int} {a : Int}, Sides s → chk s a = prodW s a
  | [], a, _ => rfl
  | m :: s, a, h => by
    have hm := h.head
    simp only [chk, prodW]
    rw [if_neg (by omega), chk_eq h.tail]
theorem chk_not : ∀ {s : List Int} {a : Int}, ¬ Sides s → chk s a = 0
  | [], a, h => absurd (fun m hm => by simp at hm) h
  | m :: s, a, h => by
    simp only [chk]
    split
    · rfl
    · rename_i hm
      refine chk_not fun hs => h fun k hk => ?_
      rcases List.mem_cons.1 hk with rfl | hk
      · omega
      · exact hs k hk
def ShapeOk (s : List Int) : Prop := s.length ≤ 3 ∧ Sides s ∧ prd s ≤ 64
theorem prodW_one {s : List Int} (h : Sides s) (h3 : s.length ≤ 3) : prodW s 1 = prd s := by
  have h1 := prd_le h
  have h2 : (16 : Int) ^ s.length ≤ 16 ^ 3 := by
    have : s.length = 0 ∨ s.length = 1 ∨ s.length = 2 ∨ s.length = 3 := by omega
    rcases this with e | e | e | e <;> rw [e] <;> decide
  have h4 : (16 : Int) ^ 3 = 4096 := by decide
  rw [prodW_eq h (by decide) (by omega)]
  omega
theorem checkS_iff {s : List Int} : checkS s = true ↔ ShapeOk s := by
  unfold checkS ShapeOk
  simp only [Bool.and_eq_true, Bool.not_eq_true', decide_eq_false_iff_not, decide_eq_true_eq]
  constructor
  · rintro ⟨h1, h2, h3⟩
    have h4 : s.length ≤ 3 := by omega
    by_cases hs : Sides s
    · rw [chk_eq hs, prodW_one hs h4] at h3
      exact ⟨h4, hs, h3⟩
    · rw [chk_not hs] at h2; omega
  · rintro ⟨h1, hs, h3⟩
    rw [chk_eq hs, prodW_one hs h1]
    have := prd_pos hs
    exact ⟨by omega, by omega, h3⟩
theorem sizeS_ok {s : List Int} (h : ShapeOk s) : sizeS s = prd s := by
  unfold sizeS
  rw [if_pos (checkS_iff.2 h), prodW_one h.2.1 h.1]
theorem sizeS_not {s : List Int} (h : ¬ ShapeOk s) : sizeS s = 0 := by
  unfold sizeS
  rw [if_neg (fun h' => h (checkS_iff.1 h'))]
theorem sizeS_nn (s : List Int) : 0 ≤ sizeS s ∧ sizeS s ≤ 64 := by
  by_cases h : ShapeOk s
  · rw [sizeS_ok h]
    have := prd_pos h.2.1
    have := h.2.2
    omega
  · rw [sizeS_not h]; omega
theorem sizeS_pos {s : List Int} (h : 0 < sizeS s) : ShapeOk s := by
  by_cases hs : ShapeOk s
  · exact hs
  · rw [sizeS_not hs] at h; omega
inductive InIdx : List Int → List Int → Prop
  | nil : InIdx [] []
  | cons {m k : Int} {s x : List Int} (h0 : 0 ≤ k) (h1 : k < m) (h : InIdx s x) : InIdx (m :: s) (k :: x)
def pl : List Int → List Int → Int → Int
  | m :: s, k :: x, a => pl s x (a * m + k)
  | _, _, a => a
theorem InIdx.length {s x : List Int} (h : InIdx s x) : s.length = x.length := by
  induction h with
  | nil => rfl
  | cons _ _ _ ih => simp [ih]
theorem pl_add {s x : List Int} (h : InIdx s x) (a : Int) : pl s x a = a * prd s + pl s x 0 := by
  induction h generalizing a with
  | nil => simp [pl, prd]
  | @cons m k s x h0 h1 h ih =>
    simp only [pl, prd]
    rw [ih (a * m + k), ih (0 * m + k)]
    simp [Int.add_mul, Int.mul_assoc, Int.add_assoc]
theorem pl_lt {s x : List Int} (h : InIdx s x) : 0 ≤ pl s x 0 ∧ pl s x 0 < prd s := by
  induction h with
  | nil => simp [pl, prd]
  | @cons m k s x h0 h1 h ih =>
    simp only [pl, prd]
    rw [pl_add h]
    have hp : 0 ≤ prd s := by omega
    have h2 : 0 ≤ k * prd s := Int.mul_nonneg h0 hp
    have h3 : (k + 1) * prd s ≤ m * prd s := Int.mul_le_mul_of_nonneg_right (by omega) hp
    simp only [Int.zero_mul, Int.zero_add]
    rw [Int.add_mul] at h3
    omega
theorem plW_ok {s x : List Int} (h : InIdx s x) : ∀ {a : Int}, 0 ≤ a → (a + 1) * prd s ≤ 4611686018427387904 → plW s x a = (pl s x a, 0) := by
  induction h with
  | nil => intro a _ _; rfl
  | @cons m k s x h0 h1 h ih =>
    intro a ha hb
    have hp : 1 ≤ prd s := by have := pl_lt h; omega
    have hm : 1 ≤ m := by omega
    simp only [prd, ← Int.mul_assoc] at hb
    have e1 : (a + 1) * m = a * m + m := by rw [Int.add_mul]; omega
    have h2 : 0 ≤ a * m := Int.mul_nonneg ha (by omega)
    have h3 : (a + 1) * m * 1 ≤ (a + 1) * m * prd s := Int.mul_le_mul_of_nonneg_left hp (by omega)
    have h4 : (a * m + k + 1) * prd s ≤ (a + 1) * m * prd s := Int.mul_le_mul_of_nonneg_right (by omega) (by omega)
    simp only [plW, pl]
    rw [if_neg (by omega), wrap_in (n := a * m) (by omega) (by omega), wrap_in (by omega) (by omega), ih (by omega) (by omega)]
theorem plW_not : ∀ {s x : List Int} {a : Int}, s.length = x.length → ¬ InIdx s x → plW s x a = (0, 20)
  | [], [], _, _, h => absurd .nil h
  | m :: s, k :: x, a, hl, h => by
    simp only [plW]
    split
    · rfl
    · rename_i hk
      exact plW_not (by simpa using hl) fun h' => h (.cons (by omega) (by omega) h')
theorem placeF_ok {s x : List Int} (h : ShapeOk s) (hx : InIdx s x) : placeF s x = (pl s x 0, 0) := by
  unfold placeF
  have := prd_pos h.2.1
  have := h.2.2
  rw [if_neg (by simp [checkS_iff.2 h, hx.length]), plW_ok hx (by omega) (by omega)]
theorem placeF_not {s x : List Int} (h : ¬ (ShapeOk s ∧ InIdx s x)) : placeF s x = (0, 20) := by
  unfold placeF
  split
  · rfl
  · rename_i hc
    simp only [Bool.or_eq_true, Bool.not_eq_true', bne_iff_ne, ne_eq, not_or, Bool.not_eq_false, Decidable.not_not] at hc
    exact plW_not (by omega) fun h' => h ⟨checkS_iff.1 hc.1, h'⟩
theorem checkT_iff {s d : List Int} : checkT s d = true ↔ ShapeOk s ∧ (d.length : Int) = prd s := by
  unfold checkT
  simp only [Bool.and_eq_true, beq_iff_eq, checkS_iff]
  constructor
  · rintro ⟨h1, h2⟩; rw [sizeS_ok h1] at h2; exact ⟨h1, h2⟩
  · rintro ⟨h1, h2⟩; rw [sizeS_ok h1]; exact ⟨h1, h2⟩
def atF (s d x : List Int) : Int × Int := if (!checkT s d) = true then (0, 30) else if ((placeF s x).2 != 0) = true then (0, (placeF s x).2) else ((d[(placeF s x).1.toNat]?).getD 0, 0)
theorem atF_ok {s d x : List Int} (h : checkT s d = true) (hx : InIdx s x) : atF s d x = ((d[(pl s x 0).toNat]?).getD 0, 0) := by
  unfold atF
  rw [if_neg (by simp [h]), placeF_ok (checkT_iff.1 h).1 hx]
  simp
theorem atF_not {s d x : List Int} (h : checkT s d = true) (hx : ¬ InIdx s x) : atF s d x = (0, 20) := by
  unfold atF
  rw [if_neg (by simp [h]), placeF_not (fun h' => hx h'.2)]
  simp
theorem atF_bad {s d x : List Int} (h : checkT s d = false) : atF s d x = (0, 30) := by
  unfold atF
  rw [if_pos (by simp [h])]
end Go.AM

namespace Go.AM
open Go Go.Proofs

def ix : List Int → Int → List Int
  | [], _ => []
  | m :: s, p => (p / prd s) % m :: ix s p
def dg : List Int → Int → List Int
  | [], _ => []
  | n :: r, p => p % n :: dg r (p / n)
theorem digs_eq : ∀ {l : List Int} {p : Int}, Sides l → 0 ≤ p → p ≤ 4611686018427387904 → digs l p = dg l p
  | [], _, _, _, _ => rfl
  | n :: r, p, h, h0, h1 => by
    have hn := h.head
    have h2 : 0 ≤ p / n := Int.ediv_nonneg h0 (by omega)
    have h3 : p / n ≤ p := Int.ediv_le_self n h0
    simp only [digs, dg]
    rw [Int.tmod_eq_emod_of_nonneg h0, Int.tdiv_eq_ediv_of_nonneg h0, wrap_in (by omega) (by omega), digs_eq h.tail h2 (by omega)]
theorem prd_append : ∀ (l k : List Int), prd (l ++ k) = prd l * prd k
  | [], k => by simp [prd]
  | m :: l, k => by simp [prd, prd_append l k, Int.mul_assoc]
theorem prd_reverse : ∀ (l : List Int), prd l.reverse = prd l
  | [] => rfl
  | m :: l => by simp [prd_append, prd_reverse l, prd, Int.mul_comm]
theorem dg_append : ∀ {l : List Int} {m p : Int}, Sides l → dg (l ++ [m]) p = dg l p ++ [(p / prd l) % m]
  | [], m, p, _ => by simp [dg, prd]
  | n :: l, m, p, h => by
    have hn := h.head
    simp only [List.cons_append, dg, prd]
    rw [dg_append h.tail, Int.ediv_ediv_of_nonneg (by omega)]
theorem Sides.reverse {s : List Int} (h : Sides s) : Sides s.reverse := fun m hm => h m (by simpa using hm)
theorem dg_rev : ∀ {s : List Int} {p : Int}, Sides s → (dg s.reverse p).reverse = ix s p
  | [], _, _ => rfl
  | m :: s, p, h => by
    simp only [List.reverse_cons, ix]
    rw [dg_append h.tail.reverse, List.reverse_append, prd_reverse]
    simp [dg_rev h.tail]
theorem idxF_eq {s : List Int} {p : Int} (h : Sides s) (h0 : 0 ≤ p) (h1 : p ≤ 4611686018427387904) : idxF s p = ix s p := by
  unfold idxF
  rw [digs_eq h.reverse h0 h1, dg_rev h]
theorem ix_in : ∀ {s : List Int} {p : Int}, Sides s → InIdx s (ix s p)
  | [], _, _ => .nil
  | m :: s, p, h => by
    have hm := h.head
    exact .cons (Int.emod_nonneg _ (by omega)) (Int.emod_lt_of_pos _ (by omega)) (ix_in h.tail)
theorem emod_split (p b m : Int) (hb : 0 < b) (hm : 0 < m) : p % (m * b) = (p / b) % m * b + p % b := by
  have h1 := Int.mul_ediv_add_emod p b
  have h2 := Int.mul_ediv_add_emod (p / b) m
  have h3 := Int.emod_nonneg p (b := b) (by omega)
  have h4 := Int.emod_lt_of_pos p hb
  have h5 := Int.emod_nonneg (p / b) (b := m) (by omega)
  have h6 := Int.emod_lt_of_pos (p / b) hm
  generalize p / b / m = q at h2
  generalize (p / b) % m = r at h2 h5 h6 ⊢
  generalize p % b = t at h1 h3 h4 ⊢
  rw [← h2] at h1
  have e : p = (m * b) * q + (r * b + t) := by
    rw [← h1, Int.mul_add, Int.mul_comm b (m * q), Int.mul_assoc, Int.mul_comm q b, Int.mul_comm b r, ← Int.mul_assoc, Int.add_assoc]
  rw [e, Int.mul_add_emod_self_left]
  have h7 : 0 ≤ r * b := Int.mul_nonneg h5 (by omega)
  have h8 : (r + 1) * b ≤ m * b := Int.mul_le_mul_of_nonneg_right (by omega) (by omega)
  rw [Int.add_mul] at h8
  exact Int.emod_eq_of_lt (by omega) (by omega)
theorem pl_ix : ∀ {s : List Int} {p : Int}, Sides s → pl s (ix s p) 0 = p % prd s
  | [], p, _ => by simp [pl, prd, Int.emod_one]
  | m :: s, p, h => by
    have hm := h.head
    have hp := prd_pos h.tail
    simp only [pl, ix, prd]
    rw [pl_add (ix_in h.tail), pl_ix h.tail, emod_split p (prd s) m (by omega) (by omega)]
    simp
theorem ix_pl {s x : List Int} (h : InIdx s x) (hs : Sides s) (a : Int) : ix s (a * prd s + pl s x 0) = x := by
  induction h generalizing a with
  | nil => rfl
  | @cons m k s x h0 h1 h ih =>
    have hl := pl_lt h
    have hp := prd_pos hs.tail
    simp only [ix, prd, pl]
    rw [pl_add h]
    have e : a * (m * prd s) + ((0 * m + k) * prd s + pl s x 0) = (a * m + k) * prd s + pl s x 0 := by
      simp [Int.add_mul, Int.mul_assoc, Int.add_assoc]
    rw [e, ih hs.tail]
    congr 1
    rw [Int.add_comm, Int.add_mul_ediv_right _ _ (by omega), Int.ediv_eq_zero_of_lt hl.1 hl.2, Int.zero_add, Int.mul_comm a m, Int.add_comm, Int.add_mul_emod_self_left]
    exact Int.emod_eq_of_lt h0 h1
theorem pl_ix_lt {s : List Int} {p : Int} (h : Sides s) (h0 : 0 ≤ p) (h1 : p < prd s) : pl s (ix s p) 0 = p := by
  rw [pl_ix h, Int.emod_eq_of_lt h0 h1]
theorem ix_pl0 {s x : List Int} (h : InIdx s x) (hs : Sides s) : ix s (pl s x 0) = x := by
  have := ix_pl h hs 0
  simpa using this
end Go.AM

namespace Go.AM
open Go Go.Proofs
set_option maxRecDepth 100000

def mk (s : List Int) (g : List Int → Int) : List Int := (List.range (sizeS s).toNat).map fun p => g (idxF s ((p : Nat) : Int))
end Go.AM

namespace Go.AM
open Go Go.Proofs
set_option maxRecDepth 100000

abbrev dTE (r : (List Int × List Int) × Int) : DV := .tup [dT r.1.1 r.1.2, dN r.2]
def bad (e : Int) : (List Int × List Int) × Int := (([], []), e)
end Go.AM

namespace Go.AM
open Go Go.Proofs
set_option maxRecDepth 100000
set_option maxHeartbeats 4000000

def fewT (s d : List Int) : Bool := decide (s.length ≤ 100) && decide (d.length ≤ 100)
theorem p_ref03_Few (s d : List Int) : PureC Try.prog fi_fullerref03_Few [dT s d] (dB (fewT s d)) := by
  refine pure_fullerref03_Few (by simp) fun G hP hn => ?_
  unfold a_fullerref03_Few
  repeat' (first     | refine T_then ?_ | refine then_ret ?_ | refine then_exit ?_ | refine then_goto ?_     | refine rnd_exit ?_ | refine rnd_ret ?_ | refine rnd_goto ?_     | refine noGo_normal ?_ | refine noGo_ret ?_ | refine noGo_exit ?_ | refine jmp_normal ?_ | refine jmp_ret ?_ | refine jmp_exit ?_ | refine jmp_goto ?_     | refine inB_normal ?_ | refine inB_ret ?_ | refine inB_goto ?_ | refine inB_exit ?_ | refine inB_exit_ne rfl ?_     | ((first | apply T_sr fw | apply T_reg fw); · ((try simp only [go_sem, seval, reduceIte, ↓reduceIte, hP]); (repeat ((first       | (refine ⟨true, false, rfl, fun h => absurd h (by decide), ?_⟩) | (refine ⟨false, false, rfl, fun h => absurd h (by decide), ?_⟩) | refine ⟨_, _, rfl, fun _ => rfl, ?_⟩); (try simp only [go_sem, seval, reduceIte, ↓reduceIte, hP]))); (first | done | exact rfl)))     | ((first | apply T_sdF fw (by rw [hP]; rfl) (by decide +kernel) | apply T_drF fw (by rw [hP]; rfl) (by decide +kernel)); · ((try simp only [TOps.flat, List.cons_append, List.nil_append]); (repeat ((first | refine Y_g0 ?_ | refine Y_g (by (try simp only [go_sem, seval, reduceIte, ↓reduceIte, Bool.not_eq_true, reduceCtorEq, beq_false, beq_true, hP]); (first | done | exact rfl)) ?_); (first | refine Y_skip ?_ | ((first | apply Y_q); (· ((try simp only [go_sem, seval, reduceIte, ↓reduceIte, Bool.not_eq_true, reduceCtorEq, beq_false, beq_true, hP]); (first | done | exact rfl))))))); apply RunF_nil; (try simp only [go_sem, seval, reduceIte, ↓reduceIte, Bool.not_eq_true, reduceCtorEq, beq_false, beq_true, hP]); (first | done | exact rfl)))     | ((first | apply T_sd fw (by rw [hP]; rfl) | apply T_dr fw (by rw [hP]; rfl)); · ((try simp only [go_sem, seval, reduceIte, ↓reduceIte, bne, beq_false, beq_true, Bool.not_eq_true, Bool.if_true_right, decide_not, reduceCtorEq, hP]); (first | done | exact rfl)))     | refine T_seq ?_ | refine T_block ?_ | refine T_scopeJ 0 rfl ?_ | refine T_scope ?_ | refine T_goto ?_ | refine T_ret ?_ | refine T_skip ?_ | refine T_exit ?_ | refine T_label ?_     | refine T_condT rfl ?_ | refine T_condF rfl ?_     | refine T_condD rfl (fun _ => ?_) (fun _ => ?_)     | refine T_cond rfl (fun _ => ?_) (fun _ => ?_))
  exact ends_ret rfl rfl rfl (by simp only [resD, fewT]; congr 3 <;> exact decide_eq_decide.2 (by omega))
def sameT (s d t e : List Int) : Bool := sameL s t && sameL d e
theorem p_ref03_Same (s d t e : List Int) : PureC Try.prog fi_fullerref03_Same [dT s d, dT t e] (dB (sameT s d t e)) := by
  refine pure_fullerref03_Same (by simp) fun G hP hn => ?_
  unfold a_fullerref03_Same
  repeat' (first     | refine T_then ?_ | refine then_ret ?_ | refine then_exit ?_ | refine then_goto ?_     | refine rnd_exit ?_ | refine rnd_ret ?_ | refine rnd_goto ?_     | refine noGo_normal ?_ | refine noGo_ret ?_ | refine noGo_exit ?_ | refine jmp_normal ?_ | refine jmp_ret ?_ | refine jmp_exit ?_ | refine jmp_goto ?_     | refine inB_normal ?_ | refine inB_ret ?_ | refine inB_goto ?_ | refine inB_exit ?_ | refine inB_exit_ne rfl ?_     | ((first | apply T_sr fw | apply T_reg fw); · ((try simp only [go_sem, seval, reduceIte, ↓reduceIte, hP]); (repeat ((first       | (refine ⟨true, false, rfl, fun h => absurd h (by decide), ?_⟩) | (refine ⟨false, false, rfl, fun h => absurd h (by decide), ?_⟩) | refine ⟨_, _, rfl, fun _ => rfl, ?_⟩       | (refine .inl ⟨_, _, ⟨_, _, _, _, _, _, rfl, rfl, rfl, p_ref02_Same _ _⟩, ?_⟩)       | (refine ⟨_, ?_, rfl, fun _ => ⟨_, ⟨_, _, _, _, _, _, rfl, rfl, rfl, p_ref02_Same _ _⟩, ?_⟩, ?_⟩; rotate_left; (· (simp only [go_sem, seval, reduceIte, ↓reduceIte, hP]; first | done | exact rfl)))); (try simp only [go_sem, seval, reduceIte, ↓reduceIte, hP]))); (first | done | exact rfl)))     | ((first | apply T_sdF fw (by rw [hP]; rfl) (by decide +kernel) | apply T_drF fw (by rw [hP]; rfl) (by decide +kernel)); · ((try simp only [TOps.flat, List.cons_append, List.nil_append]); (repeat ((first | refine Y_g0 ?_ | refine Y_g (by (try simp only [go_sem, seval, reduceIte, ↓reduceIte, Bool.not_eq_true, reduceCtorEq, beq_false, beq_true, hP]); (first | done | exact rfl)) ?_); (first | refine Y_skip ?_ | ((first | apply Y_q | (refine Y_call ⟨_, _, _, _, _, _, rfl, rfl, rfl, (by rw [hP]; exact p_ref02_Same _ _)⟩ ?_ ?_)); (· ((try simp only [go_sem, seval, reduceIte, ↓reduceIte, Bool.not_eq_true, reduceCtorEq, beq_false, beq_true, hP]); (first | done | exact rfl))))))); apply RunF_nil; (try simp only [go_sem, seval, reduceIte, ↓reduceIte, Bool.not_eq_true, reduceCtorEq, beq_false, beq_true, hP]); (first | done | exact rfl)))     | ((first | apply T_sd fw (by rw [hP]; rfl) | apply T_dr fw (by rw [hP]; rfl)); · ((try simp only [go_sem, seval, reduceIte, ↓reduceIte, bne, beq_false, beq_true, Bool.not_eq_true, Bool.if_true_right, decide_not, reduceCtorEq, hP]); (repeat ((first       | (refine ⟨_, ⟨_, _, _, _, _, _, rfl, rfl, rfl, p_ref02_Same _ _⟩, ?_⟩)); (try simp only [go_sem, seval, reduceIte, ↓reduceIte, bne, beq_false, beq_true, Bool.not_eq_true, Bool.if_true_right, decide_not, reduceCtorEq, hP]))); (first | done | exact rfl)))     | refine T_seq ?_ | refine T_block ?_ | refine T_scopeJ 0 rfl ?_ | refine T_scope ?_ | refine T_goto ?_ | refine T_ret ?_ | refine T_skip ?_ | refine T_exit ?_ | refine T_label ?_     | refine T_condT rfl ?_ | refine T_condF rfl ?_     | refine T_condD rfl (fun _ => ?_) (fun _ => ?_)     | refine T_cond rfl (fun _ => ?_) (fun _ => ?_))
  exact ends_ret rfl rfl rfl (by simp only [resD, sameT])
end Go.AM

namespace Go.AM
open Go Go.Proofs

theorem InIdx.append {s x t y : List Int} (h : InIdx s x) (k : InIdx t y) : InIdx (s ++ t) (x ++ y) := by
  induction h with
  | nil => exact k
  | cons h0 h1 _ ih => exact .cons h0 h1 ih
theorem InIdx.reverse {s x : List Int} (h : InIdx s x) : InIdx s.reverse x.reverse := by
  induction h with
  | nil => exact .nil
  | cons h0 h1 _ ih =>
    simp only [List.reverse_cons]
    exact ih.append (.cons h0 h1 .nil)
theorem ShapeOk.reverse {s : List Int} (h : ShapeOk s) : ShapeOk s.reverse := ⟨by simpa using h.1, h.2.1.reverse, by rw [prd_reverse]; exact h.2.2⟩
theorem sameL_refl (l : List Int) : sameL l l = true := by
  unfold sameL
  have : ∀ l : List Int, eqL l l = true := by
    intro l
    induction l with
    | nil => rfl
    | cons a l ih => simp [eqL, ih]
  simp [this]
theorem eqL_iff : ∀ {s t : List Int}, s.length = t.length → (eqL s t = true ↔ s = t)
  | [], [], _ => by simp [eqL]
  | a :: s, b :: t, h => by
    simp only [eqL]
    by_cases hab : a = b
    · subst hab; simp [eqL_iff (s := s) (t := t) (by simpa using h)]
    · simp [hab]
theorem sameL_iff {s t : List Int} : sameL s t = true ↔ s = t := by
  unfold sameL
  by_cases h : s.length = t.length
  · rw [if_neg (by simp [h]), eqL_iff h]
  · rw [if_pos (by simp; omega)]
    constructor
    · intro h'; cases h'
    · intro h'; exact absurd (by rw [h']) h
theorem sameT_refl (s d : List Int) : sameT s d s d = true := by unfold sameT; rw [sameL_refl, sameL_refl]; rfl
end Go.AM

namespace Go.AM
open Go Go.Proofs

theorem inIdx_iff : ∀ {s x : List Int}, InIdx s x ↔ s.length = x.length ∧ ∀ (i : Nat) (m k : Int), s[i]? = some m → x[i]? = some k → 0 ≤ k ∧ k < m
  | [], [] => ⟨fun _ => ⟨rfl, fun i m k h => by simp at h⟩, fun _ => .nil⟩
  | [], _ :: _ => ⟨fun h => (by cases h), fun h => by simp at h⟩
  | _ :: _, [] => ⟨fun h => (by cases h), fun h => by simp at h⟩
  | m :: s, k :: x => by
    constructor
    · intro h
      cases h with
      | cons h0 h1 h =>
        have := inIdx_iff.1 h
        refine ⟨by simp [this.1], fun i m' k' hm hk => ?_⟩
        cases i with
        | zero => simp at hm hk; subst hm hk; exact ⟨h0, h1⟩
        | succ i => exact this.2 i m' k' (by simpa using hm) (by simpa using hk)
    · rintro ⟨h1, h2⟩
      have := h2 0 m k rfl rfl
      exact .cons this.1 this.2 (inIdx_iff.2 ⟨by simpa using h1, fun i m' k' hm hk => h2 (i + 1) m' k' (by simpa using hm) (by simpa using hk)⟩)
theorem InIdx.get {s x : List Int} (h : InIdx s x) {n : Nat} {m : Int} (hm : s[n]? = some m) : ∃ k, x[n]? = some k ∧ 0 ≤ k ∧ k < m := by
  have h1 := inIdx_iff.1 h
  have hn := (List.getElem?_eq_some_iff.1 hm).1
  have hk : x[n]? = some (x[n]'(by omega)) := List.getElem?_eq_getElem (by omega)
  exact ⟨_, hk, h1.2 n _ _ hm hk⟩
theorem InIdx.set {s x : List Int} (h : InIdx s x) (n : Nat) {m k : Int} (h0 : 0 ≤ k) (h1 : k < m) : InIdx (s.set n m) (x.set n k) := by
  have h2 := inIdx_iff.1 h
  refine inIdx_iff.2 ⟨by simp [h2.1], fun i m' k' hm hk => ?_⟩
  by_cases hi : i = n
  · subst hi
    rw [List.getElem?_set] at hm hk
    simp at hm hk
    omega
  · rw [List.getElem?_set_ne (Ne.symm hi)] at hm hk
    exact h2.2 i m' k' hm hk
theorem Sides.set {s : List Int} (h : Sides s) (n : Nat) {m : Int} (h1 : 1 ≤ m ∧ m ≤ 16) : Sides (s.set n m) := by
  intro k hk
  rcases List.mem_or_eq_of_mem_set hk with hk | rfl
  · exact h k hk
  · exact h1
end Go.AM

namespace Go.AM
open Go Go.Proofs

structure Joins (s d t e : List Int) (n : Nat) (k m : Int) : Prop where
  one : checkT s d = true
  two : checkT t e = true
  hk : s[n]? = some k
  hm : t[n]? = some m
  like : t = s.set n m
  ok : ShapeOk (s.set n (k + m))
theorem Joins.kb {s d t e : List Int} {n : Nat} {k m : Int} (h : Joins s d t e n k m) : 1 ≤ k ∧ k ≤ 16 := (checkT_iff.1 h.one).1.2.1 k (List.mem_of_getElem? h.hk)
theorem Joins.lt {s d t e : List Int} {n : Nat} {k m : Int} (h : Joins s d t e n k m) : n < s.length := (List.getElem?_eq_some_iff.1 h.hk).1
end Go.AM

namespace Go.AM
open Go Go.Proofs

theorem c_sameT (s d : List Int) : PureC Try.prog fi_fullerref03_Same [dT s d, dT s d] (dB true) := by
  have := p_ref03_Same s d s d; rw [sameT_refl] at this; exact this
theorem c_same' (s : List Int) : PureC Try.prog fi_fullerref02_Same [dI s, dI s] (dB true) := by
  have := p_ref02_Same s s; rw [sameL_refl] at this; exact this
end Go.AM

namespace Go.AM
open Go Go.Proofs
set_option maxRecDepth 100000
set_option maxHeartbeats 4000000

theorem p_ref02_Index (s : List Int) (p : Int) : PureC Try.prog fi_fullerref02_Index [dI s, dN p] (if (decide (p < 0) || decide (p ≥ sizeS s)) = true then .tup [dI [], dN 20] else .tup [dI (idxF s p), dN 0]) := by
  refine pure_fullerref02_Index (by simp) fun G hP hn => ?_
  unfold a_fullerref02_Index
  by_cases hg : (decide (p < 0) || decide (p ≥ sizeS s)) = true
  · by_cases h1 : p < 0
    · refine go h1 @p_ref02_Size ?_
      exact ends_ret rfl rfl rfl (by simp only [resD]; rw [if_pos hg]; rfl)
    · have h2 : p ≥ sizeS s := by simpa [h1] using hg
      refine go (aa h1 h2) @p_ref02_Size ?_
      exact ends_ret rfl rfl rfl (by simp only [resD]; rw [if_pos hg]; rfl)
  · rw [if_neg hg]
    simp only [Bool.or_eq_true, decide_eq_true_eq, not_or] at hg
    obtain ⟨g1, g2⟩ := hg
    have hck := checkS_iff.2 (sizeS_pos (s := s) (by omega))
    have hl3 := check_len hck
    have hM : MaxN = 140737488355328 := rfl
    have w0 : IntKind.i64.wrap ((s.length : Int) - 1) = (s.length : Int) - 1 - ((0 : Nat) : Int) := by rw [wrap_in (by omega) (by omega)]; simp
    refine go (aa g1 <| aa g2 w0) @p_ref02_Size ?_
    refine T_weak (Weak.freeze (i := 7) rfl rfl) ?_
    refine T_for s.length (fun i (a : Int × List Int) => { env := [(0, .one (.p (eI s))), (1, .one (.p (.int .i64 a.1))), (7, .one (.p (eI a.2))), (8, .one (.p (.int .i64 ((s.length : Int) - 1 - (i : Nat)))))], σ := [] })
      (fun i a => a.2.length = i ∧ (digs (s.reverse.drop i) a.1).reverse ++ a.2 = idxF s p) (p, []) ⟨rfl, by simp [idxF]⟩ (Weak.pick [0, 1, 7, 8]) fun i a hi hc => ?_
    obtain ⟨q, t⟩ := a
    obtain ⟨hc1, hc2⟩ := hc
    simp only at hc1 hc2
    rcases nth (s := s.reverse) (i := i) (by simpa using hi) with ⟨m, hlt, hm, hd⟩ | ⟨hi2, hd⟩
    · have hlt : i < s.length := by simpa using hlt
      have hm2 : s[s.length - 1 - i]? = some m := by rw [← hm, List.getElem?_reverse hlt]
      have hm1 : 1 ≤ m := (check_pos hck m (List.mem_of_getElem? hm2)).1
      have hm0 : ¬ m = 0 := by omega
      have c1 : (s.length : Int) - 1 - i ≥ 0 := by omega
      have c1' : (0 : Int) ≤ (s.length : Int) - 1 - i := c1
      have c2 : (s.length : Int) - 1 - i < s.length := by omega
      have c3 : ((s.length : Int) - 1 - i).toNat = s.length - 1 - i := by omega
      have w1 : IntKind.i64.wrap ((s.length : Int) - 1 - i - 1) = (s.length : Int) - 1 - ((i + 1 : Nat) : Int) := by rw [wrap_in (by omega) (by omega)]; omega
      have c4 : (1 + t.length) * 8 ≤ 2 ^ 40 := by omega
      have c5 : 1 + t.length ≤ 2 ^ 40 := by omega
      refine go (aa hm2 <| aa hm0 <| aa c1 <| aa c1' <| aa c2 <| aa c3 <| aa w1 <| aa c4 <| aa c5 @all1) trivial ?_
      refine rnd_next hlt (IntKind.i64.wrap (q.tdiv m), q.tmod m :: t) ⟨by simp [hc1], ?_⟩ ?_
      · rw [hd] at hc2
        simp only [digs, List.reverse_cons, List.append_assoc, List.singleton_append, List.cons_append, List.nil_append] at hc2
        exact hc2
      · exact (Weak.freeze (i := 7) rfl (toD_list (n := 5) (rows := rI (q.tmod m :: t)) rfl (by simp; omega))).trans ((Weak.pick [0, 1, 7, 8]).trans (Weak.sub fun p hp => by simp at hp))
    · have hi3 : i = s.length := by simpa using hi2
      subst hi3
      have c1 : ¬ (s.length : Int) - 1 - (s.length : Nat) ≥ 0 := by omega
      refine go c1 trivial ?_
      have ht : t = idxF s p := by rw [← hc2, hd]; simp [digs]
      rw [← ht]
      exact ends_ret rfl rfl rfl rfl
end Go.AM

namespace Go.AM
open Go Go.Proofs
set_option maxRecDepth 100000
set_option maxHeartbeats 4000000

theorem c_refIdx {s : List Int} {p : Nat} (h : p < (sizeS s).toNat) : PureC Try.prog fi_fullerref02_Index [dI s, dN p] (.tup [dI (idxF s p), dN 0]) := by
  have := p_ref02_Index s p
  rw [if_neg (by simp; omega)] at this
  exact this
theorem p_ref02_Place (s x : List Int) : PureC Try.prog fi_fullerref02_Place [dI s, dI x] (dNE (placeF s x)) := by
  refine pure_fullerref02_Place (by simp) fun G hP hn => ?_
  unfold a_fullerref02_Place
  refine go trivial @p_ref02_Size ?_
  have hs := sizeS_nn s
  refine T_for (sizeS s).toNat (fun i (_ : Unit) => { env := [(0, .one (.p (eI s))), (1, .one (.p (eI x))), (6, .one (.p (.int .i64 (sizeS s)))), (7, .one (.p (.int .i64 i)))], σ := [] })
    (fun i _ => ∀ j : Nat, j < i → idxF s j ≠ x) () (fun j hj => by omega) (.refl _ _) fun i _ hi hne => ?_
  by_cases hlt : i < (sizeS s).toNat
  · have c1 : (i : Int) < sizeS s := by omega
    have w1 : IntKind.i64.wrap ((i : Int) + 1) = ((i + 1 : Nat) : Int) := by rw [wrap_in (by omega) (by omega)]; rfl
    have ki := c_refIdx hlt
    have hok := sizeS_pos (s := s) (by omega)
    have he : idxF s (i : Int) = ix s i := idxF_eq hok.2.1 (by omega) (by omega)
    rw [sizeS_ok hok] at c1
    cases hq : sameL (idxF s i) x
    · have hx : idxF s i ≠ x := fun h => by rw [sameL_iff.2 h] at hq; cases hq
      rw [← sizeS_ok hok] at c1
      refine go (aa c1 <| aa w1 hq) (aa ki @p_ref02_Same) ?_
      refine rnd_next hlt () (fun j hj => ?_) (.refl _ _)
      by_cases hji : j = i
      · subst hji; exact hx
      · exact hne j (by omega)
    · have hx := sameL_iff.1 hq
      have hin : InIdx s x := by rw [← hx, he]; exact ix_in hok.2.1
      have hp : placeF s x = ((i : Int), 0) := by
        rw [placeF_ok hok hin, ← hx, he, pl_ix_lt hok.2.1 (by omega) c1]
      rw [← sizeS_ok hok] at c1
      refine go (aa c1 <| aa w1 hq) (aa ki @p_ref02_Same) ?_
      exact ends_ret rfl rfl rfl (by rw [hp]; rfl)
  · have c1 : ¬ (i : Int) < sizeS s := by omega
    have hi2 : i = (sizeS s).toNat := by omega
    have hp : placeF s x = (0, 20) := placeF_not fun ⟨hok, hin⟩ => by
      have hl := pl_lt hin
      rw [sizeS_ok hok] at hi2
      refine hne (pl s x 0).toNat (by omega) ?_
      have : ((pl s x 0).toNat : Int) = pl s x 0 := by omega
      rw [this, idxF_eq hok.2.1 hl.1 (by have := hok.2.2; omega), ix_pl0 hin hok.2.1]
    refine go c1 trivial ?_
    exact ends_ret rfl rfl rfl (by rw [hp]; rfl)
theorem p_ref03_At (s d x : List Int) : PureC Try.prog fi_fullerref03_At [dT s d, dI x] (dNE (atF s d x)) := by
  refine pure_fullerref03_At (by simp) fun G hP hn => ?_
  unfold a_fullerref03_At
  cases hc : checkT s d
  · refine go hc @p_ref03_Check ?_
    exact ends_ret rfl rfl rfl (by rw [atF_bad hc]; rfl)
  · by_cases hin : InIdx s x
    · have hok := (checkT_iff.1 hc).1
      have hl := pl_lt hin
      have hdl := (checkT_iff.1 hc).2
      have kp : PureC Try.prog fi_fullerref02_Place [dI s, dI x] (.tup [dN (pl s x 0), dN 0]) := by have := p_ref02_Place s x; rw [placeF_ok hok hin] at this; exact this
      have h1 : (pl s x 0).toNat < d.length := by omega
      have h2 : pl s x 0 < d.length := by omega
      have h3 : d[(pl s x 0).toNat]? = some d[(pl s x 0).toNat] := List.getElem?_eq_getElem h1
      refine go (aa hc <| aa @hl.1 <| aa h1 <| aa h2 h3) (aa @p_ref03_Check kp) ?_
      exact ends_ret rfl rfl rfl (by rw [atF_ok hc hin, h3]; rfl)
    · have kp : PureC Try.prog fi_fullerref02_Place [dI s, dI x] (.tup [dN 0, dN 20]) := by have := p_ref02_Place s x; rw [placeF_not (fun h => hin h.2)] at this; exact this
      refine go hc (aa @p_ref03_Check kp) ?_
      exact ends_ret rfl rfl rfl (by rw [atF_not hc hin]; rfl)
end Go.AM

namespace Go.AM
open Go Go.Proofs
set_option maxRecDepth 100000
set_option maxHeartbeats 4000000

def I64 (n : Int) : Prop := -9223372036854775808 ≤ n ∧ n < 9223372036854775808
instance (n : Int) : Decidable (I64 n) := by unfold I64; exact inferInstance
abbrev dU (n : Nat) : DV := .one (.int .u64 (n : Int))
theorem w64_eq (n : Int) : IntKind.i64.wrap n = if n % 18446744073709551616 ≥ 9223372036854775808 then n % 18446744073709551616 - 18446744073709551616 else n % 18446744073709551616 := by
  simp only [IntKind.wrap, IntKind.bits, IntKind.signed]
  simp
theorem u64_eq (n : Int) : IntKind.u64.wrap n = n % 18446744073709551616 := by
  simp only [IntKind.wrap, IntKind.bits, IntKind.signed]
  simp
theorem u64_in {n : Int} (h0 : 0 ≤ n) (h1 : n < 18446744073709551616) : IntKind.u64.wrap n = n := by
  rw [u64_eq]; omega
theorem u64_nat {n : Nat} (h1 : n < 18446744073709551616) : IntKind.u64.wrap (n : Int) = (n : Int) := u64_in (by omega) (by omega)
theorem u64_and {x : Nat} (hx : x < 18446744073709551616) : andZ .u64 (x : Int) 4294967295 = ((x % 4294967296 : Nat) : Int) := by
  unfold andZ
  have e1 : (BitVec.ofInt IntKind.u64.bits (x : Int) &&& BitVec.ofInt IntKind.u64.bits 4294967295).toNat = x % 4294967296 := by
    rw [BitVec.toNat_and]
    have h2 : (BitVec.ofInt IntKind.u64.bits (x : Int)).toNat = x := by
      show (BitVec.ofInt 64 (x : Int)).toNat = x
      rw [BitVec.toNat_ofInt]; omega
    have h3 : (BitVec.ofInt IntKind.u64.bits 4294967295).toNat = 2 ^ 32 - 1 := by decide
    rw [h2, h3, Nat.and_two_pow_sub_one_eq_mod]
  rw [e1, u64_nat (by omega)]
theorem shr32 (x : Nat) : shrZ .u64 (x : Int) 32 = ((x / 4294967296 : Nat) : Int) := by
  unfold shrZ
  have : (2 : Int) ^ (min (32 : Int).toNat IntKind.u64.bits) = 4294967296 := by decide
  rw [this, Int.fdiv_eq_ediv_of_nonneg _ (by decide)]
  omega
theorem shl32 (x : Nat) : shlZ .u64 (x : Int) 32 = ((x % 4294967296 * 4294967296 : Nat) : Int) := by
  unfold shlZ
  have : (2 : Int) ^ (min (32 : Int).toNat IntKind.u64.bits) = 4294967296 := by decide
  rw [this, u64_eq]
  omega
def rng (n : Int) : Int × Int := if I64 n then (n, 0) else (0, 10)
def fAdd (a b : Int) : Int × Int := rng (a + b)
def fMul (a b : Int) : Int × Int := rng (a * b / 4294967296)
theorem rng_in {n : Int} (h : I64 n) : rng n = (n, 0) := if_pos h
theorem rng_out {n : Int} (h : ¬ I64 n) : rng n = (0, 10) := if_neg h
theorem rng_range (n : Int) : I64 (rng n).1 := by
  by_cases h : I64 n
  · rw [rng_in h]; exact h
  · rw [rng_out h]; exact ⟨by decide, by decide⟩
theorem p_fix_told (n : Int) (b : Bool) : PureC Try.prog fi_fix_told [dN n, dB b] (dNE (if b then (n, 0) else (0, 10))) := by
  refine pure_fix_told (by simp) fun G hP hn => ?_
  unfold a_fix_told
  cases b
  · refine go trivial trivial ?_
    exact ends_ret rfl rfl rfl rfl
  · refine go trivial trivial ?_
    exact ends_ret rfl rfl rfl rfl
theorem p_fix_Add {a b : Int} (ha : I64 a) (hb : I64 b) : PureC Try.prog fi_fix_Add [dN a, dN b] (dNE (fAdd a b)) := by
  refine pure_fix_Add (by simp) fun G hP hn => ?_
  unfold a_fix_Add
  have hw := w64_eq (a + b)
  unfold I64 at ha hb
  have k1 : I64 (a + b) → fAdd a b = (IntKind.i64.wrap (a + b), 0) := fun h => by
    rw [wrap_in h.1 h.2]; exact rng_in h
  have k2 : ¬ I64 (a + b) → fAdd a b = (0, 10) := fun h => by
    exact rng_out h
  unfold I64 at k1 k2
  by_cases h1 : a < 0 <;> by_cases h2 : b < 0 <;> by_cases h3 : IntKind.i64.wrap (a + b) < 0
  all_goals
    refine go (aa h1 <| aa h2 h3) @p_fix_told ?_
    exact ends_ret rfl rfl rfl (by
      simp only [resD]
      first
        | (rw [k1 (by split at hw <;> omega)]; done)
        | (rw [k2 (by split at hw <;> omega)]; done)
        | (rw [k1 (by split at hw <;> omega)]; rfl)
        | (rw [k2 (by split at hw <;> omega)]; rfl))
theorem p_ref01_Add {a b : Int} (ha : I64 a) (hb : I64 b) : PureC Try.prog fi_fullerref01_Add [dN a, dN b] (dNE (fAdd a b)) := by
  refine pure_fullerref01_Add (by simp) fun G hP hn => ?_
  unfold a_fullerref01_Add
  unfold I64 at ha hb
  by_cases h1 : b > 0
  · have w1 : IntKind.i64.wrap (9223372036854775807 - b) = 9223372036854775807 - b := wrap_in (by omega) (by omega)
    by_cases h2 : a > 9223372036854775807 - b
    · refine go (aa h1 <| aa w1 h2) trivial ?_
      exact ends_ret rfl rfl rfl (by rw [show fAdd a b = (0, 10) from rng_out (by unfold I64; omega)]; rfl)
    · have hr : I64 (a + b) := ⟨by omega, by omega⟩
      have h3 : ¬ b < 0 := by omega
      have w3 : IntKind.i64.wrap (a + b) = a + b := wrap_in hr.1 hr.2
      refine go (aa h1 <| aa w1 <| aa h2 <| aa h3 w3) trivial ?_
      exact ends_ret rfl rfl rfl (by rw [show fAdd a b = (a + b, 0) from rng_in hr]; rfl)
  · by_cases h3 : b < 0
    · have w1 : IntKind.i64.wrap (-9223372036854775808 - b) = -9223372036854775808 - b := wrap_in (by omega) (by omega)
      by_cases h2 : a < -9223372036854775808 - b
      · refine go (aa h1 <| aa w1 <| aa h2 h3) trivial ?_
        exact ends_ret rfl rfl rfl (by rw [show fAdd a b = (0, 10) from rng_out (by unfold I64; omega)]; rfl)
      · have hr : I64 (a + b) := ⟨by omega, by omega⟩
        have w3 : IntKind.i64.wrap (a + b) = a + b := wrap_in hr.1 hr.2
        refine go (aa h1 <| aa w1 <| aa h2 <| aa h3 w3) trivial ?_
        exact ends_ret rfl rfl rfl (by rw [show fAdd a b = (a + b, 0) from rng_in hr]; rfl)
    · have hr : I64 (a + b) := ⟨by omega, by omega⟩
      have w3 : IntKind.i64.wrap (a + b) = a + b := wrap_in hr.1 hr.2
      refine go (aa h1 <| aa h3 w3) trivial ?_
      exact ends_ret rfl rfl rfl (by rw [show fAdd a b = (a + b, 0) from rng_in hr]; rfl)
theorem p_fix_size {a : Int} (ha : I64 a) : PureC Try.prog fi_fix_size [dN a] (dU a.natAbs) := by
  refine pure_fix_size (by simp) fun G hP hn => ?_
  unfold a_fix_size
  unfold I64 at ha
  by_cases h1 : a < 0
  · have w : IntKind.u64.wrap (0 - IntKind.u64.wrap a) = (a.natAbs : Int) := by rw [u64_eq a, u64_eq]; omega
    refine go (aa h1 @w) trivial ?_
    exact ends_ret rfl rfl rfl rfl
  · have w : IntKind.u64.wrap a = (a.natAbs : Int) := by rw [u64_eq a]; omega
    refine go (aa h1 @w) trivial ?_
    exact ends_ret rfl rfl rfl rfl
theorem p_ref01_size {a : Int} (ha : I64 a) : PureC Try.prog fi_fullerref01_size [dN a] (dU a.natAbs) := by
  refine pure_fullerref01_size (by simp) fun G hP hn => ?_
  unfold a_fullerref01_size
  unfold I64 at ha
  by_cases h1 : a < 0
  · have w0 : IntKind.i64.wrap (a + 1) = a + 1 := wrap_in (by omega) (by omega)
    have w1 : IntKind.i64.wrap (0 - (a + 1)) = 0 - (a + 1) := wrap_in (by omega) (by omega)
    have w2 : IntKind.u64.wrap (0 - (a + 1)) = 0 - (a + 1) := u64_in (by omega) (by omega)
    have w3 : IntKind.u64.wrap (0 - (a + 1) + 1) = (a.natAbs : Int) := by rw [u64_eq]; omega
    refine go (aa h1 <| aa w0 <| aa w1 <| aa w2 w3) trivial ?_
    exact ends_ret rfl rfl rfl rfl
  · have w : IntKind.u64.wrap a = (a.natAbs : Int) := by rw [u64_eq a]; omega
    refine go (aa h1 @w) trivial ?_
    exact ends_ret rfl rfl rfl rfl
def apart (a b : Int) : Bool := decide (a ≠ 0) && (decide (b ≠ 0) && (decide (a < 0) != decide (b < 0)))
theorem p_fix_apart (a b : Int) : PureC Try.prog fi_fix_apart [dN a, dN b] (dB (apart a b)) := by
  refine pure_fix_apart (by simp) fun G hP hn => ?_
  unfold a_fix_apart
  by_cases h1 : a = 0
  · have h1' : (a != 0) = false := by simp [h1]
    refine go h1' trivial ?_
    exact ends_ret rfl rfl rfl (by simp [resD, apart, h1])
  · have h1' : (a != 0) = true := by simp [h1]
    by_cases h2 : b = 0
    · have h2' : (b != 0) = false := by simp [h2]
      refine go (aa h1' h2') trivial ?_
      exact ends_ret rfl rfl rfl (by simp [resD, apart, h2])
    · have h2' : (b != 0) = true := by simp [h2]
      by_cases h3 : a < 0 <;> by_cases h4 : b < 0
      all_goals
        refine go (aa h1' <| aa h2' <| aa h3 h4) trivial ?_
        exact ends_ret rfl rfl rfl (by simp [resD, apart, h1, h2, h3, h4])
end Go.AM

namespace Go.AM
open Go Go.Proofs
set_option maxRecDepth 100000
set_option maxHeartbeats 4000000

abbrev dUU (a b : Nat) : DV := .tup [dU a, dU b]
theorem p_bits_Mul64 {x y : Nat} (hx : x < 18446744073709551616) (hy : y < 18446744073709551616) : PureC Try.prog fi_math_bits_Mul64 [dU x, dU y] (dUU (x * y / 18446744073709551616) (x * y % 18446744073709551616)) := by
  refine pure_math_bits_Mul64 (by simp) fun G hP hn => ?_
  unfold a_math_bits_Mul64
  obtain ⟨l1, l2, l3, l4⟩ := Lib.mul64_hi x y hx hy
  have lq := Lib.half_mul_le (a := x / 4294967296) (b := y % 4294967296) (by omega) (by omega)
  have lr := Lib.half_mul_le (a := x % 4294967296) (b := y / 4294967296) (by omega) (by omega)
  have lp := Lib.half_mul_le (a := x / 4294967296) (b := y / 4294967296) (by omega) (by omega)
  have a1 := u64_and hx
  have a2 := u64_and hy
  have m1 : IntKind.u64.wrap (((x % 4294967296 : Nat) : Int) * ((y % 4294967296 : Nat) : Int)) = ((x % 4294967296 * (y % 4294967296) : Nat) : Int) := by rw [← Int.natCast_mul, u64_nat l1]
  have m2 : IntKind.u64.wrap (((x / 4294967296 : Nat) : Int) * ((y % 4294967296 : Nat) : Int)) = ((x / 4294967296 * (y % 4294967296) : Nat) : Int) := by rw [← Int.natCast_mul, u64_nat (by omega)]
  have m3 : IntKind.u64.wrap (((x % 4294967296 : Nat) : Int) * ((y / 4294967296 : Nat) : Int)) = ((x % 4294967296 * (y / 4294967296) : Nat) : Int) := by rw [← Int.natCast_mul, u64_nat (by omega)]
  have m4 : IntKind.u64.wrap (((x / 4294967296 : Nat) : Int) * ((y / 4294967296 : Nat) : Int)) = ((x / 4294967296 * (y / 4294967296) : Nat) : Int) := by rw [← Int.natCast_mul, u64_nat (by omega)]
  have m5 : IntKind.u64.wrap ((x : Int) * (y : Int)) = ((x * y % 18446744073709551616 : Nat) : Int) := by rw [← Int.natCast_mul, u64_eq]; omega
  have hh : x * y / 18446744073709551616 < 18446744073709551616 := by
    have : x * y ≤ 18446744073709551615 * 18446744073709551615 := Nat.mul_le_mul (by omega) (by omega)
    omega
  generalize x % 4294967296 * (y % 4294967296) = p0 at *
  generalize x / 4294967296 * (y % 4294967296) = p1 at *
  generalize x % 4294967296 * (y / 4294967296) = p2 at *
  generalize x / 4294967296 * (y / 4294967296) = p3 at *
  have s1 : IntKind.u64.wrap ((p1 : Int) + ((p0 / 4294967296 : Nat) : Int)) = ((p1 + p0 / 4294967296 : Nat) : Int) := by rw [← Int.natCast_add, u64_nat l2]
  have a3 := u64_and l2
  have s2 : IntKind.u64.wrap ((((p1 + p0 / 4294967296) % 4294967296 : Nat) : Int) + (p2 : Int)) = (((p1 + p0 / 4294967296) % 4294967296 + p2 : Nat) : Int) := by rw [← Int.natCast_add, u64_nat l3]
  have s3 : IntKind.u64.wrap ((p3 : Int) + (((p1 + p0 / 4294967296) / 4294967296 : Nat) : Int)) = ((p3 + (p1 + p0 / 4294967296) / 4294967296 : Nat) : Int) := by rw [← Int.natCast_add, u64_nat (by omega)]
  have s4 : IntKind.u64.wrap (((p3 + (p1 + p0 / 4294967296) / 4294967296 : Nat) : Int) + ((((p1 + p0 / 4294967296) % 4294967296 + p2) / 4294967296 : Nat) : Int)) = ((x * y / 18446744073709551616 : Nat) : Int) := by
    rw [← Int.natCast_add, l4, u64_nat hh]
  refine go (aa a1 <| aa a2 <| aa a3 <| aa @shr32 <| aa m1 <| aa m2 <| aa m3 <| aa m4 <| aa m5 <| aa s1 <| aa s2 <| aa s3 s4) trivial ?_
  exact ends_ret rfl rfl rfl rfl
def sgn (v : Nat) (rest below : Bool) : Int := if below then -((v : Int) + (if rest then 1 else 0)) else v
theorem m_signed_1 (t h l : Nat) (hl : l < 18446744073709551616) (hh : h < 18446744073709551615) : MutC Try.prog fi_fix_wide_signed_1 [.one (.ptr t 0 1 0)] [(t, .arr true 1 [[.int .u64 (h : Int)], [.int .u64 (l : Int)]])] (.tup [])
    [(t, .arr true 1 [[.int .u64 (((h * 18446744073709551616 + l + 1) / 18446744073709551616 : Nat) : Int)], [.int .u64 (((h * 18446744073709551616 + l + 1) % 18446744073709551616 : Nat) : Int)]])] [] := by
  refine mut_fix_wide_signed_1 (by simp) fun G ex hP hn hfr => ?_
  unfold a_fix_wide_signed_1
  have e1 : (l + 1) % 18446744073709551616 = (h * 18446744073709551616 + l + 1) % 18446744073709551616 := by omega
  have e2 : IntKind.u64.wrap ((h : Int) + (((l + 1) / 18446744073709551616 : Nat) : Int)) = (((h * 18446744073709551616 + l + 1) / 18446744073709551616 : Nat) : Int) := by rw [u64_eq]; omega
  repeat' (first | apply T_then | apply then_ret | apply then_exit | apply then_goto | apply rnd_exit | apply rnd_ret | apply rnd_goto | apply noGo_normal | apply noGo_ret | apply noGo_exit | apply jmp_normal | apply jmp_ret | apply jmp_exit | apply jmp_goto | apply inB_normal | apply inB_ret | apply inB_goto | apply inB_exit | refine inB_exit_ne rfl ?_ | ((first | apply T_srK fw | apply T_regK fw); · ((try simp only [TOps.flat, List.cons_append, List.nil_append]); repeat (first | apply X_g0 | apply X_g | apply S_keep | apply X_skip | apply X_skipN | apply X_q | apply X_st | apply X_n | apply X_s | apply SKs0 | apply SKs2 | apply SKs1 | refine ⟨⟨rfl, rfl⟩, ?_⟩ | refine ⟨⟨rfl, ?_⟩, ?_⟩ | refine ⟨?_, ?_⟩ | (· (try simp only [go_sem, seval, reduceIte, ↓reduceIte, Bool.not_eq_true, reduceCtorEq, beq_false, beq_true, hn, hP, e1, e2, Int.toNat_one, Int.toNat_zero, Nat.reducePow]); first | done | rfl)))) | apply T_seq | apply T_block | refine T_scopeJ 0 rfl ?_ | apply T_scope | apply T_goto | apply T_ret | apply T_skip | apply T_exit | apply T_label | refine T_condT rfl ?_ | refine T_condF rfl ?_ | refine T_condD rfl (fun _ => ?_) (fun _ => ?_) | refine T_cond rfl (fun _ => ?_) (fun _ => ?_))
  exact endsM_normal rfl rfl rfl (by simp [lo]) rfl
end Go.AM

namespace Go.AM
open Go Go.Proofs
set_option maxRecDepth 100000
set_option maxHeartbeats 4000000

theorem neg_u64 {l : Nat} (h : l ≤ 9223372036854775808) : IntKind.i64.wrap (IntKind.u64.wrap (0 - (l : Int))) = -(l : Int) := by
  rw [u64_eq, w64_eq]; split <;> omega
theorem p_fix_signed {h l : Nat} (hl : l < 18446744073709551616) (hh : h < 18446744073709551615) (rest below : Bool) :
    PureC Try.prog fi_fix_wide_signed [.agg [.int .u64 (h : Int), .int .u64 (l : Int)], dB rest, dB below] (dNE (rng (sgn (h * 18446744073709551616 + l) rest below))) := by
  refine pure_fix_wide_signed (by simp) fun G hP hn => ?_
  unfold a_fix_wide_signed
  have w8 : IntKind.u64.wrap 9223372036854775808 = 9223372036854775808 := by decide
  cases below
  · by_cases h1 : (h : Int) > 0
    · refine go h1 trivial ?_
      exact ends_ret rfl rfl rfl (by rw [rng_out (by unfold I64 sgn; simp; omega)]; rfl)
    · by_cases h2 : (l : Int) > 9223372036854775807
      · refine go (aa h1 h2) trivial ?_
        exact ends_ret rfl rfl rfl (by rw [rng_out (by unfold I64 sgn; simp; omega)]; rfl)
      · have w1 : IntKind.i64.wrap (l : Int) = (l : Int) := wrap_in (by omega) (by omega)
        refine go (aa h1 <| aa h2 w1) trivial ?_
        have e : sgn (h * 18446744073709551616 + l) rest false = (l : Int) := by unfold sgn; simp; omega
        exact ends_ret rfl rfl rfl (by rw [e, rng_in (by unfold I64; omega)]; rfl)
  · cases rest
    · by_cases h1 : (h : Int) > 0
      · refine go (aa h1 w8) trivial ?_
        exact ends_ret rfl rfl rfl (by rw [rng_out (by unfold I64 sgn; simp; omega)]; rfl)
      · by_cases h2 : (l : Int) > 9223372036854775808
        · refine go (aa h1 <| aa h2 w8) trivial ?_
          exact ends_ret rfl rfl rfl (by rw [rng_out (by unfold I64 sgn; simp; omega)]; rfl)
        · have w1 := neg_u64 (l := l) (by omega)
          refine go (aa h1 <| aa h2 <| aa w1 w8) trivial ?_
          have e : sgn (h * 18446744073709551616 + l) false true = -(l : Int) := by unfold sgn; simp; omega
          exact ends_ret rfl rfl rfl (by rw [e, rng_in (by unfold I64; omega)]; rfl)
    · have km := m_signed_1 3 h l hl hh
      have hv : (h * 18446744073709551616 + l + 1) / 18446744073709551616 * 18446744073709551616 + (h * 18446744073709551616 + l + 1) % 18446744073709551616 = h * 18446744073709551616 + l + 1 := by omega
      generalize (h * 18446744073709551616 + l + 1) / 18446744073709551616 = h' at km hv
      have hlt : (h * 18446744073709551616 + l + 1) % 18446744073709551616 < 18446744073709551616 := by omega
      generalize (h * 18446744073709551616 + l + 1) % 18446744073709551616 = l' at km hv hlt
      by_cases h1 : (h' : Int) > 0
      · refine go (aa h1 w8) km ?_
        exact ends_ret rfl rfl rfl (by rw [rng_out (by unfold I64 sgn; simp; omega)]; rfl)
      · by_cases h2 : (l' : Int) > 9223372036854775808
        · refine go (aa h1 <| aa h2 w8) km ?_
          exact ends_ret rfl rfl rfl (by rw [rng_out (by unfold I64 sgn; simp; omega)]; rfl)
        · have w1 := neg_u64 (l := l') (by omega)
          refine go (aa h1 <| aa h2 <| aa w1 w8) km ?_
          have e : sgn (h * 18446744073709551616 + l) true true = -(l' : Int) := by unfold sgn; simp; omega
          exact ends_ret rfl rfl rfl (by rw [e, rng_in (by unfold I64; omega)]; rfl)
theorem p_ref01_signed {h l : Nat} (hl : l < 18446744073709551616) (hh : h < 18446744073709551615) (rest below : Bool) :
    PureC Try.prog fi_fullerref01_signed [dU h, dU l, dB rest, dB below] (dNE (rng (sgn (h * 18446744073709551616 + l) rest below))) := by
  refine pure_fullerref01_signed (by simp) fun G hP hn => ?_
  unfold a_fullerref01_signed
  have fin : ∀ (h' l' : Nat), l' < 18446744073709551616 → ∀ v : Int, v = -(((h' * 18446744073709551616 + l' : Nat) : Int)) → rng v =
      if (h' : Int) > 0 then (0, 10) else if (l' : Int) > 9223372036854775808 then (0, 10) else if (l' : Int) = 0 then (0, 0) else (v, 0) := by
    intro h' l' hl' v hv
    split
    · exact rng_out (by unfold I64; omega)
    · split
      · exact rng_out (by unfold I64; omega)
      · split
        · rw [rng_in (by unfold I64; omega), show v = 0 from by omega]
        · exact rng_in (by unfold I64; omega)
  have main : ∀ (h' l' : Nat), l' < 18446744073709551616 → ∀ v : Int, v = -(((h' * 18446744073709551616 + l' : Nat) : Int)) →
      ((h' : Int) > 0 ∧ rng v = (0, 10)) ∨ (¬ (h' : Int) > 0 ∧ (l' : Int) > 9223372036854775808 ∧ rng v = (0, 10)) ∨
      (¬ (h' : Int) > 0 ∧ ¬ (l' : Int) > 9223372036854775808 ∧ ((l' : Int) == 0) = true ∧ rng v = (0, 0)) ∨
      (¬ (h' : Int) > 0 ∧ ¬ (l' : Int) > 9223372036854775808 ∧ ((l' : Int) == 0) = false ∧ rng v = (v, 0) ∧ IntKind.u64.wrap ((l' : Int) - 1) = (l' : Int) - 1 ∧
        IntKind.i64.wrap ((l' : Int) - 1) = (l' : Int) - 1 ∧ IntKind.i64.wrap (0 - ((l' : Int) - 1)) = 0 - ((l' : Int) - 1) ∧ IntKind.i64.wrap (0 - ((l' : Int) - 1) - 1) = v) := by
    intro h' l' hl' v hv
    have := fin h' l' hl' v hv
    by_cases c1 : (h' : Int) > 0
    · rw [if_pos c1] at this; exact .inl ⟨c1, this⟩
    · rw [if_neg c1] at this
      by_cases c2 : (l' : Int) > 9223372036854775808
      · rw [if_pos c2] at this; exact .inr (.inl ⟨c1, c2, this⟩)
      · rw [if_neg c2] at this
        by_cases c3 : (l' : Int) = 0
        · rw [if_pos c3] at this; exact .inr (.inr (.inl ⟨c1, c2, by simpa using c3, this⟩))
        · rw [if_neg c3] at this
          refine .inr (.inr (.inr ⟨c1, c2, by simpa using c3, this, u64_in (by omega) (by omega), wrap_in (by omega) (by omega), wrap_in (by omega) (by omega), ?_⟩))
          rw [wrap_in (by omega) (by omega)]; omega
  cases below
  · by_cases h1 : (h : Int) > 0
    · refine go h1 trivial ?_
      exact ends_ret rfl rfl rfl (by rw [rng_out (by unfold I64 sgn; simp; omega)]; rfl)
    · by_cases h2 : (l : Int) > 9223372036854775807
      · refine go (aa h1 h2) trivial ?_
        exact ends_ret rfl rfl rfl (by rw [rng_out (by unfold I64 sgn; simp; omega)]; rfl)
      · have w1 : IntKind.i64.wrap (l : Int) = (l : Int) := wrap_in (by omega) (by omega)
        refine go (aa h1 <| aa h2 w1) trivial ?_
        have e : sgn (h * 18446744073709551616 + l) rest false = (l : Int) := by unfold sgn; simp; omega
        exact ends_ret rfl rfl rfl (by rw [e, rng_in (by unfold I64; omega)]; rfl)
  · cases rest
    · have hm := main h l hl (sgn (h * 18446744073709551616 + l) false true) (by unfold sgn; simp)
      rcases hm with ⟨c1, hr⟩ | ⟨c1, c2, hr⟩ | ⟨c1, c2, c3, hr⟩ | ⟨c1, c2, c3, hr, w1, w2, w3, w4⟩
      · refine go c1 trivial ?_
        exact ends_ret rfl rfl rfl (by rw [hr]; rfl)
      · refine go (aa c1 c2) trivial ?_
        exact ends_ret rfl rfl rfl (by rw [hr]; rfl)
      · refine go (aa c1 <| aa c2 c3) trivial ?_
        exact ends_ret rfl rfl rfl (by rw [hr]; rfl)
      · refine go (aa c1 <| aa c2 <| aa c3 <| aa w1 <| aa w2 <| aa w3 w4) trivial ?_
        exact ends_ret rfl rfl rfl (by rw [hr]; rfl)
    · by_cases hl1 : l + 1 = 18446744073709551616
      · have w0 : IntKind.u64.wrap ((l : Int) + 1) = 0 := by rw [u64_eq]; omega
        have w00 : IntKind.u64.wrap ((h : Int) + 1) = ((h + 1 : Nat) : Int) := by rw [u64_eq]; omega
        have c1 : ((h + 1 : Nat) : Int) > 0 := by omega
        refine go (aa w0 <| aa w00 c1) trivial ?_
        exact ends_ret rfl rfl rfl (by rw [rng_out (by unfold I64 sgn; simp; omega)]; rfl)
      · have w0 : IntKind.u64.wrap ((l : Int) + 1) = ((l + 1 : Nat) : Int) := by rw [u64_eq]; omega
        have c0 : (((l + 1 : Nat) : Int) == 0) = false := by simp; omega
        have hm := main h (l + 1) (by omega) (sgn (h * 18446744073709551616 + l) true true) (by unfold sgn; simp; omega)
        rcases hm with ⟨c1, hr⟩ | ⟨c1, c2, hr⟩ | ⟨c1, c2, c3, hr⟩ | ⟨c1, c2, c3, hr, w1, w2, w3, w4⟩
        · refine go (aa w0 <| aa c0 c1) trivial ?_
          exact ends_ret rfl rfl rfl (by rw [hr]; rfl)
        · refine go (aa w0 <| aa c0 <| aa c1 c2) trivial ?_
          exact ends_ret rfl rfl rfl (by rw [hr]; rfl)
        · rw [c0] at c3; cases c3
        · refine go (aa w0 <| aa c0 <| aa c1 <| aa c2 <| aa c3 <| aa w1 <| aa w2 <| aa w3 w4) trivial ?_
          exact ends_ret rfl rfl rfl (by rw [hr]; rfl)
end Go.AM

namespace Go.AM
open Go Go.Proofs
set_option maxRecDepth 100000
set_option maxHeartbeats 4000000

theorem abs_lt {a : Int} (ha : I64 a) : a.natAbs ≤ 9223372036854775808 := by unfold I64 at ha; omega
end Go.AM

namespace Go.AM
open Go Go.Proofs
set_option maxRecDepth 100000
set_option maxHeartbeats 4000000

def I64s (d : List Int) : Prop := ∀ n ∈ d, I64 n
theorem I64s.get {d : List Int} (h : I64s d) {i : Nat} {x : Int} (hx : d[i]? = some x) : I64 x := h x (List.mem_of_getElem? hx)
theorem I64s.nil : I64s [] := fun n hn => by simp at hn
theorem I64s.append {d e : List Int} (h : I64s d) (k : I64s e) : I64s (d ++ e) := fun n hn => by
  rcases List.mem_append.1 hn with h1 | h1
  · exact h n h1
  · exact k n h1
def coll (f : Nat → Int × Int) : Nat → Nat → List Int → List Int × Int
  | 0, _, acc => (acc, 0)
  | n + 1, a, acc => if (f a).2 = 0 then coll f n (a + 1) (acc ++ [(f a).1]) else ([], (f a).2)
theorem coll_ok {f : Nat → Int × Int} : ∀ {n a : Nat} {acc : List Int}, (∀ k, k < n → (f (a + k)).2 = 0) → coll f n a acc = (acc ++ (List.range n).map (fun k => (f (a + k)).1), 0)
  | 0, a, acc, _ => by simp [coll]
  | n + 1, a, acc, h => by
    have h0 := h 0 (by omega)
    simp only [Nat.add_zero] at h0
    simp only [coll]
    rw [if_pos h0, coll_ok (fun k hk => by have := h (k + 1) (by omega); rwa [show a + (k + 1) = a + 1 + k from by omega] at this)]
    rw [List.range_succ_eq_map, List.map_cons, List.map_map]
    simp only [List.append_assoc, List.cons_append, List.nil_append, Nat.add_zero]
    congr 3
    apply List.map_congr_left
    intro k _
    simp only [Function.comp]
    rw [show a + 1 + k = a + (k + 1) from by omega]
def dot (x y : Nat → Int) : Nat → Nat → Int → Int × Int
  | 0, _, s => (s, 0)
  | n + 1, k, s => if (fMul (x k) (y k)).2 = 0 then (if (fAdd s (fMul (x k) (y k)).1).2 = 0 then dot x y n (k + 1) (fAdd s (fMul (x k) (y k)).1).1 else (0, (fAdd s (fMul (x k) (y k)).1).2))
    else (0, (fMul (x k) (y k)).2)
theorem fAdd_range (a b : Int) : I64 (fAdd a b).1 := rng_range _
end Go.AM

namespace Go.AM
open Go Go.Proofs
set_option maxRecDepth 100000
set_option maxHeartbeats 4000000

def gt (d : List Int) (i : Nat) : Int := (d[i]?).getD 0
def cell (n p : Nat) (d e : List Int) (at_ : Nat) : Int × Int := dot (fun k => gt d (at_ / p * n + k)) (fun k => gt e (k * p + at_ % p)) n 0 0
end Go.AM

namespace Go.AM
open Go Go.Proofs
set_option maxRecDepth 100000
set_option maxHeartbeats 4000000

theorem I64s.mk {s : List Int} {g : List Int → Int} (h : ∀ x, I64 (g x)) : I64s (mk s g) := fun n hn => by
  simp only [AM.mk, List.mem_map] at hn
  obtain ⟨p, _, rfl⟩ := hn
  exact h _
end Go.AM

namespace Go.AM
open Go Go.Proofs
set_option maxRecDepth 100000
set_option maxHeartbeats 4000000

theorem i64_0 : I64 0 := ⟨by decide, by decide⟩
theorem row_lt {m p i j : Nat} (hi : i < m) (hj : j < p) : i * p + j < m * p := by
  have : (i + 1) * p ≤ m * p := Nat.mul_le_mul_right p (by omega)
  rw [Nat.succ_mul] at this; omega
theorem gt_range {d : List Int} (h : I64s d) (i : Nat) : I64 (gt d i) := by
  unfold gt
  cases e : d[i]? with
  | none => exact i64_0
  | some v => exact h.get e
theorem len2 {s d : List Int} (h : checkT s d = true) (hl : s.length = 2) : ∃ m n : Nat, s = [(m : Int), (n : Int)] := by
  match s, hl with
  | [m, n], _ =>
    have q1 := (checkT_iff.1 h).1.2.1 m (by simp)
    have q2 := (checkT_iff.1 h).1.2.1 n (by simp)
    obtain ⟨m, rfl⟩ := Int.eq_ofNat_of_zero_le (by omega : 0 ≤ m)
    obtain ⟨n, rfl⟩ := Int.eq_ofNat_of_zero_le (by omega : 0 ≤ n)
    exact ⟨m, n, rfl⟩
end Go.AM

namespace Go.AM
open Go Go.Proofs
set_option maxRecDepth 100000
set_option maxHeartbeats 4000000

theorem ends_twoM {rv : List RV} {s : AS} {t1 t2 k1 k2 l1 l2 : Nat} {cap1 cap2 : Option Nat} {rows1 rows2 : List (List PV)} {tl : List AV} {ds : List DV} {r : DV} (hne : t1 ≠ t2)
    (h1 : evRV rv s.env s.σ = some (.agg [.msl t1 0 k1 l1 cap1, .msl t2 0 k2 l2 cap2] :: tl)) (h2 : lo s.σ t1 = .arr true k1 rows1) (h3 : lo s.σ t2 = .arr true k2 rows2) (hl1 : l1 = rows1.length) (hl2 : l2 = rows2.length)
    (ht : (tl = [] ∧ ds = []) ∨ ∃ v, tl = [.one (.p v)] ∧ ds = [.one v]) (hr : r = resD (.agg [.sl rows1, .sl rows2] :: ds)) :
    Ends rv r .ret s := by
  have h4 : foldP (toP 6) [.msl t1 0 k1 l1 cap1, .msl t2 0 k2 l2 cap2] s.σ = some ([.sl rows1, .sl rows2], (t2, .arr false k2 rows2) :: (t1, .arr false k1 rows1) :: s.σ) := by
    have e1 := toD_list (n := 5) (cap := cap1) h2 hl1
    have e2 := toD_list (n := 5) (cap := cap2) (σ := (t1, .arr false k1 rows1) :: s.σ) (t := t2) (k := k2) (rows := rows2) (m := true) (by rw [← h3]; simp [lo, hne.symm]) hl2
    simp only [if_true] at e1 e2
    simp only [foldP, e1, e2]
  rcases ht with ⟨rfl, rfl⟩ | ⟨v, rfl, rfl⟩
  · exact ends_ret (ds := [.agg [.sl rows1, .sl rows2]]) (σ' := (t2, .arr false k2 rows2) :: (t1, .arr false k1 rows1) :: s.σ) h1 (by simp only [toDs, toD, h4]) rfl hr.symm
  · exact ends_ret (ds := [.agg [.sl rows1, .sl rows2], .one v]) (σ' := (t2, .arr false k2 rows2) :: (t1, .arr false k1 rows1) :: s.σ) h1 (by simp only [toDs, toD, h4]; rfl) rfl hr.symm
end Go.AM

namespace Go.AM
open Go Go.Proofs
set_option maxRecDepth 100000
set_option maxHeartbeats 4000000

theorem p_bits_Mul {x y : Nat} (hx : x < 18446744073709551616) (hy : y < 18446744073709551616) : PureC Try.prog fi_math_bits_Mul [dU x, dU y] (dUU (x * y / 18446744073709551616) (x * y % 18446744073709551616)) := by
  refine pure_math_bits_Mul (by simp) fun G hP hn => ?_
  unfold a_math_bits_Mul
  have k := p_bits_Mul64 hx hy
  have w1 := u64_nat hx
  have w2 := u64_nat hy
  have w3 : IntKind.u64.wrap ((x * y / 18446744073709551616 : Nat) : Int) = ((x * y / 18446744073709551616 : Nat) : Int) := u64_nat (by
    have : x * y < 18446744073709551616 * 18446744073709551616 := Nat.mul_lt_mul'' hx hy
    omega)
  have w4 : IntKind.u64.wrap ((x * y % 18446744073709551616 : Nat) : Int) = ((x * y % 18446744073709551616 : Nat) : Int) := u64_nat (by omega)
  generalize x * y / 18446744073709551616 = h at *
  generalize x * y % 18446744073709551616 = l at *
  refine go (aa w1 <| aa w2 <| aa w3 w4) k ?_
  exact ends_ret rfl rfl rfl rfl
def repL (v : Int) (k n : Nat) : List Int := List.replicate n v ++ List.replicate (k - n) 0
theorem m_slices_Repeat (v : Int) (k : Nat) (h1 : 1 ≤ k) (h2 : k ≤ 64) : MutC Try.prog fi_slices_Repeat_int_int [.one (.msl 13 0 1 1 none), .one (.p (.int .i64 k))] [(13, .arr true 1 (rI [v]))]
    (.one (.msl 30 0 1 k (some k))) [(13, .arr true 1 (rI [v])), (30, .arr true 1 (rI (List.replicate k v)))] [30] := by
  refine mut_slices_Repeat_int_int (by simp) fun G ex hP hn hfr => ?_
  unfold a_slices_Repeat_int_int
  have hfr := hfr 30 (by simp)
  have kb := p_bits_Mul (x := 1) (y := k) (by omega) (by omega)
  rw [Nat.one_mul, show k / 18446744073709551616 = 0 from by omega, show k % 18446744073709551616 = k from by omega] at kb
  have w1 : IntKind.u64.wrap (1 : Int) = 1 := by decide
  have w2 := u64_nat (n := k) (by omega)
  have w3 : IntKind.i64.wrap (k : Int) = (k : Int) := wrap_in (by omega) (by omega)
  have c0 : ¬ (k : Int) < 0 := by omega
  have c1 : ¬ (k : Int) > 9223372036854775807 := by omega
  have hM : MaxN = 140737488355328 := rfl
  have q1 : (k : Int) * 8 ≤ MaxN := by omega
  have q2 : (k : Int) ≤ MaxN := by omega
  have m1 : min (1 : Int) (k : Int) = 1 := by omega
  refine go (aa w1 <| aa w2 <| aa w3 <| aa c0 <| aa c1 <| aa m1 <| aa q1 <| aa q2 <| aa hfr (scr_ex hfr)) kb ?_
  have e0 : List.take k [[PV.int IntKind.i64 v]] = [[PV.int IntKind.i64 v]] := List.take_of_length_le (by simpa using h1)
  refine T_for k (fun i (n : Nat) => { env := [(7, .one (.msl 30 0 1 k (some k))), (8, .one (.p (.int .i64 n)))], σ := [(30, .arr true 1 (rI (repL v k n))), (13, .arr true 1 (rI [v]))], ex := ex })
    (fun i n => i < n ∧ n ≤ k) 1 ⟨by omega, h1⟩ ?_ fun i n hi hc => ?_
  · refine Weak.sub fun p hp => ?_
    simp only [List.mem_cons, List.not_mem_nil, or_false] at hp
    rcases hp with rfl | rfl
    · simp [lo, e0, repL, rI]
    · rfl
  obtain ⟨c1, c2⟩ := hc
  by_cases hlt : n < k
  · have c3 : (n : Int) < k := by omega
    have c4 : (n : Int) ≤ k := by omega
    refine go (aa c3 <| aa c4 c2) trivial ?_
    have n0 : ¬ n = 0 := by omega
    have n1 : ¬ n = k := by omega
    have hl : (repL v k n).length = k := by simp [repL]; omega
    have c5 : n + (k - n) = k := by omega
    have e1 : (List.take (k - n) (List.take n (rI (repL v k n)))) = rI (List.replicate (min n (k - n)) v) := by
      simp [repL, rI, List.take_append_of_le_length, List.take_replicate, Nat.min_comm]
    have e2 : (List.take n (rI (repL v k n))).length = n := by simp [hl]; omega
    have w4 : IntKind.i64.wrap ((n : Int) + min (n : Int) ((k - n : Nat) : Int)) = ((n + min n (k - n) : Nat) : Int) := by rw [wrap_in (by omega) (by omega)]; omega
    have e3 : List.take n (rI (repL v k n)) ++ rI (List.replicate (min n (k - n)) v) ++ List.drop (n + min n (k - n)) (rI (repL v k n)) = rI (repL v k (n + min n (k - n))) := by
      rw [← List.map_take, ← List.map_drop, ← List.map_append, ← List.map_append]
      congr 1
      unfold repL
      rw [List.take_append_of_le_length (by simp), List.take_of_length_le (by simp), List.drop_append, List.drop_of_length_le (by simp), List.nil_append, List.length_replicate, List.drop_replicate, List.replicate_append_replicate]
      congr 2
      omega
    apply T_dr fw (by rw [hP]; rfl)
    · simp only [go_sem, seval, reduceIte, ↓reduceIte, bne, beq_false, beq_true, Bool.not_eq_true, Bool.if_true_right, decide_not, reduceCtorEq, hP, all1, n0, n1, hlt, hl, c3, c4, c2, c5, e1, e2, w4, Nat.le_refl, Int.le_refl]
      exact rfl
    refine go trivial trivial ?_
    refine rnd_next (by omega) (n + min n (k - n)) ⟨by omega, by omega⟩ (Weak.sub fun p hp => ?_)
    simp only [List.mem_cons, List.not_mem_nil, or_false] at hp
    rcases hp with rfl | rfl
    · rw [← e3]; simp [lo]
    · rfl
  · have c3 : ¬ (n : Int) < k := by omega
    have hnk : n = k := by omega
    refine go c3 trivial ?_
    refine endsM_ret rfl rfl rfl (fun p hp => ?_) rfl
    simp only [List.mem_cons, List.not_mem_nil, or_false] at hp
    rcases hp with rfl | rfl
    · rfl
    · simp [lo, hnk, repL]
end Go.AM

namespace Go.AM
open Go Go.Proofs
set_option maxRecDepth 100000
set_option maxHeartbeats 4000000

def fullF (s : List Int) (n : Int) : (List Int × List Int) × Int := if checkS s = true then ((s, List.replicate (sizeS s).toNat n), 0) else bad 20
theorem sizeS_nat (s : List Int) : sizeS s = (((sizeS s).toNat : Nat) : Int) := by have := sizeS_nn s; omega
theorem sizeS_one {s : List Int} (h : checkS s = true) : 1 ≤ (sizeS s).toNat ∧ (sizeS s).toNat ≤ 64 := by
  have h1 := checkS_iff.1 h
  have h2 := sizeS_ok h1
  have h3 := prd_pos h1.2.1
  have h4 := h1.2.2
  omega
theorem c_size {s : List Int} : PureC Try.prog fi_shape_Size [dI s] (dN (((sizeS s).toNat : Nat) : Int)) := by
  have := p_shape_Size s
  rw [sizeS_nat s] at this; exact this
theorem m_tensor_Full' {s : List Int} (n : Int) (h : checkS s = true) : MutC Try.prog fi_tensor_Full [.one (.p (eI s)), .one (.p (.int .i64 n))] []
    (.tup [.agg [.msl 5 0 1 s.length none, .msl 30 0 1 (sizeS s).toNat (some (sizeS s).toNat)], .one (.p (.int .i64 0))])
    [(5, .arr true 1 (rI s)), (30, .arr true 1 (rI (List.replicate (sizeS s).toNat n)))] [4, 13, 5, 30] := by
  refine mut_tensor_Full (by simp) fun G ex hP hn hfr => ?_
  unfold a_tensor_Full
  have hs := check_len h
  have kc := p_shape_Check s
  rw [h] at kc
  have kl := m_slices_Clone s (by omega)
  have ks := c_size (s := s)
  have hk := sizeS_one h
  have kr := m_slices_Repeat n (sizeS s).toNat hk.1 hk.2
  have hfr4 := hfr 4 (by simp)
  have hfr13 := hfr 13 (by simp)
  have hfr5 := hfr 5 (by simp)
  have hfr30 := hfr 30 (by simp)
  have hfrA : ∀ x ∈ ex, AV.has 5 x = false := by simpa using hfr5
  have hfrB : ∀ x ∈ ex, AV.has 30 x = false := by simpa using hfr30
  generalize (sizeS s).toNat = k at *
  refine go (aa hfr5 <| aa hfr30 <| aa hfr4 <| aa hfr13 <| aa (scr_ex hfr5) <| aa (scr_ex hfr30) <| aa hfrA hfrB) (aa kc <| aa ks <| aa kl kr) ?_
  refine endsM_ret rfl rfl rfl (fun p hp => ?_) rfl
  simp only [List.mem_cons, List.not_mem_nil, or_false] at hp
  rcases hp with rfl | rfl <;> rfl
theorem m_tensor_Full {s : List Int} (n : Int) (h : checkS s = true) : MutC Try.prog fi_tensor_Full [.one (.p (eI s)), .one (.p (.int .i64 n))] []
    (.tup [.agg [.msl 5 0 1 s.length none, .msl 30 0 1 (sizeS s).toNat (some (sizeS s).toNat)], .one (.p (.int .i64 0))])
    [(5, .arr true 1 (rI s)), (30, .arr true 1 (rI (List.replicate (sizeS s).toNat n)))] [5, 30] :=
  ((m_tensor_Full' n h).hide 4 rfl rfl rfl rfl (by simp)).hide 13 rfl rfl rfl rfl (by simp)
theorem p_tensor_Full (s : List Int) (n : Int) : PureC Try.prog fi_tensor_Full [dI s, dN n] (dTE (fullF s n)) := by
  refine pure_tensor_Full (by simp) fun G hP hn => ?_
  unfold a_tensor_Full
  have kc := p_shape_Check s
  cases h : checkS s
  · refine go h kc ?_
    exact ends_ret rfl rfl rfl (by simp [fullF, h, bad, resD])
  · rw [h] at kc
    have hs := check_len h
    have kl := m_slices_Clone s (by omega)
    have ks := c_size (s := s)
    have hk := sizeS_one h
    have hf : fullF s n = ((s, List.replicate (sizeS s).toNat n), 0) := by unfold fullF; rw [if_pos h]
    have kr := m_slices_Repeat n (sizeS s).toNat hk.1 hk.2
    generalize (sizeS s).toNat = k at *
    refine go trivial (aa kc <| aa ks <| aa kl kr) ?_
    exact ends_twoM (t1 := 5) (t2 := 30) (by decide) rfl rfl rfl (by simp) (by simp) (.inr ⟨_, rfl, rfl⟩) (by rw [hf]; rfl)
end Go.AM

namespace Go.AM
open Go Go.Proofs
set_option maxRecDepth 100000
set_option maxHeartbeats 4000000

abbrev dL (A S B : Int) : DV := .agg [.int .i64 A, .int .i64 S, .int .i64 B]
def lanesF (s d : List Int) (a : Int) : (Int × Int × Int) × Int :=
  if checkT s d = true then (if a < 0 ∨ a ≥ s.length then ((0, 0, 0), 20) else ((sizeS (s.take a.toNat), (s[a.toNat]?).getD 0, sizeS (s.drop (a.toNat + 1))), 0)) else ((0, 0, 0), 30)
theorem rI_take (s : List Int) (n : Nat) : (rI s).take n = rI (s.take n) := by simp [List.map_take]
theorem rI_drop (s : List Int) (n : Nat) : (rI s).drop n = rI (s.drop n) := by simp [List.map_drop]
theorem p_reduce_lanes (s d : List Int) (a : Int) : PureC Try.prog fi_reduce_lanes [dT s d, dN a] (.tup [dL (lanesF s d a).1.1 (lanesF s d a).1.2.1 (lanesF s d a).1.2.2, dN (lanesF s d a).2]) := by
  refine pure_reduce_lanes (by simp) fun G hP hn => ?_
  unfold a_reduce_lanes
  have kc := p_tensor_Check s d
  cases hc : checkT s d
  · rw [hc] at kc
    refine go trivial kc ?_
    exact ends_ret rfl rfl rfl (by simp [lanesF, hc, resD])
  rw [hc] at kc
  by_cases h1 : a < 0
  · refine go h1 kc ?_
    exact ends_ret rfl rfl rfl (by simp [lanesF, hc, h1, resD])
  by_cases h2 : a ≥ s.length
  · refine go (aa h1 h2) kc ?_
    exact ends_ret rfl rfl rfl (by simp [lanesF, hc, h1, h2, resD])
  obtain ⟨n, rfl⟩ := Int.eq_ofNat_of_zero_le (by omega : 0 ≤ a)
  have hlt : n < s.length := by omega
  have hx : s[n]? = some s[n] := List.getElem?_eq_getElem hlt
  have hl := check_len (checkS_iff.2 (checkT_iff.1 hc).1)
  have w1 : IntKind.i64.wrap ((n : Int) + 1) = ((n + 1 : Nat) : Int) := by rw [wrap_in (by omega) (by omega)]; rfl
  have c1 : (n : Int) ≤ s.length := by omega
  have c2 : ((n + 1 : Nat) : Int) ≤ s.length := by omega
  have t1 := rI_take s n
  have t2 := rI_drop s (n + 1)
  have t3 : (s.length : Int).toNat = s.length := rfl
  have t4 : (rI s).take s.length = rI s := by rw [List.take_of_length_le (by simp)]
  refine go (aa h1 <| aa h2 <| aa w1 <| aa c1 <| aa c2 <| aa t1 <| aa t2 <| aa t3 <| aa t4 <| aa hx hlt) (aa kc @p_shape_Size) ?_
  have t5 : List.take (s.length - (n + 1)) (rI (List.drop (n + 1) s)) = rI (List.drop (n + 1) s) := List.take_of_length_le (by simp)
  refine go (aa h1 h2) kc ?_
  apply T_dr fw (by rw [hP]; rfl)
  · simp only [go_sem, seval, reduceIte, ↓reduceIte, bne, beq_false, beq_true, Bool.not_eq_true, Bool.if_true_right, decide_not, reduceCtorEq, hP, all1, h1, h2, w1, c1, c2, t1, t2, t3, t4, t5, hx, hlt, Int.le_refl]
    refine ⟨_, ⟨_, _, _, _, _, _, rfl, rfl, rfl, p_shape_Size _⟩, ?_⟩
    simp only [go_sem, seval, reduceIte, ↓reduceIte, bne, beq_false, beq_true, Bool.not_eq_true, Bool.if_true_right, decide_not, reduceCtorEq, hP, all1, h1, h2, w1, c1, c2, t1, t2, t3, t4, t5, hx, hlt, Int.le_refl]
    refine ⟨_, ⟨_, _, _, _, _, _, rfl, rfl, rfl, p_shape_Size _⟩, ?_⟩
    simp only [go_sem, seval, reduceIte, ↓reduceIte, bne, beq_false, beq_true, Bool.not_eq_true, Bool.if_true_right, decide_not, reduceCtorEq, hP, all1, h1, h2, w1, c1, c2, t1, t2, t3, t4, t5, hx, hlt, Int.le_refl]
    exact rfl
  refine go trivial trivial ?_
  exact ends_ret rfl rfl rfl (by simp [lanesF, hc, h1, hx, resD, hlt, show ¬ s.length ≤ n from by omega])
def laneAt (S B p i : Nat) : Nat := (p / B * S + i) * B + p % B
theorem p_reduce_lane_at (A S B p i : Nat) (hS : S ≤ 16) (hB : B ≤ 64) (hB0 : 0 < B) (hp : p ≤ 4096) (hi : i ≤ 64) : PureC Try.prog fi_reduce_lane_at [dL A S B, dN p, dN i] (dN (laneAt S B p i)) := by
  refine pure_reduce_lane_at (by simp) fun G hP hn => ?_
  unfold a_reduce_lane_at
  have b0 : ((B : Int) = 0) = False := by simp; omega
  have hq := Nat.div_le_self p B
  have hr : p % B < B := Nat.mod_lt _ hB0
  have qd : IntKind.i64.wrap ((p : Int).tdiv (B : Int)) = ((p / B : Nat) : Int) := by
    rw [Int.tdiv_eq_ediv_of_nonneg (by omega), ← Int.natCast_ediv]
    generalize p / B = q at hq ⊢
    exact wrap_in (by omega) (by omega)
  have qm : (p : Int).tmod (B : Int) = ((p % B : Nat) : Int) := by rw [Int.tmod_eq_emod_of_nonneg (by omega)]; omega
  unfold laneAt
  generalize p / B = q at *
  generalize p % B = r at *
  have m1 : q * S ≤ 4096 * 16 := Nat.mul_le_mul (by omega) hS
  have w1 : IntKind.i64.wrap ((q : Int) * (S : Int)) = ((q * S : Nat) : Int) := by rw [← Int.natCast_mul]; exact wrap_in (by omega) (by omega)
  have w2 : IntKind.i64.wrap (((q * S : Nat) : Int) + (i : Int)) = ((q * S + i : Nat) : Int) := by rw [← Int.natCast_add]; exact wrap_in (by omega) (by omega)
  have m2 : (q * S + i) * B ≤ (4096 * 16 + 64) * 64 := Nat.mul_le_mul (by omega) hB
  have w3 : IntKind.i64.wrap (((q * S + i : Nat) : Int) * (B : Int)) = (((q * S + i) * B : Nat) : Int) := by rw [← Int.natCast_mul]; exact wrap_in (by omega) (by omega)
  have w4 : IntKind.i64.wrap ((((q * S + i) * B : Nat) : Int) + (r : Int)) = (((q * S + i) * B + r : Nat) : Int) := by rw [← Int.natCast_add]; exact wrap_in (by omega) (by omega)
  refine go (aa b0 <| aa @qd <| aa @qm <| aa w1 <| aa w2 <| aa w3 w4) trivial ?_
  exact ends_ret rfl rfl rfl rfl
theorem p_reduce_none (n : Int) : PureC Try.prog fi_reduce_none [dN n] (dN 0) := by
  refine pure_reduce_none (by simp) fun G hP hn => ?_
  unfold a_reduce_none
  refine go trivial trivial ?_
  exact ends_ret rfl rfl rfl rfl
theorem p_reduce_same (n : Int) : PureC Try.prog fi_reduce_same [dN n] (dN n) := by
  refine pure_reduce_same (by simp) fun G hP hn => ?_
  unfold a_reduce_same
  refine go trivial trivial ?_
  exact ends_ret rfl rfl rfl rfl
theorem p_reduce_done (n k : Int) : PureC Try.prog fi_reduce_done [dN n, dN k] (dNE (n, 0)) := by
  refine pure_reduce_done (by simp) fun G hP hn => ?_
  unfold a_reduce_done
  refine go trivial trivial ?_
  exact ends_ret rfl rfl rfl rfl
end Go.AM

namespace Go.AM
open Go Go.Proofs
set_option maxRecDepth 100000
set_option maxHeartbeats 4000000

theorem m_slices_Delete {s : List Int} {n : Nat} (h : n < s.length) (hs : s.length ≤ 64) : MutC Try.prog fi_slices_Delete_int_int [.one (.msl 5 0 1 s.length none), .one (.p (.int .i64 n)), .one (.p (.int .i64 ((n + 1 : Nat) : Int)))] [(5, .arr true 1 (rI s))]
    (.one (.msl 5 0 1 (s.length - 1) none)) [(5, .arr true 1 (rI (s.eraseIdx n ++ [0])))] [] := by
  refine mut_slices_Delete_int_int (by simp) fun G ex hP hn hfr => ?_
  unfold a_slices_Delete_int_int
  by_cases h1 : s.length = 1
  · obtain ⟨x, rfl⟩ : ∃ x, s = [x] := match s, h1 with | [x], _ => ⟨x, rfl⟩
    obtain rfl : n = 0 := by simpa using h
    have hM : (0 : Nat) ≤ MaxN := Nat.zero_le _
    have e0 : ((0 : Int) == 1) = false := rfl
    repeat' (first | apply T_then | apply then_ret | apply then_exit | apply then_goto | apply rnd_exit | apply rnd_ret | apply rnd_goto | apply noGo_normal | apply noGo_ret | apply noGo_exit | apply jmp_normal | apply jmp_ret | apply jmp_exit | apply jmp_goto | apply inB_normal | apply inB_ret | apply inB_goto | apply inB_exit | refine inB_exit_ne rfl ?_ | ((first | apply T_srK fw | apply T_regK fw); · ((try simp only [TOps.flat, List.cons_append, List.nil_append]); repeat (first | apply X_g0 | apply X_g | apply S_keep | apply X_skip | apply X_skipN | apply X_q | apply X_st | apply X_n | apply X_s | apply SKs0 | apply SKs2 | apply SKs1 | refine ⟨⟨rfl, rfl⟩, ?_⟩ | refine ⟨⟨rfl, ?_⟩, ?_⟩ | refine ⟨?_, ?_⟩ | (· (try simp only [go_sem, seval, reduceIte, ↓reduceIte, Bool.not_eq_true, reduceCtorEq, beq_false, beq_true, hn, hP, e0, hM, Nat.le_refl, Int.le_refl]); first | done | rfl)))) | apply T_seq | apply T_block | refine T_scopeJ 0 rfl ?_ | apply T_scope | apply T_goto | apply T_ret | apply T_skip | apply T_exit | apply T_label | refine T_condT rfl ?_ | refine T_condF rfl ?_ | refine T_condD rfl (fun _ => ?_) (fun _ => ?_) | refine T_cond rfl (fun _ => ?_) (fun _ => ?_))
    apply T_dr fw (by rw [hP]; rfl)
    · simp only [go_sem, seval, reduceIte, ↓reduceIte, bne, beq_false, beq_true, Bool.not_eq_true, Bool.if_true_right, decide_not, reduceCtorEq, hP, e0, hM, all1, Nat.le_refl, Int.le_refl]
      exact rfl
    refine go (aa e0 hM) trivial ?_
    refine endsM_ret rfl rfl rfl (fun p hp => ?_) rfl
    simp only [List.mem_cons, List.not_mem_nil, or_false] at hp
    rcases hp with rfl
    rfl
  have c13 : ¬ s.length - 1 = 0 := by omega
  have c14 : s.length - 1 < s.length := by omega
  have c1 : (n : Int) ≤ ((n + 1 : Nat) : Int) := by omega
  have c2 : ((n + 1 : Nat) : Int) ≤ s.length := by omega
  have c2' : n + 1 ≤ s.length := by omega
  have c3 : (n : Int) ≤ s.length := by omega
  have c3' : n ≤ s.length := by omega
  have e0 : ((n : Int) == ((n + 1 : Nat) : Int)) = false := by simp; omega
  have t0 : (s.length : Int).toNat = s.length := rfl
  have t1 := rI_take s n
  have t2 := rI_drop s (n + 1)
  have t5 : List.take (s.length - (n + 1)) (rI (List.drop (n + 1) s)) = rI (List.drop (n + 1) s) := List.take_of_length_le (by simp)
  have c4 : ¬ n = s.length := by omega
  have c5 : n + 1 + (s.length - (n + 1)) = s.length := by omega
  have c6 : n + (s.length - (n + 1)) ≤ s.length := by omega
  refine go (aa c1 <| aa c2 <| aa c3 <| aa e0 t0) trivial ?_
  have hM : MaxN = 140737488355328 := rfl
  have c8 : s.length - 1 ≤ MaxN := by omega
  have c8' : n ≤ MaxN := by omega
  have c9 : n + (s.length - (n + 1)) = s.length - 1 := by omega
  have c10 : s.length - 1 ≤ s.length := by omega
  have e3 : rI (List.take n s) ++ rI (List.drop (n + 1) s) ++ List.drop (s.length - 1) (rI s) = rI (s.eraseIdx n ++ s.drop (s.length - 1)) := by
    rw [rI_drop, List.eraseIdx_eq_take_drop_succ]; simp
  have g1 : (s.eraseIdx n ++ s.drop (s.length - 1)).length = s.length := by rw [List.length_append, List.length_eraseIdx_of_lt h, List.length_drop]; omega
  have g2 : s.length - (s.length - 1) = 1 := by omega
  have g3 : s.length - 1 + 1 = s.length := by omega
  have c11 : ((s.length - 1 : Nat) : Int) ≤ s.length := by omega
  have c12 : ¬ s.length - 1 = s.length := by omega
  have e4 : List.take (s.length - 1) (rI (s.eraseIdx n ++ s.drop (s.length - 1))) ++ [[PV.int .i64 0]] ++ List.drop (s.length - 1 + 1) (rI (s.eraseIdx n ++ s.drop (s.length - 1))) = rI (s.eraseIdx n ++ [0]) := by
    have d1 : List.drop (s.length - 1 + 1) (rI (s.eraseIdx n ++ s.drop (s.length - 1))) = [] := List.drop_of_length_le (by rw [List.length_map, g1]; omega)
    rw [d1, List.append_nil, rI_take, List.take_append_of_le_length (by rw [List.length_eraseIdx_of_lt h]; omega), List.take_of_length_le (by rw [List.length_eraseIdx_of_lt h]; omega)]
    simp
  generalize hR : s.eraseIdx n ++ s.drop (s.length - 1) = R at *
  by_cases c7 : n + 1 < s.length
  · apply T_dr fw (by rw [hP]; rfl)
    · simp only [go_sem, seval, reduceIte, ↓reduceIte, bne, beq_false, beq_true, Bool.not_eq_true, Bool.if_true_right, decide_not, reduceCtorEq, hP, all1, c1, c2, c2', c3, c3', c4, c5, c7, c8, c8', c9, c10, List.length_drop, e0, t0, t1, t2, t5, Nat.le_refl, Int.le_refl]
      exact rfl
    apply T_then
    refine T_weak (s' := { env := [(0, .one (.msl 5 0 1 (s.length - 1) none)), (7, .one (.p (.int .i64 s.length)))], σ := [(5, .arr true 1 (rI R))], ex := ex }) ?_ ?_
    · exact Weak.sub fun p hp => by
        simp only [List.mem_cons, List.not_mem_nil, or_false] at hp
        rcases hp with rfl
        rw [← e3]; rfl
    refine go (aa c8 <| aa c10 <| aa c11 <| aa c12 <| aa c13 <| aa c14 <| aa g1 <| aa g2 <| aa g3 t0) trivial ?_
    refine endsM_ret rfl rfl rfl (fun p hp => ?_) rfl
    simp only [List.mem_cons, List.not_mem_nil, or_false] at hp
    rcases hp with rfl
    rw [g3] at e4
    exact congrArg (AO.arr true 1) e4
  · apply T_dr fw (by rw [hP]; rfl)
    · simp only [go_sem, seval, reduceIte, ↓reduceIte, bne, beq_false, beq_true, Bool.not_eq_true, Bool.if_true_right, decide_not, reduceCtorEq, hP, all1, c1, c2, c2', c3, c3', c4, c5, c7, c8, c8', c9, c10, List.length_drop, e0, t0, t1, t2, t5, Nat.le_refl, Int.le_refl]
      exact rfl
    apply T_then
    refine T_weak (s' := { env := [(0, .one (.msl 5 0 1 (s.length - 1) none)), (7, .one (.p (.int .i64 s.length)))], σ := [(5, .arr true 1 (rI R))], ex := ex }) ?_ ?_
    · have hn1 : n = s.length - 1 := by omega
      rw [← e3, ← hn1, List.drop_of_length_le (l := s) (by omega)]
      exact Weak.sub fun p hp => by
        simp only [List.mem_cons, List.not_mem_nil, or_false] at hp
        rcases hp with rfl
        simp [lo]
    refine go (aa c8 <| aa c10 <| aa c11 <| aa c12 <| aa c13 <| aa c14 <| aa g1 <| aa g2 <| aa g3 t0) trivial ?_
    refine endsM_ret rfl rfl rfl (fun p hp => ?_) rfl
    simp only [List.mem_cons, List.not_mem_nil, or_false] at hp
    rcases hp with rfl
    rw [g3] at e4
    exact congrArg (AO.arr true 1) e4
end Go.AM

namespace Go.AM
open Go Go.Proofs
set_option maxRecDepth 100000
set_option maxHeartbeats 4000000

theorem toD_take {n t k len : Nat} {cap : Option Nat} {σ : Sto} {m : Bool} {rows : List (List PV)} (h2 : lo σ t = .arr m k rows) (hl : len ≤ rows.length) :
    toP (n + 1) (.msl t 0 k len cap) σ = some (.sl (rows.take len), if m then (t, .arr false k rows) :: σ else σ) := by
  simp only [toP, h2]
  simp [hl]
theorem ends_twoT {rv : List RV} {s : AS} {t1 t2 k1 k2 l1 l2 : Nat} {cap1 cap2 : Option Nat} {rows1 rows2 : List (List PV)} {tl : List AV} {ds : List DV} {r : DV} (hne : t1 ≠ t2)
    (h1 : evRV rv s.env s.σ = some (.agg [.msl t1 0 k1 l1 cap1, .msl t2 0 k2 l2 cap2] :: tl)) (h2 : lo s.σ t1 = .arr true k1 rows1) (h3 : lo s.σ t2 = .arr true k2 rows2) (hl1 : l1 ≤ rows1.length) (hl2 : l2 ≤ rows2.length)
    (ht : (tl = [] ∧ ds = []) ∨ ∃ v, tl = [.one (.p v)] ∧ ds = [.one v]) (hr : r = resD (.agg [.sl (rows1.take l1), .sl (rows2.take l2)] :: ds)) :
    Ends rv r .ret s := by
  have h4 : foldP (toP 6) [.msl t1 0 k1 l1 cap1, .msl t2 0 k2 l2 cap2] s.σ = some ([.sl (rows1.take l1), .sl (rows2.take l2)], (t2, .arr false k2 rows2) :: (t1, .arr false k1 rows1) :: s.σ) := by
    have e1 := toD_take (n := 5) (cap := cap1) h2 hl1
    have e2 := toD_take (n := 5) (cap := cap2) (σ := (t1, .arr false k1 rows1) :: s.σ) (t := t2) (k := k2) (rows := rows2) (m := true) (by rw [← h3]; simp [lo, hne.symm]) hl2
    simp only [if_true] at e1 e2
    simp only [foldP, e1, e2]
  rcases ht with ⟨rfl, rfl⟩ | ⟨v, rfl, rfl⟩
  · exact ends_ret (ds := [.agg [.sl (rows1.take l1), .sl (rows2.take l2)]]) (σ' := (t2, .arr false k2 rows2) :: (t1, .arr false k1 rows1) :: s.σ) h1 (by simp only [toDs, toD, h4]) rfl hr.symm
  · exact ends_ret (ds := [.agg [.sl (rows1.take l1), .sl (rows2.take l2)], .one v]) (σ' := (t2, .arr false k2 rows2) :: (t1, .arr false k1 rows1) :: s.σ) h1 (by simp only [toDs, toD, h4]; rfl) rfl hr.symm
def foldE (W : Int → Int → Int × Int) (y : Nat → Int) : Nat → Nat → Int → Int × Int
  | 0, _, s => (s, 0)
  | n + 1, k, s => if (W s (y k)).2 = 0 then foldE W y n (k + 1) (W s (y k)).1 else (0, (W s (y k)).2)
def laneR (W E : Int → Int → Int × Int) (F : Int → Int) (S B : Nat) (d : List Int) (p : Nat) : Int × Int :=
  if (foldE W (fun i => gt d (laneAt S B p i)) S 0 (F (gt d (laneAt S B p 0)))).2 = 0 then E (foldE W (fun i => gt d (laneAt S B p i)) S 0 (F (gt d (laneAt S B p 0)))).1 S
  else (0, (foldE W (fun i => gt d (laneAt S B p i)) S 0 (F (gt d (laneAt S B p 0)))).2)
def togetherF (W E : Int → Int → Int × Int) (F : Int → Int) (s d : List Int) (a : Int) : (List Int × List Int) × Int :=
  if checkT s d = true then (if a < 0 ∨ a ≥ s.length then bad 20 else
    (if (coll (laneR W E F ((s[a.toNat]?).getD 0).toNat (sizeS (s.drop (a.toNat + 1))).toNat d) ((sizeS (s.take a.toNat)).toNat * (sizeS (s.drop (a.toNat + 1))).toNat) 0 []).2 = 0 then
      ((s.eraseIdx a.toNat, (coll (laneR W E F ((s[a.toNat]?).getD 0).toNat (sizeS (s.drop (a.toNat + 1))).toNat d) ((sizeS (s.take a.toNat)).toNat * (sizeS (s.drop (a.toNat + 1))).toNat) 0 []).1), 0)
    else bad (coll (laneR W E F ((s[a.toNat]?).getD 0).toNat (sizeS (s.drop (a.toNat + 1))).toNat d) ((sizeS (s.take a.toNat)).toNat * (sizeS (s.drop (a.toNat + 1))).toNat) 0 []).2)) else bad 30
theorem prd_split (s : List Int) {n : Nat} (h : n < s.length) : prd s = prd (s.take n) * (s[n] * prd (s.drop (n + 1))) := by
  have : s = s.take n ++ (s[n] :: s.drop (n + 1)) := by rw [← List.drop_eq_getElem_cons h, List.take_append_drop]
  conv => lhs; rw [this]
  rw [prd_append]; rfl
theorem ShapeOk.take {s : List Int} (h : ShapeOk s) (n : Nat) : ShapeOk (s.take n) := by
  refine ⟨by have := h.1; simp; omega, fun m hm => h.2.1 m (List.mem_of_mem_take hm), ?_⟩
  have h1 : prd s = prd (s.take n) * prd (s.drop n) := by rw [← prd_append, List.take_append_drop]
  have h2 := prd_pos (s := s.drop n) (fun m hm => h.2.1 m (List.mem_of_mem_drop hm))
  have h3 := prd_pos (s := s.take n) (fun m hm => h.2.1 m (List.mem_of_mem_take hm))
  have h4 := h.2.2
  have : prd (s.take n) * 1 ≤ prd (s.take n) * prd (s.drop n) := Int.mul_le_mul_of_nonneg_left h2 (by omega)
  omega
theorem ShapeOk.drop {s : List Int} (h : ShapeOk s) (n : Nat) : ShapeOk (s.drop n) := by
  refine ⟨by have := h.1; simp; omega, fun m hm => h.2.1 m (List.mem_of_mem_drop hm), ?_⟩
  have h1 : prd s = prd (s.take n) * prd (s.drop n) := by rw [← prd_append, List.take_append_drop]
  have h2 := prd_pos (s := s.drop n) (fun m hm => h.2.1 m (List.mem_of_mem_drop hm))
  have h3 := prd_pos (s := s.take n) (fun m hm => h.2.1 m (List.mem_of_mem_take hm))
  have h4 := h.2.2
  have : 1 * prd (s.drop n) ≤ prd (s.take n) * prd (s.drop n) := Int.mul_le_mul_of_nonneg_right h3 (by omega)
  omega
structure Lanes (s d : List Int) (n A S B : Nat) : Prop where
  hc : checkT s d = true
  hn : n < s.length
  hA : sizeS (s.take n) = A
  hS : s[n]? = some (S : Int)
  hB : sizeS (s.drop (n + 1)) = B
  a1 : 1 ≤ A
  s1 : 1 ≤ S
  b1 : 1 ≤ B
  s2 : S ≤ 16
  len : d.length = A * S * B
  le : A * S * B ≤ 64
theorem Lanes.of {s d : List Int} {n : Nat} (hc : checkT s d = true) (hn : n < s.length) : ∃ A S B, Lanes s d n A S B := by
  obtain ⟨h1, h2⟩ := checkT_iff.1 hc
  have hA := sizeS_ok (h1.take n)
  have hB := sizeS_ok (h1.drop (n + 1))
  have pA := prd_pos (h1.take n).2.1
  have pB := prd_pos (h1.drop (n + 1)).2.1
  have pS := h1.2.1 _ (List.getElem_mem hn)
  have hp := prd_split s hn
  obtain ⟨A, eA⟩ := Int.eq_ofNat_of_zero_le (by omega : 0 ≤ prd (s.take n))
  obtain ⟨B, eB⟩ := Int.eq_ofNat_of_zero_le (by omega : 0 ≤ prd (s.drop (n + 1)))
  obtain ⟨S, eS⟩ := Int.eq_ofNat_of_zero_le (by omega : 0 ≤ s[n])
  rw [eA, eB, eS] at hp
  have hp2 : prd s = ((A * S * B : Nat) : Int) := by rw [hp]; push_cast; rw [Int.mul_assoc]
  have h3 := h1.2.2
  exact ⟨A, S, B, hc, hn, by rw [hA, eA], by rw [List.getElem?_eq_getElem hn, eS], by rw [hB, eB], by omega, by omega, by omega, by omega, by omega, by omega⟩
theorem Lanes.lt {s d : List Int} {n A S B : Nat} (h : Lanes s d n A S B) {p i : Nat} (hp : p < A * B) (hi : i < S) : laneAt S B p i < d.length := by
  rw [h.len]
  have hb := h.b1
  have h1 : p / B < A := by rw [Nat.div_lt_iff_lt_mul (by omega)]; exact hp
  have h2 : p % B < B := Nat.mod_lt _ (by omega)
  exact row_lt (row_lt h1 hi) h2
theorem Lanes.AB {s d : List Int} {n A S B : Nat} (h : Lanes s d n A S B) : A * B ≤ 64 := by
  have h1 : A * 1 * B ≤ A * S * B := Nat.mul_le_mul_right B (Nat.mul_le_mul_left A h.s1)
  have := h.le
  rw [Nat.mul_one] at h1
  omega
theorem Lanes.B64 {s d : List Int} {n A S B : Nat} (h : Lanes s d n A S B) : B ≤ 64 := by
  have h1 : 1 * B ≤ A * B := Nat.mul_le_mul_right B h.a1
  have := h.AB
  omega
theorem p_reduce_together {gw ge gf : FuncId} {W E : Int → Int → Int × Int} {F : Int → Int} (hW : ∀ a b, I64 a → I64 b → PureC Try.prog gw [dN a, dN b] (dNE (W a b))) (hWr : ∀ a b, I64 a → I64 b → I64 (W a b).1)
    (hE : ∀ (a : Int) (S : Nat), I64 a → 1 ≤ S → S ≤ 16 → PureC Try.prog ge [dN a, dN S] (dNE (E a S))) (hF : ∀ a, I64 a → PureC Try.prog gf [dN a] (dN (F a))) (hFr : ∀ a, I64 a → I64 (F a))
    (s d : List Int) (a : Int) (hd : I64s d) :
    PureC Try.prog fi_reduce_together [dT s d, dN a, .agg [.fn gw [] [], .fn ge [] []], .one (.fn gf [] [])] (dTE (togetherF W E F s d a)) := by
  refine pure_reduce_together (by simp) fun G hP hn => ?_
  unfold a_reduce_together
  have kl := p_reduce_lanes s d a
  cases hc : checkT s d
  · have hl : lanesF s d a = ((0, 0, 0), 30) := by unfold lanesF; rw [if_neg (by simp [hc])]
    have hf : togetherF W E F s d a = bad 30 := by unfold togetherF; rw [if_neg (by simp [hc])]
    rw [hl] at kl
    refine go trivial kl ?_
    exact ends_ret rfl rfl rfl (by rw [hf]; rfl)
  by_cases ha : a < 0 ∨ a ≥ s.length
  · have hl : lanesF s d a = ((0, 0, 0), 20) := by unfold lanesF; rw [if_pos hc, if_pos ha]
    have hf : togetherF W E F s d a = bad 20 := by unfold togetherF; rw [if_pos hc, if_pos ha]
    rw [hl] at kl
    refine go trivial kl ?_
    exact ends_ret rfl rfl rfl (by rw [hf]; rfl)
  obtain ⟨n, rfl⟩ := Int.eq_ofNat_of_zero_le (by omega : 0 ≤ a)
  have hlt : n < s.length := by omega
  obtain ⟨A, S, B, L⟩ := Lanes.of hc hlt
  have hl : lanesF s d n = (((A : Int), (S : Int), (B : Int)), 0) := by
    unfold lanesF; rw [if_pos hc, if_neg ha]; simp only [Int.toNat_natCast, L.hA, L.hB, L.hS, Option.getD_some]
  rw [hl] at kl
  have hlen := check_len (checkS_iff.2 (checkT_iff.1 hc).1)
  have kC := m_slices_Clone s (by omega)
  have kD := m_slices_Delete hlt (by omega)
  have w1 : IntKind.i64.wrap ((n : Int) + 1) = ((n + 1 : Nat) : Int) := by rw [wrap_in (by omega) (by omega)]; rfl
  have hAB := L.AB
  have w2 : IntKind.i64.wrap ((A : Int) * (B : Int)) = ((A * B : Nat) : Int) := by rw [← Int.natCast_mul]; exact wrap_in (by omega) (by omega)
  refine go (aa w1 w2) (aa kl <| aa kC kD) ?_
  have htog : togetherF W E F s d n = if (coll (laneR W E F S B d) (A * B) 0 []).2 = 0 then ((s.eraseIdx n, (coll (laneR W E F S B d) (A * B) 0 []).1), 0) else bad (coll (laneR W E F S B d) (A * B) 0 []).2 := by
    unfold togetherF
    rw [if_pos hc, if_neg ha]
    simp only [Int.toNat_natCast, L.hA, L.hB, L.hS, Option.getD_some]
  have fin2 : ∀ er : Int, coll (laneR W E F S B d) (A * B) 0 [] = ([], er) → er ≠ 0 → togetherF W E F s d n = bad er := fun er h1 h2 => by rw [htog, h1]; exact if_neg h2
  refine T_weak (Weak.nilC 12 100 1 1 rfl rfl rfl rfl) ?_
  refine T_for (A * B) (fun p acc => { env := [(3, .one (.p (.fn gf [] []))), (4, .one (.ptr 4 0 2 0)), (6, .one (.ptr 6 0 2 0)), (8, .one (.ptr 8 0 2 0)), (10, .one (.ptr 10 0 3 0)), (12, .one (.ptr 12 0 2 0)), (38, .one (.p (.int .i64 ((A * B : Nat) : Int)))), (39, .one (.p (.int .i64 p)))], σ := [(4, .cells true [.p (eI s), .p (eI d)]), (6, .cells true [.p (.fn gw [] []), .p (.fn ge [] [])]), (8, .cells true [.nils, .nils]), (10, .cells true [.p (.int .i64 A), .p (.int .i64 S), .p (.int .i64 B)]), (12, .cells true [.msl 5 0 1 (s.length - 1) none, .msl 100 0 1 p none]), (5, .arr true 1 (rI (s.eraseIdx n ++ [0]))), (100, .arr true 1 (rI acc))] })
    (fun p acc => acc.length = p ∧ coll (laneR W E F S B d) (A * B - p) p acc = coll (laneR W E F S B d) (A * B) 0 []) [] ⟨rfl, rfl⟩ ?_ fun p acc hp hinv => ?_
  · refine Weak.sub fun q hq => ?_
    simp only [List.mem_cons, List.not_mem_nil, or_false] at hq
    rcases hq with rfl | rfl | rfl | rfl | rfl | rfl | rfl <;> rfl
  obtain ⟨hal, hcol⟩ := hinv
  have hs16 := L.s2
  have hb64 := L.B64
  have hb1 := L.b1
  have hs1 := L.s1
  by_cases hlt2 : p < A * B
  rotate_left
  · have c1 : ¬ (p : Int) < ((A * B : Nat) : Int) := by omega
    have hpe : p = A * B := by omega
    rw [hpe, Nat.sub_self] at hcol
    simp only [coll] at hcol
    refine go c1 trivial ?_
    refine ends_twoT (t1 := 5) (t2 := 100) (by decide) rfl rfl rfl (by rw [List.length_map, List.length_append, List.length_eraseIdx_of_lt hlt]; simp) (by simp [hal]) (.inr ⟨_, rfl, rfl⟩) ?_
    rw [htog, ← hcol, if_pos rfl]
    have e1 : (rI (s.eraseIdx n ++ [0])).take (s.length - 1) = rI (s.eraseIdx n) := by
      rw [rI_take, List.take_append_of_le_length (by rw [List.length_eraseIdx_of_lt hlt]; omega), List.take_of_length_le (by rw [List.length_eraseIdx_of_lt hlt]; omega)]
    have e2 : (rI acc).take p = rI acc := List.take_of_length_le (by simp [hal])
    rw [e1, e2]; rfl
  have c1 : (p : Int) < ((A * B : Nat) : Int) := by omega
  have w3 : IntKind.i64.wrap ((p : Int) + 1) = ((p + 1 : Nat) : Int) := by rw [wrap_in (by omega) (by omega)]; rfl
  have kat0 : PureC Try.prog fi_reduce_lane_at [dL A S B, dN p, dN 0] (dN (laneAt S B p 0)) := p_reduce_lane_at A S B p 0 hs16 hb64 hb1 (by omega) (by omega)
  have hl0 := L.lt hlt2 (i := 0) (by omega)
  have hx0 : d[laneAt S B p 0]? = some (gt d (laneAt S B p 0)) := by unfold gt; rw [List.getElem?_eq_getElem hl0]; rfl
  have kF := hF (gt d (laneAt S B p 0)) (gt_range hd _)
  have hfr := hFr (gt d (laneAt S B p 0)) (gt_range hd _)
  rw [show A * B - p = (A * B - (p + 1)) + 1 from by omega] at hcol
  simp only [coll] at hcol
  have hlane : laneR W E F S B d p = laneR W E F S B d p := rfl
  conv at hlane => rhs; unfold laneR
  generalize F (gt d (laneAt S B p 0)) = n0 at *
  generalize gt d (laneAt S B p 0) = x0 at *
  refine go (aa c1 <| aa hx0 hl0) (aa kat0 kF) ?_
  refine T_for S (fun i v => { env := [(3, .one (.p (.fn gf [] []))), (4, .one (.ptr 4 0 2 0)), (6, .one (.ptr 6 0 2 0)), (8, .one (.ptr 8 0 2 0)), (10, .one (.ptr 10 0 3 0)), (12, .one (.ptr 12 0 2 0)), (13, .one (.p (.int .i64 p))), (14, .one (.p (.int .i64 v))), (38, .one (.p (.int .i64 ((A * B : Nat) : Int)))), (39, .one (.p (.int .i64 p))), (52, .one (.p (.int .i64 S))), (53, .one (.p (.int .i64 i)))], σ := [(4, .cells true [.p (eI s), .p (eI d)]), (6, .cells true [.p (.fn gw [] []), .p (.fn ge [] [])]), (8, .cells true [.nils, .nils]), (10, .cells true [.p (.int .i64 A), .p (.int .i64 S), .p (.int .i64 B)]), (12, .cells true [.msl 5 0 1 (s.length - 1) none, .msl 100 0 1 p none]), (5, .arr true 1 (rI (s.eraseIdx n ++ [0]))), (100, .arr true 1 (rI acc))] })
    (fun i v => I64 v ∧ foldE W (fun i => gt d (laneAt S B p i)) (S - i) i v = foldE W (fun i => gt d (laneAt S B p i)) S 0 n0) n0 ⟨hfr, rfl⟩ (.refl _ _) fun i v hi hv => ?_
  obtain ⟨hv, hfold⟩ := hv
  by_cases hiS : i < S
  · have c2 : (i : Int) < (S : Int) := by omega
    have w4 : IntKind.i64.wrap ((i : Int) + 1) = ((i + 1 : Nat) : Int) := by rw [wrap_in (by omega) (by omega)]; rfl
    have kat := p_reduce_lane_at A S B p i hs16 hb64 hb1 (by omega) (by omega)
    have hli := L.lt hlt2 (i := i) hiS
    have hxi : d[laneAt S B p i]? = some (gt d (laneAt S B p i)) := by unfold gt; rw [List.getElem?_eq_getElem hli]; rfl
    have hy := gt_range hd (laneAt S B p i)
    have kW := hW v (gt d (laneAt S B p i)) hv hy
    have hWr' := hWr v (gt d (laneAt S B p i)) hv hy
    rw [show S - i = (S - (i + 1)) + 1 from by omega] at hfold
    simp only [foldE] at hfold
    generalize gt d (laneAt S B p i) = y at *
    by_cases e1 : (W v y).2 = 0
    · rw [if_pos e1] at hfold
      have e1' : ((W v y).2 != 0) = false := by simp [e1]
      refine go (aa c2 <| aa w4 <| aa hxi <| aa hli e1') (aa kat kW) ?_
      exact rnd_next hiS _ ⟨hWr', hfold⟩ (Weak.sub fun q hq => by
        simp only [List.mem_cons, List.not_mem_nil, or_false] at hq
        rcases hq with rfl | rfl | rfl | rfl | rfl | rfl | rfl <;> rfl)
    · rw [if_neg e1] at hfold
      have e1' : ((W v y).2 != 0) = true := by simp [e1]
      rw [← hfold] at hlane
      simp only [e1, if_false] at hlane
      rw [hlane] at hcol
      simp only [e1, if_false] at hcol
      refine go (aa c2 <| aa w4 <| aa hxi <| aa hli e1') (aa kat kW) ?_
      exact ends_ret rfl rfl rfl (by rw [fin2 _ hcol.symm e1]; rfl)
  · have c2 : ¬ (i : Int) < (S : Int) := by omega
    have hie : i = S := by omega
    rw [hie, Nat.sub_self] at hfold
    simp only [foldE] at hfold
    rw [← hfold] at hlane
    simp only [if_true] at hlane
    rw [hlane] at hcol
    have kE := hE v S hv hs1 hs16
    by_cases e1 : (E v S).2 = 0
    · rw [if_pos e1] at hcol
      have e1' : ((E v S).2 != 0) = false := by simp [e1]
      have c4 : (p + 1) * 8 ≤ 2 ^ 40 := by omega
      have c5 : p + 1 ≤ 2 ^ 40 := by omega
      refine go (aa c2 <| aa w3 <| aa e1' <| aa hal <| aa c4 c5) kE ?_
      refine rnd_next hlt2 (acc ++ [(E v S).1]) ⟨by simp [hal], hcol⟩ (Weak.sub fun q hq => ?_)
      simp only [List.mem_cons, List.not_mem_nil, or_false] at hq
      rcases hq with rfl | rfl | rfl | rfl | rfl | rfl | rfl
      · rfl
      · rfl
      · rfl
      · rfl
      · rfl
      · rfl
      · simp [lo, rI]
    · rw [if_neg e1] at hcol
      have e1' : ((E v S).2 != 0) = true := by simp [e1]
      refine go (aa c2 e1') kE ?_
      exact ends_ret rfl rfl rfl (by rw [fin2 _ hcol.symm e1]; rfl)
def sumS (s d : List Int) (a : Int) : (List Int × List Int) × Int := togetherF fAdd (fun n _ => (n, 0)) (fun _ => 0) s d a
theorem p_reduce_Sum (s d : List Int) (a : Int) (hd : I64s d) : PureC Try.prog fi_reduce_Sum [dT s d, dN a] (dTE (sumS s d a)) := by
  refine pure_reduce_Sum (by simp) fun G hP hn => ?_
  unfold a_reduce_Sum
  have k := p_reduce_together (W := fAdd) (E := fun n _ => (n, 0)) (F := fun _ => 0) (fun a b ha hb => p_fix_Add ha hb) (fun a b _ _ => fAdd_range a b) (fun a S _ _ _ => p_reduce_done a S) (fun a _ => p_reduce_none a) (fun _ _ => i64_0) s d a hd
  refine go trivial k ?_
  exact ends_ret rfl rfl rfl rfl
end Go.AM

namespace Go.AM
open Go Go.Proofs
set_option maxRecDepth 100000

theorem gt_at {d : List Int} {p : Nat} (h : p < d.length) : d[p]? = some (gt d p) := by unfold gt; rw [List.getElem?_eq_getElem h]; rfl
theorem pl_append {s x : List Int} (h : InIdx s x) (t y : List Int) : ∀ a : Int, pl (s ++ t) (x ++ y) a = pl t y (pl s x a) := by
  induction h with
  | nil => intro a; rfl
  | cons h0 h1 h ih => intro a; simp only [List.cons_append, pl]; exact ih _
theorem ix_append (t : List Int) (ht : 0 ≤ prd t) : ∀ (s : List Int) (p : Int), ix (s ++ t) p = ix s (p / prd t) ++ ix t p
  | [], p => rfl
  | m :: s, p => by
    simp only [List.cons_append, ix, prd_append]
    rw [ix_append t ht s p]
    congr 1
    rw [Int.mul_comm, ← Int.ediv_ediv_of_nonneg ht]
def insL (l : List Int) (n : Nat) (k : Int) : List Int := l.take n ++ k :: l.drop n
theorem split_at {s : List Int} {n : Nat} {S : Int} (h : s[n]? = some S) : s = s.take n ++ S :: s.drop (n + 1) := by
  obtain ⟨hlt, he⟩ := List.getElem?_eq_some_iff.1 h
  rw [← he, ← List.drop_eq_getElem_cons hlt, List.take_append_drop]
theorem ix_len (s : List Int) (p : Int) : (ix s p).length = s.length := by
  induction s with
  | nil => rfl
  | cons m s ih => simp [ix, ih]
theorem laneAt_un {S B q i r : Nat} (hS : i < S) (hB : 0 < B) (h : laneAt S B q i = r) : q = r / B / S * B + r % B ∧ i = r / B % S := by
  subst h
  unfold laneAt
  have hr : q % B < B := Nat.mod_lt _ hB
  have e1 : ((q / B * S + i) * B + q % B) / B = q / B * S + i := by
    rw [Nat.mul_comm, Nat.mul_add_div hB, Nat.div_eq_of_lt hr, Nat.add_zero]
  have e2 : ((q / B * S + i) * B + q % B) % B = q % B := by
    rw [Nat.mul_comm, Nat.mul_add_mod, Nat.mod_eq_of_lt hr]
  rw [e1, e2]
  have e3 : (q / B * S + i) / S = q / B := by
    rw [Nat.mul_comm, Nat.mul_add_div (by omega), Nat.div_eq_of_lt hS, Nat.add_zero]
  have e4 : (q / B * S + i) % S = i := by
    rw [Nat.mul_comm, Nat.mul_add_mod, Nat.mod_eq_of_lt hS]
  rw [e3, e4]
  exact ⟨by rw [Nat.mul_comm]; exact (Nat.div_add_mod q B).symm, rfl⟩
theorem laneAt_in {A S B r : Nat} (hB : 0 < B) (hS : 0 < S) (h : r < A * S * B) : r / B / S * B + r % B < A * B ∧ r / B % S < S ∧ laneAt S B (r / B / S * B + r % B) (r / B % S) = r := by
  have hr : r % B < B := Nat.mod_lt _ hB
  have h1 : r / B < A * S := (Nat.div_lt_iff_lt_mul hB).2 h
  have h2 : r / B / S < A := (Nat.div_lt_iff_lt_mul hS).2 h1
  refine ⟨?_, Nat.mod_lt _ hS, ?_⟩
  · have : (r / B / S + 1) * B ≤ A * B := Nat.mul_le_mul_right B h2
    rw [Nat.add_mul] at this
    omega
  · unfold laneAt
    have e1 : (r / B / S * B + r % B) / B = r / B / S := by
      rw [Nat.mul_comm, Nat.mul_add_div hB, Nat.div_eq_of_lt hr, Nat.add_zero]
    have e2 : (r / B / S * B + r % B) % B = r % B := by
      rw [Nat.mul_comm, Nat.mul_add_mod, Nat.mod_eq_of_lt hr]
    rw [e1, e2]
    have e3 : r / B / S * S + r / B % S = r / B := by rw [Nat.mul_comm]; exact Nat.div_add_mod _ _
    rw [e3, Nat.mul_comm]; exact Nat.div_add_mod _ _
theorem Lanes.at {s d : List Int} {n A S B : Nat} (L : Lanes s d n A S B) {p i : Nat} (hp : p < A * B) (hi : i < S) :
    InIdx s (insL (ix (s.eraseIdx n) p) n i) ∧ atF s d (insL (ix (s.eraseIdx n) p) n i) = (gt d (laneAt S B p i), 0) := by
  have hok := (checkT_iff.1 L.hc).1
  have o1 := hok.take n
  have o2 := hok.drop (n + 1)
  have pA : prd (s.take n) = A := by rw [← sizeS_ok o1]; exact L.hA
  have pB : prd (s.drop (n + 1)) = B := by rw [← sizeS_ok o2]; exact L.hB
  have hb1 := L.b1
  have hx : insL (ix (s.eraseIdx n) p) n i = ix (s.take n) ((p : Int) / B) ++ (i : Int) :: ix (s.drop (n + 1)) p := by
    rw [List.eraseIdx_eq_take_drop_succ, ix_append _ (by omega), pB]
    have hl : (ix (s.take n) ((p : Int) / B)).length = n := by rw [ix_len, List.length_take]; have := L.hn; omega
    unfold insL
    rw [List.take_append_of_le_length (by omega), List.take_of_length_le (by omega), List.drop_append_of_le_length (by omega), List.drop_of_length_le (by omega)]
    rfl
  rw [hx]
  have i1 := ix_in o1.2.1 (p := (p : Int) / B)
  have i2 := ix_in o2.2.1 (p := (p : Int))
  have hsp := split_at L.hS
  have hin : InIdx s (ix (s.take n) ((p : Int) / B) ++ (i : Int) :: ix (s.drop (n + 1)) p) := by
    conv => arg 1; rw [hsp]
    exact i1.append (.cons (by omega) (by omega) i2)
  refine ⟨hin, ?_⟩
  rw [atF_ok L.hc hin]
  have hq : (p : Int) / B < A := by
    have : p / B < A := (Nat.div_lt_iff_lt_mul (by omega)).2 hp
    exact_mod_cast this
  have hp0 : (0 : Int) ≤ (p : Int) / B := Int.ediv_nonneg (by omega) (by omega)
  have hpl : pl s (ix (s.take n) ((p : Int) / B) ++ (i : Int) :: ix (s.drop (n + 1)) p) 0 = (laneAt S B p i : Int) := by
    conv => lhs; arg 1; rw [hsp]
    rw [pl_append i1]
    simp only [pl]
    rw [pl_add i2, pl_ix o2.2.1, pl_ix o1.2.1, pA, pB, Int.emod_eq_of_lt hp0 hq]
    unfold laneAt
    simp
  rw [hpl]; rfl
theorem Lanes.of_at {s d : List Int} {n A S B : Nat} (L : Lanes s d n A S B) {r : Nat} (hr : r < A * S * B) :
    (ix s r)[n]? = some ((r / B % S : Nat) : Int) ∧ InIdx (s.eraseIdx n) ((ix s r).eraseIdx n) ∧ pl (s.eraseIdx n) ((ix s r).eraseIdx n) 0 = ((r / B / S * B + r % B : Nat) : Int) := by
  have hok := (checkT_iff.1 L.hc).1
  have o1 := hok.take n
  have o2 := hok.drop (n + 1)
  have pA : prd (s.take n) = A := by rw [← sizeS_ok o1]; exact L.hA
  have pB : prd (s.drop (n + 1)) = B := by rw [← sizeS_ok o2]; exact L.hB
  have hb1 := L.b1
  have hs1 := L.s1
  have hsp := split_at L.hS
  have hx : ix s r = ix (s.take n) ((r / B / S : Nat) : Int) ++ ((r / B % S : Nat) : Int) :: ix (s.drop (n + 1)) r := by
    conv => lhs; rw [hsp]
    have hp : prd ((S : Int) :: s.drop (n + 1)) = S * B := by simp only [prd, pB]
    rw [ix_append _ (by rw [hp]; exact Int.mul_nonneg (by omega) (by omega)), hp]
    simp only [ix, pB]
    have e1 : (r : Int) / (S * B) = ((r / B / S : Nat) : Int) := by
      rw [Int.mul_comm, ← Int.ediv_ediv_of_nonneg (by omega)]; rfl
    rw [e1]; rfl
  have hl : (ix (s.take n) ((r / B / S : Nat) : Int)).length = n := by rw [ix_len, List.length_take]; have := L.hn; omega
  have i1 := ix_in o1.2.1 (p := ((r / B / S : Nat) : Int))
  have i2 := ix_in o2.2.1 (p := (r : Int))
  have he : (ix s r).eraseIdx n = ix (s.take n) ((r / B / S : Nat) : Int) ++ ix (s.drop (n + 1)) r := by
    rw [hx, List.eraseIdx_append_of_length_le (by omega), hl, Nat.sub_self]; rfl
  refine ⟨?_, ?_, ?_⟩
  · rw [hx, List.getElem?_append_right (by omega), hl, Nat.sub_self]; rfl
  · rw [he, List.eraseIdx_eq_take_drop_succ]; exact i1.append i2
  · rw [he, List.eraseIdx_eq_take_drop_succ, pl_append i1, pl_add i2, pl_ix o2.2.1, pl_ix o1.2.1, pA, pB]
    have h1 : r / B < A * S := (Nat.div_lt_iff_lt_mul (by omega)).2 hr
    have h2 : r / B / S < A := (Nat.div_lt_iff_lt_mul (by omega)).2 h1
    rw [Int.emod_eq_of_lt (Int.natCast_nonneg _) (by exact_mod_cast h2)]
    simp
end Go.AM

namespace Go.AM
open Go Go.Proofs
set_option maxRecDepth 100000
set_option maxHeartbeats 4000000

def lenN (x : Nat) : Nat := if x = 0 then 0 else x.log2 + 1
theorem lenN_step {x k : Nat} (h : 2 ^ k ≤ x) : lenN x = lenN (x / 2 ^ k) + k := by
  have h0 : 0 < 2 ^ k := Nat.two_pow_pos k
  have hx : x ≠ 0 := by omega
  have hq : x / 2 ^ k ≠ 0 := by
    have := Nat.div_pos h h0
    omega
  unfold lenN
  rw [if_neg hx, if_neg hq]
  have h1 := (Nat.log2_eq_iff hq).1 rfl
  generalize (x / 2 ^ k).log2 = m at *
  have h2 : 2 ^ m * 2 ^ k ≤ x := Nat.le_trans (Nat.mul_le_mul_right _ h1.1) (Nat.div_mul_le_self x _)
  have h3 : x < 2 ^ (m + 1) * 2 ^ k := by
    rw [← Nat.div_lt_iff_lt_mul h0]; exact h1.2
  rw [← Nat.pow_add] at h2 h3
  have : x.log2 = m + k := (Nat.log2_eq_iff hx).2 ⟨h2, by rw [show m + k + 1 = m + 1 + k from by omega]; exact h3⟩
  omega
theorem lenN_lt {x : Nat} {n : Nat} (h : x < 2 ^ n) : lenN x ≤ n := by
  unfold lenN
  split
  · omega
  · rename_i hx
    have := (Nat.log2_eq_iff hx).1 rfl
    have h2 : 2 ^ x.log2 < 2 ^ n := Nat.lt_of_le_of_lt this.1 h
    have := (Nat.pow_lt_pow_iff_right (by decide : 1 < 2)).1 h2
    omega
theorem lenN_pow {x : Nat} (h : x ≠ 0) (hx : x < 18446744073709551616) : lenN x ≤ 64 ∧ 1 ≤ lenN x ∧ 9223372036854775808 ≤ x * 2 ^ (64 - lenN x) ∧ x * 2 ^ (64 - lenN x) < 18446744073709551616 := by
  have h1 := lenN_lt (n := 64) (x := x) (by omega)
  have h2 : lenN x = x.log2 + 1 := if_neg h
  have h3 := (Nat.log2_eq_iff h).1 rfl
  refine ⟨h1, by omega, ?_, ?_⟩
  · have : 2 ^ x.log2 * 2 ^ (64 - lenN x) ≤ x * 2 ^ (64 - lenN x) := Nat.mul_le_mul_right _ h3.1
    rw [← Nat.pow_add, show x.log2 + (64 - lenN x) = 63 from by omega] at this
    omega
  · have : x * 2 ^ (64 - lenN x) < 2 ^ (x.log2 + 1) * 2 ^ (64 - lenN x) := Nat.mul_lt_mul_of_pos_right h3.2 (Nat.two_pow_pos _)
    rw [← Nat.pow_add, show x.log2 + 1 + (64 - lenN x) = 64 from by omega] at this
    omega
structure Knuth (v1 v0 u u1 : Nat) : Prop where
  h1 : 2147483648 ≤ v1
  h2 : v1 < 4294967296
  h3 : v0 < 4294967296
  h4 : u < v1 * 4294967296 + v0
  h5 : u1 < 4294967296
def Knuth.q {v1 v0 u u1 : Nat} (_ : Knuth v1 v0 u u1) : Nat := (u * 4294967296 + u1) / (v1 * 4294967296 + v0)
theorem Knuth.q_lt {v1 v0 u u1 : Nat} (h : Knuth v1 v0 u u1) : h.q < 4294967296 := by
  have := h.h1; have := h.h4; have := h.h5
  unfold Knuth.q
  rw [Nat.div_lt_iff_lt_mul (by omega)]
  omega
theorem Knuth.lt_iff {v1 v0 u u1 : Nat} (h : Knuth v1 v0 u u1) {q r : Nat} (hq : q * v1 + r = u) : h.q < q ↔ q * v0 > 4294967296 * r + u1 := by
  have := h.h1
  unfold Knuth.q
  rw [Nat.div_lt_iff_lt_mul (by omega), Nat.mul_add, ← Nat.mul_assoc, ← hq]
  generalize q * v1 = P
  generalize q * v0 = A
  omega
theorem Knuth.start {v1 v0 u u1 : Nat} (h : Knuth v1 v0 u u1) : u / v1 * v1 + u % v1 = u ∧ h.q ≤ u / v1 ∧ u % v1 < 4294967296 := by
  have h1 := h.h1
  refine ⟨by rw [Nat.mul_comm]; exact Nat.div_add_mod u v1, ?_, by have := Nat.mod_lt u (y := v1) (by omega); have := h.h2; omega⟩
  rw [Nat.le_div_iff_mul_le (by omega)]
  have h2 : h.q * (v1 * 4294967296 + v0) ≤ u * 4294967296 + u1 := Nat.div_mul_le_self _ _
  rw [Nat.mul_add, ← Nat.mul_assoc] at h2
  have := h.h5
  generalize h.q * v1 = P at *
  generalize h.q * v0 = A at *
  omega
theorem Knuth.small {v1 v0 u u1 : Nat} (h : Knuth v1 v0 u u1) {q r : Nat} (hq : q * v1 + r = u) (hr : 4294967296 ≤ r) : q < 4294967296 ∧ q ≤ h.q := by
  have h1 := h.h1; have h2 := h.h2; have h3 := h.h3; have h4 := h.h4
  have hlt : q * v1 < 4294967296 * v1 := by
    rw [Nat.mul_comm 4294967296 v1]
    omega
  have hqb : q < 4294967296 := Nat.lt_of_mul_lt_mul_right hlt
  refine ⟨hqb, ?_⟩
  have : ¬ h.q < q := by
    rw [h.lt_iff hq]
    have hA : q * v0 ≤ 4294967296 * v0 := Nat.mul_le_mul_right v0 (by omega)
    omega
  omega
theorem Knuth.rest {v1 v0 u u1 : Nat} (h : Knuth v1 v0 u u1) : u * 4294967296 + u1 = h.q * (v1 * 4294967296 + v0) + (u * 4294967296 + u1) % (v1 * 4294967296 + v0) ∧ (u * 4294967296 + u1) % (v1 * 4294967296 + v0) < v1 * 4294967296 + v0 := by
  have h1 := h.h1
  refine ⟨?_, Nat.mod_lt _ (by omega)⟩
  unfold Knuth.q
  have := Nat.div_add_mod (u * 4294967296 + u1) (v1 * 4294967296 + v0)
  rw [Nat.mul_comm] at this
  exact this.symm
def tabL : Array UInt8 := #[0, 1, 2, 2, 3, 3, 3, 3, 4, 4, 4, 4, 4, 4, 4, 4, 5, 5, 5, 5, 5, 5, 5, 5, 5, 5, 5, 5, 5, 5, 5, 5, 6, 6, 6, 6, 6, 6, 6, 6, 6, 6, 6, 6, 6, 6, 6, 6, 6, 6, 6, 6, 6, 6, 6, 6, 6, 6, 6, 6, 6, 6, 6, 6, 7, 7, 7, 7, 7, 7, 7, 7, 7, 7, 7, 7, 7, 7, 7, 7, 7, 7, 7, 7, 7, 7, 7, 7, 7, 7, 7, 7, 7, 7, 7, 7, 7, 7, 7, 7, 7, 7, 7, 7, 7, 7, 7, 7, 7, 7, 7, 7, 7, 7, 7, 7, 7, 7, 7, 7, 7, 7, 7, 7, 7, 7, 7, 7, 8, 8, 8, 8, 8, 8, 8, 8, 8, 8, 8, 8, 8, 8, 8, 8, 8, 8, 8, 8, 8, 8, 8, 8, 8, 8, 8, 8, 8, 8, 8, 8, 8, 8, 8, 8, 8, 8, 8, 8, 8, 8, 8, 8, 8, 8, 8, 8, 8, 8, 8, 8, 8, 8, 8, 8, 8, 8, 8, 8, 8, 8, 8, 8, 8, 8, 8, 8, 8, 8, 8, 8, 8, 8, 8, 8, 8, 8, 8, 8, 8, 8, 8, 8, 8, 8, 8, 8, 8, 8, 8, 8, 8, 8, 8, 8, 8, 8, 8, 8, 8, 8, 8, 8, 8, 8, 8, 8, 8, 8, 8, 8, 8, 8, 8, 8, 8, 8, 8, 8, 8, 8, 8, 8, 8, 8, 8, 8]
theorem tab_lenN : ∀ x : Nat, x < 256 → tabL[x]? = some (UInt8.ofNat (lenN x)) := by decide +kernel
end Go.AM

namespace Go.AM
open Go Go.Proofs
set_option maxRecDepth 100000
set_option maxHeartbeats 4000000

theorem tab_get (x : Nat) (h : x < 256) : (⟨#[0, 1, 2, 2, 3, 3, 3, 3, 4, 4, 4, 4, 4, 4, 4, 4, 5, 5, 5, 5, 5, 5, 5, 5, 5, 5, 5, 5, 5, 5, 5, 5, 6, 6, 6, 6, 6, 6, 6, 6, 6, 6, 6, 6, 6, 6, 6, 6, 6, 6, 6, 6, 6, 6, 6, 6, 6, 6, 6, 6, 6, 6, 6, 6, 7, 7, 7, 7, 7, 7, 7, 7, 7, 7, 7, 7, 7, 7, 7, 7, 7, 7, 7, 7, 7, 7, 7, 7, 7, 7, 7, 7, 7, 7, 7, 7, 7, 7, 7, 7, 7, 7, 7, 7, 7, 7, 7, 7, 7, 7, 7, 7, 7, 7, 7, 7, 7, 7, 7, 7, 7, 7, 7, 7, 7, 7, 7, 7, 8, 8, 8, 8, 8, 8, 8, 8, 8, 8, 8, 8, 8, 8, 8, 8, 8, 8, 8, 8, 8, 8, 8, 8, 8, 8, 8, 8, 8, 8, 8, 8, 8, 8, 8, 8, 8, 8, 8, 8, 8, 8, 8, 8, 8, 8, 8, 8, 8, 8, 8, 8, 8, 8, 8, 8, 8, 8, 8, 8, 8, 8, 8, 8, 8, 8, 8, 8, 8, 8, 8, 8, 8, 8, 8, 8, 8, 8, 8, 8, 8, 8, 8, 8, 8, 8, 8, 8, 8, 8, 8, 8, 8, 8, 8, 8, 8, 8, 8, 8, 8, 8, 8, 8, 8, 8, 8, 8, 8, 8, 8, 8, 8, 8, 8, 8, 8, 8, 8, 8, 8, 8, 8, 8, 8, 8, 8, 8]⟩ : ByteArray)[x]? = some (UInt8.ofNat (lenN x)) := by
  have := tab_lenN x h
  rw [Array.getElem?_eq_getElem (by rw [show tabL.size = 256 from rfl]; exact h)] at this
  rw [← this]
  exact getElem?_pos _ _ _
theorem u8_len {x : Nat} (h : x < 256) : (UInt8.ofNat (lenN x)).toNat = lenN x ∧ lenN x ≤ 8 := by
  have := lenN_lt (n := 8) (x := x) h
  refine ⟨?_, this⟩
  rw [UInt8.toNat_ofNat']
  omega
theorem u8_eq (n : Int) : IntKind.u8.wrap n = n % 256 := by
  simp [IntKind.wrap, IntKind.bits, IntKind.signed]
theorem p_Len64 {x : Nat} (hx : x < 18446744073709551616) : PureC Try.prog fi_math_bits_Len64 [dU x] (dN (lenN x)) := by
  refine pure_math_bits_Len64 (by simp) fun G hP hn => ?_
  unfold a_math_bits_Len64
  have fin : ∀ (y : Nat) (n : Int), y < 256 → (lenN x : Int) = lenN y + n → 0 ≤ n → n ≤ 56 → IntKind.u8.wrap (y : Int) = (y : Int) ∧ (⟨#[0, 1, 2, 2, 3, 3, 3, 3, 4, 4, 4, 4, 4, 4, 4, 4, 5, 5, 5, 5, 5, 5, 5, 5, 5, 5, 5, 5, 5, 5, 5, 5, 6, 6, 6, 6, 6, 6, 6, 6, 6, 6, 6, 6, 6, 6, 6, 6, 6, 6, 6, 6, 6, 6, 6, 6, 6, 6, 6, 6, 6, 6, 6, 6, 7, 7, 7, 7, 7, 7, 7, 7, 7, 7, 7, 7, 7, 7, 7, 7, 7, 7, 7, 7, 7, 7, 7, 7, 7, 7, 7, 7, 7, 7, 7, 7, 7, 7, 7, 7, 7, 7, 7, 7, 7, 7, 7, 7, 7, 7, 7, 7, 7, 7, 7, 7, 7, 7, 7, 7, 7, 7, 7, 7, 7, 7, 7, 7, 8, 8, 8, 8, 8, 8, 8, 8, 8, 8, 8, 8, 8, 8, 8, 8, 8, 8, 8, 8, 8, 8, 8, 8, 8, 8, 8, 8, 8, 8, 8, 8, 8, 8, 8, 8, 8, 8, 8, 8, 8, 8, 8, 8, 8, 8, 8, 8, 8, 8, 8, 8, 8, 8, 8, 8, 8, 8, 8, 8, 8, 8, 8, 8, 8, 8, 8, 8, 8, 8, 8, 8, 8, 8, 8, 8, 8, 8, 8, 8, 8, 8, 8, 8, 8, 8, 8, 8, 8, 8, 8, 8, 8, 8, 8, 8, 8, 8, 8, 8, 8, 8, 8, 8, 8, 8, 8, 8, 8, 8, 8, 8, 8, 8, 8, 8, 8, 8, 8, 8, 8, 8, 8, 8, 8, 8, 8, 8]⟩ : ByteArray)[y]? = some (UInt8.ofNat (lenN y)) ∧ IntKind.i64.wrap ((((UInt8.ofNat (lenN y)).toNat : Nat)) : Int) = (lenN y : Int) ∧ IntKind.i64.wrap (n + (lenN y : Int)) = (lenN x : Int) := fun y n h h2 h0 h3 => by
    have h4 := u8_len h
    refine ⟨by rw [u8_eq]; omega, tab_get y h, ?_, ?_⟩
    · rw [h4.1]; exact wrap_in (by omega) (by omega)
    · rw [wrap_in (by omega) (by omega), h2]; omega
  have s32 : shrZ .u64 (x : Int) 32 = ((x / 2 ^ 32 : Nat) : Int) := shr32 x
  have shr : ∀ (y k : Nat), k ≤ 64 → shrZ .u64 (y : Int) (k : Int) = ((y / 2 ^ k : Nat) : Int) := fun y k hk => by
    unfold shrZ
    rw [Int.toNat_natCast, show min k (IntKind.u64.bits) = k from by show min k 64 = k; omega, Int.fdiv_eq_ediv_of_nonneg _ (Int.pow_nonneg (by decide))]
    push_cast; rfl
  have shr16 : ∀ y : Nat, shrZ .u64 (y : Int) 16 = ((y / 2 ^ 16 : Nat) : Int) := fun y => shr y 16 (by decide)
  have shr8 : ∀ y : Nat, shrZ .u64 (y : Int) 8 = ((y / 2 ^ 8 : Nat) : Int) := fun y => shr y 8 (by decide)
  obtain ⟨x1, n1, e1, b1, h1⟩ : ∃ (x1 : Nat) (n1 : Int), (lenN x : Int) = lenN x1 + n1 ∧ x1 < 2 ^ 32 ∧ ((¬ (x : Int) ≥ 4294967296 ∧ x = x1 ∧ 0 = n1) ∨ ((x : Int) ≥ 4294967296 ∧ x / 2 ^ 32 = x1 ∧ 32 = n1)) := by
    by_cases h : x < 2 ^ 32
    · exact ⟨x, 0, by omega, h, .inl ⟨by omega, rfl, rfl⟩⟩
    · exact ⟨x / 2 ^ 32, 32, by have := lenN_step (x := x) (k := 32) (by omega); omega, by omega, .inr ⟨by omega, rfl, rfl⟩⟩
  obtain ⟨x2, n2, e2, b2, h2⟩ : ∃ (x2 : Nat) (n2 : Int), (lenN x1 : Int) = lenN x2 + n2 ∧ x2 < 2 ^ 16 ∧ ((¬ (x1 : Int) ≥ 65536 ∧ x1 = x2 ∧ 0 = n2) ∨ ((x1 : Int) ≥ 65536 ∧ x1 / 2 ^ 16 = x2 ∧ 16 = n2)) := by
    by_cases h : x1 < 2 ^ 16
    · exact ⟨x1, 0, by omega, h, .inl ⟨by omega, rfl, rfl⟩⟩
    · exact ⟨x1 / 2 ^ 16, 16, by have := lenN_step (x := x1) (k := 16) (by omega); omega, by omega, .inr ⟨by omega, rfl, rfl⟩⟩
  obtain ⟨x3, n3, e3, b3, h3⟩ : ∃ (x3 : Nat) (n3 : Int), (lenN x2 : Int) = lenN x3 + n3 ∧ x3 < 2 ^ 8 ∧ ((¬ (x2 : Int) ≥ 256 ∧ x2 = x3 ∧ 0 = n3) ∨ ((x2 : Int) ≥ 256 ∧ x2 / 2 ^ 8 = x3 ∧ 8 = n3)) := by
    by_cases h : x2 < 2 ^ 8
    · exact ⟨x2, 0, by omega, h, .inl ⟨by omega, rfl, rfl⟩⟩
    · exact ⟨x2 / 2 ^ 8, 8, by have := lenN_step (x := x2) (k := 8) (by omega); omega, by omega, .inr ⟨by omega, rfl, rfl⟩⟩
  have hnn : 0 ≤ n1 + n2 + n3 ∧ n1 + n2 + n3 ≤ 56 := by omega
  obtain ⟨g1, g2, g3, g4⟩ := fin x3 (n1 + n2 + n3) b3 (by omega) (by omega) (by omega)
  have w1 : IntKind.i64.wrap 8 = 8 := by decide
  have w2 : IntKind.i64.wrap 16 = 16 := by decide
  have w3 : IntKind.i64.wrap 24 = 24 := by decide
  have w4 : IntKind.i64.wrap 40 = 40 := by decide
  have w5 : IntKind.i64.wrap 48 = 48 := by decide
  have w6 : IntKind.i64.wrap 56 = 56 := by decide
  clear e1 e2 e3 fin shr
  rcases h1 with ⟨c1, rfl, rfl⟩ | ⟨c1, rfl, rfl⟩
  all_goals
    rcases h2 with ⟨c2, rfl, rfl⟩ | ⟨c2, rfl, rfl⟩
    all_goals
      rcases h3 with ⟨c3, rfl, rfl⟩ | ⟨c3, rfl, rfl⟩
      all_goals
        simp only [Int.add_zero, Int.zero_add, Int.reduceAdd] at g4
        refine go (aa c1 <| aa c2 <| aa c3 <| aa s32 <| aa @shr16 <| aa @shr8 <| aa w1 <| aa w2 <| aa w3 <| aa w4 <| aa w5 <| aa w6 <| aa g1 <| aa g2 <| aa g3 g4) trivial ?_
        exact ends_ret rfl rfl rfl (by first | rfl | (simp only [Int.zero_add]; rw [g4]; rfl))
def lzN (x : Nat) : Nat := 64 - lenN x
theorem p_LZ64 {x : Nat} (hx : x < 18446744073709551616) : PureC Try.prog fi_math_bits_LeadingZeros64 [dU x] (dN (lzN x)) := by
  refine pure_math_bits_LeadingZeros64 (by simp) fun G hP hn => ?_
  unfold a_math_bits_LeadingZeros64
  have k := p_Len64 hx
  have hl := lenN_lt (n := 64) (x := x) (by omega)
  have w : IntKind.i64.wrap (64 - (lenN x : Int)) = (lzN x : Int) := by unfold lzN; rw [wrap_in (by omega) (by omega)]; omega
  refine go @w k ?_
  exact ends_ret rfl rfl rfl rfl
end Go.AM

namespace Go.AM
open Go Go.Proofs
set_option maxRecDepth 100000
set_option maxHeartbeats 4000000

theorem shlN {x k : Nat} (hk : k ≤ 64) (h : x * 2 ^ k < 18446744073709551616) : shlZ .u64 (x : Int) (k : Int) = ((x * 2 ^ k : Nat) : Int) := by
  unfold shlZ
  rw [Int.toNat_natCast, show min k (IntKind.u64.bits) = k from by show min k 64 = k; omega]
  have : (x : Int) * 2 ^ k = ((x * 2 ^ k : Nat) : Int) := by push_cast; rfl
  rw [this]; exact u64_nat h
theorem shlM {x k : Nat} (hk : k ≤ 64) : shlZ .u64 (x : Int) (k : Int) = ((x * 2 ^ k % 18446744073709551616 : Nat) : Int) := by
  unfold shlZ
  rw [Int.toNat_natCast, show min k (IntKind.u64.bits) = k from by show min k 64 = k; omega]
  have : (x : Int) * 2 ^ k = ((x * 2 ^ k : Nat) : Int) := by push_cast; rfl
  rw [this, u64_eq]
  generalize x * 2 ^ k = m
  omega
theorem shrN {y k : Nat} (hk : k ≤ 64) : shrZ .u64 (y : Int) (k : Int) = ((y / 2 ^ k : Nat) : Int) := by
  unfold shrZ
  rw [Int.toNat_natCast, show min k (IntKind.u64.bits) = k from by show min k 64 = k; omega, Int.fdiv_eq_ediv_of_nonneg _ (Int.pow_nonneg (by decide))]
  push_cast; rfl
theorem orN {x y k : Nat} (hk : k ≤ 64) (hx : x * 2 ^ k < 18446744073709551616) (hy : y < 2 ^ k) : orZ .u64 ((x * 2 ^ k : Nat) : Int) (y : Int) = ((x * 2 ^ k + y : Nat) : Int) := by
  have hy2 : y < 18446744073709551616 := by
    have : 2 ^ k ≤ 2 ^ 64 := Nat.pow_le_pow_right (by decide) hk
    omega
  have e : x * 2 ^ k ||| y = x * 2 ^ k + y := by
    rw [← Nat.shiftLeft_eq, Nat.shiftLeft_add_eq_or_of_lt hy]
  have hs : x * 2 ^ k + y < 18446744073709551616 := by
    rw [← e]
    exact Nat.or_lt_two_pow (n := 64) hx hy2
  unfold orZ
  have h1 : (BitVec.ofInt IntKind.u64.bits ((x * 2 ^ k : Nat) : Int)).toNat = x * 2 ^ k := by
    rw [BitVec.toNat_ofInt]
    show (((x * 2 ^ k : Nat) : Int) % (18446744073709551616 : Int)).toNat = _
    omega
  have h2 : (BitVec.ofInt IntKind.u64.bits (y : Int)).toNat = y := by
    rw [BitVec.toNat_ofInt]
    show ((y : Int) % (18446744073709551616 : Int)).toNat = _
    omega
  rw [BitVec.toNat_or, h1, h2, e]
  exact u64_nat hs
theorem p_Div64_0 {lo y : Nat} (hl : lo < 18446744073709551616) (hy : y < 18446744073709551616) (h0 : 0 < y) : PureC Try.prog fi_math_bits_Div64 [dU 0, dU lo, dU y] (dUU (lo / y) (lo % y)) := by
  refine pure_math_bits_Div64 (by simp) fun G hP hn => ?_
  unfold a_math_bits_Div64
  have c1 : ((y : Int) == 0) = false := by simp; omega
  have c1' : ((y : Int) = 0) = False := by simp; omega
  have c2 : ¬ (y : Int) ≤ 0 := by omega
  have hq := Nat.div_le_self lo y
  have hr := Nat.mod_lt lo h0
  have qd : IntKind.u64.wrap ((lo : Int).tdiv (y : Int)) = ((lo / y : Nat) : Int) := by
    rw [Int.tdiv_eq_ediv_of_nonneg (by omega), ← Int.natCast_ediv]
    exact u64_nat (by omega)
  have qm : (lo : Int).tmod (y : Int) = ((lo % y : Nat) : Int) := by rw [Int.tmod_eq_emod_of_nonneg (by omega)]; omega
  refine go (aa c1 <| aa c1' <| aa c2 <| aa @qd @qm) trivial ?_
  exact ends_ret rfl rfl rfl rfl
end Go.AM

namespace Go.AM
open Go Go.Proofs
set_option maxRecDepth 100000
set_option maxHeartbeats 8000000

theorem T_cutX {G : Ground} {F : Fence} {n id : Nat} {Q : Exit → AS → Prop} {s S : AS} {c b : ACode} (h : T G F n c (fun e s' => e = .exit id ∧ Weak G s' S) s) (k : T G F n b Q S) : T G F n c (inB id (Then G F n b Q)) s :=
  T_mono h fun e s' ⟨h1, h2⟩ => by subst h1; exact inB_exit (T_then (T_weak h2 k))
theorem div_lin {b H Lh L U U1 U0 U2 A B R2 : Nat} (hU : U = H + Lh) (hL : L = U1 * b + U0) (h1 : U * b + U1 = A + U2) (h2 : U2 * b + U0 = B + R2) :
    H * (b * b) + (Lh * (b * b) + L) = A * b + B + R2 := by
  have e : H * (b * b) + (Lh * (b * b) + L) = (U * b + U1) * b + U0 := by
    rw [hU, hL]; simp only [Nat.add_mul, Nat.mul_assoc, Nat.add_assoc]
  rw [e, h1, Nat.add_mul, Nat.add_assoc, h2, Nat.add_assoc]
theorem kn_next {i r v : Nat} (h : i * 2147483648 ≤ r) (hv : 2147483648 ≤ v) : (i + 1) * 2147483648 ≤ r + v := by
  rw [Nat.add_mul, Nat.one_mul]; exact Nat.add_le_add h hv
theorem kn_lt {i r : Nat} (h : i * 2147483648 ≤ r) (h2 : r < 4294967296) : i < 2 :=
  Nat.lt_of_mul_lt_mul_right (Nat.lt_of_le_of_lt h h2 : i * 2147483648 < 2 * 2147483648)
theorem div_tail {T q y s Y R2 : Nat} (hY : Y = y * 2 ^ s) (e1 : T * 2 ^ s = (q * y) * 2 ^ s + R2) (h3 : R2 < Y) (hy : 0 < y) : T / y = q ∧ T % y = R2 / 2 ^ s := by
  have hp : 0 < 2 ^ s := Nat.two_pow_pos s
  have e2 : R2 = (T - q * y) * 2 ^ s := by rw [Nat.sub_mul]; omega
  have hle : q * y ≤ T := Nat.le_of_mul_le_mul_right (by omega : (q * y) * 2 ^ s ≤ T * 2 ^ s) hp
  have e3 : R2 / 2 ^ s = T - q * y := by rw [e2, Nat.mul_div_cancel _ hp]
  have e4 : T - q * y < y := by
    rw [e2, hY] at h3
    exact Nat.lt_of_mul_lt_mul_right h3
  have e5 : T = y * q + (T - q * y) := by rw [Nat.mul_comm y q]; omega
  rw [e3]
  generalize T - q * y = r at *
  subst e5
  exact ⟨by rw [Nat.mul_add_div hy, Nat.div_eq_of_lt e4]; rfl, by rw [Nat.mul_add_mod, Nat.mod_eq_of_lt e4]⟩
theorem div_parts {hi lo y s Y U L Lh U1 U0 U2 R2 q1 q0 : Nat} (hY : Y = y * 2 ^ s) (hU : U = hi * 2 ^ s + Lh) (hl : lo * 2 ^ s = Lh * 18446744073709551616 + L) (hL : L = U1 * 4294967296 + U0)
    (h1 : U * 4294967296 + U1 = q1 * Y + U2) (h2 : U2 * 4294967296 + U0 = q0 * Y + R2) (h3 : R2 < Y) (hy : 0 < y) :
    (hi * 18446744073709551616 + lo) / y = q1 * 4294967296 + q0 ∧ (hi * 18446744073709551616 + lo) % y = R2 / 2 ^ s := by
  refine div_tail hY ?_ h3 hy
  have a1 : (hi * 18446744073709551616 + lo) * 2 ^ s = (hi * 2 ^ s) * 18446744073709551616 + lo * 2 ^ s := by
    rw [Nat.add_mul, Nat.mul_right_comm]
  have a2 : ((q1 * 4294967296 + q0) * y) * 2 ^ s = (q1 * Y) * 4294967296 + q0 * Y := by
    rw [hY, Nat.mul_assoc, Nat.add_mul, Nat.mul_right_comm q1]
  rw [a1, a2, hl]
  exact div_lin (b := 4294967296) hU hL h1 h2
theorem wrap_sub {N P R : Nat} (h : N = P + R) (hR : R < 18446744073709551616) : IntKind.u64.wrap (((N % 18446744073709551616 : Nat) : Int) - ((P % 18446744073709551616 : Nat) : Int)) = (R : Int) := by
  rw [u64_eq]; omega
theorem wrap_mulB (a : Nat) : IntKind.u64.wrap ((a : Int) * 4294967296) = ((a * 4294967296 % 18446744073709551616 : Nat) : Int) := by
  rw [u64_eq]; omega
theorem wrap_mulN (a b : Nat) : IntKind.u64.wrap ((a : Int) * (b : Int)) = ((a * b % 18446744073709551616 : Nat) : Int) := by
  rw [u64_eq, ← Int.natCast_mul]
  generalize a * b = m
  omega
theorem wrap_addM (a b : Nat) : IntKind.u64.wrap (((a % 18446744073709551616 : Nat) : Int) + (b : Int)) = (((a + b) % 18446744073709551616 : Nat) : Int) := by
  rw [u64_eq]; omega
theorem low_B {q : Nat} (h : q < 4294967296) : q * 4294967296 % 18446744073709551616 = q * 4294967296 := by omega
theorem low_BB {q r : Nat} (h : q < 4294967296) (h2 : r < 4294967296) : IntKind.u64.wrap (((q * 4294967296 : Nat) : Int) + (r : Int)) = ((q * 4294967296 + r : Nat) : Int) := by
  rw [← Int.natCast_add]; exact u64_nat (by omega)
theorem p_Div64_1 {hi lo y : Nat} (hl : lo < 18446744073709551616) (hy : y < 18446744073709551616) (h0 : 0 < hi) (h1 : hi < y) :
    PureC Try.prog fi_math_bits_Div64 [dU hi, dU lo, dU y] (dUU ((hi * 18446744073709551616 + lo) / y) ((hi * 18446744073709551616 + lo) % y)) := by
  refine pure_math_bits_Div64 (by simp) fun G hP hn => ?_
  unfold a_math_bits_Div64
  have c1 : ((y : Int) == 0) = false := by simp; omega
  have c2 : ¬ (y : Int) ≤ hi := by omega
  have c3 : ((hi : Int) == 0) = false := by simp; omega
  have kl := p_LZ64 hy
  obtain ⟨p1, p2, p3, p4⟩ := lenN_pow (x := y) (by omega) hy
  obtain ⟨s, hs⟩ : ∃ s, s = lzN y := ⟨_, rfl⟩
  have hs64 : s ≤ 63 := by rw [hs]; unfold lzN; omega
  rw [show 64 - lenN y = s from by rw [hs]; rfl] at p3 p4
  rw [← hs] at kl
  have es : IntKind.u64.wrap (s : Int) = (s : Int) := u64_nat (by omega)
  have hp : 0 < 2 ^ s := Nat.two_pow_pos s
  obtain ⟨Y, hY⟩ : ∃ Y, Y = y * 2 ^ s := ⟨_, rfl⟩
  have f1 : shlZ .u64 (y : Int) (s : Int) = (Y : Int) := by rw [hY]; exact shlN (by omega) p4
  rw [← hY] at p3 p4
  obtain ⟨V1, hV1⟩ : ∃ V1, V1 = Y / 4294967296 := ⟨_, rfl⟩
  obtain ⟨V0, hV0⟩ : ∃ V0, V0 = Y % 4294967296 := ⟨_, rfl⟩
  have f2 : shrZ .u64 (Y : Int) 32 = (V1 : Int) := by rw [hV1]; exact shr32 Y
  have f3 : andZ .u64 (Y : Int) 4294967295 = (V0 : Int) := by rw [hV0]; exact u64_and p4
  have hYV : Y = V1 * 4294967296 + V0 := by omega
  obtain ⟨Lh, hLh⟩ : ∃ Lh, Lh = lo / 2 ^ (64 - s) := ⟨_, rfl⟩
  have hpp : 2 ^ (64 - s) * 2 ^ s = 18446744073709551616 := by rw [← Nat.pow_add, show 64 - s + s = 64 from by omega]
  have hLhs : Lh < 2 ^ s := by
    rw [hLh, Nat.div_lt_iff_lt_mul (Nat.two_pow_pos _), Nat.mul_comm, hpp]; exact hl
  have hHy : hi * 2 ^ s + 2 ^ s ≤ Y := by
    have := Nat.mul_le_mul_right (2 ^ s) (show hi + 1 ≤ y from h1)
    rw [Nat.add_mul, Nat.one_mul] at this
    rw [hY]; exact this
  have f4 : shlZ .u64 (hi : Int) (s : Int) = ((hi * 2 ^ s : Nat) : Int) := shlN (by omega) (by omega)
  have f5 : IntKind.u64.wrap (64 - (s : Int)) = ((64 - s : Nat) : Int) := by
    rw [show (64 : Int) - (s : Int) = ((64 - s : Nat) : Int) from by omega]; exact u64_nat (by omega)
  have f6 : shrZ .u64 (lo : Int) ((64 - s : Nat) : Int) = (Lh : Int) := by rw [hLh]; exact shrN (by omega)
  obtain ⟨U, hU⟩ : ∃ U, U = hi * 2 ^ s + Lh := ⟨_, rfl⟩
  have f7 : orZ .u64 ((hi * 2 ^ s : Nat) : Int) (Lh : Int) = (U : Int) := by rw [hU]; exact orN (by omega) (by omega) hLhs
  obtain ⟨L, hL⟩ : ∃ L, L = lo * 2 ^ s % 18446744073709551616 := ⟨_, rfl⟩
  have f8 : shlZ .u64 (lo : Int) (s : Int) = (L : Int) := by rw [hL]; exact shlM (by omega)
  have hlo : lo * 2 ^ s = Lh * 18446744073709551616 + L := by
    have : lo * 2 ^ s / 18446744073709551616 = Lh := by
      rw [hLh, ← hpp, Nat.mul_div_mul_right _ _ hp]
    have := Nat.div_add_mod (lo * 2 ^ s) 18446744073709551616
    omega
  have hL64 : L < 18446744073709551616 := by rw [hL]; exact Nat.mod_lt _ (by decide)
  obtain ⟨U1, hU1⟩ : ∃ U1, U1 = L / 4294967296 := ⟨_, rfl⟩
  obtain ⟨U0, hU0⟩ : ∃ U0, U0 = L % 4294967296 := ⟨_, rfl⟩
  have f9 : shrZ .u64 (L : Int) 32 = (U1 : Int) := by rw [hU1]; exact shr32 L
  have f10 : andZ .u64 (L : Int) 4294967295 = (U0 : Int) := by rw [hU0]; exact u64_and hL64
  have hLU : L = U1 * 4294967296 + U0 := by omega
  have K : Knuth V1 V0 U U1 := ⟨by omega, by omega, by omega, by omega, by omega⟩
  have hU0b : U0 < 4294967296 := by omega
  clear hLh hL hV1 hV0 hU1 hU0 hs p1 p2
  have v0 : ((V1 : Int) = 0) = False := by have := K.h1; simp; omega
  have K1 := K.start
  have hQ0 := Nat.div_le_self U V1
  obtain ⟨Q0, hQ⟩ : ∃ Q0, Q0 = U / V1 := ⟨_, rfl⟩
  obtain ⟨R0, hR⟩ : ∃ R0, R0 = U % V1 := ⟨_, rfl⟩
  rw [← hQ, ← hR] at K1
  have hU64 : U < 18446744073709551616 := by omega
  have f11 : IntKind.u64.wrap ((U : Int).tdiv (V1 : Int)) = (Q0 : Int) := by
    rw [Int.tdiv_eq_ediv_of_nonneg (by omega), ← Int.natCast_ediv, ← hQ]
    exact u64_nat (by omega)
  have f12 : IntKind.u64.wrap ((Q0 : Int) * (V1 : Int)) = ((Q0 * V1 : Nat) : Int) := by rw [← Int.natCast_mul]; exact u64_nat (by omega)
  have f13 : IntKind.u64.wrap ((U : Int) - ((Q0 * V1 : Nat) : Int)) = (R0 : Int) := by
    rw [show (U : Int) - ((Q0 * V1 : Nat) : Int) = (R0 : Int) from by omega]; exact u64_nat (by omega)
  refine go (aa c1 <| aa c2 <| aa c3 <| aa @es <| aa f1 <| aa f2 <| aa f3 <| aa f4 <| aa f5 <| aa f6 <| aa f7 <| aa f8 <| aa f9 <| aa f10 <| aa v0 <| aa f11 <| aa f12 f13) kl ?_
  refine T_cutX (S := { env := [(2, .one (.p (.int .u64 Y))), (8, .one (.p (.int .u64 s))), (9, .one (.p (.int .u64 V1))), (10, .one (.p (.int .u64 V0))), (11, .one (.p (.int .u64 U))), (13, .one (.p (.int .u64 U1))), (14, .one (.p (.int .u64 U0))), (15, .one (.p (.int .u64 K.q))), (16, .one (.p (.int .u64 ((U - K.q * V1 : Nat) : Int))))], σ := [] }) ?_ ?_
  · refine T_for 2 (fun _ (a : Nat × Nat) => { env := [(2, .one (.p (.int .u64 Y))), (8, .one (.p (.int .u64 s))), (9, .one (.p (.int .u64 V1))), (10, .one (.p (.int .u64 V0))), (11, .one (.p (.int .u64 U))), (13, .one (.p (.int .u64 U1))), (14, .one (.p (.int .u64 U0))), (15, .one (.p (.int .u64 a.1))), (16, .one (.p (.int .u64 a.2)))], σ := [] })
      (fun i a => a.1 * V1 + a.2 = U ∧ K.q ≤ a.1 ∧ a.2 < 4294967296 ∧ i * 2147483648 ≤ a.2 ∧ a.1 ≤ Q0) (Q0, R0) ⟨K1.1, K1.2.1, K1.2.2, by rw [Nat.zero_mul]; exact Nat.zero_le _, Nat.le_refl _⟩ (.refl _ _) fun i a hi ha => ?_
    obtain ⟨q, r⟩ := a
    obtain ⟨a1, a2, a3, a4, a5⟩ := ha
    simp only at a1 a2 a3 a4 a5
    have hv := K.h1
    have hv2 := K.h2
    have hv0 := K.h3
    have hK := K.q_lt
    have hiff := K.lt_iff a1
    have dec : K.q < q → (q - 1) * V1 + (r + V1) = U := fun h => by
      have : q * V1 = (q - 1) * V1 + V1 := by
        conv => lhs; rw [show q = (q - 1) + 1 from by omega, Nat.add_mul, Nat.one_mul]
      omega
    have w1 : 1 ≤ q → IntKind.u64.wrap ((q : Int) - 1) = ((q - 1 : Nat) : Int) := fun h => by
      rw [show (q : Int) - 1 = ((q - 1 : Nat) : Int) from by omega]; exact u64_nat (by omega)
    have w2 : IntKind.u64.wrap ((r : Int) + (V1 : Int)) = ((r + V1 : Nat) : Int) := by rw [← Int.natCast_add]; exact u64_nat (by omega)
    have stop : ∀ q' r' : Nat, q' * V1 + r' = U → q' = K.q → r' = U - K.q * V1 := fun q' r' h1 h2 => by subst h2; omega
    by_cases b1 : 4294967296 ≤ q
    · have b1' : (q : Int) ≥ 4294967296 := by omega
      have hlt : K.q < q := by omega
      have hd := dec hlt
      have w1' := w1 (by omega)
      by_cases b2 : 4294967296 ≤ r + V1
      · have b2' : ((r + V1 : Nat) : Int) ≥ 4294967296 := by omega
        have hsm := K.small hd b2
        refine go (aa b1' <| aa w1' <| aa w2 b2') trivial ?_
        refine ⟨rfl, ?_⟩
        rw [← stop _ _ hd (by omega), show K.q = q - 1 from by omega]
        exact Weak.pick [2, 8, 9, 10, 11, 13, 14, 15, 16]
      · have b2' : ¬ ((r + V1 : Nat) : Int) ≥ 4294967296 := by omega
        refine go (aa b1' <| aa w1' <| aa w2 b2') trivial ?_
        exact rnd_next (kn_lt a4 a3) (q - 1, r + V1) ⟨hd, Nat.le_sub_one_of_lt hlt, Nat.lt_of_not_le b2, kn_next a4 hv, Nat.le_trans (Nat.sub_le _ _) a5⟩ (Weak.pick [2, 8, 9, 10, 11, 13, 14, 15, 16])
    · have b1' : ¬ (q : Int) ≥ 4294967296 := by omega
      have hA : q * V0 ≤ 4294967295 * V0 := Nat.mul_le_mul_right V0 (by omega)
      have w3 : IntKind.u64.wrap ((q : Int) * (V0 : Int)) = ((q * V0 : Nat) : Int) := by rw [← Int.natCast_mul]; exact u64_nat (by omega)
      have w4 : IntKind.u64.wrap (4294967296 * (r : Int)) = ((4294967296 * r : Nat) : Int) := by
        rw [show 4294967296 * (r : Int) = ((4294967296 * r : Nat) : Int) from by omega]; exact u64_nat (by omega)
      have w5 : IntKind.u64.wrap (((4294967296 * r : Nat) : Int) + (U1 : Int)) = ((4294967296 * r + U1 : Nat) : Int) := by
        have := K.h5
        rw [← Int.natCast_add]; exact u64_nat (by omega)
      by_cases b3 : q * V0 > 4294967296 * r + U1
      · have b3' : ((q * V0 : Nat) : Int) > ((4294967296 * r + U1 : Nat) : Int) := by omega
        have hlt : K.q < q := hiff.2 b3
        have hd := dec hlt
        have w1' := w1 (by omega)
        by_cases b2 : 4294967296 ≤ r + V1
        · have b2' : ((r + V1 : Nat) : Int) ≥ 4294967296 := by omega
          have hsm := K.small hd b2
          refine go (aa b1' <| aa w1' <| aa w2 <| aa w3 <| aa w4 <| aa w5 <| aa b2' b3') trivial ?_
          refine ⟨rfl, ?_⟩
          rw [← stop _ _ hd (by omega), show K.q = q - 1 from by omega]
          exact Weak.pick [2, 8, 9, 10, 11, 13, 14, 15, 16]
        · have b2' : ¬ ((r + V1 : Nat) : Int) ≥ 4294967296 := by omega
          refine go (aa b1' <| aa w1' <| aa w2 <| aa w3 <| aa w4 <| aa w5 <| aa b2' b3') trivial ?_
          exact rnd_next (kn_lt a4 a3) (q - 1, r + V1) ⟨hd, Nat.le_sub_one_of_lt hlt, Nat.lt_of_not_le b2, kn_next a4 hv, Nat.le_trans (Nat.sub_le _ _) a5⟩ (Weak.pick [2, 8, 9, 10, 11, 13, 14, 15, 16])
      · have b3' : ¬ ((q * V0 : Nat) : Int) > ((4294967296 * r + U1 : Nat) : Int) := by omega
        have hle : ¬ K.q < q := fun h => b3 (hiff.1 h)
        refine go (aa b1' <| aa w3 <| aa w4 <| aa w5 b3') trivial ?_
        refine ⟨rfl, ?_⟩
        rw [← stop _ _ a1 (by omega), show K.q = q from by omega]
        exact Weak.pick [2, 8, 9, 10, 11, 13, 14, 15, 16]
  have hq1b := K.q_lt
  obtain ⟨q1, hq1⟩ : ∃ q1, q1 = K.q := ⟨_, rfl⟩
  have KR := K.rest
  rw [← hYV, ← hq1] at KR
  rw [← hq1] at hq1b
  obtain ⟨U2, hU2⟩ : ∃ U2, U2 = (U * 4294967296 + U1) % Y := ⟨_, rfl⟩
  rw [← hU2] at KR
  rw [← hq1]
  have t1 := wrap_mulB U
  have t2 := wrap_addM (U * 4294967296) U1
  have t3 := wrap_mulN q1 Y
  have t4 := wrap_sub KR.1 (Nat.lt_trans KR.2 p4)
  have K2 : Knuth V1 V0 U2 U0 := ⟨K.h1, K.h2, K.h3, by rw [← hYV]; exact KR.2, hU0b⟩
  have K21 := K2.start
  have hQ2' := Nat.div_le_self U2 V1
  have hU264 : U2 < 18446744073709551616 := Nat.lt_trans KR.2 p4
  obtain ⟨Q2, hQ2⟩ : ∃ Q2, Q2 = U2 / V1 := ⟨_, rfl⟩
  obtain ⟨R2, hR2⟩ : ∃ R2, R2 = U2 % V1 := ⟨_, rfl⟩
  rw [← hQ2, ← hR2] at K21
  have g11 : IntKind.u64.wrap ((U2 : Int).tdiv (V1 : Int)) = (Q2 : Int) := by
    rw [Int.tdiv_eq_ediv_of_nonneg (by omega), ← Int.natCast_ediv, ← hQ2]
    exact u64_nat (by omega)
  have g12 : IntKind.u64.wrap ((Q2 : Int) * (V1 : Int)) = ((Q2 * V1 : Nat) : Int) := by rw [← Int.natCast_mul]; exact u64_nat (by omega)
  have g13 : IntKind.u64.wrap ((U2 : Int) - ((Q2 * V1 : Nat) : Int)) = (R2 : Int) := by
    rw [show (U2 : Int) - ((Q2 * V1 : Nat) : Int) = (R2 : Int) from by omega]; exact u64_nat (by omega)
  refine go (aa t1 <| aa t2 <| aa t3 <| aa t4 <| aa v0 <| aa g11 <| aa g12 g13) trivial ?_
  refine T_cutX (S := { env := [(2, .one (.p (.int .u64 Y))), (8, .one (.p (.int .u64 s))), (9, .one (.p (.int .u64 V1))), (10, .one (.p (.int .u64 V0))), (14, .one (.p (.int .u64 U0))), (15, .one (.p (.int .u64 q1))), (17, .one (.p (.int .u64 U2))), (18, .one (.p (.int .u64 K2.q))), (16, .one (.p (.int .u64 ((U2 - K2.q * V1 : Nat) : Int))))], σ := [] }) ?_ ?_
  · refine T_for 2 (fun _ (a : Nat × Nat) => { env := [(2, .one (.p (.int .u64 Y))), (8, .one (.p (.int .u64 s))), (9, .one (.p (.int .u64 V1))), (10, .one (.p (.int .u64 V0))), (14, .one (.p (.int .u64 U0))), (15, .one (.p (.int .u64 q1))), (17, .one (.p (.int .u64 U2))), (18, .one (.p (.int .u64 a.1))), (16, .one (.p (.int .u64 a.2)))], σ := [] })
      (fun i a => a.1 * V1 + a.2 = U2 ∧ K2.q ≤ a.1 ∧ a.2 < 4294967296 ∧ i * 2147483648 ≤ a.2 ∧ a.1 ≤ Q2) (Q2, R2) ⟨K21.1, K21.2.1, K21.2.2, by rw [Nat.zero_mul]; exact Nat.zero_le _, Nat.le_refl _⟩ (Weak.pick [2, 8, 9, 10, 14, 15, 17, 18, 16]) fun i a hi ha => ?_
    obtain ⟨q, r⟩ := a
    obtain ⟨a1, a2, a3, a4, a5⟩ := ha
    simp only at a1 a2 a3 a4 a5
    have hv := K2.h1
    have hv2 := K2.h2
    have hv0 := K2.h3
    have hK := K2.q_lt
    have hiff := K2.lt_iff a1
    have dec : K2.q < q → (q - 1) * V1 + (r + V1) = U2 := fun h => by
      have : q * V1 = (q - 1) * V1 + V1 := by
        conv => lhs; rw [show q = (q - 1) + 1 from by omega, Nat.add_mul, Nat.one_mul]
      omega
    have w1 : 1 ≤ q → IntKind.u64.wrap ((q : Int) - 1) = ((q - 1 : Nat) : Int) := fun h => by
      rw [show (q : Int) - 1 = ((q - 1 : Nat) : Int) from by omega]; exact u64_nat (by omega)
    have w2 : IntKind.u64.wrap ((r : Int) + (V1 : Int)) = ((r + V1 : Nat) : Int) := by rw [← Int.natCast_add]; exact u64_nat (by omega)
    have stop : ∀ q' r' : Nat, q' * V1 + r' = U2 → q' = K2.q → r' = U2 - K2.q * V1 := fun q' r' h1 h2 => by subst h2; omega
    by_cases b1 : 4294967296 ≤ q
    · have b1' : (q : Int) ≥ 4294967296 := by omega
      have hlt : K2.q < q := by omega
      have hd := dec hlt
      have w1' := w1 (by omega)
      by_cases b2 : 4294967296 ≤ r + V1
      · have b2' : ((r + V1 : Nat) : Int) ≥ 4294967296 := by omega
        have hsm := K2.small hd b2
        refine go (aa b1' <| aa w1' <| aa w2 b2') trivial ?_
        refine ⟨rfl, ?_⟩
        rw [← stop _ _ hd (by omega), show K2.q = q - 1 from by omega]
        exact Weak.pick [2, 8, 9, 10, 14, 15, 17, 18, 16]
      · have b2' : ¬ ((r + V1 : Nat) : Int) ≥ 4294967296 := by omega
        refine go (aa b1' <| aa w1' <| aa w2 b2') trivial ?_
        exact rnd_next (kn_lt a4 a3) (q - 1, r + V1) ⟨hd, Nat.le_sub_one_of_lt hlt, Nat.lt_of_not_le b2, kn_next a4 hv, Nat.le_trans (Nat.sub_le _ _) a5⟩ (Weak.pick [2, 8, 9, 10, 14, 15, 17, 18, 16])
    · have b1' : ¬ (q : Int) ≥ 4294967296 := by omega
      have hA : q * V0 ≤ 4294967295 * V0 := Nat.mul_le_mul_right V0 (by omega)
      have w3 : IntKind.u64.wrap ((q : Int) * (V0 : Int)) = ((q * V0 : Nat) : Int) := by rw [← Int.natCast_mul]; exact u64_nat (by omega)
      have w4 : IntKind.u64.wrap (4294967296 * (r : Int)) = ((4294967296 * r : Nat) : Int) := by
        rw [show 4294967296 * (r : Int) = ((4294967296 * r : Nat) : Int) from by omega]; exact u64_nat (by omega)
      have w5 : IntKind.u64.wrap (((4294967296 * r : Nat) : Int) + (U0 : Int)) = ((4294967296 * r + U0 : Nat) : Int) := by
        have := K2.h5
        rw [← Int.natCast_add]; exact u64_nat (by omega)
      by_cases b3 : q * V0 > 4294967296 * r + U0
      · have b3' : ((q * V0 : Nat) : Int) > ((4294967296 * r + U0 : Nat) : Int) := by omega
        have hlt : K2.q < q := hiff.2 b3
        have hd := dec hlt
        have w1' := w1 (by omega)
        by_cases b2 : 4294967296 ≤ r + V1
        · have b2' : ((r + V1 : Nat) : Int) ≥ 4294967296 := by omega
          have hsm := K2.small hd b2
          refine go (aa b1' <| aa w1' <| aa w2 <| aa w3 <| aa w4 <| aa w5 <| aa b2' b3') trivial ?_
          refine ⟨rfl, ?_⟩
          rw [← stop _ _ hd (by omega), show K2.q = q - 1 from by omega]
          exact Weak.pick [2, 8, 9, 10, 14, 15, 17, 18, 16]
        · have b2' : ¬ ((r + V1 : Nat) : Int) ≥ 4294967296 := by omega
          refine go (aa b1' <| aa w1' <| aa w2 <| aa w3 <| aa w4 <| aa w5 <| aa b2' b3') trivial ?_
          exact rnd_next (kn_lt a4 a3) (q - 1, r + V1) ⟨hd, Nat.le_sub_one_of_lt hlt, Nat.lt_of_not_le b2, kn_next a4 hv, Nat.le_trans (Nat.sub_le _ _) a5⟩ (Weak.pick [2, 8, 9, 10, 14, 15, 17, 18, 16])
      · have b3' : ¬ ((q * V0 : Nat) : Int) > ((4294967296 * r + U0 : Nat) : Int) := by omega
        have hle : ¬ K2.q < q := fun h => b3 (hiff.1 h)
        refine go (aa b1' <| aa w3 <| aa w4 <| aa w5 b3') trivial ?_
        refine ⟨rfl, ?_⟩
        rw [← stop _ _ a1 (by omega), show K2.q = q from by omega]
        exact Weak.pick [2, 8, 9, 10, 14, 15, 17, 18, 16]
  have hq0b := K2.q_lt
  obtain ⟨q0, hq0⟩ : ∃ q0, q0 = K2.q := ⟨_, rfl⟩
  have KR2 := K2.rest
  rw [← hYV, ← hq0] at KR2
  rw [← hq0] at hq0b
  obtain ⟨X2, hX2⟩ : ∃ X2, X2 = (U2 * 4294967296 + U0) % Y := ⟨_, rfl⟩
  rw [← hX2] at KR2
  rw [← hq0]
  obtain ⟨r1, r2⟩ := div_parts hY hU hlo hLU KR.1 KR2.1 KR2.2 (by omega)
  have s1 := wrap_mulB q1
  rw [low_B hq1b] at s1
  have s2 := low_BB hq1b hq0b
  have s3 := wrap_mulB U2
  have s4 := wrap_addM (U2 * 4294967296) U0
  have s5 := wrap_mulN q0 Y
  have s6 := wrap_sub KR2.1 (Nat.lt_trans KR2.2 p4)
  have s7 : shrZ .u64 (X2 : Int) (s : Int) = ((X2 / 2 ^ s : Nat) : Int) := shrN (by omega)
  rw [r1, r2]
  refine go (aa s1 <| aa s2 <| aa s3 <| aa s4 <| aa s5 <| aa s6 s7) trivial ?_
  exact ends_ret rfl rfl rfl rfl
end Go.AM

namespace Go.AM
open Go Go.Proofs
set_option maxRecDepth 100000
set_option maxHeartbeats 4000000

theorem p_Div64 {hi lo y : Nat} (hl : lo < 18446744073709551616) (hy : y < 18446744073709551616) (h1 : hi < y) :
    PureC Try.prog fi_math_bits_Div64 [dU hi, dU lo, dU y] (dUU ((hi * 18446744073709551616 + lo) / y) ((hi * 18446744073709551616 + lo) % y)) := by
  by_cases h0 : hi = 0
  · subst h0
    rw [Nat.zero_mul, Nat.zero_add]
    exact p_Div64_0 hl hy h1
  · exact p_Div64_1 hl hy (by omega) h1
def fDiv (a b : Int) : Int × Int := if b = 0 then (0, 11) else rng (sgn (a.natAbs * 4294967296 / b.natAbs) (decide (a.natAbs * 4294967296 % b.natAbs ≠ 0)) (apart a b))
theorem div_words {A B : Nat} (hB : 0 < B) : A / 4294967296 / B * 18446744073709551616 + (A / 4294967296 % B * 18446744073709551616 + A % 4294967296 * 4294967296) / B = A * 4294967296 / B ∧
    (A / 4294967296 % B * 18446744073709551616 + A % 4294967296 * 4294967296) % B = A * 4294967296 % B := by
  have e1 := Nat.div_add_mod (A / 4294967296) B
  have e2 : A * 4294967296 = (A / 4294967296) * 18446744073709551616 + A % 4294967296 * 4294967296 := by omega
  have e3 : A * 4294967296 = B * ((A / 4294967296 / B) * 18446744073709551616) + (A / 4294967296 % B * 18446744073709551616 + A % 4294967296 * 4294967296) := by
    rw [e2, ← Nat.mul_assoc, ← Nat.add_assoc, ← Nat.add_mul, e1]
  rw [e3, Nat.mul_add_div hB, Nat.mul_add_mod]
  exact ⟨rfl, rfl⟩
theorem div_word {A B : Nat} (hB : 0 < B) : (A / 4294967296 % B * 18446744073709551616 + A % 4294967296 * 4294967296) / B < 18446744073709551616 := by
  have h1 := Nat.mod_lt (A / 4294967296) hB
  rw [Nat.div_lt_iff_lt_mul hB]
  generalize A / 4294967296 % B = h at *
  omega
theorem div_plan {A B : Nat} (hB : 0 < B) (hA : A ≤ 9223372036854775808) (hB2 : B ≤ 9223372036854775808) : ∃ hi lo w0 hm w1 rs : Nat, shrZ .u64 (A : Int) 32 = (hi : Int) ∧ shlZ .u64 (A : Int) 32 = (lo : Int) ∧ IntKind.u64.wrap ((hi : Int).tdiv (B : Int)) = (w0 : Int) ∧ (hi : Int).tmod (B : Int) = (hm : Int) ∧
    PureC Try.prog fi_math_bits_Div64 [dU hm, dU lo, dU B] (dUU w1 rs) ∧ w1 < 18446744073709551616 ∧ w0 < 18446744073709551615 ∧ w0 * 18446744073709551616 + w1 = A * 4294967296 / B ∧ rs = A * 4294967296 % B := by
  have hm := Nat.mod_lt (A / 4294967296) hB
  have hq := Nat.div_le_self (A / 4294967296) B
  have hA2 : A / 4294967296 < 4294967296 := by omega
  refine ⟨_, _, A / 4294967296 / B, A / 4294967296 % B, _, _, shr32 A, shl32 A, ?_, ?_, p_Div64 (by omega) (by omega) hm, div_word hB, by omega, (div_words hB).1, (div_words hB).2⟩
  · rw [Int.tdiv_eq_ediv_of_nonneg (by omega), ← Int.natCast_ediv]
    exact u64_nat (by omega)
  · rw [Int.tmod_eq_emod_of_nonneg (by omega)]; exact (Int.natCast_emod _ _).symm
theorem p_fix_Div {a b : Int} (ha : I64 a) (hb : I64 b) : PureC Try.prog fi_fix_Div [dN a, dN b] (dNE (fDiv a b)) := by
  refine pure_fix_Div (by simp) fun G hP hn => ?_
  unfold a_fix_Div
  by_cases hb0 : b = 0
  · subst hb0
    refine go trivial trivial ?_
    exact ends_ret rfl rfl rfl rfl
  have c1 : (b == 0) = false := by simpa using hb0
  have la := abs_lt ha
  have lb := abs_lt hb
  have hB : 0 < b.natAbs := by omega
  have ka := p_fix_size ha
  have kb := p_fix_size hb
  have kp := p_fix_apart a b
  have hf : fDiv a b = rng (sgn (a.natAbs * 4294967296 / b.natAbs) (decide (a.natAbs * 4294967296 % b.natAbs ≠ 0)) (apart a b)) := if_neg hb0
  generalize apart a b = ap at *
  generalize a.natAbs = A at *
  generalize b.natAbs = B at *
  obtain ⟨hi, lo, w0, hm, w1, rs, e1, e2, e3, e4, kd, e5, e6, e7, e8⟩ := div_plan hB la lb
  rw [← e7, ← e8] at hf
  have b0 : ((B : Int) = 0) = False := by simp; omega
  have e9 : decide (rs ≠ 0) = ((rs : Int) != 0) := by rw [Bool.eq_iff_iff]; simp
  rw [e9] at hf
  have ks := p_fix_signed e5 e6 ((rs : Int) != 0) ap
  rw [← hf] at ks
  refine go (aa c1 <| aa b0 <| aa e1 <| aa e2 <| aa e3 e4) (aa ka <| aa kb <| aa kd <| aa kp ks) ?_
  exact ends_ret rfl rfl rfl rfl
end Go.AM

namespace Go.AM
open Go Go.Proofs
set_option maxRecDepth 100000
set_option maxHeartbeats 4000000

theorem p_reduce_most (a b : Int) : PureC Try.prog fi_reduce_most [dN a, dN b] (dNE (max a b, 0)) := by
  refine pure_reduce_most (by simp) fun G hP hn => ?_
  refine go trivial trivial ?_
  exact ends_ret rfl rfl rfl rfl
def shareE (n S : Int) : Int × Int := fDiv n (S * 4294967296)
theorem p_reduce_share {n : Int} {S : Nat} (hn0 : I64 n) (h1 : 1 ≤ S) (h2 : S ≤ 16) : PureC Try.prog fi_reduce_share [dN n, dN S] (dNE (shareE n S)) := by
  unfold shareE
  refine pure_reduce_share (by simp) fun G hP hn => ?_
  have w1 : IntKind.i64.wrap ((S : Int) * 4294967296) = S * 4294967296 := wrap_in (by omega) (by omega)
  have k := p_fix_Div (a := n) (b := S * 4294967296) hn0 ⟨by omega, by omega⟩
  refine go w1 k ?_
  exact ends_ret rfl rfl rfl rfl
def maxS (s d : List Int) (a : Int) : (List Int × List Int) × Int := togetherF (fun a b => (max a b, 0)) (fun n _ => (n, 0)) (fun a => a) s d a
theorem p_reduce_Max (s d : List Int) (a : Int) (hd : I64s d) : PureC Try.prog fi_reduce_Max [dT s d, dN a] (dTE (maxS s d a)) := by
  refine pure_reduce_Max (by simp) fun G hP hn => ?_
  have k := p_reduce_together (W := fun a b => (max a b, 0)) (E := fun n _ => (n, 0)) (F := fun a => a) (fun a b _ _ => p_reduce_most a b) (fun a b ha hb => by show I64 (max a b); rw [Int.max_def]; split <;> assumption) (fun a S _ _ _ => p_reduce_done a S) (fun a _ => p_reduce_same a) (fun _ h => h) s d a hd
  refine go trivial k ?_
  exact ends_ret rfl rfl rfl rfl
def meanS (s d : List Int) (a : Int) : (List Int × List Int) × Int :=
  if (sumS s d a).2 = 0 then togetherF fAdd shareE (fun _ => 0) s d a else bad (sumS s d a).2
theorem p_reduce_Mean (s d : List Int) (a : Int) (hd : I64s d) : PureC Try.prog fi_reduce_Mean [dT s d, dN a] (dTE (meanS s d a)) := by
  refine pure_reduce_Mean (by simp) fun G hP hn => ?_
  have ks := p_reduce_Sum s d a hd
  have k := p_reduce_together (W := fAdd) (E := shareE) (F := fun _ => 0) (fun a b ha hb => p_fix_Add ha hb) (fun a b _ _ => fAdd_range a b) (fun a S h h1 h2 => p_reduce_share h h1 h2) (fun a _ => p_reduce_none a) (fun _ _ => i64_0) s d a hd
  by_cases h : (sumS s d a).2 = 0
  · have hm : meanS s d a = togetherF fAdd shareE (fun _ => 0) s d a := if_pos h
    rw [hm]
    have e1 : ((sumS s d a).2 != 0) = false := by simp [h]
    clear hm h
    generalize togetherF fAdd shareE (fun _ => 0) s d a = R at *
    generalize sumS s d a = R' at *
    refine go e1 (aa ks k) ?_
    exact ends_ret rfl rfl rfl rfl
  · have hm : meanS s d a = bad (sumS s d a).2 := if_neg h
    rw [hm]
    have e1 : ((sumS s d a).2 != 0) = true := by simp [h]
    clear hm h k
    generalize sumS s d a = R' at *
    refine go e1 ks ?_
    exact ends_ret rfl rfl rfl rfl
end Go.AM

namespace Go.AM
open Go Go.Proofs
set_option maxRecDepth 100000

def putsE (f : Nat → Nat) (v : Int) : Nat → Nat → List Int → List Int
  | 0, _, l => l
  | n + 1, p, l => putsE f v n (p + 1) (l.set (f p) v)
theorem putsE_len (f : Nat → Nat) (v : Int) : ∀ (n p : Nat) (l : List Int), (putsE f v n p l).length = l.length
  | 0, _, _ => rfl
  | n + 1, p, l => by simp only [putsE]; rw [putsE_len f v n, List.length_set]
theorem putsE_no {f : Nat → Nat} {v : Int} {r : Nat} : ∀ (n p : Nat) (l : List Int), (∀ q, p ≤ q → q < p + n → f q ≠ r) → (putsE f v n p l)[r]? = l[r]?
  | 0, _, _, _ => rfl
  | n + 1, p, l, h => by
    simp only [putsE]
    rw [putsE_no n (p + 1) _ (fun q h1 h2 => h q (by omega) (by omega)), List.getElem?_set_ne (h p (Nat.le_refl _) (by omega))]
theorem putsE_yes {f : Nat → Nat} {v : Int} {r : Nat} : ∀ (n p : Nat) (l : List Int), r < l.length → l[r]? = some v ∨ (∃ q, p ≤ q ∧ q < p + n ∧ f q = r) → (putsE f v n p l)[r]? = some v
  | 0, p, l, h, h2 => by
    rcases h2 with h2 | ⟨q, h1, h2, _⟩
    · exact h2
    · omega
  | n + 1, p, l, h, h2 => by
    simp only [putsE]
    refine putsE_yes n (p + 1) _ (by simpa using h) ?_
    by_cases hp : f p = r
    · left; rw [hp, List.getElem?_set_self h]
    · rcases h2 with h2 | ⟨q, h1, h3, h4⟩
      · left; rw [List.getElem?_set_ne hp]; exact h2
      · exact .inr ⟨q, by rcases Nat.eq_or_lt_of_le h1 with rfl | h1; exact absurd h4 hp; omega, by omega, h4⟩
def growE (S B : Nat) (d : List Int) : Nat → Nat → List Int → List Int
  | 0, _, l => l
  | n + 1, p, l => growE S B d n (p + 1) (putsE (fun i => laneAt S B p i) (gt d p) S 0 l)
theorem growE_len (S B : Nat) (d : List Int) : ∀ (n p : Nat) (l : List Int), (growE S B d n p l).length = l.length
  | 0, _, _ => rfl
  | n + 1, p, l => by simp only [growE]; rw [growE_len S B d n, putsE_len]
theorem growE_get {S B q0 i0 r : Nat} {d : List Int} (hB : 0 < B) (hi : i0 < S) (hr : laneAt S B q0 i0 = r) : ∀ (n p : Nat) (l : List Int), r < l.length →
    (growE S B d n p l)[r]? = if p ≤ q0 ∧ q0 < p + n then some (gt d q0) else l[r]?
  | 0, p, l, _ => by rw [if_neg (by omega)]; rfl
  | n + 1, p, l, h => by
    simp only [growE]
    rw [growE_get hB hi hr n (p + 1) _ (by rw [putsE_len]; exact h)]
    by_cases hp : p = q0
    · subst hp
      rw [if_neg (by omega), if_pos (by omega)]
      exact putsE_yes S 0 l h (.inr ⟨i0, by omega, by omega, hr⟩)
    · have e1 : (putsE (fun i => laneAt S B p i) (gt d p) S 0 l)[r]? = l[r]? := putsE_no S 0 l fun i _ h2 he => hp (by
        rw [(laneAt_un (by omega) hB he).1, (laneAt_un hi hB hr).1])
      rw [e1]
      by_cases h1 : p + 1 ≤ q0 ∧ q0 < p + 1 + n
      · rw [if_pos h1, if_pos (by omega)]
      · rw [if_neg h1, if_neg (by omega)]
def firstE (y : Nat → Int) : Nat → Nat → Nat → Nat
  | 0, _, at_ => at_
  | n + 1, k, at_ => firstE y n (k + 1) (if y k > y at_ then k else at_)
theorem firstE_lt {y : Nat → Int} {S : Nat} : ∀ (n k at_ : Nat), k + n ≤ S → at_ < S → firstE y n k at_ < S
  | 0, _, _, _, h => h
  | n + 1, k, at_, h, h2 => by
    simp only [firstE]
    exact firstE_lt n (k + 1) _ (by omega) (by split <;> omega)
theorem foldE_max {y : Nat → Int} : ∀ (n k at_ : Nat), foldE (fun a b => (max a b, 0)) y n k (y at_) = (y (firstE y n k at_), 0)
  | 0, _, _ => rfl
  | n + 1, k, at_ => by
    simp only [foldE, firstE, if_true]
    have : max (y at_) (y k) = y (if y k > y at_ then k else at_) := by
      rw [Int.max_def]; split <;> split <;> omega
    rw [this]
    exact foldE_max n (k + 1) _
def laneL (d : List Int) (S B p : Nat) : List Int := (List.range S).map fun i => gt d (laneAt S B p i)
theorem laneL_len (d : List Int) (S B p : Nat) : (laneL d S B p).length = S := by simp [laneL]
theorem laneL_get {d : List Int} {S B p i : Nat} (h : i < S) : (laneL d S B p)[i]? = some (gt d (laneAt S B p i)) := by simp [laneL, List.getElem?_range h]
def firstL (d : List Int) (S B p : Nat) : Nat := firstE (fun i => gt d (laneAt S B p i)) S 0 0
def firstS (s d : List Int) (a : Int) : (List Int × List Int) × Int :=
  if checkT s d = true then (if a < 0 ∨ a ≥ s.length then bad 20 else
    ((s, putsE (fun p => laneAt ((s[a.toNat]?).getD 0).toNat (sizeS (s.drop (a.toNat + 1))).toNat p (firstL d ((s[a.toNat]?).getD 0).toNat (sizeS (s.drop (a.toNat + 1))).toNat p)) 4294967296
      ((sizeS (s.take a.toNat)).toNat * (sizeS (s.drop (a.toNat + 1))).toNat) 0 (List.replicate d.length 0)), 0)) else bad 30
def growS (s d : List Int) (a n : Int) : (List Int × List Int) × Int :=
  if checkT s d = true then (if a < 0 ∨ a > s.length then bad 20 else (if checkS (insL s a.toNat n) = true then
    ((insL s a.toNat n, growE n.toNat (sizeS (s.drop a.toNat)).toNat d d.length 0 (List.replicate (sizeS (insL s a.toNat n)).toNat 0)), 0) else bad 20)) else bad 30
theorem Lanes.firstS {s d : List Int} {n A S B : Nat} (L : Lanes s d n A S B) :
    firstS s d n = ((s, (List.range d.length).map fun r => if firstL d S B (r / B / S * B + r % B) = r / B % S then 4294967296 else 0), 0) := by
  have h1 : ¬ ((n : Int) < 0 ∨ (n : Int) ≥ s.length) := by have := L.hn; omega
  unfold Go.AM.firstS
  rw [if_pos L.hc, if_neg h1]
  simp only [Int.toNat_natCast, L.hA, L.hS, L.hB, Option.getD_some]
  congr 2
  have hb := L.b1
  have hs := L.s1
  apply List.ext_getElem?
  intro r
  by_cases hr : r < d.length
  · have hr2 : r < A * S * B := by rw [← L.len]; exact hr
    obtain ⟨q1, q2, q3⟩ := laneAt_in (by omega) (by omega) hr2
    rw [List.getElem?_map, List.getElem?_range hr]
    simp only [Option.map_some]
    by_cases hf : firstL d S B (r / B / S * B + r % B) = r / B % S
    · rw [if_pos hf]
      refine putsE_yes _ _ _ (by simpa using hr) (.inr ⟨_, Nat.zero_le _, by rw [Nat.zero_add]; exact q1, ?_⟩)
      rw [hf]; exact q3
    · rw [if_neg hf, putsE_no _ _ _ (fun q _ h2 he => hf ?_)]
      · rw [List.getElem?_replicate, if_pos hr]
      · have hlt : firstL d S B q < S := firstE_lt _ _ _ (by omega) (by omega)
        obtain ⟨u1, u2⟩ := laneAt_un hlt (by omega) he
        rw [← u1, ← u2]
  · rw [List.getElem?_eq_none (by rw [putsE_len]; simpa using hr), List.getElem?_eq_none (by simpa using hr)]
theorem insL_len (s : List Int) {n : Nat} (k : Int) (h : n ≤ s.length) : (insL s n k).length = s.length + 1 := by
  unfold insL; simp; omega
theorem insL_erase (s : List Int) {n : Nat} (k : Int) (h : n ≤ s.length) : (insL s n k).eraseIdx n = s := by
  unfold insL
  rw [List.eraseIdx_append_of_length_le (by rw [List.length_take]; omega), List.length_take, Nat.min_eq_left h, Nat.sub_self]
  simp
theorem insL_get (s : List Int) {n : Nat} (k : Int) (h : n ≤ s.length) : (insL s n k)[n]? = some k := by
  unfold insL
  rw [List.getElem?_append_right (by rw [List.length_take]; omega), List.length_take, Nat.min_eq_left h, Nat.sub_self]; rfl
theorem insL_take (s : List Int) {n : Nat} (k : Int) (h : n ≤ s.length) : (insL s n k).take n = s.take n := by
  unfold insL
  rw [List.take_append_of_le_length (by rw [List.length_take]; omega), List.take_of_length_le (by rw [List.length_take]; omega)]
theorem insL_drop (s : List Int) {n : Nat} (k : Int) (h : n ≤ s.length) : (insL s n k).drop (n + 1) = s.drop n := by
  unfold insL
  rw [List.drop_append, List.drop_of_length_le (by simp; omega), List.length_take, Nat.min_eq_left h, Nat.add_sub_cancel_left]; rfl
theorem grow_ok {s d : List Int} {n : Nat} {k : Int} (hc : checkT s d = true) (hn : n ≤ s.length) (hk : checkS (insL s n k) = true) :
    growS s d n k = ((insL s n k, (List.range (sizeS (insL s n k)).toNat).map fun (r : Nat) => (atF s d ((ix (insL s n k) r).eraseIdx n)).1), 0) := by
  have h1 : ¬ ((n : Int) < 0 ∨ (n : Int) > s.length) := by omega
  have hok := checkS_iff.1 hk
  have hz := sizeS_ok hok
  have hp := prd_pos hok.2.1
  -- a tensor of the new shape
  let e : List Int := List.replicate (sizeS (insL s n k)).toNat 0
  have he : checkT (insL s n k) e = true := checkT_iff.2 ⟨hok, by simp [e, hz]; omega⟩
  have hlt : n < (insL s n k).length := by rw [insL_len s k hn]; omega
  obtain ⟨A, S, B, L⟩ := Lanes.of he hlt
  have hS : k = S := by have := L.hS; rw [insL_get s k hn] at this; exact Option.some.inj this
  have hA : sizeS (s.take n) = A := by have := L.hA; rw [insL_take s k hn] at this; exact this
  have hB : sizeS (s.drop n) = B := by have := L.hB; rw [insL_drop s k hn] at this; exact this
  unfold growS
  rw [if_pos hc, if_neg h1]
  simp only [Int.toNat_natCast]
  rw [if_pos hk]
  simp only [hB, hS, Int.toNat_natCast]
  rw [← hS]
  congr 2
  have hb := L.b1
  have hs := L.s1
  have hlen : (sizeS (insL s n k)).toNat = A * S * B := by have := L.len; simpa [e] using this
  have hokS := (checkT_iff.1 hc).1
  have hdl : d.length = A * B := by
    have q1 := (checkT_iff.1 hc).2
    have q2 : prd s = prd (s.take n) * prd (s.drop n) := by rw [← prd_append, List.take_append_drop]
    rw [← sizeS_ok (hokS.take n), ← sizeS_ok (hokS.drop n), hA, hB] at q2
    have : (d.length : Int) = ((A * B : Nat) : Int) := by rw [q1, q2]; simp
    exact_mod_cast this
  apply List.ext_getElem?
  intro r
  by_cases hr : r < (sizeS (insL s n k)).toNat
  · have hr2 : r < A * S * B := by rw [← hlen]; exact hr
    obtain ⟨q1, q2, q3⟩ := laneAt_in (by omega) (by omega) hr2
    obtain ⟨p1, p2, p3⟩ := L.of_at hr2
    rw [insL_erase s k hn] at p2 p3
    rw [List.getElem?_map, List.getElem?_range hr, growE_get (by omega) q2 q3 _ _ _ (by simpa using hr), if_pos ⟨Nat.zero_le _, by rw [hdl, Nat.zero_add]; exact q1⟩]
    simp only [Option.map_some]
    rw [atF_ok hc p2, p3]; rfl
  · rw [List.getElem?_eq_none (by rw [growE_len]; simpa using hr), List.getElem?_eq_none (by simpa using hr)]
theorem fDiv_side {a : Int} {S : Nat} (ha : I64 a) (h1 : 1 ≤ S) : (fDiv a (S * 4294967296)).2 = 0 := by
  unfold fDiv
  rw [if_neg (by omega)]
  have hb : ((S : Int) * 4294967296).natAbs = S * 4294967296 := by omega
  rw [hb, Nat.mul_div_mul_right _ _ (by omega : 0 < 4294967296), Nat.mul_mod_mul_right]
  have h0 : apart a ((S : Int) * 4294967296) = decide (a < 0) := by
    unfold apart
    by_cases h : a < 0
    · have h2 : a ≠ 0 := by omega
      have h3 : ¬ ((S : Int) * 4294967296 < 0) := by omega
      have h4 : (S : Int) * 4294967296 ≠ 0 := by omega
      simp [h, h2, h3, h4]
    · have h3 : ¬ ((S : Int) * 4294967296 < 0) := by omega
      simp [h, h3]
  rw [h0]
  unfold rng
  rw [if_pos]
  obtain ⟨a1, a2⟩ := ha
  have hd := Nat.div_le_self a.natAbs S
  unfold sgn
  by_cases h : a < 0
  · simp only [h, decide_true, if_true]
    by_cases hS : S = 1
    · subst hS
      simp only [Nat.mod_one, Nat.zero_mul, ne_eq, not_true, decide_false, Bool.false_eq_true, if_false, Nat.div_one]
      constructor <;> omega
    · have h2 : a.natAbs / S ≤ a.natAbs / 2 := Nat.div_le_div_left (by omega) (by omega)
      generalize a.natAbs / S = q at *
      constructor
      · split <;> omega
      · split <;> omega
  · simp only [h, decide_false, Bool.false_eq_true, if_false]
    generalize a.natAbs / S = q at *
    constructor <;> omega
end Go.AM

namespace Go.AM
open Go Go.Proofs
set_option maxRecDepth 100000
set_option maxHeartbeats 4000000

theorem T_post {G : Ground} {F : Fence} {n : Nat} {c : ACode} {Q : Exit → AS → Prop} {s : AS} (h : T G F n c (fun e s => ∃ s', Weak G s s' ∧ Q e s') s) : T G F n c Q s :=
  ⟨fun code hc hok a w hs => wpIn_mono (h.of code hc hok a w hs) fun e a w ⟨s', ⟨s'', wk, q⟩, k⟩ => ⟨s'', q, wk a w k⟩⟩
theorem frz_ret {G : Ground} {s : AS} {i : Nat} {c : AC} {v : PV} {σ1 σ' : Sto} {ex : List AV} (hi : lk s.env i = .one c) (h : toP 6 c s.σ = some (v, σ1)) (hσ : ∀ p ∈ σ', p.2 = .none) (he : s.ex = ex) :
    ∃ s', Weak G s s' ∧ EndsM [.tmp i] (.one (.p v)) σ' ex .ret s' :=
  ⟨{ env := (i, .one (.p v)) :: s.env, σ := [], ex := s.ex }, (Weak.freeze hi h).trans (Weak.sto (s := { env := (i, .one (.p v)) :: s.env, σ := σ1, ex := s.ex }) fun t => .inr rfl),
    endsM_ret (vs := [.one (.p v)]) (by simp [evRV, lk]) rfl rfl (fun p hp => (hσ p hp).symm) he⟩
theorem frz_l {G : Ground} {s : AS} {i t len : Nat} {cap : Option Nat} {rows : List (List PV)} {l : List Int} {ex : List AV} (hi : lk s.env i = .one (.msl t 0 1 len cap)) (h : lo s.σ t = .arr true 1 rows) (hl : len = rows.length) (hr : rows = rI l) (he : s.ex = ex) :
    ∃ s', Weak G s s' ∧ EndsM [.tmp i] (.one (.p (eI l))) [(5, .none), (34, .none)] ex .ret s' := by
  subst hr
  exact frz_ret (v := eI l) hi (σ1 := (t, .arr false 1 (rI l)) :: s.σ) (by simp only [toP, h]; simp [hl, List.take_of_length_le]) (fun p hp => by simp only [List.mem_cons, List.not_mem_nil, or_false] at hp; rcases hp with rfl | rfl <;> rfl) he
section
variable {G : Ground} {ex : List AV} {m : Nat}
theorem ins_end0 (v : Int) (hP : G.P = Try.prog) (hn : G.nt = 95) (hfr25 : ex.all (fun v => !v.has 25) = true) :
    T G Fence.wide 0 a_slices_Insert_int_int (fun e s' => ∃ s'', Weak G s' s'' ∧ EndsM [.tmp 6] (.one (.p (eI [v]))) [(5, .none), (34, .none)] ex e s'')
      { env := (0, .one (.msl 5 0 1 0 (some m))) :: initV 0 [.one (.msl 5 0 1 0 none), .one (.p (.int .i64 0)), .one (.msl 34 0 1 1 none)], σ := [(5, .arr true 1 []), (34, .arr true 1 (rI [v]))], ex := ex } := by
  have e0 : ((1 : Int) == 0) = false := rfl
  have hM : MaxN = 140737488355328 := rfl
  have q0 : (0 : Int) ≤ m := by omega
  by_cases hr : 1 ≤ m
  · refine go (aa e0 <| aa q0 <| aa hr hM) trivial ?_
    exact frz_l rfl rfl rfl rfl rfl
  · refine go (aa e0 <| aa q0 <| aa hr <| aa hM <| aa hfr25 (scr_ex hfr25)) trivial ?_
    exact frz_l rfl rfl rfl rfl rfl
theorem ins_end {s : List Int} (v : Int) (hP : G.P = Try.prog) (hn : G.nt = 95) (hfr25 : ex.all (fun v => !v.has 25) = true) (hs : s.length ≤ 64) (h0 : 0 < s.length) (hm : s.length ≤ m) :
    T G Fence.wide 0 a_slices_Insert_int_int (fun e s' => ∃ s'', Weak G s' s'' ∧ EndsM [.tmp 6] (.one (.p (eI (s ++ [v])))) [(5, .none), (34, .none)] ex e s'')
      { env := (0, .one (.msl 5 0 1 s.length (some m))) :: initV 0 [.one (.msl 5 0 1 s.length none), .one (.p (.int .i64 s.length)), .one (.msl 34 0 1 1 none)], σ := [(5, .arr true 1 (rI s)), (34, .arr true 1 (rI [v]))], ex := ex } := by
  have e0 : ((1 : Int) == 0) = false := rfl
  have hM : MaxN = 140737488355328 := rfl
  have t0 : (s.length : Int).toNat = s.length := rfl
  have q0 : (s.length : Int) ≤ m := by omega
  have n0 : ¬ s.length = 0 := by omega
  have c1 : ((s.length : Int) == (s.length : Int)) = true := by simp
  have b1 : (s.length + 1) * 8 ≤ 2 ^ 40 := by omega
  have b2 : s.length + 1 ≤ 2 ^ 40 := by omega
  have b3 : s.length + 1 ≤ MaxN := by omega
  by_cases hr : s.length + 1 ≤ m
  · refine go (aa e0 <| aa q0 <| aa t0 <| aa c1 <| aa hr <| aa n0 <| aa b1 <| aa b2 b3) trivial ?_
    have d1 : List.take s.length (rI s) ++ [[PV.int IntKind.i64 v]] ++ List.drop (s.length + 1) (rI s) = rI (s ++ [v]) := by rw [List.drop_of_length_le (by simp), List.take_of_length_le (by simp)]; simp
    rw [d1]
    exact frz_l rfl rfl (by simp) rfl rfl
  · refine go (aa e0 <| aa q0 <| aa t0 <| aa c1 <| aa hr <| aa n0 <| aa b1 <| aa b2 <| aa b3 <| aa hfr25 (scr_ex hfr25)) trivial ?_
    have d1 : List.take s.length (rI s) ++ [[PV.int IntKind.i64 v]] = rI (s ++ [v]) := by rw [List.take_of_length_le (by simp)]; simp
    rw [d1]
    exact frz_l rfl rfl (by simp) rfl rfl
theorem ins_mid {s : List Int} {n : Nat} (v : Int) (hP : G.P = Try.prog) (hn : G.nt = 95) (hfr40 : ex.all (fun v => !v.has 40) = true) (hs : s.length ≤ 64) (h0 : n < s.length) (hm : s.length ≤ m) :
    T G Fence.wide 0 a_slices_Insert_int_int (fun e s' => ∃ s'', Weak G s' s'' ∧ EndsM [.tmp 6] (.one (.p (eI (insL s n v)))) [(5, .none), (34, .none)] ex e s'')
      { env := (0, .one (.msl 5 0 1 s.length (some m))) :: initV 0 [.one (.msl 5 0 1 s.length none), .one (.p (.int .i64 n)), .one (.msl 34 0 1 1 none)], σ := [(5, .arr true 1 (rI s)), (34, .arr true 1 (rI [v]))], ex := ex } := by
  have e0 : ((1 : Int) == 0) = false := rfl
  have hM : MaxN = 140737488355328 := rfl
  have t0 : (s.length : Int).toNat = s.length := rfl
  have q0 : (s.length : Int) ≤ m := by omega
  have q1 : (n : Int) ≤ s.length := by omega
  have c1 : ((n : Int) == (s.length : Int)) = false := by simp; omega
  have w1 : IntKind.i64.wrap ((s.length : Int) + 1) = ((s.length + 1 : Nat) : Int) := by rw [wrap_in (by omega) (by omega)]; rfl
  have w2 : IntKind.i64.wrap (((s.length + 1 : Nat) : Int) - n) = ((s.length + 1 - n : Nat) : Int) := by rw [wrap_in (by omega) (by omega)]; omega
  have w3 : IntKind.i64.wrap ((n : Int) + 1) = ((n + 1 : Nat) : Int) := by rw [wrap_in (by omega) (by omega)]; rfl
  have y5 : (if n = 0 then AC.msl 5 0 1 (s.length + 1) (some m) else AC.msl 5 n 1 (s.length + 1 - n) (some (m - n))) = .msl 5 n 1 (s.length + 1 - n) (some (m - n)) := by
    split
    · rename_i hz; subst hz; rfl
    · rfl
  have y6 : (if n = 0 then AC.msl 5 0 1 s.length (some m) else AC.msl 5 n 1 (s.length - n) (some (m - n))) = .msl 5 n 1 (s.length - n) (some (m - n)) := by
    split
    · rename_i hz; subst hz; rfl
    · rfl
  have y40 : (if n = 0 then AC.msl 40 0 1 (n + (s.length + 1 - n)) none else AC.msl 40 n 1 (n + (s.length + 1 - n) - n) none) = .msl 40 n 1 (s.length + 1 - n) none := by
    split
    · rename_i hz; subst hz; simp
    · rw [Nat.add_sub_cancel_left]
  have q7 : n < s.length + 1 := by omega
  by_cases hr : s.length + 1 ≤ m
  · have c2 : ¬ ((s.length + 1 : Nat) : Int) > (m : Int) := by omega
    have q3 : ((s.length + 1 : Nat) : Int) ≤ (m : Int) := by omega
    have q4 : ((n + 1 : Nat) : Int) ≤ ((s.length + 1 : Nat) : Int) := by omega
    have q5 : n + 1 < s.length + 1 := by omega
    refine go (aa e0 <| aa q0 <| aa q1 <| aa t0 <| aa c1 <| aa c2 <| aa hr <| aa w1 <| aa w2 <| aa w3 <| aa h0 <| aa q3 <| aa q4 q5) trivial ?_
    have d0 : ¬ n + (s.length + 1 - n) ≤ s.length := by omega
    have d1 : s.length + 1 - (n + 1) ≤ s.length + 1 - n := by omega
    have d2 : n + (s.length + 1 - (n + 1)) ≤ s.length := by omega
    have d3 : n + 1 ≤ s.length := by omega
    have d4 : n + 1 + (s.length + 1 - (n + 1)) ≤ MaxN := by omega
    have d5 : ¬ n + 1 + (s.length + 1 - (n + 1)) ≤ s.length := by omega
    have q6 : (n : Int) ≤ ((s.length + 1 : Nat) : Int) := by omega
    have r1 : s.length - n ≤ s.length + 1 - n := by omega
    have r2 : n + (s.length - n) ≤ s.length := by omega
    have r3 : n + 1 + (s.length - n) ≤ MaxN := by omega
    apply T_dr fw (by rw [hP]; rfl)
    · simp only [go_sem, seval, reduceIte, ↓reduceIte, bne, beq_false, beq_true, Bool.not_eq_true, Bool.if_true_right, decide_not, reduceCtorEq, hP, e0, q0, q1, t0, c1, c2, hr, w1, w2, w3, y5, y6, q3, q4, q5, q6, q7, r1, r2, r3, d0, d1, d2, d3, d4, d5, Int.le_refl, Nat.le_refl]
      exact rfl
    refine go trivial trivial ?_
    have eR : List.take (n + 1) (rI s) ++ List.take (s.length - n) (List.drop n (rI s)) ++ List.drop (n + 1 + (List.take (s.length - n) (List.drop n (rI s))).length) (rI s) = rI (s.take (n + 1) ++ s.drop n) := by
      have h1 : List.take (s.length - n) (List.drop n (rI s)) = List.drop n (rI s) := List.take_of_length_le (by rw [List.length_drop, List.length_map]; exact Nat.le_refl _)
      have h2 : List.drop (n + 1 + (List.drop n (rI s)).length) (rI s) = [] := List.drop_of_length_le (by rw [List.length_drop, List.length_map]; omega)
      rw [h1, h2, List.append_nil, rI_take, rI_drop, ← List.map_append]
    rw [eR]
    have hRl : (rI (s.take (n + 1) ++ s.drop n)).length = s.length + 1 := by rw [List.length_map, List.length_append, List.length_take, List.length_drop]; omega
    have hRt : List.take n (rI (s.take (n + 1) ++ s.drop n)) = rI (s.take n) := by rw [rI_take, List.take_append_of_le_length (by rw [List.length_take]; omega), List.take_take, Nat.min_eq_left (by omega)]
    have hRd : List.drop (n + 1) (rI (s.take (n + 1) ++ s.drop n)) = rI (s.drop n) := by
      rw [rI_drop, List.drop_append, List.drop_of_length_le (by rw [List.length_take]; omega), List.length_take, Nat.min_eq_left (by omega), Nat.sub_self, List.nil_append, List.drop_zero]
    generalize rI (s.take (n + 1) ++ s.drop n) = R at *
    have r4 : n + (s.length + 1 - n) ≤ s.length + 1 := by omega
    have t7 : List.take (s.length + 1 - n) [[PV.int IntKind.i64 v]] = [[PV.int IntKind.i64 v]] := List.take_of_length_le (by simp; omega)
    refine go (aa q0 <| aa q1 <| aa t0 <| aa q3 <| aa q6 <| aa q7 <| aa y5 <| aa r4 <| aa t7 <| aa hRl <| aa hRt hRd) trivial ?_
    have eI' : rI (s.take n) ++ [[PV.int IntKind.i64 v]] ++ rI (s.drop n) = rI (insL s n v) := by simp [insL]
    rw [eI']
    exact frz_l rfl rfl (by rw [List.length_map, insL_len s v (by omega)]) rfl rfl
  · have c2 : ((s.length + 1 : Nat) : Int) > (m : Int) := by omega
    have q3 : ¬ ((s.length + 1 : Nat) : Int) ≤ (m : Int) := by omega
    have b1 : (n + (s.length + 1 - n)) * 1073741832 ≤ 2 ^ 40 := by omega
    have b2 : n + (s.length + 1 - n) ≤ 2 ^ 40 := by omega
    have c3 : ((s.length + 1 - n : Nat) : Int) ≤ 1000000 := by omega
    have c4 : ¬ n + (s.length + 1 - n) ≤ m := by omega
    have c5 : (n : Int) ≤ m := by omega
    have t1 := rI_take s n
    have h1 : n ≤ s.length := by omega
    refine go (aa e0 <| aa q0 <| aa q1 <| aa t0 <| aa c1 <| aa c2 <| aa c3 <| aa c4 <| aa c5 <| aa w1 <| aa w2 <| aa w3 <| aa b1 <| aa b2 <| aa h0 <| aa h1 <| aa hfr40 (scr_ex hfr40)) trivial ?_
    have e41 : n + (s.length + 1 - n) = s.length + 1 := by omega
    rw [e41]
    have hR : (List.take n (rI s) ++ List.replicate (s.length + 1 - n) [PV.int IntKind.i64 0]).length = s.length + 1 := by rw [List.length_append, List.length_take, List.length_map, List.length_replicate]; omega
    have hR2 : (List.take n (rI s) ++ List.replicate (s.length + 1 - n) [PV.int IntKind.i64 0]).take n = rI (s.take n) := by rw [List.take_append_of_le_length (by rw [List.length_take, List.length_map]; omega), List.take_take, Nat.min_self, rI_take]
    generalize (List.take n (rI s) ++ List.replicate (s.length + 1 - n) [PV.int IntKind.i64 0]) = R at *
    have c6 : (n : Int) ≤ ((s.length + 1 : Nat) : Int) := by omega
    have r4 : n + (s.length + 1 - n) ≤ s.length + 1 := by omega
    have t7 : List.take (s.length + 1 - n) [[PV.int IntKind.i64 v]] = [[PV.int IntKind.i64 v]] := List.take_of_length_le (by simp; omega)
    have y40 : (if n = 0 then AC.msl 40 0 1 (s.length + 1) none else AC.msl 40 n 1 (s.length + 1 - n) none) = .msl 40 n 1 (s.length + 1 - n) none := by
      split
      · rename_i hz; subst hz; rfl
      · rfl
    refine go (aa c6 <| aa q7 <| aa y40 <| aa r4 <| aa hR <| aa hR2 t7) trivial ?_
    have hL : (rI (List.take n s) ++ [[PV.int IntKind.i64 v]] ++ List.drop (n + 1) R).length = s.length + 1 := by
      rw [List.length_append, List.length_append, List.length_map, List.length_take, List.length_drop, hR]; simp; omega
    have hT : List.take (n + 1) (rI (List.take n s) ++ [[PV.int IntKind.i64 v]] ++ List.drop (n + 1) R) = rI (s.take n ++ [v]) := by
      rw [List.take_append_of_le_length (by rw [List.length_append, List.length_map, List.length_take]; simp; omega), List.take_of_length_le (by rw [List.length_append, List.length_map, List.length_take]; simp; omega)]
      simp
    have hD : List.drop (s.length + 1) (rI (List.take n s) ++ [[PV.int IntKind.i64 v]] ++ List.drop (n + 1) R) = [] := List.drop_of_length_le (by rw [hL]; exact Nat.le_refl _)
    generalize rI (List.take n s) ++ [[PV.int IntKind.i64 v]] ++ List.drop (n + 1) R = R2 at *
    have q4 : ((n + 1 : Nat) : Int) ≤ ((s.length + 1 : Nat) : Int) := by omega
    have q5 : n + 1 < s.length + 1 := by omega
    have d1 : n + (s.length - n) ≤ s.length := by omega
    have d2 : n + 1 + (s.length - n) ≤ s.length + 1 := by omega
    have d3 : n + 1 + (s.length - n) = s.length + 1 := by omega
    have t8 : List.take (s.length - n) (List.drop n (rI s)) = rI (s.drop n) := by rw [rI_drop]; exact List.take_of_length_le (by rw [List.length_map, List.length_drop]; exact Nat.le_refl _)
    have t9 : List.take (s.length - n) (rI (s.drop n)) = rI (s.drop n) := List.take_of_length_le (by rw [List.length_map, List.length_drop]; exact Nat.le_refl _)
    apply T_dr fw (by rw [hP]; rfl)
    · simp only [go_sem, seval, reduceIte, ↓reduceIte, bne, beq_false, beq_true, Bool.not_eq_true, Bool.if_true_right, decide_not, reduceCtorEq, hP, e0, q0, q1, t0, w3, y6, q4, q5, q7, d1, d2, d3, hL, hT, hD, h0, t8, t9, List.length_drop, Int.le_refl, Nat.le_refl]
      exact rfl
    refine go trivial trivial ?_
    have eI' : rI (s.take n ++ [v]) ++ rI (s.drop n) = rI (insL s n v) := by simp [insL]
    rw [eI']
    exact frz_l rfl rfl (by rw [List.length_map, insL_len s v (by omega)]) rfl rfl
end
theorem m_slices_Insert' {s : List Int} {n : Nat} (v : Int) (h : n ≤ s.length) (hs : s.length ≤ 64) : MutC Try.prog fi_slices_Insert_int_int [.one (.msl 5 0 1 s.length none), .one (.p (.int .i64 n)), .one (.msl 34 0 1 1 none)]
    [(5, .arr true 1 (rI s)), (34, .arr true 1 (rI [v]))] (.one (.p (eI (insL s n v)))) [(5, .none), (34, .none)] [25, 40] := by
  refine mut_slices_Insert_int_int (by simp) fun G ex hP hn hfr => ?_
  have hfr25 := hfr 25 (by simp)
  have hfr40 := hfr 40 (by simp)
  refine T_post ?_
  refine T_cap 0 rfl fun m hm => ?_
  by_cases hn1 : n < s.length
  · exact ins_mid v hP hn hfr40 hs hn1 hm
  obtain rfl : n = s.length := by omega
  have hi : insL s s.length v = s ++ [v] := by simp [insL]
  rw [hi]
  by_cases h0 : s.length = 0
  · obtain rfl : s = [] := List.length_eq_zero_iff.1 h0
    exact ins_end0 v hP hn hfr25
  · exact ins_end v hP hn hfr25 hs (by omega) hm
theorem m_slices_Insert {s : List Int} {n : Nat} (v : Int) (h : n ≤ s.length) (hs : s.length ≤ 64) : MutC Try.prog fi_slices_Insert_int_int [.one (.msl 5 0 1 s.length none), .one (.p (.int .i64 n)), .one (.msl 34 0 1 1 none)]
    [(5, .arr true 1 (rI s)), (34, .arr true 1 (rI [v]))] (.one (.p (eI (insL s n v)))) [(5, .none), (34, .none)] [] :=
  ((m_slices_Insert' v h hs).hide 25 rfl rfl rfl rfl (by simp)).hide 40 rfl rfl rfl rfl (by simp)
end Go.AM

namespace Go.AM
open Go
theorem owOf_ren {ρ : Nat → Nat} (hρ : ∀ t, ρ (ρ t) = t) (σ : Sto) (τ : Tau) : owOf (renS ρ σ) τ = owOf σ (fun t => τ (ρ t)) := by
  funext k
  apply propext
  constructor
  · rintro ⟨t, hm, ht⟩
    rw [lo_renS hρ, AO.ren_mu] at hm
    exact ⟨ρ t, hm, by show τ (ρ (ρ t)) = some k; rw [hρ]; exact ht⟩
  · rintro ⟨t, hm, ht⟩
    exact ⟨ρ t, by rw [lo_renS hρ, AO.ren_mu, hρ]; exact hm, ht⟩
theorem SepS.ren {ρ : Nat → Nat} (hρ : ∀ t, ρ (ρ t) = t) {σ : Sto} {τ : Tau} (h : SepS σ τ) : SepS (renS ρ σ) (fun t => τ (ρ t)) := fun t t' b h1 h2 hne hm hb => by
  rw [lo_renS hρ] at h1 h2 hm
  rw [AO.ren_mu] at hm
  exact h (ρ t) (ρ t') b (fun e => h1 (AO.ren_none.2 e)) (fun e => h2 (AO.ren_none.2 e)) (fun e => hne (by rw [← hρ t, e, hρ])) hm hb
theorem MutC.ren {P : Program} {f : FuncId} {vs : List AV} {σ σ' : Sto} {r : AV} {fr : List Nat} {ρ : Nat → Nat} (hρ : ∀ t, ρ (ρ t) = t) (h : MutC P f vs σ r σ' fr) :
    MutC P f (vs.map (AV.ren ρ)) (renS ρ σ) (r.ren ρ) (renS ρ σ') (fr.map ρ) := by
  refine ⟨h.enters, fun A τ w xs ex exs hA hxs hex hfr hob hsp => ?_⟩
  have hob2 : ∀ t, ORel (fun _ => True) A (fun t => τ (ρ t)) w t (lo σ t) := fun t => by
    have := (hob (ρ t)).ren (ρ := ρ) (τ := τ) hρ (t := t)
    rw [lo_renS hρ, hρ, AO.ren_ren hρ] at this
    exact this
  have hsp2 : SepS σ (fun t => τ (ρ t)) := by
    have := SepS.ren hρ hsp
    rw [renS_renS hρ] at this
    exact this
  have key := h.calls A (fun t => τ (ρ t)) w xs (ex.map (AV.ren ρ)) exs hA (all2_unmap hxs fun _ _ h => h.unren hρ)
    (all2_map hex fun _ _ h => h.ren (fun t => by show τ (ρ (ρ t)) = τ t; rw [hρ]))
    (fun d hd v hv => by
      obtain ⟨v0, hv0, rfl⟩ := List.mem_map.1 hv
      rw [AV.ren_has hρ]
      exact hfr (ρ d) (List.mem_map.2 ⟨d, hd, rfl⟩) v0 hv0) hob2 hsp2
  rw [owOf_ren hρ]
  refine key.mono ?_
  rintro e w' ⟨x, A', τ', he, hfm, ho, hs, hr, hx⟩
  refine ⟨x, A', fun t => τ' (ρ t), he, hfm, fun t => ?_, SepS.ren hρ hs, hr.ren (fun t => by show τ' (ρ (ρ t)) = τ' t; rw [hρ]), all2_unmap hx fun _ _ h => h.unren hρ⟩
  rw [lo_renS hρ]
  exact (ho (ρ t)).ren hρ
end Go.AM

namespace Go.AM
open Go Go.Proofs
set_option maxRecDepth 100000
set_option maxHeartbeats 4000000

theorem p_reduce_First (s d : List Int) (a : Int) (hd : I64s d) : PureC Try.prog fi_reduce_First [dT s d, dN a] (dTE (firstS s d a)) := by
  refine pure_reduce_First (by simp) fun G hP hn => ?_
  have kl := p_reduce_lanes s d a
  cases hc : checkT s d
  · have hl : lanesF s d a = ((0, 0, 0), 30) := by unfold lanesF; rw [if_neg (by simp [hc])]
    have hf : firstS s d a = bad 30 := by unfold firstS; rw [if_neg (by simp [hc])]
    rw [hl] at kl
    refine go trivial kl ?_
    exact ends_ret rfl rfl rfl (by rw [hf]; rfl)
  by_cases ha : a < 0 ∨ a ≥ s.length
  · have hl : lanesF s d a = ((0, 0, 0), 20) := by unfold lanesF; rw [if_pos hc, if_pos ha]
    have hf : firstS s d a = bad 20 := by unfold firstS; rw [if_pos hc, if_pos ha]
    rw [hl] at kl
    refine go trivial kl ?_
    exact ends_ret rfl rfl rfl (by rw [hf]; rfl)
  obtain ⟨n, rfl⟩ := Int.eq_ofNat_of_zero_le (by omega : 0 ≤ a)
  have hlt : n < s.length := by omega
  obtain ⟨A, S, B, L⟩ := Lanes.of hc hlt
  have hl : lanesF s d n = (((A : Int), (S : Int), (B : Int)), 0) := by
    unfold lanesF; rw [if_pos hc, if_neg ha]; simp only [Int.toNat_natCast, L.hA, L.hB, L.hS, Option.getD_some]
  rw [hl] at kl
  have hf : firstS s d n = ((s, putsE (fun p => laneAt S B p (firstL d S B p)) 4294967296 (A * B) 0 (List.replicate d.length 0)), 0) := by
    unfold firstS; rw [if_pos hc, if_neg ha]; simp only [Int.toNat_natCast, L.hA, L.hB, L.hS, Option.getD_some]
  have hok := (checkT_iff.1 hc).1
  have hs := check_len (checkS_iff.2 hok)
  have hz : (sizeS s).toNat = d.length := by have := sizeS_ok hok; have := (checkT_iff.1 hc).2; omega
  have kF := m_tensor_Full (s := s) 0 (checkS_iff.2 hok)
  rw [hz] at kF
  have hAB := L.AB
  have hs16 := L.s2
  have hb64 := L.B64
  have hb1 := L.b1
  have hs1 := L.s1
  have hlen : (List.replicate d.length (0 : Int)).length = d.length := by simp
  have w2 : IntKind.i64.wrap ((A : Int) * (B : Int)) = ((A * B : Nat) : Int) := by rw [← Int.natCast_mul]; exact wrap_in (by omega) (by omega)
  rw [hf]
  generalize hN : d.length = N at kF hlen
  generalize hR : List.replicate N (0 : Int) = R at kF hlen
  refine go w2 (aa kl kF) ?_
  refine T_for (A * B) (fun p acc => { env := [(2, .one (.ptr 2 0 2 0)), (4, .one (.ptr 4 0 2 0)), (6, .one (.ptr 6 0 3 0)), (8, .one (.ptr 8 0 2 0)), (33, .one (.p (.int .i64 ((A * B : Nat) : Int)))), (34, .one (.p (.int .i64 p)))], σ := [(2, .cells true [.p (eI s), .p (eI d)]), (4, .cells true [.nils, .nils]), (6, .cells true [.p (.int .i64 A), .p (.int .i64 S), .p (.int .i64 B)]), (8, .cells true [.msl 5 0 1 s.length none, .msl 30 0 1 N (some N)]), (5, .arr true 1 (rI s)), (30, .arr true 1 (rI acc))] })
    (fun p acc => acc.length = N ∧ putsE (fun p => laneAt S B p (firstL d S B p)) 4294967296 (A * B - p) p acc = putsE (fun p => laneAt S B p (firstL d S B p)) 4294967296 (A * B) 0 R) R ⟨hlen, rfl⟩ ?_ fun p acc hp hinv => ?_
  · refine Weak.sub fun q hq => ?_
    simp only [List.mem_cons, List.not_mem_nil, or_false] at hq
    rcases hq with rfl | rfl | rfl | rfl | rfl | rfl <;> rfl
  obtain ⟨hal, hput⟩ := hinv
  by_cases hlt2 : p < A * B
  rotate_left
  · have c1 : ¬ (p : Int) < ((A * B : Nat) : Int) := by omega
    have hpe : p = A * B := by omega
    rw [hpe, Nat.sub_self] at hput
    simp only [putsE] at hput
    refine go c1 trivial ?_
    rw [← hput]
    exact ends_twoM (t1 := 5) (t2 := 30) (by decide) rfl rfl rfl (by simp) (by simp [hal]) (.inr ⟨_, rfl, rfl⟩) rfl
  have c1 : (p : Int) < ((A * B : Nat) : Int) := by omega
  have w3 : IntKind.i64.wrap ((p : Int) + 1) = ((p + 1 : Nat) : Int) := by rw [wrap_in (by omega) (by omega)]; rfl
  rw [show A * B - p = (A * B - (p + 1)) + 1 from by omega] at hput
  simp only [putsE] at hput
  have kat := fun (i : Nat) (hi : i < S) => p_reduce_lane_at A S B p i hs16 hb64 hb1 (by omega) (by omega)
  have hli := fun (i : Nat) (hi : i < S) => L.lt hlt2 (i := i) hi
  have hxi := fun (i : Nat) (hi : i < S) => gt_at (hli i hi)
  have hfl : firstE (fun i => gt d (laneAt S B p i)) S 0 0 = firstL d S B p := rfl
  generalize firstL d S B p = fst at *
  generalize (fun i => laneAt S B p i) = la at *
  refine go c1 trivial ?_
  refine T_for S (fun i (at_ : Nat) => { env := [(2, .one (.ptr 2 0 2 0)), (4, .one (.ptr 4 0 2 0)), (6, .one (.ptr 6 0 3 0)), (8, .one (.ptr 8 0 2 0)), (10, .one (.p (.int .i64 p))), (11, .one (.p (.int .i64 at_))), (33, .one (.p (.int .i64 ((A * B : Nat) : Int)))), (34, .one (.p (.int .i64 p))), (38, .one (.p (.int .i64 S))), (39, .one (.p (.int .i64 i)))], σ := [(2, .cells true [.p (eI s), .p (eI d)]), (4, .cells true [.nils, .nils]), (6, .cells true [.p (.int .i64 A), .p (.int .i64 S), .p (.int .i64 B)]), (8, .cells true [.msl 5 0 1 s.length none, .msl 30 0 1 N (some N)]), (5, .arr true 1 (rI s)), (30, .arr true 1 (rI acc))] })
    (fun i at_ => at_ < S ∧ firstE (fun i => gt d (laneAt S B p i)) (S - i) i at_ = fst) 0 ⟨by omega, hfl⟩ (.refl _ _) fun i at_ hi hv => ?_
  obtain ⟨hat, hfold⟩ := hv
  have ka := kat at_ hat
  have xa := hxi at_ hat
  have la_ := hli at_ hat
  by_cases hiS : i < S
  · have c2 : (i : Int) < (S : Int) := by omega
    have w4 : IntKind.i64.wrap ((i : Int) + 1) = ((i + 1 : Nat) : Int) := by rw [wrap_in (by omega) (by omega)]; rfl
    have ki := kat i hiS
    have xi := hxi i hiS
    have li_ := hli i hiS
    rw [show S - i = (S - (i + 1)) + 1 from by omega] at hfold
    simp only [firstE] at hfold
    by_cases hg : gt d (laneAt S B p i) > gt d (laneAt S B p at_)
    · rw [if_pos hg] at hfold
      generalize laneAt S B p i = q1 at *
      generalize laneAt S B p at_ = q2 at *
      generalize gt d q1 = y1 at *
      generalize gt d q2 = y2 at *
      refine go (aa c2 <| aa w4 <| aa @xa <| aa @la_ <| aa @xi <| aa @li_ hg) (aa ki ka) ?_
      exact rnd_next hiS i ⟨hiS, hfold⟩ (.refl _ _)
    · rw [if_neg hg] at hfold
      generalize laneAt S B p i = q1 at *
      generalize laneAt S B p at_ = q2 at *
      generalize gt d q1 = y1 at *
      generalize gt d q2 = y2 at *
      refine go (aa c2 <| aa w4 <| aa @xa <| aa @la_ <| aa @xi <| aa @li_ hg) (aa ki ka) ?_
      exact rnd_next hiS at_ ⟨hat, hfold⟩ (.refl _ _)
  · have c2 : ¬ (i : Int) < (S : Int) := by omega
    have hie : i = S := by omega
    rw [hie, Nat.sub_self] at hfold
    simp only [firstE] at hfold
    subst hfold
    have q1 : laneAt S B p at_ < N := by omega
    have q2 : ((laneAt S B p at_ : Nat) : Int) < (N : Int) := by omega
    generalize laneAt S B p at_ = q at *
    have hxa : acc[q]? = some (gt acc q) := gt_at (by omega)
    refine go (aa c2 <| aa w3 <| aa q1 <| aa q2 <| aa hal <| aa hxa @rI_set) ka ?_
    refine rnd_next hlt2 (acc.set q 4294967296) (And.intro (by simp [hal]) hput) ?_
    refine Weak.sub fun z hz => ?_
    simp only [List.mem_cons, List.not_mem_nil, or_false] at hz
    rcases hz with rfl | rfl | rfl | rfl | rfl | rfl <;> rfl
end Go.AM

namespace Go.AM
open Go Go.Proofs
set_option maxRecDepth 100000
set_option maxHeartbeats 4000000

theorem m_tensor_FullB {s : List Int} (n : Int) (h : checkS s = true) : MutC Try.prog fi_tensor_Full [.one (.p (eI s)), .one (.p (.int .i64 n))] []
    (.tup [.agg [.msl 55 0 1 s.length none, .msl 30 0 1 (sizeS s).toNat (some (sizeS s).toNat)], .one (.p (.int .i64 0))])
    [(55, .arr true 1 (rI s)), (30, .arr true 1 (rI (List.replicate (sizeS s).toNat n)))] [55, 30] :=
  (m_tensor_Full n h).ren (swp_swp 5 55)
theorem p_reduce_Grow (s d : List Int) (a k : Int) (hd : I64s d) : PureC Try.prog fi_reduce_Grow [dT s d, dN a, dN k] (dTE (growS s d a k)) := by
  refine pure_reduce_Grow (by simp) fun G hP hn => ?_
  have kc := p_tensor_Check s d
  cases hc : checkT s d
  · have hf : growS s d a k = bad 30 := by unfold growS; rw [if_neg (by simp [hc])]
    rw [hc] at kc
    refine go trivial kc ?_
    exact ends_ret rfl rfl rfl (by rw [hf]; rfl)
  rw [hc] at kc
  by_cases h1 : a < 0
  · have hf : growS s d a k = bad 20 := by unfold growS; rw [if_pos hc, if_pos (.inl h1)]
    refine go h1 kc ?_
    exact ends_ret rfl rfl rfl (by rw [hf]; rfl)
  by_cases h2 : a > s.length
  · have hf : growS s d a k = bad 20 := by unfold growS; rw [if_pos hc, if_pos (.inr h2)]
    refine go (aa h1 h2) kc ?_
    exact ends_ret rfl rfl rfl (by rw [hf]; rfl)
  obtain ⟨n, rfl⟩ := Int.eq_ofNat_of_zero_le (by omega : 0 ≤ a)
  have hle : n ≤ s.length := by omega
  have hok := (checkT_iff.1 hc).1
  have hs := check_len (checkS_iff.2 hok)
  have kC := m_slices_Clone s (by omega)
  have kI := m_slices_Insert (s := s) (n := n) k hle (by omega)
  have h3 : ¬ ((n : Int) < 0 ∨ (n : Int) > s.length) := by omega
  have hl := insL_len s k hle
  cases hk : checkS (insL s n k)
  · have hf : growS s d n k = bad 20 := by unfold growS; rw [if_pos hc, if_neg h3, Int.toNat_natCast, if_neg (by simp [hk])]
    have kF : PureC Try.prog fi_tensor_Full [dI (insL s n k), dN 0] (dTE (bad 20)) := by have := p_tensor_Full (insL s n k) 0; unfold fullF at this; rw [if_neg (by simp [hk])] at this; exact this
    generalize insL s n k = s' at *
    refine go (aa h1 h2) (aa kc <| aa kC <| aa kI kF) ?_
    exact ends_ret rfl rfl rfl (by rw [hf]; rfl)
  have kF := m_tensor_FullB (s := insL s n k) 0 hk
  have hok' := checkS_iff.1 hk
  have he : checkT (insL s n k) (List.replicate (sizeS (insL s n k)).toNat 0) = true := checkT_iff.2 ⟨hok', by have := sizeS_ok hok'; have := prd_pos hok'.2.1; simp; omega⟩
  obtain ⟨A, S, B, L⟩ := Lanes.of (n := n) he (by omega)
  obtain rfl : k = S := by have := L.hS; rw [insL_get s k hle] at this; exact Option.some.inj this
  have hA : sizeS (s.take n) = A := by have := L.hA; rw [insL_take s _ hle] at this; exact this
  have hB : sizeS (s.drop n) = B := by have := L.hB; rw [insL_drop s _ hle] at this; exact this
  have hf : growS s d n (S : Int) = ((insL s n S, growE S B d d.length 0 (List.replicate (sizeS (insL s n S)).toNat 0)), 0) := by
    unfold growS; rw [if_pos hc, if_neg h3, Int.toNat_natCast, if_pos hk]; simp only [hB, Int.toNat_natCast]
  have hdl : d.length = A * B := by
    have q1 := (checkT_iff.1 hc).2
    have q2 : prd s = prd (s.take n) * prd (s.drop n) := by rw [← prd_append, List.take_append_drop]
    rw [← sizeS_ok (hok.take n), ← sizeS_ok (hok.drop n), hA, hB] at q2
    have : (d.length : Int) = ((A * B : Nat) : Int) := by rw [q1, q2]; simp
    exact_mod_cast this
  have hN : (sizeS (insL s n S)).toNat = A * S * B := by have := L.len; simpa using this
  have hli := fun (p i : Nat) (hp : p < A * B) (hi : i < S) => L.lt hp (i := i) hi
  have hAB := L.AB
  have hs16 := L.s2
  have hb64 := L.B64
  have hb1 := L.b1
  have hs1 := L.s1
  have ks1 := p_shape_Size (s.take n)
  have ks2 := p_shape_Size (s.drop n)
  rw [hA] at ks1
  rw [hB] at ks2
  rw [hf]
  have hRl : (List.replicate (sizeS (insL s n S)).toNat (0 : Int)).length = (sizeS (insL s n S)).toNat := by simp
  simp only [List.length_replicate] at hli
  generalize List.replicate (sizeS (insL s n S)).toNat (0 : Int) = R at *
  generalize (sizeS (insL s n S)).toNat = N at *
  generalize insL s n S = s' at *
  have c1 : (n : Int) ≤ s.length := by omega
  have t0 : (s.length : Int).toNat = s.length := rfl
  have t1 := rI_take s n
  have t2 := rI_drop s n
  have t5 : List.take (s.length - n) (rI (List.drop n s)) = rI (List.drop n s) := List.take_of_length_le (by simp)
  refine go (aa h1 <| aa h2 <| aa c1 <| aa hle <| aa t0 <| aa t1 <| aa t2 <| aa t5 @all1) (aa kc <| aa kC <| aa kI <| aa kF <| aa ks1 ks2) ?_
  have hsl : s'.length = s.length + 1 := hl
  refine T_for d.length (fun p acc => { env := [(2, .one (.p (.int .i64 S))), (6, .one (.ptr 6 0 2 0)), (8, .one (.ptr 8 0 2 0)), (10, .one (.ptr 10 0 3 0)), (56, .one (.p (eI d))), (57, .one (.p (.int .i64 d.length))), (58, .one (.p (.int .i64 p)))], σ := [(3, .cells true [.p (eI s), .p (eI d)]), (6, .cells true [.nils, .nils]), (8, .cells true [.msl 55 0 1 s'.length none, .msl 30 0 1 N (some N)]), (10, .cells true [.p (.int .i64 A), .p (.int .i64 S), .p (.int .i64 B)]), (55, .arr true 1 (rI s')), (30, .arr true 1 (rI acc))] })
    (fun p acc => acc.length = N ∧ growE S B d (d.length - p) p acc = growE S B d d.length 0 R) R ⟨hRl, rfl⟩ ?_ fun p acc hp hinv => ?_
  · refine Weak.sub fun q hq => ?_
    simp only [List.mem_cons, List.not_mem_nil, or_false] at hq
    rcases hq with rfl | rfl | rfl | rfl | rfl | rfl <;> rfl
  obtain ⟨hal, hput⟩ := hinv
  by_cases hlt2 : p < d.length
  rotate_left
  · have c1 : ¬ (p : Int) < (d.length : Int) := by omega
    have hpe : p = d.length := by omega
    rw [hpe, Nat.sub_self] at hput
    simp only [growE] at hput
    refine go c1 trivial ?_
    rw [← hput]
    exact ends_twoM (t1 := 55) (t2 := 30) (by decide) rfl rfl rfl (by simp) (by simp [hal]) (.inr ⟨_, rfl, rfl⟩) rfl
  have c1 : (p : Int) < (d.length : Int) := by omega
  have w3 : IntKind.i64.wrap ((p : Int) + 1) = ((p + 1 : Nat) : Int) := by rw [wrap_in (by omega) (by omega)]; rfl
  rw [show d.length - p = (d.length - (p + 1)) + 1 from by omega] at hput
  simp only [growE] at hput
  have hx : d[p]? = some (gt d p) := gt_at hlt2
  have kat := fun (i : Nat) (hi : i < S) => p_reduce_lane_at A S B p i hs16 hb64 hb1 (by omega) (by omega)
  have hlp := fun (i : Nat) (hi : i < S) => hli p i (by omega) hi
  generalize gt d p = v at *
  refine go (aa c1 hx) trivial ?_
  refine T_for S (fun i acc => { env := [(2, .one (.p (.int .i64 S))), (6, .one (.ptr 6 0 2 0)), (8, .one (.ptr 8 0 2 0)), (10, .one (.ptr 10 0 3 0)), (11, .one (.p (.int .i64 p))), (12, .one (.p (.int .i64 v))), (56, .one (.p (eI d))), (57, .one (.p (.int .i64 d.length))), (58, .one (.p (.int .i64 p))), (63, .one (.p (.int .i64 S))), (64, .one (.p (.int .i64 i)))], σ := [(3, .cells true [.p (eI s), .p (eI d)]), (6, .cells true [.nils, .nils]), (8, .cells true [.msl 55 0 1 s'.length none, .msl 30 0 1 N (some N)]), (10, .cells true [.p (.int .i64 A), .p (.int .i64 S), .p (.int .i64 B)]), (55, .arr true 1 (rI s')), (30, .arr true 1 (rI acc))] })
    (fun i acc' => acc'.length = N ∧ putsE (fun i => laneAt S B p i) v (S - i) i acc' = putsE (fun i => laneAt S B p i) v S 0 acc) acc ⟨hal, rfl⟩ ?_ fun i acc' hi hv => ?_
  · refine Weak.sub fun z hz => ?_
    simp only [List.mem_cons, List.not_mem_nil, or_false] at hz
    rcases hz with rfl | rfl | rfl | rfl | rfl | rfl <;> rfl
  obtain ⟨hal', hp2⟩ := hv
  by_cases hiS : i < S
  · have c2 : (i : Int) < (S : Int) := by omega
    have w4 : IntKind.i64.wrap ((i : Int) + 1) = ((i + 1 : Nat) : Int) := by rw [wrap_in (by omega) (by omega)]; rfl
    have ki := kat i hiS
    have q1 : laneAt S B p i < N := by rw [hN]; have := hlp i hiS; omega
    rw [show S - i = (S - (i + 1)) + 1 from by omega] at hp2
    simp only [putsE] at hp2
    have q2 : ((laneAt S B p i : Nat) : Int) < (N : Int) := by omega
    have hxa : acc'[laneAt S B p i]? = some (gt acc' (laneAt S B p i)) := gt_at (by omega)
    generalize laneAt S B p i = q at *
    refine go (aa c2 <| aa w4 <| aa q1 <| aa q2 <| aa @hal' <| aa hxa @rI_set) ki ?_
    refine rnd_next hiS (acc'.set q v) ⟨by simp [hal'], hp2⟩ (Weak.sub fun z hz => ?_)
    simp only [List.mem_cons, List.not_mem_nil, or_false] at hz
    rcases hz with rfl | rfl | rfl | rfl | rfl | rfl <;> rfl
  · have c2 : ¬ (i : Int) < (S : Int) := by omega
    have hie : i = S := by omega
    rw [hie, Nat.sub_self] at hp2
    simp only [putsE] at hp2
    rw [← hp2] at hput
    refine go (aa c2 w3) trivial ?_
    refine rnd_next hlt2 acc' ⟨hal', hput⟩ (Weak.sub fun z hz => ?_)
    simp only [List.mem_cons, List.not_mem_nil, or_false] at hz
    rcases hz with rfl | rfl | rfl | rfl | rfl | rfl <;> rfl
end Go.AM

namespace Go.AM
open Go Go.Proofs
set_option maxRecDepth 100000
set_option maxHeartbeats 4000000

theorem p_ref06_without {l : List Int} {n : Nat} (h : n < l.length) (hl : l.length ≤ 64) : PureC Try.prog fi_fullerref06_without [dI l, dN n] (dI (l.eraseIdx n)) := by
  refine pure_fullerref06_without (by simp) fun G hP hn => ?_
  have c1 : (n : Int) ≤ l.length := by omega
  have c1' : n ≤ l.length := by omega
  have c2 : ((n + 1 : Nat) : Int) ≤ l.length := by omega
  have c2' : n + 1 ≤ l.length := by omega
  have w1 : IntKind.i64.wrap ((n : Int) + 1) = ((n + 1 : Nat) : Int) := by rw [wrap_in (by omega) (by omega)]; rfl
  have t0 : (l.length : Int).toNat = l.length := rfl
  have t1 := rI_take l n
  have t2 := rI_drop l (n + 1)
  have t5 : List.take (l.length - (n + 1)) (rI (List.drop (n + 1) l)) = rI (List.drop (n + 1) l) := List.take_of_length_le (by simp)
  have m1 : min n l.length = n := by omega
  have b1 : n * 8 ≤ 2 ^ 40 := by omega
  have b2 : n ≤ 2 ^ 40 := by omega
  have b3 : (n + (l.length - (n + 1))) * 8 ≤ 2 ^ 40 := by omega
  have b4 : n + (l.length - (n + 1)) ≤ 2 ^ 40 := by omega
  refine go (aa c1 <| aa c1' <| aa c2 <| aa c2' <| aa w1 <| aa t0 <| aa t1 <| aa t2 <| aa t5 <| aa m1 <| aa b1 <| aa b2 <| aa b3 <| aa b4 @all1) trivial ?_
  apply T_dr fw (by rw [hP]; rfl)
  · simp only [go_sem, seval, reduceIte, ↓reduceIte, bne, beq_false, beq_true, Bool.not_eq_true, Bool.if_true_right, decide_not, reduceCtorEq, hP, c1, c1', c2, c2', w1, t0, t1, t2, t5, m1, b1, b2, b3, b4, all1, List.length_take, List.length_drop, Int.le_refl, Nat.le_refl]
    exact rfl
  refine go trivial trivial ?_
  have e1 : rI (List.take n l) ++ rI (List.drop (n + 1) l) = rI (l.eraseIdx n) := by rw [List.eraseIdx_eq_take_drop_succ]; simp
  rw [e1]
  exact ends_list rfl rfl (by rw [List.length_map, List.length_eraseIdx_of_lt h]; omega)
theorem p_ref06_in {l : List Int} {n : Nat} (k : Int) (h : n ≤ l.length) (hl : l.length ≤ 64) : PureC Try.prog fi_fullerref06_in [dI l, dN n, dN k] (dI (insL l n k)) := by
  refine pure_fullerref06_in (by simp) fun G hP hn => ?_
  have c1 : (n : Int) ≤ l.length := by omega
  have t0 : (l.length : Int).toNat = l.length := rfl
  have t1 := rI_take l n
  have t2 := rI_drop l n
  have t5 : List.take (l.length - n) (rI (List.drop n l)) = rI (List.drop n l) := List.take_of_length_le (by simp)
  have m1 : min n l.length = n := by omega
  have b1 : n * 8 ≤ 2 ^ 40 := by omega
  have b2 : n ≤ 2 ^ 40 := by omega
  have b5 : (n + 1) * 8 ≤ 2 ^ 40 := by omega
  have b6 : n + 1 ≤ 2 ^ 40 := by omega
  have b3 : (n + 1 + (l.length - n)) * 8 ≤ 2 ^ 40 := by omega
  have b4 : n + 1 + (l.length - n) ≤ 2 ^ 40 := by omega
  refine go (aa c1 <| aa h <| aa t0 <| aa t1 <| aa t2 <| aa t5 <| aa m1 <| aa b1 <| aa b2 <| aa b3 <| aa b4 <| aa b5 <| aa b6 @all1) trivial ?_
  apply T_dr fw (by rw [hP]; rfl)
  · simp only [go_sem, seval, reduceIte, ↓reduceIte, bne, beq_false, beq_true, Bool.not_eq_true, Bool.if_true_right, decide_not, reduceCtorEq, hP, c1, h, t0, t1, t2, t5, m1, b1, b2, b3, b4, b5, b6, all1, List.length_take, List.length_drop, Int.le_refl, Nat.le_refl]
    exact rfl
  refine go trivial trivial ?_
  have e1 : rI (List.take n l) ++ [[PV.int IntKind.i64 k]] ++ rI (List.drop n l) = rI (insL l n k) := by simp [insL]
  rw [e1]
  exact ends_list rfl rfl (by rw [List.length_map, insL_len l k h]; omega)
def sideF (s d : List Int) (a : Int) : Int := if checkT s d = true then (if a < 0 ∨ a ≥ s.length then 20 else 0) else 30
theorem p_ref06_side (s d : List Int) (a : Int) : PureC Try.prog fi_fullerref06_side [dT s d, dN a] (dN (sideF s d a)) := by
  refine pure_fullerref06_side (by simp) fun G hP hn => ?_
  have kc := p_ref03_Check s d
  cases hc : checkT s d
  · rw [hc] at kc
    refine go trivial kc ?_
    exact ends_ret rfl rfl rfl (by simp [sideF, hc, resD])
  rw [hc] at kc
  by_cases h1 : a < 0
  · refine go h1 kc ?_
    exact ends_ret rfl rfl rfl (by simp [sideF, hc, h1, resD])
  by_cases h2 : a ≥ s.length
  · refine go (aa h1 h2) kc ?_
    exact ends_ret rfl rfl rfl (by simp [sideF, hc, h1, h2, resD])
  refine go (aa h1 h2) kc ?_
  exact ends_ret rfl rfl rfl (by simp [sideF, hc, h1, h2, resD])
theorem p_ref06_most (l : List Int) (h0 : 0 < l.length) (hl : l.length ≤ 64) : PureC Try.prog fi_fullerref06_most [dI l] (dN (firstE (fun i => gt l i) l.length 0 0)) := by
  refine pure_fullerref06_most (by simp) fun G hP hn => ?_
  refine go trivial trivial ?_
  refine T_for l.length (fun i (a : Nat) => { env := [(0, .one (.p (eI l))), (3, .one (.p (.int .i64 a))), (4, .one (.p (.int .i64 i)))], σ := [] })
    (fun i a => a < l.length ∧ firstE (fun i => gt l i) (l.length - i) i a = firstE (fun i => gt l i) l.length 0 0) 0 ⟨h0, rfl⟩ (.refl _ _) fun i a hi hinv => ?_
  obtain ⟨hal, hf⟩ := hinv
  by_cases hlt : i < l.length
  · have c1 : (i : Int) < l.length := by omega
    have c2 : (a : Int) < l.length := by omega
    have w1 : IntKind.i64.wrap ((i : Int) + 1) = ((i + 1 : Nat) : Int) := by rw [wrap_in (by omega) (by omega)]; rfl
    have hx : l[i]? = some (gt l i) := gt_at hlt
    have hy : l[a]? = some (gt l a) := gt_at hal
    rw [show l.length - i = (l.length - (i + 1)) + 1 from by omega] at hf
    simp only [firstE] at hf
    by_cases hg : gt l i > gt l a
    · rw [if_pos hg] at hf
      refine go (aa c1 <| aa c2 <| aa w1 <| aa hx <| aa hy <| aa hlt <| aa hal hg) trivial ?_
      exact rnd_next hlt i ⟨hlt, hf⟩ (.refl _ _)
    · rw [if_neg hg] at hf
      refine go (aa c1 <| aa c2 <| aa w1 <| aa hx <| aa hy <| aa hlt <| aa hal hg) trivial ?_
      exact rnd_next hlt a ⟨hal, hf⟩ (.refl _ _)
  · have hie : i = l.length := by omega
    subst hie
    rw [Nat.sub_self] at hf
    simp only [firstE] at hf
    subst hf
    refine go trivial trivial ?_
    exact ends_ret rfl rfl rfl rfl
theorem Lanes.size {s d : List Int} {n A S B : Nat} (L : Lanes s d n A S B) : sizeS (s.eraseIdx n) = ((A * B : Nat) : Int) ∧ ShapeOk (s.eraseIdx n) := by
  have hok := (checkT_iff.1 L.hc).1
  have hp : prd (s.eraseIdx n) = ((A * B : Nat) : Int) := by
    rw [List.eraseIdx_eq_take_drop_succ, prd_append, ← sizeS_ok (hok.take n), ← sizeS_ok (hok.drop (n + 1)), L.hA, L.hB]; simp
  have hAB := L.AB
  have ho : ShapeOk (s.eraseIdx n) := ⟨Nat.le_trans (List.length_eraseIdx_le _ _) hok.1, fun m hm => hok.2.1 m (List.mem_of_mem_eraseIdx hm), by rw [hp]; omega⟩
  exact ⟨by rw [sizeS_ok ho, hp], ho⟩
theorem p_ref06_numbers {s d : List Int} {n A S B p : Nat} (L : Lanes s d n A S B) (hp : p < A * B) : PureC Try.prog fi_fullerref06_numbers [dT s d, dN n, dN p] (dI (laneL d S B p)) := by
  refine pure_fullerref06_numbers (by simp) fun G hP hn => ?_
  have hsl := check_len (checkS_iff.2 (checkT_iff.1 L.hc).1)
  have hlt := L.hn
  have kw := p_ref06_without (l := s) hlt (by omega)
  obtain ⟨hz, ho⟩ := L.size
  have ki : PureC Try.prog fi_fullerref02_Index [dI (s.eraseIdx n), dN p] (.tup [dI (idxF (s.eraseIdx n) p), dN 0]) := c_refIdx (by rw [hz]; omega)
  have hAB := L.AB
  have hix : idxF (s.eraseIdx n) p = ix (s.eraseIdx n) p := idxF_eq ho.2.1 (by omega) (by omega)
  rw [hix] at ki
  have hxl : (ix (s.eraseIdx n) p).length = s.length - 1 := by rw [ix_len, List.length_eraseIdx_of_lt hlt]
  have hat := fun i hi => (L.at (p := p) (i := i) hp hi).2
  have hS := L.hS
  have hs1 := L.s1
  have hs2 := L.s2
  have hin := fun (i : Nat) => p_ref06_in (l := ix (s.eraseIdx n) p) (n := n) (i : Int) (by omega) (by omega)
  have kat : ∀ i : Nat, i < S → PureC Try.prog fi_fullerref03_At [dT s d, dI (insL (ix (s.eraseIdx n) p) n i)] (dNE (gt d (laneAt S B p i), 0)) := fun i hi => by
    have := p_ref03_At s d (insL (ix (s.eraseIdx n) p) n i); rw [hat i hi] at this; exact this
  generalize ix (s.eraseIdx n) p = x at *
  refine go trivial (aa kw ki) ?_
  refine T_nils 9 100 1 rfl rfl rfl ?_
  refine T_for S (fun i (_ : Unit) => { env := [(1, .one (.p (.int .i64 n))), (3, .one (.ptr 3 0 2 0)), (7, .one (.p (eI x))), (9, .one (.msl 100 0 1 i none)), (10, .one (.p (.int .i64 i)))], σ := [(3, .cells true [.p (eI s), .p (eI d)]), (100, .arr true 1 (rI ((laneL d S B p).take i)))] })
    (fun _ _ => True) () trivial ?_ fun i _ hi _ => ?_
  · refine (Weak.pick [1, 3, 7, 9, 10]).trans (Weak.sub fun q hq => ?_)
    simp only [List.mem_cons, List.not_mem_nil, or_false] at hq
    rcases hq with rfl | rfl <;> rfl
  by_cases hiS : i < S
  · have c1 : (i : Int) < (S : Int) := by omega
    have c2 : (n : Int) < s.length := by omega
    have w1 : IntKind.i64.wrap ((i : Int) + 1) = ((i + 1 : Nat) : Int) := by rw [wrap_in (by omega) (by omega)]; rfl
    have k1 := hin i
    have k2 := kat i hiS
    have hal : ((laneL d S B p).take i).length = i := by rw [List.length_take, laneL_len]; omega
    have hsu : (laneL d S B p).take (i + 1) = (laneL d S B p).take i ++ [gt d (laneAt S B p i)] := by
      rw [List.take_add_one, laneL_get hiS]; rfl
    have c4 : (i + 1) * 8 ≤ 2 ^ 40 := by omega
    have c5 : i + 1 ≤ 2 ^ 40 := by omega
    generalize (laneL d S B p).take i = acc at *
    generalize gt d (laneAt S B p i) = y at *
    refine go (aa c1 <| aa c2 <| aa w1 <| aa hS <| aa hlt <| aa hal <| aa c4 c5) (aa k1 k2) ?_
    refine rnd_next hiS () trivial (Weak.sub fun q hq => ?_)
    simp only [List.mem_cons, List.not_mem_nil, or_false] at hq
    rcases hq with rfl | rfl
    · rfl
    · rw [hsu]; simp [lo, rI]
  · have hie : i = S := by omega
    subst hie
    have c1 : ¬ (i : Int) < (i : Int) := by omega
    have c2 : (n : Int) < s.length := by omega
    have ht : (laneL d i B p).take i = laneL d i B p := List.take_of_length_le (by rw [laneL_len]; omega)
    rw [ht]
    refine go (aa c1 <| aa c2 <| aa hS hlt) trivial ?_
    exact ends_list rfl rfl (by simp [laneL_len])
end Go.AM

