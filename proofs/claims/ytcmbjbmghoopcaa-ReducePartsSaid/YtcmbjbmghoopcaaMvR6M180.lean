import Derived.Test.YtcmbjbmghoopcaaMv5
set_option linter.unusedVariables false
set_option linter.unusedSimpArgs false
namespace Go.AM
open Go Go.Proofs Go.Proofs.Ytcmbjbmghoopcaa
set_option maxRecDepth 100000

theorem wf_u8 {n : Int} (h : (Lit.int .u8 n).wf = true) : 0 ≤ n ∧ n < 256 := by
  simp only [Lit.wf, IntKind.has, IntKind.min, IntKind.max, IntKind.bits, IntKind.signed] at h
  simp at h
  omega
theorem arg_U {d : DV} (h : ArgOk Try.prog 5 d) : ∃ n : Int, d = .one (.int .u8 n) ∧ 0 ≤ n ∧ n < 256 := by
  have hu := Try.underlying5
  unfold ArgOk at h
  rw [hu] at h
  obtain ⟨v, rfl, h⟩ := h
  generalize hv : [v] = l at h
  cases h with
  | bool b ht => rw [hu] at ht; cases ht
  | int n ht hw => rw [hu] at ht; cases ht; cases hv; exact ⟨n, rfl, wf_u8 hw⟩
  | str s ht => rw [hu] at ht; cases ht
  | sl rows ht h => rw [hu] at ht; cases ht
  | st parts ht h => rw [hu] at ht; cases ht
end Go.AM

namespace Go.AM
open Go Go.Proofs
set_option maxRecDepth 100000
set_option maxHeartbeats 4000000

def sideS (s : List Int) (i : Nat) : Int := (s.reverse[i]?).getD 1
theorem sideS_ge {s : List Int} {i : Nat} (h : s.length ≤ i) : sideS s i = 1 := by unfold sideS; rw [List.getElem?_eq_none (by simpa using h)]; rfl
theorem sideS_lt {s : List Int} {i : Nat} (h : i < s.length) : s[s.length - 1 - i]? = some (sideS s i) := by
  unfold sideS
  rw [List.getElem?_reverse h, List.getElem?_eq_getElem (by omega)]; rfl
theorem p_shape_side (s : List Int) (i : Nat) (hs : s.length ≤ 64) (hi : i ≤ 64) : PureC Try.prog fi_shape_side [dI s, dN i] (dN (sideS s i)) := by
  refine pure_shape_side (by simp) fun G hP hn => ?_
  unfold a_shape_side
  by_cases h : s.length ≤ i
  · have c1 : (i : Int) ≥ s.length := by omega
    refine go c1 trivial ?_
    exact ends_ret rfl rfl rfl (by rw [sideS_ge h]; rfl)
  · have c1 : ¬ (i : Int) ≥ s.length := by omega
    have hx := sideS_lt (s := s) (i := i) (by omega)
    have w1 : IntKind.i64.wrap ((s.length : Int) - 1) = ((s.length - 1 : Nat) : Int) := by rw [wrap_in (by omega) (by omega)]; omega
    have w2 : IntKind.i64.wrap (((s.length - 1 : Nat) : Int) - (i : Int)) = ((s.length - 1 - i : Nat) : Int) := by rw [wrap_in (by omega) (by omega)]; omega
    have hlt : s.length - 1 - i < s.length := by omega
    refine go (aa c1 <| aa w1 <| aa w2 <| aa hx hlt) trivial ?_
    exact ends_ret rfl rfl rfl rfl
def clash (x y : Int) : Bool := x != y && (x != 1 && y != 1)
def maxS (a b : List Int) (i : Nat) : Int := max (sideS a i) (sideS b i)
def joinSh (a b : List Int) (k : Nat) : List Int := ((List.range k).map (maxS a b)).reverse
def joinOk (a b : List Int) : Bool := checkS a && (checkS b && ((List.range (max a.length b.length)).all (fun i => !clash (sideS a i) (sideS b i)) && checkS (joinSh a b (max a.length b.length))))
def joinSF (a b : List Int) : List Int × Int := if joinOk a b = true then (joinSh a b (max a.length b.length), 0) else ([], 20)
theorem joinSh_succ (a b : List Int) (k : Nat) : joinSh a b (k + 1) = maxS a b k :: joinSh a b k := by
  unfold joinSh; rw [List.range_succ, List.map_append, List.reverse_append]; rfl
theorem joinSh_len (a b : List Int) (k : Nat) : (joinSh a b k).length = k := by simp [joinSh]
theorem p_shape_Join (a b : List Int) : PureC Try.prog fi_shape_Join [dI a, dI b] (.tup [dI (joinSF a b).1, dN (joinSF a b).2]) := by
  refine pure_shape_Join (by simp) fun G hP hn => ?_
  unfold a_shape_Join
  cases h1 : checkS a
  · have hf : joinSF a b = ([], 20) := by unfold joinSF joinOk; rw [h1]; rfl
    have k1 := p_shape_Check a
    rw [h1] at k1
    refine go trivial k1 ?_
    exact ends_ret rfl rfl rfl (by rw [hf]; rfl)
  cases h2 : checkS b
  · have hf : joinSF a b = ([], 20) := by unfold joinSF joinOk; rw [h1, h2]; rfl
    have k1 := p_shape_Check a
    have k2 := p_shape_Check b
    rw [h1] at k1
    rw [h2] at k2
    refine go trivial (aa k1 k2) ?_
    exact ends_ret rfl rfl rfl (by rw [hf]; rfl)
  have k1 := p_shape_Check a
  have k2 := p_shape_Check b
  rw [h1] at k1
  rw [h2] at k2
  have la := check_len h1
  have lb := check_len h2
  have hM : MaxN = 140737488355328 := rfl
  have m1 : max (a.length : Int) (b.length : Int) = ((max a.length b.length : Nat) : Int) := by omega
  have hmax : max a.length b.length ≤ 3 := by omega
  have hla : a.length ≤ max a.length b.length := by omega
  have hlb : b.length ≤ max a.length b.length := by omega
  have hf : joinSF a b = if ((List.range (max a.length b.length)).all (fun i => !clash (sideS a i) (sideS b i)) && checkS (joinSh a b (max a.length b.length))) = true then (joinSh a b (max a.length b.length), 0) else ([], 20) := by
    unfold joinSF joinOk; rw [h1, h2]; rfl
  generalize max a.length b.length = k at *
  have q1 : (k : Int) * 8 ≤ MaxN := by omega
  have q2 : (k : Int) ≤ MaxN := by omega
  refine go (aa m1 <| aa q1 q2) (aa k1 k2) ?_
  refine T_for k (fun i (_ : Unit) => { env := [(0, .one (.p (eI a))), (1, .one (.p (eI b))), (6, .one (.msl 23 0 1 k (some k))), (25, .one (.p (.int .i64 k))), (26, .one (.p (.int .i64 i)))], σ := [(23, .arr true 1 (rI (List.replicate (k - i) 0 ++ joinSh a b i)))] })
    (fun i _ => ∀ j, j < i → clash (sideS a j) (sideS b j) = false) () (fun j hj => by omega) ?_ fun i _ hi hno => ?_
  · refine Weak.sub fun q hq => ?_
    simp only [List.mem_cons, List.not_mem_nil, or_false] at hq
    rcases hq with rfl
    simp [lo, joinSh, rI]
  by_cases hlt : i < k
  · have c1 : (i : Int) < (k : Int) := by omega
    have w0 : IntKind.i64.wrap ((i : Int) + 1) = ((i + 1 : Nat) : Int) := by rw [wrap_in (by omega) (by omega)]; rfl
    have w1 : IntKind.i64.wrap ((k : Int) - 1) = ((k - 1 : Nat) : Int) := by rw [wrap_in (by omega) (by omega)]; omega
    have w2 : IntKind.i64.wrap (((k - 1 : Nat) : Int) - (i : Int)) = ((k - 1 - i : Nat) : Int) := by rw [wrap_in (by omega) (by omega)]; omega
    have kx := p_shape_side a i (by omega) (by omega)
    have ky := p_shape_side b i (by omega) (by omega)
    have c2 : k - 1 - i < k := by omega
    have hrep : List.replicate (k - i) (0 : Int) = List.replicate (k - 1 - i + 1) 0 := by congr 1; omega
    have hz : (List.replicate (k - 1 - i + 1) (0 : Int) ++ joinSh a b i)[k - 1 - i]? = some 0 := by
      rw [List.getElem?_append_left (by simp)]; simp
    have hst := rep_set (k - 1 - i) (maxS a b i) (joinSh a b i)
    have hlen : (List.replicate (k - 1 - i + 1) (0 : Int) ++ joinSh a b i).length = k := by simp [joinSh_len]; omega
    have hmx : maxS a b i = max (sideS a i) (sideS b i) := rfl
    rw [hrep]
    generalize List.replicate (k - 1 - i + 1) (0 : Int) ++ joinSh a b i = R at hz hst hlen
    rw [hmx] at hst
    have hx : sideS a i = sideS a i := rfl
    have hy : sideS b i = sideS b i := rfl
    generalize hx' : sideS a i = x at kx hst hx
    generalize hy' : sideS b i = y at ky hst hy
    have nxt : clash x y = false → ∀ j, j < i + 1 → clash (sideS a j) (sideS b j) = false := fun hc j hj => by
      rcases Nat.lt_succ_iff_lt_or_eq.1 hj with hj | rfl
      · exact hno j hj
      · rw [hx', hy']; exact hc
    have fin : ∀ q ∈ [((23 : Nat), AO.arr true 1 (rI (List.replicate (k - (i + 1)) 0 ++ joinSh a b (i + 1))))], lo [(23, AO.arr true 1 (rI (R.set (k - 1 - i) (max x y))))] q.1 = q.2 := fun q hq => by
      simp only [List.mem_cons, List.not_mem_nil, or_false] at hq
      rcases hq with rfl
      rw [hst, joinSh_succ, hmx, hx', hy', show k - (i + 1) = k - 1 - i from by omega]
      rfl
    cases e1 : (x != y)
    · refine go (aa c1 <| aa w0 <| aa w1 <| aa w2 <| aa e1 <| aa hz <| aa hlen <| aa c2 @rI_set) (aa kx ky) ?_
      exact rnd_next hlt () (nxt (by simp [clash, e1])) (Weak.sub fin)
    cases e2 : (x != 1)
    · refine go (aa c1 <| aa w0 <| aa w1 <| aa w2 <| aa e1 <| aa e2 <| aa hz <| aa hlen <| aa c2 @rI_set) (aa kx ky) ?_
      exact rnd_next hlt () (nxt (by simp [clash, e1, e2])) (Weak.sub fin)
    cases e3 : (y != 1)
    · refine go (aa c1 <| aa w0 <| aa w1 <| aa w2 <| aa e1 <| aa e2 <| aa e3 <| aa hz <| aa hlen <| aa c2 @rI_set) (aa kx ky) ?_
      exact rnd_next hlt () (nxt (by simp [clash, e1, e2, e3])) (Weak.sub fin)
    · refine go (aa c1 <| aa w0 <| aa w1 <| aa w2 <| aa e1 <| aa e2 <| aa e3 <| aa hz <| aa hlen <| aa c2 @rI_set) (aa kx ky) ?_
      have hcl : ((List.range k).all fun i => !clash (sideS a i) (sideS b i)) = false := by
        rw [List.all_eq_false]
        exact ⟨i, List.mem_range.2 hlt, by rw [hx', hy']; simp [clash, e1, e2, e3]⟩
      exact ends_ret rfl rfl rfl (by rw [hf, hcl]; rfl)
  · have hik : i = k := by omega
    have c1 : ¬ (i : Int) < (k : Int) := by omega
    have hal : ((List.range k).all fun i => !clash (sideS a i) (sideS b i)) = true := by
      rw [List.all_eq_true]
      intro j hj
      rw [hno j (by have := List.mem_range.1 hj; omega)]; rfl
    rw [hal] at hf
    subst hik
    have e0 : List.replicate (i - i) (0 : Int) ++ joinSh a b i = joinSh a b i := by simp
    rw [e0]
    have kc := p_shape_Check (joinSh a b i)
    have hl2 := joinSh_len a b i
    cases hc : checkS (joinSh a b i)
    · rw [hc] at hf kc
      generalize joinSh a b i = R at *
      subst hl2
      refine T_weak (Weak.freeze (i := 6) rfl (toD_list (n := 5) (rows := rI R) (m := true) rfl (by simp))) ?_
      simp only [if_true]
      refine go c1 kc ?_
      exact ends_ret rfl rfl rfl (by rw [hf]; rfl)
    · rw [hc] at hf kc
      generalize joinSh a b i = R at *
      subst hl2
      refine T_weak (Weak.freeze (i := 6) rfl (toD_list (n := 5) (rows := rI R) (m := true) rfl (by simp))) ?_
      simp only [if_true]
      refine go c1 kc ?_
      exact ends_ret rfl rfl rfl (by rw [hf]; rfl)
end Go.AM

namespace Go.AM
open Go Go.Proofs
set_option maxRecDepth 100000
set_option maxHeartbeats 4000000

def fitsS (a b : List Int) : Bool := (joinSF a b).2 == 0 && sameL (joinSF a b).1 b
theorem p_shape_Fits (a b : List Int) : PureC Try.prog fi_shape_Fits [dI a, dI b] (dB (fitsS a b)) := by
  refine pure_shape_Fits (by simp) fun G hP hn => ?_
  unfold a_shape_Fits
  have k := p_shape_Join a b
  have ke := p_slices_Equal (joinSF a b).1 b
  have hf : fitsS a b = ((joinSF a b).2 == 0 && sameL (joinSF a b).1 b) := rfl
  generalize joinSF a b = r at *
  cases e : (r.2 == 0)
  · refine go @e (aa k ke) ?_
    exact ends_ret rfl rfl rfl (by rw [hf, e]; rfl)
  · refine go @e (aa k ke) ?_
    exact ends_ret rfl rfl rfl (by rw [hf, e]; rfl)
def stp : List Int → List Int
  | [] => []
  | m :: r => (if m > 1 then prd r else 0) :: stp r
theorem stp_len : ∀ s : List Int, (stp s).length = s.length
  | [] => rfl
  | m :: r => by simp [stp, stp_len r]
def stepsL (s : List Int) (n : Nat) : List Int := List.replicate (n - s.length) 0 ++ stp s
def dotL : List Int → List Int → Int → Int
  | n :: x, m :: t, a => dotL x t (a + n * m)
  | _, _, a => a
def fromAt (s g : List Int) (p : Int) : Int := dotL (idxF g p) (stepsL s g.length) 0
def allF (s g : List Int) : List (List DV) := (List.range (sizeS g).toNat).map fun p => [dN ((p : Nat) : Int), dN (fromAt s g ((p : Nat) : Int))]
theorem allF_get (s g : List Int) (k : Nat) (h : k < (sizeS g).toNat) : (allF s g)[k]? = some [dN k, dN (fromAt s g k)] := by simp [allF, h]
theorem allF_len (s g : List Int) : (allF s g).length = (sizeS g).toNat := by simp [allF]
theorem p_tensor_from (s g : List Int) : PureC Try.prog fi_tensor_from [dI s, dI g] (.one (.fn fi_tensor_from_1 [] [.box [eI g], .box [eI s]])) := by
  refine pure_tensor_from (by simp) fun G hP hn => ?_
  unfold a_tensor_from
  refine go trivial trivial ?_
  exact ends_ret rfl rfl rfl rfl
theorem prd_drop_le {s : List Int} (h : ShapeOk s) (n : Nat) : 1 ≤ prd (s.drop n) ∧ prd (s.drop n) ≤ 64 := by
  have h1 : prd s = prd (s.take n) * prd (s.drop n) := by rw [← prd_append, List.take_append_drop]
  have h2 := prd_pos (s := s.drop n) (fun m hm => h.2.1 m (List.mem_of_mem_drop hm))
  have h3 := prd_pos (s := s.take n) (fun m hm => h.2.1 m (List.mem_of_mem_take hm))
  have h4 := h.2.2
  have : 1 * prd (s.drop n) ≤ prd (s.take n) * prd (s.drop n) := Int.mul_le_mul_of_nonneg_right h3 (by omega)
  omega
theorem stp_bound {s : List Int} (h : ShapeOk s) : ∀ (n : Nat) (x : Int), x ∈ stp (s.drop n) → 0 ≤ x ∧ x ≤ 64 := by
  have key : ∀ (k : Nat) (n : Nat), s.length - n = k → ∀ x, x ∈ stp (s.drop n) → 0 ≤ x ∧ x ≤ 64 := by
    intro k
    induction k with
    | zero => intro n hn x hx; rw [List.drop_of_length_le (by omega)] at hx; simp [stp] at hx
    | succ k ih =>
      intro n hn x hx
      rw [List.drop_eq_getElem_cons (by omega)] at hx
      simp only [stp, List.mem_cons] at hx
      rcases hx with rfl | hx
      · have := prd_drop_le h (n + 1)
        split <;> omega
      · exact ih (n + 1) (by omega) x hx
  exact fun n => key _ n rfl
theorem steps_len {s : List Int} {n : Nat} (h : s.length ≤ n) : (stepsL s n).length = n := by simp [stepsL, stp_len]; omega
theorem steps_bound {s : List Int} (h : ShapeOk s) {n i : Nat} {x : Int} (hx : (stepsL s n)[i]? = some x) : 0 ≤ x ∧ x ≤ 64 := by
  have := List.mem_of_getElem? hx
  unfold stepsL at this
  rcases List.mem_append.1 this with hm | hm
  · have := (List.mem_replicate.1 hm).2; omega
  · exact stp_bound h 0 x (by simpa using hm)
theorem q_tensor_from_1 {s g : List Int} (hs : ShapeOk s) (hg : ShapeOk g) (hl : s.length ≤ g.length) : SeqC Try.prog fi_tensor_from_1 [.box [eI g], .box [eI s]] (allF s g) := by
  refine seqC_of call_tensor_from_1 func_tensor_from_1 (by rfl) is_tensor_from_1 ok_tensor_from_1 rv_tensor_from_1 (Nat.le_of_ble_eq_true (by rfl)) fun R l σ fr G ex hP hnt hR hno hA fam hex hy => ?_
  have hnt : G.nt = 77 := hnt
  refine T_room 15 fun ρ hρ hlo hnr hxr => ?_
  simp only [AS.ren, List.map, AV.ren, AC.ren, initV, Nat.zero_add, Nat.reduceAdd] at hlo hnr hxr ⊢
  generalize hS0 : renS ρ (σ 0) = S0 at *
  generalize hE : ex.map (AV.ren ρ) = E at *
  unfold a_tensor_from_1
  have hM : MaxN = 140737488355328 := rfl
  have h3 := hg.1
  have q1 : (g.length : Int) * 8 ≤ MaxN := by omega
  have q2 : (g.length : Int) ≤ MaxN := by omega
  have hnr' := hnr
  simp only [AO.nr] at hnr'
  have hsl := hs.1
  have w0 : IntKind.i64.wrap ((s.length : Int) - 1) = (s.length : Int) - 1 := wrap_in (by omega) (by omega)
  repeat' (first     | refine T_then ?_ | refine then_ret ?_ | refine then_exit ?_ | refine then_goto ?_     | refine rnd_exit ?_ | refine rnd_ret ?_ | refine rnd_goto ?_     | refine noGo_normal ?_ | refine noGo_ret ?_ | refine noGo_exit ?_ | refine jmp_normal ?_ | refine jmp_ret ?_ | refine jmp_exit ?_ | refine jmp_goto ?_     | refine inB_normal ?_ | refine inB_ret ?_ | refine inB_goto ?_ | refine inB_exit ?_ | refine inB_exit_ne rfl ?_     | ((first | apply T_srE fw | apply T_regE fw); · ((try simp only [go_sem, seval, reduceIte, ↓reduceIte, hP, hlo, hnr', hxr, scr_ex hxr, w0, q1, q2, Int.le_refl]); (repeat ((first       | (refine ⟨true, false, rfl, fun h => absurd h (by decide), ?_⟩) | (refine ⟨false, false, rfl, fun h => absurd h (by decide), ?_⟩) | refine ⟨_, _, rfl, fun _ => rfl, ?_⟩); (try simp only [go_sem, seval, reduceIte, ↓reduceIte, hP, hlo, hnr', hxr, scr_ex hxr, w0, q1, q2, Int.le_refl]))); (first | done | exact rfl)))     | ((first | apply T_sdF fw (by rw [hP]; rfl) (by decide +kernel) | apply T_drF fw (by rw [hP]; rfl) (by decide +kernel)); · ((try simp only [TOps.flat, List.cons_append, List.nil_append]); (repeat ((first | refine Y_g0 ?_ | refine Y_g (by (try simp only [go_sem, seval, reduceIte, ↓reduceIte, Bool.not_eq_true, reduceCtorEq, beq_false, beq_true, hP, hlo, hnr', hxr, scr_ex hxr, w0, q1, q2, Int.le_refl]); (first | done | exact rfl)) ?_); (first | refine Y_skip ?_ | ((first | apply Y_q); (· ((try simp only [go_sem, seval, reduceIte, ↓reduceIte, Bool.not_eq_true, reduceCtorEq, beq_false, beq_true, hP, hlo, hnr', hxr, scr_ex hxr, w0, q1, q2, Int.le_refl]); (first | done | exact rfl))))))); apply RunF_nil; (try simp only [go_sem, seval, reduceIte, ↓reduceIte, Bool.not_eq_true, reduceCtorEq, beq_false, beq_true, hP, hlo, hnr', hxr, scr_ex hxr, w0, q1, q2, Int.le_refl]); (first | done | exact rfl)))     | ((first | apply T_sd fw (by rw [hP]; rfl) | apply T_dr fw (by rw [hP]; rfl)); · ((try simp only [go_sem, seval, reduceIte, ↓reduceIte, bne, beq_false, beq_true, Bool.not_eq_true, Bool.if_true_right, decide_not, reduceCtorEq, hP, hlo, hnr', hxr, scr_ex hxr, w0, q1, q2, Int.le_refl]); (first | done | exact rfl)))     | refine T_seq ?_ | refine T_block ?_ | refine T_scopeJ 0 rfl ?_ | refine T_scope ?_ | refine T_goto ?_ | refine T_ret ?_ | refine T_skip ?_ | refine T_exit ?_ | refine T_label ?_     | refine T_condT rfl ?_ | refine T_condF rfl ?_     | refine T_condD rfl (fun _ => ?_) (fun _ => ?_)     | refine T_cond rfl (fun _ => ?_) (fun _ => ?_))
  refine T_for s.length (fun _ (a : Int × Int × List Int) => { env := [(0, .one (.raw (.func (.yield l) #[] #[]))), (1, .one (.p (.box [eI g]))), (2, .one (.p (.box [eI s]))), (4, .one (.msl 15 0 1 g.length (some g.length))), (5, .one (.p (.int .i64 a.1))), (6, .one (.p (.int .i64 a.2.1)))], σ := (15, .arr true 1 (rI a.2.2)) :: S0, ex := E })
    (fun k a => a.1 = (s.length : Int) - 1 - k ∧ a.2.1 = prd (s.drop (s.length - k)) ∧ a.2.2 = List.replicate (g.length - k) 0 ++ stp (s.drop (s.length - k))) ((s.length : Int) - 1, 1, List.replicate g.length 0)
    ⟨by simp, by simp [prd], by simp [stp]⟩ ?_ fun k a hk ha => ?_
  · refine Weak.sto (s := { env := _, σ := _, ex := E }) fun t => .inl ?_
    simp [lo, rI]
  obtain ⟨i5, st, R'⟩ := a
  obtain ⟨h5, hst, hR'⟩ := ha
  simp only at h5 hst hR'
  by_cases hlt : k < s.length
  · obtain ⟨j, hj⟩ : ∃ j, j = s.length - 1 - k := ⟨_, rfl⟩
    have h5' : i5 = (j : Int) := by omega
    subst h5'
    have hjl : j < s.length := by omega
    have hd : s.drop j = s[j] :: s.drop (j + 1) := List.drop_eq_getElem_cons hjl
    have hx : s[j]? = some s[j] := List.getElem?_eq_getElem hjl
    rw [show s.length - k = j + 1 from by omega] at hst hR'
    have hm := hs.2.1 _ (List.getElem_mem hjl)
    have hb := prd_drop_le hs j
    have hb2 := prd_drop_le hs (j + 1)
    have hp : prd (s.drop j) = s[j] * prd (s.drop (j + 1)) := by rw [hd]; rfl
    have hstp : stp (s.drop j) = (if s[j] > 1 then prd (s.drop (j + 1)) else 0) :: stp (s.drop (j + 1)) := by rw [hd]; rfl
    rw [← hst] at hp hstp hb2
    have w1 : IntKind.i64.wrap (st * s[j]) = st * s[j] := by rw [Int.mul_comm]; exact wrap_in (by omega) (by omega)
    have w2 : IntKind.i64.wrap ((j : Int) - 1) = (j : Int) - 1 := wrap_in (by omega) (by omega)
    have w3 : IntKind.i64.wrap ((g.length : Int) - (s.length : Int)) = ((g.length - s.length : Nat) : Int) := by rw [wrap_in (by omega) (by omega)]; omega
    have w4 : IntKind.i64.wrap (((g.length - s.length : Nat) : Int) + (j : Int)) = ((g.length - 1 - k : Nat) : Int) := by rw [wrap_in (by omega) (by omega)]; omega
    have hrep : List.replicate (g.length - k) (0 : Int) = List.replicate (g.length - 1 - k + 1) 0 := by congr 1; omega
    rw [hrep] at hR'
    have hz : R'[g.length - 1 - k]? = some 0 := by
      rw [hR', List.getElem?_append_left (by simp)]; simp
    have hset := rep_set (g.length - 1 - k) st (stp (s.drop (j + 1)))
    rw [← hR'] at hset
    have hlen : R'.length = g.length := by rw [hR']; simp [stp_len]; omega
    have c0 : ((j : Int) ≥ 0) = True := by simp
    have c2 : g.length - 1 - k < g.length := by omega
    have inv1 : (j : Int) - 1 = (s.length : Int) - 1 - ((k + 1 : Nat) : Int) := by omega
    have inv2 : st * s[j] = prd (s.drop (s.length - (k + 1))) := by rw [show s.length - (k + 1) = j from by omega, hp, Int.mul_comm]
    by_cases hm1 : s[j] > 1
    · repeat' (first     | refine T_then ?_ | refine then_ret ?_ | refine then_exit ?_ | refine then_goto ?_     | refine rnd_exit ?_ | refine rnd_ret ?_ | refine rnd_goto ?_     | refine noGo_normal ?_ | refine noGo_ret ?_ | refine noGo_exit ?_ | refine jmp_normal ?_ | refine jmp_ret ?_ | refine jmp_exit ?_ | refine jmp_goto ?_     | refine inB_normal ?_ | refine inB_ret ?_ | refine inB_goto ?_ | refine inB_exit ?_ | refine inB_exit_ne rfl ?_     | ((first | apply T_srE fw | apply T_regE fw); · ((try simp only [go_sem, seval, reduceIte, ↓reduceIte, hP, c0, hx, hjl, hm1, w1, w2, w3, w4, hz, hlen, c2, rI_set]); (repeat ((first       | (refine ⟨true, false, rfl, fun h => absurd h (by decide), ?_⟩) | (refine ⟨false, false, rfl, fun h => absurd h (by decide), ?_⟩) | refine ⟨_, _, rfl, fun _ => rfl, ?_⟩); (try simp only [go_sem, seval, reduceIte, ↓reduceIte, hP, c0, hx, hjl, hm1, w1, w2, w3, w4, hz, hlen, c2, rI_set]))); (first | done | exact rfl)))     | ((first | apply T_sdF fw (by rw [hP]; rfl) (by decide +kernel) | apply T_drF fw (by rw [hP]; rfl) (by decide +kernel)); · ((try simp only [TOps.flat, List.cons_append, List.nil_append]); (repeat ((first | refine Y_g0 ?_ | refine Y_g (by (try simp only [go_sem, seval, reduceIte, ↓reduceIte, Bool.not_eq_true, reduceCtorEq, beq_false, beq_true, hP, c0, hx, hjl, hm1, w1, w2, w3, w4, hz, hlen, c2, rI_set]); (first | done | exact rfl)) ?_); (first | refine Y_skip ?_ | ((first | apply Y_q); (· ((try simp only [go_sem, seval, reduceIte, ↓reduceIte, Bool.not_eq_true, reduceCtorEq, beq_false, beq_true, hP, c0, hx, hjl, hm1, w1, w2, w3, w4, hz, hlen, c2, rI_set]); (first | done | exact rfl))))))); apply RunF_nil; (try simp only [go_sem, seval, reduceIte, ↓reduceIte, Bool.not_eq_true, reduceCtorEq, beq_false, beq_true, hP, c0, hx, hjl, hm1, w1, w2, w3, w4, hz, hlen, c2, rI_set]); (first | done | exact rfl)))     | ((first | apply T_sd fw (by rw [hP]; rfl) | apply T_dr fw (by rw [hP]; rfl)); · ((try simp only [go_sem, seval, reduceIte, ↓reduceIte, bne, beq_false, beq_true, Bool.not_eq_true, Bool.if_true_right, decide_not, reduceCtorEq, hP, c0, hx, hjl, hm1, w1, w2, w3, w4, hz, hlen, c2, rI_set]); (first | done | exact rfl)))     | refine T_seq ?_ | refine T_block ?_ | refine T_scopeJ 0 rfl ?_ | refine T_scope ?_ | refine T_goto ?_ | refine T_ret ?_ | refine T_skip ?_ | refine T_exit ?_ | refine T_label ?_     | refine T_condT rfl ?_ | refine T_condF rfl ?_     | refine T_condD rfl (fun _ => ?_) (fun _ => ?_)     | refine T_cond rfl (fun _ => ?_) (fun _ => ?_))
      refine rnd_next hlt ((j : Int) - 1, st * s[j], R'.set (g.length - 1 - k) st) ⟨inv1, inv2, ?_⟩ (Weak.sto (s := { env := _, σ := _, ex := E }) fun t => .inl ?_)
      · rw [hset, show s.length - (k + 1) = j from by omega, hstp, if_pos hm1, show g.length - (k + 1) = g.length - 1 - k from by omega]
      · simp only [lo]; split <;> rfl
    · repeat' (first     | refine T_then ?_ | refine then_ret ?_ | refine then_exit ?_ | refine then_goto ?_     | refine rnd_exit ?_ | refine rnd_ret ?_ | refine rnd_goto ?_     | refine noGo_normal ?_ | refine noGo_ret ?_ | refine noGo_exit ?_ | refine jmp_normal ?_ | refine jmp_ret ?_ | refine jmp_exit ?_ | refine jmp_goto ?_     | refine inB_normal ?_ | refine inB_ret ?_ | refine inB_goto ?_ | refine inB_exit ?_ | refine inB_exit_ne rfl ?_     | ((first | apply T_srE fw | apply T_regE fw); · ((try simp only [go_sem, seval, reduceIte, ↓reduceIte, hP, c0, hx, hjl, hm1, w1, w2, w3, w4]); (repeat ((first       | (refine ⟨true, false, rfl, fun h => absurd h (by decide), ?_⟩) | (refine ⟨false, false, rfl, fun h => absurd h (by decide), ?_⟩) | refine ⟨_, _, rfl, fun _ => rfl, ?_⟩); (try simp only [go_sem, seval, reduceIte, ↓reduceIte, hP, c0, hx, hjl, hm1, w1, w2, w3, w4]))); (first | done | exact rfl)))     | ((first | apply T_sdF fw (by rw [hP]; rfl) (by decide +kernel) | apply T_drF fw (by rw [hP]; rfl) (by decide +kernel)); · ((try simp only [TOps.flat, List.cons_append, List.nil_append]); (repeat ((first | refine Y_g0 ?_ | refine Y_g (by (try simp only [go_sem, seval, reduceIte, ↓reduceIte, Bool.not_eq_true, reduceCtorEq, beq_false, beq_true, hP, c0, hx, hjl, hm1, w1, w2, w3, w4]); (first | done | exact rfl)) ?_); (first | refine Y_skip ?_ | ((first | apply Y_q); (· ((try simp only [go_sem, seval, reduceIte, ↓reduceIte, Bool.not_eq_true, reduceCtorEq, beq_false, beq_true, hP, c0, hx, hjl, hm1, w1, w2, w3, w4]); (first | done | exact rfl))))))); apply RunF_nil; (try simp only [go_sem, seval, reduceIte, ↓reduceIte, Bool.not_eq_true, reduceCtorEq, beq_false, beq_true, hP, c0, hx, hjl, hm1, w1, w2, w3, w4]); (first | done | exact rfl)))     | ((first | apply T_sd fw (by rw [hP]; rfl) | apply T_dr fw (by rw [hP]; rfl)); · ((try simp only [go_sem, seval, reduceIte, ↓reduceIte, bne, beq_false, beq_true, Bool.not_eq_true, Bool.if_true_right, decide_not, reduceCtorEq, hP, c0, hx, hjl, hm1, w1, w2, w3, w4]); (first | done | exact rfl)))     | refine T_seq ?_ | refine T_block ?_ | refine T_scopeJ 0 rfl ?_ | refine T_scope ?_ | refine T_goto ?_ | refine T_ret ?_ | refine T_skip ?_ | refine T_exit ?_ | refine T_label ?_     | refine T_condT rfl ?_ | refine T_condF rfl ?_     | refine T_condD rfl (fun _ => ?_) (fun _ => ?_)     | refine T_cond rfl (fun _ => ?_) (fun _ => ?_))
      refine rnd_next hlt ((j : Int) - 1, st * s[j], R') ⟨inv1, inv2, ?_⟩ (.refl _ _)
      rw [show s.length - (k + 1) = j from by omega, hstp, if_neg hm1, hR', show g.length - (k + 1) = g.length - 1 - k from by omega, List.replicate_succ']
      simp
  have hke : k = s.length := by omega
  rw [hke, Nat.sub_self, List.drop_zero] at hR'
  have c0 : ¬ i5 ≥ 0 := by omega
  repeat' (first     | refine T_then ?_ | refine then_ret ?_ | refine then_exit ?_ | refine then_goto ?_     | refine rnd_exit ?_ | refine rnd_ret ?_ | refine rnd_goto ?_     | refine noGo_normal ?_ | refine noGo_ret ?_ | refine noGo_exit ?_ | refine jmp_normal ?_ | refine jmp_ret ?_ | refine jmp_exit ?_ | refine jmp_goto ?_     | refine inB_normal ?_ | refine inB_ret ?_ | refine inB_goto ?_ | refine inB_exit ?_ | refine inB_exit_ne rfl ?_     | ((first | apply T_srE fw | apply T_regE fw); · ((try simp only [go_sem, seval, reduceIte, ↓reduceIte, hP, c0]); (repeat ((first       | (refine ⟨true, false, rfl, fun h => absurd h (by decide), ?_⟩) | (refine ⟨false, false, rfl, fun h => absurd h (by decide), ?_⟩) | refine ⟨_, _, rfl, fun _ => rfl, ?_⟩       | (refine .inl ⟨_, _, ⟨_, _, _, _, _, _, rfl, rfl, rfl, p_shape_Size _⟩, ?_⟩)       | (refine ⟨_, ?_, rfl, fun _ => ⟨_, ⟨_, _, _, _, _, _, rfl, rfl, rfl, p_shape_Size _⟩, ?_⟩, ?_⟩; rotate_left; (· (simp only [go_sem, seval, reduceIte, ↓reduceIte, hP, c0]; first | done | exact rfl)))); (try simp only [go_sem, seval, reduceIte, ↓reduceIte, hP, c0]))); (first | done | exact rfl)))     | ((first | apply T_sdF fw (by rw [hP]; rfl) (by decide +kernel) | apply T_drF fw (by rw [hP]; rfl) (by decide +kernel)); · ((try simp only [TOps.flat, List.cons_append, List.nil_append]); (repeat ((first | refine Y_g0 ?_ | refine Y_g (by (try simp only [go_sem, seval, reduceIte, ↓reduceIte, Bool.not_eq_true, reduceCtorEq, beq_false, beq_true, hP, c0]); (first | done | exact rfl)) ?_); (first | refine Y_skip ?_ | ((first | apply Y_q | (refine Y_call ⟨_, _, _, _, _, _, rfl, rfl, rfl, (by rw [hP]; exact p_shape_Size _)⟩ ?_ ?_)); (· ((try simp only [go_sem, seval, reduceIte, ↓reduceIte, Bool.not_eq_true, reduceCtorEq, beq_false, beq_true, hP, c0]); (first | done | exact rfl))))))); apply RunF_nil; (try simp only [go_sem, seval, reduceIte, ↓reduceIte, Bool.not_eq_true, reduceCtorEq, beq_false, beq_true, hP, c0]); (first | done | exact rfl)))     | ((first | apply T_sd fw (by rw [hP]; rfl) | apply T_dr fw (by rw [hP]; rfl)); · ((try simp only [go_sem, seval, reduceIte, ↓reduceIte, bne, beq_false, beq_true, Bool.not_eq_true, Bool.if_true_right, decide_not, reduceCtorEq, hP, c0]); (repeat ((first       | (refine ⟨_, ⟨_, _, _, _, _, _, rfl, rfl, rfl, p_shape_Size _⟩, ?_⟩)); (try simp only [go_sem, seval, reduceIte, ↓reduceIte, bne, beq_false, beq_true, Bool.not_eq_true, Bool.if_true_right, decide_not, reduceCtorEq, hP, c0]))); (first | done | exact rfl)))     | refine T_seq ?_ | refine T_block ?_ | refine T_scopeJ 0 rfl ?_ | refine T_scope ?_ | refine T_goto ?_ | refine T_ret ?_ | refine T_skip ?_ | refine T_exit ?_ | refine T_label ?_     | refine T_condT rfl ?_ | refine T_condF rfl ?_     | refine T_condD rfl (fun _ => ?_) (fun _ => ?_)     | refine T_cond rfl (fun _ => ?_) (fun _ => ?_))
  have hRs : R' = stepsL s g.length := hR'
  have hRl : R'.length = g.length := by rw [hRs]; exact steps_len hl
  refine T_weak (Weak.freeze (i := 4) rfl (toD_list (n := 5) (rows := rI R') (m := true) rfl (by simp [hRl]))) ?_
  simp only [if_true]
  refine T_weak (s' := { env := [(0, .one (.raw (.func (.yield l) #[] #[]))), (1, .one (.p (.box [eI g]))), (4, .one (.p (eI R'))), (45, .one (.p (.int .i64 (sizeS g)))), (46, .one (.p (.int .i64 0)))], σ := S0, ex := E })
    ((Weak.pick [0, 1, 4, 45, 46]).trans (Weak.sto (s := { env := _, σ := _, ex := E }) fun t => ?_)) ?_
  · by_cases h : t = 15
    · exact .inr (by rw [h]; exact hlo)
    · exact .inl (by simp [lo, h])
  refine T_weak (Weak.ren hρ) ?_
  simp only [AS.ren, List.map, AV.ren, AC.ren]
  have hS1 : renS ρ S0 = σ 0 := by rw [← hS0, renS_renS hρ]
  have hE1 : E.map (AV.ren ρ) = ex := by
    rw [← hE, List.map_map]
    conv => rhs; rw [← List.map_id ex]
    exact List.map_congr_left fun v _ => AV.ren_ren hρ v
  rw [hS1, hE1]
  have hz2 := sizeS_nn g
  refine T_for (sizeS g).toNat (fun i (_ : Unit) => { env := [(0, .one (.raw (.func (.yield l) #[] #[]))), (1, .one (.p (.box [eI g]))), (4, .one (.p (eI R'))), (45, .one (.p (.int .i64 (sizeS g)))), (46, .one (.p (.int .i64 i)))], σ := σ i, ex := ex })
    (fun _ _ => True) () trivial (.refl _ _) fun i _ hi _ => ?_
  by_cases hlt2 : i < (sizeS g).toNat
  rotate_left
  · have c1 : ¬ (i : Int) < sizeS g := by omega
    have e1 : i = (allF s g).length := by rw [allF_len]; omega
    repeat' (first     | refine T_then ?_ | refine then_ret ?_ | refine then_exit ?_ | refine then_goto ?_     | refine rnd_exit ?_ | refine rnd_ret ?_ | refine rnd_goto ?_     | refine noGo_normal ?_ | refine noGo_ret ?_ | refine noGo_exit ?_ | refine jmp_normal ?_ | refine jmp_ret ?_ | refine jmp_exit ?_ | refine jmp_goto ?_     | refine inB_normal ?_ | refine inB_ret ?_ | refine inB_goto ?_ | refine inB_exit ?_ | refine inB_exit_ne rfl ?_     | ((first | apply T_srE fw | apply T_regE fw); · ((try simp only [go_sem, seval, reduceIte, ↓reduceIte, hP, c1]); (repeat ((first       | (refine ⟨true, false, rfl, fun h => absurd h (by decide), ?_⟩) | (refine ⟨false, false, rfl, fun h => absurd h (by decide), ?_⟩) | refine ⟨_, _, rfl, fun _ => rfl, ?_⟩); (try simp only [go_sem, seval, reduceIte, ↓reduceIte, hP, c1]))); (first | done | exact rfl)))     | ((first | apply T_sdF fw (by rw [hP]; rfl) (by decide +kernel) | apply T_drF fw (by rw [hP]; rfl) (by decide +kernel)); · ((try simp only [TOps.flat, List.cons_append, List.nil_append]); (repeat ((first | refine Y_g0 ?_ | refine Y_g (by (try simp only [go_sem, seval, reduceIte, ↓reduceIte, Bool.not_eq_true, reduceCtorEq, beq_false, beq_true, hP, c1]); (first | done | exact rfl)) ?_); (first | refine Y_skip ?_ | ((first | apply Y_q); (· ((try simp only [go_sem, seval, reduceIte, ↓reduceIte, Bool.not_eq_true, reduceCtorEq, beq_false, beq_true, hP, c1]); (first | done | exact rfl))))))); apply RunF_nil; (try simp only [go_sem, seval, reduceIte, ↓reduceIte, Bool.not_eq_true, reduceCtorEq, beq_false, beq_true, hP, c1]); (first | done | exact rfl)))     | ((first | apply T_sd fw (by rw [hP]; rfl) | apply T_dr fw (by rw [hP]; rfl)); · ((try simp only [go_sem, seval, reduceIte, ↓reduceIte, bne, beq_false, beq_true, Bool.not_eq_true, Bool.if_true_right, decide_not, reduceCtorEq, hP, c1]); (first | done | exact rfl)))     | refine T_seq ?_ | refine T_block ?_ | refine T_scopeJ 0 rfl ?_ | refine T_scope ?_ | refine T_goto ?_ | refine T_ret ?_ | refine T_skip ?_ | refine T_exit ?_ | refine T_label ?_     | refine T_condT rfl ?_ | refine T_condF rfl ?_     | refine T_condD rfl (fun _ => ?_) (fun _ => ?_)     | refine T_cond rfl (fun _ => ?_) (fun _ => ?_))
    exact ⟨.inl rfl, by rw [e1], rfl⟩
  have c1 : (i : Int) < sizeS g := by omega
  have w1 : IntKind.i64.wrap ((i : Int) + 1) = ((i + 1 : Nat) : Int) := by rw [wrap_in (by omega) (by omega)]; rfl
  have hpx : PureC Try.prog fi_shape_Index [dI g, dN i] (.tup [dI (idxF g i), dN 0]) := by
    have := p_shape_Index g i
    rw [if_neg (by simp; omega)] at this
    exact this
  have hyi := hy i _ (allF_get s g i hlt2)
  have hix : InIdx g (idxF g i) := by rw [idxF_eq hg.2.1 (by omega) (by omega)]; exact ix_in hg.2.1
  have hfa : fromAt s g i = dotL (idxF g i) R' 0 := by rw [hRs]; rfl
  have hxl := hix.length
  generalize idxF g (i : Int) = x at *
  repeat' (first     | refine T_then ?_ | refine then_ret ?_ | refine then_exit ?_ | refine then_goto ?_     | refine rnd_exit ?_ | refine rnd_ret ?_ | refine rnd_goto ?_     | refine noGo_normal ?_ | refine noGo_ret ?_ | refine noGo_exit ?_ | refine jmp_normal ?_ | refine jmp_ret ?_ | refine jmp_exit ?_ | refine jmp_goto ?_     | refine inB_normal ?_ | refine inB_ret ?_ | refine inB_goto ?_ | refine inB_exit ?_ | refine inB_exit_ne rfl ?_     | ((first | apply T_srE fw | apply T_regE fw); · ((try simp only [go_sem, seval, reduceIte, ↓reduceIte, hP, c1, w1]); (repeat ((first       | (refine ⟨true, false, rfl, fun h => absurd h (by decide), ?_⟩) | (refine ⟨false, false, rfl, fun h => absurd h (by decide), ?_⟩) | refine ⟨_, _, rfl, fun _ => rfl, ?_⟩       | (refine .inl ⟨_, _, ⟨_, _, _, _, _, _, rfl, rfl, rfl, hpx⟩, ?_⟩)       | (refine ⟨_, ?_, rfl, fun _ => ⟨_, ⟨_, _, _, _, _, _, rfl, rfl, rfl, hpx⟩, ?_⟩, ?_⟩; rotate_left; (· (simp only [go_sem, seval, reduceIte, ↓reduceIte, hP, c1, w1]; first | done | exact rfl)))); (try simp only [go_sem, seval, reduceIte, ↓reduceIte, hP, c1, w1]))); (first | done | exact rfl)))     | ((first | apply T_sdF fw (by rw [hP]; rfl) (by decide +kernel) | apply T_drF fw (by rw [hP]; rfl) (by decide +kernel)); · ((try simp only [TOps.flat, List.cons_append, List.nil_append]); (repeat ((first | refine Y_g0 ?_ | refine Y_g (by (try simp only [go_sem, seval, reduceIte, ↓reduceIte, Bool.not_eq_true, reduceCtorEq, beq_false, beq_true, hP, c1, w1]); (first | done | exact rfl)) ?_); (first | refine Y_skip ?_ | ((first | apply Y_q | (refine Y_call ⟨_, _, _, _, _, _, rfl, rfl, rfl, (by rw [hP]; exact hpx)⟩ ?_ ?_)); (· ((try simp only [go_sem, seval, reduceIte, ↓reduceIte, Bool.not_eq_true, reduceCtorEq, beq_false, beq_true, hP, c1, w1]); (first | done | exact rfl))))))); apply RunF_nil; (try simp only [go_sem, seval, reduceIte, ↓reduceIte, Bool.not_eq_true, reduceCtorEq, beq_false, beq_true, hP, c1, w1]); (first | done | exact rfl)))     | ((first | apply T_sd fw (by rw [hP]; rfl) | apply T_dr fw (by rw [hP]; rfl)); · ((try simp only [go_sem, seval, reduceIte, ↓reduceIte, bne, beq_false, beq_true, Bool.not_eq_true, Bool.if_true_right, decide_not, reduceCtorEq, hP, c1, w1]); (repeat ((first       | (refine ⟨_, ⟨_, _, _, _, _, _, rfl, rfl, rfl, hpx⟩, ?_⟩)); (try simp only [go_sem, seval, reduceIte, ↓reduceIte, bne, beq_false, beq_true, Bool.not_eq_true, Bool.if_true_right, decide_not, reduceCtorEq, hP, c1, w1]))); (first | done | exact rfl)))     | refine T_seq ?_ | refine T_block ?_ | refine T_scopeJ 0 rfl ?_ | refine T_scope ?_ | refine T_goto ?_ | refine T_ret ?_ | refine T_skip ?_ | refine T_exit ?_ | refine T_label ?_     | refine T_condT rfl ?_ | refine T_condF rfl ?_     | refine T_condD rfl (fun _ => ?_) (fun _ => ?_)     | refine T_cond rfl (fun _ => ?_) (fun _ => ?_))
  refine T_for x.length (fun j (at_ : Int) => { env := [(0, .one (.raw (.func (.yield l) #[] #[]))), (1, .one (.p (.box [eI g]))), (4, .one (.p (eI R'))), (7, .one (.p (.int .i64 i))), (10, .one (.p (.int .i64 at_))), (45, .one (.p (.int .i64 (sizeS g)))), (46, .one (.p (.int .i64 i))), (55, .one (.p (eI x))), (56, .one (.p (.int .i64 x.length))), (57, .one (.p (.int .i64 j)))], σ := σ i, ex := ex })
    (fun j at_ => 0 ≤ at_ ∧ at_ ≤ j * 1024 ∧ dotL (x.drop j) (R'.drop j) at_ = fromAt s g i) 0 ⟨by omega, by omega, by rw [hfa]; rfl⟩ (.refl _ _) fun j at_ hj hat => ?_
  obtain ⟨a0, a1, hdot⟩ := hat
  have hg3 := hg.1
  by_cases hjl : j < x.length
  · have c2 : (j : Int) < (x.length : Int) := by omega
    have w2 : IntKind.i64.wrap ((j : Int) + 1) = ((j + 1 : Nat) : Int) := by rw [wrap_in (by omega) (by omega)]; rfl
    have hjR : j < R'.length := by omega
    have hx : x[j]? = some x[j] := List.getElem?_eq_getElem hjl
    have hr : R'[j]? = some R'[j] := List.getElem?_eq_getElem hjR
    have hgj : g[j]? = some g[j] := List.getElem?_eq_getElem (by omega)
    obtain ⟨k', hk', k0, k1⟩ := hix.get hgj
    rw [hx] at hk'; cases hk'
    have hgb := hg.2.1 _ (List.mem_of_getElem? hgj)
    have hrb : 0 ≤ R'[j] ∧ R'[j] ≤ 64 := steps_bound hs (n := g.length) (i := j) (by rw [← hRs]; exact hr)
    rw [List.drop_eq_getElem_cons hjl, List.drop_eq_getElem_cons hjR] at hdot
    simp only [dotL] at hdot
    have hpr : 0 ≤ x[j] * R'[j] ∧ x[j] * R'[j] ≤ 1024 := by
      refine ⟨Int.mul_nonneg k0 hrb.1, ?_⟩
      have h1 : x[j] * R'[j] ≤ 16 * R'[j] := Int.mul_le_mul_of_nonneg_right (by omega) hrb.1
      omega
    have w3 : IntKind.i64.wrap (x[j] * R'[j]) = x[j] * R'[j] := wrap_in (by omega) (by omega)
    generalize x[j] = xj at *
    generalize R'[j] = rj at *
    generalize hpq : xj * rj = pr at *
    have w4 : IntKind.i64.wrap (at_ + pr) = at_ + pr := wrap_in (by omega) (by omega)
    repeat' (first     | refine T_then ?_ | refine then_ret ?_ | refine then_exit ?_ | refine then_goto ?_     | refine rnd_exit ?_ | refine rnd_ret ?_ | refine rnd_goto ?_     | refine noGo_normal ?_ | refine noGo_ret ?_ | refine noGo_exit ?_ | refine jmp_normal ?_ | refine jmp_ret ?_ | refine jmp_exit ?_ | refine jmp_goto ?_     | refine inB_normal ?_ | refine inB_ret ?_ | refine inB_goto ?_ | refine inB_exit ?_ | refine inB_exit_ne rfl ?_     | ((first | apply T_srE fw | apply T_regE fw); · ((try simp only [go_sem, seval, reduceIte, ↓reduceIte, hP, c2, w2, hx, hr, hjl, hjR, w3, hpq, w4]); (repeat ((first       | (refine ⟨true, false, rfl, fun h => absurd h (by decide), ?_⟩) | (refine ⟨false, false, rfl, fun h => absurd h (by decide), ?_⟩) | refine ⟨_, _, rfl, fun _ => rfl, ?_⟩); (try simp only [go_sem, seval, reduceIte, ↓reduceIte, hP, c2, w2, hx, hr, hjl, hjR, w3, hpq, w4]))); (first | done | exact rfl)))     | ((first | apply T_sdF fw (by rw [hP]; rfl) (by decide +kernel) | apply T_drF fw (by rw [hP]; rfl) (by decide +kernel)); · ((try simp only [TOps.flat, List.cons_append, List.nil_append]); (repeat ((first | refine Y_g0 ?_ | refine Y_g (by (try simp only [go_sem, seval, reduceIte, ↓reduceIte, Bool.not_eq_true, reduceCtorEq, beq_false, beq_true, hP, c2, w2, hx, hr, hjl, hjR, w3, hpq, w4]); (first | done | exact rfl)) ?_); (first | refine Y_skip ?_ | ((first | apply Y_q); (· ((try simp only [go_sem, seval, reduceIte, ↓reduceIte, Bool.not_eq_true, reduceCtorEq, beq_false, beq_true, hP, c2, w2, hx, hr, hjl, hjR, w3, hpq, w4]); (first | done | exact rfl))))))); apply RunF_nil; (try simp only [go_sem, seval, reduceIte, ↓reduceIte, Bool.not_eq_true, reduceCtorEq, beq_false, beq_true, hP, c2, w2, hx, hr, hjl, hjR, w3, hpq, w4]); (first | done | exact rfl)))     | ((first | apply T_sd fw (by rw [hP]; rfl) | apply T_dr fw (by rw [hP]; rfl)); · ((try simp only [go_sem, seval, reduceIte, ↓reduceIte, bne, beq_false, beq_true, Bool.not_eq_true, Bool.if_true_right, decide_not, reduceCtorEq, hP, c2, w2, hx, hr, hjl, hjR, w3, hpq, w4]); (first | done | exact rfl)))     | refine T_seq ?_ | refine T_block ?_ | refine T_scopeJ 0 rfl ?_ | refine T_scope ?_ | refine T_goto ?_ | refine T_ret ?_ | refine T_skip ?_ | refine T_exit ?_ | refine T_label ?_     | refine T_condT rfl ?_ | refine T_condF rfl ?_     | refine T_condD rfl (fun _ => ?_) (fun _ => ?_)     | refine T_cond rfl (fun _ => ?_) (fun _ => ?_))
    exact rnd_next hjl (at_ + pr) ⟨by omega, by push_cast; omega, hdot⟩ (.refl _ _)
  · have hje : j = x.length := by omega
    have c2 : ¬ (j : Int) < (x.length : Int) := by omega
    rw [hje, List.drop_of_length_le (Nat.le_refl _)] at hdot
    simp only [dotL] at hdot
    rw [← hdot] at hyi
    repeat' (first     | refine T_then ?_ | refine then_ret ?_ | refine then_exit ?_ | refine then_goto ?_     | refine rnd_exit ?_ | refine rnd_ret ?_ | refine rnd_goto ?_     | refine noGo_normal ?_ | refine noGo_ret ?_ | refine noGo_exit ?_ | refine jmp_normal ?_ | refine jmp_ret ?_ | refine jmp_exit ?_ | refine jmp_goto ?_     | refine inB_normal ?_ | refine inB_ret ?_ | refine inB_goto ?_ | refine inB_exit ?_ | refine inB_exit_ne rfl ?_     | ((first | apply T_srE fw | apply T_regE fw); · ((try simp only [go_sem, seval, reduceIte, ↓reduceIte, hP, c2]); (repeat ((first       | (refine ⟨true, false, rfl, fun h => absurd h (by decide), ?_⟩) | (refine ⟨false, false, rfl, fun h => absurd h (by decide), ?_⟩) | refine ⟨_, _, rfl, fun _ => rfl, ?_⟩); (try simp only [go_sem, seval, reduceIte, ↓reduceIte, hP, c2]))); (first | done | exact rfl)))     | ((first | apply T_sdF fw (by rw [hP]; rfl) (by decide +kernel) | apply T_drF fw (by rw [hP]; rfl) (by decide +kernel)); · ((try simp only [TOps.flat, List.cons_append, List.nil_append]); (repeat ((first | refine Y_g0 ?_ | refine Y_g (by (try simp only [go_sem, seval, reduceIte, ↓reduceIte, Bool.not_eq_true, reduceCtorEq, beq_false, beq_true, hP, c2]); (first | done | exact rfl)) ?_); (first | refine Y_skip ?_ | ((first | apply Y_q); (· ((try simp only [go_sem, seval, reduceIte, ↓reduceIte, Bool.not_eq_true, reduceCtorEq, beq_false, beq_true, hP, c2]); (first | done | exact rfl))))))); apply RunF_nil; (try simp only [go_sem, seval, reduceIte, ↓reduceIte, Bool.not_eq_true, reduceCtorEq, beq_false, beq_true, hP, c2]); (first | done | exact rfl)))     | ((first | apply T_sd fw (by rw [hP]; rfl) | apply T_dr fw (by rw [hP]; rfl)); · ((try simp only [go_sem, seval, reduceIte, ↓reduceIte, bne, beq_false, beq_true, Bool.not_eq_true, Bool.if_true_right, decide_not, reduceCtorEq, hP, c2]); (first | done | exact rfl)))     | refine T_seq ?_ | refine T_block ?_ | refine T_scopeJ 0 rfl ?_ | refine T_scope ?_ | refine T_goto ?_ | refine T_ret ?_ | refine T_skip ?_ | refine T_exit ?_ | refine T_label ?_     | refine T_condT rfl ?_ | refine T_condF rfl ?_     | refine T_condD rfl (fun _ => ?_) (fun _ => ?_)     | refine T_cond rfl (fun _ => ?_) (fun _ => ?_))
    have hd : ∀ (d : Nat), d < 77 → ∀ t, some d = some t → t < G.nt := fun d hd t ht => by cases ht; omega
    refine T_steps fw (S := { env := [(0, .one (.raw (.func (.yield l) #[] #[]))), (1, .one (.p (.box [eI g]))), (4, .one (.p (eI R'))), (45, .one (.p (.int .i64 (sizeS g)))), (46, .one (.p (.int .i64 i))), (75, .one (.p (.bool false)))], σ := σ (i + 1), ex := ex })
      (.q (hd _ (by decide)) rfl (.q (hd _ (by decide)) rfl (.q (hd _ (by decide)) rfl (.yld (hd _ (by decide)) (yStep fam hR hno hA hyi hex rfl rfl fun d i => lk_has (by simp only [putd, get, lk, List.all_cons, List.all_nil]; simp [AV.has, AC.has, lk]) i) (.q (hd _ (by decide)) rfl (.weak (Weak.drop.trans (Weak.pick [0, 1, 4, 45, 46, 75])) .nil)))))) ?_
    repeat' (first     | refine T_then ?_ | refine then_ret ?_ | refine then_exit ?_ | refine then_goto ?_     | refine rnd_exit ?_ | refine rnd_ret ?_ | refine rnd_goto ?_     | refine noGo_normal ?_ | refine noGo_ret ?_ | refine noGo_exit ?_ | refine jmp_normal ?_ | refine jmp_ret ?_ | refine jmp_exit ?_ | refine jmp_goto ?_     | refine inB_normal ?_ | refine inB_ret ?_ | refine inB_goto ?_ | refine inB_exit ?_ | refine inB_exit_ne rfl ?_     | ((first | apply T_srE fw | apply T_regE fw); · ((try simp only [go_sem, seval, reduceIte, ↓reduceIte, hP, w1]); (repeat ((first       | (refine ⟨true, false, rfl, fun h => absurd h (by decide), ?_⟩) | (refine ⟨false, false, rfl, fun h => absurd h (by decide), ?_⟩) | refine ⟨_, _, rfl, fun _ => rfl, ?_⟩); (try simp only [go_sem, seval, reduceIte, ↓reduceIte, hP, w1]))); (first | done | exact rfl)))     | ((first | apply T_sdF fw (by rw [hP]; rfl) (by decide +kernel) | apply T_drF fw (by rw [hP]; rfl) (by decide +kernel)); · ((try simp only [TOps.flat, List.cons_append, List.nil_append]); (repeat ((first | refine Y_g0 ?_ | refine Y_g (by (try simp only [go_sem, seval, reduceIte, ↓reduceIte, Bool.not_eq_true, reduceCtorEq, beq_false, beq_true, hP, w1]); (first | done | exact rfl)) ?_); (first | refine Y_skip ?_ | ((first | apply Y_q); (· ((try simp only [go_sem, seval, reduceIte, ↓reduceIte, Bool.not_eq_true, reduceCtorEq, beq_false, beq_true, hP, w1]); (first | done | exact rfl))))))); apply RunF_nil; (try simp only [go_sem, seval, reduceIte, ↓reduceIte, Bool.not_eq_true, reduceCtorEq, beq_false, beq_true, hP, w1]); (first | done | exact rfl)))     | ((first | apply T_sd fw (by rw [hP]; rfl) | apply T_dr fw (by rw [hP]; rfl)); · ((try simp only [go_sem, seval, reduceIte, ↓reduceIte, bne, beq_false, beq_true, Bool.not_eq_true, Bool.if_true_right, decide_not, reduceCtorEq, hP, w1]); (first | done | exact rfl)))     | refine T_seq ?_ | refine T_block ?_ | refine T_scopeJ 0 rfl ?_ | refine T_scope ?_ | refine T_goto ?_ | refine T_ret ?_ | refine T_skip ?_ | refine T_exit ?_ | refine T_label ?_     | refine T_condT rfl ?_ | refine T_condF rfl ?_     | refine T_condD rfl (fun _ => ?_) (fun _ => ?_)     | refine T_cond rfl (fun _ => ?_) (fun _ => ?_))
    exact rnd_next hlt2 () trivial (.refl _ _)
end Go.AM

namespace Go.AM
open Go Go.Proofs
set_option maxRecDepth 100000
set_option maxHeartbeats 4000000

theorem side_pos {s : List Int} (h : ShapeOk s) (i : Nat) : 1 ≤ sideS s i := by
  by_cases hi : i < s.length
  · have := sideS_lt hi
    exact (h.2.1 _ (List.mem_of_getElem? this)).1
  · rw [sideS_ge (by omega)]; omega
theorem side_ext {s t : List Int} (hl : s.length = t.length) (h : ∀ i, i < s.length → sideS s i = sideS t i) : s = t := by
  have key : s.reverse = t.reverse := by
    apply List.ext_getElem?
    intro i
    by_cases hi : i < s.length
    · have := h i hi
      unfold sideS at this
      rw [List.getElem?_eq_getElem (by simpa using hi), List.getElem?_eq_getElem (by simp; omega)] at this ⊢
      simpa using this
    · rw [List.getElem?_eq_none (by simp; omega), List.getElem?_eq_none (by simp; omega)]
  have := congrArg List.reverse key
  simpa using this
theorem side_joinSh {a b : List Int} {k i : Nat} (hi : i < k) : sideS (joinSh a b k) i = maxS a b i := by
  unfold sideS joinSh
  rw [List.reverse_reverse, List.getElem?_map, List.getElem?_range hi]; rfl
structure JoinOk (a b r : List Int) : Prop where
  ha : ShapeOk a
  hb : ShapeOk b
  hr : ShapeOk r
  len : r.length = max a.length b.length
  side : ∀ i, sideS r i = max (sideS a i) (sideS b i)
  ok : ∀ i, sideS a i = sideS b i ∨ sideS a i = 1 ∨ sideS b i = 1
theorem clash_iff {x y : Int} : clash x y = false ↔ x = y ∨ x = 1 ∨ y = 1 := by
  unfold clash
  by_cases h1 : x = y <;> by_cases h2 : x = 1 <;> by_cases h3 : y = 1 <;> simp [h1, h2, h3]
theorem joinOk_of {a b : List Int} (h : joinOk a b = true) : JoinOk a b (joinSh a b (max a.length b.length)) := by
  unfold joinOk at h
  simp only [Bool.and_eq_true, List.all_eq_true, List.mem_range] at h
  obtain ⟨h1, h2, h3, h4⟩ := h
  refine ⟨checkS_iff.1 h1, checkS_iff.1 h2, checkS_iff.1 h4, joinSh_len _ _ _, fun i => ?_, fun i => ?_⟩
  · by_cases hi : i < max a.length b.length
    · exact side_joinSh hi
    · rw [sideS_ge (by rw [joinSh_len]; omega), sideS_ge (s := a) (by omega), sideS_ge (s := b) (by omega)]; rfl
  · by_cases hi : i < max a.length b.length
    · have := h3 i hi
      rw [Bool.not_eq_true'] at this
      exact clash_iff.1 this
    · left; rw [sideS_ge (s := a) (by omega), sideS_ge (s := b) (by omega)]
theorem JoinOk.eq {a b r : List Int} (h : JoinOk a b r) : joinSF a b = (r, 0) := by
  have hr : joinSh a b (max a.length b.length) = r := side_ext (by rw [joinSh_len, h.len]) fun i hi => by
    rw [joinSh_len] at hi
    rw [side_joinSh hi, h.side i]; rfl
  have hk : joinOk a b = true := by
    unfold joinOk
    rw [checkS_iff.2 h.ha, checkS_iff.2 h.hb, hr, checkS_iff.2 h.hr]
    have : ((List.range (max a.length b.length)).all fun i => !clash (sideS a i) (sideS b i)) = true := by
      rw [List.all_eq_true]
      intro i _
      rw [clash_iff.2 (h.ok i)]; rfl
    rw [this]; rfl
  unfold joinSF
  rw [if_pos hk, hr]
theorem join_or (a b : List Int) : (∃ r, JoinOk a b r ∧ joinSF a b = (r, 0)) ∨ ((¬ ∃ r, JoinOk a b r) ∧ joinSF a b = ([], 20)) := by
  by_cases h : joinOk a b = true
  · exact .inl ⟨_, joinOk_of h, (joinOk_of h).eq⟩
  · have e : joinSF a b = ([], 20) := by unfold joinSF; rw [if_neg h]
    refine .inr ⟨?_, e⟩
    rintro ⟨r, k⟩
    rw [k.eq] at e; simp at e
theorem JoinOk.comm {a b r : List Int} (h : JoinOk a b r) : JoinOk b a r :=
  ⟨h.hb, h.ha, h.hr, by rw [h.len]; omega, fun i => by rw [h.side i]; omega, fun i => by have := h.ok i; omega⟩
theorem JoinOk.left {a b r : List Int} (h : JoinOk a b r) : JoinOk a r r :=
  ⟨h.ha, h.hr, h.hr, by have := h.len; omega, fun i => by have := h.side i; omega, fun i => by
    have h1 := h.side i; have h2 := h.ok i; have h3 := side_pos h.ha i; have h4 := side_pos h.hb i; omega⟩
theorem JoinOk.right {a b r : List Int} (h : JoinOk a b r) : JoinOk b r r := h.comm.left
theorem JoinOk.self {s : List Int} (h : ShapeOk s) : JoinOk s s s := ⟨h, h, h, by omega, fun i => by omega, fun i => .inl rfl⟩
theorem shape_nil : ShapeOk [] := checkS_iff.1 (by decide)
theorem JoinOk.nil {s : List Int} (h : ShapeOk s) : JoinOk [] s s :=
  ⟨shape_nil, h, h, by simp, fun i => by have := side_pos h i; rw [sideS_ge (s := []) (by simp)]; omega, fun i => .inr (.inl (sideS_ge (by simp)))⟩
theorem JoinOk.trans {a b r : List Int} (h : JoinOk a b b) (k : JoinOk b r r) : JoinOk a r r :=
  ⟨h.ha, k.hb, k.hr, by have := h.len; have := k.len; omega, fun i => by have := h.side i; have := k.side i; omega, fun i => by
    have h1 := h.side i; have h2 := h.ok i; have h3 := side_pos h.ha i; have h4 := side_pos h.hb i
    have k1 := k.side i; have k2 := k.ok i; have k4 := side_pos k.hb i; omega⟩
theorem fits_of {s g : List Int} (h : JoinOk s g g) : fitsS s g = true := by
  unfold fitsS; rw [h.eq]; simp [sameL_refl]
theorem of_fits {s g : List Int} (h : fitsS s g = true) : JoinOk s g g := by
  unfold fitsS at h
  rcases join_or s g with ⟨r, k, e⟩ | ⟨_, e⟩
  · rw [e] at h
    simp only [beq_self_eq_true, Bool.true_and] at h
    have := sameL_iff.1 h
    subst this
    exact k
  · rw [e] at h; simp at h
def clip : List Int → List Int → List Int
  | m :: s, k :: x => (if m > 1 then k else 0) :: clip s x
  | _, _ => []
def FitR (s g : List Int) : Prop := All2 (fun m k => m = k ∨ m = 1) s g
theorem clip_in : ∀ {s g x : List Int}, Sides s → FitR s g → InIdx g x → InIdx s (clip s x)
  | [], _, _, _, h, _ => by cases h; cases ‹InIdx _ _›; exact .nil
  | m :: s, _, _, hs, h, hx => by
    cases h with
    | cons h t => cases hx with
      | cons k0 k1 hx =>
        have := hs.head
        refine .cons ?_ ?_ (clip_in hs.tail t hx)
        · split <;> omega
        · split <;> omega
theorem dot_clip : ∀ {s g x : List Int} {a : Int}, Sides s → FitR s g → InIdx g x → dotL x (stp s) a = a + pl s (clip s x) 0
  | [], _, _, a, _, h, hx => by cases h; cases hx; simp [dotL, stp, clip, pl]
  | m :: s, _, _, a, hs, h, hx => by
    cases h with
    | cons h t => cases hx with
      | @cons _ k _ _ k0 k1 hx =>
        have ih := dot_clip (a := a + k * (if m > 1 then prd s else 0)) hs.tail t hx
        have h2 := pl_add (clip_in hs.tail t hx) (0 * m + (if m > 1 then k else 0))
        simp only [dotL, stp, clip, pl]
        rw [ih, h2]
        split <;> simp <;> omega
theorem dot_skip : ∀ {n : Nat} {x1 x2 t : List Int} {a : Int}, x1.length = n → dotL (x1 ++ x2) (List.replicate n 0 ++ t) a = dotL x2 t a
  | 0, [], _, _, _, _ => rfl
  | n + 1, k :: x1, x2, t, a, h => by
    simp only [List.cons_append, List.replicate_succ, dotL, Int.mul_zero, Int.add_zero]
    exact dot_skip (by simpa using h)
theorem JoinOk.fitR {s g : List Int} (h : JoinOk s g g) : s.length ≤ g.length ∧ FitR s (g.drop (g.length - s.length)) := by
  have hl : s.length ≤ g.length := by have := h.len; omega
  refine ⟨hl, All2.of_get (by simp; omega) fun i m k hm hk => ?_⟩
  have hi := (List.getElem?_eq_some_iff.1 hm).1
  have e1 := sideS_lt (s := s) (i := s.length - 1 - i) (by omega)
  have e2 := sideS_lt (s := g) (i := s.length - 1 - i) (by omega)
  rw [show s.length - 1 - (s.length - 1 - i) = i from by omega, hm] at e1
  rw [List.getElem?_drop] at hk
  rw [show g.length - 1 - (s.length - 1 - i) = g.length - s.length + i from by omega, hk] at e2
  have h1 := h.side (s.length - 1 - i); have h2 := h.ok (s.length - 1 - i); have h3 := side_pos h.ha (s.length - 1 - i); have h4 := side_pos h.hb (s.length - 1 - i)
  simp only [Option.some.injEq] at e1 e2
  omega
theorem InIdx.drop {s x : List Int} (h : InIdx s x) : ∀ n, InIdx (s.drop n) (x.drop n) := by
  induction h with
  | nil => intro n; simp; exact .nil
  | cons k0 k1 h ih =>
    intro n
    cases n with
    | zero => exact .cons k0 k1 h
    | succ n => exact ih n
def fromX (s x : List Int) : List Int := clip s (x.drop (x.length - s.length))
theorem fromX_in {s g x : List Int} (h : JoinOk s g g) (hx : InIdx g x) : InIdx s (fromX s x) := by
  have hf := h.fitR
  have hxl := hx.length
  unfold fromX
  rw [← hxl]
  exact clip_in h.ha.2.1 hf.2 (hx.drop _)
theorem fromAt_eq {s g : List Int} (h : JoinOk s g g) {p : Nat} (hp : (p : Int) < prd g) : fromAt s g p = pl s (fromX s (ix g p)) 0 := by
  have hf := h.fitR
  have hix : InIdx g (ix g p) := ix_in h.hb.2.1
  have hxl := hix.length
  have h64 := h.hb.2.2
  unfold fromAt fromX stepsL
  rw [idxF_eq h.hb.2.1 (by omega) (by omega)]
  generalize ix g (p : Int) = x at *
  rw [← hxl]
  conv => lhs; rw [← List.take_append_drop (g.length - s.length) x]
  rw [dot_skip (by simp; omega), dot_clip h.ha.2.1 hf.2 (hix.drop _), Int.zero_add]
theorem fromAt_lt {s g : List Int} (h : JoinOk s g g) {p : Nat} (hp : (p : Int) < prd g) : 0 ≤ fromAt s g p ∧ fromAt s g p < prd s := by
  rw [fromAt_eq h hp]
  exact pl_lt (fromX_in h (ix_in h.hb.2.1))
def spreadD (s d g : List Int) : List Int := mk g fun x => (atF s d (fromX s x)).1
def spreadN (s d g : List Int) (n : Nat) : List Int := (List.range n).map fun p => (d[(fromAt s g ((p : Nat) : Int)).toNat]?).getD 0
theorem spreadN_eq {s d g : List Int} (h : JoinOk s g g) (hc : checkT s d = true) : spreadN s d g (sizeS g).toNat = spreadD s d g := by
  unfold spreadN spreadD mk
  apply List.map_congr_left
  intro p hp
  have hp := List.mem_range.1 hp
  have hsz := sizeS_ok h.hb
  have h64 := h.hb.2.2
  have hlt : (p : Int) < prd g := by omega
  have hix : InIdx g (ix g p) := ix_in h.hb.2.1
  rw [fromAt_eq h hlt, idxF_eq h.hb.2.1 (by omega) (by omega)]
  show _ = (atF s d (fromX s (ix g p))).1
  rw [atF_ok hc (fromX_in h hix)]
theorem clip_self : ∀ {s x : List Int}, InIdx s x → clip s x = x
  | [], _, h => by cases h; rfl
  | m :: s, _, h => by
    cases h with
    | @cons _ k _ _ k0 k1 h =>
      simp only [clip, clip_self h]
      congr 1
      split <;> omega
end Go.AM

namespace Go.AM
open Go Go.Proofs
set_option maxRecDepth 100000
set_option maxHeartbeats 4000000

def spreadF (s d g : List Int) : (List Int × List Int) × Int :=
  if checkT s d = true then (if fitsS s g = true then ((g, spreadD s d g), 0) else bad 20) else bad 30
theorem spreadN_len (s d g : List Int) (k : Nat) : (spreadN s d g k).length = k := by simp [spreadN]
theorem spreadN_succ (s d g : List Int) (k : Nat) : spreadN s d g (k + 1) = spreadN s d g k ++ [(d[(fromAt s g ((k : Nat) : Int)).toNat]?).getD 0] := by
  simp [spreadN, List.range_succ]
def spD (s d g : List Int) (k : Nat) : List Int := spreadN s d g k ++ List.replicate ((sizeS g).toNat - k) 0
theorem spD_len {s d g : List Int} {k : Nat} (h : k ≤ (sizeS g).toNat) : (spD s d g k).length = (sizeS g).toNat := by simp [spD, spreadN_len]; omega
theorem spD_set {s d g : List Int} {k : Nat} (h : k < (sizeS g).toNat) : (spD s d g k).set k ((d[(fromAt s g ((k : Nat) : Int)).toNat]?).getD 0) = spD s d g (k + 1) := by
  unfold spD
  rw [spreadN_succ, List.set_append_right _ _ (by rw [spreadN_len]; omega), spreadN_len, Nat.sub_self]
  rw [show (sizeS g).toNat - k = ((sizeS g).toNat - (k + 1)) + 1 from by omega, List.replicate_succ]
  simp
def spS (s d g : List Int) (k : Nat) : Sto :=
  [(2, .cells true [.p (eI s), .p (eI d)]), (4, .cells true [.nils, .nils]), (6, .cells true [.msl 5 0 1 g.length none, .msl 30 0 1 (sizeS g).toNat (some (sizeS g).toNat)]), (5, .arr true 1 (rI g)), (30, .arr true 1 (rI (spD s d g k)))]
theorem sp_fam (s d g : List Int) : Fam (spS s d g) [] := by
  refine ⟨fun k p hp => ?_, fun k t ht => ?_, fun k d hd => ?_, fun k t d hd ht => ?_⟩
  · simp only [spS, List.mem_cons, List.not_mem_nil, or_false] at hp
    rcases hp with rfl | rfl | rfl | rfl | rfl <;> rfl
  · by_cases h : t ∈ (spS s d g k).map (·.1)
    · exact h
    · exact absurd (lo_none h) ht
  · simp at hd
  · simp at hd
theorem p_tensor_Spread (s d g : List Int) : PureC Try.prog fi_tensor_Spread [dT s d, dI g] (dTE (spreadF s d g)) := by
  refine pure_tensor_Spread (by simp) fun G hP hn => ?_
  unfold a_tensor_Spread
  have kc := p_tensor_Check s d
  cases h1 : checkT s d
  · rw [h1] at kc
    have hf : spreadF s d g = bad 30 := by unfold spreadF; rw [if_neg (by simp [h1])]
    refine go trivial kc ?_
    exact ends_ret rfl rfl rfl (by rw [hf]; rfl)
  rw [h1] at kc
  have kf := p_shape_Fits s g
  cases h2 : fitsS s g
  · rw [h2] at kf
    have hf : spreadF s d g = bad 20 := by unfold spreadF; rw [if_pos h1, if_neg (by simp [h2])]
    refine go trivial (aa kc kf) ?_
    exact ends_ret rfl rfl rfl (by rw [hf]; rfl)
  rw [h2] at kf
  have hj := of_fits h2
  have kF := m_tensor_Full (s := g) 0 (checkS_iff.2 hj.hb)
  have kfrom := p_tensor_from s g
  refine go trivial (aa kc <| aa kf <| aa kF kfrom) ?_
  refine T_range rfl (by rw [hP]; exact q_tensor_from_1 hj.ha hj.hb hj.fitR.1) (spS s d g) [] (by rw [hn]; rfl) (fun x hx => by
    simp only [allF, List.mem_map] at hx
    obtain ⟨p, _, rfl⟩ := hx
    rfl) (fun t => ?_) (sp_fam s d g) (fun t ht => ?_) (fun d hd => by simp at hd) ?_ ?_
  · left
    have : spD s d g 0 = List.replicate (sizeS g).toNat 0 := by simp [spD, spreadN]
    simp only [spS, this, lo]
  · by_cases h : t ∈ (spS s d g 0).map (·.1)
    · exact h
    · exact absurd (lo_none h) ht
  · intro k v hv F n G' G'' ex fw h1' h2' h3' h4' hfr
    have hP : G''.P = Try.prog := h3'.trans hP
    have hk : k < (sizeS g).toNat := by
      have := (List.getElem?_eq_some_iff.1 hv).1
      rwa [allF_len] at this
    rw [allF_get s g k hk] at hv
    cases hv
    have hsz := sizeS_ok hj.hb
    have hlt := fromAt_lt hj (p := k) (by omega)
    have hdl := (checkT_iff.1 h1).2
    obtain ⟨q, hq⟩ := Int.eq_ofNat_of_zero_le hlt.1
    have hset := spD_set (s := s) (d := d) hk
    have hlen := spD_len (s := s) (d := d) (Nat.le_of_lt hk)
    rw [hq, Int.toNat_natCast] at hset
    have hql : q < d.length := by omega
    have hx : d[q]? = some d[q] := List.getElem?_eq_getElem hql
    rw [hx] at hset
    simp only [Option.getD_some] at hset
    obtain ⟨z, hz⟩ : ∃ z, (spD s d g k)[k]? = some z := ⟨_, List.getElem?_eq_getElem (by omega)⟩
    simp only [putE, List.map, spS, hq]
    generalize (sizeS g).toNat = N at *
    generalize spD s d g k = R at *
    repeat' (first     | refine T_then ?_ | refine then_ret ?_ | refine then_exit ?_ | refine then_goto ?_     | refine rnd_exit ?_ | refine rnd_ret ?_ | refine rnd_goto ?_     | refine noGo_normal ?_ | refine noGo_ret ?_ | refine noGo_exit ?_ | refine jmp_normal ?_ | refine jmp_ret ?_ | refine jmp_exit ?_ | refine jmp_goto ?_     | refine inB_normal ?_ | refine inB_ret ?_ | refine inB_goto ?_ | refine inB_exit ?_ | refine inB_exit_ne rfl ?_     | ((first | apply T_sr fw | apply T_reg fw); · ((try simp only [go_sem, seval, reduceIte, ↓reduceIte, hP]); (repeat ((first       | (refine ⟨true, false, rfl, fun h => absurd h (by decide), ?_⟩) | (refine ⟨false, false, rfl, fun h => absurd h (by decide), ?_⟩) | refine ⟨_, _, rfl, fun _ => rfl, ?_⟩); (try simp only [go_sem, seval, reduceIte, ↓reduceIte, hP]))); (first | done | exact rfl)))     | ((first | apply T_sdF fw (by rw [hP]; rfl) (by decide +kernel) | apply T_drF fw (by rw [hP]; rfl) (by decide +kernel)); · ((try simp only [TOps.flat, List.cons_append, List.nil_append]); (repeat ((first | refine Y_g0 ?_ | refine Y_g (by (try simp only [go_sem, seval, reduceIte, ↓reduceIte, Bool.not_eq_true, reduceCtorEq, beq_false, beq_true, hP]); (first | done | exact rfl)) ?_); (first | refine Y_skip ?_ | ((first | apply Y_q); (· ((try simp only [go_sem, seval, reduceIte, ↓reduceIte, Bool.not_eq_true, reduceCtorEq, beq_false, beq_true, hP]); (first | done | exact rfl))))))); apply RunF_nil; (try simp only [go_sem, seval, reduceIte, ↓reduceIte, Bool.not_eq_true, reduceCtorEq, beq_false, beq_true, hP]); (first | done | exact rfl)))     | ((first | apply T_sd fw (by rw [hP]; rfl) | apply T_dr fw (by rw [hP]; rfl)); · ((try simp only [go_sem, seval, reduceIte, ↓reduceIte, bne, beq_false, beq_true, Bool.not_eq_true, Bool.if_true_right, decide_not, reduceCtorEq, hP]); (first | done | exact rfl)))     | refine T_seq ?_ | refine T_block ?_ | refine T_scopeJ 0 rfl ?_ | refine T_scope ?_ | refine T_goto ?_ | refine T_ret ?_ | refine T_skip ?_ | refine T_exit ?_ | refine T_label ?_     | refine T_condT rfl ?_ | refine T_condF rfl ?_     | refine T_condD rfl (fun _ => ?_) (fun _ => ?_)     | refine T_cond rfl (fun _ => ?_) (fun _ => ?_))
    refine ⟨rfl, ?_⟩
    apply T_block
    apply T_dr fw (by rw [hP]; rfl)
    · simp only [go_sem, seval, reduceIte, ↓reduceIte, bne, beq_false, beq_true, Bool.not_eq_true, Bool.if_true_right, decide_not, reduceCtorEq, hP, all1, hx, hql, hz, hlen, hk, rI_set]
      exact rfl
    refine go trivial trivial ?_
    refine ⟨rfl, fun p hp => ?_, rfl⟩
    simp only [List.mem_cons, List.not_mem_nil, or_false] at hp
    rcases hp with rfl | rfl | rfl | rfl | rfl
    · rfl
    · rfl
    · rfl
    · rfl
    · simp [lo, hset]
  · simp only [List.cons_append, List.nil_append, spS, allF_len]
    have he : spD s d g (sizeS g).toNat = spreadD s d g := by unfold spD; rw [Nat.sub_self, spreadN_eq hj h1]; simp
    have hsl : (spreadD s d g).length = (sizeS g).toNat := by rw [← he]; exact spD_len (Nat.le_refl _)
    rw [he]
    generalize (sizeS g).toNat = N at *
    refine go trivial trivial ?_
    exact ends_twoM (t1 := 5) (t2 := 30) (by decide) rfl rfl rfl (by simp) (by simp [hsl]) (.inr ⟨_, rfl, rfl⟩) (by unfold spreadF; rw [if_pos h1, if_pos h2]; rfl)
end Go.AM

namespace Go.AM
open Go Go.Proofs
set_option maxRecDepth 100000
set_option maxHeartbeats 4000000

def twoF (W : Int → Int → Int × Int) (s d t e : List Int) : (List Int × List Int) × Int :=
  if checkT s d = true ∧ checkT t e = true then (if (joinSF s t).2 = 0 then eachF (joinSF s t).1 (fun p => W (gt (spreadD s d (joinSF s t).1) p) (gt (spreadD t e (joinSF s t).1) p)) else bad 20) else bad 30
theorem gt_some {d : List Int} {p : Nat} (h : p < d.length) : d[p]? = some (gt d p) := by unfold gt; rw [List.getElem?_eq_getElem h]; rfl
theorem spread_I64 {s d g : List Int} (h : I64s d) : I64s (spreadD s d g) := I64s.mk fun x => atF_range h
theorem spread_len {s d g : List Int} (h : ShapeOk g) : (spreadD s d g).length = (sizeS g).toNat := by
  have := mk_len h (fun x => (atF s d (fromX s x)).1)
  have h2 := sizeS_ok h
  unfold spreadD; omega
theorem p_elem_Two' {op : Int} {f : FuncId} {W : Int → Int → Int × Int} (hop : (op = 10 ∧ f = fi_fix_Add) ∨ (op = 11 ∧ f = fi_fix_Sub) ∨ (op = 12 ∧ f = fi_fix_Mul) ∨ (op = 13 ∧ f = fi_fix_Div))
    (s d t e : List Int) (hd : I64s d) (he : I64s e) (hW : ∀ p, p < (sizeS (joinSF s t).1).toNat → PureC Try.prog f [dN (gt (spreadD s d (joinSF s t).1) p), dN (gt (spreadD t e (joinSF s t).1) p)] (dNE (W (gt (spreadD s d (joinSF s t).1) p) (gt (spreadD t e (joinSF s t).1) p)))) :
    PureC Try.prog fi_elem_Two [dN op, dT s d, dT t e] (dTE (twoF W s d t e)) := by
  refine pure_elem_Two (by simp) fun G hP hn => ?_
  unfold a_elem_Two
  have kk := p_elem_kinds
  unfold kindsM at kk
  have kc1 := p_tensor_Check s d
  have kc2 := p_tensor_Check t e
  have kj := p_shape_Join s t
  have kx := p_tensor_Spread s d (joinSF s t).1
  have ky := p_tensor_Spread t e (joinSF s t).1
  rcases hop with ⟨rfl, rfl⟩ | ⟨rfl, rfl⟩ | ⟨rfl, rfl⟩ | ⟨rfl, rfl⟩
  all_goals
    cases h1 : checkT s d
    · have hf : twoF W s d t e = bad 30 := by unfold twoF; rw [if_neg (by simp [h1])]
      rw [h1] at kc1
      refine go trivial (aa kk kc1) ?_
      exact ends_ret rfl rfl rfl (by rw [hf]; rfl)
    cases h2 : checkT t e
    · have hf : twoF W s d t e = bad 30 := by unfold twoF; rw [if_neg (by simp [h2])]
      rw [h1] at kc1
      rw [h2] at kc2
      refine go trivial (aa kk <| aa kc1 kc2) ?_
      exact ends_ret rfl rfl rfl (by rw [hf]; rfl)
    rw [h1] at kc1
    rw [h2] at kc2
    rcases join_or s t with ⟨r, hj, hr⟩ | ⟨_, hr⟩
    rotate_left
    · have hf : twoF W s d t e = bad 20 := by unfold twoF; rw [if_pos ⟨h1, h2⟩, hr, if_neg (by simp)]
      rw [hr] at kj
      refine go trivial (aa kk <| aa kc1 <| aa kc2 kj) ?_
      exact ends_ret rfl rfl rfl (by rw [hf]; rfl)
    · have hf : twoF W s d t e = eachF r (fun p => W (gt (spreadD s d r) p) (gt (spreadD t e r) p)) := by unfold twoF; rw [if_pos ⟨h1, h2⟩, hr, if_pos rfl]
      rw [hr] at kj kx ky hW
      have hx : spreadF s d r = ((r, spreadD s d r), 0) := by unfold spreadF; rw [if_pos h1, if_pos (fits_of hj.left)]
      have hy : spreadF t e r = ((r, spreadD t e r), 0) := by unfold spreadF; rw [if_pos h2, if_pos (fits_of hj.right)]
      rw [hx] at kx
      rw [hy] at ky
      have lx := spread_len (s := s) (d := d) hj.hr
      have ly := spread_len (s := t) (d := e) hj.hr
      have ix := spread_I64 (s := s) (g := r) hd
      have iy := spread_I64 (s := t) (g := r) he
      generalize spreadD s d r = xd at *
      generalize spreadD t e r = yd at *
      have kE := fun (k1 : PV) (f2 : FuncId) (hW : ∀ p, p < (sizeS r).toNat → PureC Try.prog f2 [dN (gt xd p), dN (gt yd p)] (dNE (W (gt xd p) (gt yd p)))) => p_elem_each (f := fi_elem_Two_1) (caps := [.box [k1, .fn f2 [] []], .box [eI r, eI xd], .box [eI r, eI yd]]) (s := r) (h := fun p => W (gt xd p) (gt yd p)) (by have := hj.hr.1; omega)
        (fun p hp => p_elem_Two_1 (gt_some (by omega)) (gt_some (by omega)) (hW p hp))
      refine go trivial (aa kk <| aa kc1 <| aa kc2 <| aa kj <| aa kx <| aa ky (kE _ _ hW)) ?_
      exact ends_ret rfl rfl rfl (by rw [hf]; rfl)
theorem p_elem_Two {op : Int} {f : FuncId} {W : Int → Int → Int × Int} (hop : (op = 10 ∧ f = fi_fix_Add) ∨ (op = 11 ∧ f = fi_fix_Sub) ∨ (op = 12 ∧ f = fi_fix_Mul) ∨ (op = 13 ∧ f = fi_fix_Div))
    (hW : ∀ a b, I64 a → I64 b → PureC Try.prog f [dN a, dN b] (dNE (W a b))) (s d t e : List Int) (hd : I64s d) (he : I64s e) : PureC Try.prog fi_elem_Two [dN op, dT s d, dT t e] (dTE (twoF W s d t e)) :=
  p_elem_Two' hop s d t e hd he fun p _ => hW _ _ (gt_range (spread_I64 hd) p) (gt_range (spread_I64 he) p)
end Go.AM

namespace Go.AM
open Go Go.Proofs
set_option maxRecDepth 100000
set_option maxHeartbeats 4000000

theorem k_Add {s d t e : List Int} (hd : I64s d) (he : I64s e) : PureC Try.prog fi_elem_Two [dN 10, dT s d, dT t e] (dTE (twoF fAdd s d t e)) := p_elem_Two (.inl ⟨rfl, rfl⟩) (fun _ _ ha hb => p_fix_Add ha hb) s d t e hd he
end Go.AM

namespace Go.AM
open Go Go.Proofs
set_option maxRecDepth 100000
set_option maxHeartbeats 4000000

def val (s d x : List Int) : Int := (atF s d x).1
theorem eachF_ok {s : List Int} {h : Nat → Int × Int} (k : ∀ p, p < (sizeS s).toNat → (h p).2 = 0) : eachF s h = ((s, (List.range (sizeS s).toNat).map fun p => (h p).1), 0) := by
  unfold eachF
  rw [coll_ok (fun p hp => by rw [Nat.zero_add]; exact k p hp)]
  simp
theorem spread_gt {s d r : List Int} (h : ShapeOk r) {p : Nat} (hp : p < (sizeS r).toNat) : gt (spreadD s d r) p = val s d (fromX s (ix r p)) := by
  have hsz := sizeS_ok h
  unfold gt spreadD
  rw [mk_get h _ (by omega)]; rfl
theorem mk_places {r : List Int} (h : ShapeOk r) (g : List Int → Int) : ((List.range (sizeS r).toNat).map fun p => g (ix r ((p : Nat) : Int))) = mk r g := by
  have h64 := sizeS_nn r
  unfold mk
  apply List.map_congr_left
  intro p hp
  have := List.mem_range.1 hp
  rw [idxF_eq h.2.1 (by omega) (by omega)]
theorem two_ok {W : Int → Int → Int × Int} {s d t e r : List Int} (h1 : checkT s d = true) (h2 : checkT t e = true) (hj : JoinOk s t r) (hW : ∀ x, InIdx r x → (W (val s d (fromX s x)) (val t e (fromX t x))).2 = 0) :
    twoF W s d t e = ((r, mk r fun x => (W (val s d (fromX s x)) (val t e (fromX t x))).1), 0) := by
  unfold twoF
  rw [if_pos ⟨h1, h2⟩, hj.eq, if_pos rfl]
  have hh : ∀ p, p < (sizeS r).toNat → W (gt (spreadD s d r) p) (gt (spreadD t e r) p) = W (val s d (fromX s (ix r p))) (val t e (fromX t (ix r p))) := fun p hp => by rw [spread_gt hj.hr hp, spread_gt hj.hr hp]
  rw [eachF_ok (fun p hp => by rw [hh p hp]; exact hW _ (ix_in hj.hr.2.1))]
  congr 2
  rw [← mk_places hj.hr]
  exact List.map_congr_left fun p hp => by rw [hh p (List.mem_range.1 hp)]
theorem fromX_self {s x : List Int} (h : InIdx s x) : fromX s x = x := by
  unfold fromX
  rw [h.length, Nat.sub_self, List.drop_zero, clip_self h]
theorem full_is {s : List Int} (v : Int) (h : checkS s = true) : fullF s v = ((s, List.replicate (sizeS s).toNat v), 0) := by unfold fullF; rw [if_pos h]
theorem sub_self {s d : List Int} (h : checkT s d = true) : twoF fSub s d s d = fullF s 0 := by
  have hs := (checkT_iff.1 h).1
  have hv : ∀ v : Int, fSub v v = (0, 0) := fun v => by unfold fSub; rw [Int.sub_self]; exact rng_in i64_0
  rw [two_ok h h (JoinOk.self hs) (fun x _ => by rw [hv]), full_is 0 (checkS_iff.2 hs)]
  simp only [hv]
  congr 2
  unfold mk
  rw [List.map_const']; simp
end Go.AM

namespace Go.AM
open Go Go.Proofs
set_option maxRecDepth 100000

theorem insL_set (l : List Int) {n : Nat} (a b : Int) (h : n ≤ l.length) : (insL l n a).set n b = insL l n b := by
  unfold insL
  rw [List.set_append_right _ _ (by rw [List.length_take]; omega), List.length_take, Nat.min_eq_left h, Nat.sub_self]; rfl
structure Part (s d : List Int) (n A S B f w : Nat) (D : List Int) : Prop where
  sl : sliceF s d n f ((f + w : Nat) : Int) = ((s.set n w, D), 0)
  L : Lanes (s.set n w) D n A w B
  at_ : ∀ p i, p < A * B → i < w → gt D (laneAt w B p i) = gt d (laneAt S B p (f + i))
  er : (s.set n (w : Int)).eraseIdx n = s.eraseIdx n
theorem Lanes.part {s d : List Int} {n A S B : Nat} (L : Lanes s d n A S B) {f w : Nat} (hw : 1 ≤ w) (hf : f + w ≤ S) : ∃ D, Part s d n A S B f w D := by
  have hc := L.hc
  have hm := L.hS
  have hn := L.hn
  have hr : 0 ≤ (f : Int) ∧ (f : Int) < ((f + w : Nat) : Int) ∧ ((f + w : Nat) : Int) ≤ (S : Int) := ⟨by omega, by omega, by omega⟩
  have e0 : ((f + w : Nat) : Int) - (f : Int) = (w : Int) := by omega
  have hs := sliceF_ok hc hm hr
  have hch := cut_check hc hm hr
  rw [e0] at hs hch
  have her : (s.set n (w : Int)).eraseIdx n = s.eraseIdx n := List.eraseIdx_set_eq ..
  have L' : Lanes (s.set n w) (cutD s d n w f) n A w B := by
    obtain ⟨A', w', B', L'⟩ := Lanes.of (n := n) hch (by simpa using hn)
    have e1 : (A' : Int) = A := by rw [← L'.hA, ← L.hA, List.take_set_of_le (Nat.le_refl _)]
    have e2 : (w' : Int) = w := by have := L'.hS; rw [List.getElem?_set_self hn] at this; exact (Option.some.inj this).symm
    have e3 : (B' : Int) = B := by rw [← L'.hB, ← L.hB, List.drop_set_of_lt (by omega)]
    obtain rfl : A' = A := by omega
    obtain rfl : w' = w := by omega
    obtain rfl : B' = B := by omega
    exact L'
  refine ⟨cutD s d n w f, hs, L', fun p i hp hi => ?_, her⟩
  obtain ⟨h1, h2⟩ := L'.at hp hi
  obtain ⟨h3, h4⟩ := L.at (p := p) (i := f + i) hp (by omega)
  rw [her] at h1 h2
  have hl : n ≤ (ix (s.eraseIdx n) p).length := by rw [ix_len, List.length_eraseIdx_of_lt hn]; omega
  have h5 := (cut_at (x := insL (ix (s.eraseIdx n) p) n i) hc hm hr (by rw [e0]; exact h1) (insL_get _ _ hl)).1
  rw [e0, h2, insL_set _ _ _ hl, show (i : Int) + (f : Int) = ((f + i : Nat) : Int) from by omega, h4] at h5
  exact congrArg Prod.fst h5
theorem Part.sm {s d D : List Int} {n A S B f w : Nat} (P : Part s d n A S B f w D) (h : Sm d) : Sm D := fun j => by
  by_cases hj : j < D.length
  · have hb := P.L.b1
    have hs := P.L.s1
    obtain ⟨q1, q2, q3⟩ := laneAt_in (A := A) (r := j) (by omega : 0 < B) (by omega : 0 < w) (by rw [← P.L.len]; exact hj)
    rw [← q3, P.at_ _ _ q1 q2]
    exact h _
  · have : gt D j = 0 := by unfold gt; rw [List.getElem?_eq_none (by omega)]; rfl
    omega
theorem Sm.i64 {d : List Int} (h : Sm d) : I64s d := fun x hx => by
  obtain ⟨i, hi, rfl⟩ := List.getElem_of_mem hx
  have := h i
  unfold gt at this
  rw [List.getElem?_eq_getElem hi] at this
  simp only [Option.getD_some] at this
  exact ⟨by omega, by omega⟩
structure Parts (s d : List Int) (n k S : Nat) : Prop where
  of : ∃ (s1 D1 s2 D2 s' X Y Z U V W : List Int), sliceF s d n 0 k = ((s1, D1), 0) ∧ sliceF s d n k S = ((s2, D2), 0) ∧ sumS s1 D1 n = ((s', X), 0) ∧ sumS s2 D2 n = ((s', Y), 0) ∧ sumS s d n = ((s', Z), 0) ∧
    twoF fAdd s' X s' Y = ((s', Z), 0) ∧ mxS s1 D1 n = ((s', U), 0) ∧ mxS s2 D2 n = ((s', V), 0) ∧ mxS s d n = ((s', W), 0) ∧ I64s D1 ∧ I64s D2 ∧ I64s X ∧ I64s Y ∧ U.length = W.length ∧ V.length = W.length ∧ W.length ≤ 64 ∧
    ∀ c, c < W.length → gt W c = max (gt U c) (gt V c)
theorem partsR {s d : List Int} {n A S B k : Nat} (L : Lanes s d n A S B) (h : Sm d) (h1 : 1 ≤ k) (h2 : k < S) : Parts s d n k S := by
  obtain ⟨D1, P1⟩ := L.part (f := 0) (w := k) h1 (by omega)
  obtain ⟨D2, P2⟩ := L.part (f := k) (w := S - k) (by omega) (by omega)
  have hs2 := L.s2
  have a1 := P1.L.sum_small (P1.sm h) (by decide) (by decide)
  have a2 := P2.L.sum_small (P2.sm h) (by decide) (by decide)
  have a0 := L.sum_small h (by decide) (by decide)
  have b1 := P1.L.maxV
  have b2 := P2.L.maxV
  have b0 := L.maxV
  rw [P1.er] at a1 b1
  rw [P2.er] at a2 b2
  obtain ⟨hz, ho⟩ := L.size
  have hAB := L.AB
  have bd : ∀ (e : List Int) (m : Nat) (g : Nat → Nat), Sm e → m ≤ 16 → I64 (sumR m fun i => gt e (g i)) := fun e m g he hm => by
    have := sumR_bound (f := fun i => gt e (g i)) (M := 1099511627776) (fun i => he _) m
    have : (m : Int) * 1099511627776 ≤ 17592186044416 := by omega
    unfold I64; omega
  have bd2 : ∀ (e : List Int) (m : Nat) (g : Nat → Nat), Sm e → m ≤ 16 → -17592186044416 ≤ (sumR m fun i => gt e (g i)) ∧ (sumR m fun i => gt e (g i)) ≤ 17592186044416 := fun e m g he hm => by
    have := sumR_bound (f := fun i => gt e (g i)) (M := 1099511627776) (fun i => he _) m
    have : (m : Int) * 1099511627776 ≤ 17592186044416 := by omega
    omega
  have hsum : ∀ p, p < A * B → (sumR S fun i => gt d (laneAt S B p i)) = (sumR k fun i => gt D1 (laneAt k B p i)) + sumR (S - k) fun i => gt D2 (laneAt (S - k) B p i) := fun p hp => by
    have e := sumR_add k (fun i => gt d (laneAt S B p i)) (S - k)
    rw [show k + (S - k) = S from by omega] at e
    rw [e]
    congr 1
    · exact sumR_congr fun i hi => by rw [P1.at_ p i hp hi, Nat.zero_add]
    · exact sumR_congr fun i hi => by rw [P2.at_ p i hp hi]
  have hprd : prd (s.eraseIdx n) = ((A * B : Nat) : Int) := by rw [← sizeS_ok ho, hz]
  have hct : ∀ g : Nat → Int, checkT (s.eraseIdx n) ((List.range (A * B)).map g) = true := fun g => checkT_iff.2 ⟨ho, by rw [hprd]; simp⟩
  have hval : ∀ (g : Nat → Int) (x : List Int), InIdx (s.eraseIdx n) x → val (s.eraseIdx n) ((List.range (A * B)).map g) x = g (pl (s.eraseIdx n) x 0).toNat := fun g x hx => by
    have hp := pl_lt hx
    rw [hprd] at hp
    unfold val
    rw [atF_ok (hct g) hx, range_map_get g (by omega)]; rfl
  refine ⟨_, D1, _, D2, s.eraseIdx n, _, _, _, _, _, _, ?_, ?_, a1, a2, a0, ?_, b1, b2, b0, (P1.sm h).i64, (P2.sm h).i64, i64_tab (fun p => bd _ _ _ (P1.sm h) (by omega)) _, i64_tab (fun p => bd _ _ _ (P2.sm h) (by omega)) _, by simp, by simp, by simpa using hAB, fun c hc => ?_⟩
  · have := P1.sl
    rw [Nat.zero_add] at this
    exact this
  · have := P2.sl
    rw [show k + (S - k) = S from by omega] at this
    exact this
  · have hW : ∀ x, InIdx (s.eraseIdx n) x → fAdd (val (s.eraseIdx n) ((List.range (A * B)).map fun p => sumR k fun i => gt D1 (laneAt k B p i)) (fromX (s.eraseIdx n) x)) (val (s.eraseIdx n) ((List.range (A * B)).map fun p => sumR (S - k) fun i => gt D2 (laneAt (S - k) B p i)) (fromX (s.eraseIdx n) x)) =
        (val (s.eraseIdx n) ((List.range (A * B)).map fun p => sumR S fun i => gt d (laneAt S B p i)) x, 0) := fun x hx => by
      have hp := pl_lt hx
      rw [hprd] at hp
      rw [fromX_self hx, hval _ x hx, hval _ x hx, hval _ x hx, hsum _ (by omega)]
      have q1 := bd2 D1 k (fun i => laneAt k B (pl (s.eraseIdx n) x 0).toNat i) (P1.sm h) (by omega)
      have q2 := bd2 D2 (S - k) (fun i => laneAt (S - k) B (pl (s.eraseIdx n) x 0).toNat i) (P2.sm h) (by omega)
      unfold fAdd rng
      rw [if_pos (by unfold I64; omega)]
    rw [two_ok (hct _) (hct _) (JoinOk.self ho) (fun x hx => by rw [hW x hx])]
    congr 2
    rw [mk_congr ho (fun x hx => by rw [hW x hx])]
    exact mk_self (hct _)
  · simp only [List.length_map, List.length_range] at hc
    rw [gt_tb _ hc, gt_tb _ hc, gt_tb _ hc]
    have l1 := firstL_lt D1 k B c (by omega)
    have l2 := firstL_lt D2 (S - k) B c (by omega)
    have l0 := firstL_lt d S B c (by omega)
    apply Int.le_antisymm
    · by_cases hq : firstL d S B c < k
      · have := firstL_max D1 k B c hq
        rw [P1.at_ c _ hc hq, Nat.zero_add] at this
        exact Int.le_trans this (Int.le_max_left _ _)
      · have hq2 : firstL d S B c - k < S - k := by omega
        have := firstL_max D2 (S - k) B c hq2
        rw [P2.at_ c _ hc hq2, show k + (firstL d S B c - k) = firstL d S B c from by omega] at this
        exact Int.le_trans this (Int.le_max_right _ _)
    · apply Int.max_le.2
      constructor
      · rw [P1.at_ c _ hc l1]
        exact firstL_max d S B c (by omega)
      · rw [P2.at_ c _ hc l2]
        exact firstL_max d S B c (by omega)
end Go.AM

namespace Go.AM
open Go Go.Proofs
set_option maxRecDepth 100000
set_option maxHeartbeats 4000000

theorem p_ReduceParts (s d : List Int) (a x : Int) (hd : I64s d) (hx : 0 ≤ x ∧ x < 256) : PureC Try.prog fi_fullerlaw06_ReduceParts [dT s d, dN a, .one (.int .u8 x)] (dB true) := by
  refine pure_fullerlaw06_ReduceParts (by simp) fun G hP hn => ?_
  cases f1 : fewT s d
  · refine go f1 (aa @p_awake6 @p_ref03_Few) ?_
    exact ends_ret rfl rfl rfl rfl
  have kc := p_tensor_Check s d
  cases hc : checkT s d
  · rw [hc] at kc
    refine go f1 (aa @p_awake6 <| aa @p_ref03_Few kc) ?_
    exact ends_ret rfl rfl rfl rfl
  rw [hc] at kc
  by_cases h1 : a < 0
  · refine go (aa f1 h1) (aa @p_awake6 <| aa @p_ref03_Few kc) ?_
    exact ends_ret rfl rfl rfl rfl
  by_cases h2 : a ≥ s.length
  · refine go (aa f1 <| aa h1 h2) (aa @p_awake6 <| aa @p_ref03_Few kc) ?_
    exact ends_ret rfl rfl rfl rfl
  obtain ⟨n, rfl⟩ := Int.eq_ofNat_of_zero_le (by omega : 0 ≤ a)
  obtain ⟨A, S, B, L⟩ := Lanes.of (n := n) hc (by omega)
  have hn2 := L.hn
  have hS := L.hS
  have hs2 := L.s2
  by_cases h3 : (S : Int) < 2
  · refine go (aa f1 <| aa h1 <| aa h2 <| aa hS <| aa hn2 h3) (aa @p_awake6 <| aa @p_ref03_Few kc) ?_
    exact ends_ret rfl rfl rfl rfl
  have hdl := (checkT_iff.1 hc).2
  have hd64 := (checkT_iff.1 hc).1.2.2
  refine go (aa f1 <| aa h1 <| aa h2 <| aa hS <| aa hn2 h3) (aa @p_awake6 <| aa @p_ref03_Few kc) ?_
  refine T_for d.length (fun i (_ : Unit) => { env := [(1, .one (.p (.int .i64 n))), (2, .one (.p (.int .u8 x))), (3, .one (.ptr 3 0 2 0)), (7, .one (.p (.bool true))), (8, .one (.p (.int .i64 i)))], σ := [(3, .cells true [.p (eI s), .p (eI d)])] })
    (fun i _ => ∀ j, j < i → -1099511627776 ≤ gt d j ∧ gt d j ≤ 1099511627776) () (fun j hj => by omega) (.refl _ _) fun i _ hi hinv => ?_
  by_cases hlt : i < d.length
  · have c1 : (i : Int) < d.length := by omega
    have w1 : IntKind.i64.wrap ((i : Int) + 1) = ((i + 1 : Nat) : Int) := by rw [wrap_in (by omega) (by omega)]; rfl
    have hx := gt_at hlt
    by_cases x1 : gt d i < -1099511627776
    · generalize gt d i = x at *
      refine go (aa c1 <| aa hx <| aa hlt x1) trivial ?_
      exact ends_ret rfl rfl rfl rfl
    · by_cases x2 : gt d i > 1099511627776
      · generalize gt d i = x at *
        refine go (aa c1 <| aa hx <| aa hlt <| aa x1 x2) trivial ?_
        exact ends_ret rfl rfl rfl rfl
      · have hnx : ∀ j, j < i + 1 → -1099511627776 ≤ gt d j ∧ gt d j ≤ 1099511627776 := fun j hj => by
          by_cases hji : j = i
          · subst hji; omega
          · exact hinv j (by omega)
        generalize gt d i = x at *
        refine go (aa c1 <| aa hx <| aa hlt <| aa x1 <| aa x2 w1) trivial ?_
        exact rnd_next hlt () hnx (.refl _ _)
  have c1 : ¬ (i : Int) < d.length := by omega
  have hsm : Sm d := fun j => by
    by_cases hj : j < i
    · exact hinv j hj
    · have : gt d j = 0 := by unfold gt; rw [List.getElem?_eq_none (by omega)]; rfl
      omega
  obtain ⟨k, hk⟩ : ∃ k : Nat, (k : Int) = 1 + x % ((S : Int) - 1) := ⟨(1 + x % ((S : Int) - 1)).toNat, by have := Int.emod_nonneg x (b := (S : Int) - 1) (by omega); omega⟩
  have hk1 := Int.emod_nonneg x (b := (S : Int) - 1) (by omega)
  have hk2 := Int.emod_lt_of_pos x (b := (S : Int) - 1) (by omega)
  obtain ⟨s1, D1, s2, D2, s', X, Y, Z, U, V, W, g1, g2, a1, a2, a0, t0, b1, b2, b0, i1, i2, iX, iY, lU, lV, lW, hmx⟩ := (partsR L hsm (k := k) (by omega) (by omega)).of
  have k1 := p_move_Slice s d n 0 k
  rw [g1] at k1
  have k2 := p_move_Slice s d n k S
  rw [g2] at k2
  have k3 := p_reduce_Sum s1 D1 n i1
  rw [a1] at k3
  have k4 := p_reduce_Sum s2 D2 n i2
  rw [a2] at k4
  have k5 := p_reduce_Sum s d n hd
  rw [a0] at k5
  have k6 := k_Add (s := s') (t := s') iX iY
  rw [t0] at k6
  have k7 := p_reduce_Max s1 D1 n i1
  rw [b1] at k7
  have k8 := p_reduce_Max s2 D2 n i2
  rw [b2] at k8
  have k9 := p_reduce_Max s d n hd
  rw [b0] at k9
  have kz := c_sameT s' Z
  have w0 : IntKind.i64.wrap x = x := wrap_in (by omega) (by omega)
  have w1 : IntKind.i64.wrap ((S : Int) - 1) = (S : Int) - 1 := wrap_in (by omega) (by omega)
  have r0 : ((S : Int) - 1 = 0) = False := by simp; omega
  have r1 : x.tmod ((S : Int) - 1) = (k : Int) - 1 := by rw [Int.tmod_eq_emod_of_nonneg hx.1]; omega
  have r2 : IntKind.i64.wrap (1 + ((k : Int) - 1)) = k := by rw [wrap_in (by omega) (by omega)]; omega
  have e1 : ((U.length : Int) != (W.length : Int)) = false := by simp [lU]
  have e2 : ((V.length : Int) != (W.length : Int)) = false := by simp [lV]
  have c2 : (n : Int) < s.length := by omega
  refine go (aa c1 <| aa w0 <| aa w1 <| aa r0 <| aa r1 <| aa r2 <| aa hS <| aa hn2 <| aa c2 <| aa e1 e2) trivial ?_
  refine T_for W.length (fun c (_ : Unit) => { env := [(7, .one (.p (.bool true))), (18, .one (.ptr 18 0 2 0)), (20, .one (.ptr 20 0 2 0)), (22, .one (.ptr 22 0 2 0)), (24, .one (.ptr 24 0 2 0)), (26, .one (.ptr 26 0 2 0)), (29, .one (.p (.int .i64 c)))], σ := [(18, .cells true [.p (eI s'), .p (eI Z)]), (20, .cells true [.p (eI s'), .p (eI Z)]), (22, .cells true [.p (eI s'), .p (eI U)]), (24, .cells true [.p (eI s'), .p (eI V)]), (26, .cells true [.p (eI s'), .p (eI W)])] })
    (fun _ _ => True) () trivial ?_ fun c _ hc3 _ => ?_
  · refine Weak.sub fun q hq => ?_
    simp only [List.mem_cons, List.not_mem_nil, or_false] at hq
    rcases hq with rfl | rfl | rfl | rfl | rfl <;> rfl
  by_cases hcW : c < W.length
  · have y1 : (c : Int) < (W.length : Int) := by omega
    have y2 : c < U.length := by omega
    have y3 : c < V.length := by omega
    have y2' : (c : Int) < (U.length : Int) := by omega
    have y3' : (c : Int) < (V.length : Int) := by omega
    have w5 : IntKind.i64.wrap ((c : Int) + 1) = ((c + 1 : Nat) : Int) := by rw [wrap_in (by omega) (by omega)]; rfl
    have x1 := gt_at hcW
    have x2 := gt_at y2
    have x3 := gt_at y3
    have hm := hmx c hcW
    rw [hm] at x1
    generalize gt U c = u at *
    generalize gt V c = v at *
    have e3 : (max u v != max u v) = false := by simp
    refine go (aa y1 <| aa y2 <| aa y3 <| aa y2' <| aa y3' <| aa hcW <| aa x1 <| aa x2 <| aa x3 <| aa w5 e3) trivial ?_
    refine rnd_next hcW () trivial (Weak.sub fun q hq => ?_)
    simp only [List.mem_cons, List.not_mem_nil, or_false] at hq
    rcases hq with rfl | rfl | rfl | rfl | rfl <;> rfl
  · have y1 : ¬ (c : Int) < (W.length : Int) := by omega
    refine go y1 kz ?_
    exact ends_ret rfl rfl rfl rfl
end Go.AM

