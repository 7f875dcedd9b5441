import Derived.Test.YtphnlpfkenannaaGreatMv21
set_option linter.unusedVariables false
set_option linter.unusedSimpArgs false
namespace Go.AM
open Go Go.Proofs
set_option maxRecDepth 100000
set_option maxHeartbeats 4000000

theorem p_fix_Sub {a b : Int} (ha : I64 a) (hb : I64 b) : PureC Tryz.prog fi_fix_Sub [dN a, dN b] (dNE (fSub a b)) := by
  refine pure_fix_Sub (by simp) fun G hP hn => ?_
  unfold a_fix_Sub
  have hw := w64_eq (a - b)
  unfold I64 at ha hb
  have k1 : I64 (a - b) → fSub a b = (IntKind.i64.wrap (a - b), 0) := fun h => by
    rw [wrap_in h.1 h.2]; exact rng_in h
  have k2 : ¬ I64 (a - b) → fSub a b = (0, 10) := fun h => by
    exact rng_out h
  unfold I64 at k1 k2
  by_cases h1 : a < 0 <;> by_cases h2 : b < 0 <;> by_cases h3 : IntKind.i64.wrap (a - b) < 0
  all_goals
    refine go (aa h1 <| aa h2 h3) @p_fix_told ?_
    exact ends_ret rfl rfl rfl (by
      simp only [resD]
      first
        | (rw [k1 (by split at hw <;> omega)]; done)
        | (rw [k2 (by split at hw <;> omega)]; done)
        | (rw [k1 (by split at hw <;> omega)]; rfl)
        | (rw [k2 (by split at hw <;> omega)]; rfl))
theorem p_fix_Neg {a : Int} (ha : I64 a) : PureC Tryz.prog fi_fix_Neg [dN a] (dNE (fNeg a)) := by
  refine pure_fix_Neg (by simp) fun G hP hn => ?_
  unfold a_fix_Neg
  by_cases h : a = -9223372036854775808
  · subst h
    have w : IntKind.i64.wrap (-(-9223372036854775808)) = -9223372036854775808 := by decide
    have w' : IntKind.i64.wrap (0 - -9223372036854775808) = -9223372036854775808 := by decide
    refine go (aa @w @w') @p_fix_told ?_
    exact ends_ret rfl rfl rfl rfl
  · have e : (a != -9223372036854775808) = true := by simpa using h
    have w' : IntKind.i64.wrap (0 - a) = 0 - a := wrap_in (by unfold I64 at ha; omega) (by unfold I64 at ha; omega)
    have w : IntKind.i64.wrap (-a) = 0 - a := by rw [← Int.zero_sub]; exact w'
    have hf : fNeg a = (0 - a, 0) := rng_in (by unfold I64 at ha ⊢; omega)
    refine go (aa @w <| aa @w' @e) @p_fix_told ?_
    exact ends_ret rfl rfl rfl (by rw [hf]; rfl)
def fRelu (a : Int) : Int × Int := (max a 0, 0)
theorem p_relu (a : Int) : PureC Tryz.prog fi_elem_kinds_1 [dN a] (dNE (fRelu a)) := by
  refine pure_elem_kinds_1 (by simp) fun G hP hn => ?_
  unfold a_elem_kinds_1
  refine go trivial trivial ?_
  exact ends_ret rfl rfl rfl rfl
def kindsM : PV := .map [(10, true, [.nilF, .fn fi_fix_Add [] []]), (11, true, [.nilF, .fn fi_fix_Sub [] []]), (12, true, [.nilF, .fn fi_fix_Mul [] []]), (13, true, [.nilF, .fn fi_fix_Div [] []]),
  (20, true, [.fn fi_fix_Neg [] [], .nilF]), (21, true, [.fn fi_elem_kinds_1 [] [], .nilF]), (22, true, [.fn fi_fix_Pow [] [], .nilF]), (23, true, [.fn fi_fix_Sqrt [] [], .nilF])]
theorem p_elem_kinds : PureC Tryz.prog fi_elem_kinds [] (.one kindsM) := by
  refine pure_elem_kinds (by simp) fun G hP hn => ?_
  unfold a_elem_kinds
  refine go trivial trivial ?_
  exact ends_ret rfl rfl rfl rfl
def eachF (s : List Int) (h : Nat → Int × Int) : (List Int × List Int) × Int :=
  if (coll h (sizeS s).toNat 0 []).2 = 0 then ((s, (coll h (sizeS s).toNat 0 []).1), 0) else bad (coll h (sizeS s).toNat 0 []).2
theorem p_elem_each {f : FuncId} {caps : List PV} {s : List Int} {h : Nat → Int × Int} (hs : s.length ≤ 64) (hf : ∀ p : Nat, p < (sizeS s).toNat → PureC Tryz.prog f ([dN p] ++ caps.map .one) (dNE (h p))) :
    PureC Tryz.prog fi_elem_each [dI s, .one (.fn f [] caps)] (dTE (eachF s h)) := by
  refine pure_elem_each (by simp) fun G hP hn => ?_
  unfold a_elem_each
  have kl := m_slices_Clone s (by omega)
  have ks := p_shape_Size s
  have hz := sizeS_nn s
  refine go trivial (aa kl ks) ?_
  refine T_weak (Weak.nilC 6 100 1 1 rfl rfl rfl rfl) ?_
  refine T_for (sizeS s).toNat (fun i acc => { env := [(1, .one (.p (.fn f [] caps))), (4, .one (.ptr 4 0 2 0)), (6, .one (.ptr 6 0 2 0)), (14, .one (.p (.int .i64 (sizeS s)))), (15, .one (.p (.int .i64 i)))], σ := [(4, .cells true [.nils, .nils]), (6, .cells true [.msl 5 0 1 s.length none, .msl 100 0 1 i none]), (5, .arr true 1 (rI s)), (100, .arr true 1 (rI acc))] })
    (fun i acc => acc.length = i ∧ coll h ((sizeS s).toNat - i) i acc = coll h (sizeS s).toNat 0 []) [] ⟨rfl, rfl⟩ ?_ fun i acc hi hinv => ?_
  · refine Weak.sub fun q hq => ?_
    simp only [List.mem_cons, List.not_mem_nil, or_false] at hq
    rcases hq with rfl | rfl | rfl | rfl <;> rfl
  obtain ⟨hal, hcol⟩ := hinv
  by_cases hlt : i < (sizeS s).toNat
  · have c1 : (i : Int) < sizeS s := by omega
    have w1 : IntKind.i64.wrap ((i : Int) + 1) = ((i + 1 : Nat) : Int) := by rw [wrap_in (by omega) (by omega)]; rfl
    have kf := hf i hlt
    rw [show (sizeS s).toNat - i = ((sizeS s).toNat - (i + 1)) + 1 from by omega] at hcol
    simp only [coll] at hcol
    generalize h i = v at *
    by_cases e : v.2 = 0
    · rw [if_pos e] at hcol
      have e' : (v.2 != 0) = false := by simp [e]
      have c4 : (i + 1) * 8 ≤ 2 ^ 40 := by omega
      have c5 : i + 1 ≤ 2 ^ 40 := by omega
      refine go (aa c1 <| aa w1 <| aa @e' <| aa hal <| aa c4 c5) kf ?_
      refine rnd_next hlt (acc ++ [v.1]) ⟨by simp [hal], hcol⟩ (Weak.sub fun q hq => ?_)
      simp only [List.mem_cons, List.not_mem_nil, or_false] at hq
      rcases hq with rfl | rfl | rfl | rfl
      · rfl
      · rfl
      · rfl
      · simp [lo, rI]
    · rw [if_neg e] at hcol
      have e' : (v.2 != 0) = true := by simp [e]
      have hE : eachF s h = bad v.2 := by unfold eachF; rw [← hcol, if_neg e]
      refine go (aa c1 <| aa w1 @e') kf ?_
      exact ends_ret rfl rfl rfl (by rw [hE]; rfl)
  · have c1 : ¬ (i : Int) < sizeS s := by omega
    have hie : i = (sizeS s).toNat := by omega
    rw [hie, Nat.sub_self] at hcol
    simp only [coll] at hcol
    have hE : eachF s h = ((s, acc), 0) := by unfold eachF; rw [← hcol, if_pos rfl]
    refine go c1 trivial ?_
    exact ends_twoM (t1 := 5) (t2 := 100) (by decide) rfl rfl rfl (by simp) (by simp [hal]) (.inr ⟨_, rfl, rfl⟩) (by rw [hE]; rfl)
theorem p_elem_Two_1 {f : FuncId} {W : Int → Int → Int × Int} {k1 : PV} {s d t e : List Int} {p : Nat} {a b : Int} (ha : d[p]? = some a) (hb : e[p]? = some b) (hW : PureC Tryz.prog f [dN a, dN b] (dNE (W a b))) :
    PureC Tryz.prog fi_elem_Two_1 [dN p, .one (.box [k1, .fn f [] []]), .one (.box [eI s, eI d]), .one (.box [eI t, eI e])] (dNE (W a b)) := by
  refine pure_elem_Two_1 (by simp) fun G hP hn => ?_
  unfold a_elem_Two_1
  have hl := (List.getElem?_eq_some_iff.1 ha).1
  have hl2 := (List.getElem?_eq_some_iff.1 hb).1
  refine go (aa ha <| aa hb <| aa hl hl2) hW ?_
  exact ends_ret rfl rfl rfl rfl
theorem p_elem_One_1 {f : FuncId} {W : Int → Int × Int} {k2 : PV} {s d : List Int} {p : Nat} {a : Int} (ha : d[p]? = some a) (hW : PureC Tryz.prog f [dN a] (dNE (W a))) :
    PureC Tryz.prog fi_elem_One_1 [dN p, .one (.box [.fn f [] [], k2]), .one (.box [eI s, eI d])] (dNE (W a)) := by
  refine pure_elem_One_1 (by simp) fun G hP hn => ?_
  unfold a_elem_One_1
  have hl := (List.getElem?_eq_some_iff.1 ha).1
  refine go (aa ha hl) hW ?_
  exact ends_ret rfl rfl rfl rfl
end Go.AM

namespace Go.AM
open Go Go.Proofs
set_option maxRecDepth 100000
set_option maxHeartbeats 4000000

def sideS (s : List Int) (i : Nat) : Int := (s.reverse[i]?).getD 1
theorem sideS_ge {s : List Int} {i : Nat} (h : s.length ≤ i) : sideS s i = 1 := by unfold sideS; rw [List.getElem?_eq_none (by simpa using h)]; rfl
theorem sideS_lt {s : List Int} {i : Nat} (h : i < s.length) : s[s.length - 1 - i]? = some (sideS s i) := by
  unfold sideS
  rw [List.getElem?_reverse h, List.getElem?_eq_getElem (by omega)]; rfl
theorem p_shape_side (s : List Int) (i : Nat) (hs : s.length ≤ 64) (hi : i ≤ 64) : PureC Tryz.prog fi_shape_side [dI s, dN i] (dN (sideS s i)) := by
  refine pure_shape_side (by simp) fun G hP hn => ?_
  unfold a_shape_side
  by_cases h : s.length ≤ i
  · have c1 : (i : Int) ≥ s.length := by omega
    refine go c1 trivial ?_
    exact ends_ret rfl rfl rfl (by rw [sideS_ge h]; rfl)
  · have c1 : ¬ (i : Int) ≥ s.length := by omega
    have hx := sideS_lt (s := s) (i := i) (by omega)
    have w1 : IntKind.i64.wrap ((s.length : Int) - 1) = ((s.length - 1 : Nat) : Int) := by rw [wrap_in (by omega) (by omega)]; omega
    have w2 : IntKind.i64.wrap (((s.length - 1 : Nat) : Int) - (i : Int)) = ((s.length - 1 - i : Nat) : Int) := by rw [wrap_in (by omega) (by omega)]; omega
    have hlt : s.length - 1 - i < s.length := by omega
    refine go (aa c1 <| aa w1 <| aa w2 <| aa hx hlt) trivial ?_
    exact ends_ret rfl rfl rfl rfl
def clash (x y : Int) : Bool := x != y && (x != 1 && y != 1)
def maxS (a b : List Int) (i : Nat) : Int := max (sideS a i) (sideS b i)
def joinSh (a b : List Int) (k : Nat) : List Int := ((List.range k).map (maxS a b)).reverse
def joinOk (a b : List Int) : Bool := checkS a && (checkS b && ((List.range (max a.length b.length)).all (fun i => !clash (sideS a i) (sideS b i)) && checkS (joinSh a b (max a.length b.length))))
def joinSF (a b : List Int) : List Int × Int := if joinOk a b = true then (joinSh a b (max a.length b.length), 0) else ([], 20)
theorem joinSh_succ (a b : List Int) (k : Nat) : joinSh a b (k + 1) = maxS a b k :: joinSh a b k := by
  unfold joinSh; rw [List.range_succ, List.map_append, List.reverse_append]; rfl
theorem joinSh_len (a b : List Int) (k : Nat) : (joinSh a b k).length = k := by simp [joinSh]
theorem p_shape_Join (a b : List Int) : PureC Tryz.prog fi_shape_Join [dI a, dI b] (.tup [dI (joinSF a b).1, dN (joinSF a b).2]) := by
  refine pure_shape_Join (by simp) fun G hP hn => ?_
  unfold a_shape_Join
  cases h1 : checkS a
  · have hf : joinSF a b = ([], 20) := by unfold joinSF joinOk; rw [h1]; rfl
    have k1 := p_shape_Check a
    rw [h1] at k1
    refine go trivial k1 ?_
    exact ends_ret rfl rfl rfl (by rw [hf]; rfl)
  cases h2 : checkS b
  · have hf : joinSF a b = ([], 20) := by unfold joinSF joinOk; rw [h1, h2]; rfl
    have k1 := p_shape_Check a
    have k2 := p_shape_Check b
    rw [h1] at k1
    rw [h2] at k2
    refine go trivial (aa k1 k2) ?_
    exact ends_ret rfl rfl rfl (by rw [hf]; rfl)
  have k1 := p_shape_Check a
  have k2 := p_shape_Check b
  rw [h1] at k1
  rw [h2] at k2
  have la := check_len h1
  have lb := check_len h2
  have hM : MaxN = 140737488355328 := rfl
  have m1 : max (a.length : Int) (b.length : Int) = ((max a.length b.length : Nat) : Int) := by omega
  have hmax : max a.length b.length ≤ 3 := by omega
  have hla : a.length ≤ max a.length b.length := by omega
  have hlb : b.length ≤ max a.length b.length := by omega
  have hf : joinSF a b = if ((List.range (max a.length b.length)).all (fun i => !clash (sideS a i) (sideS b i)) && checkS (joinSh a b (max a.length b.length))) = true then (joinSh a b (max a.length b.length), 0) else ([], 20) := by
    unfold joinSF joinOk; rw [h1, h2]; rfl
  generalize max a.length b.length = k at *
  have q1 : (k : Int) * 8 ≤ MaxN := by omega
  have q2 : (k : Int) ≤ MaxN := by omega
  refine go (aa m1 <| aa q1 q2) (aa k1 k2) ?_
  refine T_for k (fun i (_ : Unit) => { env := [(0, .one (.p (eI a))), (1, .one (.p (eI b))), (6, .one (.msl 23 0 1 k (some k))), (25, .one (.p (.int .i64 k))), (26, .one (.p (.int .i64 i)))], σ := [(23, .arr true 1 (rI (List.replicate (k - i) 0 ++ joinSh a b i)))] })
    (fun i _ => ∀ j, j < i → clash (sideS a j) (sideS b j) = false) () (fun j hj => by omega) ?_ fun i _ hi hno => ?_
  · refine Weak.sub fun q hq => ?_
    simp only [List.mem_cons, List.not_mem_nil, or_false] at hq
    rcases hq with rfl
    simp [lo, joinSh, rI]
  by_cases hlt : i < k
  · have c1 : (i : Int) < (k : Int) := by omega
    have w0 : IntKind.i64.wrap ((i : Int) + 1) = ((i + 1 : Nat) : Int) := by rw [wrap_in (by omega) (by omega)]; rfl
    have w1 : IntKind.i64.wrap ((k : Int) - 1) = ((k - 1 : Nat) : Int) := by rw [wrap_in (by omega) (by omega)]; omega
    have w2 : IntKind.i64.wrap (((k - 1 : Nat) : Int) - (i : Int)) = ((k - 1 - i : Nat) : Int) := by rw [wrap_in (by omega) (by omega)]; omega
    have kx := p_shape_side a i (by omega) (by omega)
    have ky := p_shape_side b i (by omega) (by omega)
    have c2 : k - 1 - i < k := by omega
    have hrep : List.replicate (k - i) (0 : Int) = List.replicate (k - 1 - i + 1) 0 := by congr 1; omega
    have hz : (List.replicate (k - 1 - i + 1) (0 : Int) ++ joinSh a b i)[k - 1 - i]? = some 0 := by
      rw [List.getElem?_append_left (by simp)]; simp
    have hst := rep_set (k - 1 - i) (maxS a b i) (joinSh a b i)
    have hlen : (List.replicate (k - 1 - i + 1) (0 : Int) ++ joinSh a b i).length = k := by simp [joinSh_len]; omega
    have hmx : maxS a b i = max (sideS a i) (sideS b i) := rfl
    rw [hrep]
    generalize List.replicate (k - 1 - i + 1) (0 : Int) ++ joinSh a b i = R at hz hst hlen
    rw [hmx] at hst
    have hx : sideS a i = sideS a i := rfl
    have hy : sideS b i = sideS b i := rfl
    generalize hx' : sideS a i = x at kx hst hx
    generalize hy' : sideS b i = y at ky hst hy
    have nxt : clash x y = false → ∀ j, j < i + 1 → clash (sideS a j) (sideS b j) = false := fun hc j hj => by
      rcases Nat.lt_succ_iff_lt_or_eq.1 hj with hj | rfl
      · exact hno j hj
      · rw [hx', hy']; exact hc
    have fin : ∀ q ∈ [((23 : Nat), AO.arr true 1 (rI (List.replicate (k - (i + 1)) 0 ++ joinSh a b (i + 1))))], lo [(23, AO.arr true 1 (rI (R.set (k - 1 - i) (max x y))))] q.1 = q.2 := fun q hq => by
      simp only [List.mem_cons, List.not_mem_nil, or_false] at hq
      rcases hq with rfl
      rw [hst, joinSh_succ, hmx, hx', hy', show k - (i + 1) = k - 1 - i from by omega]
      rfl
    cases e1 : (x != y)
    · refine go (aa c1 <| aa w0 <| aa w1 <| aa w2 <| aa e1 <| aa hz <| aa hlen <| aa c2 @rI_set) (aa kx ky) ?_
      exact rnd_next hlt () (nxt (by simp [clash, e1])) (Weak.sub fin)
    cases e2 : (x != 1)
    · refine go (aa c1 <| aa w0 <| aa w1 <| aa w2 <| aa e1 <| aa e2 <| aa hz <| aa hlen <| aa c2 @rI_set) (aa kx ky) ?_
      exact rnd_next hlt () (nxt (by simp [clash, e1, e2])) (Weak.sub fin)
    cases e3 : (y != 1)
    · refine go (aa c1 <| aa w0 <| aa w1 <| aa w2 <| aa e1 <| aa e2 <| aa e3 <| aa hz <| aa hlen <| aa c2 @rI_set) (aa kx ky) ?_
      exact rnd_next hlt () (nxt (by simp [clash, e1, e2, e3])) (Weak.sub fin)
    · refine go (aa c1 <| aa w0 <| aa w1 <| aa w2 <| aa e1 <| aa e2 <| aa e3 <| aa hz <| aa hlen <| aa c2 @rI_set) (aa kx ky) ?_
      have hcl : ((List.range k).all fun i => !clash (sideS a i) (sideS b i)) = false := by
        rw [List.all_eq_false]
        exact ⟨i, List.mem_range.2 hlt, by rw [hx', hy']; simp [clash, e1, e2, e3]⟩
      exact ends_ret rfl rfl rfl (by rw [hf, hcl]; rfl)
  · have hik : i = k := by omega
    have c1 : ¬ (i : Int) < (k : Int) := by omega
    have hal : ((List.range k).all fun i => !clash (sideS a i) (sideS b i)) = true := by
      rw [List.all_eq_true]
      intro j hj
      rw [hno j (by have := List.mem_range.1 hj; omega)]; rfl
    rw [hal] at hf
    subst hik
    have e0 : List.replicate (i - i) (0 : Int) ++ joinSh a b i = joinSh a b i := by simp
    rw [e0]
    have kc := p_shape_Check (joinSh a b i)
    have hl2 := joinSh_len a b i
    cases hc : checkS (joinSh a b i)
    · rw [hc] at hf kc
      generalize joinSh a b i = R at *
      subst hl2
      refine T_weak (Weak.freeze (i := 6) rfl (toD_list (n := 5) (rows := rI R) (m := true) rfl (by simp))) ?_
      simp only [if_true]
      refine go c1 kc ?_
      exact ends_ret rfl rfl rfl (by rw [hf]; rfl)
    · rw [hc] at hf kc
      generalize joinSh a b i = R at *
      subst hl2
      refine T_weak (Weak.freeze (i := 6) rfl (toD_list (n := 5) (rows := rI R) (m := true) rfl (by simp))) ?_
      simp only [if_true]
      refine go c1 kc ?_
      exact ends_ret rfl rfl rfl (by rw [hf]; rfl)
end Go.AM

