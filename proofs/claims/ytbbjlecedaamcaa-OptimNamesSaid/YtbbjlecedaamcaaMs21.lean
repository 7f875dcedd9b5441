import Derived.Test.YtbbjlecedaamcaaMs20
set_option linter.unusedVariables false
set_option linter.unusedSimpArgs false
namespace Go.AM
open Go Go.Proofs
set_option maxRecDepth 100000
set_option maxHeartbeats 4000000

def I64s (d : List Int) : Prop := ∀ n ∈ d, I64 n
theorem I64s.get {d : List Int} (h : I64s d) {i : Nat} {x : Int} (hx : d[i]? = some x) : I64 x := h x (List.mem_of_getElem? hx)
theorem I64s.nil : I64s [] := fun n hn => by simp at hn
theorem I64s.append {d e : List Int} (h : I64s d) (k : I64s e) : I64s (d ++ e) := fun n hn => by
  rcases List.mem_append.1 hn with h1 | h1
  · exact h n h1
  · exact k n h1
def coll (f : Nat → Int × Int) : Nat → Nat → List Int → List Int × Int
  | 0, _, acc => (acc, 0)
  | n + 1, a, acc => if (f a).2 = 0 then coll f n (a + 1) (acc ++ [(f a).1]) else ([], (f a).2)
theorem coll_ok {f : Nat → Int × Int} : ∀ {n a : Nat} {acc : List Int}, (∀ k, k < n → (f (a + k)).2 = 0) → coll f n a acc = (acc ++ (List.range n).map (fun k => (f (a + k)).1), 0)
  | 0, a, acc, _ => by simp [coll]
  | n + 1, a, acc, h => by
    have h0 := h 0 (by omega)
    simp only [Nat.add_zero] at h0
    simp only [coll]
    rw [if_pos h0, coll_ok (fun k hk => by have := h (k + 1) (by omega); rwa [show a + (k + 1) = a + 1 + k from by omega] at this)]
    rw [List.range_succ_eq_map, List.map_cons, List.map_map]
    simp only [List.append_assoc, List.cons_append, List.nil_append, Nat.add_zero]
    congr 3
    apply List.map_congr_left
    intro k _
    simp only [Function.comp]
    rw [show a + 1 + k = a + (k + 1) from by omega]
theorem coll_err {f : Nat → Int × Int} : ∀ {n a : Nat} {acc : List Int} {k : Nat}, k < n → (∀ j, j < k → (f (a + j)).2 = 0) → (f (a + k)).2 ≠ 0 → coll f n a acc = ([], (f (a + k)).2)
  | n + 1, a, acc, 0, _, _, h => by
    simp only [coll, Nat.add_zero] at h ⊢
    rw [if_neg h]
  | n + 1, a, acc, k + 1, hk, hj, h => by
    have h0 := hj 0 (by omega)
    simp only [Nat.add_zero] at h0
    simp only [coll]
    rw [if_pos h0, coll_err (k := k) (by omega) (fun j hj' => by have := hj (j + 1) (by omega); rwa [show a + (j + 1) = a + 1 + j from by omega] at this) (by rwa [show a + 1 + k = a + (k + 1) from by omega])]
    rw [show a + 1 + k = a + (k + 1) from by omega]
theorem coll_cases (f : Nat → Int × Int) (n : Nat) : (∀ k, k < n → (f k).2 = 0) ∨ ∃ k, k < n ∧ (∀ j, j < k → (f j).2 = 0) ∧ (f k).2 ≠ 0 := by
  induction n with
  | zero => exact .inl fun k hk => by omega
  | succ n ih =>
    rcases ih with h | ⟨k, hk, h1, h2⟩
    · by_cases hn : (f n).2 = 0
      · exact .inl fun k hk => by
          by_cases hkn : k = n
          · subst hkn; exact hn
          · exact h k (by omega)
      · exact .inr ⟨n, by omega, h, hn⟩
    · exact .inr ⟨k, by omega, h1, h2⟩
def dot (x y : Nat → Int) : Nat → Nat → Int → Int × Int
  | 0, _, s => (s, 0)
  | n + 1, k, s => if (fMul (x k) (y k)).2 = 0 then (if (fAdd s (fMul (x k) (y k)).1).2 = 0 then dot x y n (k + 1) (fAdd s (fMul (x k) (y k)).1).1 else (0, (fAdd s (fMul (x k) (y k)).1).2))
    else (0, (fMul (x k) (y k)).2)
theorem fAdd_range (a b : Int) : I64 (fAdd a b).1 := rng_range _
theorem fMul_range (a b : Int) : I64 (fMul a b).1 := rng_range _
end Go.AM

namespace Go.AM
open Go Go.Proofs
set_option maxRecDepth 100000
set_option maxHeartbeats 4000000

def gt (d : List Int) (i : Nat) : Int := (d[i]?).getD 0
def cell (n p : Nat) (d e : List Int) (at_ : Nat) : Int × Int := dot (fun k => gt d (at_ / p * n + k)) (fun k => gt e (k * p + at_ % p)) n 0 0
end Go.AM

namespace Go.AM
open Go Go.Proofs
set_option maxRecDepth 100000
set_option maxHeartbeats 4000000

theorem I64s.mk {s : List Int} {g : List Int → Int} (h : ∀ x, I64 (g x)) : I64s (mk s g) := fun n hn => by
  simp only [AM.mk, List.mem_map] at hn
  obtain ⟨p, _, rfl⟩ := hn
  exact h _
theorem atF_range {s d x : List Int} (hd : I64s d) : I64 (atF s d x).1 := by
  have z : I64 0 := ⟨by decide, by decide⟩
  unfold atF
  split
  · exact z
  · split
    · exact z
    · cases h : d[(placeF s x).1.toNat]? with
      | none => exact z
      | some v => exact hd.get h
end Go.AM

namespace Go.AM
open Go Go.Proofs
set_option maxRecDepth 100000
set_option maxHeartbeats 4000000

theorem i64_0 : I64 0 := ⟨by decide, by decide⟩
theorem gt_range {d : List Int} (h : I64s d) (i : Nat) : I64 (gt d i) := by
  unfold gt
  cases e : d[i]? with
  | none => exact i64_0
  | some v => exact h.get e
theorem len2 {s d : List Int} (h : checkT s d = true) (hl : s.length = 2) : ∃ m n : Nat, s = [(m : Int), (n : Int)] := by
  match s, hl with
  | [m, n], _ =>
    have q1 := (checkT_iff.1 h).1.2.1 m (by simp)
    have q2 := (checkT_iff.1 h).1.2.1 n (by simp)
    obtain ⟨m, rfl⟩ := Int.eq_ofNat_of_zero_le (by omega : 0 ≤ m)
    obtain ⟨n, rfl⟩ := Int.eq_ofNat_of_zero_le (by omega : 0 ≤ n)
    exact ⟨m, n, rfl⟩
end Go.AM

namespace Go.AM
open Go Go.Proofs
set_option maxRecDepth 100000
set_option maxHeartbeats 4000000

theorem ends_twoM {rv : List RV} {s : AS} {t1 t2 k1 k2 l1 l2 : Nat} {cap1 cap2 : Option Nat} {rows1 rows2 : List (List PV)} {tl : List AV} {ds : List DV} {r : DV} (hne : t1 ≠ t2)
    (h1 : evRV rv s.env s.σ = some (.agg [.msl t1 0 k1 l1 cap1, .msl t2 0 k2 l2 cap2] :: tl)) (h2 : lo s.σ t1 = .arr true k1 rows1) (h3 : lo s.σ t2 = .arr true k2 rows2) (hl1 : l1 = rows1.length) (hl2 : l2 = rows2.length)
    (ht : (tl = [] ∧ ds = []) ∨ ∃ v, tl = [.one (.p v)] ∧ ds = [.one v]) (hr : r = resD (.agg [.sl rows1, .sl rows2] :: ds)) :
    Ends rv r .ret s := by
  have h4 : foldP (toP 6) [.msl t1 0 k1 l1 cap1, .msl t2 0 k2 l2 cap2] s.σ = some ([.sl rows1, .sl rows2], (t2, .arr false k2 rows2) :: (t1, .arr false k1 rows1) :: s.σ) := by
    have e1 := toD_list (n := 5) (cap := cap1) h2 hl1
    have e2 := toD_list (n := 5) (cap := cap2) (σ := (t1, .arr false k1 rows1) :: s.σ) (t := t2) (k := k2) (rows := rows2) (m := true) (by rw [← h3]; simp [lo, hne.symm]) hl2
    simp only [if_true] at e1 e2
    simp only [foldP, e1, e2]
  rcases ht with ⟨rfl, rfl⟩ | ⟨v, rfl, rfl⟩
  · exact ends_ret (ds := [.agg [.sl rows1, .sl rows2]]) (σ' := (t2, .arr false k2 rows2) :: (t1, .arr false k1 rows1) :: s.σ) h1 (by simp only [toDs, toD, h4]) rfl hr.symm
  · exact ends_ret (ds := [.agg [.sl rows1, .sl rows2], .one v]) (σ' := (t2, .arr false k2 rows2) :: (t1, .arr false k1 rows1) :: s.σ) h1 (by simp only [toDs, toD, h4]; rfl) rfl hr.symm
end Go.AM

namespace Go.AM
open Go Go.Proofs
set_option maxRecDepth 100000
set_option maxHeartbeats 4000000

theorem p_fix_Sub {a b : Int} (ha : I64 a) (hb : I64 b) : PureC Try.prog fi_fix_Sub [dN a, dN b] (dNE (fSub a b)) := by
  refine pure_fix_Sub (by simp) fun G hP hn => ?_
  unfold a_fix_Sub
  have hw := w64_eq (a - b)
  unfold I64 at ha hb
  have k1 : I64 (a - b) → fSub a b = (IntKind.i64.wrap (a - b), 0) := fun h => by
    rw [wrap_in h.1 h.2]; exact rng_in h
  have k2 : ¬ I64 (a - b) → fSub a b = (0, 10) := fun h => by
    exact rng_out h
  unfold I64 at k1 k2
  by_cases h1 : a < 0 <;> by_cases h2 : b < 0 <;> by_cases h3 : IntKind.i64.wrap (a - b) < 0
  all_goals
    refine go (aa h1 <| aa h2 h3) @p_fix_told ?_
    exact ends_ret rfl rfl rfl (by
      simp only [resD]
      first
        | (rw [k1 (by split at hw <;> omega)]; done)
        | (rw [k2 (by split at hw <;> omega)]; done)
        | (rw [k1 (by split at hw <;> omega)]; rfl)
        | (rw [k2 (by split at hw <;> omega)]; rfl))
def kindsM : PV := .map [(10, true, [.nilF, .fn fi_fix_Add [] []]), (11, true, [.nilF, .fn fi_fix_Sub [] []]), (12, true, [.nilF, .fn fi_fix_Mul [] []]), (13, true, [.nilF, .fn fi_fix_Div [] []]),
  (20, true, [.fn fi_fix_Neg [] [], .nilF]), (21, true, [.fn fi_elem_kinds_1 [] [], .nilF]), (22, true, [.fn fi_fix_Pow [] [], .nilF]), (23, true, [.fn fi_fix_Sqrt [] [], .nilF])]
theorem p_elem_kinds : PureC Try.prog fi_elem_kinds [] (.one kindsM) := by
  refine pure_elem_kinds (by simp) fun G hP hn => ?_
  unfold a_elem_kinds
  refine go trivial trivial ?_
  exact ends_ret rfl rfl rfl rfl
def eachF (s : List Int) (h : Nat → Int × Int) : (List Int × List Int) × Int :=
  if (coll h (sizeS s).toNat 0 []).2 = 0 then ((s, (coll h (sizeS s).toNat 0 []).1), 0) else bad (coll h (sizeS s).toNat 0 []).2
theorem p_elem_each {f : FuncId} {caps : List PV} {s : List Int} {h : Nat → Int × Int} (hs : s.length ≤ 64) (hf : ∀ p : Nat, p < (sizeS s).toNat → PureC Try.prog f ([dN p] ++ caps.map .one) (dNE (h p))) :
    PureC Try.prog fi_elem_each [dI s, .one (.fn f [] caps)] (dTE (eachF s h)) := by
  refine pure_elem_each (by simp) fun G hP hn => ?_
  unfold a_elem_each
  have kl := m_slices_Clone s (by omega)
  have ks := p_shape_Size s
  have hz := sizeS_nn s
  refine go trivial (aa kl ks) ?_
  refine T_weak (Weak.nilC 6 100 1 1 rfl rfl rfl rfl) ?_
  refine T_for (sizeS s).toNat (fun i acc => { env := [(1, .one (.p (.fn f [] caps))), (4, .one (.ptr 4 0 2 0)), (6, .one (.ptr 6 0 2 0)), (14, .one (.p (.int .i64 (sizeS s)))), (15, .one (.p (.int .i64 i)))], σ := [(4, .cells true [.nils, .nils]), (6, .cells true [.msl 5 0 1 s.length none, .msl 100 0 1 i none]), (5, .arr true 1 (rI s)), (100, .arr true 1 (rI acc))] })
    (fun i acc => acc.length = i ∧ coll h ((sizeS s).toNat - i) i acc = coll h (sizeS s).toNat 0 []) [] ⟨rfl, rfl⟩ ?_ fun i acc hi hinv => ?_
  · refine Weak.sub fun q hq => ?_
    simp only [List.mem_cons, List.not_mem_nil, or_false] at hq
    rcases hq with rfl | rfl | rfl | rfl <;> rfl
  obtain ⟨hal, hcol⟩ := hinv
  by_cases hlt : i < (sizeS s).toNat
  · have c1 : (i : Int) < sizeS s := by omega
    have w1 : IntKind.i64.wrap ((i : Int) + 1) = ((i + 1 : Nat) : Int) := by rw [wrap_in (by omega) (by omega)]; rfl
    have kf := hf i hlt
    rw [show (sizeS s).toNat - i = ((sizeS s).toNat - (i + 1)) + 1 from by omega] at hcol
    simp only [coll] at hcol
    generalize h i = v at *
    by_cases e : v.2 = 0
    · rw [if_pos e] at hcol
      have e' : (v.2 != 0) = false := by simp [e]
      have c4 : (i + 1) * 8 ≤ 2 ^ 40 := by omega
      have c5 : i + 1 ≤ 2 ^ 40 := by omega
      refine go (aa c1 <| aa w1 <| aa @e' <| aa hal <| aa c4 c5) kf ?_
      refine rnd_next hlt (acc ++ [v.1]) ⟨by simp [hal], hcol⟩ (Weak.sub fun q hq => ?_)
      simp only [List.mem_cons, List.not_mem_nil, or_false] at hq
      rcases hq with rfl | rfl | rfl | rfl
      · rfl
      · rfl
      · rfl
      · simp [lo, rI]
    · rw [if_neg e] at hcol
      have e' : (v.2 != 0) = true := by simp [e]
      have hE : eachF s h = bad v.2 := by unfold eachF; rw [← hcol, if_neg e]
      refine go (aa c1 <| aa w1 @e') kf ?_
      exact ends_ret rfl rfl rfl (by rw [hE]; rfl)
  · have c1 : ¬ (i : Int) < sizeS s := by omega
    have hie : i = (sizeS s).toNat := by omega
    rw [hie, Nat.sub_self] at hcol
    simp only [coll] at hcol
    have hE : eachF s h = ((s, acc), 0) := by unfold eachF; rw [← hcol, if_pos rfl]
    refine go c1 trivial ?_
    exact ends_twoM (t1 := 5) (t2 := 100) (by decide) rfl rfl rfl (by simp) (by simp [hal]) (.inr ⟨_, rfl, rfl⟩) (by rw [hE]; rfl)
theorem p_elem_Two_1 {f : FuncId} {W : Int → Int → Int × Int} {k1 : PV} {s d t e : List Int} {p : Nat} {a b : Int} (ha : d[p]? = some a) (hb : e[p]? = some b) (hW : PureC Try.prog f [dN a, dN b] (dNE (W a b))) :
    PureC Try.prog fi_elem_Two_1 [dN p, .one (.box [k1, .fn f [] []]), .one (.box [eI s, eI d]), .one (.box [eI t, eI e])] (dNE (W a b)) := by
  refine pure_elem_Two_1 (by simp) fun G hP hn => ?_
  unfold a_elem_Two_1
  have hl := (List.getElem?_eq_some_iff.1 ha).1
  have hl2 := (List.getElem?_eq_some_iff.1 hb).1
  refine go (aa ha <| aa hb <| aa hl hl2) hW ?_
  exact ends_ret rfl rfl rfl rfl
end Go.AM

namespace Go.AM
open Go Go.Proofs
set_option maxRecDepth 100000
set_option maxHeartbeats 4000000

def sideS (s : List Int) (i : Nat) : Int := (s.reverse[i]?).getD 1
theorem sideS_ge {s : List Int} {i : Nat} (h : s.length ≤ i) : sideS s i = 1 := by unfold sideS; rw [List.getElem?_eq_none (by simpa using h)]; rfl
theorem sideS_lt {s : List Int} {i : Nat} (h : i < s.length) : s[s.length - 1 - i]? = some (sideS s i) := by
  unfold sideS
  rw [List.getElem?_reverse h, List.getElem?_eq_getElem (by omega)]; rfl
theorem p_shape_side (s : List Int) (i : Nat) (hs : s.length ≤ 64) (hi : i ≤ 64) : PureC Try.prog fi_shape_side [dI s, dN i] (dN (sideS s i)) := by
  refine pure_shape_side (by simp) fun G hP hn => ?_
  unfold a_shape_side
  by_cases h : s.length ≤ i
  · have c1 : (i : Int) ≥ s.length := by omega
    refine go c1 trivial ?_
    exact ends_ret rfl rfl rfl (by rw [sideS_ge h]; rfl)
  · have c1 : ¬ (i : Int) ≥ s.length := by omega
    have hx := sideS_lt (s := s) (i := i) (by omega)
    have w1 : IntKind.i64.wrap ((s.length : Int) - 1) = ((s.length - 1 : Nat) : Int) := by rw [wrap_in (by omega) (by omega)]; omega
    have w2 : IntKind.i64.wrap (((s.length - 1 : Nat) : Int) - (i : Int)) = ((s.length - 1 - i : Nat) : Int) := by rw [wrap_in (by omega) (by omega)]; omega
    have hlt : s.length - 1 - i < s.length := by omega
    refine go (aa c1 <| aa w1 <| aa w2 <| aa hx hlt) trivial ?_
    exact ends_ret rfl rfl rfl rfl
def clash (x y : Int) : Bool := x != y && (x != 1 && y != 1)
def maxS (a b : List Int) (i : Nat) : Int := max (sideS a i) (sideS b i)
def joinSh (a b : List Int) (k : Nat) : List Int := ((List.range k).map (maxS a b)).reverse
def joinOk (a b : List Int) : Bool := checkS a && (checkS b && ((List.range (max a.length b.length)).all (fun i => !clash (sideS a i) (sideS b i)) && checkS (joinSh a b (max a.length b.length))))
def joinSF (a b : List Int) : List Int × Int := if joinOk a b = true then (joinSh a b (max a.length b.length), 0) else ([], 20)
theorem joinSh_succ (a b : List Int) (k : Nat) : joinSh a b (k + 1) = maxS a b k :: joinSh a b k := by
  unfold joinSh; rw [List.range_succ, List.map_append, List.reverse_append]; rfl
theorem joinSh_len (a b : List Int) (k : Nat) : (joinSh a b k).length = k := by simp [joinSh]
theorem p_shape_Join (a b : List Int) : PureC Try.prog fi_shape_Join [dI a, dI b] (.tup [dI (joinSF a b).1, dN (joinSF a b).2]) := by
  refine pure_shape_Join (by simp) fun G hP hn => ?_
  unfold a_shape_Join
  cases h1 : checkS a
  · have hf : joinSF a b = ([], 20) := by unfold joinSF joinOk; rw [h1]; rfl
    have k1 := p_shape_Check a
    rw [h1] at k1
    refine go trivial k1 ?_
    exact ends_ret rfl rfl rfl (by rw [hf]; rfl)
  cases h2 : checkS b
  · have hf : joinSF a b = ([], 20) := by unfold joinSF joinOk; rw [h1, h2]; rfl
    have k1 := p_shape_Check a
    have k2 := p_shape_Check b
    rw [h1] at k1
    rw [h2] at k2
    refine go trivial (aa k1 k2) ?_
    exact ends_ret rfl rfl rfl (by rw [hf]; rfl)
  have k1 := p_shape_Check a
  have k2 := p_shape_Check b
  rw [h1] at k1
  rw [h2] at k2
  have la := check_len h1
  have lb := check_len h2
  have hM : MaxN = 140737488355328 := rfl
  have m1 : max (a.length : Int) (b.length : Int) = ((max a.length b.length : Nat) : Int) := by omega
  have hmax : max a.length b.length ≤ 3 := by omega
  have hla : a.length ≤ max a.length b.length := by omega
  have hlb : b.length ≤ max a.length b.length := by omega
  have hf : joinSF a b = if ((List.range (max a.length b.length)).all (fun i => !clash (sideS a i) (sideS b i)) && checkS (joinSh a b (max a.length b.length))) = true then (joinSh a b (max a.length b.length), 0) else ([], 20) := by
    unfold joinSF joinOk; rw [h1, h2]; rfl
  generalize max a.length b.length = k at *
  have q1 : (k : Int) * 8 ≤ MaxN := by omega
  have q2 : (k : Int) ≤ MaxN := by omega
  refine go (aa m1 <| aa q1 q2) (aa k1 k2) ?_
  refine T_for k (fun i (_ : Unit) => { env := [(0, .one (.p (eI a))), (1, .one (.p (eI b))), (6, .one (.msl 23 0 1 k (some k))), (25, .one (.p (.int .i64 k))), (26, .one (.p (.int .i64 i)))], σ := [(23, .arr true 1 (rI (List.replicate (k - i) 0 ++ joinSh a b i)))] })
    (fun i _ => ∀ j, j < i → clash (sideS a j) (sideS b j) = false) () (fun j hj => by omega) ?_ fun i _ hi hno => ?_
  · refine Weak.sub fun q hq => ?_
    simp only [List.mem_cons, List.not_mem_nil, or_false] at hq
    rcases hq with rfl
    simp [lo, joinSh, rI]
  by_cases hlt : i < k
  · have c1 : (i : Int) < (k : Int) := by omega
    have w0 : IntKind.i64.wrap ((i : Int) + 1) = ((i + 1 : Nat) : Int) := by rw [wrap_in (by omega) (by omega)]; rfl
    have w1 : IntKind.i64.wrap ((k : Int) - 1) = ((k - 1 : Nat) : Int) := by rw [wrap_in (by omega) (by omega)]; omega
    have w2 : IntKind.i64.wrap (((k - 1 : Nat) : Int) - (i : Int)) = ((k - 1 - i : Nat) : Int) := by rw [wrap_in (by omega) (by omega)]; omega
    have kx := p_shape_side a i (by omega) (by omega)
    have ky := p_shape_side b i (by omega) (by omega)
    have c2 : k - 1 - i < k := by omega
    have hrep : List.replicate (k - i) (0 : Int) = List.replicate (k - 1 - i + 1) 0 := by congr 1; omega
    have hz : (List.replicate (k - 1 - i + 1) (0 : Int) ++ joinSh a b i)[k - 1 - i]? = some 0 := by
      rw [List.getElem?_append_left (by simp)]; simp
    have hst := rep_set (k - 1 - i) (maxS a b i) (joinSh a b i)
    have hlen : (List.replicate (k - 1 - i + 1) (0 : Int) ++ joinSh a b i).length = k := by simp [joinSh_len]; omega
    have hmx : maxS a b i = max (sideS a i) (sideS b i) := rfl
    rw [hrep]
    generalize List.replicate (k - 1 - i + 1) (0 : Int) ++ joinSh a b i = R at hz hst hlen
    rw [hmx] at hst
    have hx : sideS a i = sideS a i := rfl
    have hy : sideS b i = sideS b i := rfl
    generalize hx' : sideS a i = x at kx hst hx
    generalize hy' : sideS b i = y at ky hst hy
    have nxt : clash x y = false → ∀ j, j < i + 1 → clash (sideS a j) (sideS b j) = false := fun hc j hj => by
      rcases Nat.lt_succ_iff_lt_or_eq.1 hj with hj | rfl
      · exact hno j hj
      · rw [hx', hy']; exact hc
    have fin : ∀ q ∈ [((23 : Nat), AO.arr true 1 (rI (List.replicate (k - (i + 1)) 0 ++ joinSh a b (i + 1))))], lo [(23, AO.arr true 1 (rI (R.set (k - 1 - i) (max x y))))] q.1 = q.2 := fun q hq => by
      simp only [List.mem_cons, List.not_mem_nil, or_false] at hq
      rcases hq with rfl
      rw [hst, joinSh_succ, hmx, hx', hy', show k - (i + 1) = k - 1 - i from by omega]
      rfl
    cases e1 : (x != y)
    · refine go (aa c1 <| aa w0 <| aa w1 <| aa w2 <| aa e1 <| aa hz <| aa hlen <| aa c2 @rI_set) (aa kx ky) ?_
      exact rnd_next hlt () (nxt (by simp [clash, e1])) (Weak.sub fin)
    cases e2 : (x != 1)
    · refine go (aa c1 <| aa w0 <| aa w1 <| aa w2 <| aa e1 <| aa e2 <| aa hz <| aa hlen <| aa c2 @rI_set) (aa kx ky) ?_
      exact rnd_next hlt () (nxt (by simp [clash, e1, e2])) (Weak.sub fin)
    cases e3 : (y != 1)
    · refine go (aa c1 <| aa w0 <| aa w1 <| aa w2 <| aa e1 <| aa e2 <| aa e3 <| aa hz <| aa hlen <| aa c2 @rI_set) (aa kx ky) ?_
      exact rnd_next hlt () (nxt (by simp [clash, e1, e2, e3])) (Weak.sub fin)
    · refine go (aa c1 <| aa w0 <| aa w1 <| aa w2 <| aa e1 <| aa e2 <| aa e3 <| aa hz <| aa hlen <| aa c2 @rI_set) (aa kx ky) ?_
      have hcl : ((List.range k).all fun i => !clash (sideS a i) (sideS b i)) = false := by
        rw [List.all_eq_false]
        exact ⟨i, List.mem_range.2 hlt, by rw [hx', hy']; simp [clash, e1, e2, e3]⟩
      exact ends_ret rfl rfl rfl (by rw [hf, hcl]; rfl)
  · have hik : i = k := by omega
    have c1 : ¬ (i : Int) < (k : Int) := by omega
    have hal : ((List.range k).all fun i => !clash (sideS a i) (sideS b i)) = true := by
      rw [List.all_eq_true]
      intro j hj
      rw [hno j (by have := List.mem_range.1 hj; omega)]; rfl
    rw [hal] at hf
    subst hik
    have e0 : List.replicate (i - i) (0 : Int) ++ joinSh a b i = joinSh a b i := by simp
    rw [e0]
    have kc := p_shape_Check (joinSh a b i)
    have hl2 := joinSh_len a b i
    cases hc : checkS (joinSh a b i)
    · rw [hc] at hf kc
      generalize joinSh a b i = R at *
      subst hl2
      refine T_weak (Weak.freeze (i := 6) rfl (toD_list (n := 5) (rows := rI R) (m := true) rfl (by simp))) ?_
      simp only [if_true]
      refine go c1 kc ?_
      exact ends_ret rfl rfl rfl (by rw [hf]; rfl)
    · rw [hc] at hf kc
      generalize joinSh a b i = R at *
      subst hl2
      refine T_weak (Weak.freeze (i := 6) rfl (toD_list (n := 5) (rows := rI R) (m := true) rfl (by simp))) ?_
      simp only [if_true]
      refine go c1 kc ?_
      exact ends_ret rfl rfl rfl (by rw [hf]; rfl)
end Go.AM

