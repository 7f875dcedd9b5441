import Derived.Test.YtphnlpfkenannaaGreatMx28
set_option linter.unusedVariables false
set_option linter.unusedSimpArgs false
namespace Go.AM
open Go Go.Proofs

theorem ShapeOk.eraseIdx {s : List Int} (h : ShapeOk s) (n : Nat) : ShapeOk (s.eraseIdx n) := by
  by_cases hn : n < s.length
  · have e := prd_split s hn
    have e2 : s.eraseIdx n = s.take n ++ s.drop (n + 1) := List.eraseIdx_eq_take_drop_succ s n
    have h1 := (h.take n).2.2
    have hs := h.2.1 s[n] (List.getElem_mem hn)
    have p1 := h.take n
    have p2 := h.drop (n + 1)
    have b1 : 1 ≤ prd (s.take n) := prd_pos p1.2.1
    have b2 : 1 ≤ prd (s.drop (n + 1)) := prd_pos p2.2.1
    refine ⟨?_, fun m hm => h.2.1 m (List.mem_of_mem_eraseIdx hm), ?_⟩
    · rw [List.length_eraseIdx]; split <;> (have := h.1; omega)
    · rw [e2, prd_append]
      have h64 := h.2.2
      rw [e] at h64
      have h5 : prd (s.take n) * prd (s.drop (n + 1)) ≤ prd (s.take n) * (s[n] * prd (s.drop (n + 1))) :=
        Int.mul_le_mul_of_nonneg_left (by
          have := Int.mul_le_mul_of_nonneg_right hs.1 (by omega : 0 ≤ prd (s.drop (n + 1)))
          omega) (by omega)
      omega
  · rw [List.eraseIdx_of_length_le (by omega)]; exact h
theorem gs_ok {s : List (List Int)} (h : s.all checkS = true) (i : Nat) : checkS (gs s i) = true := by
  unfold gs
  rw [Int.toNat_natCast]
  cases hi : s[i]? with
  | none => exact (by decide : checkS [] = true)
  | some x => exact List.all_eq_true.1 h x (List.mem_of_getElem? hi)
theorem w64_small {n : Int} (h : -1000 ≤ n ∧ n ≤ 1000) : w64 n = n := wrap_in (by omega) (by omega)
theorem infer_check {op : Int} {nums : List Int} {s : List (List Int)} (h : (inferF op nums s).2 = 0) : checkS (inferF op nums s).1 = true := by
  unfold inferF at h ⊢
  by_cases h1 : inferOk op nums s = true
  rotate_left
  · rw [if_neg h1] at h; simp at h
  rw [if_pos h1]
  obtain ⟨k, hk, hl, hw, hs, hr⟩ := inferOk_kind h1
  have g0 := gs_ok hs 0
  have g1 := gs_ok hs 1
  have hc := kind_cases hk
  simp only [List.mem_cons, Prod.mk.injEq, List.not_mem_nil, or_false] at hc
  have two : ∀ a b : List Int, ((joinSF a b).2 == 0) = true → checkS (joinSF a b).1 = true := fun a b h => by
    rcases join_or a b with ⟨r, hj, he⟩ | ⟨_, he⟩
    · rw [he]; exact checkS_iff.2 hj.hr
    · rw [he] at h; simp at h
  have side : ∀ f : Nat → List Int → List Int × Bool, (∀ n m, n < (gs s 0).length → (f n m).2 = true → checkS (f n m).1 = true) → (sidedF s nums f).2 = true → checkS (sidedF s nums f).1 = true := fun f hf h => by
    unfold sidedF at h ⊢
    by_cases h2 : hd nums 0 < 0 ∨ hd nums 0 ≥ ((gs s 0).length : Int)
    · rw [if_pos h2] at h; simp at h
    · rw [if_neg h2] at h ⊢; exact hf _ _ (by omega) h
  have er : ∀ (n : Nat) (m : List Int), n < (gs s 0).length → (((gs s 0).eraseIdx n, true) : List Int × Bool).2 = true → checkS ((gs s 0).eraseIdx n, true).1 = true := fun n _ _ _ => checkS_iff.2 ((checkS_iff.1 g0).eraseIdx n)
  rcases hc with ⟨rfl, rfl⟩ | ⟨rfl, rfl⟩ | ⟨rfl, rfl⟩ | ⟨rfl, rfl⟩ | ⟨rfl, rfl⟩ | ⟨rfl, rfl⟩ | ⟨rfl, rfl⟩ | ⟨rfl, rfl⟩ | ⟨rfl, rfl⟩ | ⟨rfl, rfl⟩ | ⟨rfl, rfl⟩ | ⟨rfl, rfl⟩ | ⟨rfl, rfl⟩ | ⟨rfl, rfl⟩ | ⟨rfl, rfl⟩ | ⟨rfl, rfl⟩ | ⟨rfl, rfl⟩ | ⟨rfl, rfl⟩ | ⟨rfl, rfl⟩
  · exact hw
  · show checkS nums.tail = true
    unfold wellF at hw
    simp only [if_true] at hw
    cases nums with
    | nil => cases hw
    | cons p r => exact (Bool.and_eq_true .. ▸ hw).2
  · rfl
  · exact two _ _ hr
  · exact two _ _ hr
  · exact two _ _ hr
  · exact two _ _ hr
  · exact g0
  · exact g0
  · exact g0
  · exact g0
  · have hr' : (productF (gs s 0) (gs s 1)).2 = true := hr
    show checkS (productF (gs s 0) (gs s 1)).1 = true
    revert hr'
    unfold productF
    split
    · split
      · exact fun h => h
      · exact fun h => by cases h
    · exact fun h => by cases h
  · exact hw
  · exact checkS_iff.2 (checkS_iff.1 g0).reverse
  · have hr' : (sidedF s nums (partF (gs s 0))).2 = true := hr
    show checkS (sidedF s nums (partF (gs s 0))).1 = true
    refine side _ (fun n m hn h => ?_) hr'
    unfold partF at h ⊢
    by_cases h2 : hd m 0 < 0 ∨ hd m 0 ≥ hd m 1 ∨ hd m 1 > hd (gs s 0) n
    · rw [if_pos h2] at h; cases h
    · rw [if_neg h2]
      have e : (gs s 0)[n]? = some (gs s 0)[n] := List.getElem?_eq_getElem hn
      have e2 : hd (gs s 0) n = (gs s 0)[n] := by unfold hd; rw [e]; rfl
      have := (checkS_iff.1 g0).2.1 _ (List.getElem_mem hn)
      rw [w64_small (by omega)]
      exact checkS_iff.2 ((checkS_iff.1 g0).cut e (by omega))
  · have hr' : (sidedF s nums (fun n _ => behindF (gs s 0) (gs s 1) n)).2 = true := hr
    show checkS (sidedF s nums (fun n _ => behindF (gs s 0) (gs s 1) n)).1 = true
    refine side _ (fun n m hn h => ?_) hr'
    unfold behindF at h ⊢
    split
    · rename_i h2; rw [if_pos h2] at h; exact h
    · rename_i h2; rw [if_neg h2] at h; cases h
  all_goals
    have hr' : (sidedF s nums (fun n _ => ((gs s 0).eraseIdx n, true))).2 = true := hr
    show checkS (sidedF s nums (fun n _ => ((gs s 0).eraseIdx n, true))).1 = true
    exact side _ er hr'
theorem shapesL_check : ∀ (l : List Nd) (out : List (List Int)), out.all checkS = true → (shapesL l out).2.2 = 0 → (shapesL l out).1.all checkS = true
  | [], out, h, _ => h
  | n :: l, out, h, hz => by
    simp only [shapesL] at hz ⊢
    split
    · rename_i h1
      rw [if_pos h1] at hz
      exact shapesL_check l _ (by rw [List.all_append, h]; simp [infer_check h1]) hz
    · rename_i h1; rw [if_neg h1] at hz; exact absurd hz h1
theorem lkI_put {α : Type} (n k : Int) (v : α) : ∀ (m : List (Int × α)), lkI k (putI n v m) = if k = n then some v else lkI k m
  | [] => by
    simp only [putI, lkI]
    by_cases h : k = n
    · rw [if_pos h.symm, if_pos h]
    · rw [if_neg (fun e => h e.symm), if_neg h]
  | p :: m => by
    simp only [putI]
    by_cases h1 : p.1 = n
    · rw [if_pos h1]
      simp only [lkI]
      by_cases h : k = n
      · rw [if_pos h.symm, if_pos h]
      · rw [if_neg (fun e => h e.symm), if_neg h, if_neg (fun e => h (e.symm.trans h1))]
    · rw [if_neg h1]
      simp only [lkI]
      by_cases h2 : p.1 = k
      · rw [if_pos h2, if_neg (fun e => h1 (h2.trans e)), if_pos h2]
      · rw [if_neg h2, if_neg h2]; exact lkI_put n k v m
end Go.AM

namespace Go.AM
open Go Go.Proofs
set_option maxRecDepth 100000
set_option maxHeartbeats 8000000

abbrev Bs := List (Int × Bool)
def eB (m : Bs) : List (Int × Bool × List PV) := m.map fun p => (p.1, false, [.bool p.2])
theorem find_eB (k : Int) (m : Bs) : findE k (eB m) = (lkI k m).map fun b => (false, [.bool b]) := find_map (fun b : Bool => (false, [PV.bool b])) k m
theorem put_eB (k : Int) (v : Bool) : ∀ (m : Bs), putM k (false, [.bool v]) (eB m) = eB (putI k v m)
  | [] => rfl
  | p :: m => by
    simp only [eB, List.map_cons, putM, putI]
    split
    · rfl
    · rw [List.map_cons]; congr 1; exact put_eB k v m
def putsB (zs : List Int) (m : Bs) : Bs := zs.foldl (fun m a => putI a true m) m
def liveK (l : List Nd) : Nat → Bs → List Int → List Int
  | 0, _, out => out.reverse
  | r + 1, m, out => if (lkI (r : Int) m).getD false = true then liveK l r (putsB ((l[r]?).getD ⟨0, [], []⟩).args m) (out ++ [(r : Int)]) else liveK l r m out
def liveF (l : List Nd) : List Int := if checkG l = true then liveK l l.length [((l.length : Int) - 1, true)] [] else []
theorem p_graph_Live (l : List Nd) (hl : l.length ≤ MaxN) (hl2 : ∀ n ∈ l, n.args.length ≤ MaxN) : PureC Tryz.prog fi_graph_Live [dNds l] (dI (liveF l)) := by
  refine pure_graph_Live (by simp) fun G hP hn => ?_
  have hM : MaxN = 140737488355328 := rfl
  have kc := p_graph_Check l hl hl2
  unfold liveF
  cases hc : checkG l
  · rw [hc] at kc
    rw [if_neg (by simp)]
    refine go trivial kc ?_
    exact ends_ret rfl rfl rfl rfl
  rw [hc] at kc
  rw [if_pos rfl]
  have h24 := checkG_len hc
  have hpos : 0 < l.length := by
    unfold checkG at hc
    simp only [Bool.and_eq_true, decide_eq_true_eq] at hc
    exact hc.2.1
  have w0 : IntKind.i64.wrap ((l.length : Int) - 1) = (l.length : Int) - 1 := wrap_in (by omega) (by omega)
  refine go w0 kc ?_
  refine T_nils 2 100 1 rfl rfl rfl ?_
  refine T_for l.length (fun i (a : Bs × List Int) => { env := [(0, .one (.p (.sl (l.map rNd)))), (2, .one (.msl 100 0 1 a.2.length none)), (3, .one (.mmap 11)), (17, .one (.p (.int .i64 l.length))), (18, .one (.p (.int .i64 i)))], σ := [(11, .map true (eB a.1)), (100, .arr true 1 (rI a.2))] })
    (fun i a => a.2.length ≤ i ∧ liveK l (l.length - i) a.1 a.2 = liveK l l.length [((l.length : Int) - 1, true)] []) ([((l.length : Int) - 1, true)], []) ⟨Nat.le_refl _, rfl⟩ ?_ fun i a hi hinv => ?_
  · refine (Weak.pick [0, 2, 3, 17, 18]).trans (Weak.sub fun q hq => ?_)
    simp only [List.mem_cons, List.not_mem_nil, or_false] at hq
    rcases hq with rfl | rfl <;> rfl
  obtain ⟨m, out⟩ := a
  obtain ⟨hol, hinv⟩ := hinv
  simp only at hol hinv
  by_cases hlt : i < l.length
  rotate_left
  · have c1 : ¬ (i : Int) < l.length := by omega
    have e0 : l.length - i = 0 := by omega
    rw [e0] at hinv
    simp only [liveK] at hinv
    rw [← hinv]
    have kr := m_slices_Reverse 100 out (by omega)
    refine go c1 kr ?_
    exact ends_list rfl rfl (by simp)
  have c1 : (i : Int) < l.length := by omega
  have w1 : IntKind.i64.wrap ((i : Int) + 1) = ((i + 1 : Nat) : Int) := by rw [wrap_in (by omega) (by omega)]; rfl
  obtain ⟨r, hr⟩ : ∃ r, l.length - i = r + 1 := ⟨l.length - i - 1, by omega⟩
  have hri : l.length - (i + 1) = r := by omega
  rw [hr] at hinv
  simp only [liveK] at hinv
  have hrl : r < l.length := by omega
  have w2 : IntKind.i64.wrap ((l.length : Int) - 1 - (i : Int)) = (r : Int) := by rw [wrap_in (by omega) (by omega)]; omega
  have hf := find_eB r m
  have hx := nd_some hrl
  have ha := (checkG_args hc hrl).2
  rw [hx] at hinv
  simp only [Option.getD_some] at hinv
  obtain ⟨k, hk, hkl, _⟩ := ha
  have ha2 := arity_le hk hkl
  clear hk hkl hc kc
  by_cases hb : (lkI (r : Int) m).getD false = true
  rotate_left
  · rw [if_neg hb] at hinv
    cases hlk : lkI (r : Int) m with
    | none =>
      rw [hlk, Option.map_none] at hf
      refine go (aa c1 <| aa w0 <| aa w1 <| aa w2 hf) trivial ?_
      refine rnd_next hlt (m, out) ⟨by simp only; omega, by rw [hri]; exact hinv⟩ (Weak.sub fun q hq => ?_)
      simp only [List.mem_cons, List.not_mem_nil, or_false] at hq
      rcases hq with rfl | rfl <;> rfl
    | some b =>
      have : b = false := by rw [hlk] at hb; simpa using hb
      subst this
      rw [hlk, Option.map_some] at hf
      refine go (aa c1 <| aa w0 <| aa w1 <| aa w2 hf) trivial ?_
      refine rnd_next hlt (m, out) ⟨by simp only; omega, by rw [hri]; exact hinv⟩ (Weak.sub fun q hq => ?_)
      simp only [List.mem_cons, List.not_mem_nil, or_false] at hq
      rcases hq with rfl | rfl <;> rfl
  rw [if_pos hb] at hinv
  have hlk : lkI (r : Int) m = some true := by
    cases hlk : lkI (r : Int) m with
    | none => rw [hlk] at hb; cases hb
    | some b => rw [hlk] at hb; rw [show b = true from hb]
  rw [hlk, Option.map_some] at hf
  have c4 : (out.length + 1) * 8 ≤ 2 ^ 40 := by omega
  have c5 : out.length + 1 ≤ 2 ^ 40 := by omega
  have hrl2 : (r : Int) < (l.length : Int) := by omega
  generalize l[r] = n at *
  obtain ⟨op, args, nums⟩ := n
  simp only at hinv ha2
  refine go (aa c1 <| aa w0 <| aa w2 <| aa hf <| aa c4 <| aa c5 <| aa hx <| aa hrl hrl2) trivial ?_
  refine T_for args.length (fun j (mm : Bs) => { env := [(0, .one (.p (.sl (l.map rNd)))), (2, .one (.msl 100 0 1 (out.length + 1) none)), (3, .one (.mmap 11)), (17, .one (.p (.int .i64 l.length))), (18, .one (.p (.int .i64 i))), (38, .one (.p (eI args))), (39, .one (.p (.int .i64 args.length))), (40, .one (.p (.int .i64 j)))], σ := [(11, .map true (eB mm)), (100, .arr true 1 (rI (out ++ [(r : Int)])))] })
    (fun j mm => putsB (args.drop j) mm = putsB args m) m rfl ?_ fun j mm hj hmm => ?_
  · refine (Weak.pick [0, 2, 3, 17, 18, 38, 39, 40]).trans (Weak.sub fun q hq => ?_)
    simp only [List.mem_cons, List.not_mem_nil, or_false] at hq
    rcases hq with rfl | rfl
    · rfl
    · simp [lo, rI]
  by_cases hlj : j < args.length
  · have d1 : (j : Int) < args.length := by omega
    have v1 : IntKind.i64.wrap ((j : Int) + 1) = ((j + 1 : Nat) : Int) := by rw [wrap_in (by omega) (by omega)]; rfl
    have hy : args[j]? = some args[j] := List.getElem?_eq_getElem hlj
    rw [List.drop_eq_getElem_cons hlj] at hmm
    generalize args[j] = x at *
    refine go (aa d1 <| aa v1 <| aa hlj hy) trivial ?_
    refine rnd_next hlj (putI x true mm) hmm (Weak.sub fun q hq => ?_)
    simp only [List.mem_cons, List.not_mem_nil, or_false] at hq
    rcases hq with rfl | rfl
    · show AO.map true (putM x (false, [.bool true]) (eB mm)) = _
      rw [put_eB]
    · rfl
  have d1 : ¬ (j : Int) < args.length := by omega
  rw [List.drop_of_length_le (by omega)] at hmm
  have hmm' : mm = putsB args m := hmm
  subst hmm'
  refine go (aa d1 w1) trivial ?_
  refine rnd_next hlt (putsB args m, out ++ [(r : Int)]) ⟨by simp only [List.length_append, List.length_cons, List.length_nil]; omega, by rw [hri]; exact hinv⟩ ?_
  simp only [List.length_append, List.length_cons, List.length_nil, Nat.zero_add]
  refine Weak.sub fun q hq => ?_
  simp only [List.mem_cons, List.not_mem_nil, or_false] at hq
  rcases hq with rfl | rfl <;> rfl
end Go.AM

namespace Go.AM
open Go Go.Proofs
set_option maxRecDepth 100000

theorem pl_append {s x : List Int} (h : InIdx s x) (t y : List Int) : ∀ a : Int, pl (s ++ t) (x ++ y) a = pl t y (pl s x a) := by
  induction h with
  | nil => intro a; rfl
  | cons h0 h1 h ih => intro a; simp only [List.cons_append, pl]; exact ih _
theorem ix_append (t : List Int) (ht : 0 ≤ prd t) : ∀ (s : List Int) (p : Int), ix (s ++ t) p = ix s (p / prd t) ++ ix t p
  | [], p => rfl
  | m :: s, p => by
    simp only [List.cons_append, ix, prd_append]
    rw [ix_append t ht s p]
    congr 1
    rw [Int.mul_comm, ← Int.ediv_ediv_of_nonneg ht]
def insL (l : List Int) (n : Nat) (k : Int) : List Int := l.take n ++ k :: l.drop n
theorem split_at {s : List Int} {n : Nat} {S : Int} (h : s[n]? = some S) : s = s.take n ++ S :: s.drop (n + 1) := by
  obtain ⟨hlt, he⟩ := List.getElem?_eq_some_iff.1 h
  rw [← he, ← List.drop_eq_getElem_cons hlt, List.take_append_drop]
theorem ix_len (s : List Int) (p : Int) : (ix s p).length = s.length := by
  induction s with
  | nil => rfl
  | cons m s ih => simp [ix, ih]
theorem Lanes.at {s d : List Int} {n A S B : Nat} (L : Lanes s d n A S B) {p i : Nat} (hp : p < A * B) (hi : i < S) :
    InIdx s (insL (ix (s.eraseIdx n) p) n i) ∧ atF s d (insL (ix (s.eraseIdx n) p) n i) = (gt d (laneAt S B p i), 0) := by
  have hok := (checkT_iff.1 L.hc).1
  have o1 := hok.take n
  have o2 := hok.drop (n + 1)
  have pA : prd (s.take n) = A := by rw [← sizeS_ok o1]; exact L.hA
  have pB : prd (s.drop (n + 1)) = B := by rw [← sizeS_ok o2]; exact L.hB
  have hb1 := L.b1
  have hx : insL (ix (s.eraseIdx n) p) n i = ix (s.take n) ((p : Int) / B) ++ (i : Int) :: ix (s.drop (n + 1)) p := by
    rw [List.eraseIdx_eq_take_drop_succ, ix_append _ (by omega), pB]
    have hl : (ix (s.take n) ((p : Int) / B)).length = n := by rw [ix_len, List.length_take]; have := L.hn; omega
    unfold insL
    rw [List.take_append_of_le_length (by omega), List.take_of_length_le (by omega), List.drop_append_of_le_length (by omega), List.drop_of_length_le (by omega)]
    rfl
  rw [hx]
  have i1 := ix_in o1.2.1 (p := (p : Int) / B)
  have i2 := ix_in o2.2.1 (p := (p : Int))
  have hsp := split_at L.hS
  have hin : InIdx s (ix (s.take n) ((p : Int) / B) ++ (i : Int) :: ix (s.drop (n + 1)) p) := by
    conv => arg 1; rw [hsp]
    exact i1.append (.cons (by omega) (by omega) i2)
  refine ⟨hin, ?_⟩
  rw [atF_ok L.hc hin]
  have hq : (p : Int) / B < A := by
    have : p / B < A := (Nat.div_lt_iff_lt_mul (by omega)).2 hp
    exact_mod_cast this
  have hp0 : (0 : Int) ≤ (p : Int) / B := Int.ediv_nonneg (by omega) (by omega)
  have hpl : pl s (ix (s.take n) ((p : Int) / B) ++ (i : Int) :: ix (s.drop (n + 1)) p) 0 = (laneAt S B p i : Int) := by
    conv => lhs; arg 1; rw [hsp]
    rw [pl_append i1]
    simp only [pl]
    rw [pl_add i2, pl_ix o2.2.1, pl_ix o1.2.1, pA, pB, Int.emod_eq_of_lt hp0 hq]
    unfold laneAt
    simp
  rw [hpl]; rfl
end Go.AM

namespace Go.AM
open Go Go.Proofs
set_option maxRecDepth 100000
set_option maxHeartbeats 4000000

theorem m_tensor_FullB {s : List Int} (n : Int) (h : checkS s = true) : MutC Tryz.prog fi_tensor_Full [.one (.p (eI s)), .one (.p (.int .i64 n))] []
    (.tup [.agg [.msl 55 0 1 s.length none, .msl 30 0 1 (sizeS s).toNat (some (sizeS s).toNat)], .one (.p (.int .i64 0))])
    [(55, .arr true 1 (rI s)), (30, .arr true 1 (rI (List.replicate (sizeS s).toNat n)))] [55, 30] :=
  (m_tensor_Full n h).ren (swp_swp 5 55)
end Go.AM

namespace Go.AM
open Go Go.Proofs
set_option maxRecDepth 100000
set_option maxHeartbeats 4000000

def fdL (at_ : Nat → Nat) (d : List Int) (N : Nat) : Nat → List Int
  | 0 => List.replicate N 0
  | k + 1 => (fdL at_ d N k).set (at_ k) (gt (fdL at_ d N k) (at_ k) + gt d k)
theorem fdL_len (at_ : Nat → Nat) (d : List Int) (N : Nat) : ∀ k, (fdL at_ d N k).length = N
  | 0 => List.length_replicate
  | k + 1 => by simp only [fdL, List.length_set]; exact fdL_len at_ d N k
def fdAt (s g : List Int) (k : Nat) : Nat := (fromAt g s (k : Int)).toNat
def foldK (s d g : List Int) (k : Nat) : List Int := fdL (fdAt s g) d (sizeS g).toNat k
def foldD (s d g : List Int) : List Int := foldK s d g (sizeS s).toNat
def FoldOk (s d g : List Int) : Prop := ∀ k, k < (sizeS s).toNat → I64 (gt (foldK s d g k) (fdAt s g k) + gt d k)
theorem foldK_range {s d g : List Int} (h : FoldOk s d g) : ∀ k, k ≤ (sizeS s).toNat → I64s (foldK s d g k)
  | 0, _ => fun x hx => by rw [List.eq_of_mem_replicate hx]; exact i64_0
  | k + 1, hk => by
    have ih := foldK_range h k (by omega)
    have h1 := h k (by omega)
    intro x hx
    unfold foldK at hx
    simp only [fdL] at hx
    rcases List.mem_or_eq_of_mem_set hx with hx | rfl
    · exact ih x hx
    · exact h1
def fdS (s d g : List Int) (k : Nat) : Sto :=
  [(2, .cells true [.p (eI s), .p (eI d)]), (4, .cells true [.nils, .nils]), (5, .cells true [.p (.int .i64 0)]), (6, .cells true [.msl 55 0 1 g.length none, .msl 30 0 1 (sizeS g).toNat (some (sizeS g).toNat)]), (55, .arr true 1 (rI g)), (30, .arr true 1 (rI (foldK s d g k)))]
theorem fd_fam (s d g : List Int) : Fam (fdS s d g) [] := by
  refine ⟨fun k p hp => ?_, fun k t ht => ?_, fun k d hd => ?_, fun k t d hd ht => ?_⟩
  · simp only [fdS, List.mem_cons, List.not_mem_nil, or_false] at hp
    rcases hp with rfl | rfl | rfl | rfl | rfl | rfl <;> rfl
  · by_cases h : t ∈ (fdS s d g k).map (·.1)
    · exact h
    · exact absurd (lo_none h) ht
  · simp at hd
  · simp at hd
theorem p_tensor_Fold {s d g : List Int} (h1 : checkT s d = true) (h2 : fitsS g s = true) (hd : I64s d) (ok : FoldOk s d g) : PureC Tryz.prog fi_tensor_Fold [dT s d, dI g] (dTE ((g, foldD s d g), 0)) := by
  refine pure_tensor_Fold (by simp) fun G hP hn => ?_
  have kc := p_tensor_Check s d
  rw [h1] at kc
  have kf := p_shape_Fits g s
  rw [h2] at kf
  have hj := of_fits h2
  have kF := m_tensor_FullB (s := g) 0 (checkS_iff.2 hj.ha)
  have kfrom := p_tensor_from g s
  refine go trivial (aa kc <| aa kf <| aa kF kfrom) ?_
  refine T_range rfl (by rw [hP]; exact q_tensor_from_1 hj.ha hj.hb hj.fitR.1) (fdS s d g) [] (by rw [hn]; rfl) (fun x hx => by
    simp only [allF, List.mem_map] at hx
    obtain ⟨p, _, rfl⟩ := hx
    rfl) (fun t => ?_) (fd_fam s d g) (fun t ht => ?_) (fun d hd => by simp at hd) ?_ ?_
  · left
    simp only [fdS, foldK, fdL, lo]
  · by_cases h : t ∈ (fdS s d g 0).map (·.1)
    · exact h
    · exact absurd (lo_none h) ht
  · intro k v hv F n G' G'' ex fw h1' h2' h3' h4' hfr
    have hP0 := hP
    have hn0 := hn
    have hP : G'.P = Tryz.prog := h1'.trans hP0
    have hn : G'.nt = 59 := h2'.trans hn0
    have hk : k < (sizeS s).toNat := by
      have := (List.getElem?_eq_some_iff.1 hv).1
      rwa [allF_len] at this
    rw [allF_get g s k hk] at hv
    cases hv
    have hsz := sizeS_ok hj.hb
    have hlt := fromAt_lt hj (p := k) (by omega)
    have hdl := (checkT_iff.1 h1).2
    obtain ⟨q, hq⟩ := Int.eq_ofNat_of_zero_le hlt.1
    have hgz := sizeS_ok hj.ha
    have hlen : (foldK s d g k).length = (sizeS g).toNat := fdL_len _ _ _ _
    have hqa : fdAt s g k = q := by unfold fdAt; rw [hq, Int.toNat_natCast]
    have hqN : q < (sizeS g).toNat := by omega
    obtain ⟨x, hx⟩ : ∃ x, d[k]? = some x := ⟨_, List.getElem?_eq_getElem (by omega)⟩
    have hgx : gt d k = x := by unfold gt; rw [hx]; rfl
    obtain ⟨z, hz⟩ : ∃ z, (foldK s d g k)[q]? = some z := ⟨_, List.getElem?_eq_getElem (by omega)⟩
    have hgz2 : gt (foldK s d g k) q = z := by unfold gt; rw [hz]; rfl
    have hok := ok k hk
    rw [hqa, hgx, hgz2] at hok
    have kA := p_fix_Add (a := z) (b := x) (foldK_range ok k (by omega) _ (List.mem_of_getElem? hz)) (hd _ (List.mem_of_getElem? hx))
    have hA : fAdd z x = (z + x, 0) := rng_in hok
    rw [hA] at kA
    have hset : (foldK s d g k).set q (z + x) = foldK s d g (k + 1) := by
      have : foldK s d g (k + 1) = (foldK s d g k).set (fdAt s g k) (gt (foldK s d g k) (fdAt s g k) + gt d k) := rfl
      rw [this, hqa, hgx, hgz2]
    have hkl : k < d.length := by omega
    have hkl2 : (k : Int) < d.length := by omega
    have hq2 : (q : Int) < ((sizeS g).toNat : Int) := by omega
    simp only [putE, List.map, fdS, hq]
    clear hok hA hgx hgz2 ok
    generalize (sizeS g).toNat = N at *
    generalize foldK s d g (k + 1) = R' at *
    generalize foldK s d g k = R at *
    refine go trivial trivial ?_
    refine ⟨rfl, ?_⟩
    have hP : G''.P = Tryz.prog := h3'.trans hP0
    have hn : G''.nt = 59 := h4'.trans hn0
    refine go (aa hx <| aa hz <| aa hlen <| aa hkl <| aa hkl2 <| aa hq2 <| aa hqN <| aa @rI_set hset) kA ?_
    refine ⟨rfl, fun p hp => ?_, rfl⟩
    simp only [List.mem_cons, List.not_mem_nil, or_false] at hp
    rcases hp with rfl | rfl | rfl | rfl | rfl | rfl <;> rfl
  · simp only [List.cons_append, List.nil_append, fdS, allF_len]
    have hsl : (foldK s d g (sizeS s).toNat).length = (sizeS g).toNat := fdL_len _ _ _ _
    unfold foldD
    generalize (sizeS g).toNat = N at *
    generalize foldK s d g (sizeS s).toNat = R at *
    refine go trivial trivial ?_
    exact ends_twoM (t1 := 55) (t2 := 30) (by decide) rfl rfl rfl (by simp) (by simp [hsl]) (.inr ⟨_, rfl, rfl⟩) rfl
end Go.AM

namespace Go.AM
open Go

def frzQ (q : NOp) (t : Nat) (ob : AO) (v : AV) : Option (Nat × List (List PV)) := match q with
  | .lit _ 0 _ _ => none
  | _ => frzN t ob v
theorem frzQ_inv {q : NOp} {t k : Nat} {ob : AO} {v : AV} {rows : List (List PV)} (h : frzQ q t ob v = some (k, rows)) : ∃ cap, ob = .arr true k rows ∧ v = .one (.msl t 0 k rows.length cap) := by
  unfold frzQ at h
  split at h
  · cases h
  · exact frzN_inv h
def RunP (P : Program) (s0 : AS) : Nat → List (List Nat) → List FOp → List It → (AS → Prop) → AS → Prop
  | _, [], [], _, K, s => K s
  | i, un :: uns, o :: os, acc, K, s =>
    match gmet s.env o.g with
    | some false => acc.all (fun t => okPair un t (i, o, { v := .und })) = true ∧ RunP P s0 (i + 1) uns os ((i, o, { v := .und }) :: acc) K (putd o.d .und s)
    | some true => match o.op with
      | .q q => match evQ q s.env s.σ with
        | some v => acc.all (fun t => okPair un t (i, o, { v := v, rd := rdOf (.q q) s.env })) = true ∧ RunP P s0 (i + 1) uns os ((i, o, { v := v, rd := rdOf (.q q) s.env }) :: acc) K (putd o.d v s)
        | none => False
      | .n q => match o.d with
        | some t => match evN q s.env t with
          | some (ob, v) => match frzQ q t ob v with
            | some (k, rows) => (okFr s0 { v := .one (.p (.sl rows)), wr := some (t, .arr false k rows), nw := true } && acc.all (fun a => okPair un a (i, o, { v := .one (.p (.sl rows)), wr := some (t, .arr false k rows), nw := true }))) = true ∧
              RunP P s0 (i + 1) uns os ((i, o, { v := .one (.p (.sl rows)), wr := some (t, .arr false k rows), nw := true }) :: acc) K (putd o.d (.one (.p (.sl rows))) { s with σ := (t, .arr false k rows) :: s.σ })
            | none => (okFr s0 { v := v, wr := some (t, ob), nw := true } && acc.all (fun a => okPair un a (i, o, { v := v, wr := some (t, ob), nw := true }))) = true ∧
              RunP P s0 (i + 1) uns os ((i, o, { v := v, wr := some (t, ob), nw := true }) :: acc) K (putd o.d v { s with σ := (t, ob) :: s.σ })
          | none => False
        | none => False
      | .s q => match evS q s.env s.σ (o.d.getD 0) with
        | some (u, ob, v, k) => (k = 1 → o.d = some u) ∧
            (okFr s0 { v := v, wr := some (u, ob), nw := decide (k = 1), sc := decide (k = 2) } &&
              acc.all (fun a => okPair un a (i, o, { v := v, wr := some (u, ob), nw := decide (k = 1), sc := decide (k = 2), rd := rdOf (.s q) s.env, dt := dtOf s0 acc u, dob := dobOf s0 acc u }))) = true ∧
            RunP P s0 (i + 1) uns os ((i, o, { v := v, wr := some (u, ob), nw := decide (k = 1), sc := decide (k = 2), rd := rdOf (.s q) s.env, dt := dtOf s0 acc u, dob := dobOf s0 acc u }) :: acc) K (putd o.d v (newSt k u ob s))
        | none => False
      | .call f xs => (((gets s.env (f :: xs)).all AVp = true ∧ ∃ r, CallR P f xs s.env s.σ s.σ r ∧ acc.all (fun a => okPair un a (i, o, { v := r.av })) = true ∧
          RunP P s0 (i + 1) uns os ((i, o, { v := r.av }) :: acc) K (putd o.d r.av s))) ∨
          (∃ r t ob, CallN P f xs s.env r t ob ∧ (okFr s0 { v := r, wr := some (t, ob), nw := true } && acc.all (fun a => okPair un a (i, o, { v := r, wr := some (t, ob), nw := true }))) = true ∧
            RunP P s0 (i + 1) uns os ((i, o, { v := r, wr := some (t, ob), nw := true }) :: acc) K (putd o.d r { s with σ := (t, ob) :: s.σ })) ∨
          (∃ r t ob, CallS P f xs s.env r t (lo s.σ t) ob ∧ acc.all (fun a => okPair un a (i, o, { v := r, wr := some (t, ob), rd := [t] })) = true ∧
            RunP P s0 (i + 1) uns os ((i, o, { v := r, wr := some (t, ob), rd := [t] }) :: acc) K (putd o.d r { s with σ := (t, ob) :: s.σ })) ∨
          ∃ r t, CallS P f xs s.env r t (lo s.σ t) (lo s.σ t) ∧ acc.all (fun a => okPair un a (i, o, { v := r, rd := [t] })) = true ∧
            RunP P s0 (i + 1) uns os ((i, o, { v := r, rd := [t] }) :: acc) K (putd o.d r s)
      | .bad => False
    | none => False
  | _, _, _, _, _, _ => False
theorem runP_sound {P : Program} {s0 : AS} {U : Nat → List Nat} {K : AS → Prop} : ∀ (os : List FOp) (uns : List (List Nat)) (i : Nat) (acc : List It) (s : AS), (∀ j, j < uns.length → uns.getD j [] = U (i + j)) → (∀ a ∈ acc, a.1 < i) →
    RunP P s0 i uns os acc K s → ∃ R Z, Good P s0 U i os acc R s Z ∧ K Z
  | [], [], i, acc, s, _, _, h => by
    simp only [RunP] at h
    exact ⟨[], s, ⟨rfl, .nil (.refl s), .nil, fun _ _ _ hb => by simp at hb, fun _ hk => by simp at hk⟩, h⟩
  | [], _ :: _, i, acc, s, _, _, h => by simp [RunP] at h
  | _ :: _, [], i, acc, s, _, _, h => by simp [RunP] at h
  | o :: os, un :: uns, i, acc, s, hU, hlt, h => by
    have hun : un = U i := by have := hU 0 (by simp); simpa using this
    have hU' : ∀ j, j < uns.length → uns.getD j [] = U (i + 1 + j) := fun j hj => by
      have := hU (j + 1) (by simpa using hj)
      rw [show i + 1 + j = i + (j + 1) from by omega]
      simpa using this
    have hlt' : ∀ (f : FP), ∀ a ∈ ((i, o, f) :: acc : List It), a.1 < i + 1 := fun f a ha => by
      rcases List.mem_cons.1 ha with rfl | ha
      · simp
      · have := hlt a ha; omega
    have fin : ∀ (f : FP), En P o f s → Fr f s0 → Told s0 acc f → acc.all (fun a => okPair un a (i, o, f)) = true → RunP P s0 (i + 1) uns os ((i, o, f) :: acc) K (stepS o f s) → ∃ R Z, Good P s0 U i (o :: os) acc R s Z ∧ K Z := by
      intro f h1 h2 h3 h4 h5
      obtain ⟨R, Z, hg, hk⟩ := runP_sound os uns (i + 1) _ _ hU' (hlt' f) h5
      exact ⟨(i, o, f) :: R, Z, hg.cons h1 h2 h3 hlt (by rw [← hun]; exact h4), hk⟩
    have noSc : ∀ f : FP, f.wr = none → Told s0 acc f := fun f hf u hu => by
      unfold FP.scO at hu; rw [hf] at hu; cases hs : f.sc <;> rw [hs] at hu <;> cases hu
    have noFr : ∀ f : FP, f.wr = none → Fr f s0 := fun f hf hn u ob hw => by rw [hf] at hw; cases hw
    simp only [RunP] at h
    split at h
    · rename_i hg
      refine fin { v := .und } (.skip hg rfl rfl) (noFr _ rfl) (noSc _ rfl) h.1 ?_
      exact h.2
    · rename_i hg
      split at h
      · rename_i q ho
        split at h
        · rename_i v hv
          exact fin _ (.q hg ho hv (fun t ht => by rw [ho] at ht; exact ht) rfl) (noFr _ rfl) (noSc _ rfl) h.1 h.2
        · exact h.elim
      · rename_i q ho
        split at h
        · rename_i t hd
          split at h
          · rename_i ob v hv
            split at h
            · rename_i k rows hfz
              simp only [Bool.and_eq_true] at h
              obtain ⟨cap, rfl, rfl⟩ := frzQ_inv hfz
              exact fin _ (.nG hg ho hd hv rfl rfl rfl rfl) (okFr_sound h.1.1) (fun u hu => by simp [FP.scO] at hu) h.1.2 h.2
            · simp only [Bool.and_eq_true] at h
              exact fin _ (.n hg ho hd hv rfl rfl rfl) (okFr_sound h.1.1) (fun u hu => by simp [FP.scO] at hu) h.1.2 h.2
          · exact h.elim
        · exact h.elim
      · rename_i q ho
        split at h
        · rename_i u ob v k hv
          obtain ⟨h1, h2, h3⟩ := h
          simp only [Bool.and_eq_true] at h2
          refine fin { v := v, wr := some (u, ob), nw := decide (k = 1), sc := decide (k = 2), rd := rdOf (.s q) s.env, dt := dtOf s0 acc u, dob := dobOf s0 acc u } (.s hg ho hv (fun t ht => by rw [ho] at ht; exact ht) rfl (fun hk => ⟨by simp [hk], h1 hk⟩) rfl)
            (okFr_sound (f := { v := v, wr := some (u, ob), nw := decide (k = 1), sc := decide (k = 2) }) h2.1) (fun w hw => ?_) h2.2 ?_
          · unfold FP.scO at hw
            split at hw
            · simp at hw; subst hw; exact ⟨rfl, rfl⟩
            · cases hw
          · have : stepS o { v := v, wr := some (u, ob), nw := decide (k = 1), sc := decide (k = 2), rd := rdOf (.s q) s.env, dt := dtOf s0 acc u, dob := dobOf s0 acc u } s = putd o.d v (newSt k u ob s) := by
              unfold stepS
              simp only
              by_cases hk : k = 2
              · subst hk; rfl
              · simp [newSt, hk]
            rw [this]; exact h3
        · exact h.elim
      · rename_i f xs ho
        rcases h with ⟨h1, r, h2, h3, h4⟩ | ⟨r, t, ob, h2, h3, h4⟩ | ⟨r, t, ob, h2, h3, h4⟩ | ⟨r, t, h2, h3, h4⟩
        · exact fin _ (.call hg ho h1 h2 rfl rfl) (noFr _ rfl) (noSc _ rfl) h3 h4
        · simp only [Bool.and_eq_true] at h3
          exact fin _ (.callN hg ho h2 rfl rfl rfl) (okFr_sound h3.1) (fun u hu => by simp [FP.scO] at hu) h3.2 h4
        · exact fin _ (.callS hg ho h2 rfl (by simp) rfl rfl rfl) (fun hn => by cases hn) (fun u hu => by simp [FP.scO] at hu) h3 h4
        · exact fin _ (.callK hg ho h2 rfl (by simp) rfl) (noFr _ rfl) (noSc _ rfl) h3 h4
      · exact h.elim
    · exact h.elim
section
variable {G : Ground} {F : Fence} {n : Nat} {Q : Exit → AS → Prop} {s : AS}
theorem T_drP (hF : FOk F) {un : List (List Nat)} {t : TOps} {kp ids : List Nat} {S : AS} (hm : G.P.follows .mixedOrders = true) (h : RunP G.P s 0 un t.flat [] (fun s' => s'.keep kp ids = S) s) (k : Q .normal S) :
    T G F n (.region (some un) t kp ids) Q s := T_good hF hm fun U hU => by
  obtain ⟨R, Z, h1, h2⟩ := runP_sound (P := G.P) (s0 := s) (U := U) t.flat un 0 [] s hU (fun a ha => by simp at ha) h
  exact ⟨R, Z, h1, h2 ▸ k⟩
end
section
variable {P : Program} {s0 s : AS} {i : Nat} {un : List Nat} {uns : List (List Nat)} {os : List FOp} {acc : List It} {K : AS → Prop} {d : Option Nat} {g : Option (Nat × Bool)}
theorem RunP_nil : RunP P s0 i [] [] acc K s = K s := by simp only [RunP]
theorem RunP_q {q : QOp} : RunP P s0 i (un :: uns) (⟨d, g, .q q⟩ :: os) acc K s = match gmet s.env g with
    | some false => acc.all (fun t => okPair un t (i, ⟨d, g, .q q⟩, { v := .und })) = true ∧ RunP P s0 (i + 1) uns os ((i, ⟨d, g, .q q⟩, { v := .und }) :: acc) K (putd d .und s)
    | some true => match evQ q s.env s.σ with
        | some v => acc.all (fun t => okPair un t (i, ⟨d, g, .q q⟩, { v := v, rd := rdOf (.q q) s.env })) = true ∧ RunP P s0 (i + 1) uns os ((i, ⟨d, g, .q q⟩, { v := v, rd := rdOf (.q q) s.env }) :: acc) K (putd d v s)
        | none => False
    | none => False := by simp only [RunP]
theorem RunP_n {q : NOp} {t : Nat} : RunP P s0 i (un :: uns) (⟨some t, g, .n q⟩ :: os) acc K s = match gmet s.env g with
    | some false => acc.all (fun a => okPair un a (i, ⟨some t, g, .n q⟩, { v := .und })) = true ∧ RunP P s0 (i + 1) uns os ((i, ⟨some t, g, .n q⟩, { v := .und }) :: acc) K (putd (some t) .und s)
    | some true => match evN q s.env t with
          | some (ob, v) => match frzQ q t ob v with
            | some (k, rows) => (okFr s0 { v := .one (.p (.sl rows)), wr := some (t, .arr false k rows), nw := true } && acc.all (fun a => okPair un a (i, ⟨some t, g, .n q⟩, { v := .one (.p (.sl rows)), wr := some (t, .arr false k rows), nw := true }))) = true ∧
              RunP P s0 (i + 1) uns os ((i, ⟨some t, g, .n q⟩, { v := .one (.p (.sl rows)), wr := some (t, .arr false k rows), nw := true }) :: acc) K (putd (some t) (.one (.p (.sl rows))) { s with σ := (t, .arr false k rows) :: s.σ })
            | none => (okFr s0 { v := v, wr := some (t, ob), nw := true } && acc.all (fun a => okPair un a (i, ⟨some t, g, .n q⟩, { v := v, wr := some (t, ob), nw := true }))) = true ∧
              RunP P s0 (i + 1) uns os ((i, ⟨some t, g, .n q⟩, { v := v, wr := some (t, ob), nw := true }) :: acc) K (putd (some t) v { s with σ := (t, ob) :: s.σ })
          | none => False
    | none => False := by simp only [RunP]
theorem RunP_s {q : SOp} : RunP P s0 i (un :: uns) (⟨d, g, .s q⟩ :: os) acc K s = match gmet s.env g with
    | some false => acc.all (fun t => okPair un t (i, ⟨d, g, .s q⟩, { v := .und })) = true ∧ RunP P s0 (i + 1) uns os ((i, ⟨d, g, .s q⟩, { v := .und }) :: acc) K (putd d .und s)
    | some true => match evS q s.env s.σ (d.getD 0) with
        | some (u, ob, v, k) => (k = 1 → d = some u) ∧
            (okFr s0 { v := v, wr := some (u, ob), nw := decide (k = 1), sc := decide (k = 2) } &&
              acc.all (fun a => okPair un a (i, ⟨d, g, .s q⟩, { v := v, wr := some (u, ob), nw := decide (k = 1), sc := decide (k = 2), rd := rdOf (.s q) s.env, dt := dtOf s0 acc u, dob := dobOf s0 acc u }))) = true ∧
            RunP P s0 (i + 1) uns os ((i, ⟨d, g, .s q⟩, { v := v, wr := some (u, ob), nw := decide (k = 1), sc := decide (k = 2), rd := rdOf (.s q) s.env, dt := dtOf s0 acc u, dob := dobOf s0 acc u }) :: acc) K (putd d v (newSt k u ob s))
        | none => False
    | none => False := by simp only [RunP]
variable {f : Opd} {xs : List Opd} {t : Nat} {ob : AO}
theorem RunP_P {r : DV} (hg : gmet s.env g = some true) (hp : (gets s.env (f :: xs)).all AVp = true) (hc : CallR P f xs s.env s.σ s.σ r) (ha : acc.all (fun a => okPair un a (i, ⟨d, g, .call f xs⟩, { v := r.av })) = true)
    (k : RunP P s0 (i + 1) uns os ((i, ⟨d, g, .call f xs⟩, { v := r.av }) :: acc) K (putd d r.av s)) : RunP P s0 i (un :: uns) (⟨d, g, .call f xs⟩ :: os) acc K s := by
  simp only [RunP, hg]; exact .inl ⟨hp, r, hc, ha, k⟩
theorem RunP_S {r : AV} (hg : gmet s.env g = some true) (hc : CallS P f xs s.env r t (lo s.σ t) ob) (ha : acc.all (fun a => okPair un a (i, ⟨d, g, .call f xs⟩, { v := r, wr := some (t, ob), rd := [t] })) = true)
    (k : RunP P s0 (i + 1) uns os ((i, ⟨d, g, .call f xs⟩, { v := r, wr := some (t, ob), rd := [t] }) :: acc) K (putd d r { s with σ := (t, ob) :: s.σ })) : RunP P s0 i (un :: uns) (⟨d, g, .call f xs⟩ :: os) acc K s := by
  simp only [RunP, hg]; exact .inr (.inr (.inl ⟨r, t, ob, hc, ha, k⟩))
end
attribute [go_sem] RunP_nil RunP_q RunP_n RunP_s frzQ
end Go.AM

namespace Go.AM
open Go Go.Proofs
set_option maxRecDepth 100000
set_option maxHeartbeats 4000000

abbrev dTold (r : Tn × Int) : DV := .agg [eI r.1.1, eI r.1.2, .int .i64 r.2]
theorem p_eval_of (r : Tn × Int) : PureC Tryz.prog fi_eval_of_api_Tensor [dT r.1.1 r.1.2, dN r.2] (dTold r) := by
  refine pure_eval_of_api_Tensor (by simp) fun G hP hn => ?_
  refine go trivial trivial ?_
  exact ends_ret rfl rfl rfl rfl
theorem p_eval_matmul (s d t e : List Int) (l : List Tn) (nums : List Int) (hd : I64s d) (he : I64s e) : PureC Tryz.prog fi_eval_rules_1 [dTs ((s, d) :: (t, e) :: l), dI nums] (dTold (mulF s d t e)) := by
  refine pure_eval_rules_1 (by simp) fun G hP hn => ?_
  have km := p_matmul_Mul s d t e hd he
  generalize mulF s d t e = R at *
  have ko := p_eval_of R
  refine go trivial (aa km ko) ?_
  exact ends_ret rfl rfl rfl rfl
theorem p_eval_reshape (s d : List Int) (l : List Tn) (nums : List Int) : PureC Tryz.prog fi_eval_rules_2 [dTs ((s, d) :: l), dI nums] (dTold (reshapeF s d nums)) := by
  refine pure_eval_rules_2 (by simp) fun G hP hn => ?_
  have km := p_move_Reshape s d nums
  generalize reshapeF s d nums = R at *
  have ko := p_eval_of R
  refine go trivial (aa km ko) ?_
  exact ends_ret rfl rfl rfl rfl
theorem p_eval_turn (s d : List Int) (l : List Tn) (nums : List Int) : PureC Tryz.prog fi_eval_rules_3 [dTs ((s, d) :: l), dI nums] (dTold (turnF s d)) := by
  refine pure_eval_rules_3 (by simp) fun G hP hn => ?_
  have km := p_move_Turn s d
  generalize turnF s d = R at *
  have ko := p_eval_of R
  refine go trivial (aa km ko) ?_
  exact ends_ret rfl rfl rfl rfl
theorem p_eval_slice (s d : List Int) (l : List Tn) (a f t : Int) : PureC Tryz.prog fi_eval_rules_4 [dTs ((s, d) :: l), dI [a, f, t]] (dTold (sliceF s d a f t)) := by
  refine pure_eval_rules_4 (by simp) fun G hP hn => ?_
  have km := p_move_Slice s d a f t
  generalize sliceF s d a f t = R at *
  have ko := p_eval_of R
  refine go trivial (aa km ko) ?_
  exact ends_ret rfl rfl rfl rfl
theorem p_eval_join (s d t e : List Int) (l : List Tn) (a : Int) (r : List Int) : PureC Tryz.prog fi_eval_rules_5 [dTs ((s, d) :: (t, e) :: l), dI (a :: r)] (dTold (joinF s d t e a)) := by
  refine pure_eval_rules_5 (by simp) fun G hP hn => ?_
  have km := p_move_Join s d t e a
  generalize joinF s d t e a = R at *
  have ko := p_eval_of R
  refine go trivial (aa km ko) ?_
  exact ends_ret rfl rfl rfl rfl
theorem p_eval_side_1 {f : FuncId} {R : Tn × Int} (s d : List Int) (l : List Tn) (a : Int) (r : List Int) (hf : PureC Tryz.prog f [dT s d, dN a] (dTE R)) : PureC Tryz.prog fi_eval_side_1 [dTs ((s, d) :: l), dI (a :: r), .one (.box [.fn f [] []])] (dTold R) := by
  refine pure_eval_side_1 (by simp) fun G hP hn => ?_
  have ko := p_eval_of R
  refine go trivial (aa hf ko) ?_
  exact ends_ret rfl rfl rfl rfl
theorem p_eval_two_1 {op : Int} {R : Tn × Int} (s d t e : List Int) (l : List Tn) (nums : List Int) (hf : PureC Tryz.prog fi_elem_Two [dN op, dT s d, dT t e] (dTE R)) : PureC Tryz.prog fi_eval_two_1 [dTs ((s, d) :: (t, e) :: l), dI nums, .one (.box [.int .i64 op])] (dTold R) := by
  refine pure_eval_two_1 (by simp) fun G hP hn => ?_
  have ko := p_eval_of R
  refine go trivial (aa hf ko) ?_
  exact ends_ret rfl rfl rfl rfl
theorem p_eval_one_1 {op : Int} {R : Tn × Int} (s d : List Int) (l : List Tn) (nums : List Int) (hf : PureC Tryz.prog fi_elem_One [dN op, dT s d] (dTE R)) : PureC Tryz.prog fi_eval_one_1 [dTs ((s, d) :: l), dI nums, .one (.box [.int .i64 op])] (dTold R) := by
  refine pure_eval_one_1 (by simp) fun G hP hn => ?_
  have ko := p_eval_of R
  refine go trivial (aa hf ko) ?_
  exact ends_ret rfl rfl rfl rfl
theorem p_eval_given (t : Tn) (z : List Int) : PureC Tryz.prog fi_eval_given [dT t.1 t.2, dI z] (dTE (givenF t z)) := by
  refine pure_eval_given (by simp) fun G hP hn => ?_
  obtain ⟨s, d⟩ := t
  have kt := p_tensor_Check s d
  have ke := p_slices_Equal s z
  unfold givenF
  simp only
  cases h1 : checkT s d
  · rw [h1] at kt
    rw [if_neg (by simp)]
    refine go trivial kt ?_
    exact ends_ret rfl rfl rfl rfl
  rw [h1] at kt
  cases h2 : sameL s z
  · rw [h2] at ke
    rw [if_neg (by simp)]
    refine go trivial (aa kt ke) ?_
    exact ends_ret rfl rfl rfl rfl
  rw [h2] at ke
  rw [if_pos ⟨rfl, rfl⟩]
  have hok := (checkT_iff.1 h1).1
  have hs := check_len (checkS_iff.2 hok)
  have hz : d.length ≤ 64 := by have := (checkT_iff.1 h1).2; have := hok.2.2; omega
  have k1 := p_slices_Clone s (by omega)
  have k2 := p_slices_Clone d (by omega)
  refine go trivial (aa kt <| aa ke <| aa k1 k2) ?_
  exact ends_ret rfl rfl rfl rfl
abbrev esV (f : FuncId) : PV := .fn fi_eval_side_1 [] [.box [.fn f [] []]]
abbrev etV (op : Int) : PV := .fn fi_eval_two_1 [] [.box [.int .i64 op]]
abbrev eoV (op : Int) : PV := .fn fi_eval_one_1 [] [.box [.int .i64 op]]
def evL : List (Int × PV) := [(30, .fn fi_eval_rules_1 [] []), (40, .fn fi_eval_rules_2 [] []), (41, .fn fi_eval_rules_3 [] []), (42, .fn fi_eval_rules_4 [] []), (43, .fn fi_eval_rules_5 [] []), (50, esV fi_reduce_Sum), (51, esV fi_reduce_Mean), (52, esV fi_reduce_Max),
  (10, etV 10), (11, etV 11), (12, etV 12), (13, etV 13), (20, eoV 20), (21, eoV 21), (22, eoV 22), (23, eoV 23)]
def evE (l : List (Int × PV)) : List (Int × Bool × List PV) := l.map fun p => (p.1, false, [p.2])
theorem find_evE (op : Int) (l : List (Int × PV)) : findE op (evE l) = (lkI op l).map fun v => (false, [v]) := find_map (fun v : PV => (false, [v])) op l
theorem p_eval_side (f : FuncId) : PureC Tryz.prog fi_eval_side [.one (.fn f [] [])] (.one (esV f)) := by
  refine pure_eval_side (by simp) fun G hP hn => ?_
  refine go trivial trivial ?_
  exact ends_ret rfl rfl rfl rfl
theorem p_eval_two (op : Int) : PureC Tryz.prog fi_eval_two [dN op] (.one (etV op)) := by
  refine pure_eval_two (by simp) fun G hP hn => ?_
  refine go trivial trivial ?_
  exact ends_ret rfl rfl rfl rfl
theorem p_eval_one (op : Int) : PureC Tryz.prog fi_eval_one [dN op] (.one (eoV op)) := by
  refine pure_eval_one (by simp) fun G hP hn => ?_
  refine go trivial trivial ?_
  exact ends_ret rfl rfl rfl rfl
theorem p_eval_rules : PureC Tryz.prog fi_eval_rules [] (.one (.map (evE evL))) := by
  refine pure_eval_rules (by simp) fun G hP hn => ?_
  have k1 := p_eval_side fi_reduce_Sum
  have k2 := p_eval_side fi_reduce_Mean
  have k3 := p_eval_side fi_reduce_Max
  have kt := p_eval_two
  have ko := p_eval_one
  refine go trivial (aa k1 <| aa k2 k3) ?_
  refine T_for 4 (fun i (_ : Unit) => { env := [(1, .one (.mmap 6)), (11, .one (.msl 11 0 1 4 none)), (12, .one (.p (.int .i64 4))), (13, .one (.p (.int .i64 i)))], σ := [(6, .map true (evE (evL.take (8 + i)))), (11, .arr true 1 (rI [10, 11, 12, 13]))] })
    (fun _ _ => True) () trivial ?_ fun i _ hi _ => ?_
  · refine Weak.sub fun q hq => ?_
    simp only [List.mem_cons, List.not_mem_nil, or_false] at hq
    rcases hq with rfl | rfl <;> rfl
  by_cases h4 : i < 4
  · have hc : i = 0 ∨ i = 1 ∨ i = 2 ∨ i = 3 := by omega
    have q10 := kt 10
    have q11 := kt 11
    have q12 := kt 12
    have q13 := kt 13
    rcases hc with rfl | rfl | rfl | rfl
    all_goals
      refine go trivial (aa q10 <| aa q11 <| aa q12 q13) ?_
      refine rnd_next h4 () trivial (Weak.sub fun q hq => ?_)
      simp only [List.mem_cons, List.not_mem_nil, or_false] at hq
      rcases hq with rfl | rfl <;> rfl
  obtain rfl : i = 4 := by omega
  refine go trivial trivial ?_
  refine T_for 4 (fun i (_ : Unit) => { env := [(1, .one (.mmap 6)), (22, .one (.msl 22 0 1 4 none)), (23, .one (.p (.int .i64 4))), (24, .one (.p (.int .i64 i)))], σ := [(6, .map true (evE (evL.take (12 + i)))), (22, .arr true 1 (rI [20, 21, 22, 23]))] })
    (fun _ _ => True) () trivial ?_ fun i _ hi _ => ?_
  · refine Weak.sub fun q hq => ?_
    simp only [List.mem_cons, List.not_mem_nil, or_false] at hq
    rcases hq with rfl | rfl <;> rfl
  by_cases h5 : i < 4
  · have hc : i = 0 ∨ i = 1 ∨ i = 2 ∨ i = 3 := by omega
    have q20 := ko 20
    have q21 := ko 21
    have q22 := ko 22
    have q23 := ko 23
    rcases hc with rfl | rfl | rfl | rfl
    all_goals
      refine go trivial (aa q20 <| aa q21 <| aa q22 q23) ?_
      refine rnd_next h5 () trivial (Weak.sub fun q hq => ?_)
      simp only [List.mem_cons, List.not_mem_nil, or_false] at hq
      rcases hq with rfl | rfl <;> rfl
  obtain rfl : i = 4 := by omega
  refine go trivial trivial ?_
  exact ends_ret rfl rfl rfl rfl
end Go.AM

namespace Go.AM
open Go Go.Proofs
set_option maxRecDepth 100000
set_option maxHeartbeats 8000000

theorem eval_rule {op : Int} {k : Int × Int} {t : List Tn} {nums : List Int} (hk : kindF op = some k) (h1 : op ≠ 1) (h2 : op ≠ 2) (h3 : op ≠ 3) (hl : (t.length : Int) = k.1) (hw : wellF nums k.2 = true) (ht : ∀ x ∈ t, I64s x.2) :
    ∃ f caps, lkI op evL = some (.fn f [] caps) ∧ PureC Tryz.prog f ([dTs t, dI nums] ++ caps.map .one) (dTold (evF op t nums)) := by
  have hc := kind_cases hk
  simp only [List.mem_cons, Prod.mk.injEq, List.not_mem_nil, or_false] at hc
  have one : k.1 = 1 → ∃ s d, t = [(s, d)] ∧ I64s d := fun h => by
    have : t.length = 1 := by omega
    match t, this, ht with
    | [(s, d)], _, ht => exact ⟨s, d, rfl, ht (s, d) (by simp)⟩
  have two : k.1 = 2 → ∃ s d u e, t = [(s, d), (u, e)] ∧ I64s d ∧ I64s e := fun h => by
    have : t.length = 2 := by omega
    match t, this, ht with
    | [(s, d), (u, e)], _, ht => exact ⟨s, d, u, e, rfl, ht (s, d) (by simp), ht (u, e) (by simp)⟩
  have num : ∀ m : Int, k.2 = m → m ≠ -2 → m ≠ -1 → (nums.length : Int) = m := fun m h h1 h2 => by
    rw [h] at hw; unfold wellF at hw; rw [if_neg h1, if_neg h2] at hw; simpa using hw
  rcases hc with ⟨rfl, rfl⟩ | ⟨rfl, rfl⟩ | ⟨rfl, rfl⟩ | ⟨rfl, rfl⟩ | ⟨rfl, rfl⟩ | ⟨rfl, rfl⟩ | ⟨rfl, rfl⟩ | ⟨rfl, rfl⟩ | ⟨rfl, rfl⟩ | ⟨rfl, rfl⟩ | ⟨rfl, rfl⟩ | ⟨rfl, rfl⟩ | ⟨rfl, rfl⟩ | ⟨rfl, rfl⟩ | ⟨rfl, rfl⟩ | ⟨rfl, rfl⟩ | ⟨rfl, rfl⟩ | ⟨rfl, rfl⟩ | ⟨rfl, rfl⟩
  · exact absurd rfl h1
  · exact absurd rfl h2
  · exact absurd rfl h3
  · obtain ⟨s, d, u, e, rfl, hd, he⟩ := two rfl
    exact ⟨_, _, rfl, p_eval_two_1 s d u e [] nums (k_Add hd he)⟩
  · obtain ⟨s, d, u, e, rfl, hd, he⟩ := two rfl
    exact ⟨_, _, rfl, p_eval_two_1 s d u e [] nums (k_Sub hd he)⟩
  · obtain ⟨s, d, u, e, rfl, hd, he⟩ := two rfl
    exact ⟨_, _, rfl, p_eval_two_1 s d u e [] nums (k_Mul hd he)⟩
  · obtain ⟨s, d, u, e, rfl, hd, he⟩ := two rfl
    exact ⟨_, _, rfl, p_eval_two_1 s d u e [] nums (k_Div hd he)⟩
  · obtain ⟨s, d, rfl, hd⟩ := one rfl
    exact ⟨_, _, rfl, p_eval_one_1 s d [] nums (k_Neg hd)⟩
  · obtain ⟨s, d, rfl, hd⟩ := one rfl
    exact ⟨_, _, rfl, p_eval_one_1 s d [] nums (k_Relu hd)⟩
  · obtain ⟨s, d, rfl, hd⟩ := one rfl
    exact ⟨_, _, rfl, p_eval_one_1 s d [] nums (k_Pow hd)⟩
  · obtain ⟨s, d, rfl, hd⟩ := one rfl
    exact ⟨_, _, rfl, p_eval_one_1 s d [] nums (k_Sqrt hd)⟩
  · obtain ⟨s, d, u, e, rfl, hd, he⟩ := two rfl
    exact ⟨_, _, rfl, p_eval_matmul s d u e [] nums hd he⟩
  · obtain ⟨s, d, rfl, hd⟩ := one rfl
    exact ⟨_, _, rfl, p_eval_reshape s d [] nums⟩
  · obtain ⟨s, d, rfl, hd⟩ := one rfl
    exact ⟨_, _, rfl, p_eval_turn s d [] nums⟩
  · obtain ⟨s, d, rfl, hd⟩ := one rfl
    have h3 := num 3 rfl (by decide) (by decide)
    obtain ⟨p, f, u, rfl⟩ : ∃ p f u, nums = [p, f, u] := match nums, h3 with | [p, f, u], _ => ⟨p, f, u, rfl⟩
    exact ⟨_, _, rfl, p_eval_slice s d [] p f u⟩
  · obtain ⟨s, d, u, e, rfl, hd, he⟩ := two rfl
    have h3 := num 1 rfl (by decide) (by decide)
    obtain ⟨p, rfl⟩ : ∃ p, nums = [p] := match nums, h3 with | [p], _ => ⟨p, rfl⟩
    exact ⟨_, _, rfl, p_eval_join s d u e [] p []⟩
  · obtain ⟨s, d, rfl, hd⟩ := one rfl
    have h3 := num 1 rfl (by decide) (by decide)
    obtain ⟨p, rfl⟩ : ∃ p, nums = [p] := match nums, h3 with | [p], _ => ⟨p, rfl⟩
    exact ⟨_, _, rfl, p_eval_side_1 s d [] p [] (p_reduce_Sum s d p hd)⟩
  · obtain ⟨s, d, rfl, hd⟩ := one rfl
    have h3 := num 1 rfl (by decide) (by decide)
    obtain ⟨p, rfl⟩ : ∃ p, nums = [p] := match nums, h3 with | [p], _ => ⟨p, rfl⟩
    exact ⟨_, _, rfl, p_eval_side_1 s d [] p [] (p_reduce_Mean s d p hd)⟩
  · obtain ⟨s, d, rfl, hd⟩ := one rfl
    have h3 := num 1 rfl (by decide) (by decide)
    obtain ⟨p, rfl⟩ : ∃ p, nums = [p] := match nums, h3 with | [p], _ => ⟨p, rfl⟩
    exact ⟨_, _, rfl, p_eval_side_1 s d [] p [] (p_reduce_Max s d p hd)⟩
end Go.AM

