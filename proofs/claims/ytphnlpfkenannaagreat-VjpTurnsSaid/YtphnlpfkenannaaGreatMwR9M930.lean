import Derived.Test.YtphnlpfkenannaaGreatMwR9M929
set_option linter.unusedVariables false
set_option linter.unusedSimpArgs false
namespace Go.AM
open Go Go.Proofs
set_option maxRecDepth 100000
set_option maxHeartbeats 8000000

def reluD (a g : List Int) : List Int := (List.range g.length).map fun i => if gt a i ≤ 0 then 0 else gt g i
theorem reluD_len (a g : List Int) : (reluD a g).length = g.length := by simp [reluD]
theorem reluD_get {a g : List Int} {i : Nat} (h : i < g.length) : (reluD a g)[i]? = some (if gt a i ≤ 0 then 0 else gt g i) := by unfold reluD; rw [List.getElem?_map, List.getElem?_range h]; rfl
theorem relu_step {a g : List Int} {i : Nat} (h : i < g.length) (z : Int) (hz : z = if gt a i ≤ 0 then 0 else gt g i) : ((reluD a g).take i ++ g.drop i).set i z = (reluD a g).take (i + 1) ++ g.drop (i + 1) := by
  have hl := reluD_len a g
  rw [List.set_append_right _ _ (by rw [List.length_take]; omega), List.length_take, Nat.min_eq_left (by omega), Nat.sub_self, List.drop_eq_getElem_cons h, List.set_cons_zero, List.take_add_one, reluD_get h, hz]
  simp
theorem relu_at {a g : List Int} {i : Nat} (h : i < g.length) : ((reluD a g).take i ++ g.drop i)[i]? = some (gt g i) := by
  have hl := reluD_len a g
  rw [List.getElem?_append_right (by rw [List.length_take]; omega), List.length_take, Nat.min_eq_left (by omega), Nat.sub_self, List.getElem?_drop, Nat.add_zero, gt_some h]
variable {n : Nd} {t : List Tn} {o g : Tn}
theorem m_relu' (h0 : 0 < t.length) (hlen : (gT t 0).2.length = g.2.length) (hg1 : g.1.length ≤ 64) (hg2 : g.2.length ≤ 64) : MutC Tryz.prog fi_vjp_relu [cP] (cS n t o g 0) (aT (g.1, reluD (gT t 0).2 g.2)) (cS n t o g 0) [2, 3, 55, 56] := by
  refine mut_vjp_relu (by simp) fun G ex hP hn hfr => ?_
  have hf2 := hfr 2 (by simp)
  have hf3 := hfr 3 (by simp)
  have hf55 := hfr 55 (by simp)
  have hf56 := hfr 56 (by simp)
  obtain ⟨g1, g2⟩ := g
  simp only at hlen hg1 hg2 ⊢
  have k1 : MutC Tryz.prog fi_slices_Clone_int_int [.one (.p (eI g1))] [] (.one (.msl 56 0 1 g1.length none)) [(56, .arr true 1 (rI g1))] [56] := (m_slices_Clone g1 (by omega)).ren (swp_swp 5 56)
  have k2 : MutC Tryz.prog fi_slices_Clone_int_int [.one (.p (eI g2))] [] (.one (.msl 55 0 1 g2.length none)) [(55, .arr true 1 (rI g2))] [55] := (m_slices_Clone g2 (by omega)).ren (swp_swp 5 55)
  refine go (aa hf2 <| aa hf3 <| aa hf55 hf56) trivial ?_
  apply T_drP fw (by rw [hP]; rfl)
  · simp only [go_sem, seval, reduceIte, ↓reduceIte, bne, beq_false, beq_true, Bool.not_eq_true, Bool.if_true_right, decide_not, reduceCtorEq, hP, hn, hf2, hf3, hf55, hf56]
    refine RunP_N rfl ⟨_, _, _, _, rfl, rfl, k1⟩ (by simp only [go_sem, seval, reduceIte, ↓reduceIte, bne, beq_false, beq_true, Bool.not_eq_true, Bool.if_true_right, decide_not, reduceCtorEq, hP, hn, hf2, hf3, hf55, hf56]) ?_
    simp only [go_sem, seval, reduceIte, ↓reduceIte, bne, beq_false, beq_true, Bool.not_eq_true, Bool.if_true_right, decide_not, reduceCtorEq, hP, hn, hf2, hf3, hf55, hf56]
    refine RunP_N rfl ⟨_, _, _, _, rfl, rfl, k2⟩ (by simp only [go_sem, seval, reduceIte, ↓reduceIte, bne, beq_false, beq_true, Bool.not_eq_true, Bool.if_true_right, decide_not, reduceCtorEq, hP, hn, hf2, hf3, hf55, hf56]) ?_
    simp only [go_sem, seval, reduceIte, ↓reduceIte, bne, beq_false, beq_true, Bool.not_eq_true, Bool.if_true_right, decide_not, reduceCtorEq, hP, hn, hf2, hf3, hf55, hf56]
    exact rfl
  have hx0 := gT_some h0
  have hw2 : (0 : Int) < (t.length : Int) := by omega
  generalize gT t 0 = q at *
  obtain ⟨a1, a2⟩ := q
  simp only at hlen ⊢
  refine go (aa hx0 <| aa h0 hw2) trivial ?_
  refine T_for a2.length (fun i (_ : Unit) => { env := [(2, .one (.ptr 2 0 2 0)), (3, .one (.ptr 3 0 2 0)), (25, .one (.p (eI a2))), (26, .one (.p (.int .i64 a2.length))), (27, .one (.p (.int .i64 i)))], σ := [(72, .cells true (cC n t o (g1, g2) 0)), (2, .cells true [.nils, .nils]), (3, .cells true [.msl 56 0 1 g1.length none, .msl 55 0 1 g2.length none]), (56, .arr true 1 (rI g1)), (55, .arr true 1 (rI ((reluD a2 g2).take i ++ g2.drop i)))], ex := ex })
    (fun _ _ => True) () trivial ?_ fun i _ hi _ => ?_
  · refine Weak.sub fun z hz => ?_
    simp only [List.mem_cons, List.not_mem_nil, or_false] at hz
    rcases hz with rfl | rfl | rfl | rfl | rfl <;> rfl
  have hacl : ((reluD a2 g2).take i ++ g2.drop i).length = g2.length := by rw [List.length_append, List.length_take, reluD_len, List.length_drop]; omega
  by_cases hlt : i < a2.length
  · have c1 : (i : Int) < a2.length := by omega
    have w1 : IntKind.i64.wrap ((i : Int) + 1) = ((i + 1 : Nat) : Int) := by rw [wrap_in (by omega) (by omega)]; rfl
    have hx : a2[i]? = some (gt a2 i) := gt_some hlt
    have hlt2 : i < g2.length := by omega
    have c2 : (i : Int) < g2.length := by omega
    have hy := relu_at (a := a2) hlt2
    have hst := fun z hz => relu_step (a := a2) (g := g2) hlt2 z hz
    generalize (reluD a2 g2).take i ++ g2.drop i = acc at *
    by_cases hz : gt a2 i ≤ 0
    · have hs := hst 0 (by rw [if_pos hz])
      clear hst
      generalize hacc' : (reluD a2 g2).take (i + 1) ++ g2.drop (i + 1) = acc' at *
      generalize gt a2 i = x at *
      refine go (aa c1 <| aa w1 <| aa hx <| aa hlt <| aa hlt2 <| aa c2 <| aa hz <| aa hy <| aa hacl <| aa @rI_set hs) trivial ?_
      refine rnd_next hlt () trivial (Weak.sub fun z hz => ?_)
      simp only [List.mem_cons, List.not_mem_nil, or_false] at hz
      rcases hz with rfl | rfl | rfl | rfl | rfl
      · rfl
      · rfl
      · rfl
      · rfl
      · show AO.arr true 1 (rI acc') = AO.arr true 1 (rI _)
        rw [hacc']
    · have hs := hst (gt g2 i) (by rw [if_neg hz])
      have hs0 : acc.set i (gt g2 i) = acc := by
        apply List.ext_getElem?
        intro j
        by_cases hj : j = i
        · subst hj; rw [List.getElem?_set_self (by omega), hy]
        · rw [List.getElem?_set_ne (Ne.symm hj)]
      rw [hs0] at hs
      clear hst hs0
      generalize gt a2 i = x at *
      refine go (aa c1 <| aa w1 <| aa hx <| aa hlt hz) trivial ?_
      refine rnd_next hlt () trivial (Weak.sub fun z hz => ?_)
      simp only [List.mem_cons, List.not_mem_nil, or_false] at hz
      rcases hz with rfl | rfl | rfl | rfl | rfl
      · rfl
      · rfl
      · rfl
      · rfl
      · show AO.arr true 1 (rI acc) = AO.arr true 1 (rI _)
        rw [← hs]
  obtain rfl : i = a2.length := by omega
  have d1 : ¬ (a2.length : Int) < a2.length := by omega
  have hend : (reluD a2 g2).take a2.length ++ g2.drop a2.length = reluD a2 g2 := by rw [hlen, List.drop_length, List.append_nil, List.take_of_length_le (by rw [reluD_len]; omega)]
  rw [hend]
  have hrl : (reluD a2 g2).length = g2.length := reluD_len _ _
  generalize reluD a2 g2 = R at *
  refine T_weak (Weak.freezeC 3 0 rfl rfl (toD_list (n := 5) rfl (by simp)) rfl) ?_
  simp only [lo, Nat.reduceEqDiff, if_true, if_false, if_pos, List.set]
  refine T_weak (Weak.freezeC 3 1 rfl rfl (toD_list (n := 5) rfl (by simp [hrl])) rfl) ?_
  simp only [lo, Nat.reduceEqDiff, if_true, if_false, if_pos, List.set]
  refine go d1 trivial ?_
  exact endsM_ret rfl rfl rfl (end72 (g := (g1, g2)) rfl) rfl
theorem m_relu (h0 : 0 < t.length) (hlen : (gT t 0).2.length = g.2.length) (hg1 : g.1.length ≤ 64) (hg2 : g.2.length ≤ 64) : MutC Tryz.prog fi_vjp_relu [cP] (cS n t o g 0) (aT (g.1, reluD (gT t 0).2 g.2)) (cS n t o g 0) [] :=
  ((((m_relu' h0 hlen hg1 hg2).hide 2 rfl rfl rfl rfl (by simp)).hide 3 rfl rfl rfl rfl (by simp)).hide 55 rfl rfl rfl rfl (by simp)).hide 56 rfl rfl rfl rfl (by simp)
end Go.AM

namespace Go.AM
open Go Go.Proofs

theorem ShapeOk.eraseIdx {s : List Int} (h : ShapeOk s) (n : Nat) : ShapeOk (s.eraseIdx n) := by
  by_cases hn : n < s.length
  · have e := prd_split s hn
    have e2 : s.eraseIdx n = s.take n ++ s.drop (n + 1) := List.eraseIdx_eq_take_drop_succ s n
    have h1 := (h.take n).2.2
    have hs := h.2.1 s[n] (List.getElem_mem hn)
    have p1 := h.take n
    have p2 := h.drop (n + 1)
    have b1 : 1 ≤ prd (s.take n) := prd_pos p1.2.1
    have b2 : 1 ≤ prd (s.drop (n + 1)) := prd_pos p2.2.1
    refine ⟨?_, fun m hm => h.2.1 m (List.mem_of_mem_eraseIdx hm), ?_⟩
    · rw [List.length_eraseIdx]; split <;> (have := h.1; omega)
    · rw [e2, prd_append]
      have h64 := h.2.2
      rw [e] at h64
      have h5 : prd (s.take n) * prd (s.drop (n + 1)) ≤ prd (s.take n) * (s[n] * prd (s.drop (n + 1))) :=
        Int.mul_le_mul_of_nonneg_left (by
          have := Int.mul_le_mul_of_nonneg_right hs.1 (by omega : 0 ≤ prd (s.drop (n + 1)))
          omega) (by omega)
      omega
  · rw [List.eraseIdx_of_length_le (by omega)]; exact h
theorem w64_small {n : Int} (h : -1000 ≤ n ∧ n ≤ 1000) : w64 n = n := wrap_in (by omega) (by omega)
end Go.AM

namespace Go.AM
open Go Go.Proofs
set_option maxRecDepth 100000
set_option maxHeartbeats 4000000

theorem cel_zero {n p : Nat} {d : List Int} {i j : Nat} (hj : j < p) : cel n p d (tab n p fun _ _ => 0) i j = (0, 0) := by
  unfold cel
  exact dot_none i64_0 fun k hk => by rw [Nat.zero_add]; exact gt_tab hk hj
theorem mul_zero {m n p : Nat} {d e : List Int} (h1 : checkT [(m : Int), (n : Int)] d = true) (h2 : checkT [(n : Int), (p : Int)] (tab n p fun _ _ => 0) = true) (h3 : checkS [(m : Int), (p : Int)] = true) :
    mulF [(m : Int), (n : Int)] d [(n : Int), (p : Int)] (tab n p fun _ _ => 0) = (([(m : Int), (p : Int)], List.replicate (m * p) 0), 0) := by
  rw [mul_go h1 h2 h3 (fun i j hi hj => by rw [cel_zero hj])]
  unfold prod
  rw [tab_congr (g' := fun _ _ => 0) (fun i j hi hj => by rw [cel_zero hj])]
  congr 2
  unfold tab
  rw [List.map_const']; simp
end Go.AM

namespace Go.AM
open Go Go.Proofs
set_option maxRecDepth 100000
set_option maxHeartbeats 4000000

theorem slice_range {s d : List Int} {a f t : Int} (hd : I64s d) : I64s (sliceF s d a f t).1.2 := by
  unfold sliceF
  split
  · split
    · exact I64s.nil
    · exact I64s.mk fun x => atF_range hd
  · exact I64s.nil
end Go.AM

namespace Go.AM
open Go Go.Proofs

def more (l : List Nd) : List Nd := l ++ [⟨11, [(l.length : Int) - 1, (l.length : Int) - 1], []⟩, ⟨20, [(l.length : Int) - 1], []⟩, ⟨20, [(l.length : Int) + 1], []⟩]
end Go.AM

namespace Go.AM
open Go Go.Proofs
set_option maxRecDepth 100000
set_option maxHeartbeats 4000000

theorem nodeF_ev {n : Nd} {t : List Tn} {i : Tn} {p : List Tn} (h : t.all (fun x => checkT x.1 x.2) = true) (hi : (inferF n.op n.nums (t.map (·.1))).2 = 0) (h1 : n.op ≠ 1) (h2 : n.op ≠ 2) (h3 : n.op ≠ 3) : nodeF n t i p = evF n.op t n.nums := by
  unfold nodeF; rw [if_pos h, if_pos hi, if_neg h1, if_neg h2, if_neg h3]
theorem infer_ok {op : Int} {nums : List Int} {s : List (List Int)} {k : Int × Int} (hk : kindF op = some k) (hl : (s.length : Int) = k.1) (hw : wellF nums k.2 = true) (hs : s.all checkS = true) (hr : (ruleF op s nums).2 = true) :
    inferF op nums s = ((ruleF op s nums).1, 0) := by
  have h : inferOk op nums s = true := by unfold inferOk; rw [hk]; simp only [decide_eq_true hl, hw, hs, hr, Bool.and_self]
  unfold inferF; rw [if_pos h]
theorem infer_inv {op : Int} {nums : List Int} {s : List (List Int)} (h : (inferF op nums s).2 = 0) : inferOk op nums s = true ∧ (inferF op nums s).1 = (ruleF op s nums).1 := by
  unfold inferF at h ⊢
  by_cases h1 : inferOk op nums s = true
  · rw [if_pos h1]; exact ⟨h1, rfl⟩
  · rw [if_neg h1] at h; simp at h
theorem back_cases {n : Nd} {t : List Tn} {i g : Tn} {p : List Tn} (rs : List (Tn × Int)) (h : (nodeF n t i p).2 = 0) :
    backP n t (nodeF n t i p).1 g rs = ([], 30) ∨ backP n t (nodeF n t i p).1 g rs = ([], 20) ∨ (Pass n t (nodeF n t i p).1 g ∧ backP n t (nodeF n t i p).1 g rs = runR rs []) := by
  obtain ⟨q1, q2, q3⟩ := nodeF_ok h
  generalize (nodeF n t i p).1 = o at *
  unfold backP
  by_cases c : (checkT o.1 o.2 && (checkT g.1 g.2 && t.all (fun x => checkT x.1 x.2))) = true
  · rw [if_pos c, if_pos q2]
    by_cases e : sameL o.1 (inferF n.op n.nums (t.map (·.1))).1 = true ∧ sameL g.1 (inferF n.op n.nums (t.map (·.1))).1 = true
    · rw [if_pos e]
      simp only [Bool.and_eq_true] at c
      exact .inr (.inr ⟨⟨c.1, c.2.1, c.2.2, q2, sameL_iff.1 e.1, sameL_iff.1 e.2⟩, rfl⟩)
    · rw [if_neg e]; exact .inr (.inl rfl)
  · rw [if_neg c]; exact .inl rfl
def Forth (n : Nd) (t : List Tn) (g : Tn) (rs : List (Tn × Int)) : Prop := (nodeF n t ([], []) []).2 = 0 →
    (backP n t (nodeF n t ([], []) []).1 g rs = ([], 30) ∨ backP n t (nodeF n t ([], []) []).1 g rs = ([], 20) ∨
      ∃ L, backP n t (nodeF n t ([], []) []).1 g rs = (L, 0) ∧ L.length = t.length ∧ nodeF n L ([], []) [] = (g, 0) ∧ ∀ x ∈ L, I64s x.2)
theorem forth_of {n : Nd} {t : List Tn} {g : Tn} {rs : List (Tn × Int)} (h : (nodeF n t ([], []) []).2 = 0 → Pass n t (nodeF n t ([], []) []).1 g → ∃ L, runR rs [] = (L, 0) ∧ L.length = t.length ∧ nodeF n L ([], []) [] = (g, 0) ∧ ∀ x ∈ L, I64s x.2) : Forth n t g rs := fun h0 => by
  rcases back_cases (g := g) rs h0 with h1 | h1 | ⟨h1, h2⟩
  · exact .inl h1
  · exact .inr (.inl h1)
  · rw [h2]; exact .inr (.inr (h h0 h1))
theorem forth_turn {a g : Tn} (hg : I64s g.2) : Forth ⟨41, [], []⟩ [a] g [turnF g.1 g.2] := forth_of fun h0 hp => by
  obtain ⟨p1, p2, p3, p4, p5, p6⟩ := hp
  have ok := turnF_ok p2
  have hk := turnD_check p2
  have hT : turnF g.1 g.2 = ((g.1.reverse, turnD g.1 g.2), 0) := ok
  refine ⟨[(g.1.reverse, turnD g.1 g.2)], by rw [hT]; rfl, rfl, ?_, fun x hx => ?_⟩
  · have hall : [(g.1.reverse, turnD g.1 g.2)].all (fun x => checkT x.1 x.2) = true := by simp [hk]
    have hi : (inferF 41 [] ([(g.1.reverse, turnD g.1 g.2)].map (·.1))).2 = 0 := by
      rw [infer_ok (k := (1, 0)) rfl rfl rfl (by simp [checkS_iff.2 (checkT_iff.1 hk).1]) rfl]
    rw [nodeF_ev hall hi (by decide) (by decide) (by decide)]
    show turnF g.1.reverse (turnD g.1 g.2) = (g, 0)
    exact turn_turn p2
  · rw [List.mem_singleton.1 hx]
    have := turnF_range (s := g.1) hg
    rw [hT] at this; exact this
theorem forth_reshape {a g : Tn} (hg : I64s g.2) : Forth ⟨40, [], [1, (a.2.length : Int)]⟩ [a] g [reshapeF g.1 g.2 a.1] := forth_of fun h0 hp => by
  obtain ⟨p1, p2, p3, p4, p5, p6⟩ := hp
  have hca : checkT a.1 a.2 = true := by simpa using p3
  obtain ⟨i1, i2⟩ := infer_inv p4
  have hgs : g.1 = [1, (a.2.length : Int)] := by rw [p6, i2]; rfl
  obtain ⟨k, hk, _, hw, hs, hr⟩ := inferOk_kind i1
  have hkk : k = (1, -1) := (Option.some.inj hk).symm
  subst hkk
  have hc1 : checkS [1, (a.2.length : Int)] = true := hw
  have hr' : sizeS [1, (a.2.length : Int)] = sizeS a.1 := by
    have : (sizeS [1, (a.2.length : Int)] == sizeS (gs [a.1] 0)) = true := hr
    simpa [gs] using this
  have hga := checkT_iff.1 p2
  have haa := checkT_iff.1 hca
  have e1 := sizeS_ok hga.1
  have e2 := sizeS_ok haa.1
  have hsz : sizeS a.1 = g.2.length := by rw [← hr', ← hgs]; omega
  have hR : reshapeF g.1 g.2 a.1 = ((a.1, g.2), 0) := by
    unfold reshapeF; rw [if_pos p2, if_pos ⟨checkS_iff.2 haa.1, hsz⟩]
  have hk2 : checkT a.1 g.2 = true := checkT_iff.2 ⟨haa.1, by omega⟩
  refine ⟨[(a.1, g.2)], by rw [hR]; rfl, rfl, ?_, fun x hx => by rw [List.mem_singleton.1 hx]; exact hg⟩
  have hall : [(a.1, g.2)].all (fun x => checkT x.1 x.2) = true := by simp [hk2]
  have hi : (inferF 40 [1, (a.2.length : Int)] ([(a.1, g.2)].map (·.1))).2 = 0 := by
    rw [infer_ok (op := 40) (nums := [1, (a.2.length : Int)]) (s := [(a.1, g.2)].map (·.1)) (k := (1, -1)) rfl rfl hc1 (by simp [checkS_iff.2 haa.1]) (by show (sizeS [1, (a.2.length : Int)] == sizeS (gs [a.1] 0)) = true; rw [hr']; simp [gs])]
  rw [nodeF_ev hall hi (by show (40 : Int) ≠ 1; decide) (by show (40 : Int) ≠ 2; decide) (by show (40 : Int) ≠ 3; decide)]
  show reshapeF a.1 g.2 [1, (a.2.length : Int)] = (g, 0)
  unfold reshapeF
  rw [if_pos hk2, if_pos ⟨hc1, by rw [hr', hsz]⟩, ← hgs]
theorem forth_join {a b g : Tn} {axis : Int} (hg : I64s g.2) : Forth ⟨43, [], [axis]⟩ [a, b] g [sliceF g.1 g.2 axis 0 (hd a.1 axis.toNat), sliceF g.1 g.2 axis (hd a.1 axis.toNat) (w64 (hd a.1 axis.toNat + hd b.1 axis.toNat))] := forth_of fun h0 hp => by
  obtain ⟨p1, p2, p3, p4, p5, p6⟩ := hp
  have hca : checkT a.1 a.2 = true ∧ checkT b.1 b.2 = true := by simpa using p3
  obtain ⟨i1, i2⟩ := infer_inv p4
  have hev := nodeF_ev (n := ⟨43, [], [axis]⟩) (i := ([], [])) (p := []) p3 p4 (by show (43 : Int) ≠ 1; decide) (by show (43 : Int) ≠ 2; decide) (by show (43 : Int) ≠ 3; decide)
  rw [hev] at h0
  have hJ : (joinF a.1 a.2 b.1 b.2 axis).2 = 0 := h0
  obtain ⟨q1, ⟨q2, q2'⟩, q3⟩ := join_shape hJ
  have hax : 0 ≤ axis := by omega
  obtain ⟨m, rfl⟩ := Int.eq_ofNat_of_zero_le hax
  have hml : m < a.1.length := by omega
  have hml2 : m < b.1.length := by omega
  simp only [Int.toNat_natCast] at q2' q3 ⊢
  have hgs : g.1 = a.1.set m (w64 (hd a.1 m + hd b.1 m)) := by
    rw [p6, ← p5]
    have : (nodeF ⟨43, [], [(m : Int)]⟩ [a, b] ([], []) []).1.1 = (joinF a.1 a.2 b.1 b.2 m).1.1 := by rw [hev]; rfl
    rw [this, q3]
  have ha := (checkT_iff.1 hca.1).1.2.1
  have hb := (checkT_iff.1 hca.2).1.2.1
  have hva : a.1[m]? = some (hd a.1 m) := by unfold hd; rw [List.getElem?_eq_getElem hml]; rfl
  have hvb : b.1[m]? = some (hd b.1 m) := by unfold hd; rw [List.getElem?_eq_getElem hml2]; rfl
  have hba := ha _ (List.mem_of_getElem? hva)
  have hbb := hb _ (List.mem_of_getElem? hvb)
  have hw : w64 (hd a.1 m + hd b.1 m) = hd a.1 m + hd b.1 m := w64_small (by omega)
  rw [hw] at hgs ⊢
  generalize hd a.1 m = x at *
  generalize hd b.1 m = y at *
  have hm : g.1[m]? = some (x + y) := by rw [hgs]; exact List.getElem?_set_self hml
  have s1 := sliceF_ok (f := 0) (t := x) p2 hm (by omega)
  have s2 := sliceF_ok (f := x) (t := x + y) p2 hm (by omega)
  have c1 := cut_check (f := 0) (t := x) p2 hm (by omega)
  have c2 := cut_check (f := x) (t := x + y) p2 hm (by omega)
  have hj := parts_join (a := x) p2 hm (by omega)
  refine ⟨[(g.1.set m (x - 0), cutD g.1 g.2 m (x - 0) 0), (g.1.set m (x + y - x), cutD g.1 g.2 m (x + y - x) x)], by rw [s1, s2]; rfl, rfl, ?_, fun z hz => ?_⟩
  · have hall : [(g.1.set m (x - 0), cutD g.1 g.2 m (x - 0) 0), (g.1.set m (x + y - x), cutD g.1 g.2 m (x + y - x) x)].all (fun x => checkT x.1 x.2) = true := by simp only [List.all_cons, List.all_nil, c1, c2]; rfl
    obtain ⟨r1, ⟨r2, r2'⟩, r3⟩ := join_shape (s := g.1.set m (x - 0)) (d := cutD g.1 g.2 m (x - 0) 0) (t := g.1.set m (x + y - x)) (e := cutD g.1 g.2 m (x + y - x) x) (a := (m : Int)) (by rw [hj])
    have hcg : checkS g.1 = true := checkS_iff.2 (checkT_iff.1 p2).1
    have hi : (inferF 43 [(m : Int)] ([(g.1.set m (x - 0), cutD g.1 g.2 m (x - 0) 0), (g.1.set m (x + y - x), cutD g.1 g.2 m (x + y - x) x)].map (·.1))).2 = 0 := by
      rw [infer_ok (k := (2, 1)) rfl rfl rfl (by simp only [List.map_cons, List.map_nil, List.all_cons, List.all_nil, checkS_iff.2 (checkT_iff.1 c1).1, checkS_iff.2 (checkT_iff.1 c2).1]; rfl) (by
        show (sidedF [g.1.set m (x - 0), g.1.set m (x + y - x)] [(m : Int)] (fun n _ => behindF (gs [g.1.set m (x - 0), g.1.set m (x + y - x)] 0) (gs [g.1.set m (x - 0), g.1.set m (x + y - x)] 1) n)).2 = true
        unfold sidedF
        rw [if_neg (by exact r1)]
        show (behindF (g.1.set m (x - 0)) (g.1.set m (x + y - x)) m).2 = true
        unfold behindF
        rw [if_pos ⟨r2, by simpa using r2'⟩]
        show checkS _ = true
        rw [hj] at r3
        simp only [Int.toNat_natCast] at r3
        rw [← r3]; exact hcg)]
    rw [nodeF_ev hall hi (by show (43 : Int) ≠ 1; decide) (by show (43 : Int) ≠ 2; decide) (by show (43 : Int) ≠ 3; decide)]
    exact hj
  · have g1 := slice_range (s := g.1) (a := (m : Int)) (f := 0) (t := x) hg
    have g2 := slice_range (s := g.1) (a := (m : Int)) (f := x) (t := x + y) hg
    rw [s1] at g1
    rw [s2] at g2
    simp only [List.mem_cons, List.not_mem_nil, or_false] at hz
    rcases hz with rfl | rfl
    · exact g1
    · exact g2
end Go.AM

namespace Go.AM
open Go Go.Proofs
set_option maxRecDepth 100000
set_option maxHeartbeats 16000000

theorem fold_ok {s d g : List Int} (h1 : checkT s d = true) (h2 : fitsS g s = true) (hd : (d.all fun n => decide (I64 n)) = true) (ok : FoldOk s d g) {r : List Int} (hr : foldD s d g = r) : PureC Tryz.prog fi_tensor_Fold [dT s d, dI g] (dTE ((g, r), 0)) := by
  rw [← hr]; exact p_tensor_Fold h1 h2 (i64s_dec hd) ok
theorem va1 : backP ⟨21, [], []⟩ [([2], [5, -5])] ([2], [5, -5]) ([2], [7, 7]) [(([2], [7, 0]), 0)] = ([([2], [7, 0])], 0) := by decide +kernel
theorem va2 : backP ⟨11, [], []⟩ [([2], [5, -5]), ([], [1])] ([2], [5, -5]) ([2], [7, 7]) [(([2], [7, 7]), 0), (([], [-14]), 0)] = ([([2], [7, 7]), ([], [-14])], 0) := by decide +kernel
theorem va3 (r : Tn × Int) : backP ⟨20, [], []⟩ [([2], [5, -5])] ([2], [5, -5]) ([], [1]) [r] = ([], 20) := by
  have h1 : (checkT ([2] : List Int) [5, -5] && (checkT ([] : List Int) [1] && [(([2] : List Int), ([5, -5] : List Int))].all (fun x => checkT x.1 x.2))) = true := by decide +kernel
  have h2 : inferF 20 [] [[2]] = ([2], 0) := by decide +kernel
  unfold backP
  simp only [List.map_cons, List.map_nil]
  rw [if_pos h1, h2, if_pos rfl, if_neg (by decide +kernel)]
theorem va4 (r : Tn × Int) : backP ⟨20, [], []⟩ [([2], [5, -5])] ([2], [5, -5]) ([], []) [r] = ([], 30) := by
  unfold backP
  rw [if_neg (by decide +kernel)]
theorem va5 : oneF fNeg [2] [7, 7] = (([2], [-7, -7]), 0) := by decide +kernel
theorem va6 : reluD [5, -5] [7, 7] = [7, 0] := by decide +kernel
theorem p_awake14 : PureC Tryz.prog fi_fullerlaw14_awake [] (dB true) := by
  refine pure_fullerlaw14_awake (by simp) fun G hP hn => ?_
  have i7 : I64s [7, 7] := i64s_dec (by decide)
  have k1 : PureC Tryz.prog fi_vjp_Back [dNd ⟨21, [], []⟩, dTs [([2], [5, -5])], dT [2] [5, -5], dT [2] [7, 7]] _ := p_vjp_Back ⟨21, [], []⟩ [([2], [5, -5])] ([2], [5, -5]) ([2], [7, 7]) [vfV fi_vjp_relu] [(([2], [7, 0]), 0)] (by decide) rfl (by decide) rfl (fun _ k hk => by
    have : k = 0 := by simp at hk; omega
    subst this
    have := m_relu (n := ⟨21, [], []⟩) (t := [([2], [5, -5])]) (o := ([2], [5, -5])) (g := ([2], [7, 7])) (by decide) rfl (by decide) (by decide)
    rw [show reluD (gT [([2], [5, -5])] 0).2 (([2], [7, 7]) : Tn).2 = [7, 0] from va6] at this
    exact ⟨_, _, rfl, this⟩)
  rw [va1] at k1
  have f1 : PureC Tryz.prog fi_tensor_Fold [dT [2] [7, 7], dI [2]] (dTE (([2], [7, 7]), 0)) := fold_ok (by decide +kernel) (by decide +kernel) (by decide +kernel) (by unfold FoldOk; decide +kernel) (by decide +kernel)
  have f2 : PureC Tryz.prog fi_tensor_Fold [dT [2] [-7, -7], dI []] (dTE (([], [-14]), 0)) := fold_ok (by decide +kernel) (by decide +kernel) (by decide +kernel) (by unfold FoldOk; decide +kernel) (by decide +kernel)
  have ng : PureC Tryz.prog fi_elem_One [dN 20, dT [2] [7, 7]] (dTE (([2], [-7, -7]), 0)) := by have := k_Neg (s := [2]) i7; rw [va5] at this; exact this
  have k2 : PureC Tryz.prog fi_vjp_Back [dNd ⟨11, [], []⟩, dTs [([2], [5, -5]), ([], [1])], dT [2] [5, -5], dT [2] [7, 7]] _ := p_vjp_Back ⟨11, [], []⟩ [([2], [5, -5]), ([], [1])] ([2], [5, -5]) ([2], [7, 7]) [vsV 0, vfV fi_vjp_rules_1] [(([2], [7, 7]), 0), (([], [-14]), 0)] (by decide) rfl (by decide) rfl (fun _ k hk => by
    have : k = 0 ∨ k = 1 := by simp at hk; omega
    rcases this with rfl | rfl
    · exact ⟨_, _, rfl, m_same (k := 0) (t := [([2], [5, -5]), ([], [1])]) (g := ([2], [7, 7])) (r := ([2], [7, 7])) (by decide) f1⟩
    · exact ⟨_, _, rfl, m_subB (t := [([2], [5, -5]), ([], [1])]) (g := ([2], [7, 7])) (x := ([2], [-7, -7])) (r := ([], [-14])) (by decide) ng f2⟩)
  rw [va2] at k2
  have k3 : PureC Tryz.prog fi_vjp_Back [dNd ⟨20, [], []⟩, dTs [([2], [5, -5])], dT [2] [5, -5], dT [] [1]] _ := p_vjp_Back ⟨20, [], []⟩ [([2], [5, -5])] ([2], [5, -5]) ([], [1]) [vfV fi_vjp_rules_3] [oneF fNeg [] [1]] (by decide) rfl (by decide) rfl (fun _ k hk => by
    have : k = 0 := by simp at hk; omega
    subst this
    exact ⟨_, _, rfl, m_negR (k_Neg (i64s_dec (by decide)))⟩)
  rw [va3] at k3
  have k4 : PureC Tryz.prog fi_vjp_Back [dNd ⟨20, [], []⟩, dTs [([2], [5, -5])], dT [2] [5, -5], dT [] []] _ := p_vjp_Back ⟨20, [], []⟩ [([2], [5, -5])] ([2], [5, -5]) ([], []) [vfV fi_vjp_rules_3] [oneF fNeg [] []] (by decide) rfl (by decide) rfl (fun _ k hk => by
    have : k = 0 := by simp at hk; omega
    subst this
    exact ⟨_, _, rfl, m_negR (k_Neg I64s.nil)⟩)
  rw [va4] at k4
  have j1 := c_same' [7, 0]
  have j2 := c_same' [-14]
  clear f1 f2 ng i7
  refine goL trivial trivial ?_
  exact ends_ret rfl rfl rfl rfl
theorem join_pass {a b o g : Tn} {axis : Int} (h : Pass ⟨43, [], [axis]⟩ [a, b] o g) : ∃ m : Nat, axis = m ∧ a.1[m]? = some (hd a.1 m) ∧ b.1[m]? = some (hd b.1 m) := by
  obtain ⟨_, _, _, p4, _, _⟩ := h
  obtain ⟨i1, _⟩ := infer_inv p4
  obtain ⟨_, _, _, _, _, hr⟩ := inferOk_kind i1
  have hr' : (sidedF [a.1, b.1] [axis] (fun n _ => behindF a.1 b.1 n)).2 = true := hr
  unfold sidedF at hr'
  by_cases h1 : hd [axis] 0 < 0 ∨ hd [axis] 0 ≥ ((gs [a.1, b.1] 0).length : Int)
  · rw [if_pos h1] at hr'; cases hr'
  · rw [if_neg h1] at hr'
    have h2 : ¬ (axis < 0 ∨ axis ≥ (a.1.length : Int)) := h1
    obtain ⟨m, rfl⟩ := Int.eq_ofNat_of_zero_le (by omega : 0 ≤ axis)
    have h3 : (behindF a.1 b.1 m).2 = true := hr'
    unfold behindF at h3
    by_cases h4 : a.1.length = b.1.length ∧ sameL (a.1.set m (hd b.1 m)) b.1 = true
    · have l1 : m < a.1.length := by omega
      have l2 : m < b.1.length := by omega
      exact ⟨m, rfl, by unfold hd; rw [List.getElem?_eq_getElem l1]; rfl, by unfold hd; rw [List.getElem?_eq_getElem l2]; rfl⟩
    · rw [if_neg h4] at h3; cases h3
section
variable {a1 a2 b1 b2 g1 g2 R1 R2 : List Int} {axis e f : Int} {op : Nat} {L : List Tn}
theorem vt0_e (u1 : (op : Int).tmod 3 = ((0 : Nat) : Int)) (q1 : PureC Tryz.prog fi_fullerref03_Few [dT a1 a2] (dB true)) (q2 : PureC Tryz.prog fi_fullerref03_Few [dT b1 b2] (dB true)) (q3 : PureC Tryz.prog fi_fullerref03_Few [dT g1 g2] (dB true)) (kN : PureC Tryz.prog fi_eval_Node [dNd ⟨41, [], []⟩, dTs [(a1, a2)], dT [] [], dTs []] (dTE ((R1, R2), e))) (kB : PureC Tryz.prog fi_vjp_Back [dNd ⟨41, [], []⟩, dTs [(a1, a2)], dT R1 R2, dT g1 g2] (.tup [dTs L, dN f])) (he : e ≠ 0) : PureC Tryz.prog fi_fullerlaw14_VjpTurns [dT a1 a2, dT b1 b2, dT g1 g2, dN axis, .one (.int .u8 op)] (dB true) := by
  refine pure_fullerlaw14_VjpTurns (by simp) fun G hP hn => ?_
  have e1 : (e != 0) = true := by simp [he]
  refine goL (aa u1 e1) (aa @p_awake14 <| aa q1 <| aa q2 <| aa q3 <| aa kN kB) ?_
  exact ends_ret rfl rfl rfl rfl
theorem vt0_30 (u1 : (op : Int).tmod 3 = ((0 : Nat) : Int)) (q1 : PureC Tryz.prog fi_fullerref03_Few [dT a1 a2] (dB true)) (q2 : PureC Tryz.prog fi_fullerref03_Few [dT b1 b2] (dB true)) (q3 : PureC Tryz.prog fi_fullerref03_Few [dT g1 g2] (dB true)) (kN : PureC Tryz.prog fi_eval_Node [dNd ⟨41, [], []⟩, dTs [(a1, a2)], dT [] [], dTs []] (dTE ((R1, R2), 0))) (kB : PureC Tryz.prog fi_vjp_Back [dNd ⟨41, [], []⟩, dTs [(a1, a2)], dT R1 R2, dT g1 g2] (.tup [dTs L, dN 30])) : PureC Tryz.prog fi_fullerlaw14_VjpTurns [dT a1 a2, dT b1 b2, dT g1 g2, dN axis, .one (.int .u8 op)] (dB true) := by
  refine pure_fullerlaw14_VjpTurns (by simp) fun G hP hn => ?_
  refine goL u1 (aa @p_awake14 <| aa q1 <| aa q2 <| aa q3 <| aa kN kB) ?_
  exact ends_ret rfl rfl rfl rfl
theorem vt0_20 (u1 : (op : Int).tmod 3 = ((0 : Nat) : Int)) (q1 : PureC Tryz.prog fi_fullerref03_Few [dT a1 a2] (dB true)) (q2 : PureC Tryz.prog fi_fullerref03_Few [dT b1 b2] (dB true)) (q3 : PureC Tryz.prog fi_fullerref03_Few [dT g1 g2] (dB true)) (kN : PureC Tryz.prog fi_eval_Node [dNd ⟨41, [], []⟩, dTs [(a1, a2)], dT [] [], dTs []] (dTE ((R1, R2), 0))) (kB : PureC Tryz.prog fi_vjp_Back [dNd ⟨41, [], []⟩, dTs [(a1, a2)], dT R1 R2, dT g1 g2] (.tup [dTs L, dN 20])) : PureC Tryz.prog fi_fullerlaw14_VjpTurns [dT a1 a2, dT b1 b2, dT g1 g2, dN axis, .one (.int .u8 op)] (dB true) := by
  refine pure_fullerlaw14_VjpTurns (by simp) fun G hP hn => ?_
  refine goL u1 (aa @p_awake14 <| aa q1 <| aa q2 <| aa q3 <| aa kN kB) ?_
  exact ends_ret rfl rfl rfl rfl
theorem vt0_o (u1 : (op : Int).tmod 3 = ((0 : Nat) : Int)) (q1 : PureC Tryz.prog fi_fullerref03_Few [dT a1 a2] (dB true)) (q2 : PureC Tryz.prog fi_fullerref03_Few [dT b1 b2] (dB true)) (q3 : PureC Tryz.prog fi_fullerref03_Few [dT g1 g2] (dB true)) (kN : PureC Tryz.prog fi_eval_Node [dNd ⟨41, [], []⟩, dTs [(a1, a2)], dT [] [], dTs []] (dTE ((R1, R2), 0))) (kB : PureC Tryz.prog fi_vjp_Back [dNd ⟨41, [], []⟩, dTs [(a1, a2)], dT R1 R2, dT g1 g2] (.tup [dTs L, dN 0])) (hl : L.length = 1) (kM : PureC Tryz.prog fi_eval_Node [dNd ⟨41, [], []⟩, dTs L, dT [] [], dTs []] (dTE ((g1, g2), 0))) : PureC Tryz.prog fi_fullerlaw14_VjpTurns [dT a1 a2, dT b1 b2, dT g1 g2, dN axis, .one (.int .u8 op)] (dB true) := by
  refine pure_fullerlaw14_VjpTurns (by simp) fun G hP hn => ?_
  have kS := c_sameT g1 g2
  refine goL (aa u1 hl) (aa @p_awake14 <| aa q1 <| aa q2 <| aa q3 <| aa kN <| aa kB <| aa kM kS) ?_
  exact ends_ret rfl rfl rfl rfl
theorem vt0 (u1 : (op : Int).tmod 3 = ((0 : Nat) : Int)) (q1 : PureC Tryz.prog fi_fullerref03_Few [dT a1 a2] (dB true)) (q2 : PureC Tryz.prog fi_fullerref03_Few [dT b1 b2] (dB true)) (q3 : PureC Tryz.prog fi_fullerref03_Few [dT g1 g2] (dB true)) (ha : I64s a2) (hb : I64s b2) (hg : I64s g2) : PureC Tryz.prog fi_fullerlaw14_VjpTurns [dT a1 a2, dT b1 b2, dT g1 g2, dN axis, .one (.int .u8 op)] (dB true) := by
  have ht64 : ∀ x ∈ [(a1, a2)], I64s x.2 := fun x hx => by
    simp only [List.mem_cons, List.not_mem_nil, or_false] at hx
    rw [hx]; exact ha
  have kN : PureC Tryz.prog fi_eval_Node [dNd ⟨41, [], []⟩, dTs [(a1, a2)], dT [] [], dTs []] _ := p_eval_Node ⟨41, [], []⟩ [(a1, a2)] ([], []) [] (by simp) ht64 (Nat.zero_le _)
  have hF := forth_turn (a := (a1, a2)) (g := (g1, g2)) hg
  unfold Forth at hF
  have kB : PureC Tryz.prog fi_vjp_Back [dNd ⟨41, [], []⟩, dTs [(a1, a2)], dT (nodeF ⟨41, [], []⟩ [(a1, a2)] ([], []) []).1.1 (nodeF ⟨41, [], []⟩ [(a1, a2)] ([], []) []).1.2, dT g1 g2] _ := p_vjp_Back ⟨41, [], []⟩ [(a1, a2)] (nodeF ⟨41, [], []⟩ [(a1, a2)] ([], []) []).1 (g1, g2) [vfV fi_vjp_rules_7] [turnF g1 g2] (by simp) rfl (by show 1 ≤ 2; decide) rfl (fun _ k hk => by
    have : k = 0 := by simp at hk; omega
    subst this
    exact ⟨_, _, rfl, m_turn (p_move_Turn g1 g2)⟩)
  have kM := fun (L : List Tn) (h1 : L.length ≤ 1000) (h2 : ∀ x ∈ L, I64s x.2) => p_eval_Node ⟨41, [], []⟩ L ([], []) [] h1 h2 (Nat.zero_le _)
  generalize nodeF ⟨41, [], []⟩ [(a1, a2)] ([], []) [] = R at *
  obtain ⟨⟨R1, R2⟩, e⟩ := R
  simp only at kN kB hF
  generalize backP ⟨41, [], []⟩ [(a1, a2)] (R1, R2) (g1, g2) [turnF g1 g2] = B at *
  obtain ⟨L, f⟩ := B
  simp only at kB hF
  by_cases he : e = 0
  rotate_left
  · exact vt0_e u1 q1 q2 q3 kN kB he
  subst he
  rcases hF rfl with hb | hb | ⟨L', hb, hb1, hb2, hb3⟩
  · cases hb; exact vt0_30 u1 q1 q2 q3 kN kB
  · cases hb; exact vt0_20 u1 q1 q2 q3 kN kB
  cases hb
  have hLl : L.length = 1 := hb1
  have kM' := kM L (by omega) hb3
  rw [hb2] at kM'
  exact vt0_o u1 q1 q2 q3 kN kB hLl kM'
theorem vt1_e (u1 : (op : Int).tmod 3 = ((1 : Nat) : Int)) (q1 : PureC Tryz.prog fi_fullerref03_Few [dT a1 a2] (dB true)) (q2 : PureC Tryz.prog fi_fullerref03_Few [dT b1 b2] (dB true)) (q3 : PureC Tryz.prog fi_fullerref03_Few [dT g1 g2] (dB true)) (kN : PureC Tryz.prog fi_eval_Node [dNd ⟨40, [], [1, (a2.length : Int)]⟩, dTs [(a1, a2)], dT [] [], dTs []] (dTE ((R1, R2), e))) (kB : PureC Tryz.prog fi_vjp_Back [dNd ⟨40, [], [1, (a2.length : Int)]⟩, dTs [(a1, a2)], dT R1 R2, dT g1 g2] (.tup [dTs L, dN f])) (he : e ≠ 0) : PureC Tryz.prog fi_fullerlaw14_VjpTurns [dT a1 a2, dT b1 b2, dT g1 g2, dN axis, .one (.int .u8 op)] (dB true) := by
  refine pure_fullerlaw14_VjpTurns (by simp) fun G hP hn => ?_
  have e1 : (e != 0) = true := by simp [he]
  refine goL (aa u1 e1) (aa @p_awake14 <| aa q1 <| aa q2 <| aa q3 <| aa kN kB) ?_
  exact ends_ret rfl rfl rfl rfl
theorem vt1_30 (u1 : (op : Int).tmod 3 = ((1 : Nat) : Int)) (q1 : PureC Tryz.prog fi_fullerref03_Few [dT a1 a2] (dB true)) (q2 : PureC Tryz.prog fi_fullerref03_Few [dT b1 b2] (dB true)) (q3 : PureC Tryz.prog fi_fullerref03_Few [dT g1 g2] (dB true)) (kN : PureC Tryz.prog fi_eval_Node [dNd ⟨40, [], [1, (a2.length : Int)]⟩, dTs [(a1, a2)], dT [] [], dTs []] (dTE ((R1, R2), 0))) (kB : PureC Tryz.prog fi_vjp_Back [dNd ⟨40, [], [1, (a2.length : Int)]⟩, dTs [(a1, a2)], dT R1 R2, dT g1 g2] (.tup [dTs L, dN 30])) : PureC Tryz.prog fi_fullerlaw14_VjpTurns [dT a1 a2, dT b1 b2, dT g1 g2, dN axis, .one (.int .u8 op)] (dB true) := by
  refine pure_fullerlaw14_VjpTurns (by simp) fun G hP hn => ?_
  refine goL u1 (aa @p_awake14 <| aa q1 <| aa q2 <| aa q3 <| aa kN kB) ?_
  exact ends_ret rfl rfl rfl rfl
theorem vt1_20 (u1 : (op : Int).tmod 3 = ((1 : Nat) : Int)) (q1 : PureC Tryz.prog fi_fullerref03_Few [dT a1 a2] (dB true)) (q2 : PureC Tryz.prog fi_fullerref03_Few [dT b1 b2] (dB true)) (q3 : PureC Tryz.prog fi_fullerref03_Few [dT g1 g2] (dB true)) (kN : PureC Tryz.prog fi_eval_Node [dNd ⟨40, [], [1, (a2.length : Int)]⟩, dTs [(a1, a2)], dT [] [], dTs []] (dTE ((R1, R2), 0))) (kB : PureC Tryz.prog fi_vjp_Back [dNd ⟨40, [], [1, (a2.length : Int)]⟩, dTs [(a1, a2)], dT R1 R2, dT g1 g2] (.tup [dTs L, dN 20])) : PureC Tryz.prog fi_fullerlaw14_VjpTurns [dT a1 a2, dT b1 b2, dT g1 g2, dN axis, .one (.int .u8 op)] (dB true) := by
  refine pure_fullerlaw14_VjpTurns (by simp) fun G hP hn => ?_
  refine goL u1 (aa @p_awake14 <| aa q1 <| aa q2 <| aa q3 <| aa kN kB) ?_
  exact ends_ret rfl rfl rfl rfl
theorem vt1_o (u1 : (op : Int).tmod 3 = ((1 : Nat) : Int)) (q1 : PureC Tryz.prog fi_fullerref03_Few [dT a1 a2] (dB true)) (q2 : PureC Tryz.prog fi_fullerref03_Few [dT b1 b2] (dB true)) (q3 : PureC Tryz.prog fi_fullerref03_Few [dT g1 g2] (dB true)) (kN : PureC Tryz.prog fi_eval_Node [dNd ⟨40, [], [1, (a2.length : Int)]⟩, dTs [(a1, a2)], dT [] [], dTs []] (dTE ((R1, R2), 0))) (kB : PureC Tryz.prog fi_vjp_Back [dNd ⟨40, [], [1, (a2.length : Int)]⟩, dTs [(a1, a2)], dT R1 R2, dT g1 g2] (.tup [dTs L, dN 0])) (hl : L.length = 1) (kM : PureC Tryz.prog fi_eval_Node [dNd ⟨40, [], [1, (a2.length : Int)]⟩, dTs L, dT [] [], dTs []] (dTE ((g1, g2), 0))) : PureC Tryz.prog fi_fullerlaw14_VjpTurns [dT a1 a2, dT b1 b2, dT g1 g2, dN axis, .one (.int .u8 op)] (dB true) := by
  refine pure_fullerlaw14_VjpTurns (by simp) fun G hP hn => ?_
  have kS := c_sameT g1 g2
  refine goL (aa u1 hl) (aa @p_awake14 <| aa q1 <| aa q2 <| aa q3 <| aa kN <| aa kB <| aa kM kS) ?_
  exact ends_ret rfl rfl rfl rfl
theorem vt1 (u1 : (op : Int).tmod 3 = ((1 : Nat) : Int)) (q1 : PureC Tryz.prog fi_fullerref03_Few [dT a1 a2] (dB true)) (q2 : PureC Tryz.prog fi_fullerref03_Few [dT b1 b2] (dB true)) (q3 : PureC Tryz.prog fi_fullerref03_Few [dT g1 g2] (dB true)) (ha : I64s a2) (hb : I64s b2) (hg : I64s g2) : PureC Tryz.prog fi_fullerlaw14_VjpTurns [dT a1 a2, dT b1 b2, dT g1 g2, dN axis, .one (.int .u8 op)] (dB true) := by
  have ht64 : ∀ x ∈ [(a1, a2)], I64s x.2 := fun x hx => by
    simp only [List.mem_cons, List.not_mem_nil, or_false] at hx
    rw [hx]; exact ha
  have kN : PureC Tryz.prog fi_eval_Node [dNd ⟨40, [], [1, (a2.length : Int)]⟩, dTs [(a1, a2)], dT [] [], dTs []] _ := p_eval_Node ⟨40, [], [1, (a2.length : Int)]⟩ [(a1, a2)] ([], []) [] (by simp) ht64 (Nat.zero_le _)
  have hF := forth_reshape (a := (a1, a2)) (g := (g1, g2)) hg
  unfold Forth at hF
  have kB : PureC Tryz.prog fi_vjp_Back [dNd ⟨40, [], [1, (a2.length : Int)]⟩, dTs [(a1, a2)], dT (nodeF ⟨40, [], [1, (a2.length : Int)]⟩ [(a1, a2)] ([], []) []).1.1 (nodeF ⟨40, [], [1, (a2.length : Int)]⟩ [(a1, a2)] ([], []) []).1.2, dT g1 g2] _ := p_vjp_Back ⟨40, [], [1, (a2.length : Int)]⟩ [(a1, a2)] (nodeF ⟨40, [], [1, (a2.length : Int)]⟩ [(a1, a2)] ([], []) []).1 (g1, g2) [vfV fi_vjp_rules_6] [reshapeF g1 g2 a1] (by simp) rfl (by show 1 ≤ 2; decide) rfl (fun _ k hk => by
    have : k = 0 := by simp at hk; omega
    subst this
    exact ⟨_, _, rfl, m_resh (t := [(a1, a2)]) (by simp) (p_move_Reshape g1 g2 a1)⟩)
  have kM := fun (L : List Tn) (h1 : L.length ≤ 1000) (h2 : ∀ x ∈ L, I64s x.2) => p_eval_Node ⟨40, [], [1, (a2.length : Int)]⟩ L ([], []) [] h1 h2 (Nat.zero_le _)
  generalize nodeF ⟨40, [], [1, (a2.length : Int)]⟩ [(a1, a2)] ([], []) [] = R at *
  obtain ⟨⟨R1, R2⟩, e⟩ := R
  simp only at kN kB hF
  generalize backP ⟨40, [], [1, (a2.length : Int)]⟩ [(a1, a2)] (R1, R2) (g1, g2) [reshapeF g1 g2 a1] = B at *
  obtain ⟨L, f⟩ := B
  simp only at kB hF
  by_cases he : e = 0
  rotate_left
  · exact vt1_e u1 q1 q2 q3 kN kB he
  subst he
  rcases hF rfl with hb | hb | ⟨L', hb, hb1, hb2, hb3⟩
  · cases hb; exact vt1_30 u1 q1 q2 q3 kN kB
  · cases hb; exact vt1_20 u1 q1 q2 q3 kN kB
  cases hb
  have hLl : L.length = 1 := hb1
  have kM' := kM L (by omega) hb3
  rw [hb2] at kM'
  exact vt1_o u1 q1 q2 q3 kN kB hLl kM'
theorem vt2_e (u1 : (op : Int).tmod 3 = ((2 : Nat) : Int)) (q1 : PureC Tryz.prog fi_fullerref03_Few [dT a1 a2] (dB true)) (q2 : PureC Tryz.prog fi_fullerref03_Few [dT b1 b2] (dB true)) (q3 : PureC Tryz.prog fi_fullerref03_Few [dT g1 g2] (dB true)) (kN : PureC Tryz.prog fi_eval_Node [dNd ⟨43, [], [axis]⟩, dTs [(a1, a2), (b1, b2)], dT [] [], dTs []] (dTE ((R1, R2), e))) (kB : PureC Tryz.prog fi_vjp_Back [dNd ⟨43, [], [axis]⟩, dTs [(a1, a2), (b1, b2)], dT R1 R2, dT g1 g2] (.tup [dTs L, dN f])) (he : e ≠ 0) : PureC Tryz.prog fi_fullerlaw14_VjpTurns [dT a1 a2, dT b1 b2, dT g1 g2, dN axis, .one (.int .u8 op)] (dB true) := by
  refine pure_fullerlaw14_VjpTurns (by simp) fun G hP hn => ?_
  have e1 : (e != 0) = true := by simp [he]
  refine goL (aa u1 e1) (aa @p_awake14 <| aa q1 <| aa q2 <| aa q3 <| aa kN kB) ?_
  exact ends_ret rfl rfl rfl rfl
theorem vt2_30 (u1 : (op : Int).tmod 3 = ((2 : Nat) : Int)) (q1 : PureC Tryz.prog fi_fullerref03_Few [dT a1 a2] (dB true)) (q2 : PureC Tryz.prog fi_fullerref03_Few [dT b1 b2] (dB true)) (q3 : PureC Tryz.prog fi_fullerref03_Few [dT g1 g2] (dB true)) (kN : PureC Tryz.prog fi_eval_Node [dNd ⟨43, [], [axis]⟩, dTs [(a1, a2), (b1, b2)], dT [] [], dTs []] (dTE ((R1, R2), 0))) (kB : PureC Tryz.prog fi_vjp_Back [dNd ⟨43, [], [axis]⟩, dTs [(a1, a2), (b1, b2)], dT R1 R2, dT g1 g2] (.tup [dTs L, dN 30])) : PureC Tryz.prog fi_fullerlaw14_VjpTurns [dT a1 a2, dT b1 b2, dT g1 g2, dN axis, .one (.int .u8 op)] (dB true) := by
  refine pure_fullerlaw14_VjpTurns (by simp) fun G hP hn => ?_
  refine goL u1 (aa @p_awake14 <| aa q1 <| aa q2 <| aa q3 <| aa kN kB) ?_
  exact ends_ret rfl rfl rfl rfl
theorem vt2_20 (u1 : (op : Int).tmod 3 = ((2 : Nat) : Int)) (q1 : PureC Tryz.prog fi_fullerref03_Few [dT a1 a2] (dB true)) (q2 : PureC Tryz.prog fi_fullerref03_Few [dT b1 b2] (dB true)) (q3 : PureC Tryz.prog fi_fullerref03_Few [dT g1 g2] (dB true)) (kN : PureC Tryz.prog fi_eval_Node [dNd ⟨43, [], [axis]⟩, dTs [(a1, a2), (b1, b2)], dT [] [], dTs []] (dTE ((R1, R2), 0))) (kB : PureC Tryz.prog fi_vjp_Back [dNd ⟨43, [], [axis]⟩, dTs [(a1, a2), (b1, b2)], dT R1 R2, dT g1 g2] (.tup [dTs L, dN 20])) : PureC Tryz.prog fi_fullerlaw14_VjpTurns [dT a1 a2, dT b1 b2, dT g1 g2, dN axis, .one (.int .u8 op)] (dB true) := by
  refine pure_fullerlaw14_VjpTurns (by simp) fun G hP hn => ?_
  refine goL u1 (aa @p_awake14 <| aa q1 <| aa q2 <| aa q3 <| aa kN kB) ?_
  exact ends_ret rfl rfl rfl rfl
theorem vt2_o (u1 : (op : Int).tmod 3 = ((2 : Nat) : Int)) (q1 : PureC Tryz.prog fi_fullerref03_Few [dT a1 a2] (dB true)) (q2 : PureC Tryz.prog fi_fullerref03_Few [dT b1 b2] (dB true)) (q3 : PureC Tryz.prog fi_fullerref03_Few [dT g1 g2] (dB true)) (kN : PureC Tryz.prog fi_eval_Node [dNd ⟨43, [], [axis]⟩, dTs [(a1, a2), (b1, b2)], dT [] [], dTs []] (dTE ((R1, R2), 0))) (kB : PureC Tryz.prog fi_vjp_Back [dNd ⟨43, [], [axis]⟩, dTs [(a1, a2), (b1, b2)], dT R1 R2, dT g1 g2] (.tup [dTs L, dN 0])) (hl : L.length = 2) (kM : PureC Tryz.prog fi_eval_Node [dNd ⟨43, [], [axis]⟩, dTs L, dT [] [], dTs []] (dTE ((g1, g2), 0))) : PureC Tryz.prog fi_fullerlaw14_VjpTurns [dT a1 a2, dT b1 b2, dT g1 g2, dN axis, .one (.int .u8 op)] (dB true) := by
  refine pure_fullerlaw14_VjpTurns (by simp) fun G hP hn => ?_
  have kS := c_sameT g1 g2
  refine goL (aa u1 hl) (aa @p_awake14 <| aa q1 <| aa q2 <| aa q3 <| aa kN <| aa kB <| aa kM kS) ?_
  exact ends_ret rfl rfl rfl rfl
theorem vt2 (u1 : (op : Int).tmod 3 = ((2 : Nat) : Int)) (q1 : PureC Tryz.prog fi_fullerref03_Few [dT a1 a2] (dB true)) (q2 : PureC Tryz.prog fi_fullerref03_Few [dT b1 b2] (dB true)) (q3 : PureC Tryz.prog fi_fullerref03_Few [dT g1 g2] (dB true)) (ha : I64s a2) (hb : I64s b2) (hg : I64s g2) : PureC Tryz.prog fi_fullerlaw14_VjpTurns [dT a1 a2, dT b1 b2, dT g1 g2, dN axis, .one (.int .u8 op)] (dB true) := by
  have ht64 : ∀ x ∈ [(a1, a2), (b1, b2)], I64s x.2 := fun x hx => by
    simp only [List.mem_cons, List.not_mem_nil, or_false] at hx
    rcases hx with rfl | rfl <;> assumption
  have kN : PureC Tryz.prog fi_eval_Node [dNd ⟨43, [], [axis]⟩, dTs [(a1, a2), (b1, b2)], dT [] [], dTs []] _ := p_eval_Node ⟨43, [], [axis]⟩ [(a1, a2), (b1, b2)] ([], []) [] (by simp) ht64 (Nat.zero_le _)
  have hF := forth_join (a := (a1, a2)) (b := (b1, b2)) (g := (g1, g2)) (axis := axis) hg
  unfold Forth at hF
  have kB : PureC Tryz.prog fi_vjp_Back [dNd ⟨43, [], [axis]⟩, dTs [(a1, a2), (b1, b2)], dT (nodeF ⟨43, [], [axis]⟩ [(a1, a2), (b1, b2)] ([], []) []).1.1 (nodeF ⟨43, [], [axis]⟩ [(a1, a2), (b1, b2)] ([], []) []).1.2, dT g1 g2] _ := p_vjp_Back ⟨43, [], [axis]⟩ [(a1, a2), (b1, b2)] (nodeF ⟨43, [], [axis]⟩ [(a1, a2), (b1, b2)] ([], []) []).1 (g1, g2) [vfV fi_vjp_rules_9, vfV fi_vjp_rules_10] [sliceF g1 g2 axis 0 (hd a1 axis.toNat), sliceF g1 g2 axis (hd a1 axis.toNat) (w64 (hd a1 axis.toNat + hd b1 axis.toNat))] (by simp) rfl (by show 2 ≤ 2; decide) rfl (fun hp k hk => by
    obtain ⟨m, rfl, h1, h2⟩ := join_pass hp
    have : k = 0 ∨ k = 1 := by simp at hk; omega
    rcases this with rfl | rfl
    · exact ⟨_, _, rfl, m_sliceA (t := [(a1, a2), (b1, b2)]) (a := m) (v := hd a1 m) (by simp) h1 (p_move_Slice g1 g2 m 0 (hd a1 m))⟩
    · exact ⟨_, _, rfl, m_sliceB (t := [(a1, a2), (b1, b2)]) (a := m) (v := hd a1 m) (u := hd b1 m) (by simp) h1 h2 rfl (p_move_Slice g1 g2 m (hd a1 m) (w64 (hd a1 m + hd b1 m)))⟩)
  have kM := fun (L : List Tn) (h1 : L.length ≤ 1000) (h2 : ∀ x ∈ L, I64s x.2) => p_eval_Node ⟨43, [], [axis]⟩ L ([], []) [] h1 h2 (Nat.zero_le _)
  generalize nodeF ⟨43, [], [axis]⟩ [(a1, a2), (b1, b2)] ([], []) [] = R at *
  obtain ⟨⟨R1, R2⟩, e⟩ := R
  simp only at kN kB hF
  generalize backP ⟨43, [], [axis]⟩ [(a1, a2), (b1, b2)] (R1, R2) (g1, g2) [sliceF g1 g2 axis 0 (hd a1 axis.toNat), sliceF g1 g2 axis (hd a1 axis.toNat) (w64 (hd a1 axis.toNat + hd b1 axis.toNat))] = B at *
  obtain ⟨L, f⟩ := B
  simp only at kB hF
  by_cases he : e = 0
  rotate_left
  · exact vt2_e u1 q1 q2 q3 kN kB he
  subst he
  rcases hF rfl with hb | hb | ⟨L', hb, hb1, hb2, hb3⟩
  · cases hb; exact vt2_30 u1 q1 q2 q3 kN kB
  · cases hb; exact vt2_20 u1 q1 q2 q3 kN kB
  cases hb
  have hLl : L.length = 2 := hb1
  have kM' := kM L (by omega) hb3
  rw [hb2] at kM'
  exact vt2_o u1 q1 q2 q3 kN kB hLl kM'
end
theorem p_VjpTurns (a b g : Tn) (axis : Int) (op : Nat) (hop : op < 256) (ha : I64s a.2) (hb : I64s b.2) (hg : I64s g.2) (hx : I64 axis) :
    PureC Tryz.prog fi_fullerlaw14_VjpTurns [dT a.1 a.2, dT b.1 b.2, dT g.1 g.2, dN axis, .one (.int .u8 op)] (dB true) := by
  obtain ⟨a1, a2⟩ := a
  obtain ⟨b1, b2⟩ := b
  obtain ⟨g1, g2⟩ := g
  have q1 := p_ref03_Few a1 a2
  have q2 := p_ref03_Few b1 b2
  have q3 := p_ref03_Few g1 g2
  by_cases hf : fewT a1 a2 = true ∧ fewT b1 b2 = true ∧ fewT g1 g2 = true
  · obtain ⟨f1, f2, f3⟩ := hf
    rw [f1] at q1
    rw [f2] at q2
    rw [f3] at q3
    have hr : op % 3 = 0 ∨ op % 3 = 1 ∨ op % 3 = 2 := by omega
    have hu : (op : Int).tmod 3 = ((op % 3 : Nat) : Int) := by rw [Int.tmod_eq_emod_of_nonneg (by omega)]; rfl
    rcases hr with hr | hr | hr <;> rw [hr] at hu
    · exact vt0 hu q1 q2 q3 ha hb hg
    · exact vt1 hu q1 q2 q3 ha hb hg
    · exact vt2 hu q1 q2 q3 ha hb hg
  · refine pure_fullerlaw14_VjpTurns (by simp) fun G hP hn => ?_
    cases f1 : fewT a1 a2
    · rw [f1] at q1
      refine go trivial (aa @p_awake14 q1) ?_
      exact ends_ret rfl rfl rfl rfl
    rw [f1] at q1
    cases f2 : fewT b1 b2
    · rw [f2] at q2
      refine go trivial (aa @p_awake14 <| aa q1 q2) ?_
      exact ends_ret rfl rfl rfl rfl
    rw [f2] at q2
    cases f3 : fewT g1 g2
    · rw [f3] at q3
      refine go trivial (aa @p_awake14 <| aa q1 <| aa q2 q3) ?_
      exact ends_ret rfl rfl rfl rfl
    exact absurd ⟨f1, f2, f3⟩ hf
end Go.AM

