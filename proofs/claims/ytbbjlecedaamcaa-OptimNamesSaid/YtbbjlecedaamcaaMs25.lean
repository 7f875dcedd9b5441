import Derived.Test.YtbbjlecedaamcaaMs24
set_option linter.unusedVariables false
set_option linter.unusedSimpArgs false
namespace Go.AM
open Go Go.Proofs
set_option maxRecDepth 100000
set_option maxHeartbeats 4000000

theorem p_clips_slope {s d t e : List Int} {c : Int} (h0 : 0 ≤ c) (hc : I64 c) (ht : t.length ≤ 64) (he : e.length ≤ 64) : PureC Try.prog fi_optim_clips_slope [.agg [.int .i64 c], dT s d, dT t e] (dTE ((t, e.map (clipI c)), 0)) := by
  refine pure_optim_clips_slope (by simp) fun G hP hn => ?_
  have k1 : MutC Try.prog fi_slices_Clone_int_int [.one (.p (eI t))] [] (.one (.msl 56 0 1 t.length none)) [(56, .arr true 1 (rI t))] [56] := (m_slices_Clone t (by omega)).ren (swp_swp 5 56)
  have k2 : MutC Try.prog fi_slices_Clone_int_int [.one (.p (eI e))] [] (.one (.msl 55 0 1 e.length none)) [(55, .arr true 1 (rI e))] [55] := (m_slices_Clone e (by omega)).ren (swp_swp 5 55)
  obtain ⟨c1, c2⟩ := hc
  have w0 : IntKind.i64.wrap (0 - c) = 0 - c := wrap_in (by omega) (by omega)
  refine go trivial trivial ?_
  apply T_drN fw (by rw [hP]; rfl)
  · simp only [go_sem, seval, reduceIte, ↓reduceIte, bne, beq_false, beq_true, Bool.not_eq_true, Bool.if_true_right, decide_not, reduceCtorEq, hP, hn]
    refine .inr ⟨_, _, _, ⟨_, _, _, _, rfl, rfl, k1⟩, ?_⟩
    simp only [go_sem, seval, reduceIte, ↓reduceIte, bne, beq_false, beq_true, Bool.not_eq_true, Bool.if_true_right, decide_not, reduceCtorEq, hP, hn]
    refine .inr ⟨_, _, _, ⟨_, _, _, _, rfl, rfl, k2⟩, ?_⟩
    simp only [go_sem, seval, reduceIte, ↓reduceIte, bne, beq_false, beq_true, Bool.not_eq_true, Bool.if_true_right, decide_not, reduceCtorEq, hP, hn]
    exact rfl
  refine go trivial trivial ?_
  refine T_for e.length (fun i (_ : Unit) => { env := [(3, .one (.ptr 3 0 1 0)), (6, .one (.ptr 6 0 2 0)), (8, .one (.ptr 8 0 2 0)), (19, .one (.msl 55 0 1 e.length none)), (20, .one (.p (.int .i64 e.length))), (21, .one (.p (.int .i64 i)))], σ := [(3, .cells true [.p (.int .i64 c)]), (6, .cells true [.nils, .nils]), (8, .cells true [.msl 56 0 1 t.length none, .msl 55 0 1 e.length none]), (56, .arr true 1 (rI t)), (55, .arr true 1 (rI ((e.map (clipI c)).take i ++ e.drop i)))] })
    (fun _ _ => True) () trivial ?_ fun i _ hi _ => ?_
  · refine Weak.sub fun z hz => ?_
    simp only [List.mem_cons, List.not_mem_nil, or_false] at hz
    rcases hz with rfl | rfl | rfl | rfl | rfl <;> rfl
  have hl : ((e.map (clipI c)).take i ++ e.drop i).length = e.length := by rw [List.length_append, List.length_take, List.length_map, List.length_drop]; omega
  by_cases hlt : i < e.length
  · have q1 : (i : Int) < e.length := by omega
    have w1 : IntKind.i64.wrap ((i : Int) + 1) = ((i + 1 : Nat) : Int) := by rw [wrap_in (by omega) (by omega)]; rfl
    have hx : ((e.map (clipI c)).take i ++ e.drop i)[i]? = some e[i] := by
      rw [List.getElem?_append_right (by rw [List.length_take]; omega), List.length_take, List.length_map, Nat.min_eq_left (by omega), Nat.sub_self, List.getElem?_drop, Nat.add_zero]
      exact List.getElem?_eq_getElem hlt
    have hs : ((e.map (clipI c)).take i ++ e.drop i).set i (clipI c e[i]) = (e.map (clipI c)).take (i + 1) ++ e.drop (i + 1) := by
      rw [List.set_append_right _ _ (by rw [List.length_take]; omega), List.length_take, List.length_map, Nat.min_eq_left (by omega), Nat.sub_self, List.drop_eq_getElem_cons hlt, List.set_cons_zero, List.take_add_one, List.getElem?_map, List.getElem?_eq_getElem hlt]
      simp
    generalize (e.map (clipI c)).take i ++ e.drop i = acc at *
    generalize e[i] = y at *
    refine go (aa q1 <| aa w1 <| aa w0 <| aa hx <| aa hl <| aa hlt @rI_set) trivial ?_
    refine rnd_next hlt () trivial (Weak.sub fun z hz => ?_)
    simp only [List.mem_cons, List.not_mem_nil, or_false] at hz
    rcases hz with rfl | rfl | rfl | rfl | rfl
    · rfl
    · rfl
    · rfl
    · rfl
    · show AO.arr true 1 (rI (acc.set i (clipI c y))) = _
      rw [hs]
  · have q1 : ¬ (i : Int) < e.length := by omega
    obtain rfl : i = e.length := by omega
    have hd : (e.map (clipI c)).take e.length ++ e.drop e.length = e.map (clipI c) := by rw [List.take_of_length_le (by simp), List.drop_length, List.append_nil]
    rw [hd]
    refine go q1 trivial ?_
    exact ends_twoM (t1 := 56) (t2 := 55) (by decide) rfl rfl rfl (by simp) (by simp) (.inr ⟨_, rfl, rfl⟩) rfl
abbrev rTn (ps : List Tn) : List (List PV) := ps.map fun t => [eI t.1, eI t.2]
abbrev dTs (ps : List Tn) : DV := .one (.sl (rTn ps))
theorem gT_some {ps : List Tn} {p : Nat} (h : p < ps.length) : ps[p]? = some (gT ps p) := by unfold gT; rw [List.getElem?_eq_getElem h]; rfl
theorem p_optim_at (ps : List Tn) (p : Nat) (s d : List Int) (hp : p ≤ 64) : PureC Try.prog fi_optim_at [dTs ps, dN p, dT s d] (if hasT ps p s = true then .tup [dT (gT ps p).1 (gT ps p).2, dB true] else .tup [dT [] [], dB false]) := by
  refine pure_optim_at (by simp) fun G hP hn => ?_
  by_cases h1 : p < ps.length
  rotate_left
  · have hh : ¬ hasT ps p s = true := fun h => h1 (hasT_iff.1 h).1
    rw [if_neg hh]
    have c1 : (p : Int) ≥ ps.length := by omega
    refine go c1 trivial ?_
    exact ends_ret rfl rfl rfl rfl
  have c1 : ¬ (p : Int) ≥ ps.length := by omega
  have c2 : (p : Int) < ps.length := by omega
  have hx := gT_some h1
  have kc := p_tensor_Check (gT ps p).1 (gT ps p).2
  have ke := p_slices_Equal (gT ps p).1 s
  by_cases h2 : checkT (gT ps p).1 (gT ps p).2 = true
  rotate_left
  · have hh : ¬ hasT ps p s = true := fun h => h2 (hasT_iff.1 h).2.1
    rw [if_neg hh]
    have h2' : checkT (gT ps p).1 (gT ps p).2 = false := by simpa using h2
    rw [h2'] at kc
    generalize gT ps p = q at *
    refine go (aa c1 <| aa c2 <| aa h1 hx) (aa kc ke) ?_
    exact ends_ret rfl rfl rfl rfl
  rw [h2] at kc
  by_cases h3 : sameL (gT ps p).1 s = true
  · have hh : hasT ps p s = true := hasT_iff.2 ⟨h1, h2, sameL_iff.1 h3⟩
    rw [if_pos hh]
    rw [h3] at ke
    generalize gT ps p = q at *
    refine go (aa c1 <| aa c2 <| aa h1 hx) (aa kc ke) ?_
    exact ends_ret rfl rfl rfl rfl
  · have hh : ¬ hasT ps p s = true := fun h => h3 (sameL_iff.2 (hasT_iff.1 h).2.2)
    rw [if_neg hh]
    have h3' : sameL (gT ps p).1 s = false := by simpa using h3
    rw [h3'] at ke
    generalize gT ps p = q at *
    refine go (aa c1 <| aa c2 <| aa h1 hx) (aa kc ke) ?_
    exact ends_ret rfl rfl rfl rfl
theorem p_optim_Reads (k r m c : Int) (l : List Int) (hl : l.length ≤ 64) (hb : ∀ p ∈ l, I64 p) : PureC Try.prog fi_optim_Reads [dO k r m c, dI l] (.tup [dI (readsF k c l).1, dN (readsF k c l).2]) := by
  refine pure_optim_Reads (by simp) fun G hP hn => ?_
  have ko := p_optim_of k r m c
  have km := p_optim_most k m c
  have ky := p_optim_may l (manyF k c) hl
  by_cases hm : mayL (manyF k c) l (-1) = true
  rotate_left
  · have hr : readsF k c l = ([], 1) := if_neg hm
    rw [hr]
    have hm' : mayL (manyF k c) l (-1) = false := by simpa using hm
    rw [hm'] at ky
    generalize wayP k m c = w at *
    generalize manyF k c = n at *
    refine go trivial (aa ko <| aa km ky) ?_
    exact ends_ret rfl rfl rfl rfl
  have hr : readsF k c l = ((if k = 2 then l ++ l.map (· + 4) else l), 0) := if_pos hm
  rw [hr]
  rw [hm] at ky
  have kl := m_slices_Clone l (by omega)
  have hin := mayL_inv hm
  have h0 : ¬ c < 0 := fun h => by
    have := mayL_many (by omega) hm
    unfold manyF at this; rw [if_pos h] at this; omega
  by_cases h2 : k = 2
  · subst h2
    rw [if_pos rfl]
    have hw : wayP 2 m c = wKeeps m := by unfold wayP; rw [if_neg h0, if_neg (by decide), if_pos rfl]
    have hmn : manyF 2 c = 4 := by unfold manyF; rw [if_neg h0, if_neg (by decide), if_pos rfl]
    rw [hw] at ko km
    rw [hmn] at km ky hin
    refine go trivial (aa ko <| aa km <| aa ky kl) ?_
    refine T_for l.length (fun i (_ : Unit) => { env := [(7, .one (.msl 5 0 1 (l.length + i) none)), (27, .one (.p (eI l))), (28, .one (.p (.int .i64 l.length))), (29, .one (.p (.int .i64 i)))], σ := [(2, .cells true [.p (.int .i64 2), .p (.int .i64 r), .p (.int .i64 m), .p (.int .i64 c)]), (5, .arr true 1 (rI (l ++ (l.map (· + 4)).take i)))] })
      (fun _ _ => True) () trivial ?_ fun i _ hi _ => ?_
    · refine Weak.sub fun z hz => ?_
      simp only [List.mem_cons, List.not_mem_nil, or_false] at hz
      rcases hz with rfl | rfl
      · rfl
      · simp [lo]
    have hlen : (l ++ (l.map (· + 4)).take i).length = l.length + i := by rw [List.length_append, List.length_take, List.length_map]; omega
    by_cases hlt : i < l.length
    · have c1 : (i : Int) < l.length := by omega
      have w1 : IntKind.i64.wrap ((i : Int) + 1) = ((i + 1 : Nat) : Int) := by rw [wrap_in (by omega) (by omega)]; rfl
      have hx := List.getElem?_eq_getElem hlt
      have hb := hin l[i] (List.getElem_mem hlt)
      have w2 : IntKind.i64.wrap (l[i] + 4) = l[i] + 4 := wrap_in (by omega) (by omega)
      have hs : l ++ (l.map (· + 4)).take (i + 1) = (l ++ (l.map (· + 4)).take i) ++ [l[i] + 4] := by
        rw [List.take_add_one, List.getElem?_map, hx, List.append_assoc]; rfl
      have d1 : (l.length + i + 1) * 8 ≤ 2 ^ 40 := by omega
      have d2 : l.length + i + 1 ≤ 2 ^ 40 := by omega
      generalize l ++ (l.map (· + 4)).take i = acc at *
      generalize l[i] = x at *
      refine go (aa c1 <| aa hlt <| aa hx <| aa w1 <| aa w2 <| aa hlen <| aa d1 d2) trivial ?_
      refine rnd_next hlt () trivial (Weak.sub fun z hz => ?_)
      simp only [List.mem_cons, List.not_mem_nil, or_false] at hz
      rcases hz with rfl | rfl
      · rfl
      · rw [hs]; simp [lo, rI]
    · have c1 : ¬ (i : Int) < l.length := by omega
      obtain rfl : i = l.length := by omega
      have ht : (l.map (· + 4)).take l.length = l.map (· + 4) := List.take_of_length_le (by simp)
      rw [ht]
      refine go c1 trivial ?_
      exact ends_list2 rfl rfl (by simp)
  · rw [if_neg h2]
    obtain ⟨ty, cs, hw, hty⟩ : ∃ ty cs, wayP k m c = .ifcA ty cs ∧ ty ≠ 50 := by
      have hmn := mayL_many (by omega) hm
      unfold manyF at hmn
      unfold wayP
      rw [if_neg h0] at hmn ⊢
      by_cases h1 : k = 1
      · exact ⟨_, _, by rw [if_pos h1], by decide⟩
      · rw [if_neg h1, if_neg h2] at hmn ⊢
        by_cases h3 : k = 3
        · exact ⟨_, _, by rw [if_pos h3], by decide⟩
        · rw [if_neg h3] at hmn; omega
    rw [hw] at ko km
    generalize manyF k c = n at *
    refine go hty (aa ko <| aa km <| aa ky kl) ?_
    exact ends_list2 rfl rfl (by simp)
end Go.AM

namespace Go.AM
open Go Go.Proofs
set_option maxRecDepth 100000
set_option maxHeartbeats 8000000

abbrev rW (l : List Wr) : List (List PV) := l.map fun w => [.int .i64 w.1, eI w.2.1, eI w.2.2]
abbrev dWs (l : List Wr) : DV := .one (.sl (rW l))
def I64t (ps : List Tn) : Prop := ∀ p, I64s (gT ps p).2
theorem slope_range {k m c : Int} {v g : Tn} (hg : I64s g.2) (h0 : 0 ≤ c) (hc : I64 c) : I64s (slopeF k m c v g).1.2 := by
  unfold slopeF
  split
  · exact hg
  split
  · split
    · exact two_range (fun a b => fAdd_range a b) _ _ _ _
    · exact I64s.nil
  · intro x hx
    obtain ⟨y, hy, rfl⟩ := List.mem_map.1 hx
    have := hg y hy
    unfold I64 at *
    unfold clipI
    omega
theorem stepF_no {k r m c : Int} {ps gs : List Tn} {p : Nat} (h : ¬ okF k ps gs p = true) : stepF k r m c ps gs p = ((([], []), ([], [])), 130) := by unfold stepF; rw [if_neg h]
theorem stepF_eq {k r m c : Int} {ps gs : List Tn} {p : Nat} {g v w : Tn × Int} (h : okF k ps gs p = true) (hg : slopeF k m c (gT ps (p + 4)) (gT gs p) = g) (hv : twoF fMul g.1.1 g.1.2 [] [r] = v) (hw : twoF fSub (gT ps p).1 (gT ps p).2 v.1.1 v.1.2 = w) :
    stepF k r m c ps gs p = if g.2 = 0 then (if v.2 = 0 then (if w.2 = 0 then ((w.1, g.1), 0) else ((([], []), ([], [])), w.2)) else ((([], []), ([], [])), v.2)) else ((([], []), ([], [])), g.2) := by
  unfold stepF; rw [if_pos h, hg, hv, hw]
theorem slope_v {k m c : Int} (h : k ≠ 2) (v v' g : Tn) : slopeF k m c v g = slopeF k m c v' g := by
  unfold slopeF; split
  · rfl
  · rfl
theorem writesL_stop {f : Nat → (Tn × Tn) × Int} {kp : Bool} {p : Nat} {l : List Int} {out more : List Wr} {e : Int} (h : (f p).2 = e) (he : e ≠ 0) : writesL f kp ((p : Int) :: l) out more = ([], e) := by
  simp only [writesL, Int.toNat_natCast]; rw [h, if_neg he]
theorem writesL_next {f : Nat → (Tn × Tn) × Int} {kp : Bool} {p : Nat} {l : List Int} {out more : List Wr} {w g : Tn} (h : f p = ((w, g), 0)) :
    writesL f kp ((p : Int) :: l) out more = writesL f kp l (out ++ [((p : Int), w)]) (if kp then more ++ [((p : Int) + 4, g)] else more) := by
  simp only [writesL, Int.toNat_natCast]; rw [h, if_pos rfl]
theorem p_Writes_may {k r m c : Int} {l : List Int} (ps gs : List Tn) (hl : l.length ≤ 64) (hm : ¬ mayL (manyF k c) l (-1) = true) : PureC Try.prog fi_optim_Writes [dO k r m c, dI l, dTs ps, dTs gs] (.tup [dWs [], dN 1]) := by
  refine pure_optim_Writes (by simp) fun G hP hn => ?_
  have ko := p_optim_of k r m c
  have km := p_optim_most k m c
  have ky := p_optim_may l (manyF k c) hl
  have hm' : mayL (manyF k c) l (-1) = false := by simpa using hm
  rw [hm'] at ky
  generalize wayP k m c = w at *
  generalize manyF k c = n at *
  refine go trivial (aa ko <| aa km ky) ?_
  exact ends_ret rfl rfl rfl rfl
theorem p_Writes_other {k r m c : Int} {ty : Nat} {cs : List PV} {id : FuncId} {l : List Int} {ps gs : List Tn} (hl : l.length ≤ 64) (hps : I64t ps) (hgs : I64t gs) (hr : I64 r) (h0 : 0 ≤ c) (hc : I64 c) (hm : mayL (manyF k c) l (-1) = true)
    (hk : k ≠ 2) (hw : wayP k m c = .ifcA ty cs) (hty : ty ≠ 50) (im : IMeth Try.prog "fuller/optim.slope" ty id) (hs : ∀ g : Tn, I64s g.2 → checkT g.1 g.2 = true → PureC Try.prog id [.agg cs, dT [] [], dT g.1 g.2] (dTE (slopeF k m c ([], []) g))) : PureC Try.prog fi_optim_Writes [dO k r m c, dI l, dTs ps, dTs gs] (.tup [dWs (writesF k r m c l ps gs).1, dN (writesF k r m c l ps gs).2]) := by
  refine pure_optim_Writes (by simp) fun G hP hn => ?_
  have ko := p_optim_of k r m c
  have km := p_optim_most k m c
  have ky := p_optim_may l (manyF k c) hl
  have hW : writesF k r m c l ps gs = writesL (stepF k r m c ps gs) false l [] [] := by
    unfold writesF; rw [if_pos hm]; simp [hk]
  rw [hW]
  have hin := mayL_inv hm
  have hle := manyF_le k c
  rw [hm] at ky
  rw [hw] at ko km
  generalize manyF k c = mn at *
  refine go hty (aa ko <| aa km ky) ?_
  refine T_nils 8 100 3 rfl rfl rfl ?_
  refine T_nils 13 101 3 rfl rfl rfl ?_
  refine T_for l.length (fun i (a : List Wr × List Wr) => { env := [(2, .one (.p (.sl (rTn ps)))), (3, .one (.p (.sl (rTn gs)))), (4, .one (.ptr 4 0 4 0)), (8, .one (.msl 100 0 3 a.1.length none)), (10, .one (.p (.ifcA ty cs))), (12, .one (.p (.bool false))), (13, .one (.msl 101 0 3 a.2.length none)), (32, .one (.p (eI l))), (33, .one (.p (.int .i64 l.length))), (34, .one (.p (.int .i64 i)))], σ := [(4, .cells true [.p (.int .i64 k), .p (.int .i64 r), .p (.int .i64 m), .p (.int .i64 c)]), (100, .arr true 3 (rW a.1)), (101, .arr true 3 (rW a.2))] })
    (fun i a => a.1.length = i ∧ a.2.length ≤ i ∧ writesL (stepF k r m c ps gs) false (l.drop i) a.1 a.2 = writesL (stepF k r m c ps gs) false l [] []) ([], []) ⟨rfl, Nat.le_refl _, rfl⟩ ?_ fun i a hi hinv => ?_
  · refine (Weak.pick [2, 3, 4, 8, 10, 12, 13, 32, 33, 34]).trans (Weak.sub fun q hq => ?_)
    simp only [List.mem_cons, List.not_mem_nil, or_false] at hq
    rcases hq with rfl | rfl | rfl <;> rfl
  obtain ⟨out, more⟩ := a
  obtain ⟨ho, hmo, hinv⟩ := hinv
  simp only at ho hmo hinv
  by_cases hlt : i < l.length
  rotate_left
  · have c1 : ¬ (i : Int) < (l.length : Int) := by omega
    rw [List.drop_of_length_le (by omega)] at hinv
    simp only [writesL] at hinv
    rw [← hinv]
    have b1 : (out.length + more.length) * 56 ≤ 2 ^ 40 := by omega
    have b2 : out.length + more.length ≤ 2 ^ 40 := by omega
    have t1 : List.take more.length (rW more) = rW more := List.take_of_length_le (by simp)
    refine go (aa c1 <| aa b1 <| aa b2 t1) trivial ?_
    have e0 : rW out ++ rW more = rW (out ++ more) := by simp
    rw [e0]
    exact ends_list2 rfl rfl (by simp)
  have c1 : (i : Int) < (l.length : Int) := by omega
  have w1 : IntKind.i64.wrap ((i : Int) + 1) = ((i + 1 : Nat) : Int) := by rw [wrap_in (by omega) (by omega)]; rfl
  obtain ⟨p, hp⟩ : ∃ p : Nat, l[i] = (p : Int) := ⟨l[i].toNat, by have := hin l[i] (List.getElem_mem hlt); omega⟩
  have hp8 : p < 8 := by have := hin l[i] (List.getElem_mem hlt); omega
  have hx : l[i]? = some (p : Int) := by rw [List.getElem?_eq_getElem hlt, hp]
  rw [List.drop_eq_getElem_cons hlt, hp] at hinv
  have w4 : IntKind.i64.wrap ((p : Int) + 4) = ((p + 4 : Nat) : Int) := by rw [wrap_in (by omega) (by omega)]; rfl
  have hAp := hps p
  have hGp := hgs p
  have stop : ∀ e : Int, (stepF k r m c ps gs p).2 = e → e ≠ 0 → writesL (stepF k r m c ps gs) false l [] [] = ([], e) := fun e h1 h2 => by rw [← hinv]; exact writesL_stop h1 h2
  by_cases h1 : p < ps.length
  rotate_left
  · have hst := stop 130 (by rw [stepF_no (fun h => h1 (hasT_iff.1 (Bool.and_eq_true .. ▸ h).1).1)]) (by decide)
    rw [hst]
    have q1 : ¬ (p : Int) < (ps.length : Int) := by omega
    refine go (aa c1 <| aa hx <| aa hlt q1) trivial ?_
    exact ends_ret rfl rfl rfl rfl
  have q1 : (p : Int) < (ps.length : Int) := by omega
  have hxp := gT_some h1
  have kA1 := p_optim_at ps p (gT ps p).1 (gT ps p).2 (by omega)
  have kA2 := p_optim_at gs p (gT ps p).1 (gT ps p).2 (by omega)
  have kA3 := p_optim_at ps (p + 4) (gT ps p).1 (gT ps p).2 (by omega)
  by_cases h2 : hasT ps p (gT ps p).1 = true
  rotate_left
  · have hst := stop 130 (by rw [stepF_no (fun h => h2 (Bool.and_eq_true .. ▸ h).1)]) (by decide)
    rw [hst]
    rw [if_neg h2] at kA1
    clear kA2 kA3
    generalize gT ps p = q at *
    refine go (aa c1 <| aa hx <| aa hlt <| aa q1 <| aa hxp h1) kA1 ?_
    exact ends_ret rfl rfl rfl rfl
  rw [if_pos h2] at kA1
  by_cases h3 : hasT gs p (gT ps p).1 = true
  rotate_left
  · have hst := stop 130 (by rw [stepF_no (fun h => h3 (Bool.and_eq_true .. ▸ (Bool.and_eq_true .. ▸ h).2).1)]) (by decide)
    rw [hst]
    rw [if_neg h3] at kA2
    clear kA3
    generalize gT ps p = q at *
    refine go (aa c1 <| aa hx <| aa hlt <| aa q1 <| aa hxp h1) (aa kA1 kA2) ?_
    exact ends_ret rfl rfl rfl rfl
  rw [if_pos h3] at kA2
  clear kA3
  have hok : okF k ps gs p = true := by unfold okF; rw [h2, h3]; simp [hk]
  have hgc := (hasT_iff.1 h3).2.1
  have kS := hs (gT gs p) hGp hgc
  rw [slope_v hk ([], []) (gT ps (p + 4))] at kS
  have hgr := slope_range (k := k) (m := m) (v := gT ps (p + 4)) hGp h0 hc
  have hse := stepF_eq (r := r) (m := m) (c := c) hok rfl rfl rfl
  generalize slopeF k m c (gT ps (p + 4)) (gT gs p) = g at *
  have kB := p_optim_by (s := g.1.1) hgr hr
  have hvr := two_range (fun a b => fMul_range a b) g.1.1 g.1.2 [] [r]
  generalize twoF fMul g.1.1 g.1.2 [] [r] = v at *
  have kT := k_Sub (s := (gT ps p).1) (t := v.1.1) hAp hvr
  generalize twoF fSub (gT ps p).1 (gT ps p).2 v.1.1 v.1.2 = w at *
  generalize gT ps p = q at *
  generalize gT gs p = gg at *
  clear hgc
  by_cases e1 : g.2 = 0
  rotate_left
  · have hst := stop g.2 (by rw [hse, if_neg e1]) e1
    rw [hst]
    have e1' : (g.2 != 0) = true := by simp [e1]
    refine go (aa c1 <| aa hx <| aa hlt <| aa q1 <| aa hxp <| aa h1 e1') (aa kA1 <| aa kA2 <| aa kS im) ?_
    exact ends_ret rfl rfl rfl rfl
  have e1' : (g.2 != 0) = false := by simp [e1]
  have d1 : (more.length + 1) * 56 ≤ 2 ^ 40 := by omega
  have d2 : more.length + 1 ≤ 2 ^ 40 := by omega
  have d3 : (out.length + 1) * 56 ≤ 2 ^ 40 := by omega
  have d4 : out.length + 1 ≤ 2 ^ 40 := by omega
  by_cases e2 : v.2 = 0
  rotate_left
  · have hst := stop v.2 (by rw [hse, if_pos e1, if_neg e2]) e2
    rw [hst]
    have e2' : (v.2 != 0) = true := by simp [e2]
    refine go (aa c1 <| aa hx <| aa hlt <| aa q1 <| aa hxp <| aa h1 <| aa e1' <| aa e2' <| aa d1 d2) (aa kA1 <| aa kA2 <| aa kS <| aa im kB) ?_
    exact ends_ret rfl rfl rfl rfl
  have e2' : (v.2 != 0) = false := by simp [e2]
  by_cases e3 : w.2 = 0
  rotate_left
  · have hst := stop w.2 (by rw [hse, if_pos e1, if_pos e2, if_neg e3]) e3
    rw [hst]
    have e3' : (w.2 != 0) = true := by simp [e3]
    refine go (aa c1 <| aa hx <| aa hlt <| aa q1 <| aa hxp <| aa h1 <| aa e1' <| aa e2' <| aa e3' <| aa d1 d2) (aa kA1 <| aa kA2 <| aa kS <| aa im <| aa kB kT) ?_
    exact ends_ret rfl rfl rfl rfl
  have e3' : (w.2 != 0) = false := by simp [e3]
  rw [if_pos e1, if_pos e2, if_pos e3] at hse
  rw [writesL_next hse] at hinv
  refine go (aa c1 <| aa hx <| aa hlt <| aa q1 <| aa hxp <| aa h1 <| aa e1' <| aa e2' <| aa e3' <| aa d1 <| aa d2 <| aa d3 <| aa d4 w1) (aa kA1 <| aa kA2 <| aa kS <| aa im <| aa kB kT) ?_
  refine rnd_next hlt (out ++ [((p : Int), w.1)], more) ⟨by simp [ho], by simp; omega, hinv⟩ ?_
  simp only [List.length_append, List.length_cons, List.length_nil, Nat.zero_add]
  refine Weak.sub fun q hq => ?_
  simp only [List.mem_cons, List.not_mem_nil, or_false] at hq
  rcases hq with rfl | rfl | rfl
  · rfl
  · simp [lo]
  · simp [lo]
theorem slope_c {m c : Int} {v g : Tn} : slopeF 2 m 0 v g = slopeF 2 m c v g := rfl
theorem p_Writes_keep {r m c : Int} {l : List Int} {ps gs : List Tn} (hl : l.length ≤ 64) (hps : I64t ps) (hgs : I64t gs) (hr : I64 r) (h0 : 0 ≤ c) (hc : I64 c) (hm : mayL (manyF 2 c) l (-1) = true)
    (hmm : I64 m) : PureC Try.prog fi_optim_Writes [dO 2 r m c, dI l, dTs ps, dTs gs] (.tup [dWs (writesF 2 r m c l ps gs).1, dN (writesF 2 r m c l ps gs).2]) := by
  refine pure_optim_Writes (by simp) fun G hP hn => ?_
  have ko := p_optim_of 2 r m c
  have km := p_optim_most 2 m c
  have ky := p_optim_may l (manyF 2 c) hl
  have hW : writesF 2 r m c l ps gs = writesL (stepF 2 r m c ps gs) true l [] [] := by
    unfold writesF; rw [if_pos hm]; rfl
  rw [hW]
  have hin := mayL_inv hm
  have hle := manyF_le 2 c
  rw [hm] at ky
  have hw : wayP 2 m c = wKeeps m := by unfold wayP; rw [if_neg (by omega), if_neg (by decide), if_pos rfl]
  rw [hw] at ko km
  generalize manyF 2 c = mn at *
  refine go trivial (aa ko <| aa km ky) ?_
  refine T_nils 8 100 3 rfl rfl rfl ?_
  refine T_nils 13 101 3 rfl rfl rfl ?_
  refine T_for l.length (fun i (a : List Wr × List Wr) => { env := [(2, .one (.p (.sl (rTn ps)))), (3, .one (.p (.sl (rTn gs)))), (4, .one (.ptr 4 0 4 0)), (8, .one (.msl 100 0 3 a.1.length none)), (10, .one (.p (wKeeps m))), (12, .one (.p (.bool true))), (13, .one (.msl 101 0 3 a.2.length none)), (32, .one (.p (eI l))), (33, .one (.p (.int .i64 l.length))), (34, .one (.p (.int .i64 i)))], σ := [(4, .cells true [.p (.int .i64 2), .p (.int .i64 r), .p (.int .i64 m), .p (.int .i64 c)]), (100, .arr true 3 (rW a.1)), (101, .arr true 3 (rW a.2))] })
    (fun i a => a.1.length = i ∧ a.2.length ≤ i ∧ writesL (stepF 2 r m c ps gs) true (l.drop i) a.1 a.2 = writesL (stepF 2 r m c ps gs) true l [] []) ([], []) ⟨rfl, Nat.le_refl _, rfl⟩ ?_ fun i a hi hinv => ?_
  · refine (Weak.pick [2, 3, 4, 8, 10, 12, 13, 32, 33, 34]).trans (Weak.sub fun q hq => ?_)
    simp only [List.mem_cons, List.not_mem_nil, or_false] at hq
    rcases hq with rfl | rfl | rfl <;> rfl
  obtain ⟨out, more⟩ := a
  obtain ⟨ho, hmo, hinv⟩ := hinv
  simp only at ho hmo hinv
  by_cases hlt : i < l.length
  rotate_left
  · have c1 : ¬ (i : Int) < (l.length : Int) := by omega
    rw [List.drop_of_length_le (by omega)] at hinv
    simp only [writesL] at hinv
    rw [← hinv]
    have b1 : (out.length + more.length) * 56 ≤ 2 ^ 40 := by omega
    have b2 : out.length + more.length ≤ 2 ^ 40 := by omega
    have t1 : List.take more.length (rW more) = rW more := List.take_of_length_le (by simp)
    refine go (aa c1 <| aa b1 <| aa b2 t1) trivial ?_
    have e0 : rW out ++ rW more = rW (out ++ more) := by simp
    rw [e0]
    exact ends_list2 rfl rfl (by simp)
  have c1 : (i : Int) < (l.length : Int) := by omega
  have w1 : IntKind.i64.wrap ((i : Int) + 1) = ((i + 1 : Nat) : Int) := by rw [wrap_in (by omega) (by omega)]; rfl
  obtain ⟨p, hp⟩ : ∃ p : Nat, l[i] = (p : Int) := ⟨l[i].toNat, by have := hin l[i] (List.getElem_mem hlt); omega⟩
  have hp8 : p < 8 := by have := hin l[i] (List.getElem_mem hlt); omega
  have hx : l[i]? = some (p : Int) := by rw [List.getElem?_eq_getElem hlt, hp]
  rw [List.drop_eq_getElem_cons hlt, hp] at hinv
  have w4 : IntKind.i64.wrap ((p : Int) + 4) = ((p + 4 : Nat) : Int) := by rw [wrap_in (by omega) (by omega)]; rfl
  have hAp := hps p
  have hGp := hgs p
  have stop : ∀ e : Int, (stepF 2 r m c ps gs p).2 = e → e ≠ 0 → writesL (stepF 2 r m c ps gs) true l [] [] = ([], e) := fun e h1 h2 => by rw [← hinv]; exact writesL_stop h1 h2
  by_cases h1 : p < ps.length
  rotate_left
  · have hst := stop 130 (by rw [stepF_no (fun h => h1 (hasT_iff.1 (Bool.and_eq_true .. ▸ h).1).1)]) (by decide)
    rw [hst]
    have q1 : ¬ (p : Int) < (ps.length : Int) := by omega
    refine go (aa c1 <| aa hx <| aa hlt q1) trivial ?_
    exact ends_ret rfl rfl rfl rfl
  have q1 : (p : Int) < (ps.length : Int) := by omega
  have hxp := gT_some h1
  have kA1 := p_optim_at ps p (gT ps p).1 (gT ps p).2 (by omega)
  have kA2 := p_optim_at gs p (gT ps p).1 (gT ps p).2 (by omega)
  have kA3 := p_optim_at ps (p + 4) (gT ps p).1 (gT ps p).2 (by omega)
  by_cases h2 : hasT ps p (gT ps p).1 = true
  rotate_left
  · have hst := stop 130 (by rw [stepF_no (fun h => h2 (Bool.and_eq_true .. ▸ h).1)]) (by decide)
    rw [hst]
    rw [if_neg h2] at kA1
    clear kA2 kA3
    generalize gT ps p = q at *
    refine go (aa c1 <| aa hx <| aa hlt <| aa q1 <| aa hxp h1) kA1 ?_
    exact ends_ret rfl rfl rfl rfl
  rw [if_pos h2] at kA1
  by_cases h3 : hasT gs p (gT ps p).1 = true
  rotate_left
  · have hst := stop 130 (by rw [stepF_no (fun h => h3 (Bool.and_eq_true .. ▸ (Bool.and_eq_true .. ▸ h).2).1)]) (by decide)
    rw [hst]
    rw [if_neg h3] at kA2
    clear kA3
    generalize gT ps p = q at *
    refine go (aa c1 <| aa hx <| aa hlt <| aa q1 <| aa hxp h1) (aa kA1 kA2) ?_
    exact ends_ret rfl rfl rfl rfl
  rw [if_pos h3] at kA2
  by_cases h4 : hasT ps (p + 4) (gT ps p).1 = true
  rotate_left
  · have hst := stop 130 (by rw [stepF_no (fun h => by
      have := (Bool.and_eq_true .. ▸ (Bool.and_eq_true .. ▸ h).2).2
      simp at this
      exact h4 this)]) (by decide)
    rw [hst]
    rw [if_neg h4] at kA3
    generalize gT ps p = q at *
    refine go (aa c1 <| aa hx <| aa hlt <| aa q1 <| aa hxp <| aa h1 w4) (aa kA1 <| aa kA2 kA3) ?_
    exact ends_ret rfl rfl rfl rfl
  rw [if_pos h4] at kA3
  have hok : okF 2 ps gs p = true := by unfold okF; rw [h2, h3, h4]; simp
  have hgc := (hasT_iff.1 h3).2.1
  have kS := p_keeps_slope (s := (gT ps (p + 4)).1) (t := (gT gs p).1) (m := m) (hps (p + 4)) hGp hmm
  have im := im_keeps
  rw [slope_c] at kS
  have hgr := slope_range (k := 2) (m := m) (v := gT ps (p + 4)) hGp h0 hc
  have hse := stepF_eq (r := r) (m := m) (c := c) hok rfl rfl rfl
  generalize slopeF 2 m c (gT ps (p + 4)) (gT gs p) = g at *
  have kB := p_optim_by (s := g.1.1) hgr hr
  have hvr := two_range (fun a b => fMul_range a b) g.1.1 g.1.2 [] [r]
  generalize twoF fMul g.1.1 g.1.2 [] [r] = v at *
  have kT := k_Sub (s := (gT ps p).1) (t := v.1.1) hAp hvr
  generalize twoF fSub (gT ps p).1 (gT ps p).2 v.1.1 v.1.2 = w at *
  generalize gT ps p = q at *
  generalize gT gs p = gg at *
  generalize gT ps (p + 4) = vv at *
  clear hgc
  by_cases e1 : g.2 = 0
  rotate_left
  · have hst := stop g.2 (by rw [hse, if_neg e1]) e1
    rw [hst]
    have e1' : (g.2 != 0) = true := by simp [e1]
    refine go (aa c1 <| aa hx <| aa hlt <| aa q1 <| aa hxp <| aa h1 <| aa e1' w4) (aa kA1 <| aa kA2 <| aa kA3 <| aa kS im) ?_
    exact ends_ret rfl rfl rfl rfl
  have e1' : (g.2 != 0) = false := by simp [e1]
  have d1 : (more.length + 1) * 56 ≤ 2 ^ 40 := by omega
  have d2 : more.length + 1 ≤ 2 ^ 40 := by omega
  have d3 : (out.length + 1) * 56 ≤ 2 ^ 40 := by omega
  have d4 : out.length + 1 ≤ 2 ^ 40 := by omega
  by_cases e2 : v.2 = 0
  rotate_left
  · have hst := stop v.2 (by rw [hse, if_pos e1, if_neg e2]) e2
    rw [hst]
    have e2' : (v.2 != 0) = true := by simp [e2]
    refine go (aa c1 <| aa hx <| aa hlt <| aa q1 <| aa hxp <| aa h1 <| aa e1' <| aa e2' <| aa d1 <| aa d2 w4) (aa kA1 <| aa kA2 <| aa kA3 <| aa kS <| aa im kB) ?_
    exact ends_ret rfl rfl rfl rfl
  have e2' : (v.2 != 0) = false := by simp [e2]
  by_cases e3 : w.2 = 0
  rotate_left
  · have hst := stop w.2 (by rw [hse, if_pos e1, if_pos e2, if_neg e3]) e3
    rw [hst]
    have e3' : (w.2 != 0) = true := by simp [e3]
    refine go (aa c1 <| aa hx <| aa hlt <| aa q1 <| aa hxp <| aa h1 <| aa e1' <| aa e2' <| aa e3' <| aa d1 <| aa d2 w4) (aa kA1 <| aa kA2 <| aa kA3 <| aa kS <| aa im <| aa kB kT) ?_
    exact ends_ret rfl rfl rfl rfl
  have e3' : (w.2 != 0) = false := by simp [e3]
  rw [if_pos e1, if_pos e2, if_pos e3] at hse
  rw [writesL_next hse] at hinv
  refine go (aa c1 <| aa hx <| aa hlt <| aa q1 <| aa hxp <| aa h1 <| aa e1' <| aa e2' <| aa e3' <| aa d1 <| aa d2 <| aa d3 <| aa d4 <| aa w1 w4) (aa kA1 <| aa kA2 <| aa kA3 <| aa kS <| aa im <| aa kB kT) ?_
  refine rnd_next hlt (out ++ [((p : Int), w.1)], more ++ [((p : Int) + 4, g.1)]) ⟨by simp [ho], by simp; omega, hinv⟩ ?_
  simp only [List.length_append, List.length_cons, List.length_nil, Nat.zero_add, show ((p + 4 : Nat) : Int) = (p : Int) + 4 from by omega]
  refine Weak.sub fun q hq => ?_
  simp only [List.mem_cons, List.not_mem_nil, or_false] at hq
  rcases hq with rfl | rfl | rfl
  · rfl
  · simp [lo]
  · simp [lo]
end Go.AM

namespace Go.AM
open Go Go.Proofs
set_option maxRecDepth 100000
set_option maxHeartbeats 4000000

theorem p_optim_Writes {k r m c : Int} {l : List Int} {ps gs : List Tn} (hl : l.length ≤ 64) (hps : I64t ps) (hgs : I64t gs) (hr : I64 r) (hmm : I64 m) (hc : I64 c) :
    PureC Try.prog fi_optim_Writes [dO k r m c, dI l, dTs ps, dTs gs] (.tup [dWs (writesF k r m c l ps gs).1, dN (writesF k r m c l ps gs).2]) := by
  by_cases hm : mayL (manyF k c) l (-1) = true
  rotate_left
  · have h : writesF k r m c l ps gs = ([], 1) := by unfold writesF; rw [if_neg hm]
    rw [h]; exact p_Writes_may ps gs hl hm
  have hmn := mayL_many (by omega) hm
  by_cases h0 : c < 0
  · unfold manyF at hmn; rw [if_pos h0] at hmn; omega
  by_cases h1 : k = 1
  · subst h1
    exact p_Writes_other hl hps hgs hr (by omega) hc hm (by decide) (by unfold wayP; rw [if_neg h0, if_pos rfl]) (by decide) im_plain (fun g _ _ => p_plain_slope [] [] g.1 g.2)
  by_cases h2 : k = 2
  · subst h2
    exact p_Writes_keep hl hps hgs hr (by omega) hc hm hmm
  by_cases h3 : k = 3
  · subst h3
    refine p_Writes_other hl hps hgs hr (by omega) hc hm (by decide) (by unfold wayP; rw [if_neg h0, if_neg (by decide), if_neg (by decide), if_pos rfl]) (by decide) im_clips (fun g _ hg => ?_)
    have hs := check_len (checkS_iff.2 (checkT_iff.1 hg).1)
    have hd := (checkT_iff.1 hg).2
    have hp := (checkT_iff.1 hg).1.2.2
    exact p_clips_slope (by omega) hc (by omega) (by omega)
  · unfold manyF at hmn; rw [if_neg h0, if_neg h1, if_neg h2, if_neg h3] at hmn; omega
def fewTs (n : Int) (ps : List Tn) : Bool := ps.all (fun t => fewT t.1 t.2) && decide ((ps.length : Int) ≤ n)
theorem p_ref09_Few (ps : List Tn) (n : Int) (hl : ps.length ≤ MaxN) : PureC Try.prog fi_fullerref09_Few [dTs ps, dN n] (dB (fewTs n ps)) := by
  refine pure_fullerref09_Few (by simp) fun G hP hn => ?_
  have hM : MaxN = 140737488355328 := rfl
  refine go trivial trivial ?_
  refine T_for ps.length (fun i (_ : Unit) => { env := [(0, .one (.p (.sl (rTn ps)))), (1, .one (.p (.int .i64 n))), (5, .one (.p (.int .i64 i)))], σ := [] })
    (fun i _ => ∀ j, j < i → fewT (gT ps j).1 (gT ps j).2 = true) () (fun j hj => by omega) (.refl _ _) fun i _ hi hinv => ?_
  by_cases hlt : i < ps.length
  · have c1 : (i : Int) < ps.length := by omega
    have w1 : IntKind.i64.wrap ((i : Int) + 1) = ((i + 1 : Nat) : Int) := by rw [wrap_in (by omega) (by omega)]; rfl
    have hx := gT_some hlt
    have kf := p_ref03_Few (gT ps i).1 (gT ps i).2
    have hin : gT ps i ∈ ps := List.mem_of_getElem? hx
    cases hf : fewT (gT ps i).1 (gT ps i).2
    · rw [hf] at kf
      have hr : fewTs n ps = false := by
        unfold fewTs
        have : ps.all (fun t => fewT t.1 t.2) = false := by
          apply Bool.eq_false_iff.2
          intro h
          have := List.all_eq_true.1 h _ hin
          rw [hf] at this; cases this
        rw [this]; rfl
      rw [hr]
      generalize gT ps i = q at *
      refine go (aa c1 <| aa hlt <| aa hx w1) kf ?_
      exact ends_ret rfl rfl rfl rfl
    · rw [hf] at kf
      have hnx : ∀ j, j < i + 1 → fewT (gT ps j).1 (gT ps j).2 = true := fun j hj => by
        by_cases hji : j = i
        · subst hji; exact hf
        · exact hinv j (by omega)
      generalize gT ps i = q at *
      refine go (aa c1 <| aa hlt <| aa hx w1) kf ?_
      exact rnd_next hlt () hnx (.refl _ _)
  · have c1 : ¬ (i : Int) < ps.length := by omega
    have hall : ps.all (fun t => fewT t.1 t.2) = true := List.all_eq_true.2 fun t ht => by
      obtain ⟨j, hj, rfl⟩ := List.getElem_of_mem ht
      have := hinv j (by omega)
      rw [show gT ps j = ps[j] from by unfold gT; rw [List.getElem?_eq_getElem hj]; rfl] at this
      exact this
    have hr : fewTs n ps = decide ((ps.length : Int) ≤ n) := by unfold fewTs; rw [hall]; rfl
    rw [hr]
    by_cases h1 : (ps.length : Int) ≤ n
    · have e : decide ((ps.length : Int) ≤ n) = true := by simp [h1]
      rw [e]
      refine go (aa c1 h1) trivial ?_
      exact ends_ret rfl rfl rfl rfl
    · have e : decide ((ps.length : Int) ≤ n) = false := by simp [h1]
      rw [e]
      refine go (aa c1 h1) trivial ?_
      exact ends_ret rfl rfl rfl rfl
theorem p_ref10_In (l : List Int) (x : Int) (hl : l.length ≤ 64) : PureC Try.prog fi_fullerref10_In [dI l, dN x] (dB (l.contains x)) := by
  refine pure_fullerref10_In (by simp) fun G hP hn => ?_
  refine go trivial trivial ?_
  refine T_for l.length (fun i (_ : Unit) => { env := [(0, .one (.p (eI l))), (1, .one (.p (.int .i64 x))), (5, .one (.p (.int .i64 i)))], σ := [] })
    (fun i _ => (l.drop i).contains x = l.contains x) () rfl (.refl _ _) fun i _ hi hinv => ?_
  by_cases hlt : i < l.length
  · have c1 : (i : Int) < l.length := by omega
    have w1 : IntKind.i64.wrap ((i : Int) + 1) = ((i + 1 : Nat) : Int) := by rw [wrap_in (by omega) (by omega)]; rfl
    have hx := List.getElem?_eq_getElem hlt
    rw [List.drop_eq_getElem_cons hlt, List.contains_cons] at hinv
    generalize l[i] = y at *
    by_cases h1 : y = x
    · have e : (y == x) = true := by simp [h1]
      have hr : l.contains x = true := by rw [← hinv]; simp [h1]
      rw [hr]
      refine go (aa c1 <| aa hlt <| aa hx @e) trivial ?_
      exact ends_ret rfl rfl rfl rfl
    · have e : (y == x) = false := by simp [h1]
      have e2 : (x == y) = false := beq_false_of_ne (fun h => h1 h.symm)
      have hn2 : (l.drop (i + 1)).contains x = l.contains x := by rw [← hinv, e2, Bool.false_or]
      refine go (aa c1 <| aa hlt <| aa hx <| aa @e w1) trivial ?_
      exact rnd_next hlt () hn2 (.refl _ _)
  · have c1 : ¬ (i : Int) < l.length := by omega
    rw [List.drop_of_length_le (by omega)] at hinv
    rw [← hinv]
    refine go c1 trivial ?_
    exact ends_ret rfl rfl rfl rfl
theorem c_sameW (l : List Wr) (hl : l.length ≤ 1000) : PureC Try.prog fi_fullerref19_Same [dWs l, dWs l] (dB true) := by
  refine pure_fullerref19_Same (by simp) fun G hP hn => ?_
  have e0 : ((l.length : Int) != (l.length : Int)) = false := by simp
  refine go e0 trivial ?_
  refine T_for l.length (fun i (_ : Unit) => { env := [(0, .one (.p (.sl (rW l)))), (1, .one (.p (.sl (rW l)))), (5, .one (.p (.int .i64 i)))], σ := [] })
    (fun _ _ => True) () trivial (.refl _ _) fun i _ hi _ => ?_
  by_cases hlt : i < l.length
  · have c1 : (i : Int) < l.length := by omega
    have w1 : IntKind.i64.wrap ((i : Int) + 1) = ((i + 1 : Nat) : Int) := by rw [wrap_in (by omega) (by omega)]; rfl
    have hx := List.getElem?_eq_getElem hlt
    have ks := c_sameT l[i].2.1 l[i].2.2
    have e1 : (l[i].1 != l[i].1) = false := by simp
    generalize l[i] = y at *
    refine go (aa c1 <| aa hlt <| aa hx <| aa w1 e1) ks ?_
    exact rnd_next hlt () trivial (.refl _ _)
  · have c1 : ¬ (i : Int) < l.length := by omega
    refine go c1 trivial ?_
    exact ends_ret rfl rfl rfl rfl
end Go.AM

