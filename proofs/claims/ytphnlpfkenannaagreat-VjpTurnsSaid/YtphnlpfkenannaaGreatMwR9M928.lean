import Derived.Test.YtphnlpfkenannaaGreatMwR9M927
set_option linter.unusedVariables false
set_option linter.unusedSimpArgs false
namespace Go.AM
open Go Go.Proofs

theorem two_shape {W : Int → Int → Int × Int} {s d t e : List Int} (h : (twoF W s d t e).2 = 0) : (twoF W s d t e).1.1 = (joinSF s t).1 := by
  obtain ⟨_, _, r, hj, _, he⟩ := two_inv h
  rw [he, hj.eq]
theorem one_shape {W : Int → Int × Int} {s d : List Int} (h : (oneF W s d).2 = 0) : (oneF W s d).1.1 = s := by
  unfold oneF eachF at h ⊢
  split
  · rename_i h1
    rw [if_pos h1] at h
    split
    · rfl
    · rename_i h2; rw [if_neg h2] at h; exact absurd h h2
  · rename_i h1; rw [if_neg h1] at h; simp [bad] at h
theorem mul_shape {s d t e : List Int} (h : (mulF s d t e).2 = 0) : (mulF s d t e).1.1 = (productF s t).1 := by
  unfold mulF at h ⊢
  split
  · rename_i h1
    rw [if_pos h1] at h
    split
    · rename_i m n n' p
      simp only at h
      split
      · rename_i h2
        rw [if_pos h2] at h
        split
        · simp only [productF]; rw [if_pos h2.1]
        · rename_i h3; rw [if_neg h3] at h; exact absurd h h3
      · rename_i h2; rw [if_neg h2] at h; simp [bad] at h
    · rename_i h0
      exfalso
      revert h
      split
      · exact fun _ => h0 _ _ _ _ rfl rfl
      · intro h; simp [bad] at h
  · rename_i h1; rw [if_neg h1] at h; simp [bad] at h
theorem reshape_shape {s d z : List Int} (h : (reshapeF s d z).2 = 0) : (reshapeF s d z).1.1 = z := by
  unfold reshapeF at h ⊢
  split
  · rename_i h1
    rw [if_pos h1] at h
    split
    · rfl
    · rename_i h2; rw [if_neg h2] at h; simp [bad] at h
  · rename_i h1; rw [if_neg h1] at h; simp [bad] at h
theorem turn_shape {s d : List Int} (h : (turnF s d).2 = 0) : (turnF s d).1.1 = s.reverse := by
  unfold turnF at h ⊢
  split
  · rfl
  · rename_i h1; rw [if_neg h1] at h; simp [bad] at h
theorem slice_shape {s d : List Int} {a f t : Int} (h : (sliceF s d a f t).2 = 0) : ¬(a < 0 ∨ a ≥ s.length) ∧ ¬(f < 0 ∨ f ≥ t ∨ t > hd s a.toNat) ∧ (sliceF s d a f t).1.1 = s.set a.toNat (w64 (t - f)) := by
  unfold sliceF at h ⊢
  by_cases h1 : checkT s d = true
  · rw [if_pos h1] at h ⊢
    by_cases h2 : a < 0 ∨ a ≥ s.length ∨ f < 0 ∨ f ≥ t ∨ t > (s[a.toNat]?).getD 0
    · rw [if_pos h2] at h; simp [bad] at h
    · rw [if_neg h2]
      refine ⟨by omega, ?_, rfl⟩
      unfold hd; omega
  · rw [if_neg h1] at h; simp [bad] at h
theorem join_shape {s d t e : List Int} {a : Int} (h : (joinF s d t e a).2 = 0) : ¬(a < 0 ∨ a ≥ s.length) ∧ (s.length = t.length ∧ sameL (s.set a.toNat (hd t a.toNat)) t = true) ∧ (joinF s d t e a).1.1 = s.set a.toNat (w64 (hd s a.toNat + hd t a.toNat)) := by
  unfold joinF at h ⊢
  by_cases h1 : checkT s d = true ∧ checkT t e = true
  · rw [if_pos h1] at h ⊢
    by_cases h2 : a < 0 ∨ a ≥ s.length ∨ s.length ≠ t.length ∨ sameL (s.set a.toNat ((t[a.toNat]?).getD 0)) t = false ∨ checkS (s.set a.toNat (w64 ((s[a.toNat]?).getD 0 + (t[a.toNat]?).getD 0))) = false
    · rw [if_pos h2] at h; simp [bad] at h
    · rw [if_neg h2]
      simp only [not_or] at h2
      obtain ⟨q1, q2, q3, q4, q5⟩ := h2
      exact ⟨by omega, ⟨by omega, by unfold hd; simpa using q4⟩, rfl⟩
  · rw [if_neg h1] at h; simp [bad] at h
theorem together_shape {W E : Int → Int → Int × Int} {F : Int → Int} {s d : List Int} {a : Int} (h : (togetherF W E F s d a).2 = 0) : ¬(a < 0 ∨ a ≥ s.length) ∧ (togetherF W E F s d a).1.1 = s.eraseIdx a.toNat := by
  unfold togetherF at h ⊢
  by_cases h1 : checkT s d = true
  · rw [if_pos h1] at h ⊢
    by_cases h2 : a < 0 ∨ a ≥ s.length
    · rw [if_pos h2] at h; simp [bad] at h
    · rw [if_neg h2] at h ⊢
      refine ⟨h2, ?_⟩
      split
      · rfl
      · rename_i h3; rw [if_neg h3] at h; exact absurd h h3
  · rw [if_neg h1] at h; simp [bad] at h
theorem mean_shape {s d : List Int} {a : Int} (h : (meanS s d a).2 = 0) : ¬(a < 0 ∨ a ≥ s.length) ∧ (meanS s d a).1.1 = s.eraseIdx a.toNat := by
  unfold meanS at h ⊢
  by_cases h1 : (sumS s d a).2 = 0
  · rw [if_pos h1] at h ⊢; exact together_shape h
  · rw [if_neg h1] at h; exact absurd h h1
theorem kind_cases {op : Int} {k : Int × Int} (h : kindF op = some k) : (op, k) ∈ ([(1, 0, -1), (2, 0, -2), (3, 0, 1), (10, 2, 0), (11, 2, 0), (12, 2, 0), (13, 2, 0), (20, 1, 0), (21, 1, 0), (22, 1, 0), (23, 1, 0), (30, 2, 0), (40, 1, -1), (41, 1, 0), (42, 1, 3), (43, 2, 1), (50, 1, 1), (51, 1, 1), (52, 1, 1)] : List (Int × Int × Int)) := by
  have : ∀ (l : List (Int × Int × Int)), lkI op l = some k → (op, k) ∈ l := by
    intro l
    induction l with
    | nil => intro h; simp [lkI] at h
    | cons p l ih =>
      intro h
      simp only [lkI] at h
      split at h
      · rename_i h1; cases h; subst h1; exact List.mem_cons_self
      · exact List.mem_cons_of_mem _ (ih h)
  exact this _ h
theorem inferOk_kind {op : Int} {nums : List Int} {s : List (List Int)} (h : inferOk op nums s = true) : ∃ k, kindF op = some k ∧ (s.length : Int) = k.1 ∧ wellF nums k.2 = true ∧ s.all checkS = true ∧ (ruleF op s nums).2 = true := by
  unfold inferOk at h
  cases hk : kindF op with
  | none => rw [hk] at h; simp at h
  | some k =>
    rw [hk] at h
    simp only [Bool.and_eq_true, decide_eq_true_eq] at h
    exact ⟨k, rfl, h.1, h.2.1, h.2.2.1, h.2.2.2⟩
theorem gs_map (t : List Tn) (i : Nat) : gs (t.map (·.1)) i = (gT t i).1 := by
  unfold gs gT
  rw [List.getElem?_map, Int.toNat_natCast]
  cases t[i]? <;> rfl
theorem hd_tail (l : List Int) (i : Nat) : hd l.tail i = hd l (i + 1) := by unfold hd; rw [List.getElem?_tail]
theorem evF_shape {op : Int} {t : List Tn} {nums : List Int} {k : Int × Int} (hk : kindF op = some k) (h1 : op ≠ 1) (h2 : op ≠ 2) (h3 : op ≠ 3) (h : (evF op t nums).2 = 0) : (evF op t nums).1.1 = (ruleF op (t.map (·.1)) nums).1 := by
  have g0 : gs (t.map (·.1)) 0 = (gT t 0).1 := gs_map t 0
  have g1 : gs (t.map (·.1)) 1 = (gT t 1).1 := gs_map t 1
  have hc := kind_cases hk
  simp only [List.mem_cons, Prod.mk.injEq, List.not_mem_nil, or_false] at hc
  have side : ∀ f : Nat → List Int → List Int × Bool, ¬(hd nums 0 < 0 ∨ hd nums 0 ≥ ((gT t 0).1.length : Int)) → sidedF (t.map (·.1)) nums f = f (hd nums 0).toNat nums.tail := fun f h => by unfold sidedF; rw [g0, if_neg h]
  rcases hc with ⟨rfl, _⟩ | ⟨rfl, _⟩ | ⟨rfl, _⟩ | ⟨rfl, _⟩ | ⟨rfl, _⟩ | ⟨rfl, _⟩ | ⟨rfl, _⟩ | ⟨rfl, _⟩ | ⟨rfl, _⟩ | ⟨rfl, _⟩ | ⟨rfl, _⟩ | ⟨rfl, _⟩ | ⟨rfl, _⟩ | ⟨rfl, _⟩ | ⟨rfl, _⟩ | ⟨rfl, _⟩ | ⟨rfl, _⟩ | ⟨rfl, _⟩ | ⟨rfl, _⟩
  · exact absurd rfl h1
  · exact absurd rfl h2
  · exact absurd rfl h3
  · exact (two_shape h).trans (by show _ = (joinSF _ _).1; rw [g0, g1])
  · exact (two_shape h).trans (by show _ = (joinSF _ _).1; rw [g0, g1])
  · exact (two_shape h).trans (by show _ = (joinSF _ _).1; rw [g0, g1])
  · exact (two_shape h).trans (by show _ = (joinSF _ _).1; rw [g0, g1])
  · exact (one_shape h).trans (by show _ = gs _ 0; rw [g0])
  · exact (one_shape h).trans (by show _ = gs _ 0; rw [g0])
  · exact (one_shape h).trans (by show _ = gs _ 0; rw [g0])
  · exact (one_shape h).trans (by show _ = gs _ 0; rw [g0])
  · exact (mul_shape h).trans (by show _ = (productF _ _).1; rw [g0, g1])
  · exact reshape_shape h
  · exact (turn_shape h).trans (by show _ = (gs _ 0).reverse; rw [g0])
  · obtain ⟨q1, q2, q3⟩ := slice_shape h
    exact q3.trans (by
      show _ = (sidedF (t.map (·.1)) nums (partF (gs (t.map (·.1)) 0))).1
      rw [side _ q1, g0]; unfold partF; rw [hd_tail, hd_tail, if_neg q2])
  · obtain ⟨q1, q2, q3⟩ := join_shape h
    exact q3.trans (by
      show _ = (sidedF (t.map (·.1)) nums (fun n _ => behindF (gs (t.map (·.1)) 0) (gs (t.map (·.1)) 1) n)).1
      rw [side _ q1, g0, g1]; unfold behindF; rw [if_pos q2])
  · obtain ⟨q1, q3⟩ := together_shape h
    exact q3.trans (by show _ = (sidedF (t.map (·.1)) nums (fun n _ => ((gs (t.map (·.1)) 0).eraseIdx n, true))).1; rw [side _ q1, g0])
  · obtain ⟨q1, q3⟩ := mean_shape h
    exact q3.trans (by show _ = (sidedF (t.map (·.1)) nums (fun n _ => ((gs (t.map (·.1)) 0).eraseIdx n, true))).1; rw [side _ q1, g0])
  · obtain ⟨q1, q3⟩ := together_shape h
    exact q3.trans (by show _ = (sidedF (t.map (·.1)) nums (fun n _ => ((gs (t.map (·.1)) 0).eraseIdx n, true))).1; rw [side _ q1, g0])
theorem nodeF_ok {n : Nd} {t : List Tn} {input : Tn} {ps : List Tn} (h : (nodeF n t input ps).2 = 0) : t.all (fun x => checkT x.1 x.2) = true ∧ (inferF n.op n.nums (t.map (·.1))).2 = 0 ∧ (nodeF n t input ps).1.1 = (inferF n.op n.nums (t.map (·.1))).1 := by
  unfold nodeF at h ⊢
  by_cases h1 : t.all (fun x => checkT x.1 x.2) = true
  · rw [if_pos h1] at h ⊢
    refine ⟨h1, ?_⟩
    by_cases h2 : (inferF n.op n.nums (t.map (·.1))).2 = 0
    · rw [if_pos h2] at h ⊢
      refine ⟨h2, ?_⟩
      have hi : inferOk n.op n.nums (t.map (·.1)) = true := by
        unfold inferF at h2
        by_cases h3 : inferOk n.op n.nums (t.map (·.1)) = true
        · exact h3
        · rw [if_neg h3] at h2; simp at h2
      have hi2 : (inferF n.op n.nums (t.map (·.1))).1 = (ruleF n.op (t.map (·.1)) n.nums).1 := by unfold inferF; rw [if_pos hi]
      obtain ⟨k, hk, _⟩ := inferOk_kind hi
      have gv : ∀ (x : Tn) (s : List Int), (givenF x s).2 = 0 → (givenF x s).1.1 = s := fun x s h => by
        unfold givenF at h ⊢
        by_cases h3 : checkT x.1 x.2 = true ∧ sameL x.1 s = true
        · rw [if_pos h3]; exact sameL_iff.1 h3.2
        · rw [if_neg h3] at h; simp [bad] at h
      by_cases c1 : n.op = 1
      · rw [if_pos c1] at h ⊢; exact gv _ _ h
      rw [if_neg c1] at h ⊢
      by_cases c2 : n.op = 2
      · rw [if_pos c2] at h ⊢; exact gv _ _ h
      rw [if_neg c2] at h ⊢
      by_cases c3 : n.op = 3
      · rw [if_pos c3] at h ⊢; rw [hi2, c3]; rfl
      rw [if_neg c3] at h ⊢
      rw [hi2]; exact evF_shape hk c1 c2 c3 h
    · rw [if_neg h2] at h; exact absurd h h2
  · rw [if_neg h1] at h; simp [bad] at h
end Go.AM

namespace Go.AM
open Go Go.Proofs
set_option maxRecDepth 100000
set_option maxHeartbeats 8000000

abbrev sdV (f : FuncId) : PV := .fn fi_infer_sided_1 [] [.box [.fn f [] []]]
def rulesL : List (Int × PV) := [(1, .fn fi_infer_rules_1 [] []), (2, .fn fi_infer_rules_2 [] []), (3, .fn fi_infer_rules_3 [] []), (10, .fn fi_infer_both [] []), (11, .fn fi_infer_both [] []), (12, .fn fi_infer_both [] []), (13, .fn fi_infer_both [] []),
  (20, .fn fi_infer_first [] []), (21, .fn fi_infer_first [] []), (22, .fn fi_infer_first [] []), (23, .fn fi_infer_first [] []), (30, .fn fi_infer_rules_6 [] []), (40, .fn fi_infer_rules_4 [] []), (41, .fn fi_infer_rules_5 [] []),
  (42, sdV fi_infer_part), (43, sdV fi_infer_behind), (50, sdV fi_infer_together), (51, sdV fi_infer_together), (52, sdV fi_infer_together)]
def rulesE : List (Int × Bool × List PV) := rulesL.map fun p => (p.1, false, [p.2])
theorem find_rules (op : Int) : findE op rulesE = (lkI op rulesL).map fun v => (false, [v]) := find_map (fun v : PV => (false, [v])) op rulesL
theorem p_infer_sided (f : FuncId) : PureC Tryz.prog fi_infer_sided [.one (.fn f [] [])] (.one (sdV f)) := by
  refine pure_infer_sided (by simp) fun G hP hn => ?_
  refine go trivial trivial ?_
  exact ends_ret rfl rfl rfl rfl
theorem p_infer_rules : PureC Tryz.prog fi_infer_rules [] (.one (.map rulesE)) := by
  refine pure_infer_rules (by simp) fun G hP hn => ?_
  have k1 := p_infer_sided fi_infer_part
  have k2 := p_infer_sided fi_infer_behind
  have k3 := p_infer_sided fi_infer_together
  refine go trivial (aa k1 <| aa k2 k3) ?_
  exact ends_ret rfl rfl rfl rfl
theorem p_infer_sided_1 {f : FuncId} {F : Nat → List Int → List Int × Bool} (a : List Int) (s : List (List Int)) (p : Int) (r : List Int) (ha : a.length ≤ 64) (hf : ∀ n, n < a.length → PureC Tryz.prog f [dSS (a :: s), dN n, dI r] (dSB (F n r))) :
    PureC Tryz.prog fi_infer_sided_1 [dSS (a :: s), dI (p :: r), .one (.box [.fn f [] []])] (dSB (sidedF (a :: s) (p :: r) F)) := by
  refine pure_infer_sided_1 (by simp) fun G hP hn => ?_
  have e0 : hd (p :: r) 0 = p := rfl
  have g0 : gs (a :: s) 0 = a := rfl
  unfold sidedF
  rw [e0, g0]
  by_cases h1 : p < 0
  · rw [if_pos (.inl h1)]
    refine go h1 trivial ?_
    exact ends_ret rfl rfl rfl rfl
  by_cases h2 : p ≥ (a.length : Int)
  · rw [if_pos (.inr h2)]
    refine go (aa h1 h2) trivial ?_
    exact ends_ret rfl rfl rfl rfl
  rw [if_neg (fun h => h.elim h1 h2)]
  obtain ⟨n, rfl⟩ := Int.eq_ofNat_of_zero_le (by omega : 0 ≤ p)
  have kf := hf n (by omega)
  show T _ _ _ _ _ _
  have e3 : (F (n : Int).toNat (List.tail ((n : Int) :: r))) = F n r := rfl
  rw [e3]
  generalize F n r = R at *
  have e1 : (1 : Int) ≤ ((r.length + 1 : Nat) : Int) := by omega
  have t1 : List.take (r.length + 1 - 1) (rI r) = rI r := List.take_of_length_le (by simp)
  have t2 : List.take r.length (rI r) = rI r := List.take_of_length_le (by simp)
  refine go (aa h1 <| aa h2 <| aa e1 <| aa t1 <| aa t2 @all1) kf ?_
  exact ends_ret rfl rfl rfl rfl
theorem well_len {nums : List Int} {k : Int} (hk : k ≤ 3) (h : wellF nums k = true) : nums.length ≤ 4 := by
  unfold wellF at h
  split at h
  · cases nums with
    | nil => simp
    | cons p r =>
      have := check_len (Bool.and_eq_true .. ▸ h).2
      simp; omega
  · split at h
    · have := check_len h; omega
    · have : (nums.length : Int) = k := by simpa using h
      omega
theorem infer_rule {op : Int} {k : Int × Int} {s : List (List Int)} {nums : List Int} (hk : kindF op = some k) (hl : (s.length : Int) = k.1) (hw : wellF nums k.2 = true) (hs : ∀ x ∈ s, x.length ≤ 64) :
    ∃ f caps, lkI op rulesL = some (.fn f [] caps) ∧ PureC Tryz.prog f ([dSS s, dI nums] ++ caps.map .one) (dSB (ruleF op s nums)) := by
  have hc := kind_cases hk
  simp only [List.mem_cons, Prod.mk.injEq, List.not_mem_nil, or_false] at hc
  have hnl : nums.length ≤ 64 := by
    have : k.2 ≤ 3 := by
      rcases hc with ⟨_, rfl⟩ | ⟨_, rfl⟩ | ⟨_, rfl⟩ | ⟨_, rfl⟩ | ⟨_, rfl⟩ | ⟨_, rfl⟩ | ⟨_, rfl⟩ | ⟨_, rfl⟩ | ⟨_, rfl⟩ | ⟨_, rfl⟩ | ⟨_, rfl⟩ | ⟨_, rfl⟩ | ⟨_, rfl⟩ | ⟨_, rfl⟩ | ⟨_, rfl⟩ | ⟨_, rfl⟩ | ⟨_, rfl⟩ | ⟨_, rfl⟩ | ⟨_, rfl⟩ <;> decide
    have := well_len this hw
    omega
  have one : k.1 = 1 → ∃ a, s = [a] ∧ a.length ≤ 64 := fun h => by
    have : s.length = 1 := by omega
    match s, this, hs with
    | [a], _, hs => exact ⟨a, rfl, hs a (by simp)⟩
  have two : k.1 = 2 → ∃ a b, s = [a, b] ∧ a.length ≤ 64 ∧ b.length ≤ 64 := fun h => by
    have : s.length = 2 := by omega
    match s, this, hs with
    | [a, b], _, hs => exact ⟨a, b, rfl, hs a (by simp), hs b (by simp)⟩
  have num : ∀ m : Int, k.2 = m → m ≠ -2 → m ≠ -1 → (nums.length : Int) = m := fun m h h1 h2 => by
    rw [h] at hw; unfold wellF at hw; rw [if_neg h1, if_neg h2] at hw; simpa using hw
  rcases hc with ⟨rfl, rfl⟩ | ⟨rfl, rfl⟩ | ⟨rfl, rfl⟩ | ⟨rfl, rfl⟩ | ⟨rfl, rfl⟩ | ⟨rfl, rfl⟩ | ⟨rfl, rfl⟩ | ⟨rfl, rfl⟩ | ⟨rfl, rfl⟩ | ⟨rfl, rfl⟩ | ⟨rfl, rfl⟩ | ⟨rfl, rfl⟩ | ⟨rfl, rfl⟩ | ⟨rfl, rfl⟩ | ⟨rfl, rfl⟩ | ⟨rfl, rfl⟩ | ⟨rfl, rfl⟩ | ⟨rfl, rfl⟩ | ⟨rfl, rfl⟩
  · exact ⟨_, _, rfl, p_infer_given s nums hnl⟩
  · cases nums with
    | nil => cases hw
    | cons p r => exact ⟨_, _, rfl, p_infer_param s p r (by simp at hnl; omega)⟩
  · exact ⟨_, _, rfl, p_infer_number s nums⟩
  · obtain ⟨a, b, rfl, _, _⟩ := two rfl; exact ⟨_, _, rfl, p_infer_both a b [] nums⟩
  · obtain ⟨a, b, rfl, _, _⟩ := two rfl; exact ⟨_, _, rfl, p_infer_both a b [] nums⟩
  · obtain ⟨a, b, rfl, _, _⟩ := two rfl; exact ⟨_, _, rfl, p_infer_both a b [] nums⟩
  · obtain ⟨a, b, rfl, _, _⟩ := two rfl; exact ⟨_, _, rfl, p_infer_both a b [] nums⟩
  · obtain ⟨a, rfl, ha⟩ := one rfl; exact ⟨_, _, rfl, p_infer_first a [] nums ha⟩
  · obtain ⟨a, rfl, ha⟩ := one rfl; exact ⟨_, _, rfl, p_infer_first a [] nums ha⟩
  · obtain ⟨a, rfl, ha⟩ := one rfl; exact ⟨_, _, rfl, p_infer_first a [] nums ha⟩
  · obtain ⟨a, rfl, ha⟩ := one rfl; exact ⟨_, _, rfl, p_infer_first a [] nums ha⟩
  · obtain ⟨a, b, rfl, ha, hb⟩ := two rfl; exact ⟨_, _, rfl, p_infer_product a b [] nums ha hb⟩
  · obtain ⟨a, rfl, ha⟩ := one rfl; exact ⟨_, _, rfl, p_infer_again a [] nums hnl⟩
  · obtain ⟨a, rfl, ha⟩ := one rfl; exact ⟨_, _, rfl, p_infer_turn a [] nums ha⟩
  · obtain ⟨a, rfl, ha⟩ := one rfl
    have h3 := num 3 rfl (by decide) (by decide)
    obtain ⟨p, f, t, rfl⟩ : ∃ p f t, nums = [p, f, t] := match nums, h3 with | [p, f, t], _ => ⟨p, f, t, rfl⟩
    exact ⟨_, _, rfl, p_infer_sided_1 (F := partF a) a [] p [f, t] ha fun n hn => p_infer_part a [] n f t ha hn⟩
  · obtain ⟨a, b, rfl, ha, hb⟩ := two rfl
    have h3 := num 1 rfl (by decide) (by decide)
    obtain ⟨p, rfl⟩ : ∃ p, nums = [p] := match nums, h3 with | [p], _ => ⟨p, rfl⟩
    exact ⟨_, _, rfl, p_infer_sided_1 (F := fun n _ => behindF a b n) a [b] p [] ha fun n hn => p_infer_behind a b [] n [] ha hn⟩
  all_goals
    obtain ⟨a, rfl, ha⟩ := one rfl
    have h3 := num 1 rfl (by decide) (by decide)
    obtain ⟨p, rfl⟩ : ∃ p, nums = [p] := match nums, h3 with | [p], _ => ⟨p, rfl⟩
    exact ⟨_, _, rfl, p_infer_sided_1 (F := fun n _ => (a.eraseIdx n, true)) a [] p [] ha fun n hn => p_infer_together a [] n [] ha hn⟩
end Go.AM

namespace Go.AM
open Go Go.Proofs
set_option maxRecDepth 100000
set_option maxHeartbeats 8000000

theorem nd_some {l : List Nd} {i : Nat} (h : i < l.length) : l[i]? = some l[i] := List.getElem?_eq_getElem h
theorem name_nums {n : Nd} {k : Int × Int} (hk : kindF n.op = some k) (hw : wellF n.nums k.2 = true) : n.op = 2 → 0 < n.nums.length := fun h => by
  rw [h] at hk
  have : k = (0, -2) := by have := hk.symm; rw [show kindF 2 = some (0, -2) from rfl] at this; exact Option.some.inj this
  subst this
  unfold wellF at hw
  simp only [if_true] at hw
  cases hn : n.nums with
  | nil => rw [hn] at hw; cases hw
  | cons p r => simp
theorem p_graph_Check (l : List Nd) (hl : l.length ≤ MaxN) (hl2 : ∀ n ∈ l, n.args.length ≤ MaxN) : PureC Tryz.prog fi_graph_Check [dNds l] (dB (checkG l)) := by
  refine pure_graph_Check (by simp) fun G hP hn => ?_
  have hM : MaxN = 140737488355328 := rfl
  have kk := p_graph_kinds
  refine go trivial kk ?_
  refine T_for l.length (fun i (m : Shs) => { env := [(0, .one (.p (.sl (l.map rNd)))), (3, .one (.p (.map kindsE))), (4, .one (.mmap 15)), (16, .one (.p (.sl (l.map rNd)))), (17, .one (.p (.int .i64 l.length))), (18, .one (.p (.int .i64 i)))], σ := [(15, .map true (eM m))] })
    (fun i m => walkG i m (l.drop i) = walkG 0 [] l) [] rfl ?_ fun i m hi hinv => ?_
  · refine Weak.sub fun q hq => ?_
    simp only [List.mem_cons, List.not_mem_nil, or_false] at hq
    subst hq; rfl
  by_cases hlt : i < l.length
  rotate_left
  · have c1 : ¬ (i : Int) < l.length := by omega
    rw [List.drop_of_length_le (by omega)] at hinv
    simp only [walkG] at hinv
    have hr : checkG l = decide (0 < l.length ∧ l.length ≤ 24) := by unfold checkG; rw [← hinv]; rfl
    rw [hr]
    by_cases h0 : 0 < l.length
    · have q0 : (l.length : Int) > 0 := by omega
      by_cases h24 : l.length ≤ 24
      · have q1 : (l.length : Int) ≤ 24 := by omega
        rw [decide_eq_true ⟨h0, h24⟩]
        refine go (aa c1 <| aa q0 q1) trivial ?_
        exact ends_ret rfl rfl rfl rfl
      · have q1 : ¬ (l.length : Int) ≤ 24 := by omega
        rw [decide_eq_false (fun h => h24 h.2)]
        refine go (aa c1 <| aa q0 q1) trivial ?_
        exact ends_ret rfl rfl rfl rfl
    · have q0 : ¬ (l.length : Int) > 0 := by omega
      rw [decide_eq_false (fun h => h0 h.1)]
      refine go (aa c1 q0) trivial ?_
      exact ends_ret rfl rfl rfl rfl
  have c1 : (i : Int) < l.length := by omega
  have w1 : IntKind.i64.wrap ((i : Int) + 1) = ((i + 1 : Nat) : Int) := by rw [wrap_in (by omega) (by omega)]; rfl
  have hx := nd_some hlt
  have ha := hl2 l[i] (List.getElem_mem hlt)
  rw [List.drop_eq_getElem_cons hlt] at hinv
  generalize l[i] = n at *
  simp only [walkG] at hinv
  have stop : stepG i m n = none → checkG l = false := fun h => by unfold checkG; rw [← hinv, h]; rfl
  have hfind := find_kinds n.op
  cases hk : kindF n.op with
  | none =>
    have hs : stepG i m n = none := by unfold stepG; rw [hk]
    rw [stop hs]
    rw [hk, Option.map_none] at hfind
    clear hs stop hk hinv
    obtain ⟨op, args, nums⟩ := n
    simp only at hfind ha
    refine go (aa c1 <| aa hx <| aa hlt hfind) trivial ?_
    exact ends_ret rfl rfl rfl rfl
  | some k =>
  rw [hk, Option.map_some] at hfind
  by_cases h1 : (n.args.length : Int) = k.1
  rotate_left
  · have hs : stepG i m n = none := by unfold stepG; rw [hk]; simp only; rw [if_neg (fun h => h1 h.1)]
    rw [stop hs]
    clear hs stop hk hinv
    obtain ⟨op, args, nums⟩ := n
    obtain ⟨k1, k2⟩ := k
    simp only at hfind ha h1
    have e1 : ((args.length : Int) != k1) = true := by simp [h1]
    refine go (aa c1 <| aa hx <| aa hlt <| aa hfind e1) trivial ?_
    exact ends_ret rfl rfl rfl rfl
  have e1 : ((n.args.length : Int) != k.1) = false := by simp [h1]
  have kw := p_graph_well n k.1 k.2
  cases h2 : wellF n.nums k.2
  · have hs : stepG i m n = none := by unfold stepG; rw [hk]; simp only; rw [if_neg (fun h => by rw [h2] at h; exact absurd h.2.1 (by simp))]
    rw [stop hs]
    rw [h2] at kw
    clear hs stop hk hinv
    obtain ⟨op, args, nums⟩ := n
    obtain ⟨k1, k2⟩ := k
    simp only at hfind ha h1 e1
    refine go (aa c1 <| aa hx <| aa hlt <| aa hfind e1) kw ?_
    exact ends_ret rfl rfl rfl rfl
  rw [h2] at kw
  have kc := p_slices_ContainsFunc (f := fi_graph_Check_1) (caps := [.box [.int .i64 (i : Int)]]) n.args (fun a => !decide (0 ≤ a ∧ a < (i : Int))) ha (fun x _ => p_graph_Check_1 x i)
  have hany : n.args.any (fun a => !decide (0 ≤ a ∧ a < (i : Int))) = !n.args.all (fun a => decide (0 ≤ a ∧ a < (i : Int))) := by rw [List.any_eq_not_all_not]; simp
  rw [hany] at kc
  cases h3 : n.args.all (fun a => decide (0 ≤ a ∧ a < (i : Int)))
  · have hs : stepG i m n = none := by unfold stepG; rw [hk]; simp only; rw [if_neg (fun h => by rw [h3] at h; exact absurd h.2.2 (by simp))]
    rw [stop hs]
    rw [h3] at kc
    clear hs stop hk hinv hany h3
    obtain ⟨op, args, nums⟩ := n
    obtain ⟨k1, k2⟩ := k
    simp only at hfind ha h1 e1
    refine go (aa c1 <| aa hx <| aa hlt <| aa hfind e1) (aa kw kc) ?_
    exact ends_ret rfl rfl rfl rfl
  rw [h3] at kc
  have hstep : stepG i m n = if (nameF n).2 = true then (match lkI (nameF n).1 m with
        | some s => if sameL s n.nums = true then some (putI (nameF n).1 n.nums m) else none
        | none => some (putI (nameF n).1 n.nums m)) else some m := by unfold stepG; rw [hk]; simp only; rw [if_pos ⟨h1, h2, h3⟩]; rfl
  have kn := p_graph_name n (name_nums hk h2)
  clear hany h3 h2 hk
  generalize hnm : nameF n = nm at *
  obtain ⟨at_, named⟩ := nm
  cases named
  · simp only [Bool.false_eq_true, if_false] at hstep
    rw [hstep] at hinv
    obtain ⟨op, args, nums⟩ := n
    obtain ⟨k1, k2⟩ := k
    simp only at hfind ha h1 e1
    refine go (aa c1 <| aa hx <| aa hlt <| aa hfind <| aa e1 w1) (aa kw <| aa kc kn) ?_
    refine rnd_next hlt m hinv (Weak.sub fun q hq => ?_)
    simp only [List.mem_cons, List.not_mem_nil, or_false] at hq
    subst hq; rfl
  simp only [if_true] at hstep
  have hfm := find_eM at_ m
  cases hlk : lkI at_ m with
  | none =>
    rw [hlk] at hstep
    simp only at hstep
    rw [hstep] at hinv
    rw [hlk, Option.map_none] at hfm
    obtain ⟨op, args, nums⟩ := n
    obtain ⟨k1, k2⟩ := k
    simp only at hfind ha h1 e1 hinv
    refine go (aa c1 <| aa hx <| aa hlt <| aa hfind <| aa e1 <| aa w1 hfm) (aa kw <| aa kc kn) ?_
    refine rnd_next hlt (putI at_ nums m) hinv (Weak.sub fun q hq => ?_)
    simp only [List.mem_cons, List.not_mem_nil, or_false] at hq
    subst hq
    show AO.map true (putM at_ (false, [eI nums]) (eM m)) = _
    rw [put_eM]
  | some s =>
    rw [hlk] at hstep
    simp only at hstep
    rw [hlk, Option.map_some] at hfm
    have ke := p_slices_Equal s n.nums
    cases hsm : sameL s n.nums
    · rw [hsm] at hstep ke
      simp only [Bool.false_eq_true, if_false] at hstep
      rw [stop hstep]
      obtain ⟨op, args, nums⟩ := n
      obtain ⟨k1, k2⟩ := k
      simp only at hfind ha h1 e1
      clear hstep stop hinv hnm
      refine go (aa c1 <| aa hx <| aa hlt <| aa hfind <| aa e1 hfm) (aa kw <| aa kc <| aa kn ke) ?_
      exact ends_ret rfl rfl rfl rfl
    · rw [hsm] at hstep ke
      simp only [if_true] at hstep
      rw [hstep] at hinv
      obtain ⟨op, args, nums⟩ := n
      obtain ⟨k1, k2⟩ := k
      simp only at hfind ha h1 e1 hinv
      refine go (aa c1 <| aa hx <| aa hlt <| aa hfind <| aa e1 <| aa w1 hfm) (aa kw <| aa kc <| aa kn ke) ?_
      refine rnd_next hlt (putI at_ nums m) hinv (Weak.sub fun q hq => ?_)
      simp only [List.mem_cons, List.not_mem_nil, or_false] at hq
      subst hq
      show AO.map true (putM at_ (false, [eI nums]) (eM m)) = _
      rw [put_eM]
end Go.AM

namespace Go.AM
open Go Go.Proofs
set_option maxRecDepth 100000
set_option maxHeartbeats 8000000

theorem p_infer_Node_1 (s : List Int) : PureC Tryz.prog fi_infer_Node_1 [dI s] (dB (!checkS s)) := by
  refine pure_infer_Node_1 (by simp) fun G hP hn => ?_
  have kc := p_shape_Check s
  refine go trivial kc ?_
  exact ends_ret rfl rfl rfl rfl
theorem check_alone {op : Int} {nums z : List Int} {k : Int × Int} (hk : kindF op = some k) (hz : (z.length : Int) = k.1) (h0 : ∀ a ∈ z, a = 0) : checkG [⟨3, [], [0]⟩, ⟨op, z, nums⟩] = wellF nums k.2 := by
  have e1 : stepG 0 [] ⟨3, [], [0]⟩ = some [] := rfl
  have e2 : stepG 1 [] ⟨op, z, nums⟩ = if wellF nums k.2 = true then (if (nameF ⟨op, z, nums⟩).2 = true then some [((nameF ⟨op, z, nums⟩).1, nums)] else some []) else none := by
    unfold stepG
    simp only [hk]
    have hall : z.all (fun a => decide (0 ≤ a ∧ a < ((1 : Nat) : Int))) = true := List.all_eq_true.2 fun a ha => by rw [h0 a ha]; rfl
    by_cases hw : wellF nums k.2 = true
    · rw [if_pos ⟨hz, hw, hall⟩, if_pos hw]
      rfl
    · rw [if_neg (fun h => hw h.2.1), if_neg hw]
  unfold checkG
  simp only [walkG, e1, Nat.zero_add, e2]
  cases hw : wellF nums k.2
  · simp
  · simp only [if_true]
    generalize nameF ⟨op, z, nums⟩ = nm
    obtain ⟨x, b⟩ := nm
    cases b <;> rfl
theorem inferF_no {op : Int} {nums : List Int} {s : List (List Int)} (h : inferOk op nums s = false) : inferF op nums s = ([], 20) := by unfold inferF; rw [h]; rfl
theorem arity_of {op : Int} {k : Int × Int} (hk : kindF op = some k) : k.1 = 0 ∨ k.1 = 1 ∨ k.1 = 2 := by
  have hc := kind_cases hk
  simp only [List.mem_cons, Prod.mk.injEq, List.not_mem_nil, or_false] at hc
  rcases hc with ⟨_, rfl⟩ | ⟨_, rfl⟩ | ⟨_, rfl⟩ | ⟨_, rfl⟩ | ⟨_, rfl⟩ | ⟨_, rfl⟩ | ⟨_, rfl⟩ | ⟨_, rfl⟩ | ⟨_, rfl⟩ | ⟨_, rfl⟩ | ⟨_, rfl⟩ | ⟨_, rfl⟩ | ⟨_, rfl⟩ | ⟨_, rfl⟩ | ⟨_, rfl⟩ | ⟨_, rfl⟩ | ⟨_, rfl⟩ | ⟨_, rfl⟩ | ⟨_, rfl⟩ <;> decide
theorem p_infer_Node (n : Nd) (s : List (List Int)) (hs : s.length ≤ MaxN) : PureC Tryz.prog fi_infer_Node [dNd n, dSS s] (.tup [dI (inferF n.op n.nums s).1, dN (inferF n.op n.nums s).2]) := by
  refine pure_infer_Node (by simp) fun G hP hn => ?_
  obtain ⟨op, args, nums⟩ := n
  simp only
  have ka := p_graph_Arity op
  cases hk : kindF op with
  | none =>
    have e : inferF op nums s = ([], 20) := inferF_no (by unfold inferOk; rw [hk])
    have ea : arityF op = -1 := by unfold arityF; rw [hk]
    rw [ea] at ka
    rw [e]
    have e1 : ((s.length : Int) != -1) = true := bne_iff_ne.2 (by omega)
    refine go trivial trivial ?_
    apply T_drO fw (by rw [hP]; rfl)
    · simp only [go_sem, seval, reduceIte, ↓reduceIte, bne, beq_false, beq_true, Bool.not_eq_true, Bool.if_true_right, decide_not, reduceCtorEq, hP, hn]
      refine .inl ⟨_, ⟨_, _, _, _, _, _, rfl, rfl, rfl, ka⟩, ?_⟩
      simp only [go_sem, seval, reduceIte, ↓reduceIte, bne, beq_false, beq_true, Bool.not_eq_true, Bool.if_true_right, decide_not, reduceCtorEq, hP, hn]
      exact rfl
    refine go e1 ka ?_
    exact ends_ret rfl rfl rfl rfl
  | some k =>
  have ea : arityF op = k.1 := by unfold arityF; rw [hk]
  rw [ea] at ka
  obtain ⟨z, hz, h0, hzz⟩ : ∃ z : List Int, (z.length : Int) = k.1 ∧ (∀ a ∈ z, a = 0) ∧ (z = [] ∧ k.1 = 0 ∨ z = [0] ∧ k.1 = 1 ∨ z = [0, 0] ∧ k.1 = 2) := by
    rcases arity_of hk with h | h | h
    · exact ⟨[], by rw [h]; rfl, by simp, .inl ⟨rfl, h⟩⟩
    · exact ⟨[0], by rw [h]; rfl, by simp, .inr (.inl ⟨rfl, h⟩)⟩
    · exact ⟨[0, 0], by rw [h]; rfl, by simp, .inr (.inr ⟨rfl, h⟩)⟩
  have kG := p_graph_Check [⟨3, [], [0]⟩, ⟨op, z, nums⟩] (by show 2 ≤ _; decide) (fun n hn => by
    have hM : MaxN = 140737488355328 := rfl
    have := arity_of hk
    simp only [List.mem_cons, List.not_mem_nil, or_false] at hn
    rcases hn with rfl | rfl
    · exact Nat.zero_le _
    · show z.length ≤ _; omega)
  rw [check_alone hk hz h0] at kG
  have kF := p_slices_ContainsFuncL (f := fi_infer_Node_1) (caps := []) s (fun x => !checkS x) hs (fun x _ => p_infer_Node_1 x)
  have hany : s.any (fun x => !checkS x) = !s.all checkS := by rw [List.any_eq_not_all_not]; simp
  rw [hany] at kF
  have kR := p_infer_rules
  have hfind := find_rules op
  have hI : inferOk op nums s = (decide ((s.length : Int) = k.1) && (wellF nums k.2 && (s.all checkS && (ruleF op s nums).2))) := by unfold inferOk; rw [hk]
  have hF1 : (s.length : Int) ≠ k.1 → inferF op nums s = ([], 20) := fun h => inferF_no (by rw [hI, decide_eq_false h]; rfl)
  have hF2 : (s.length : Int) = k.1 → wellF nums k.2 = false → inferF op nums s = ([], 20) := fun h h2 => inferF_no (by rw [hI, h2, decide_eq_true h]; rfl)
  have hF3 : s.all checkS = false → inferF op nums s = ([], 20) := fun h => inferF_no (by rw [hI, h]; simp)
  have hF4 : (s.length : Int) = k.1 → wellF nums k.2 = true → s.all checkS = true → (∃ f caps, lkI op rulesL = some (.fn f [] caps) ∧ PureC Tryz.prog f ([dSS s, dI nums] ++ caps.map .one) (dSB (ruleF op s nums))) ∧ inferF op nums s = if (ruleF op s nums).2 = true then ((ruleF op s nums).1, 0) else ([], 20) := fun h1 h2 h3 =>
    ⟨infer_rule hk h1 h2 (fun x hx => by have := check_len (List.all_eq_true.1 h3 x hx); omega), by unfold inferF; rw [hI, decide_eq_true h1, h2, h3]; rfl⟩
  clear hI hany hk ea hz h0
  obtain ⟨k1, k2⟩ := k
  simp only at hzz ka kG hF1 hF2 hF4
  generalize inferF op nums s = I at *
  generalize wellF nums k2 = W at *
  generalize s.all checkS = C at *
  have hE : (s.length : Int) = k1 ∨ (s.length : Int) ≠ k1 := Classical.em _
  rcases hzz with ⟨rfl, rfl⟩ | ⟨rfl, rfl⟩ | ⟨rfl, rfl⟩
  all_goals
    refine go trivial trivial ?_
    apply T_drO fw (by rw [hP]; rfl)
    · simp only [go_sem, seval, reduceIte, ↓reduceIte, bne, beq_false, beq_true, Bool.not_eq_true, Bool.if_true_right, decide_not, reduceCtorEq, hP, hn]
      refine .inl ⟨_, ⟨_, _, _, _, _, _, rfl, rfl, rfl, ka⟩, ?_⟩
      simp only [go_sem, seval, reduceIte, ↓reduceIte, bne, beq_false, beq_true, Bool.not_eq_true, Bool.if_true_right, decide_not, reduceCtorEq, hP, hn]
      exact rfl
  all_goals
    rcases hE with h1 | h1
    rotate_left
    · rw [hF1 h1]
      have e1 := bne_iff_ne.2 h1
      clear hF1 hF2 hF3 hF4 kF kG kR hfind
      refine go e1 ka ?_
      exact ends_ret rfl rfl rfl rfl
    have e1 := bne_eq_false_iff_eq.2 h1
    cases W
    · rw [hF2 h1 rfl]
      clear hF1 hF2 hF3 hF4 kF kR hfind
      refine go e1 (aa ka kG) ?_
      exact ends_ret rfl rfl rfl rfl
    cases C
    · rw [hF3 rfl]
      clear hF1 hF2 hF3 hF4 kR hfind
      refine go e1 (aa ka <| aa kG kF) ?_
      exact ends_ret rfl rfl rfl rfl
    obtain ⟨⟨f, caps, hlk, kW⟩, hF⟩ := hF4 h1 rfl rfl
    rw [hlk, Option.map_some] at hfind
    rw [hF]
    clear hF1 hF2 hF3 hF4 hF hlk
    generalize ruleF op s nums = R at *
    obtain ⟨R1, R2⟩ := R
    simp only at kW ⊢
    cases R2
    · refine go (aa e1 hfind) (aa ka <| aa kG <| aa kF <| aa kR kW) ?_
      exact ends_ret rfl rfl rfl rfl
    · refine go (aa e1 hfind) (aa ka <| aa kG <| aa kF <| aa kR kW) ?_
      exact ends_ret rfl rfl rfl rfl
end Go.AM

namespace Go.AM
open Go Go.Proofs
set_option maxRecDepth 100000
set_option maxHeartbeats 4000000

abbrev dTold (r : Tn × Int) : DV := .agg [eI r.1.1, eI r.1.2, .int .i64 r.2]
theorem p_eval_of (r : Tn × Int) : PureC Tryz.prog fi_eval_of_api_Tensor [dT r.1.1 r.1.2, dN r.2] (dTold r) := by
  refine pure_eval_of_api_Tensor (by simp) fun G hP hn => ?_
  refine go trivial trivial ?_
  exact ends_ret rfl rfl rfl rfl
theorem p_eval_matmul (s d t e : List Int) (l : List Tn) (nums : List Int) (hd : I64s d) (he : I64s e) : PureC Tryz.prog fi_eval_rules_1 [dTs ((s, d) :: (t, e) :: l), dI nums] (dTold (mulF s d t e)) := by
  refine pure_eval_rules_1 (by simp) fun G hP hn => ?_
  have km := p_matmul_Mul s d t e hd he
  generalize mulF s d t e = R at *
  have ko := p_eval_of R
  refine go trivial (aa km ko) ?_
  exact ends_ret rfl rfl rfl rfl
theorem p_eval_reshape (s d : List Int) (l : List Tn) (nums : List Int) : PureC Tryz.prog fi_eval_rules_2 [dTs ((s, d) :: l), dI nums] (dTold (reshapeF s d nums)) := by
  refine pure_eval_rules_2 (by simp) fun G hP hn => ?_
  have km := p_move_Reshape s d nums
  generalize reshapeF s d nums = R at *
  have ko := p_eval_of R
  refine go trivial (aa km ko) ?_
  exact ends_ret rfl rfl rfl rfl
theorem p_eval_turn (s d : List Int) (l : List Tn) (nums : List Int) : PureC Tryz.prog fi_eval_rules_3 [dTs ((s, d) :: l), dI nums] (dTold (turnF s d)) := by
  refine pure_eval_rules_3 (by simp) fun G hP hn => ?_
  have km := p_move_Turn s d
  generalize turnF s d = R at *
  have ko := p_eval_of R
  refine go trivial (aa km ko) ?_
  exact ends_ret rfl rfl rfl rfl
theorem p_eval_slice (s d : List Int) (l : List Tn) (a f t : Int) : PureC Tryz.prog fi_eval_rules_4 [dTs ((s, d) :: l), dI [a, f, t]] (dTold (sliceF s d a f t)) := by
  refine pure_eval_rules_4 (by simp) fun G hP hn => ?_
  have km := p_move_Slice s d a f t
  generalize sliceF s d a f t = R at *
  have ko := p_eval_of R
  refine go trivial (aa km ko) ?_
  exact ends_ret rfl rfl rfl rfl
theorem p_eval_join (s d t e : List Int) (l : List Tn) (a : Int) (r : List Int) : PureC Tryz.prog fi_eval_rules_5 [dTs ((s, d) :: (t, e) :: l), dI (a :: r)] (dTold (joinF s d t e a)) := by
  refine pure_eval_rules_5 (by simp) fun G hP hn => ?_
  have km := p_move_Join s d t e a
  generalize joinF s d t e a = R at *
  have ko := p_eval_of R
  refine go trivial (aa km ko) ?_
  exact ends_ret rfl rfl rfl rfl
theorem p_eval_side_1 {f : FuncId} {R : Tn × Int} (s d : List Int) (l : List Tn) (a : Int) (r : List Int) (hf : PureC Tryz.prog f [dT s d, dN a] (dTE R)) : PureC Tryz.prog fi_eval_side_1 [dTs ((s, d) :: l), dI (a :: r), .one (.box [.fn f [] []])] (dTold R) := by
  refine pure_eval_side_1 (by simp) fun G hP hn => ?_
  have ko := p_eval_of R
  refine go trivial (aa hf ko) ?_
  exact ends_ret rfl rfl rfl rfl
theorem p_eval_two_1 {op : Int} {R : Tn × Int} (s d t e : List Int) (l : List Tn) (nums : List Int) (hf : PureC Tryz.prog fi_elem_Two [dN op, dT s d, dT t e] (dTE R)) : PureC Tryz.prog fi_eval_two_1 [dTs ((s, d) :: (t, e) :: l), dI nums, .one (.box [.int .i64 op])] (dTold R) := by
  refine pure_eval_two_1 (by simp) fun G hP hn => ?_
  have ko := p_eval_of R
  refine go trivial (aa hf ko) ?_
  exact ends_ret rfl rfl rfl rfl
theorem p_eval_one_1 {op : Int} {R : Tn × Int} (s d : List Int) (l : List Tn) (nums : List Int) (hf : PureC Tryz.prog fi_elem_One [dN op, dT s d] (dTE R)) : PureC Tryz.prog fi_eval_one_1 [dTs ((s, d) :: l), dI nums, .one (.box [.int .i64 op])] (dTold R) := by
  refine pure_eval_one_1 (by simp) fun G hP hn => ?_
  have ko := p_eval_of R
  refine go trivial (aa hf ko) ?_
  exact ends_ret rfl rfl rfl rfl
theorem p_eval_given (t : Tn) (z : List Int) : PureC Tryz.prog fi_eval_given [dT t.1 t.2, dI z] (dTE (givenF t z)) := by
  refine pure_eval_given (by simp) fun G hP hn => ?_
  obtain ⟨s, d⟩ := t
  have kt := p_tensor_Check s d
  have ke := p_slices_Equal s z
  unfold givenF
  simp only
  cases h1 : checkT s d
  · rw [h1] at kt
    rw [if_neg (by simp)]
    refine go trivial kt ?_
    exact ends_ret rfl rfl rfl rfl
  rw [h1] at kt
  cases h2 : sameL s z
  · rw [h2] at ke
    rw [if_neg (by simp)]
    refine go trivial (aa kt ke) ?_
    exact ends_ret rfl rfl rfl rfl
  rw [h2] at ke
  rw [if_pos ⟨rfl, rfl⟩]
  have hok := (checkT_iff.1 h1).1
  have hs := check_len (checkS_iff.2 hok)
  have hz : d.length ≤ 64 := by have := (checkT_iff.1 h1).2; have := hok.2.2; omega
  have k1 := p_slices_Clone s (by omega)
  have k2 := p_slices_Clone d (by omega)
  refine go trivial (aa kt <| aa ke <| aa k1 k2) ?_
  exact ends_ret rfl rfl rfl rfl
abbrev esV (f : FuncId) : PV := .fn fi_eval_side_1 [] [.box [.fn f [] []]]
abbrev etV (op : Int) : PV := .fn fi_eval_two_1 [] [.box [.int .i64 op]]
abbrev eoV (op : Int) : PV := .fn fi_eval_one_1 [] [.box [.int .i64 op]]
def evL : List (Int × PV) := [(30, .fn fi_eval_rules_1 [] []), (40, .fn fi_eval_rules_2 [] []), (41, .fn fi_eval_rules_3 [] []), (42, .fn fi_eval_rules_4 [] []), (43, .fn fi_eval_rules_5 [] []), (50, esV fi_reduce_Sum), (51, esV fi_reduce_Mean), (52, esV fi_reduce_Max),
  (10, etV 10), (11, etV 11), (12, etV 12), (13, etV 13), (20, eoV 20), (21, eoV 21), (22, eoV 22), (23, eoV 23)]
def evE (l : List (Int × PV)) : List (Int × Bool × List PV) := l.map fun p => (p.1, false, [p.2])
theorem find_evE (op : Int) (l : List (Int × PV)) : findE op (evE l) = (lkI op l).map fun v => (false, [v]) := find_map (fun v : PV => (false, [v])) op l
theorem p_eval_side (f : FuncId) : PureC Tryz.prog fi_eval_side [.one (.fn f [] [])] (.one (esV f)) := by
  refine pure_eval_side (by simp) fun G hP hn => ?_
  refine go trivial trivial ?_
  exact ends_ret rfl rfl rfl rfl
theorem p_eval_two (op : Int) : PureC Tryz.prog fi_eval_two [dN op] (.one (etV op)) := by
  refine pure_eval_two (by simp) fun G hP hn => ?_
  refine go trivial trivial ?_
  exact ends_ret rfl rfl rfl rfl
theorem p_eval_one (op : Int) : PureC Tryz.prog fi_eval_one [dN op] (.one (eoV op)) := by
  refine pure_eval_one (by simp) fun G hP hn => ?_
  refine go trivial trivial ?_
  exact ends_ret rfl rfl rfl rfl
theorem p_eval_rules : PureC Tryz.prog fi_eval_rules [] (.one (.map (evE evL))) := by
  refine pure_eval_rules (by simp) fun G hP hn => ?_
  have k1 := p_eval_side fi_reduce_Sum
  have k2 := p_eval_side fi_reduce_Mean
  have k3 := p_eval_side fi_reduce_Max
  have kt := p_eval_two
  have ko := p_eval_one
  refine go trivial (aa k1 <| aa k2 k3) ?_
  refine T_for 4 (fun i (_ : Unit) => { env := [(1, .one (.mmap 6)), (11, .one (.msl 11 0 1 4 none)), (12, .one (.p (.int .i64 4))), (13, .one (.p (.int .i64 i)))], σ := [(6, .map true (evE (evL.take (8 + i)))), (11, .arr true 1 (rI [10, 11, 12, 13]))] })
    (fun _ _ => True) () trivial ?_ fun i _ hi _ => ?_
  · refine Weak.sub fun q hq => ?_
    simp only [List.mem_cons, List.not_mem_nil, or_false] at hq
    rcases hq with rfl | rfl <;> rfl
  by_cases h4 : i < 4
  · have hc : i = 0 ∨ i = 1 ∨ i = 2 ∨ i = 3 := by omega
    have q10 := kt 10
    have q11 := kt 11
    have q12 := kt 12
    have q13 := kt 13
    rcases hc with rfl | rfl | rfl | rfl
    all_goals
      refine go trivial (aa q10 <| aa q11 <| aa q12 q13) ?_
      refine rnd_next h4 () trivial (Weak.sub fun q hq => ?_)
      simp only [List.mem_cons, List.not_mem_nil, or_false] at hq
      rcases hq with rfl | rfl <;> rfl
  obtain rfl : i = 4 := by omega
  refine go trivial trivial ?_
  refine T_for 4 (fun i (_ : Unit) => { env := [(1, .one (.mmap 6)), (22, .one (.msl 22 0 1 4 none)), (23, .one (.p (.int .i64 4))), (24, .one (.p (.int .i64 i)))], σ := [(6, .map true (evE (evL.take (12 + i)))), (22, .arr true 1 (rI [20, 21, 22, 23]))] })
    (fun _ _ => True) () trivial ?_ fun i _ hi _ => ?_
  · refine Weak.sub fun q hq => ?_
    simp only [List.mem_cons, List.not_mem_nil, or_false] at hq
    rcases hq with rfl | rfl <;> rfl
  by_cases h5 : i < 4
  · have hc : i = 0 ∨ i = 1 ∨ i = 2 ∨ i = 3 := by omega
    have q20 := ko 20
    have q21 := ko 21
    have q22 := ko 22
    have q23 := ko 23
    rcases hc with rfl | rfl | rfl | rfl
    all_goals
      refine go trivial (aa q20 <| aa q21 <| aa q22 q23) ?_
      refine rnd_next h5 () trivial (Weak.sub fun q hq => ?_)
      simp only [List.mem_cons, List.not_mem_nil, or_false] at hq
      rcases hq with rfl | rfl <;> rfl
  obtain rfl : i = 4 := by omega
  refine go trivial trivial ?_
  exact ends_ret rfl rfl rfl rfl
end Go.AM

namespace Go.AM
open Go Go.Proofs
set_option maxRecDepth 100000
set_option maxHeartbeats 8000000

theorem eval_rule {op : Int} {k : Int × Int} {t : List Tn} {nums : List Int} (hk : kindF op = some k) (h1 : op ≠ 1) (h2 : op ≠ 2) (h3 : op ≠ 3) (hl : (t.length : Int) = k.1) (hw : wellF nums k.2 = true) (ht : ∀ x ∈ t, I64s x.2) :
    ∃ f caps, lkI op evL = some (.fn f [] caps) ∧ PureC Tryz.prog f ([dTs t, dI nums] ++ caps.map .one) (dTold (evF op t nums)) := by
  have hc := kind_cases hk
  simp only [List.mem_cons, Prod.mk.injEq, List.not_mem_nil, or_false] at hc
  have one : k.1 = 1 → ∃ s d, t = [(s, d)] ∧ I64s d := fun h => by
    have : t.length = 1 := by omega
    match t, this, ht with
    | [(s, d)], _, ht => exact ⟨s, d, rfl, ht (s, d) (by simp)⟩
  have two : k.1 = 2 → ∃ s d u e, t = [(s, d), (u, e)] ∧ I64s d ∧ I64s e := fun h => by
    have : t.length = 2 := by omega
    match t, this, ht with
    | [(s, d), (u, e)], _, ht => exact ⟨s, d, u, e, rfl, ht (s, d) (by simp), ht (u, e) (by simp)⟩
  have num : ∀ m : Int, k.2 = m → m ≠ -2 → m ≠ -1 → (nums.length : Int) = m := fun m h h1 h2 => by
    rw [h] at hw; unfold wellF at hw; rw [if_neg h1, if_neg h2] at hw; simpa using hw
  rcases hc with ⟨rfl, rfl⟩ | ⟨rfl, rfl⟩ | ⟨rfl, rfl⟩ | ⟨rfl, rfl⟩ | ⟨rfl, rfl⟩ | ⟨rfl, rfl⟩ | ⟨rfl, rfl⟩ | ⟨rfl, rfl⟩ | ⟨rfl, rfl⟩ | ⟨rfl, rfl⟩ | ⟨rfl, rfl⟩ | ⟨rfl, rfl⟩ | ⟨rfl, rfl⟩ | ⟨rfl, rfl⟩ | ⟨rfl, rfl⟩ | ⟨rfl, rfl⟩ | ⟨rfl, rfl⟩ | ⟨rfl, rfl⟩ | ⟨rfl, rfl⟩
  · exact absurd rfl h1
  · exact absurd rfl h2
  · exact absurd rfl h3
  · obtain ⟨s, d, u, e, rfl, hd, he⟩ := two rfl
    exact ⟨_, _, rfl, p_eval_two_1 s d u e [] nums (k_Add hd he)⟩
  · obtain ⟨s, d, u, e, rfl, hd, he⟩ := two rfl
    exact ⟨_, _, rfl, p_eval_two_1 s d u e [] nums (k_Sub hd he)⟩
  · obtain ⟨s, d, u, e, rfl, hd, he⟩ := two rfl
    exact ⟨_, _, rfl, p_eval_two_1 s d u e [] nums (k_Mul hd he)⟩
  · obtain ⟨s, d, u, e, rfl, hd, he⟩ := two rfl
    exact ⟨_, _, rfl, p_eval_two_1 s d u e [] nums (k_Div hd he)⟩
  · obtain ⟨s, d, rfl, hd⟩ := one rfl
    exact ⟨_, _, rfl, p_eval_one_1 s d [] nums (k_Neg hd)⟩
  · obtain ⟨s, d, rfl, hd⟩ := one rfl
    exact ⟨_, _, rfl, p_eval_one_1 s d [] nums (k_Relu hd)⟩
  · obtain ⟨s, d, rfl, hd⟩ := one rfl
    exact ⟨_, _, rfl, p_eval_one_1 s d [] nums (k_Pow hd)⟩
  · obtain ⟨s, d, rfl, hd⟩ := one rfl
    exact ⟨_, _, rfl, p_eval_one_1 s d [] nums (k_Sqrt hd)⟩
  · obtain ⟨s, d, u, e, rfl, hd, he⟩ := two rfl
    exact ⟨_, _, rfl, p_eval_matmul s d u e [] nums hd he⟩
  · obtain ⟨s, d, rfl, hd⟩ := one rfl
    exact ⟨_, _, rfl, p_eval_reshape s d [] nums⟩
  · obtain ⟨s, d, rfl, hd⟩ := one rfl
    exact ⟨_, _, rfl, p_eval_turn s d [] nums⟩
  · obtain ⟨s, d, rfl, hd⟩ := one rfl
    have h3 := num 3 rfl (by decide) (by decide)
    obtain ⟨p, f, u, rfl⟩ : ∃ p f u, nums = [p, f, u] := match nums, h3 with | [p, f, u], _ => ⟨p, f, u, rfl⟩
    exact ⟨_, _, rfl, p_eval_slice s d [] p f u⟩
  · obtain ⟨s, d, u, e, rfl, hd, he⟩ := two rfl
    have h3 := num 1 rfl (by decide) (by decide)
    obtain ⟨p, rfl⟩ : ∃ p, nums = [p] := match nums, h3 with | [p], _ => ⟨p, rfl⟩
    exact ⟨_, _, rfl, p_eval_join s d u e [] p []⟩
  · obtain ⟨s, d, rfl, hd⟩ := one rfl
    have h3 := num 1 rfl (by decide) (by decide)
    obtain ⟨p, rfl⟩ : ∃ p, nums = [p] := match nums, h3 with | [p], _ => ⟨p, rfl⟩
    exact ⟨_, _, rfl, p_eval_side_1 s d [] p [] (p_reduce_Sum s d p hd)⟩
  · obtain ⟨s, d, rfl, hd⟩ := one rfl
    have h3 := num 1 rfl (by decide) (by decide)
    obtain ⟨p, rfl⟩ : ∃ p, nums = [p] := match nums, h3 with | [p], _ => ⟨p, rfl⟩
    exact ⟨_, _, rfl, p_eval_side_1 s d [] p [] (p_reduce_Mean s d p hd)⟩
  · obtain ⟨s, d, rfl, hd⟩ := one rfl
    have h3 := num 1 rfl (by decide) (by decide)
    obtain ⟨p, rfl⟩ : ∃ p, nums = [p] := match nums, h3 with | [p], _ => ⟨p, rfl⟩
    exact ⟨_, _, rfl, p_eval_side_1 s d [] p [] (p_reduce_Max s d p hd)⟩
end Go.AM

