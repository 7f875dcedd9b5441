import Derived.Test.YtbbjlecedaamcaaMs23
set_option linter.unusedVariables false
set_option linter.unusedSimpArgs false
namespace Go.AM
open Go Go.Proofs
set_option maxRecDepth 100000

abbrev Tn := List Int × List Int
def gT (ps : List Tn) (p : Nat) : Tn := (ps[p]?).getD ([], [])
def clipI (c n : Int) : Int := min (max n (0 - c)) c
def slopeF (k m c : Int) (v g : Tn) : Tn × Int :=
  if k = 1 then (g, 0) else if k = 2 then
    (if (twoF fMul v.1 v.2 [] [m]).2 = 0 then twoF fAdd (twoF fMul v.1 v.2 [] [m]).1.1 (twoF fMul v.1 v.2 [] [m]).1.2 g.1 g.2 else bad (twoF fMul v.1 v.2 [] [m]).2)
  else ((g.1, g.2.map (clipI c)), 0)
def hasT (ps : List Tn) (p : Nat) (s : List Int) : Bool := decide (p < ps.length) && (checkT (gT ps p).1 (gT ps p).2 && sameL (gT ps p).1 s)
def okF (k : Int) (ps gs : List Tn) (p : Nat) : Bool := hasT ps p (gT ps p).1 && (hasT gs p (gT ps p).1 && (decide (k ≠ 2) || hasT ps (p + 4) (gT ps p).1))
def stepF (k r m c : Int) (ps gs : List Tn) (p : Nat) : (Tn × Tn) × Int :=
  if okF k ps gs p = true then
    (if (slopeF k m c (gT ps (p + 4)) (gT gs p)).2 = 0 then
      (if (twoF fMul (slopeF k m c (gT ps (p + 4)) (gT gs p)).1.1 (slopeF k m c (gT ps (p + 4)) (gT gs p)).1.2 [] [r]).2 = 0 then
        (if (twoF fSub (gT ps p).1 (gT ps p).2 (twoF fMul (slopeF k m c (gT ps (p + 4)) (gT gs p)).1.1 (slopeF k m c (gT ps (p + 4)) (gT gs p)).1.2 [] [r]).1.1 (twoF fMul (slopeF k m c (gT ps (p + 4)) (gT gs p)).1.1 (slopeF k m c (gT ps (p + 4)) (gT gs p)).1.2 [] [r]).1.2).2 = 0 then
          (((twoF fSub (gT ps p).1 (gT ps p).2 (twoF fMul (slopeF k m c (gT ps (p + 4)) (gT gs p)).1.1 (slopeF k m c (gT ps (p + 4)) (gT gs p)).1.2 [] [r]).1.1 (twoF fMul (slopeF k m c (gT ps (p + 4)) (gT gs p)).1.1 (slopeF k m c (gT ps (p + 4)) (gT gs p)).1.2 [] [r]).1.2).1, (slopeF k m c (gT ps (p + 4)) (gT gs p)).1), 0)
        else ((([], []), ([], [])), (twoF fSub (gT ps p).1 (gT ps p).2 (twoF fMul (slopeF k m c (gT ps (p + 4)) (gT gs p)).1.1 (slopeF k m c (gT ps (p + 4)) (gT gs p)).1.2 [] [r]).1.1 (twoF fMul (slopeF k m c (gT ps (p + 4)) (gT gs p)).1.1 (slopeF k m c (gT ps (p + 4)) (gT gs p)).1.2 [] [r]).1.2).2))
      else ((([], []), ([], [])), (twoF fMul (slopeF k m c (gT ps (p + 4)) (gT gs p)).1.1 (slopeF k m c (gT ps (p + 4)) (gT gs p)).1.2 [] [r]).2))
    else ((([], []), ([], [])), (slopeF k m c (gT ps (p + 4)) (gT gs p)).2))
  else ((([], []), ([], [])), 130)
def manyF (k c : Int) : Int := if c < 0 then -1 else if k = 1 then 8 else if k = 2 then 4 else if k = 3 then 8 else -1
def mayL (many : Int) : List Int → Int → Bool
  | [], _ => decide (many ≥ 0)
  | p :: r, last => if p ≤ last ∨ p ≥ many then false else mayL many r p
def readsF (k c : Int) (names : List Int) : List Int × Int := if mayL (manyF k c) names (-1) = true then ((if k = 2 then names ++ names.map (· + 4) else names), 0) else ([], 1)
abbrev Wr := Int × Tn
def writesL (f : Nat → (Tn × Tn) × Int) (kp : Bool) : List Int → List Wr → List Wr → List Wr × Int
  | [], out, more => (out ++ more, 0)
  | p :: r, out, more => if (f p.toNat).2 = 0 then writesL f kp r (out ++ [(p, (f p.toNat).1.1)]) (if kp then more ++ [(p + 4, (f p.toNat).1.2)] else more) else ([], (f p.toNat).2)
def writesF (k r m c : Int) (names : List Int) (ps gs : List Tn) : List Wr × Int :=
  if mayL (manyF k c) names (-1) = true then writesL (stepF k r m c ps gs) (decide (k = 2)) names [] [] else ([], 1)
theorem writesL_ok {f : Nat → (Tn × Tn) × Int} {kp : Bool} : ∀ {names : List Int} {out more : List Wr}, (∀ p ∈ names, (f p.toNat).2 = 0) →
    writesL f kp names out more = (out ++ names.map (fun p => (p, (f p.toNat).1.1)) ++ (more ++ if kp then names.map (fun p => (p + 4, (f p.toNat).1.2)) else []), 0)
  | [], out, more, _ => by simp [writesL]
  | p :: r, out, more, h => by
    simp only [writesL]
    rw [if_pos (h p (by simp)), writesL_ok fun q hq => h q (by simp [hq])]
    cases kp <;> simp
theorem writesL_inv {f : Nat → (Tn × Tn) × Int} {kp : Bool} : ∀ {names : List Int} {out more : List Wr}, (writesL f kp names out more).2 = 0 → ∀ p ∈ names, (f p.toNat).2 = 0
  | [], _, _, _, p, hp => by simp at hp
  | q :: r, out, more, h, p, hp => by
    simp only [writesL] at h
    split at h
    · rename_i h0
      rcases List.mem_cons.1 hp with rfl | hp
      · exact h0
      · exact writesL_inv h p hp
    · rename_i h0; exact absurd h h0
theorem writesL_bad {f : Nat → (Tn × Tn) × Int} {kp : Bool} : ∀ {names : List Int} {out more : List Wr}, (writesL f kp names out more).2 ≠ 0 → (writesL f kp names out more).1 = []
  | [], _, _, h => by simp [writesL] at h
  | q :: r, out, more, h => by
    simp only [writesL] at h ⊢
    split
    · rename_i h0
      rw [if_pos h0] at h
      exact writesL_bad h
    · rfl
theorem writesF_bad {k r m c : Int} {names : List Int} {ps gs : List Tn} (h : (writesF k r m c names ps gs).2 ≠ 0) : (writesF k r m c names ps gs).1 = [] := by
  unfold writesF at h ⊢
  split
  · rename_i hm; rw [if_pos hm] at h; exact writesL_bad h
  · rfl
theorem mayL_inv {many : Int} : ∀ {names : List Int} {last : Int}, mayL many names last = true → ∀ p ∈ names, last < p ∧ p < many
  | [], _, _, p, hp => by simp at hp
  | q :: r, last, h, p, hp => by
    simp only [mayL] at h
    split at h
    · cases h
    · rename_i hq
      rcases List.mem_cons.1 hp with rfl | hp
      · omega
      · have := mayL_inv h p hp; omega
theorem mayL_many {many : Int} : ∀ {names : List Int} {last : Int}, -1 ≤ last → mayL many names last = true → many ≥ 0
  | [], _, _, h => by simpa [mayL] using h
  | q :: r, last, hl, h => by
    simp only [mayL] at h
    split at h
    · cases h
    · omega
theorem manyF_le (k c : Int) : manyF k c ≤ 8 := by unfold manyF; repeat' split <;> omega
theorem writes_each {k r m c : Int} {names : List Int} {ps gs : List Tn} (h : (writesF k r m c names ps gs).2 = 0) :
    (∀ p ∈ names, writesF k r m c [p] ps gs = ([(p, (stepF k r m c ps gs p.toNat).1.1)] ++ (if k = 2 then [(p + 4, (stepF k r m c ps gs p.toNat).1.2)] else []), 0)) ∧
    writesF k r m c names ps gs = (names.map (fun p => (p, (stepF k r m c ps gs p.toNat).1.1)) ++ (if k = 2 then names.map (fun p => (p + 4, (stepF k r m c ps gs p.toNat).1.2)) else []), 0) := by
  unfold writesF at h ⊢
  split at h
  · rename_i hm
    have hi := writesL_inv h
    have hp := mayL_inv hm
    refine ⟨fun p hpn => ?_, ?_⟩
    · have h1 := hp p hpn
      have hm1 : mayL (manyF k c) [p] (-1) = true := by
        simp only [mayL]
        rw [if_neg (by omega)]
        have := mayL_many (by omega) hm
        simpa using this
      rw [if_pos hm1, writesL_ok (fun q hq => by simp at hq; subst hq; exact hi _ hpn)]
      by_cases h2 : k = 2 <;> simp [h2]
    · rw [if_pos hm, writesL_ok hi]
      by_cases h2 : k = 2 <;> simp [h2]
  · cases h
theorem writes_one {k r m c : Int} {p : Int} {ps gs : List Tn} (h : (writesF k r m c [p] ps gs).2 = 0) :
    writesF k r m c [p] ps gs = ([(p, (stepF k r m c ps gs p.toNat).1.1)] ++ (if k = 2 then [(p + 4, (stepF k r m c ps gs p.toNat).1.2)] else []), 0) := (writes_each h).1 p (by simp)
theorem two_num {W : Int → Int → Int × Int} {s d : List Int} {x : Int} (hc : checkT s d = true) (h : (twoF W s d [] [x]).2 = 0) : ∃ e, twoF W s d [] [x] = ((s, e), 0) ∧ checkT s e = true := by
  obtain ⟨_, _, q, hj, _, he⟩ := two_inv h
  obtain rfl := hj.uniq (JoinOk.nil (checkT_iff.1 hc).1).comm
  exact ⟨_, he, mk_check (checkT_iff.1 hc).1 _⟩
theorem two_same {W : Int → Int → Int × Int} {s d e : List Int} (hc : checkT s d = true) (h : (twoF W s d s e).2 = 0) : ∃ f, twoF W s d s e = ((s, f), 0) ∧ checkT s f = true := by
  obtain ⟨_, _, q, hj, _, he⟩ := two_inv h
  obtain rfl := hj.uniq (JoinOk.self (checkT_iff.1 hc).1)
  exact ⟨_, he, mk_check (checkT_iff.1 hc).1 _⟩
theorem hasT_iff {ps : List Tn} {p : Nat} {s : List Int} : hasT ps p s = true ↔ p < ps.length ∧ checkT (gT ps p).1 (gT ps p).2 = true ∧ (gT ps p).1 = s := by
  unfold hasT
  rw [Bool.and_eq_true, Bool.and_eq_true, decide_eq_true_eq, sameL_iff]
theorem slope_ok {k m c : Int} {v g : Tn} (hg : checkT g.1 g.2 = true) (hv : k = 2 → checkT v.1 v.2 = true ∧ v.1 = g.1) (h : (slopeF k m c v g).2 = 0) : (slopeF k m c v g).1.1 = g.1 ∧ checkT g.1 (slopeF k m c v g).1.2 = true := by
  unfold slopeF at h ⊢
  by_cases h1 : k = 1
  · rw [if_pos h1]; exact ⟨rfl, hg⟩
  rw [if_neg h1] at h ⊢
  by_cases h2 : k = 2
  · rw [if_pos h2] at h ⊢
    obtain ⟨hvc, hvs⟩ := hv h2
    split at h
    · rename_i h3
      rw [if_pos h3]
      obtain ⟨e, he, hce⟩ := two_num hvc h3
      rw [he] at h ⊢
      simp only at h ⊢
      rw [hvs] at hce h ⊢
      obtain ⟨f, hf, hcf⟩ := two_same hce h
      rw [hf]; exact ⟨rfl, hcf⟩
    · rename_i h3; exact absurd h (by simpa [bad] using h3)
  · rw [if_neg h2]
    obtain ⟨q1, q2⟩ := checkT_iff.1 hg
    exact ⟨rfl, checkT_iff.2 ⟨q1, by simpa using q2⟩⟩
theorem step_ok {k r m c : Int} {ps gs : List Tn} {p : Nat} (h : (stepF k r m c ps gs p).2 = 0) :
    okF k ps gs p = true ∧ (stepF k r m c ps gs p).1.1.1 = (gT ps p).1 ∧ (stepF k r m c ps gs p).1.1.2.length = (gT ps p).2.length ∧ p < ps.length ∧
    (k = 2 → p + 4 < ps.length ∧ (stepF k r m c ps gs p).1.2.1 = (gT ps (p + 4)).1 ∧ (stepF k r m c ps gs p).1.2.2.length = (gT ps (p + 4)).2.length) := by
  unfold stepF at h ⊢
  split at h
  · rename_i hok
    rw [if_pos hok]
    refine ⟨hok, ?_⟩
    unfold okF at hok
    rw [Bool.and_eq_true, Bool.and_eq_true, hasT_iff, hasT_iff, Bool.or_eq_true, decide_eq_true_eq, hasT_iff] at hok
    obtain ⟨⟨a1, a2, _⟩, ⟨b1, b2, b3⟩, hk⟩ := hok
    split at h
    · rename_i h1
      rw [if_pos h1]
      have hk2 : k = 2 → checkT (gT ps (p + 4)).1 (gT ps (p + 4)).2 = true ∧ (gT ps (p + 4)).1 = (gT gs p).1 := fun e => by
        rcases hk with hk | ⟨_, h2, h3⟩
        · exact absurd e hk
        · exact ⟨h2, by rw [h3, b3]⟩
      obtain ⟨s1, s2⟩ := slope_ok (m := m) (c := c) b2 hk2 h1
      generalize slopeF k m c (gT ps (p + 4)) (gT gs p) = g at *
      rw [s1] at h ⊢
      split at h
      · rename_i h3
        rw [if_pos h3]
        obtain ⟨e, he, hce⟩ := two_num s2 h3
        rw [he] at h ⊢
        simp only at h ⊢
        rw [b3] at hce h ⊢
        split at h
        · rename_i h4
          rw [if_pos h4]
          obtain ⟨f, hf, hcf⟩ := two_same a2 h4
          rw [hf]
          have l1 := (checkT_iff.1 hcf).2
          have l2 := (checkT_iff.1 a2).2
          refine ⟨rfl, by simp only; omega, a1, fun e2 => ?_⟩
          rcases hk with hk | ⟨k1, k2, k3⟩
          · exact absurd e2 hk
          · have l3 := (checkT_iff.1 s2).2
            have l4 := (checkT_iff.1 k2).2
            rw [k3] at l4
            rw [b3] at l3
            exact ⟨k1, by rw [k3, s1, b3], by show g.1.2.length = (gT ps (p + 4)).2.length; omega⟩
        · rename_i h4; exact absurd h h4
      · rename_i h3; exact absurd h h3
    · rename_i h1; exact absurd h h1
  · simp at h
theorem step_congr {k r m c : Int} {ps qs gs : List Tn} {p : Nat} (hl : ps.length = qs.length) (h1 : gT qs p = gT ps p) (h2 : k = 2 → gT qs (p + 4) = gT ps (p + 4)) : stepF k r m c qs gs p = stepF k r m c ps gs p := by
  by_cases hk : k = 2
  · unfold stepF okF hasT
    rw [h1, h2 hk, hl]
  · have hs : ∀ v v' g, slopeF k m c v g = slopeF k m c v' g := fun v v' g => by
      unfold slopeF
      split
      · rfl
      · rfl
    unfold stepF okF hasT
    rw [h1, hl, hs (gT qs (p + 4)) (gT ps (p + 4))]
    simp [hk]
theorem writesL_congr {f f' : Nat → (Tn × Tn) × Int} {kp : Bool} : ∀ {names : List Int} {out more : List Wr}, (∀ p ∈ names, f p.toNat = f' p.toNat) → writesL f kp names out more = writesL f' kp names out more
  | [], _, _, _ => rfl
  | q :: r, out, more, h => by
    simp only [writesL]
    rw [h q (by simp)]
    split
    · exact writesL_congr fun p hp => h p (by simp [hp])
    · rfl
theorem writes_reads {k r m c : Int} {names : List Int} {ps gs : List Tn} (h : (writesF k r m c names ps gs).2 = 0) :
    (readsF k c names).2 = 0 ∧ (writesF k r m c names ps gs).1.map Prod.fst = (readsF k c names).1 ∧
    (∀ w ∈ (writesF k r m c names ps gs).1, 0 ≤ w.1 ∧ w.1 < ps.length ∧ w.2.1 = (gT ps w.1.toNat).1 ∧ w.2.2.length = (gT ps w.1.toNat).2.length) ∧
    ∀ qs : List Tn, qs.length = ps.length → (∀ p ∈ (readsF k c names).1, gT qs p.toNat = gT ps p.toNat) → writesF k r m c names qs gs = writesF k r m c names ps gs := by
  have hm : mayL (manyF k c) names (-1) = true := by
    unfold writesF at h
    split at h
    · assumption
    · cases h
  have hi : ∀ p ∈ names, (stepF k r m c ps gs p.toNat).2 = 0 := by
    unfold writesF at h
    rw [if_pos hm] at h
    exact writesL_inv h
  have hw := (writes_each h).2
  have hr : readsF k c names = ((if k = 2 then names ++ names.map (· + 4) else names), 0) := by unfold readsF; rw [if_pos hm]
  have hp := mayL_inv hm
  rw [hr, hw]
  refine ⟨rfl, ?_, ?_, fun qs hl hq => ?_⟩
  · by_cases h2 : k = 2
    · simp only [h2, if_true, List.map_append, List.map_map]
      congr 1
      exact List.map_id' _
    · simp only [h2, if_false, List.append_nil, List.map_map]
      exact List.map_id' _
  · intro w hwm
    rcases List.mem_append.1 hwm with hwm | hwm
    · obtain ⟨p, hpn, rfl⟩ := List.mem_map.1 hwm
      have h1 := hp p hpn
      obtain ⟨_, s1, s2, s3, _⟩ := step_ok (hi p hpn)
      exact ⟨by simp only; omega, by simp only; omega, s1, s2⟩
    · by_cases h2 : k = 2
      · rw [if_pos h2] at hwm
        obtain ⟨p, hpn, rfl⟩ := List.mem_map.1 hwm
        have h1 := hp p hpn
        obtain ⟨_, _, _, _, s4⟩ := step_ok (hi p hpn)
        obtain ⟨t1, t2, t3⟩ := s4 h2
        have e : (p + 4).toNat = p.toNat + 4 := by omega
        refine ⟨by simp only; omega, by simp only; omega, ?_, ?_⟩
        · simp only [e]; exact t2
        · simp only [e]; exact t3
      · rw [if_neg h2] at hwm; simp at hwm
  · rw [← hw]
    unfold writesF
    rw [if_pos hm, if_pos hm]
    refine writesL_congr fun p hpn => step_congr hl.symm ?_ fun h2 => ?_
    · refine hq p ?_
      by_cases h2 : k = 2
      · rw [if_pos h2]; exact List.mem_append_left _ hpn
      · rw [if_neg h2]; exact hpn
    · have h1 := hp p hpn
      have := hq (p + 4) (by rw [if_pos h2]; exact List.mem_append_right _ (List.mem_map.2 ⟨p, hpn, rfl⟩))
      rwa [show (p + 4).toNat = p.toNat + 4 from by omega] at this
end Go.AM

namespace Go.AM
open Go Go.Proofs
set_option maxRecDepth 100000
set_option maxHeartbeats 4000000

abbrev dO (k r m c : Int) : DV := .agg [.int .i64 k, .int .i64 r, .int .i64 m, .int .i64 c]
abbrev wPlain : PV := .ifcA 60 []
abbrev wKeeps (m : Int) : PV := .ifcA 50 [.int .i64 m]
abbrev wClips (c : Int) : PV := .ifcA 62 [.int .i64 c]
def wayP (k m c : Int) : PV := if c < 0 then .nilI else if k = 1 then wPlain else if k = 2 then wKeeps m else if k = 3 then wClips c else .nilI
abbrev dW (w : PV) : DV := .one w
theorem im_plain : IMeth Try.prog "fuller/optim.slope" 60 fi_optim_plain_slope := fun v args w => by kernel_rfl
theorem im_keeps : IMeth Try.prog "fuller/optim.slope" 50 fi_optim_keeps_slope := fun v args w => by kernel_rfl
theorem im_clips : IMeth Try.prog "fuller/optim.slope" 62 fi_optim_clips_slope := fun v args w => by kernel_rfl
theorem p_optim_of (k r m c : Int) : PureC Try.prog fi_optim_of [dO k r m c] (dW (wayP k m c)) := by
  refine pure_optim_of (by simp) fun G hP hn => ?_
  by_cases h0 : c < 0
  · have e : wayP k m c = .nilI := if_pos h0
    rw [e]
    refine go h0 trivial ?_
    exact ends_ret rfl rfl rfl rfl
  by_cases h1 : k = 1
  · subst h1
    have e : wayP 1 m c = wPlain := by unfold wayP; rw [if_neg h0, if_pos rfl]
    rw [e]
    refine go h0 trivial ?_
    exact ends_ret rfl rfl rfl rfl
  have e1 : (k == 1) = false := by simp [h1]
  by_cases h2 : k = 2
  · subst h2
    have e : wayP 2 m c = wKeeps m := by unfold wayP; rw [if_neg h0, if_neg (by decide), if_pos rfl]
    rw [e]
    refine go (aa h0 e1) trivial ?_
    exact ends_ret rfl rfl rfl rfl
  have e2 : (k == 2) = false := by simp [h2]
  by_cases h3 : k = 3
  · subst h3
    have e : wayP 3 m c = wClips c := by unfold wayP; rw [if_neg h0, if_neg (by decide), if_neg (by decide), if_pos rfl]
    rw [e]
    refine go (aa h0 <| aa e1 e2) trivial ?_
    exact ends_ret rfl rfl rfl rfl
  have e3 : (k == 3) = false := by simp [h3]
  have e : wayP k m c = .nilI := by unfold wayP; rw [if_neg h0, if_neg h1, if_neg h2, if_neg h3]
  rw [e]
  refine go (aa h0 <| aa e1 <| aa e2 e3) trivial ?_
  exact ends_ret rfl rfl rfl rfl
theorem p_most_nil : PureC Try.prog fi_optim_most [dW .nilI] (dN (-1)) := by
  refine pure_optim_most (by simp) fun G hP hn => ?_
  refine go trivial trivial ?_
  exact ends_ret rfl rfl rfl rfl
theorem p_most_keeps (m : Int) : PureC Try.prog fi_optim_most [dW (wKeeps m)] (dN 4) := by
  refine pure_optim_most (by simp) fun G hP hn => ?_
  refine go trivial trivial ?_
  exact ends_ret rfl rfl rfl rfl
theorem p_most_plain : PureC Try.prog fi_optim_most [dW wPlain] (dN 8) := by
  refine pure_optim_most (by simp) fun G hP hn => ?_
  refine go trivial trivial ?_
  exact ends_ret rfl rfl rfl rfl
theorem p_most_clips (m : Int) : PureC Try.prog fi_optim_most [dW (wClips m)] (dN 8) := by
  refine pure_optim_most (by simp) fun G hP hn => ?_
  refine go trivial trivial ?_
  exact ends_ret rfl rfl rfl rfl
theorem p_optim_most (k m c : Int) : PureC Try.prog fi_optim_most [dW (wayP k m c)] (dN (manyF k c)) := by
  unfold wayP manyF
  split
  · exact p_most_nil
  split
  · exact p_most_plain
  split
  · exact p_most_keeps m
  split
  · exact p_most_clips c
  · exact p_most_nil
theorem p_optim_may (l : List Int) (many : Int) (hl : l.length ≤ 64) : PureC Try.prog fi_optim_may [dI l, dN many] (dB (mayL many l (-1))) := by
  refine pure_optim_may (by simp) fun G hP hn => ?_
  refine go trivial trivial ?_
  refine T_for l.length (fun i (last : Int) => { env := [(1, .one (.p (.int .i64 many))), (5, .one (.p (.int .i64 last))), (8, .one (.p (eI l))), (9, .one (.p (.int .i64 l.length))), (10, .one (.p (.int .i64 i)))], σ := [] })
    (fun i last => mayL many (l.drop i) last = mayL many l (-1)) (-1) rfl (.refl _ _) fun i last hi hinv => ?_
  by_cases hlt : i < l.length
  · have c1 : (i : Int) < l.length := by omega
    have hx := List.getElem?_eq_getElem hlt
    have w1 : IntKind.i64.wrap ((i : Int) + 1) = ((i + 1 : Nat) : Int) := by rw [wrap_in (by omega) (by omega)]; rfl
    rw [List.drop_eq_getElem_cons hlt] at hinv
    simp only [mayL] at hinv
    generalize l[i] = x at *
    by_cases h1 : x ≤ last
    · rw [if_pos (.inl h1)] at hinv
      rw [← hinv]
      refine go (aa c1 <| aa hx <| aa hlt h1) trivial ?_
      exact ends_ret rfl rfl rfl rfl
    by_cases h2 : x ≥ many
    · rw [if_pos (.inr h2)] at hinv
      rw [← hinv]
      refine go (aa c1 <| aa hx <| aa hlt <| aa h1 h2) trivial ?_
      exact ends_ret rfl rfl rfl rfl
    rw [if_neg (by omega)] at hinv
    refine go (aa c1 <| aa hx <| aa hlt <| aa h1 <| aa h2 w1) trivial ?_
    exact rnd_next hlt x hinv (.refl _ _)
  · have c1 : ¬ (i : Int) < l.length := by omega
    rw [List.drop_of_length_le (by omega)] at hinv
    simp only [mayL] at hinv
    rw [← hinv]
    by_cases h1 : many ≥ 0
    · have e : decide (many ≥ 0) = true := by simp [h1]
      rw [e]
      refine go (aa c1 h1) trivial ?_
      exact ends_ret rfl rfl rfl rfl
    · have e : decide (many ≥ 0) = false := by simp [h1]
      rw [e]
      refine go (aa c1 h1) trivial ?_
      exact ends_ret rfl rfl rfl rfl
theorem i64s_one {n : Int} (h : I64 n) : I64s [n] := fun x hx => by simp at hx; subst hx; exact h
theorem p_optim_by {s d : List Int} {n : Int} (hd : I64s d) (hn0 : I64 n) : PureC Try.prog fi_optim_by [dT s d, dN n] (dTE (twoF fMul s d [] [n])) := by
  refine pure_optim_by (by simp) fun G hP hn => ?_
  have k := k_Mul (s := s) (t := []) hd (i64s_one hn0)
  generalize twoF fMul s d [] [n] = r at *
  refine go trivial k ?_
  exact ends_ret rfl rfl rfl rfl
theorem p_plain_slope (s d t e : List Int) : PureC Try.prog fi_optim_plain_slope [.agg [], dT s d, dT t e] (dTE ((t, e), 0)) := by
  refine pure_optim_plain_slope (by simp) fun G hP hn => ?_
  refine go trivial trivial ?_
  exact ends_ret rfl rfl rfl rfl
theorem p_keeps_slope {s d t e : List Int} {m : Int} (hd : I64s d) (he : I64s e) (hm : I64 m) : PureC Try.prog fi_optim_keeps_slope [.agg [.int .i64 m], dT s d, dT t e] (dTE (slopeF 2 m 0 (s, d) (t, e))) := by
  refine pure_optim_keeps_slope (by simp) fun G hP hn => ?_
  have k := p_optim_by (s := s) hd hm
  have hr := two_range (fun a b => fMul_range a b) s d [] [m]
  unfold slopeF
  rw [if_neg (by decide), if_pos rfl]
  simp only
  have k2 := k_Add (s := (twoF fMul s d [] [m]).1.1) (d := (twoF fMul s d [] [m]).1.2) (t := t) hr he
  by_cases h : (twoF fMul s d [] [m]).2 = 0
  · rw [if_pos h]
    have e1 : ((twoF fMul s d [] [m]).2 != 0) = false := by simp [h]
    generalize twoF fMul s d [] [m] = x at *
    generalize twoF fAdd x.1.1 x.1.2 t e = y at *
    refine go e1 (aa k k2) ?_
    exact ends_ret rfl rfl rfl rfl
  · rw [if_neg h]
    have e1 : ((twoF fMul s d [] [m]).2 != 0) = true := by simp [h]
    have hb : twoF fMul s d [] [m] = bad (twoF fMul s d [] [m]).2 := two_bad h
    have k' : PureC Try.prog fi_optim_by [dT s d, dN m] (.tup [dT [] [], dN (twoF fMul s d [] [m]).2]) := by
      have := k; rw [hb] at this; exact this
    clear k2 k hb
    generalize (twoF fMul s d [] [m]).2 = er at *
    refine go e1 k' ?_
    exact ends_ret rfl rfl rfl rfl
end Go.AM

namespace Go.AM
open Go
theorem owOf_ren {ρ : Nat → Nat} (hρ : ∀ t, ρ (ρ t) = t) (σ : Sto) (τ : Tau) : owOf (renS ρ σ) τ = owOf σ (fun t => τ (ρ t)) := by
  funext k
  apply propext
  constructor
  · rintro ⟨t, hm, ht⟩
    rw [lo_renS hρ, AO.ren_mu] at hm
    exact ⟨ρ t, hm, by show τ (ρ (ρ t)) = some k; rw [hρ]; exact ht⟩
  · rintro ⟨t, hm, ht⟩
    exact ⟨ρ t, by rw [lo_renS hρ, AO.ren_mu, hρ]; exact hm, ht⟩
theorem SepS.ren {ρ : Nat → Nat} (hρ : ∀ t, ρ (ρ t) = t) {σ : Sto} {τ : Tau} (h : SepS σ τ) : SepS (renS ρ σ) (fun t => τ (ρ t)) := fun t t' b h1 h2 hne hm hb => by
  rw [lo_renS hρ] at h1 h2 hm
  rw [AO.ren_mu] at hm
  exact h (ρ t) (ρ t') b (fun e => h1 (AO.ren_none.2 e)) (fun e => h2 (AO.ren_none.2 e)) (fun e => hne (by rw [← hρ t, e, hρ])) hm hb
theorem MutC.ren {P : Program} {f : FuncId} {vs : List AV} {σ σ' : Sto} {r : AV} {fr : List Nat} {ρ : Nat → Nat} (hρ : ∀ t, ρ (ρ t) = t) (h : MutC P f vs σ r σ' fr) :
    MutC P f (vs.map (AV.ren ρ)) (renS ρ σ) (r.ren ρ) (renS ρ σ') (fr.map ρ) := by
  refine ⟨h.enters, fun A τ w xs ex exs hA hxs hex hfr hob hsp => ?_⟩
  have hob2 : ∀ t, ORel (fun _ => True) A (fun t => τ (ρ t)) w t (lo σ t) := fun t => by
    have := (hob (ρ t)).ren (ρ := ρ) (τ := τ) hρ (t := t)
    rw [lo_renS hρ, hρ, AO.ren_ren hρ] at this
    exact this
  have hsp2 : SepS σ (fun t => τ (ρ t)) := by
    have := SepS.ren hρ hsp
    rw [renS_renS hρ] at this
    exact this
  have key := h.calls A (fun t => τ (ρ t)) w xs (ex.map (AV.ren ρ)) exs hA (all2_unmap hxs fun _ _ h => h.unren hρ)
    (all2_map hex fun _ _ h => h.ren (fun t => by show τ (ρ (ρ t)) = τ t; rw [hρ]))
    (fun d hd v hv => by
      obtain ⟨v0, hv0, rfl⟩ := List.mem_map.1 hv
      rw [AV.ren_has hρ]
      exact hfr (ρ d) (List.mem_map.2 ⟨d, hd, rfl⟩) v0 hv0) hob2 hsp2
  rw [owOf_ren hρ]
  refine key.mono ?_
  rintro e w' ⟨x, A', τ', he, hfm, ho, hs, hr, hx⟩
  refine ⟨x, A', fun t => τ' (ρ t), he, hfm, fun t => ?_, SepS.ren hρ hs, hr.ren (fun t => by show τ' (ρ (ρ t)) = τ' t; rw [hρ]), all2_unmap hx fun _ _ h => h.unren hρ⟩
  rw [lo_renS hρ]
  exact (ho (ρ t)).ren hρ
end Go.AM

namespace Go.AM
open Go

def RunN (P : Program) (s0 : AS) : Nat → List (List Nat) → List FOp → List It → (AS → Prop) → AS → Prop
  | _, [], [], _, K, s => K s
  | i, un :: uns, o :: os, acc, K, s =>
    match gmet s.env o.g with
    | some false => acc.all (fun t => okPair un t (i, o, { v := .und })) = true ∧ RunN P s0 (i + 1) uns os ((i, o, { v := .und }) :: acc) K (putd o.d .und s)
    | some true => match o.op with
      | .q q => match evQ q s.env s.σ with
        | some v => acc.all (fun t => okPair un t (i, o, { v := v, rd := rdOf (.q q) s.env })) = true ∧ RunN P s0 (i + 1) uns os ((i, o, { v := v, rd := rdOf (.q q) s.env }) :: acc) K (putd o.d v s)
        | none => False
      | .n q => match o.d with
        | some t => match evN q s.env t with
          | some (ob, v) => (okFr s0 { v := v, wr := some (t, ob), nw := true } && acc.all (fun a => okPair un a (i, o, { v := v, wr := some (t, ob), nw := true }))) = true ∧
              RunN P s0 (i + 1) uns os ((i, o, { v := v, wr := some (t, ob), nw := true }) :: acc) K (putd o.d v { s with σ := (t, ob) :: s.σ })
          | none => False
        | none => False
      | .s q => match evS q s.env s.σ (o.d.getD 0) with
        | some (u, ob, v, k) => (k = 1 → o.d = some u) ∧
            (okFr s0 { v := v, wr := some (u, ob), nw := decide (k = 1), sc := decide (k = 2) } &&
              acc.all (fun a => okPair un a (i, o, { v := v, wr := some (u, ob), nw := decide (k = 1), sc := decide (k = 2), rd := rdOf (.s q) s.env, dt := dtOf s0 acc u, dob := dobOf s0 acc u }))) = true ∧
            RunN P s0 (i + 1) uns os ((i, o, { v := v, wr := some (u, ob), nw := decide (k = 1), sc := decide (k = 2), rd := rdOf (.s q) s.env, dt := dtOf s0 acc u, dob := dobOf s0 acc u }) :: acc) K (putd o.d v (newSt k u ob s))
        | none => False
      | .call f xs => (((gets s.env (f :: xs)).all AVp = true ∧ ∃ r, CallR P f xs s.env s.σ s.σ r ∧ acc.all (fun a => okPair un a (i, o, { v := r.av })) = true ∧
          RunN P s0 (i + 1) uns os ((i, o, { v := r.av }) :: acc) K (putd o.d r.av s))) ∨
          ∃ r t ob, CallN P f xs s.env r t ob ∧ (okFr s0 { v := r, wr := some (t, ob), nw := true } && acc.all (fun a => okPair un a (i, o, { v := r, wr := some (t, ob), nw := true }))) = true ∧
            RunN P s0 (i + 1) uns os ((i, o, { v := r, wr := some (t, ob), nw := true }) :: acc) K (putd o.d r { s with σ := (t, ob) :: s.σ })
      | .bad => False
    | none => False
  | _, _, _, _, _, _ => False
theorem runN_sound {P : Program} {s0 : AS} {U : Nat → List Nat} {K : AS → Prop} : ∀ (os : List FOp) (uns : List (List Nat)) (i : Nat) (acc : List It) (s : AS), (∀ j, j < uns.length → uns.getD j [] = U (i + j)) → (∀ a ∈ acc, a.1 < i) →
    RunN P s0 i uns os acc K s → ∃ R Z, Good P s0 U i os acc R s Z ∧ K Z
  | [], [], i, acc, s, _, _, h => by
    simp only [RunN] at h
    exact ⟨[], s, ⟨rfl, .nil (.refl s), .nil, fun _ _ _ hb => by simp at hb, fun _ hk => by simp at hk⟩, h⟩
  | [], _ :: _, i, acc, s, _, _, h => by simp [RunN] at h
  | _ :: _, [], i, acc, s, _, _, h => by simp [RunN] at h
  | o :: os, un :: uns, i, acc, s, hU, hlt, h => by
    have hun : un = U i := by have := hU 0 (by simp); simpa using this
    have hU' : ∀ j, j < uns.length → uns.getD j [] = U (i + 1 + j) := fun j hj => by
      have := hU (j + 1) (by simpa using hj)
      rw [show i + 1 + j = i + (j + 1) from by omega]
      simpa using this
    have hlt' : ∀ (f : FP), ∀ a ∈ ((i, o, f) :: acc : List It), a.1 < i + 1 := fun f a ha => by
      rcases List.mem_cons.1 ha with rfl | ha
      · simp
      · have := hlt a ha; omega
    have fin : ∀ (f : FP), En P o f s → Fr f s0 → Told s0 acc f → acc.all (fun a => okPair un a (i, o, f)) = true → RunN P s0 (i + 1) uns os ((i, o, f) :: acc) K (stepS o f s) → ∃ R Z, Good P s0 U i (o :: os) acc R s Z ∧ K Z := by
      intro f h1 h2 h3 h4 h5
      obtain ⟨R, Z, hg, hk⟩ := runN_sound os uns (i + 1) _ _ hU' (hlt' f) h5
      exact ⟨(i, o, f) :: R, Z, hg.cons h1 h2 h3 hlt (by rw [← hun]; exact h4), hk⟩
    have noSc : ∀ f : FP, f.wr = none → Told s0 acc f := fun f hf u hu => by
      unfold FP.scO at hu; rw [hf] at hu; cases hs : f.sc <;> rw [hs] at hu <;> cases hu
    have noFr : ∀ f : FP, f.wr = none → Fr f s0 := fun f hf hn u ob hw => by rw [hf] at hw; cases hw
    simp only [RunN] at h
    split at h
    · rename_i hg
      refine fin { v := .und } (.skip hg rfl rfl) (noFr _ rfl) (noSc _ rfl) h.1 ?_
      exact h.2
    · rename_i hg
      split at h
      · rename_i q ho
        split at h
        · rename_i v hv
          exact fin _ (.q hg ho hv (fun t ht => by rw [ho] at ht; exact ht) rfl) (noFr _ rfl) (noSc _ rfl) h.1 h.2
        · exact h.elim
      · rename_i q ho
        split at h
        · rename_i t hd
          split at h
          · rename_i ob v hv
            simp only [Bool.and_eq_true] at h
            exact fin _ (.n hg ho hd hv rfl rfl rfl) (okFr_sound h.1.1) (fun u hu => by simp [FP.scO] at hu) h.1.2 h.2
          · exact h.elim
        · exact h.elim
      · rename_i q ho
        split at h
        · rename_i u ob v k hv
          obtain ⟨h1, h2, h3⟩ := h
          simp only [Bool.and_eq_true] at h2
          refine fin { v := v, wr := some (u, ob), nw := decide (k = 1), sc := decide (k = 2), rd := rdOf (.s q) s.env, dt := dtOf s0 acc u, dob := dobOf s0 acc u } (.s hg ho hv (fun t ht => by rw [ho] at ht; exact ht) rfl (fun hk => ⟨by simp [hk], h1 hk⟩) rfl)
            (okFr_sound (f := { v := v, wr := some (u, ob), nw := decide (k = 1), sc := decide (k = 2) }) h2.1) (fun w hw => ?_) h2.2 ?_
          · unfold FP.scO at hw
            split at hw
            · simp at hw; subst hw; exact ⟨rfl, rfl⟩
            · cases hw
          · have : stepS o { v := v, wr := some (u, ob), nw := decide (k = 1), sc := decide (k = 2), rd := rdOf (.s q) s.env, dt := dtOf s0 acc u, dob := dobOf s0 acc u } s = putd o.d v (newSt k u ob s) := by
              unfold stepS
              simp only
              by_cases hk : k = 2
              · subst hk; rfl
              · simp [newSt, hk]
            rw [this]; exact h3
        · exact h.elim
      · rename_i f xs ho
        rcases h with ⟨h1, r, h2, h3, h4⟩ | ⟨r, t, ob, h2, h3, h4⟩
        · exact fin _ (.call hg ho h1 h2 rfl rfl) (noFr _ rfl) (noSc _ rfl) h3 h4
        · simp only [Bool.and_eq_true] at h3
          exact fin _ (.callN hg ho h2 rfl rfl rfl) (okFr_sound h3.1) (fun u hu => by simp [FP.scO] at hu) h3.2 h4
      · exact h.elim
    · exact h.elim
section
variable {G : Ground} {F : Fence} {n : Nat} {Q : Exit → AS → Prop} {s : AS}
theorem T_drN (hF : FOk F) {un : List (List Nat)} {t : TOps} {kp ids : List Nat} {S : AS} (hm : G.P.follows .mixedOrders = true) (h : RunN G.P s 0 un t.flat [] (fun s' => s'.keep kp ids = S) s) (k : Q .normal S) :
    T G F n (.region (some un) t kp ids) Q s := T_good hF hm fun U hU => by
  obtain ⟨R, Z, h1, h2⟩ := runN_sound (P := G.P) (s0 := s) (U := U) t.flat un 0 [] s hU (fun a ha => by simp at ha) h
  exact ⟨R, Z, h1, h2 ▸ k⟩
end
attribute [go_sem] RunN
end Go.AM

