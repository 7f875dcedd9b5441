import Derived.Test.YtphnlpfkenannaaGreatMx8
set_option linter.unusedVariables false
set_option linter.unusedSimpArgs false
namespace Go.AM

theorem inv_eqnil {P : Program} {o : Op} {x : Opd} (h : compQ P o = some (.eqN 0 false x (.c (.one .nils)))) :
    ∃ xt u v yt e, o = .binOp .eql xt u v yt ∧ P.underlying xt = some (.slice e) ∧ opd u = some x ∧ opd v = some (.c (.one .nils)) := by
  cases o <;> simp only [compQ] at h <;> (try (cases h; done))
  case binOp op xt u v yt =>
    obtain ⟨x', hx, h⟩ := bind_some' h
    obtain ⟨y', hy, h⟩ := bind_some' h
    cases op <;> simp only at h <;> (try (cases h; done))
    · split at h <;> first | (cases h; done) | skip
      · rename_i e hu
        simp only [isNeq, Option.some.injEq, QOp.eqN.injEq] at h
        obtain ⟨_, _, rfl, rfl⟩ := h
        exact ⟨_, _, _, _, e, rfl, hu, hx, hy⟩
      · split at h <;> cases h
    · split at h <;> first | (cases h; done) | (split at h <;> cases h; done) | skip
  all_goals (revert h; (repeat' split) <;> first | contradiction | simp [Option.bind_eq_some_iff, Option.map_eq_some_iff])
theorem slnil_run {P : Program} {w : World} {t e : TypeId} (hu : P.underlying t = some (.slice e)) (a : Option Addr) (l c n : Nat) :
    (Op.equalIn (n + 1) t (.slice a l c) (.slice none 0 0)).run P w = .ok a.isNone w := by
  cases a <;> simp [Op.equalIn, run_und hu]
section
variable {G : Ground} {F : Fence} {n : Nat} {Q : Exit → AS → Prop} {s : AS}
theorem T_eqnil (hF : FOk F) {i a d : Nat} {rows : List (List PV)} {kp ids : List Nat} (had : a ≠ d) (hv : lk s.env i = .one (.p (.sl rows)))
    (h : ∀ b : Bool, (b = true → rows = []) → Q .normal (({ s with env := (d, pbool b) :: (a, .one (.p (.sl rows))) :: s.env } : AS).keep kp ids)) :
    T G F n (.region none (.op (some a) none (.q (.mov (.t i))) (.op (some d) none (.q (.eqN 0 false (.t a) (.c (.one .nils)))) .nil)) kp ids) Q s := by
  refine ⟨fun code hc hok x w hs => ?_⟩
  obtain ⟨id, ops, l, rfl, hz, hfl⟩ := inv_region hc
  have hl := flatT_inj hfl
  simp only [ACode.ok, TOps.ok, TOps.lt, TOps.dsts, Option.toList, List.cons_append, List.nil_append, List.all_cons, List.all_nil, Bool.and_eq_true, decide_eq_true_eq, Bool.and_true] at hok
  obtain ⟨_, ha, hd⟩ := hok
  have hlen := compR_len hz
  subst hl
  simp only [TOps.flat, List.length_cons, List.length_nil] at hlen
  have e2 : ∃ o1 o2, ops.toList = [o1, o2] := by
    clear hfl hz hs h hv
    revert hlen
    generalize ops.toList = L
    intro hlen
    rcases L with _ | ⟨o1, _ | ⟨o2, _ | ⟨o3, r⟩⟩⟩
    · simp at hlen
    · simp at hlen
    · exact ⟨o1, o2, rfl⟩
    · simp only [List.length_cons] at hlen; omega
  obtain ⟨o1, o2, hops⟩ := e2
  have g1 : ops[0]? = some o1 := by rw [← Array.getElem?_toList, hops]; rfl
  have g2 : ops[1]? = some o2 := by rw [← Array.getElem?_toList, hops]; rfl
  have hsz : ops.size = 2 := by rw [← Array.length_toList, hops]; rfl
  rw [hops] at hz
  simp only [compR, TOps.flat] at hz
  obtain ⟨f1, hf1, hz⟩ := bind_some' hz
  obtain ⟨r1, hz, hr1⟩ := map_some' hz
  obtain ⟨f2, hf2, hz⟩ := bind_some' hz
  obtain ⟨r2, hz, hr2⟩ := map_some' hz
  cases hz
  cases hr2
  simp only [List.cons.injEq, and_true] at hr1
  obtain ⟨rfl, rfl⟩ := hr1
  refine wpIn_region ?_
  simp only [hsz, List.range_eq_range', List.range', wpOpsIn_cons]
  refine fstep_sound hF hf1 hs (.run (o := ⟨some a, none, .q (.mov (.t i))⟩) (v := .one (.p (.sl rows))) rfl (fun t ht => by cases ht; exact ha) (.q (by simp only [evQ, get, hv]))) rfl (fun x1 w1 hs1 => ?_) g1
  simp only [Nat.zero_add, wpOpsIn_cons]
  have k := hf2
  simp only [compF] at k
  obtain ⟨op, hop, k⟩ := bind_some' k
  obtain ⟨g, hg, k⟩ := map_some' k
  simp only [FOp.mk.injEq] at k
  obtain ⟨kd, k2, k3⟩ := k
  subst k2 k3
  have hq : compQ G.P o2.op = some (.eqN 0 false (.t a) (.c (.one .nils))) := by
    unfold compA at hop
    split at hop
    · rename_i q' h'; cases hop; exact h'
    · split at hop
      · cases hop
      · split at hop
        · cases hop
        · split at hop
          · split at hop <;> cases hop
          · split at hop <;> cases hop
          · cases hop
          · cases hop
  have hnd := compA_nodefer hop
  unfold wpOpIn
  simp only [g2, gmet_wanted hg hs1 rfl, if_true]
  refine wpIn_of_run hF hnd ?_
  obtain ⟨A, τ, hs1⟩ := hs1
  obtain ⟨xt, u, v, yt, e, hoe, hu, hx, hy⟩ := inv_eqnil hq
  have h1 := opd_sound hs1 hx
  have h2 := opd_sound hs1 hy
  simp only [get, putd, lk, if_true] at h1 h2
  have k1 := one_inv h1
  have k2 := one_inv h2
  have e1 : ∃ ad l c, x1.eval u = .slice ad l c ∧ (ad.isNone = true → rows = []) := by
    cases k1 with
    | c0 k1 => cases k1 with
      | p _ _ k1 => 
        generalize x1.eval u = z at k1
        cases k1 with
        | nil ad cap => exact ⟨_, _, _, rfl, fun _ => rfl⟩
        | sl => exact ⟨_, _, _, rfl, by simp⟩
  have e2 : x1.eval v = .slice none 0 0 := by
    cases k2 with
    | c0 k2 => 
      generalize x1.eval v = z at k2
      cases k2 with
      | nils => rfl
  obtain ⟨ad, l, c, e1, e3⟩ := e1
  have hgd : (eqGuard .eql xt u v (x1.eval u) (x1.eval v)).run G.P w1 = .ok () w1 := guard_plain (by rw [e1]; intro us h; cases h) (by rw [e1]; intro h; cases h)
  have hex : (execOp x1.eval o2).run G.P w1 = .ok (.value (.bool ad.isNone)) w1 := by
    obtain ⟨dst, op, type, pos, after, guard⟩ := o2
    simp only at hoe
    subst hoe
    have hq : (Op.equal xt (.slice ad l c) (.slice none 0 0)).run G.P w1 = .ok ad.isNone w1 := slnil_run (w := w1) hu ad l c 9999
    have hb : (binOp .eql xt (.slice ad l c) (.slice none 0 0)).run G.P w1 = .ok (.bool ad.isNone) w1 := by simp [binOp, hq]
    rw [e1, e2] at hgd
    simp only [execOp, Sem.run_bind, e1, e2, hgd, Result.andThen_ok, hb, Sem.run_pure]
  rw [hex]
  have := h ad.isNone e3
  refine ⟨_, this, keep_weak G kp ids _ _ _ ⟨A, τ, ?_⟩⟩
  rw [kd]
  exact hs1.put hd (pbool_rel _)
end
end Go.AM

