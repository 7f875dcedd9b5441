import Derived.Test.YtbbjlecedaamcaaMs10
set_option linter.unusedVariables false
set_option linter.unusedSimpArgs false
namespace Go.AM

mutual
def PV.wf : PV → Prop
  | .sl rows => rows.length ≤ MaxN ∧ wfss rows
  | .fn _ a b => wfs a ∧ wfs b
  | .box cs => wfs cs
  | .map es => wfe es
  | .ifc _ c => c.wf
  | .ifcA _ cs => wfs cs
  | _ => True
def wfs : List PV → Prop
  | [] => True
  | c :: cs => c.wf ∧ wfs cs
def wfss : List (List PV) → Prop
  | [] => True
  | c :: cs => wfs c ∧ wfss cs
def wfe : List (Int × Bool × List PV) → Prop
  | [] => True
  | (_, _, c) :: cs => wfs c ∧ wfe cs
end
theorem wfs_append : ∀ {a b : List PV}, wfs (a ++ b) → wfs a ∧ wfs b
  | [], b, h => ⟨by simp [wfs], h⟩
  | c :: a, b, h => by
    simp only [List.cons_append, wfs] at h ⊢
    obtain ⟨h1, h2⟩ := h
    exact ⟨⟨h1, (wfs_append h2).1⟩, (wfs_append h2).2⟩
theorem wfss_flatten : ∀ {rows : List (List PV)}, wfs rows.flatten → wfss rows
  | [], _ => by simp [wfss]
  | r :: rows, h => by
    simp only [List.flatten_cons] at h
    simp only [wfss]
    exact ⟨(wfs_append h).1, wfss_flatten (wfs_append h).2⟩
def J.wf : J → Prop
  | .p v _ => v.wf
  | .ps vs _ => wfs vs
  | .at_ vs _ _ => wfs vs
  | .en es _ => wfe es
theorem Rel.wf {A : Nat → Prop} {w : World} {j : J} (h : Rel A w j) : j.wf := by
  induction h with
  | sl rows b off cap s hA hs hl hc h ih =>
    simp only [J.wf, PV.wf] at ih ⊢
    exact ⟨hl, wfss_flatten ih⟩
  | _ => simp_all [J.wf, PV.wf, wfs, wfss, wfe]
def AC.wf : AC → Prop
  | .p v => v.wf
  | _ => True
def AV.wf : AV → Prop
  | .one c => c.wf
  | .agg cs => ∀ c ∈ cs, c.wf
  | _ => True
theorem crel_wf {A : Nat → Prop} {τ : Tau} {w : World} {c : AC} {x : Value} (h : CRel A τ w c x) : c.wf := by
  cases c with
  | p v => cases h with
    | c0 h => cases h with
      | p _ _ h => exact Rel.wf (j := .p _ _) h
  | _ => trivial
theorem vrel_wf {A : Nat → Prop} {τ : Tau} {w : World} {v : AV} {x : Value} (h : VRel A τ w v x) : v.wf := by
  cases v with
  | one c => cases h with
    | v1 h => cases h with
      | one h => exact crel_wf h
  | agg cs => cases h with
    | v1 h => cases h with
      | agg h =>
        intro c hc
        obtain ⟨i, hi, rfl⟩ := List.getElem_of_mem hc
        obtain ⟨x, _, hx⟩ := h.get i _ (List.getElem?_eq_getElem hi)
        exact crel_wf hx
  | _ => trivial
section
variable {G : Ground} {F : Fence} {n : Nat} {Q : Exit → AS → Prop} {s : AS}
theorem T_wf (i : Nat) {c : ACode} (h : (lk s.env i).wf → T G F n c Q s) : T G F n c Q s := by
  refine ⟨fun code hc hok a w hs => ?_⟩
  obtain ⟨A, τ, hs1⟩ := hs
  exact (h (vrel_wf (hs1.env i))).of code hc hok a w ⟨A, τ, hs1⟩
structure noGo (Q : Exit → AS → Prop) (e : Exit) (s : AS) : Prop where
  of : match e with
    | .goto _ => False
    | e => Q e s
theorem T_scope {c : ACode} (h : T G Fence.wide n c (noGo Q) s) : T G Fence.wide n (.scope c) Q s := by
  refine ⟨fun code hc hok a w hs => ?_⟩
  obtain ⟨cc, rfl, hc'⟩ := inv_scope hc
  refine wpIn_wide.2 (wp_scope_straight (wpIn_wide.1 (wpIn_mono (h.of cc hc' hok a w hs) ?_)))
  rintro e a w ⟨s', hq, hs'⟩
  obtain ⟨hq⟩ := hq
  cases e <;> first | exact hq.elim | exact ⟨s', hq, hs'⟩
theorem fw : FOk Fence.wide := .inl rfl
theorem run_mono {P : Program} : ∀ {t : TOps} {K K' : AS → Prop} {s : AS}, Run P t K s → (∀ s, K s → K' s) → Run P t K' s
  | .nil, K, K', s, h, k => k s h
  | .op d g (.q q) rest, K, K', s, h, k => by
    simp only [Run] at h ⊢
    split at h
    · rename_i v hv; first | exact run_mono h k | (simp only [hv]; exact run_mono h k)
    · exact h.elim
  | .op d g (.n q) rest, K, K', s, h, k => by
    simp only [Run] at h ⊢
    split at h
    · split at h
      · rename_i hl
        split at h
        · rename_i hn
          split at h
          · rename_i ob v hv
            simp only [hl, hn, if_true, hv]; exact run_mono h k
          · exact h.elim
        · exact h.elim
      · exact h.elim
    · exact h.elim
  | .op d g (.s q) rest, K, K', s, h, k => by
    simp only [Run] at h ⊢
    split at h
    · rename_i u ob v kk hv
      first | exact ⟨h.1, run_mono h.2 k⟩ | (simp only [hv]; exact ⟨h.1, run_mono h.2 k⟩)
    · exact h.elim
  | .op d g (.call f xs) rest, K, K', s, h, k => by
    simp only [Run] at h ⊢
    rcases h with ⟨r, σ', h1, h2⟩ | ⟨v, σ1, h1, h2⟩
    · exact .inl ⟨r, σ', h1, run_mono h2 k⟩
    · exact .inr ⟨v, σ1, h1, run_mono h2 k⟩
  | .sc d c want last g inner rest, K, K', s, h, k => by
    simp only [Run] at h ⊢
    obtain ⟨b, x, h1, h2, h3⟩ := h
    exact ⟨b, x, h1, h2, run_mono h3 k⟩
theorem T_reg (hF : FOk F) {t : TOps} {kp ids : List Nat} {S : AS} (h : Run G.P t (fun s' => s'.keep kp ids = S) s) (k : Q .normal S) : T G F n (.region none t kp ids) Q s :=
  T_region hF (run_mono h fun s' e => by rw [e]; exact k)
theorem T_sr (hF : FOk F) {t : TOps} {kp ids : List Nat} {S : AS} {b : ACode} (h : Run G.P t (fun s' => s'.keep kp ids = S) s) (k : T G F n b Q S) : T G F n (.seq (.region none t kp ids) b) Q s :=
  T_seq (T_reg hF h ⟨k⟩)
section ends
variable {b : ACode} {id id' : Nat}
theorem T_then (h : T G F n b Q s) : Then G F n b Q .normal s := ⟨h⟩
theorem then_exit (h : Q (.exit id) s) : Then G F n b Q (.exit id) s := ⟨h⟩
theorem then_goto (h : Q (.goto id) s) : Then G F n b Q (.goto id) s := ⟨h⟩
theorem then_ret (h : Q .ret s) : Then G F n b Q .ret s := ⟨h⟩
theorem inB_normal (h : Q .normal s) : inB id Q .normal s := ⟨h⟩
theorem inB_ret (h : Q .ret s) : inB id Q .ret s := ⟨h⟩
theorem inB_goto (h : Q (.goto id') s) : inB id Q (.goto id') s := ⟨h⟩
theorem inB_exit (h : Q .normal s) : inB id Q (.exit id) s := ⟨by simp only [if_true]; exact h⟩
theorem inB_exit_ne (hne : (id' == id) = false) (h : Q (.exit id') s) : inB id Q (.exit id') s := by
  have : id' ≠ id := by simpa using hne
  exact ⟨by simp only [this, if_false]; exact h⟩
theorem noGo_normal (h : Q .normal s) : noGo Q .normal s := ⟨h⟩
theorem noGo_ret (h : Q .ret s) : noGo Q .ret s := ⟨h⟩
theorem noGo_exit (h : Q (.exit id) s) : noGo Q (.exit id) s := ⟨h⟩
end ends
def noTup : List DV → Bool
  | [] => true
  | .tup _ :: _ => false
  | _ :: ds => noTup ds
theorem noTup_sound : ∀ {ds : List DV}, noTup ds = true → ∀ d ∈ ds, ∀ xs, d ≠ .tup xs
  | [], _, d, hd, _ => by simp at hd
  | .one v :: ds, h, d, hd, xs => by
    rcases List.mem_cons.1 hd with rfl | hd
    · simp
    · exact noTup_sound (ds := ds) h d hd xs
  | .agg v :: ds, h, d, hd, xs => by
    rcases List.mem_cons.1 hd with rfl | hd
    · simp
    · exact noTup_sound (ds := ds) h d hd xs
  | .tup _ :: _, h, _, _, _ => by simp [noTup] at h
theorem ends_ret {rv : List RV} {r : DV} {s : AS} {vs : List AV} {ds : List DV} {σ' : Sto} (h1 : evRV rv s.env s.σ = some vs) (h2 : toDs 6 vs s.σ = some (ds, σ')) (h3 : noTup ds = true) (h4 : resD ds = r) : Ends rv r .ret s :=
  ⟨.inr rfl, vs, ds, σ', h1, h2, noTup_sound h3, h4.symm⟩
theorem T_condT {c : Opd} {x y : ACode} (hc : get s.env c = pbool true) (hx : T G F n x Q s) : T G F n (.cond c x y) Q s := T_cond hc (fun _ => hx) (fun h => by cases h)
theorem T_condF {c : Opd} {x y : ACode} (hc : get s.env c = pbool false) (hy : T G F n y Q s) : T G F n (.cond c x y) Q s := T_cond hc (fun h => by cases h) (fun _ => hy)
theorem T_condD {c : Opd} {x y : ACode} {p : Prop} [Decidable p] (hc : get s.env c = pbool (decide p)) (hx : p → T G F n x Q s) (hy : ¬ p → T G F n y Q s) : T G F n (.cond c x y) Q s :=
  T_cond hc (fun h => hx (of_decide_eq_true h)) (fun h => hy (of_decide_eq_false h))
theorem nth {α : Type} {s : List α} {i : Nat} (hi : i ≤ s.length) : (∃ x, i < s.length ∧ s[i]? = some x ∧ s.drop i = x :: s.drop (i + 1)) ∨ (i = s.length ∧ s.drop i = []) := by
  by_cases h : i < s.length
  · exact .inl ⟨s[i], h, List.getElem?_eq_getElem h, List.drop_eq_getElem_cons h⟩
  · exact .inr ⟨by omega, List.drop_eq_nil_of_le (by omega)⟩
theorem wrap_in {n : Int} (h0 : -9223372036854775808 ≤ n) (h1 : n < 9223372036854775808) : IntKind.i64.wrap n = n := by
  simp only [IntKind.wrap, IntKind.bits, IntKind.signed]
  simp
  omega
theorem wrap_succ {i m : Nat} (h : i < m) (hm : m ≤ MaxN) : IntKind.i64.wrap ((i : Int) + 1) = ((i + 1 : Nat) : Int) := by
  have : MaxN = 140737488355328 := rfl
  rw [wrap_in (by omega) (by omega)]; rfl
structure Rnd (G : Ground) {α : Type} (m : Nat) (S : Nat → α → AS) (Inv : Nat → α → Prop) (Q : Exit → AS → Prop) (i : Nat) (e : Exit) (s' : AS) : Prop where
  of : match e with
    | .normal => i < m ∧ ∃ b, Inv (i + 1) b ∧ Weak G s' (S (i + 1) b)
    | e => Q e s'
theorem T_for {α : Type} {c : ACode} (m : Nat) (S : Nat → α → AS) (Inv : Nat → α → Prop) (a0 : α) (hi : Inv 0 a0) (h0 : Weak G s (S 0 a0))
    (round : ∀ i a, i ≤ m → Inv i a → T G F n c (Rnd G m S Inv Q i) (S i a)) : T G F n (.loop c) Q s := by
  refine T_loop (fun p : Nat × α => S p.1 p.2) (fun p => p.1 ≤ m ∧ Inv p.1 p.2) (fun p => m - p.1) (0, a0) ⟨Nat.zero_le _, hi⟩ h0 ?_
  rintro ⟨i, a⟩ ⟨h1, h2⟩
  refine T_mono (round i a h1 h2) ?_
  rintro e s' ⟨h⟩
  cases e <;> first
    | (obtain ⟨hlt, b, h3, h4⟩ := h; exact ⟨(i + 1, b), ⟨hlt, h3⟩, by simp only; omega, h4⟩)
    | exact h
section rnd
variable {α : Type} {m : Nat} {S : Nat → α → AS} {Inv : Nat → α → Prop} {i : Nat}
theorem rnd_next (hlt : i < m) (b : α) (hi : Inv (i + 1) b) (hw : Weak G s (S (i + 1) b)) : Rnd G m S Inv Q i .normal s := ⟨hlt, b, hi, hw⟩
theorem rnd_exit {id : Nat} (h : Q (.exit id) s) : Rnd G m S Inv Q i (.exit id) s := ⟨h⟩
theorem rnd_ret (h : Q .ret s) : Rnd G m S Inv Q i .ret s := ⟨h⟩
theorem rnd_goto {id : Nat} (h : Q (.goto id) s) : Rnd G m S Inv Q i (.goto id) s := ⟨h⟩
end rnd
@[simp] theorem wf_one (v : PV) : AV.wf (.one (.p v)) = v.wf := rfl
theorem wf_sl (rows : List (List PV)) : PV.wf (.sl rows) = (rows.length ≤ MaxN ∧ wfss rows) := by simp only [PV.wf]
end
end Go.AM

namespace Go.AM

theorem inv_eqnil {P : Program} {o : Op} {x : Opd} (h : compQ P o = some (.eqN 0 false x (.c (.one .nils)))) :
    ∃ xt u v yt e, o = .binOp .eql xt u v yt ∧ P.underlying xt = some (.slice e) ∧ opd u = some x ∧ opd v = some (.c (.one .nils)) := by
  cases o <;> simp only [compQ] at h <;> (try (cases h; done))
  case binOp op xt u v yt =>
    obtain ⟨x', hx, h⟩ := bind_some' h
    obtain ⟨y', hy, h⟩ := bind_some' h
    cases op <;> simp only at h <;> (try (cases h; done))
    · split at h <;> first | (cases h; done) | skip
      · rename_i e hu
        simp only [isNeq, Option.some.injEq, QOp.eqN.injEq] at h
        obtain ⟨_, _, rfl, rfl⟩ := h
        exact ⟨_, _, _, _, e, rfl, hu, hx, hy⟩
      · split at h <;> cases h
    · split at h <;> first | (cases h; done) | (split at h <;> cases h; done) | skip
  all_goals (revert h; (repeat' split) <;> first | contradiction | simp [Option.bind_eq_some_iff, Option.map_eq_some_iff])
theorem slnil_run {P : Program} {w : World} {t e : TypeId} (hu : P.underlying t = some (.slice e)) (a : Option Addr) (l c n : Nat) :
    (Op.equalIn (n + 1) t (.slice a l c) (.slice none 0 0)).run P w = .ok a.isNone w := by
  cases a <;> simp [Op.equalIn, run_und hu]
section
variable {G : Ground} {F : Fence} {n : Nat} {Q : Exit → AS → Prop} {s : AS}
theorem T_eqnil (hF : FOk F) {i a d : Nat} {rows : List (List PV)} {kp ids : List Nat} (had : a ≠ d) (hv : lk s.env i = .one (.p (.sl rows)))
    (h : ∀ b : Bool, (b = true → rows = []) → Q .normal (({ s with env := (d, pbool b) :: (a, .one (.p (.sl rows))) :: s.env } : AS).keep kp ids)) :
    T G F n (.region none (.op (some a) none (.q (.mov (.t i))) (.op (some d) none (.q (.eqN 0 false (.t a) (.c (.one .nils)))) .nil)) kp ids) Q s := by
  refine ⟨fun code hc hok x w hs => ?_⟩
  obtain ⟨id, ops, l, rfl, hz, hfl⟩ := inv_region hc
  have hl := flatT_inj hfl
  simp only [ACode.ok, TOps.ok, TOps.lt, TOps.dsts, Option.toList, List.cons_append, List.nil_append, List.all_cons, List.all_nil, Bool.and_eq_true, decide_eq_true_eq, Bool.and_true] at hok
  obtain ⟨_, ha, hd⟩ := hok
  have hlen := compR_len hz
  subst hl
  simp only [TOps.flat, List.length_cons, List.length_nil] at hlen
  have e2 : ∃ o1 o2, ops.toList = [o1, o2] := by
    clear hfl hz hs h hv
    revert hlen
    generalize ops.toList = L
    intro hlen
    rcases L with _ | ⟨o1, _ | ⟨o2, _ | ⟨o3, r⟩⟩⟩
    · simp at hlen
    · simp at hlen
    · exact ⟨o1, o2, rfl⟩
    · simp only [List.length_cons] at hlen; omega
  obtain ⟨o1, o2, hops⟩ := e2
  have g1 : ops[0]? = some o1 := by rw [← Array.getElem?_toList, hops]; rfl
  have g2 : ops[1]? = some o2 := by rw [← Array.getElem?_toList, hops]; rfl
  have hsz : ops.size = 2 := by rw [← Array.length_toList, hops]; rfl
  rw [hops] at hz
  simp only [compR, TOps.flat] at hz
  obtain ⟨f1, hf1, hz⟩ := bind_some' hz
  obtain ⟨r1, hz, hr1⟩ := map_some' hz
  obtain ⟨f2, hf2, hz⟩ := bind_some' hz
  obtain ⟨r2, hz, hr2⟩ := map_some' hz
  cases hz
  cases hr2
  simp only [List.cons.injEq, and_true] at hr1
  obtain ⟨rfl, rfl⟩ := hr1
  refine wpIn_region ?_
  simp only [hsz, List.range_eq_range', List.range', wpOpsIn_cons]
  refine fstep_sound hF hf1 hs (.run (o := ⟨some a, none, .q (.mov (.t i))⟩) (v := .one (.p (.sl rows))) rfl (fun t ht => by cases ht; exact ha) (.q (by simp only [evQ, get, hv]))) rfl (fun x1 w1 hs1 => ?_) g1
  simp only [Nat.zero_add, wpOpsIn_cons]
  have k := hf2
  simp only [compF] at k
  obtain ⟨op, hop, k⟩ := bind_some' k
  obtain ⟨g, hg, k⟩ := map_some' k
  simp only [FOp.mk.injEq] at k
  obtain ⟨kd, k2, k3⟩ := k
  subst k2 k3
  have hq : compQ G.P o2.op = some (.eqN 0 false (.t a) (.c (.one .nils))) := by
    unfold compA at hop
    split at hop
    · rename_i q' h'; cases hop; exact h'
    · split at hop
      · cases hop
      · split at hop
        · cases hop
        · split at hop
          · split at hop <;> cases hop
          · split at hop <;> cases hop
          · cases hop
          · cases hop
  have hnd := compA_nodefer hop
  unfold wpOpIn
  simp only [g2, gmet_wanted hg hs1 rfl, if_true]
  refine wpIn_of_run hF hnd ?_
  obtain ⟨A, τ, hs1⟩ := hs1
  obtain ⟨xt, u, v, yt, e, hoe, hu, hx, hy⟩ := inv_eqnil hq
  have h1 := opd_sound hs1 hx
  have h2 := opd_sound hs1 hy
  simp only [get, putd, lk, if_true] at h1 h2
  have k1 := one_inv h1
  have k2 := one_inv h2
  have e1 : ∃ ad l c, x1.eval u = .slice ad l c ∧ (ad.isNone = true → rows = []) := by
    cases k1 with
    | c0 k1 => cases k1 with
      | p _ _ k1 => 
        generalize x1.eval u = z at k1
        cases k1 with
        | nil ad cap => exact ⟨_, _, _, rfl, fun _ => rfl⟩
        | sl => exact ⟨_, _, _, rfl, by simp⟩
  have e2 : x1.eval v = .slice none 0 0 := by
    cases k2 with
    | c0 k2 => 
      generalize x1.eval v = z at k2
      cases k2 with
      | nils => rfl
  obtain ⟨ad, l, c, e1, e3⟩ := e1
  have hgd : (eqGuard .eql xt u v (x1.eval u) (x1.eval v)).run G.P w1 = .ok () w1 := guard_plain (by rw [e1]; intro us h; cases h) (by rw [e1]; intro h; cases h)
  have hex : (execOp x1.eval o2).run G.P w1 = .ok (.value (.bool ad.isNone)) w1 := by
    obtain ⟨dst, op, type, pos, after, guard⟩ := o2
    simp only at hoe
    subst hoe
    have hq : (Op.equal xt (.slice ad l c) (.slice none 0 0)).run G.P w1 = .ok ad.isNone w1 := slnil_run (w := w1) hu ad l c 9999
    have hb : (binOp .eql xt (.slice ad l c) (.slice none 0 0)).run G.P w1 = .ok (.bool ad.isNone) w1 := by simp [binOp, hq]
    rw [e1, e2] at hgd
    simp only [execOp, Sem.run_bind, e1, e2, hgd, Result.andThen_ok, hb, Sem.run_pure]
  rw [hex]
  have := h ad.isNone e3
  refine ⟨_, this, keep_weak G kp ids _ _ _ ⟨A, τ, ?_⟩⟩
  rw [kd]
  exact hs1.put hd (pbool_rel _)
end
end Go.AM

