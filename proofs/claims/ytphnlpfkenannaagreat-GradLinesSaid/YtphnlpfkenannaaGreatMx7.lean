import Derived.Test.YtphnlpfkenannaaGreatMx6
set_option linter.unusedVariables false
set_option linter.unusedSimpArgs false
namespace Go.AM
open Go.RowKit (Below)

def Weak (G : Ground) (s s' : AS) : Prop := ∀ a w, SimS G s a w → SimS G s' a w
theorem Weak.refl (G : Ground) (s : AS) : Weak G s s := fun _ _ h => h
theorem Weak.trans {G : Ground} {a b c : AS} (h : Weak G a b) (k : Weak G b c) : Weak G a c := fun x w hx => k x w (h x w hx)
theorem Weak.env {G : Ground} {s : AS} {e : Env} (h : ∀ i, lk e i = lk s.env i ∨ lk e i = .top) : Weak G s { s with env := e } := by
  rintro a w ⟨A, τ, hs⟩
  refine ⟨A, τ, hs.below, hs.a0, hs.a1, hs.alt, hs.size, fun i => ?_, hs.obj, hs.sep, hs.ex, hs.marks⟩
  rcases h i with hi | hi
  · simp only [hi]; exact hs.env i
  · simp only [hi]; exact .v1 (.top _)
theorem Weak.sto {G : Ground} {s : AS} {σ : Sto} (h : ∀ t, lo σ t = lo s.σ t ∨ lo σ t = .none) : Weak G s { s with σ := σ } := by
  rintro a w ⟨A, τ, hs⟩
  refine ⟨A, τ, hs.below, hs.a0, hs.a1, hs.alt, hs.size, hs.env, fun t => ?_, ?_, hs.ex, hs.marks⟩
  · rcases h t with ht | ht
    · rw [ht]; exact hs.obj t
    · rw [ht]; trivial
  · intro t t' b h1 h2 hne hm hb
    have k1 : lo σ t = lo s.σ t := (h t).resolve_right h1
    have k2 : lo σ t' = lo s.σ t' := (h t').resolve_right h2
    rw [k1] at h1 hm; rw [k2] at h2
    exact hs.sep t t' b h1 h2 hne hm hb
inductive TOps where
  | nil
  | op (d : Option Nat) (g : Option (Nat × Bool)) (o : AOp) (rest : TOps)
  | sc (d c : Nat) (want : Bool) (last : Nat) (g : Option (Nat × Bool)) (inner rest : TOps)
def TOps.flat : TOps → List FOp
  | .nil => []
  | .op d g o rest => ⟨d, g, o⟩ :: rest.flat
  | .sc d c want last g inner rest => inner.flat ++ ⟨some d, g, .q (if want then .pick (.t c) (.t last) (.c (pbool false)) else .pick (.t c) (.c (pbool true)) (.t last))⟩ :: rest.flat
def TOps.dsts : TOps → List Nat
  | .nil => []
  | .op d _ _ rest => d.toList ++ rest.dsts
  | .sc d _ _ _ _ inner rest => inner.dsts ++ d :: rest.dsts
def RunI (P : Program) : TOps → (Env → Prop) → Env → Sto → Prop
  | .nil, K, e, _ => K e
  | .op (some d) _ (.q q) rest, K, e, σ => match evQ q e σ with
    | some v => RunI P rest K ((d, v) :: e) σ
    | none => False
  | .op (some d) _ (.call f az) rest, K, e, σ => ∃ r, CallR P f az e σ σ r ∧ RunI P rest K ((d, r.av) :: e) σ
  | .op _ _ _ _, _, _, _ => False
  | .sc d c want last _ inner rest, K, e, σ => ∃ b x, lk e c = pbool b ∧ (b = want → RunI P inner (fun e' => lk e' last = pbool x) e σ) ∧
      RunI P rest K ((d, pbool (if want then b && x else b || x)) :: (inner.dsts.map fun i => (i, AV.top)) ++ e) σ
def Run (P : Program) : TOps → (AS → Prop) → AS → Prop
  | .nil, K, s => K s
  | .op d _ (.q q) rest, K, s => match evQ q s.env s.σ with
    | some v => Run P rest K (putd d v s)
    | none => False
  | .op d _ (.n q) rest, K, s => match d with
    | some t => (match lo s.σ t with
      | .none => if s.nr t then (match evN q s.env t with
        | some (ob, v) => Run P rest K { s with env := (t, v) :: s.env, σ := (t, ob) :: s.σ }
        | none => False) else False
      | _ => False)
    | none => False
  | .op d _ (.s q) rest, K, s => match evS q s.env s.σ (d.getD 0) with
    | some (u, ob, v, k) => (k = 1 → d = some u ∧ s.nr u = true ∧ lo s.σ u = .none) ∧ Run P rest K (putd d v (newSt k u ob s))
    | none => False
  | .op d _ (.call f az) rest, K, s => (∃ r σ', CallR P f az s.env s.σ σ' r ∧ Run P rest K (putd d r.av { s with σ := σ' })) ∨
      (∃ v σ1, CallM P f az s v σ1 ∧ Run P rest K (putd d v { s with σ := σ1 ++ s.σ }))
  | .op _ _ .bad _, _, _ => False
  | .sc d c want last _ inner rest, K, s => ∃ b x, lk s.env c = pbool b ∧ (b = want → RunI P inner (fun e' => lk e' last = pbool x) s.env s.σ) ∧
      Run P rest K { s with env := (d, pbool (if want then b && x else b || x)) :: (inner.dsts.map fun i => (i, AV.top)) ++ s.env }
def TOps.ok (g : Option (Nat × Bool)) (U : List Nat) : TOps → Bool
  | .nil => true
  | .op d g' _ rest => g' == g && (match g, d with | some (c, _), some t => t != c | _, _ => true) && rest.ok g (d.toList ++ U)
  | .sc d c want last g' inner rest => g' == g && (match g with | some (c', _) => d != c' && !inner.dsts.contains c' && U.contains c | none => true) && !inner.dsts.contains c &&
      inner.ok (some (c, want)) [] && inner.dsts.contains last && rest.ok g (d :: inner.dsts ++ U)
def TOps.lt (nt : Nat) (t : TOps) : Bool := t.dsts.all (· < nt)
inductive Steps (P : Program) (G : Ground) : List FOp → AS → AS → Prop
  | nil {s : AS} : Steps P G [] s s
  | cons {o : FOp} {l : List FOp} {s s1 s2 : AS} (h : FStep P G.nt o s s1) (t : Steps P G l s1 s2) : Steps P G (o :: l) s s2
  | weak {l : List FOp} {s s1 s2 : AS} (h : Weak G s s1) (t : Steps P G l s1 s2) : Steps P G l s s2
  | yld {d : Option Nat} {f : Opd} {az : List Opd} {l : List FOp} {s s2 : AS} {σ0 σ1 : Sto} {R : Loop} {lp : Nat} {fr : List Nat} (hd : ∀ t, d = some t → t < G.nt) (h : YStep G f az s σ1 R lp σ0 fr)
      (t : Steps P G l (putd d (pbool true) { s with σ := σ1 ++ s.σ }) s2) : Steps P G (⟨d, none, .call f az⟩ :: l) s s2
theorem Steps.append {P : Program} {G : Ground} {l m : List FOp} {s s1 s2 : AS} (h : Steps P G l s s1) (k : Steps P G m s1 s2) : Steps P G (l ++ m) s s2 := by
  induction h with
  | nil => exact k
  | cons h _ ih => exact .cons h (ih k)
  | weak h _ ih => exact .weak h (ih k)
  | yld hd h _ ih => exact .yld hd h (ih k)
theorem skips {P : Program} {G : Ground} : ∀ {t : TOps} {U : List Nat} {g : Option (Nat × Bool)} {s : AS} (c : Nat) (want : Bool), g = some (c, want) → t.ok g U = true → t.lt G.nt = true →
    (lk s.env c = pbool (!want) ∨ lk s.env c = .und) → (∀ i ∈ U, lk s.env i = .und) →
    ∃ s', Steps P G t.flat s s' ∧ (∀ i ∈ t.dsts, lk s'.env i = .und) ∧ (∀ i, i ∉ t.dsts → lk s'.env i = lk s.env i) ∧ s'.σ = s.σ ∧ s'.ex = s.ex
  | .nil, U, g, s, c, want, hg, hok, hlt, hc, hU => ⟨s, .nil, fun i hi => by simp [TOps.dsts] at hi, fun _ _ => rfl, rfl, rfl⟩
  | .op d g' o rest, U, g, s, c, want, hg, hok, hlt, hc, hU => by
    subst hg
    simp only [TOps.ok, Bool.and_eq_true, beq_iff_eq] at hok
    obtain ⟨⟨hg', hd⟩, hrest⟩ := hok
    subst hg'
    have hm : gmet s.env (some (c, want)) = some false := by
      rcases hc with hc | hc
      · simp only [gmet, hc, pbool]; cases want <;> rfl
      · simp only [gmet, hc]
    have hlt1 : ∀ t, d = some t → t < G.nt := by
      intro t ht; subst ht
      simp only [TOps.lt, TOps.dsts, Option.toList, List.all_append, Bool.and_eq_true, List.all_cons, List.all_nil, decide_eq_true_eq] at hlt
      exact hlt.1.1
    have hlt2 : rest.lt G.nt = true := by
      simp only [TOps.lt, TOps.dsts, List.all_append, Bool.and_eq_true] at hlt ⊢
      exact hlt.2
    have hput : ∀ i, lk (putd d .und s).env i = if d = some i then .und else lk s.env i := by
      intro i
      cases d with
      | none => simp [putd]
      | some t =>
        simp only [putd, lk_put]
        by_cases hi : i = t
        · subst hi; simp
        · rw [if_neg hi, if_neg (fun e => hi (by cases e; rfl))]
    have hc' : lk (putd d .und s).env c = pbool (!want) ∨ lk (putd d .und s).env c = .und := by
      rw [hput]
      split
      · exact .inr rfl
      · exact hc
    have hU' : ∀ i ∈ d.toList ++ U, lk (putd d .und s).env i = .und := by
      intro i hi
      rw [hput]
      split
      · rfl
      · rename_i hne
        rcases List.mem_append.1 hi with hi | hi
        · cases d with
          | none => simp at hi
          | some t => simp at hi; exact absurd (by rw [hi]) hne
        · exact hU i hi
    obtain ⟨s', h1, h2, h3, h4, h5⟩ := skips (P := P) (G := G) (t := rest) (s := putd d .und s) c want rfl hrest hlt2 hc' hU'
    refine ⟨s', .cons (.skip hm hlt1) h1, fun i hi => ?_, fun i hi => ?_, ?_, ?_⟩
    · by_cases hr : i ∈ rest.dsts
      · exact h2 i hr
      · rw [h3 i hr, hput]
        simp only [TOps.dsts, List.mem_append] at hi
        rcases hi with hi | hi
        · rw [if_pos (by cases d with | none => simp at hi | some t => simp at hi; rw [hi])]
        · exact absurd hi hr
    · simp only [TOps.dsts, List.mem_append, not_or] at hi
      rw [h3 i hi.2, hput, if_neg (fun e => hi.1 (by rw [e]; simp))]
    · rw [h4]; cases d <;> rfl
    · rw [h5]; cases d <;> rfl
  | .sc d c2 want2 last g' inner rest, U, g, s, c, want, hg, hok, hlt, hc, hU => by
    subst hg
    simp only [TOps.ok, Bool.and_eq_true, beq_iff_eq, bne_iff_ne, ne_eq, Bool.not_eq_true', List.contains_eq_mem, decide_eq_true_eq, decide_eq_false_iff_not] at hok
    obtain ⟨⟨⟨⟨⟨hg', ⟨⟨hdc, hic⟩, hUc⟩⟩, hic2⟩, hinner⟩, hlast⟩, hrest⟩ := hok
    subst hg'
    have hlti : inner.lt G.nt = true := by
      simp only [TOps.lt, TOps.dsts, List.all_append, Bool.and_eq_true, List.all_cons] at hlt ⊢
      exact hlt.1
    have hltd : d < G.nt := by
      simp only [TOps.lt, TOps.dsts, List.all_append, Bool.and_eq_true, List.all_cons, decide_eq_true_eq] at hlt
      exact hlt.2.1
    have hltr : rest.lt G.nt = true := by
      simp only [TOps.lt, TOps.dsts, List.all_append, Bool.and_eq_true, List.all_cons] at hlt ⊢
      exact hlt.2.2
    obtain ⟨s1, a1, a2, a3, a4, a5⟩ := skips (P := P) (G := G) (t := inner) (s := s) c2 want2 rfl hinner hlti (.inr (hU c2 hUc)) (fun i hi => by simp at hi)
    have hc1 : lk s1.env c = pbool (!want) ∨ lk s1.env c = .und := by rw [a3 c hic]; exact hc
    have hm : gmet s1.env (some (c, want)) = some false := by
      rcases hc1 with hc | hc
      · simp only [gmet, hc, pbool]; cases want <;> rfl
      · simp only [gmet, hc]
    have hc2 : lk (putd (some d) .und s1).env c = pbool (!want) ∨ lk (putd (some d) .und s1).env c = .und := by
      simp only [putd, lk_put]
      rw [if_neg (fun e => hdc e.symm)]; exact hc1
    obtain ⟨s2, b1, b2, b3, b4, b5⟩ := skips (P := P) (G := G) (t := rest) (s := putd (some d) .und s1) c want rfl hrest hltr hc2 (fun i hi => by
      simp only [putd, lk_put]
      split
      · rfl
      · rename_i hne
        simp only [List.cons_append, List.mem_cons, List.mem_append] at hi
        rcases hi with hi | hi | hi
        · exact absurd hi hne
        · exact a2 i hi
        · by_cases hin : i ∈ inner.dsts
          · exact a2 i hin
          · rw [a3 i hin]; exact hU i hi)
    refine ⟨s2, a1.append (.cons (.skip hm (fun t ht => by cases ht; exact hltd)) b1), fun i hi => ?_, fun i hi => ?_, ?_, ?_⟩
    · by_cases hr : i ∈ rest.dsts
      · exact b2 i hr
      · rw [b3 i hr]
        simp only [putd, lk_put]
        split
        · rfl
        · rename_i hne
          simp only [TOps.dsts, List.mem_append, List.mem_cons] at hi
          rcases hi with hi | hi | hi
          · exact a2 i hi
          · exact absurd hi hne
          · exact absurd hi hr
    · simp only [TOps.dsts, List.mem_append, List.mem_cons, not_or] at hi
      rw [b3 i hi.2.2]
      simp only [putd, lk_put]
      rw [if_neg hi.2.1, a3 i hi.1]
    · rw [b4]; exact a4
    · rw [b5]; exact a5
theorem topd (ds : List Nat) (e : Env) (i : Nat) : lk ((ds.map fun i => (i, AV.top)) ++ e) i = if i ∈ ds then .top else lk e i := by
  induction ds with
  | nil => simp
  | cons d ds ih =>
    simp only [List.map_cons, List.cons_append, lk_put, ih, List.mem_cons]
    by_cases h : i = d
    · simp [h]
    · simp [h]
theorem sc_sound {P : Program} {G : Ground} {inner : TOps} {s : AS} {d c : Nat} {want : Bool} {last : Nat} {g : Option (Nat × Bool)} (hinner : inner.ok (some (c, want)) [] = true) (hlt : inner.lt G.nt = true)
    (hd : d < G.nt) (hic : c ∉ inner.dsts) (hlast : last ∈ inner.dsts) {b x : Bool} (hb : lk s.env c = pbool b) (hin : b = want → RunI P inner (fun e' => lk e' last = pbool x) s.env s.σ)
    (hg : ∀ e', (∀ i, i ∉ inner.dsts → lk e' i = lk s.env i) → gmet e' g = some true)
    (hrun : ∀ K : Env → Prop, (b = want ∧ RunI P inner K s.env s.σ) → ∃ e', Steps P G inner.flat s { s with env := e' } ∧ K e' ∧ (∀ i, i ∉ inner.dsts → lk e' i = lk s.env i)) :
    ∃ s1, Steps P G (inner.flat ++ [⟨some d, g, .q (if want then .pick (.t c) (.t last) (.c (pbool false)) else .pick (.t c) (.c (pbool true)) (.t last))⟩]) s s1 ∧
      Weak G s1 { s with env := (d, pbool (if want then b && x else b || x)) :: (inner.dsts.map fun i => (i, AV.top)) ++ s.env } := by
  have fin : ∀ (s1 : AS) (v : AV), (∀ i, i ∉ inner.dsts → lk s1.env i = lk s.env i) → s1.σ = s.σ → s1.ex = s.ex → v = pbool (if want then b && x else b || x) →
      Weak G { s1 with env := (d, v) :: s1.env } { s with env := (d, pbool (if want then b && x else b || x)) :: (inner.dsts.map fun i => (i, AV.top)) ++ s.env } := by
    intro s1 v h1 h2 h3 hv
    subst hv
    have e1 : s = { s1 with env := s.env } := by
      cases s; cases s1; simp only at h2 h3; subst h2 h3; rfl
    have := Weak.env (G := G) (s := { s1 with env := (d, pbool (if want then b && x else b || x)) :: s1.env }) (e := (d, pbool (if want then b && x else b || x)) :: (inner.dsts.map fun i => (i, AV.top)) ++ s.env) (fun i => by
      simp only [List.cons_append, lk_put, topd]
      by_cases hi : i = d
      · left; rw [if_pos hi, if_pos hi]
      · rw [if_neg hi, if_neg hi]
        by_cases hd : i ∈ inner.dsts
        · right; rw [if_pos hd]
        · left; rw [if_neg hd, h1 i hd])
    rw [e1]; exact this
  by_cases hbw : b = want
  · obtain ⟨e', h1, h2, h3⟩ := hrun _ ⟨hbw, hin hbw⟩
    have hc' : lk e' c = pbool b := by rw [h3 c hic]; exact hb
    have hev : evQ (if want then .pick (.t c) (.t last) (.c (pbool false)) else .pick (.t c) (.c (pbool true)) (.t last)) e' s.σ = some (pbool (if want then b && x else b || x)) := by
      subst hbw
      cases b
      · have hc2 : lk e' c = .one (.p (.bool false)) := hc'
        simp only [Bool.false_eq_true, if_false, evQ, get, hc2, h2, cond_false, Bool.false_or]
      · have hc2 : lk e' c = .one (.p (.bool true)) := hc'
        simp only [if_true, evQ, get, hc2, h2, cond_true, Bool.true_and]
    refine ⟨_, h1.append (.cons (.run (hg e' h3) (fun t ht => by cases ht; exact hd) (.q hev)) .nil), ?_⟩
    exact fin { s with env := e' } _ h3 rfl rfl rfl
  · have hbn : b = !want := by cases b <;> cases want <;> simp_all
    obtain ⟨s1, h1, h2, h3, h4, h5⟩ := skips (P := P) (G := G) (t := inner) (s := s) c want rfl hinner hlt (.inl (by rw [hb, hbn])) (fun i hi => by simp at hi)
    have hc' : lk s1.env c = pbool b := by rw [h3 c hic]; exact hb
    have hev : evQ (if want then .pick (.t c) (.t last) (.c (pbool false)) else .pick (.t c) (.c (pbool true)) (.t last)) s1.env s1.σ = some (pbool (if want then b && x else b || x)) := by
      subst hbn
      cases want
      · have hc2 : lk s1.env c = .one (.p (.bool true)) := hc'
        simp only [Bool.false_eq_true, if_false, evQ, get, hc2, cond_true, Bool.not_false, Bool.true_or]
      · have hc2 : lk s1.env c = .one (.p (.bool false)) := hc'
        simp only [if_true, evQ, get, hc2, cond_false, Bool.not_true, Bool.false_and]
    refine ⟨_, h1.append (.cons (.run (hg _ h3) (fun t ht => by cases ht; exact hd) (.q hev)) .nil), ?_⟩
    exact fin s1 _ h3 h4 h5 rfl
theorem runI_sound {P : Program} {G : Ground} : ∀ {t : TOps} {K : Env → Prop} {s : AS} {U : List Nat} (c : Nat) (want : Bool), t.ok (some (c, want)) U = true → t.lt G.nt = true → lk s.env c = pbool want →
    RunI P t K s.env s.σ → ∃ e', Steps P G t.flat s { s with env := e' } ∧ K e' ∧ (∀ i, i ∉ t.dsts → lk e' i = lk s.env i)
  | .nil, K, s, U, c, want, hok, hlt, hc, hr => ⟨s.env, .nil, hr, fun _ _ => rfl⟩
  | .op d g' o rest, K, s, U, c, want, hok, hlt, hc, hr => by
    simp only [TOps.ok, Bool.and_eq_true, beq_iff_eq] at hok
    obtain ⟨⟨hg', hd⟩, hrest⟩ := hok
    subst hg'
    have hm : gmet s.env (some (c, want)) = some true := by
      simp only [gmet, hc, pbool]; cases want <;> rfl
    cases d with
    | none => simp only [RunI] at hr
    | some t =>
      have hlt1 : ∀ u, some t = some u → u < G.nt := by
        intro u ht; cases ht
        simp only [TOps.lt, TOps.dsts, Option.toList, List.all_append, Bool.and_eq_true, List.all_cons, List.all_nil, decide_eq_true_eq] at hlt
        exact hlt.1.1
      have hlt2 : rest.lt G.nt = true := by
        simp only [TOps.lt, TOps.dsts, List.all_append, Bool.and_eq_true] at hlt ⊢
        exact hlt.2
      have htc : t ≠ c := by simpa using hd
      have go : ∀ v, FStep P G.nt ⟨some t, some (c, want), o⟩ s { s with env := (t, v) :: s.env } → RunI P rest K ((t, v) :: s.env) s.σ →
          ∃ e', Steps P G (TOps.op (some t) (some (c, want)) o rest).flat s { s with env := e' } ∧ K e' ∧ (∀ i, i ∉ (TOps.op (some t) (some (c, want)) o rest).dsts → lk e' i = lk s.env i) := by
        intro v hst hrun
        obtain ⟨e', h1, h2, h3⟩ := runI_sound (P := P) (G := G) (t := rest) (s := { s with env := (t, v) :: s.env }) c want hrest hlt2 (by simp only [lk_put]; rw [if_neg (Ne.symm htc)]; exact hc) hrun
        refine ⟨e', .cons hst h1, h2, fun i hi => ?_⟩
        simp only [TOps.dsts, Option.toList, List.mem_append, List.mem_singleton, not_or] at hi
        rw [h3 i hi.2]
        simp only [lk_put]
        rw [if_neg hi.1]
      cases o with
      | q q =>
        simp only [RunI] at hr
        split at hr
        · rename_i v hv
          exact go v (.run hm hlt1 (.q hv)) hr
        · exact hr.elim
      | n q => simp only [RunI] at hr
      | s q => simp only [RunI] at hr
      | call f az =>
        simp only [RunI] at hr
        obtain ⟨r, hcall, hr⟩ := hr
        have := FStep.run (P := P) (nt := G.nt) (o := ⟨some t, some (c, want), .call f az⟩) hm hlt1 (.call hcall)
        exact go r.av this hr
      | bad => simp only [RunI] at hr
  | .sc d c2 want2 last g' inner rest, K, s, U, c, want, hok, hlt, hc, hr => by
    simp only [TOps.ok, Bool.and_eq_true, beq_iff_eq, bne_iff_ne, ne_eq, Bool.not_eq_true', List.contains_eq_mem, decide_eq_true_eq, decide_eq_false_iff_not] at hok
    obtain ⟨⟨⟨⟨⟨hg', ⟨⟨hdc, hic⟩, hUc⟩⟩, hic2⟩, hinner⟩, hlast⟩, hrest⟩ := hok
    subst hg'
    have hlti : inner.lt G.nt = true := by
      simp only [TOps.lt, TOps.dsts, List.all_append, Bool.and_eq_true, List.all_cons] at hlt ⊢
      exact hlt.1
    have hltd : d < G.nt := by
      simp only [TOps.lt, TOps.dsts, List.all_append, Bool.and_eq_true, List.all_cons, decide_eq_true_eq] at hlt
      exact hlt.2.1
    have hltr : rest.lt G.nt = true := by
      simp only [TOps.lt, TOps.dsts, List.all_append, Bool.and_eq_true, List.all_cons] at hlt ⊢
      exact hlt.2.2
    simp only [RunI] at hr
    obtain ⟨b, x, hb, hin, hr⟩ := hr
    obtain ⟨e1, hst, hde⟩ := sc_sound (P := P) (G := G) (inner := inner) (s := s) (d := d) (c := c2) (want := want2) (last := last) (g := some (c, want)) hinner hlti hltd hic2 hlast hb hin
      (fun e' he' => by
        have : lk e' c = lk s.env c := he' c hic
        simp only [gmet, this, hc, pbool]; cases want <;> rfl)
      (fun K' hr' => runI_sound (P := P) (G := G) (t := inner) (s := s) c2 want2 hinner hlti (by rw [hb]; exact congrArg pbool hr'.1) hr'.2)
    obtain ⟨e', h1, h2, h3⟩ := runI_sound (P := P) (G := G) (t := rest) (s := { s with env := (d, pbool (if want2 then b && x else b || x)) :: (inner.dsts.map fun i => (i, AV.top)) ++ s.env }) c want hrest hltr
      (by simp only [List.cons_append, lk_put, topd]; rw [if_neg (fun e => hdc e.symm), if_neg hic]; exact hc) hr
    refine ⟨e', (hst.append (l := inner.flat ++ [_]) (.weak hde h1)) |> (by simpa [TOps.flat] using ·), h2, fun i hi => ?_⟩
    simp only [TOps.dsts, List.mem_append, List.mem_cons, not_or] at hi
    rw [h3 i hi.2.2]
    simp only [List.cons_append, lk_put, topd]
    rw [if_neg hi.2.1, if_neg hi.1]
end Go.AM

