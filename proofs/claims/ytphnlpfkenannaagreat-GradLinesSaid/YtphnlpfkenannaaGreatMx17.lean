import Derived.Test.YtphnlpfkenannaaGreatMx16
set_option linter.unusedVariables false
set_option linter.unusedSimpArgs false
namespace Go.AM
open Go.RowKit (Below)

mutual
def AC.ren (ρ : Nat → Nat) : AC → AC
  | .ptr t i s o => .ptr (ρ t) i s o
  | .msl t o s l c => .msl (ρ t) o s l c
  | .mmap t => .mmap (ρ t)
  | .mfn f a b => .mfn f (AC.renL ρ a) (AC.renL ρ b)
  | .p v => .p v
  | .nils => .nils
  | .raw x => .raw x
def AC.renL (ρ : Nat → Nat) : List AC → List AC
  | [] => []
  | c :: cs => AC.ren ρ c :: AC.renL ρ cs
end
mutual
def AV.ren (ρ : Nat → Nat) : AV → AV
  | .one c => .one (c.ren ρ)
  | .agg cs => .agg (AC.renL ρ cs)
  | .tup xs => .tup (AV.renL ρ xs)
  | .top => .top
  | .und => .und
def AV.renL (ρ : Nat → Nat) : List AV → List AV
  | [] => []
  | c :: cs => AV.ren ρ c :: AV.renL ρ cs
end
theorem AC.renL_map (ρ : Nat → Nat) : ∀ cs : List AC, AC.renL ρ cs = cs.map (AC.ren ρ)
  | [] => rfl
  | c :: cs => by rw [AC.renL, AC.renL_map ρ cs]; rfl
theorem AV.renL_map (ρ : Nat → Nat) : ∀ cs : List AV, AV.renL ρ cs = cs.map (AV.ren ρ)
  | [] => rfl
  | c :: cs => by rw [AV.renL, AV.renL_map ρ cs]; rfl
mutual
theorem AC.ren_ren {ρ : Nat → Nat} (h : ∀ t, ρ (ρ t) = t) : ∀ c : AC, (c.ren ρ).ren ρ = c
  | .ptr t i s o => by simp only [AC.ren, h]
  | .msl t o s l c => by simp only [AC.ren, h]
  | .mmap t => by simp only [AC.ren, h]
  | .mfn f a b => by simp only [AC.ren, AC.renL_renL h a, AC.renL_renL h b]
  | .p v => rfl
  | .nils => rfl
  | .raw x => rfl
theorem AC.renL_renL {ρ : Nat → Nat} (h : ∀ t, ρ (ρ t) = t) : ∀ cs : List AC, AC.renL ρ (AC.renL ρ cs) = cs
  | [] => rfl
  | c :: cs => by simp only [AC.renL, AC.ren_ren h c, AC.renL_renL h cs]
end
mutual
theorem AV.ren_ren {ρ : Nat → Nat} (h : ∀ t, ρ (ρ t) = t) : ∀ c : AV, (c.ren ρ).ren ρ = c
  | .one c => by simp only [AV.ren, AC.ren_ren h]
  | .agg cs => by simp only [AV.ren, AC.renL_renL h]
  | .tup xs => by simp only [AV.ren, AV.renL_renL h xs]
  | .top => rfl
  | .und => rfl
theorem AV.renL_renL {ρ : Nat → Nat} (h : ∀ t, ρ (ρ t) = t) : ∀ cs : List AV, AV.renL ρ (AV.renL ρ cs) = cs
  | [] => rfl
  | c :: cs => by simp only [AV.renL, AV.ren_ren h c, AV.renL_renL h cs]
end
theorem beq_ren {ρ : Nat → Nat} (h : ∀ t, ρ (ρ t) = t) (t d : Nat) : (ρ t == d) = (t == ρ d) := by
  rw [Bool.eq_iff_iff, beq_iff_eq, beq_iff_eq]
  exact ⟨fun e => by rw [← e, h], fun e => by rw [e, h]⟩
mutual
theorem AC.ren_has {ρ : Nat → Nat} (h : ∀ t, ρ (ρ t) = t) (d : Nat) : ∀ c : AC, (c.ren ρ).has d = c.has (ρ d)
  | .ptr t _ _ _ => by simp only [AC.ren, AC.has]; exact beq_ren h t d
  | .msl t _ _ _ _ => by simp only [AC.ren, AC.has]; exact beq_ren h t d
  | .mmap t => by simp only [AC.ren, AC.has]; exact beq_ren h t d
  | .mfn f a b => by simp only [AC.ren, AC.has, AC.renL_has h d a, AC.renL_has h d b]
  | .p v => rfl
  | .nils => rfl
  | .raw x => rfl
theorem AC.renL_has {ρ : Nat → Nat} (h : ∀ t, ρ (ρ t) = t) (d : Nat) : ∀ cs : List AC, AC.has.hasL d (AC.renL ρ cs) = AC.has.hasL (ρ d) cs
  | [] => rfl
  | c :: cs => by simp only [AC.renL, AC.has.hasL, AC.ren_has h d c, AC.renL_has h d cs]
end
mutual
theorem AV.ren_has {ρ : Nat → Nat} (h : ∀ t, ρ (ρ t) = t) (d : Nat) : ∀ c : AV, (c.ren ρ).has d = c.has (ρ d)
  | .one c => AC.ren_has h d c
  | .agg cs => AC.renL_has h d cs
  | .tup xs => AV.renL_has h d xs
  | .top => rfl
  | .und => rfl
theorem AV.renL_has {ρ : Nat → Nat} (h : ∀ t, ρ (ρ t) = t) (d : Nat) : ∀ cs : List AV, AV.has.hasV d (AV.renL ρ cs) = AV.has.hasV (ρ d) cs
  | [] => rfl
  | c :: cs => by simp only [AV.renL, AV.has.hasV, AV.ren_has h d c, AV.renL_has h d cs]
end
section
variable {A : Nat → Prop} {τ τ2 : Tau} {w : World} {ρ : Nat → Nat}
theorem all2_map {α β : Type} {R S : α → β → Prop} {f : α → α} {az : List α} {bs : List β} (h : All2 R az bs) (k : ∀ a b, R a b → S (f a) b) : All2 S (az.map f) bs := by
  induction h with
  | nil => exact .nil
  | cons x _ ih => exact .cons (k _ _ x) ih
theorem all2_unmap {α β : Type} {R S : α → β → Prop} {f : α → α} : ∀ {az : List α} {bs : List β}, All2 R (az.map f) bs → (∀ a b, R (f a) b → S a b) → All2 S az bs
  | [], bs, h, k => by cases h; exact .nil
  | a :: az, bs, h, k => by
    cases h with
    | cons x t => exact .cons (k _ _ x) (all2_unmap t k)
theorem C0.ren (hτ : ∀ t, τ2 (ρ t) = τ t) {c : AC} {x : Value} (h : C0 A τ w c x) : C0 A τ2 w (c.ren ρ) x := by
  cases h with
  | p v x h => exact .p v x h
  | nils => exact .nils
  | ptr t i s off b h => exact .ptr _ i s off b ((hτ t).trans h)
  | mslN t o s cap a h hc => exact .mslN _ o s cap a ((hτ t).trans h) hc
  | msl t o s len b c cap h hc hl hr => exact .msl _ o s len b c cap ((hτ t).trans h) hc hl hr
  | mmap t b h => exact .mmap _ b ((hτ t).trans h)
  | raw x h => exact .raw x h
theorem CRel.ren (hτ : ∀ t, τ2 (ρ t) = τ t) {c : AC} {x : Value} (h : CRel A τ w c x) : CRel A τ2 w (c.ren ρ) x := by
  cases h with
  | c0 h => exact .c0 (h.ren hτ)
  | mfn f first caps vf vc h1 h2 =>
    rw [AC.ren, AC.renL_map, AC.renL_map]
    exact .mfn f _ _ vf vc (all2_map h1 fun _ _ h => h.ren hτ) (all2_map h2 fun _ _ h => h.ren hτ)
theorem V1.ren (hτ : ∀ t, τ2 (ρ t) = τ t) {c : AV} {x : Value} (h : V1 A τ w c x) : V1 A τ2 w (c.ren ρ) x := by
  cases h with
  | one h => exact .one (h.ren hτ)
  | agg h => rw [AV.ren, AC.renL_map]; exact .agg (all2_map h fun _ _ h => h.ren hτ)
  | top => exact .top _
  | und => exact .und
theorem VRel.ren (hτ : ∀ t, τ2 (ρ t) = τ t) {c : AV} {x : Value} (h : VRel A τ w c x) : VRel A τ2 w (c.ren ρ) x := by
  cases h with
  | v1 h => exact .v1 (h.ren hτ)
  | tup h => rw [AV.ren, AV.renL_map]; exact .tup (all2_map h fun _ _ h => h.ren hτ)
theorem VRel.unren (hρ : ∀ t, ρ (ρ t) = t) {c : AV} {x : Value} (h : VRel A τ w (c.ren ρ) x) : VRel A (fun t => τ (ρ t)) w c x := by
  have := h.ren (ρ := ρ) (τ2 := fun t => τ (ρ t)) (fun t => by show τ (ρ (ρ t)) = τ t; rw [hρ])
  rwa [AV.ren_ren hρ] at this
theorem hasV_false {t : Nat} {cs : List AV} : AV.has.hasV t cs = false ↔ ∀ c ∈ cs, c.has t = false := by
  induction cs with
  | nil => simp [AV.has.hasV]
  | cons c cs ih => simp [AV.has.hasV, ih]
end
def Bnd (f : Nat → Bool) : Prop := ∃ b, ∀ t, b ≤ t → f t = false
theorem Bnd.or {f g : Nat → Bool} (h : Bnd f) (k : Bnd g) : Bnd (fun t => f t || g t) :=
  let ⟨b, hb⟩ := h; let ⟨c, hc⟩ := k; ⟨max b c, fun t ht => by show (f t || g t) = false; rw [hb t (by omega), hc t (by omega)]; rfl⟩
theorem Bnd.eq (u : Nat) : Bnd (fun t => u == t) := ⟨u + 1, fun t ht => by simp; omega⟩
mutual
theorem AC.bnd : ∀ c : AC, Bnd (fun t => AC.has t c)
  | .p _ => ⟨0, fun _ _ => rfl⟩
  | .nils => ⟨0, fun _ _ => rfl⟩
  | .ptr u _ _ _ => Bnd.eq u
  | .msl u _ _ _ _ => Bnd.eq u
  | .mmap u => Bnd.eq u
  | .mfn _ a b => Bnd.or (AC.bndL a) (AC.bndL b)
  | .raw _ => ⟨0, fun _ _ => rfl⟩
theorem AC.bndL : ∀ cs : List AC, Bnd (fun t => AC.has.hasL t cs)
  | [] => ⟨0, fun _ _ => rfl⟩
  | c :: cs => Bnd.or (AC.bnd c) (AC.bndL cs)
end
mutual
theorem AV.bnd : ∀ c : AV, Bnd (fun t => AV.has t c)
  | .one c => AC.bnd c
  | .agg cs => AC.bndL cs
  | .tup xs => AV.bndL xs
  | .top => ⟨0, fun _ _ => rfl⟩
  | .und => ⟨0, fun _ _ => rfl⟩
theorem AV.bndL : ∀ cs : List AV, Bnd (fun t => AV.has.hasV t cs)
  | [] => ⟨0, fun _ _ => rfl⟩
  | c :: cs => Bnd.or (AV.bnd c) (AV.bndL cs)
end
def AO.has (d : Nat) : AO → Bool
  | .cells _ cs => AC.has.hasL d cs
  | _ => false
def stoHas (d : Nat) (σ : Sto) : Bool := σ.any fun p => p.1 == d || p.2.has d
theorem sto_bnd : ∀ σ : Sto, Bnd (fun t => stoHas t σ)
  | [] => ⟨0, fun _ _ => rfl⟩
  | (u, o) :: σ => by
    have h1 : Bnd (fun t => AO.has t o) := by
      cases o with
      | cells m cs => exact AC.bndL cs
      | none => exact ⟨0, fun _ _ => rfl⟩
      | arr => exact ⟨0, fun _ _ => rfl⟩
      | map => exact ⟨0, fun _ _ => rfl⟩
    obtain ⟨b, hb⟩ := Bnd.or (Bnd.or (Bnd.eq u) h1) (sto_bnd σ)
    exact ⟨b, fun t ht => by have := hb t ht; simpa [stoHas] using this⟩
theorem stoHas_lo {d : Nat} : ∀ {σ : Sto}, stoHas d σ = false → lo σ d = .none ∧ ∀ t, (lo σ t).has d = false
  | [], _ => ⟨rfl, fun _ => rfl⟩
  | (u, o) :: σ, h => by
    simp only [stoHas, List.any_cons, Bool.or_eq_false_iff, beq_eq_false_iff_ne] at h
    obtain ⟨h1, h2⟩ := stoHas_lo (σ := σ) h.2
    refine ⟨by simp only [lo]; rw [if_neg (fun e => h.1.1 e.symm)]; exact h1, fun t => ?_⟩
    simp only [lo]
    split
    · exact h.1.2
    · exact h2 t
theorem ORel.retau {M A : Nat → Prop} {τ τ' : Tau} {w : World} {t : Nat} {o : AO} (h : ORel M A τ w t o) (ht : o ≠ .none → τ' t = τ t) (hτ : ∀ u, o.has u = true → τ' u = τ u) : ORel M A τ' w t o := by
  cases o with
  | none => trivial
  | cells m cs =>
    obtain ⟨b, xs, e, h1, h2, h3, h4⟩ := h
    exact ⟨b, xs, e, (ht (by simp)).trans h1, h2, h3.stepL (p := fun c => ∀ t, c.has t = true → τ' t = τ t) (fun c hc t ht => hτ t (hasL_mem hc ht)) (fun _ _ hp h => h.step (WStep.refl w) (fun _ h => h) (fun _ _ => rfl) hp), h4⟩
  | arr m s rows =>
    obtain ⟨h0, hl, h⟩ := h
    refine ⟨h0, hl, ?_⟩
    rcases h with ⟨h1, h2⟩ | ⟨b, xs, e, h1, h2⟩
    · exact .inl ⟨(ht (by simp)).trans h1, h2⟩
    · exact .inr ⟨b, xs, e, (ht (by simp)).trans h1, h2⟩
  | map m es =>
    obtain ⟨b, ces, clock, h1, h2⟩ := h
    exact ⟨b, ces, clock, (ht (by simp)).trans h1, h2⟩
theorem MutC.hide {P : Program} {f : FuncId} {vs : List AV} {σ σ' : Sto} {r : AV} {fr : List Nat} (d : Nat) (h : MutC P f vs σ r σ' (d :: fr))
    (h1 : AV.has.hasV d vs = false) (h2 : r.has d = false) (h3 : stoHas d σ = false) (h4 : stoHas d σ' = false) (h5 : d ∉ fr) : MutC P f vs σ r σ' fr := by
  refine ⟨h.enters, fun A τ w xs ex exs hA hxs hex hfr hob hsp => ?_⟩
  obtain ⟨b, hb⟩ := Bnd.or (Bnd.or (AV.bndL ex) (AV.bndL vs)) (Bnd.or (AV.bnd r) (Bnd.or (sto_bnd σ) (sto_bnd σ')))
  obtain ⟨N, hNb, hNd, hNf⟩ : ∃ N, b ≤ N ∧ N ≠ d ∧ N ∉ fr := by
    refine ⟨b + d + 1 + fr.sum, by omega, by omega, fun hm => ?_⟩
    have : ∀ (l : List Nat) x, x ∈ l → x ≤ l.sum := by
      intro l
      induction l with
      | nil => intro x hx; simp at hx
      | cons y l ih =>
        intro x hx
        rcases List.mem_cons.1 hx with rfl | hx
        · simp
        · have := ih x hx; simp; omega
    have := this fr _ hm
    omega
  have hN := hb N hNb
  simp only [Bool.or_eq_false_iff] at hN
  obtain ⟨⟨n1, n2⟩, n3, n4, n5⟩ := hN
  let ρ : Nat → Nat := fun t => if t = d then N else if t = N then d else t
  have hρd : ρ d = N := by simp [ρ]
  have hρN : ρ N = d := by simp [ρ, hNd]
  have hρo : ∀ t, t ≠ d → t ≠ N → ρ t = t := fun t a b => by simp [ρ, a, b]
  have hρρ : ∀ t, ρ (ρ t) = t := fun t => by
    by_cases a : t = d
    · rw [a, hρd, hρN]
    · by_cases b : t = N
      · rw [b, hρN, hρd]
      · rw [hρo t a b, hρo t a b]
  have s3 := stoHas_lo h3; have s4 := stoHas_lo h4; have m3 := stoHas_lo n4; have m4 := stoHas_lo n5
  -- a number that is spoken of stays
  have st : ∀ (τ : Tau) t, t ≠ d → t ≠ N → (fun u => τ (ρ u)) t = τ t := fun τ t a b => by show τ (ρ t) = τ t; rw [hρo t a b]
  have ne1 : ∀ (g : Nat → Bool) (t : Nat), g d = false → g N = false → g t = true → t ≠ d ∧ t ≠ N := fun g t a b c => ⟨fun e => (by rw [e, a] at c; cases c), fun e => (by rw [e, b] at c; cases c)⟩
  have howner : ∀ {σ : Sto} (τ : Tau), lo σ d = .none → lo σ N = .none → owOf σ (fun u => τ (ρ u)) = owOf σ τ := fun {σ} τ a b => by
    funext k
    apply propext
    constructor
    · rintro ⟨t, hm, ht⟩
      refine ⟨t, hm, ?_⟩
      rw [← st τ t (fun e => by rw [e, a] at hm; cases hm) (fun e => by rw [e, b] at hm; cases hm)]; exact ht
    · rintro ⟨t, hm, ht⟩
      refine ⟨t, hm, ?_⟩
      rw [st τ t (fun e => by rw [e, a] at hm; cases hm) (fun e => by rw [e, b] at hm; cases hm)]; exact ht
  have hsep : ∀ {σ : Sto} (τ : Tau), lo σ d = .none → lo σ N = .none → SepS σ τ → SepS σ (fun u => τ (ρ u)) := fun {σ} τ a b hs t t' k g1 g2 hne hm hk => by
    have e1 := st τ t (fun e => g1 (by rw [e]; exact a)) (fun e => g1 (by rw [e]; exact b))
    have e2 := st τ t' (fun e => g2 (by rw [e]; exact a)) (fun e => g2 (by rw [e]; exact b))
    rw [e1] at hk; rw [e2]
    exact hs t t' k g1 g2 hne hm hk
  have hobj : ∀ {σ : Sto} (τ : Tau) {M A : Nat → Prop} {w : World}, stoHas d σ = false → stoHas N σ = false → (∀ t, ORel M A τ w t (lo σ t)) → ∀ t, ORel M A (fun u => τ (ρ u)) w t (lo σ t) := fun {σ} τ {M A w} a b ho t => by
    have a' := stoHas_lo a; have b' := stoHas_lo b
    exact (ho t).retau (fun hn => st τ t (fun e => hn (by rw [e]; exact a'.1)) (fun e => hn (by rw [e]; exact b'.1)))
      (fun u hu => by have := ne1 (fun u => (lo σ t).has u) u (a'.2 t) (b'.2 t) hu; exact st τ u this.1 this.2)
  have key := h.calls A (fun u => τ (ρ u)) w xs (ex.map (AV.ren ρ)) exs hA
    (hxs.stepL (p := fun c => ∀ t, c.has t = true → (fun u => τ (ρ u)) t = τ t) (fun c hc t ht => by
        have := ne1 (fun u => AV.has.hasV u vs) t h1 n2 (hasV_mem hc ht); exact st τ t this.1 this.2)
      (fun _ _ hp h => h.step (WStep.refl w) (fun _ h => h) (fun _ _ => rfl) hp))
    (all2_map hex fun _ _ h => h.ren (fun t => by show τ (ρ (ρ t)) = τ t; rw [hρρ]))
    (fun u hu v hv => by
      obtain ⟨v0, hv0, rfl⟩ := List.mem_map.1 hv
      rw [AV.ren_has hρρ]
      rcases List.mem_cons.1 hu with rfl | hu
      · rw [hρd]; exact hasV_false.1 n1 v0 hv0
      · rw [hρo u (fun e => h5 (e ▸ hu)) (fun e => hNf (e ▸ hu))]
        exact hfr u hu v0 hv0)
    (hobj τ h3 n4 hob) (hsep τ s3.1 m3.1 hsp)
  rw [howner τ s3.1 m3.1] at key
  refine key.mono ?_
  rintro e w' ⟨x, A', τ', he, hfm, ho, hs, hr, hx⟩
  refine ⟨x, A', fun u => τ' (ρ u), he, hfm, hobj τ' h4 n5 ho, hsep τ' s4.1 m4.1 hs, ?_, ?_⟩
  · exact hr.step (WStep.refl w') (fun _ h => h) (fun _ _ => rfl) (fun t ht => by
      have := ne1 (fun u => r.has u) t h2 n3 ht; exact st τ' t this.1 this.2)
  · exact all2_unmap hx fun _ _ h => h.unren hρρ
def AO.ren (ρ : Nat → Nat) : AO → AO
  | .cells m cs => .cells m (AC.renL ρ cs)
  | .none => .none
  | .arr m s rows => .arr m s rows
  | .map m es => .map m es
def renS (ρ : Nat → Nat) (σ : Sto) : Sto := σ.map fun p => (ρ p.1, p.2.ren ρ)
theorem AO.ren_ren {ρ : Nat → Nat} (h : ∀ t, ρ (ρ t) = t) (o : AO) : (o.ren ρ).ren ρ = o := by
  cases o <;> simp only [AO.ren, AC.renL_renL h]
theorem renS_renS {ρ : Nat → Nat} (h : ∀ t, ρ (ρ t) = t) (σ : Sto) : renS ρ (renS ρ σ) = σ := by
  unfold renS
  rw [List.map_map]
  conv => rhs; rw [← List.map_id σ]
  apply List.map_congr_left
  rintro ⟨t, o⟩ _
  simp only [Function.comp, h, AO.ren_ren h, id]
theorem lo_renS {ρ : Nat → Nat} (h : ∀ t, ρ (ρ t) = t) (σ : Sto) (t : Nat) : lo (renS ρ σ) t = (lo σ (ρ t)).ren ρ := by
  induction σ with
  | nil => rfl
  | cons p σ ih =>
    obtain ⟨u, o⟩ := p
    show (if t = ρ u then o.ren ρ else lo (renS ρ σ) t) = (if ρ t = u then o else lo σ (ρ t)).ren ρ
    by_cases e : t = ρ u
    · rw [if_pos e, if_pos (by rw [e, h])]
    · rw [if_neg e, if_neg (fun k => e (by rw [← k, h])), ih]
def AS.ren (ρ : Nat → Nat) (s : AS) : AS := { env := s.env.map fun p => (p.1, p.2.ren ρ), σ := renS ρ s.σ, ex := s.ex.map (AV.ren ρ) }
theorem lk_ren (ρ : Nat → Nat) (e : Env) (i : Nat) : lk (e.map fun p => (p.1, p.2.ren ρ)) i = (lk e i).ren ρ := by
  induction e with
  | nil => rfl
  | cons p e ih =>
    obtain ⟨j, v⟩ := p
    show (if i = j then v.ren ρ else lk (e.map fun p => (p.1, p.2.ren ρ)) i) = (if i = j then v else lk e i).ren ρ
    split
    · rfl
    · exact ih
theorem AO.ren_none {ρ : Nat → Nat} {o : AO} : o.ren ρ = .none ↔ o = .none := by cases o <;> simp [AO.ren]
theorem AO.ren_mu {ρ : Nat → Nat} (o : AO) : (o.ren ρ).mu = o.mu := by cases o <;> rfl
theorem ORel.ren {M A : Nat → Prop} {τ : Tau} {w : World} {ρ : Nat → Nat} (hρ : ∀ t, ρ (ρ t) = t) {t : Nat} {o : AO} (h : ORel M A τ w (ρ t) o) : ORel M A (fun u => τ (ρ u)) w t (o.ren ρ) := by
  cases o with
  | none => trivial
  | cells m cs =>
    obtain ⟨b, xs, e, h1, h2, h3, h4⟩ := h
    show ORel M A _ w t (.cells m (AC.renL ρ cs))
    rw [AC.renL_map]
    refine ⟨b, xs, e, h1, h2, all2_map h3 fun _ _ h => h.ren (fun u => by show τ (ρ (ρ u)) = τ u; rw [hρ]), ?_⟩
    cases m
    · refine ⟨h4.1, fun c hc => ?_⟩
      obtain ⟨c0, hc0, rfl⟩ := List.mem_map.1 hc
      obtain ⟨v, rfl⟩ := h4.2 c0 hc0
      exact ⟨v, rfl⟩
    · exact h4
  | arr m s rows => exact h
  | map m es => exact h
theorem SimAt.ren {G : Ground} {s : AS} {a : Act} {w : World} {A : Nat → Prop} {τ : Tau} {ρ : Nat → Nat} (hρ : ∀ t, ρ (ρ t) = t) (h : SimAt G s a w A τ) : SimAt G (s.ren ρ) a w A (fun t => τ (ρ t)) := by
  have hτ : ∀ t, (fun u => τ (ρ u)) (ρ t) = τ t := fun t => by show τ (ρ (ρ t)) = τ t; rw [hρ]
  refine ⟨h.below, h.a0, h.a1, h.alt, h.size, fun i => ?_, fun t => ?_, fun t t' b h1 h2 hne hm hb => ?_, ?_, h.marks⟩
  · show VRel A _ w (lk (s.env.map fun p => (p.1, p.2.ren ρ)) i) _
    rw [lk_ren]; exact (h.env i).ren (ρ := ρ) hτ
  · show ORel _ A _ w t (lo (renS ρ s.σ) t)
    rw [lo_renS hρ]; exact (h.obj (ρ t)).ren hρ
  · change lo (renS ρ s.σ) t ≠ .none at h1
    change lo (renS ρ s.σ) t' ≠ .none at h2
    change (lo (renS ρ s.σ) t).mu = true at hm
    rw [lo_renS hρ] at h1 h2 hm
    rw [AO.ren_mu] at hm
    exact h.sep (ρ t) (ρ t') b (fun e => h1 (AO.ren_none.2 e)) (fun e => h2 (AO.ren_none.2 e)) (fun e => hne (by rw [← hρ t, e, hρ])) hm hb
  · exact all2_map h.ex fun _ _ h => h.ren (ρ := ρ) hτ
theorem Weak.ren {G : Ground} {s : AS} {ρ : Nat → Nat} (hρ : ∀ t, ρ (ρ t) = t) : Weak G s (s.ren ρ) := fun a w ⟨A, τ, h⟩ => ⟨A, _, h.ren hρ⟩
def swp (d N t : Nat) : Nat := if t = d then N else if t = N then d else t
theorem swp_swp (d N t : Nat) : swp d N (swp d N t) = t := by
  unfold swp
  by_cases a : t = d
  · rw [if_pos a]
    by_cases b : N = d
    · rw [if_pos b, b, a]
    · rw [if_neg b, if_pos rfl, a]
  · rw [if_neg a]
    by_cases b : t = N
    · rw [if_pos b, if_pos rfl, b]
    · rw [if_neg b, if_neg a, if_neg b]
theorem swp_d (d N : Nat) : swp d N d = N := if_pos rfl
theorem T_room {G : Ground} {F : Fence} {n : Nat} {Q : Exit → AS → Prop} {c : ACode} {s : AS} (d : Nat)
    (h : ∀ ρ : Nat → Nat, (∀ t, ρ (ρ t) = t) → lo (renS ρ s.σ) d = .none → ((renS ρ s.σ).all fun p => p.2.nr d) = true → ((s.ex.map (AV.ren ρ)).all fun v => !v.has d) = true → T G F n c Q (s.ren ρ)) : T G F n c Q s := by
  obtain ⟨b, hb⟩ := Bnd.or (sto_bnd s.σ) (AV.bndL s.ex)
  have hN := hb b (Nat.le_refl _)
  simp only [Bool.or_eq_false_iff] at hN
  have h1 := stoHas_lo hN.1
  refine T_weak (Weak.ren (ρ := swp d b) (swp_swp d b)) (h _ (swp_swp d b) ?_ ?_ ?_)
  · rw [lo_renS (swp_swp d b), swp_d, h1.1]; rfl
  · rw [List.all_eq_true]
    rintro ⟨t, o⟩ hp
    obtain ⟨⟨t0, o0⟩, hp0, e⟩ := List.mem_map.1 hp
    simp only [Prod.mk.injEq] at e
    obtain ⟨rfl, rfl⟩ := e
    have h2 : o0.has b = false := by
      have := hN.1
      simp only [stoHas, List.any_eq_false] at this
      have := this _ hp0
      simp only [Bool.or_eq_true, not_or, Bool.not_eq_true] at this
      exact this.2
    cases o0 with
    | cells m cs =>
      simp only [AO.has] at h2
      show (!AC.has.hasL d (AC.renL (swp d b) cs)) = true
      rw [AC.renL_has (swp_swp d b), swp_d, h2]; rfl
    | none => rfl
    | arr => rfl
    | map => rfl
  · rw [List.all_eq_true]
    intro v hv
    obtain ⟨v0, hv0, rfl⟩ := List.mem_map.1 hv
    rw [AV.ren_has (swp_swp d b), swp_d, hasV_false.1 hN.2 v0 hv0]; rfl
end Go.AM

namespace Go.AM
open Go

structure Bx (Q : Prop) : Prop where
  of : Q
theorem aa {p q : Prop} (h : p) (k : q) : p ∧ q := ⟨h, k⟩
theorem go {A B P Q : Prop} (F : A) (C : B) (k : Q) (h : A → B → Bx Q → P := by
  intro F C k
  repeat' (first | apply T_then | apply then_ret | apply then_exit | apply then_goto | apply rnd_exit | apply rnd_ret | apply rnd_goto | apply noGo_normal | apply noGo_ret | apply noGo_exit | apply jmp_normal | apply jmp_ret | apply jmp_exit | apply jmp_goto | apply inB_normal | apply inB_ret | apply inB_goto | apply inB_exit | refine inB_exit_ne rfl ?_ | ((first | apply T_srK fw | apply T_regK fw); · ((try simp only [TOps.flat, List.cons_append, List.nil_append]); repeat (first | apply X_g0 | apply X_g | apply S_keep | apply X_skip | apply X_skipN | refine X_call ?_ ⟨_, _, _, _, _, _, rfl, rfl, rfl, by rw [hP]; first | assumption | apply C | apply C.1 | apply C.2 | apply C.2.1 | apply C.2.2.1 | apply C.2.2.2.1 | apply C.2.2.2.2.1 | apply C.2.2.2.2.2.1 | apply C.2.2.2.2.2.2.1 | apply C.2.2.2.2.2.2.2.1 | apply C.2.2.2.2.2.2.2.2.1 | apply C.2.2.2.2.2.2.2.2.2.1 | apply C.2.2.2.2.2.2.2.2.2.2.1 | apply C.2.2.2.2.2.2.2.2.2.2.2.1 | apply C.2.2 | apply C.2.2.2 | apply C.2.2.2.2 | apply C.2.2.2.2.2 | apply C.2.2.2.2.2.2 | apply C.2.2.2.2.2.2.2 | apply C.2.2.2.2.2.2.2.2 | apply C.2.2.2.2.2.2.2.2.2 | apply C.2.2.2.2.2.2.2.2.2.2 | apply C.2.2.2.2.2.2.2.2.2.2.2⟩ ?_ | refine X_callI ?_ ⟨_, _, _, _, _, _, _, rfl, rfl, rfl, (by rw [hP]; first | assumption | apply C | apply C.1 | apply C.2 | apply C.2.1 | apply C.2.2.1 | apply C.2.2.2.1 | apply C.2.2.2.2.1 | apply C.2.2.2.2.2.1 | apply C.2.2.2.2.2.2.1 | apply C.2.2.2.2.2.2.2.1 | apply C.2.2.2.2.2.2.2.2.1 | apply C.2.2.2.2.2.2.2.2.2.1 | apply C.2.2.2.2.2.2.2.2.2.2.1 | apply C.2.2.2.2.2.2.2.2.2.2.2.1 | apply C.2.2 | apply C.2.2.2 | apply C.2.2.2.2 | apply C.2.2.2.2.2 | apply C.2.2.2.2.2.2 | apply C.2.2.2.2.2.2.2 | apply C.2.2.2.2.2.2.2.2 | apply C.2.2.2.2.2.2.2.2.2 | apply C.2.2.2.2.2.2.2.2.2.2 | apply C.2.2.2.2.2.2.2.2.2.2.2), rfl, (by rw [hP]; first | assumption | apply C | apply C.1 | apply C.2 | apply C.2.1 | apply C.2.2.1 | apply C.2.2.2.1 | apply C.2.2.2.2.1 | apply C.2.2.2.2.2.1 | apply C.2.2.2.2.2.2.1 | apply C.2.2.2.2.2.2.2.1 | apply C.2.2.2.2.2.2.2.2.1 | apply C.2.2.2.2.2.2.2.2.2.1 | apply C.2.2.2.2.2.2.2.2.2.2.1 | apply C.2.2.2.2.2.2.2.2.2.2.2.1 | apply C.2.2 | apply C.2.2.2 | apply C.2.2.2.2 | apply C.2.2.2.2.2 | apply C.2.2.2.2.2.2 | apply C.2.2.2.2.2.2.2 | apply C.2.2.2.2.2.2.2.2 | apply C.2.2.2.2.2.2.2.2.2 | apply C.2.2.2.2.2.2.2.2.2.2 | apply C.2.2.2.2.2.2.2.2.2.2.2)⟩ ?_ | refine X_callM ?_ (callM_mk rfl rfl (by rw [hP]; first | assumption | apply C | apply C.1 | apply C.2 | apply C.2.1 | apply C.2.2.1 | apply C.2.2.2.1 | apply C.2.2.2.2.1 | apply C.2.2.2.2.2.1 | apply C.2.2.2.2.2.2.1 | apply C.2.2.2.2.2.2.2.1 | apply C.2.2.2.2.2.2.2.2.1 | apply C.2.2.2.2.2.2.2.2.2.1 | apply C.2.2.2.2.2.2.2.2.2.2.1 | apply C.2.2.2.2.2.2.2.2.2.2.2.1 | apply C.2.2 | apply C.2.2.2 | apply C.2.2.2.2 | apply C.2.2.2.2.2 | apply C.2.2.2.2.2.2 | apply C.2.2.2.2.2.2.2 | apply C.2.2.2.2.2.2.2.2 | apply C.2.2.2.2.2.2.2.2.2 | apply C.2.2.2.2.2.2.2.2.2.2 | apply C.2.2.2.2.2.2.2.2.2.2.2) (by simp [lo]) (by simp) (by simp [AS.nr, AV.has, AC.has, AC.has.hasL, AO.nr, lo, DV.av] <;> assumption)) ?_ | apply X_q | apply X_st | apply X_n | apply X_s | apply SKs0 | apply SKs2 | apply SKs1 | refine ⟨⟨rfl, rfl⟩, ?_⟩ | refine ⟨⟨rfl, ?_⟩, ?_⟩ | refine ⟨?_, ?_⟩ | (· (try simp only [go_sem, seval, reduceIte, ↓reduceIte, Bool.not_eq_true, reduceCtorEq, beq_false, beq_true, hn, hP, Int.lt_irrefl, Int.le_refl, Nat.lt_irrefl, Nat.le_refl, List.length_set, Int.toNat_one, Int.toNat_zero, F]); first | done | rfl)))) | ((first | apply T_sdF fw (by rw [hP]; rfl) (by decide +kernel) | apply T_drF fw (by rw [hP]; rfl) (by decide +kernel)); · ((try simp only [TOps.flat, List.cons_append, List.nil_append]); repeat (first | apply Y_g0 | apply Y_g | apply Y_skip | apply Y_q | refine Y_call ⟨_, _, _, _, _, _, rfl, rfl, rfl, by rw [hP]; first | assumption | apply C | apply C.1 | apply C.2 | apply C.2.1 | apply C.2.2.1 | apply C.2.2.2.1 | apply C.2.2.2.2.1 | apply C.2.2.2.2.2.1 | apply C.2.2.2.2.2.2.1 | apply C.2.2.2.2.2.2.2.1 | apply C.2.2.2.2.2.2.2.2.1 | apply C.2.2.2.2.2.2.2.2.2.1 | apply C.2.2.2.2.2.2.2.2.2.2.1 | apply C.2.2.2.2.2.2.2.2.2.2.2.1 | apply C.2.2 | apply C.2.2.2 | apply C.2.2.2.2 | apply C.2.2.2.2.2 | apply C.2.2.2.2.2.2 | apply C.2.2.2.2.2.2.2 | apply C.2.2.2.2.2.2.2.2 | apply C.2.2.2.2.2.2.2.2.2 | apply C.2.2.2.2.2.2.2.2.2.2 | apply C.2.2.2.2.2.2.2.2.2.2.2⟩ ?_ ?_ | refine RunF_nil (P := G.P) ?_ | (· (try simp only [go_sem, seval, reduceIte, ↓reduceIte, Bool.not_eq_true, reduceCtorEq, beq_false, beq_true, hn, hP, Int.lt_irrefl, Int.le_refl, Nat.lt_irrefl, Nat.le_refl, List.length_set, Int.toNat_one, Int.toNat_zero, F]); first | done | rfl)))) | ((first | apply T_sd fw (by rw [hP]; rfl) | apply T_dr fw (by rw [hP]; rfl)); · ((try simp only [go_sem, seval, reduceIte, ↓reduceIte, bne, beq_false, beq_true, Bool.not_eq_true, Bool.if_true_right, decide_not, reduceCtorEq, hP, Int.lt_irrefl, Int.le_refl, Nat.lt_irrefl, Nat.le_refl, List.length_set, Int.toNat_one, Int.toNat_zero, F]); (repeat ((first | (refine ⟨_, ⟨_, _, _, _, _, _, rfl, rfl, rfl, (by first | assumption | apply C | apply C.1 | apply C.2 | apply C.2.1 | apply C.2.2.1 | apply C.2.2.2.1 | apply C.2.2.2.2.1 | apply C.2.2.2.2.2.1 | apply C.2.2.2.2.2.2.1 | apply C.2.2.2.2.2.2.2.1 | apply C.2.2.2.2.2.2.2.2.1 | apply C.2.2.2.2.2.2.2.2.2.1 | apply C.2.2.2.2.2.2.2.2.2.2.1 | apply C.2.2.2.2.2.2.2.2.2.2.2.1 | apply C.2.2 | apply C.2.2.2 | apply C.2.2.2.2 | apply C.2.2.2.2.2 | apply C.2.2.2.2.2.2 | apply C.2.2.2.2.2.2.2 | apply C.2.2.2.2.2.2.2.2 | apply C.2.2.2.2.2.2.2.2.2 | apply C.2.2.2.2.2.2.2.2.2.2 | apply C.2.2.2.2.2.2.2.2.2.2.2)⟩, ?_⟩)); (try simp only [go_sem, seval, reduceIte, ↓reduceIte, bne, beq_false, beq_true, Bool.not_eq_true, Bool.if_true_right, decide_not, reduceCtorEq, hP, Int.lt_irrefl, Int.le_refl, Nat.lt_irrefl, Nat.le_refl, List.length_set, Int.toNat_one, Int.toNat_zero, F]))); (first | done | exact rfl))) | apply T_seq | apply T_block | refine T_scopeJ 0 rfl ?_ | apply T_scope | apply T_goto | apply T_ret | apply T_skip | apply T_exit | apply T_label | refine T_condT rfl ?_ | refine T_condF rfl ?_)
  exact k.of) : P := h F C ⟨k⟩
end Go.AM

namespace Go.AM
open Go Go.Proofs
set_option maxRecDepth 100000
abbrev eI (s : List Int) : PV := .sl (s.map fun n => [.int .i64 n])
abbrev dI (s : List Int) : DV := .one (eI s)
abbrev dB (b : Bool) : DV := .one (.bool b)
abbrev dN (n : Int) : DV := .one (.int .i64 n)
abbrev w64 (n : Int) : Int := IntKind.i64.wrap n
theorem all1 (s : List Int) : (s.map fun n => [PV.int .i64 n]).all (fun r => r.length == 1) = true := by
  simp
def chk : List Int → Int → Int
  | [], n => n
  | x :: r, n => if x < 1 ∨ x > 16 then 0 else chk r (IntKind.i64.wrap (n * x))
def checkS (s : List Int) : Bool := !decide ((s.length : Int) > 3) && (decide (chk s 1 > 0) && decide (chk s 1 ≤ 64))
theorem p_shape_Check (s : List Int) : PureC Tryz.prog fi_shape_Check [dI s] (dB (checkS s)) := by
  refine pure_shape_Check (by simp) fun G hP hn => ?_
  unfold a_shape_Check
  refine T_wf 0 fun hl => ?_
  simp only [initE, lk, dI, eI, DV.av, wf_one, wf_sl, if_true, List.length_map] at hl
  repeat' (first     | refine T_then ?_ | refine then_ret ?_ | refine then_exit ?_ | refine then_goto ?_     | refine rnd_exit ?_ | refine rnd_ret ?_ | refine rnd_goto ?_     | refine noGo_normal ?_ | refine noGo_ret ?_ | refine noGo_exit ?_ | refine jmp_normal ?_ | refine jmp_ret ?_ | refine jmp_exit ?_ | refine jmp_goto ?_     | refine inB_normal ?_ | refine inB_ret ?_ | refine inB_goto ?_ | refine inB_exit ?_ | refine inB_exit_ne rfl ?_     | ((first | apply T_sr fw | apply T_reg fw); · ((try simp only [go_sem, seval, reduceIte, ↓reduceIte]); (repeat ((first       | (refine ⟨true, false, rfl, fun h => absurd h (by decide), ?_⟩) | (refine ⟨false, false, rfl, fun h => absurd h (by decide), ?_⟩) | refine ⟨_, _, rfl, fun _ => rfl, ?_⟩); (try simp only [go_sem, seval, reduceIte, ↓reduceIte]))); (first | done | exact rfl)))     | ((first | apply T_sdF fw (by rw [hP]; rfl) (by decide +kernel) | apply T_drF fw (by rw [hP]; rfl) (by decide +kernel)); · ((try simp only [TOps.flat, List.cons_append, List.nil_append]); (repeat ((first | refine Y_g0 ?_ | refine Y_g (by (try simp only [go_sem, seval, reduceIte, ↓reduceIte, Bool.not_eq_true, reduceCtorEq, beq_false, beq_true]); (first | done | exact rfl)) ?_); (first | refine Y_skip ?_ | ((first | apply Y_q); (· ((try simp only [go_sem, seval, reduceIte, ↓reduceIte, Bool.not_eq_true, reduceCtorEq, beq_false, beq_true]); (first | done | exact rfl))))))); apply RunF_nil; (try simp only [go_sem, seval, reduceIte, ↓reduceIte, Bool.not_eq_true, reduceCtorEq, beq_false, beq_true]); (first | done | exact rfl)))     | ((first | apply T_sd fw (by rw [hP]; rfl) | apply T_dr fw (by rw [hP]; rfl)); · ((try simp only [go_sem, seval, reduceIte, ↓reduceIte, bne, beq_false, beq_true, Bool.not_eq_true, Bool.if_true_right, decide_not, reduceCtorEq]); (first | done | exact rfl)))     | refine T_seq ?_ | refine T_block ?_ | refine T_scopeJ 0 rfl ?_ | refine T_scope ?_ | refine T_goto ?_ | refine T_ret ?_ | refine T_skip ?_ | refine T_exit ?_ | refine T_label ?_     | refine T_condT rfl ?_ | refine T_condF rfl ?_     | refine T_condD rfl (fun _ => ?_) (fun _ => ?_)     | refine T_cond rfl (fun _ => ?_) (fun _ => ?_))
  · rename_i h
    exact ends_ret rfl rfl rfl (by simp [resD, checkS, h])
  · rename_i h
    refine T_for s.length (fun i acc => { env := [(3, .one (.p (.int .i64 acc))), (9, .one (.p (eI s))), (10, .one (.p (.int .i64 s.length))), (11, .one (.p (.int .i64 i)))], σ := [] })
      (fun i acc => chk (s.drop i) acc = chk s 1) 1 rfl (.refl _ _) fun i acc hi hc => ?_
    rcases nth hi with ⟨x, hlt, hx, hd⟩ | ⟨rfl, hd⟩
    · have hw := wrap_succ hlt hl.1
      rw [hd] at hc
      repeat' (first     | refine T_then ?_ | refine then_ret ?_ | refine then_exit ?_ | refine then_goto ?_     | refine rnd_exit ?_ | refine rnd_ret ?_ | refine rnd_goto ?_     | refine noGo_normal ?_ | refine noGo_ret ?_ | refine noGo_exit ?_ | refine jmp_normal ?_ | refine jmp_ret ?_ | refine jmp_exit ?_ | refine jmp_goto ?_     | refine inB_normal ?_ | refine inB_ret ?_ | refine inB_goto ?_ | refine inB_exit ?_ | refine inB_exit_ne rfl ?_     | ((first | apply T_sr fw | apply T_reg fw); · ((try simp only [go_sem, seval, reduceIte, ↓reduceIte, hx, hlt, hw]); (repeat ((first       | (refine ⟨true, false, rfl, fun h => absurd h (by decide), ?_⟩) | (refine ⟨false, false, rfl, fun h => absurd h (by decide), ?_⟩) | refine ⟨_, _, rfl, fun _ => rfl, ?_⟩); (try simp only [go_sem, seval, reduceIte, ↓reduceIte, hx, hlt, hw]))); (first | done | exact rfl)))     | ((first | apply T_sdF fw (by rw [hP]; rfl) (by decide +kernel) | apply T_drF fw (by rw [hP]; rfl) (by decide +kernel)); · ((try simp only [TOps.flat, List.cons_append, List.nil_append]); (repeat ((first | refine Y_g0 ?_ | refine Y_g (by (try simp only [go_sem, seval, reduceIte, ↓reduceIte, Bool.not_eq_true, reduceCtorEq, beq_false, beq_true, hx, hlt, hw]); (first | done | exact rfl)) ?_); (first | refine Y_skip ?_ | ((first | apply Y_q); (· ((try simp only [go_sem, seval, reduceIte, ↓reduceIte, Bool.not_eq_true, reduceCtorEq, beq_false, beq_true, hx, hlt, hw]); (first | done | exact rfl))))))); apply RunF_nil; (try simp only [go_sem, seval, reduceIte, ↓reduceIte, Bool.not_eq_true, reduceCtorEq, beq_false, beq_true, hx, hlt, hw]); (first | done | exact rfl)))     | ((first | apply T_sd fw (by rw [hP]; rfl) | apply T_dr fw (by rw [hP]; rfl)); · ((try simp only [go_sem, seval, reduceIte, ↓reduceIte, bne, beq_false, beq_true, Bool.not_eq_true, Bool.if_true_right, decide_not, reduceCtorEq, hx, hlt, hw]); (first | done | exact rfl)))     | refine T_seq ?_ | refine T_block ?_ | refine T_scopeJ 0 rfl ?_ | refine T_scope ?_ | refine T_goto ?_ | refine T_ret ?_ | refine T_skip ?_ | refine T_exit ?_ | refine T_label ?_     | refine T_condT rfl ?_ | refine T_condF rfl ?_     | refine T_condD rfl (fun _ => ?_) (fun _ => ?_)     | refine T_cond rfl (fun _ => ?_) (fun _ => ?_))
      · rename_i h2
        refine ends_ret rfl rfl rfl ?_
        have h3 : chk s 1 = 0 := by rw [← hc]; simp only [chk]; rw [if_pos (by simpa using h2)]
        simp [resD, checkS, h3]
      · rename_i h2
        refine rnd_next hlt _ ?_ (.refl _ _)
        rw [← hc]; simp only [chk]; rw [if_neg (by simpa using h2)]
    · rw [hd] at hc
      repeat' (first     | refine T_then ?_ | refine then_ret ?_ | refine then_exit ?_ | refine then_goto ?_     | refine rnd_exit ?_ | refine rnd_ret ?_ | refine rnd_goto ?_     | refine noGo_normal ?_ | refine noGo_ret ?_ | refine noGo_exit ?_ | refine jmp_normal ?_ | refine jmp_ret ?_ | refine jmp_exit ?_ | refine jmp_goto ?_     | refine inB_normal ?_ | refine inB_ret ?_ | refine inB_goto ?_ | refine inB_exit ?_ | refine inB_exit_ne rfl ?_     | ((first | apply T_sr fw | apply T_reg fw); · ((try simp only [go_sem, seval, reduceIte, ↓reduceIte, Int.lt_irrefl, Nat.lt_irrefl]); (repeat ((first       | (refine ⟨true, false, rfl, fun h => absurd h (by decide), ?_⟩) | (refine ⟨false, false, rfl, fun h => absurd h (by decide), ?_⟩) | refine ⟨_, _, rfl, fun _ => rfl, ?_⟩); (try simp only [go_sem, seval, reduceIte, ↓reduceIte, Int.lt_irrefl, Nat.lt_irrefl]))); (first | done | exact rfl)))     | ((first | apply T_sdF fw (by rw [hP]; rfl) (by decide +kernel) | apply T_drF fw (by rw [hP]; rfl) (by decide +kernel)); · ((try simp only [TOps.flat, List.cons_append, List.nil_append]); (repeat ((first | refine Y_g0 ?_ | refine Y_g (by (try simp only [go_sem, seval, reduceIte, ↓reduceIte, Bool.not_eq_true, reduceCtorEq, beq_false, beq_true, Int.lt_irrefl, Nat.lt_irrefl]); (first | done | exact rfl)) ?_); (first | refine Y_skip ?_ | ((first | apply Y_q); (· ((try simp only [go_sem, seval, reduceIte, ↓reduceIte, Bool.not_eq_true, reduceCtorEq, beq_false, beq_true, Int.lt_irrefl, Nat.lt_irrefl]); (first | done | exact rfl))))))); apply RunF_nil; (try simp only [go_sem, seval, reduceIte, ↓reduceIte, Bool.not_eq_true, reduceCtorEq, beq_false, beq_true, Int.lt_irrefl, Nat.lt_irrefl]); (first | done | exact rfl)))     | ((first | apply T_sd fw (by rw [hP]; rfl) | apply T_dr fw (by rw [hP]; rfl)); · ((try simp only [go_sem, seval, reduceIte, ↓reduceIte, bne, beq_false, beq_true, Bool.not_eq_true, Bool.if_true_right, decide_not, reduceCtorEq, Int.lt_irrefl, Nat.lt_irrefl]); (first | done | exact rfl)))     | refine T_seq ?_ | refine T_block ?_ | refine T_scopeJ 0 rfl ?_ | refine T_scope ?_ | refine T_goto ?_ | refine T_ret ?_ | refine T_skip ?_ | refine T_exit ?_ | refine T_label ?_     | refine T_condT rfl ?_ | refine T_condF rfl ?_     | refine T_condD rfl (fun _ => ?_) (fun _ => ?_)     | refine T_cond rfl (fun _ => ?_) (fun _ => ?_))
      refine ends_ret rfl rfl rfl ?_
      simp only [chk] at hc
      simp [resD, checkS, hc]; omega
def prodW : List Int → Int → Int
  | [], n => n
  | x :: r, n => prodW r (IntKind.i64.wrap (n * x))
def sizeS (s : List Int) : Int := if checkS s then prodW s 1 else 0
theorem p_shape_Size (s : List Int) : PureC Tryz.prog fi_shape_Size [dI s] (dN (sizeS s)) := by
  refine pure_shape_Size (by simp) fun G hP hn => ?_
  unfold a_shape_Size
  refine T_wf 0 fun hl => ?_
  simp only [initE, lk, dI, eI, DV.av, wf_one, wf_sl, if_true, List.length_map] at hl
  repeat' (first     | refine T_then ?_ | refine then_ret ?_ | refine then_exit ?_ | refine then_goto ?_     | refine rnd_exit ?_ | refine rnd_ret ?_ | refine rnd_goto ?_     | refine noGo_normal ?_ | refine noGo_ret ?_ | refine noGo_exit ?_ | refine jmp_normal ?_ | refine jmp_ret ?_ | refine jmp_exit ?_ | refine jmp_goto ?_     | refine inB_normal ?_ | refine inB_ret ?_ | refine inB_goto ?_ | refine inB_exit ?_ | refine inB_exit_ne rfl ?_     | ((first | apply T_sr fw | apply T_reg fw); · ((try simp only [go_sem, seval, reduceIte, ↓reduceIte, hP]); (repeat ((first       | (refine ⟨true, false, rfl, fun h => absurd h (by decide), ?_⟩) | (refine ⟨false, false, rfl, fun h => absurd h (by decide), ?_⟩) | refine ⟨_, _, rfl, fun _ => rfl, ?_⟩       | (refine .inl ⟨_, _, ⟨_, _, _, _, _, _, rfl, rfl, rfl, p_shape_Check _⟩, ?_⟩)       | (refine ⟨_, ?_, rfl, fun _ => ⟨_, ⟨_, _, _, _, _, _, rfl, rfl, rfl, p_shape_Check _⟩, ?_⟩, ?_⟩; rotate_left; (· (simp only [go_sem, seval, reduceIte, ↓reduceIte, hP]; first | done | exact rfl)))); (try simp only [go_sem, seval, reduceIte, ↓reduceIte, hP]))); (first | done | exact rfl)))     | ((first | apply T_sdF fw (by rw [hP]; rfl) (by decide +kernel) | apply T_drF fw (by rw [hP]; rfl) (by decide +kernel)); · ((try simp only [TOps.flat, List.cons_append, List.nil_append]); (repeat ((first | refine Y_g0 ?_ | refine Y_g (by (try simp only [go_sem, seval, reduceIte, ↓reduceIte, Bool.not_eq_true, reduceCtorEq, beq_false, beq_true, hP]); (first | done | exact rfl)) ?_); (first | refine Y_skip ?_ | ((first | apply Y_q | (refine Y_call ⟨_, _, _, _, _, _, rfl, rfl, rfl, (by rw [hP]; exact p_shape_Check _)⟩ ?_ ?_)); (· ((try simp only [go_sem, seval, reduceIte, ↓reduceIte, Bool.not_eq_true, reduceCtorEq, beq_false, beq_true, hP]); (first | done | exact rfl))))))); apply RunF_nil; (try simp only [go_sem, seval, reduceIte, ↓reduceIte, Bool.not_eq_true, reduceCtorEq, beq_false, beq_true, hP]); (first | done | exact rfl)))     | ((first | apply T_sd fw (by rw [hP]; rfl) | apply T_dr fw (by rw [hP]; rfl)); · ((try simp only [go_sem, seval, reduceIte, ↓reduceIte, bne, beq_false, beq_true, Bool.not_eq_true, Bool.if_true_right, decide_not, reduceCtorEq, hP]); (repeat ((first       | (refine ⟨_, ⟨_, _, _, _, _, _, rfl, rfl, rfl, p_shape_Check _⟩, ?_⟩)); (try simp only [go_sem, seval, reduceIte, ↓reduceIte, bne, beq_false, beq_true, Bool.not_eq_true, Bool.if_true_right, decide_not, reduceCtorEq, hP]))); (first | done | exact rfl)))     | refine T_seq ?_ | refine T_block ?_ | refine T_scopeJ 0 rfl ?_ | refine T_scope ?_ | refine T_goto ?_ | refine T_ret ?_ | refine T_skip ?_ | refine T_exit ?_ | refine T_label ?_     | refine T_condT rfl ?_ | refine T_condF rfl ?_     | refine T_condD rfl (fun _ => ?_) (fun _ => ?_)     | refine T_cond rfl (fun _ => ?_) (fun _ => ?_))
  · rename_i h
    exact ends_ret rfl rfl rfl (by simp at h; simp [resD, sizeS, h])
  · rename_i h
    refine T_for s.length (fun i acc => { env := [(3, .one (.p (.int .i64 acc))), (9, .one (.p (eI s))), (10, .one (.p (.int .i64 s.length))), (11, .one (.p (.int .i64 i)))], σ := [] })
      (fun i acc => prodW (s.drop i) acc = prodW s 1) 1 rfl (.refl _ _) fun i acc hi hc => ?_
    rcases nth hi with ⟨x, hlt, hx, hd⟩ | ⟨rfl, hd⟩
    · have hw := wrap_succ hlt hl.1
      rw [hd] at hc
      refine go (aa hx <| aa hlt hw) trivial ?_
      exact rnd_next hlt _ hc (.refl _ _)
    · rw [hd] at hc
      refine go trivial trivial ?_
      refine ends_ret rfl rfl rfl ?_
      simp only [prodW] at hc
      simp at h
      simp [resD, sizeS, h, hc]
abbrev rI (s : List Int) : List (List PV) := s.map fun n => [.int .i64 n]
theorem m_slices_Clone (s : List Int) (hs : s.length ≤ 2 ^ 36) : MutC Tryz.prog fi_slices_Clone_int_int [.one (.p (eI s))] [] (.one (.msl 5 0 1 s.length none)) [(5, .arr true 1 (rI s))] [5] := by
  refine mut_slices_Clone_int_int (by simp) fun G ex hP hn hfr => ?_
  unfold a_slices_Clone_int_int
  have hfr := hfr 5 (by simp)
  refine go trivial trivial ?_
  refine T_eqnil fw (by decide) rfl fun b hb => ?_
  simp only [AS.keep, List.map, lk, lo, Nat.reduceEqDiff, if_true, if_false, restS, List.filter, ddS, List.length, List.nil_append, initV]
  have h8 : s.length * 8 ≤ 2 ^ 40 := by omega
  have h9 : s.length ≤ 2 ^ 40 := by omega
  cases b
  · refine go (aa @all1 <| aa h8 <| aa h9 <| aa hfr (scr_ex hfr)) trivial ?_
    exact endsM_ret rfl rfl rfl (by simp [lo]) rfl
  · have hs0 : s = [] := by simpa using hb rfl
    subst hs0
    refine T_then ?_
    refine T_condT rfl ?_
    refine T_sr fw (S := { env := [(2, .one .nils)], σ := [], ex := ex }) ?_ ?_
    · simp only [go_sem, seval, reduceIte, ↓reduceIte]
    · refine T_nils 2 5 1 rfl (by simp [AS.nr, AV.has, AC.has]; simpa using hfr) rfl ?_
      refine go trivial trivial ?_
      exact endsM_ret rfl rfl rfl (by simp [lo]) rfl
def RevI (s : List Int) (i : Nat) (l : List Int) : Prop := 2 * i ≤ s.length + 1 ∧ l.length = s.length ∧ ∀ k, k < s.length → l[k]? = if k < i ∨ s.length - i ≤ k then s[s.length - 1 - k]? else s[k]?
theorem revI_end {s l : List Int} {i : Nat} (h : RevI s i l) (hi : ¬ (i : Int) < (s.length : Int) - 1 - i) : l = s.reverse := by
  obtain ⟨h0, h1, h2⟩ := h
  apply List.ext_getElem?
  intro k
  by_cases hk : k < s.length
  · rw [h2 k hk, List.getElem?_reverse hk]
    split
    · rfl
    · rename_i hh
      have : s.length - 1 - k = k := by omega
      rw [this]
  · rw [List.getElem?_eq_none (by omega), List.getElem?_eq_none (by simp; omega)]
theorem revI_step {s l : List Int} {i : Nat} (h : RevI s i l) (hi : (i : Int) < (s.length : Int) - 1 - i) {x y : Int} (hx : l[i]? = some x) (hy : l[s.length - 1 - i]? = some y) : RevI s (i + 1) ((l.set i y).set (s.length - 1 - i) x) := by
  obtain ⟨h0, h1, h2⟩ := h
  refine ⟨by omega, by simp [h1], fun k hk => ?_⟩
  have e1 := h2 i (by omega)
  have e2 := h2 (s.length - 1 - i) (by omega)
  rw [if_neg (by omega)] at e1 e2
  by_cases k1 : k = s.length - 1 - i
  · subst k1
    rw [List.getElem?_set_self (by simp; omega), if_pos (by omega)]
    rw [show s.length - 1 - (s.length - 1 - i) = i from by omega, ← e1, hx]
  · rw [List.getElem?_set_ne (fun e => k1 e.symm)]
    by_cases k2 : k = i
    · subst k2
      rw [List.getElem?_set_self (by omega), if_pos (by omega), ← e2, hy]
    · rw [List.getElem?_set_ne (fun e => k2 e.symm), h2 k hk]
      by_cases hc : k < i ∨ s.length - i ≤ k
      · rw [if_pos hc, if_pos (by omega)]
      · rw [if_neg hc, if_neg (by omega)]
theorem rI_set (l : List Int) (i : Nat) (y : Int) : (rI l).set i [.int .i64 y] = rI (l.set i y) := by
  simp [List.map_set]
theorem m_slices_Reverse (t : Nat) (s : List Int) (hl : s.length ≤ MaxN) : MutC Tryz.prog fi_slices_Reverse_int_int [.one (.msl t 0 1 s.length none)] [(t, .arr true 1 (rI s))] (.tup []) [(t, .arr true 1 (rI s.reverse))] [] := by
  refine mut_slices_Reverse_int_int (by simp) fun G ex hP hn hfr => ?_
  unfold a_slices_Reverse_int_int
  have hM : MaxN = 140737488355328 := rfl
  have w0 : IntKind.i64.wrap ((s.length : Int) - 1) = (s.length : Int) - 1 - (0 : Nat) := by rw [wrap_in (by omega) (by omega)]; simp
  refine go w0 trivial ?_
  refine T_for s.length (fun i l => { env := [(0, .one (.msl t 0 1 s.length none)), (2, .one (.p (.int .i64 i))), (3, .one (.p (.int .i64 ((s.length : Int) - 1 - i))))], σ := [(t, .arr true 1 (rI l))], ex := ex })
    (RevI s) s ⟨by omega, rfl, fun k hk => by rw [if_neg (by omega)]⟩ (.refl _ _) fun i l hi hr => ?_
  by_cases hlt : (i : Int) < (s.length : Int) - 1 - i
  · have hll := hr.2.1
    have hil : i < l.length := by omega
    have hx : l[i]? = some l[i] := List.getElem?_eq_getElem hil
    have hjl : s.length - 1 - i < l.length := by omega
    have hy : l[s.length - 1 - i]? = some l[s.length - 1 - i] := List.getElem?_eq_getElem hjl
    have w1 : IntKind.i64.wrap ((i : Int) + 1) = ((i + 1 : Nat) : Int) := wrap_succ (m := s.length) (by omega) hl
    have w2 : IntKind.i64.wrap ((s.length : Int) - 1 - i - 1) = (s.length : Int) - 1 - ((i + 1 : Nat) : Int) := by rw [wrap_in (by omega) (by omega)]; omega
    have c1 : (0 : Int) ≤ (s.length : Int) - 1 - i := by omega
    have c2 : (s.length : Int) - 1 - i < (s.length : Int) := by omega
    have c3 : ((s.length : Int) - 1 - i).toNat = s.length - 1 - i := by omega
    have c4 : i < s.length := by omega
    have hz : (l.set i l[s.length - 1 - i])[s.length - 1 - i]? = some l[s.length - 1 - i] := by rw [List.getElem?_set_ne (by omega)]; exact hy
    refine go (aa hlt <| aa hx <| aa hy <| aa hz <| aa w1 <| aa w2 <| aa c1 <| aa c2 <| aa c3 <| aa c4 <| aa hll @rI_set) trivial ?_
    exact rnd_next c4 _ (revI_step hr hlt hx hy) (.refl _ _)
  · refine go hlt trivial ?_
    exact endsM_normal rfl rfl rfl (by simp [lo, revI_end hr hlt]) rfl
theorem p_move_turned (s : List Int) (hs : s.length ≤ 2 ^ 36) : PureC Tryz.prog fi_move_turned_int [dI s] (dI s.reverse) := by
  refine pure_move_turned_int (by simp) fun G hP hn => ?_
  unfold a_move_turned_int
  have hl : s.length ≤ MaxN := Nat.le_trans hs (by decide)
  refine go trivial (aa (m_slices_Clone _ hs) (m_slices_Reverse 5 _ hl)) ?_
  exact ends_list rfl rfl (by simp)
end Go.AM

namespace Go.AM
open Go Go.Proofs
set_option maxRecDepth 100000
abbrev dT (s d : List Int) : DV := .agg [eI s, eI d]
def checkT (s d : List Int) : Bool := checkS s && ((d.length : Int) == sizeS s)
theorem p_tensor_Check (s d : List Int) : PureC Tryz.prog fi_tensor_Check [dT s d] (dB (checkT s d)) := by
  refine pure_tensor_Check (by simp) fun G hP hn => ?_
  unfold a_tensor_Check
  cases hc : checkS s
  · refine go hc (aa @p_shape_Check @p_shape_Size) ?_
    exact ends_ret rfl rfl rfl (by simp [resD, checkT, hc])
  · refine go hc (aa @p_shape_Check @p_shape_Size) ?_
    exact ends_ret rfl rfl rfl (by simp [resD, checkT, hc])
end Go.AM

