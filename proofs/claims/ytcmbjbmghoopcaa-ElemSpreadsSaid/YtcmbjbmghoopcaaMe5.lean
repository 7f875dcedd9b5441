import Derived.Test.YtcmbjbmghoopcaaMe4
import Derived.ProofKit
import Derived.HandedShaped
import Derived.ChangeArms
import Derived.DataReads
import Derived.Test.YtcmbjbmghoopcaaRows
set_option linter.unusedVariables false
set_option linter.unusedSimpArgs false
namespace Go.AM
open Go.RowKit (Below)
set_option linter.unusedSimpArgs false
set_option linter.unusedVariables false

mutual
def AC.ren (ρ : Nat → Nat) : AC → AC
  | .ptr t i s o => .ptr (ρ t) i s o
  | .msl t o s l c => .msl (ρ t) o s l c
  | .mmap t => .mmap (ρ t)
  | .mfn f a b => .mfn f (AC.renL ρ a) (AC.renL ρ b)
  | .p v => .p v
  | .nils => .nils
  | .raw x => .raw x
def AC.renL (ρ : Nat → Nat) : List AC → List AC
  | [] => []
  | c :: cs => AC.ren ρ c :: AC.renL ρ cs
end
mutual
def AV.ren (ρ : Nat → Nat) : AV → AV
  | .one c => .one (c.ren ρ)
  | .agg cs => .agg (AC.renL ρ cs)
  | .tup xs => .tup (AV.renL ρ xs)
  | .top => .top
  | .und => .und
def AV.renL (ρ : Nat → Nat) : List AV → List AV
  | [] => []
  | c :: cs => AV.ren ρ c :: AV.renL ρ cs
end
theorem AC.renL_map (ρ : Nat → Nat) : ∀ cs : List AC, AC.renL ρ cs = cs.map (AC.ren ρ)
  | [] => rfl
  | c :: cs => by rw [AC.renL, AC.renL_map ρ cs]; rfl
theorem AV.renL_map (ρ : Nat → Nat) : ∀ cs : List AV, AV.renL ρ cs = cs.map (AV.ren ρ)
  | [] => rfl
  | c :: cs => by rw [AV.renL, AV.renL_map ρ cs]; rfl
mutual
theorem AC.ren_ren {ρ : Nat → Nat} (h : ∀ t, ρ (ρ t) = t) : ∀ c : AC, (c.ren ρ).ren ρ = c
  | .ptr t i s o => by simp only [AC.ren, h]
  | .msl t o s l c => by simp only [AC.ren, h]
  | .mmap t => by simp only [AC.ren, h]
  | .mfn f a b => by simp only [AC.ren, AC.renL_renL h a, AC.renL_renL h b]
  | .p v => rfl
  | .nils => rfl
  | .raw x => rfl
theorem AC.renL_renL {ρ : Nat → Nat} (h : ∀ t, ρ (ρ t) = t) : ∀ cs : List AC, AC.renL ρ (AC.renL ρ cs) = cs
  | [] => rfl
  | c :: cs => by simp only [AC.renL, AC.ren_ren h c, AC.renL_renL h cs]
end
mutual
theorem AV.ren_ren {ρ : Nat → Nat} (h : ∀ t, ρ (ρ t) = t) : ∀ c : AV, (c.ren ρ).ren ρ = c
  | .one c => by simp only [AV.ren, AC.ren_ren h]
  | .agg cs => by simp only [AV.ren, AC.renL_renL h]
  | .tup xs => by simp only [AV.ren, AV.renL_renL h xs]
  | .top => rfl
  | .und => rfl
theorem AV.renL_renL {ρ : Nat → Nat} (h : ∀ t, ρ (ρ t) = t) : ∀ cs : List AV, AV.renL ρ (AV.renL ρ cs) = cs
  | [] => rfl
  | c :: cs => by simp only [AV.renL, AV.ren_ren h c, AV.renL_renL h cs]
end
theorem beq_ren {ρ : Nat → Nat} (h : ∀ t, ρ (ρ t) = t) (t d : Nat) : (ρ t == d) = (t == ρ d) := by
  rw [Bool.eq_iff_iff, beq_iff_eq, beq_iff_eq]
  exact ⟨fun e => by rw [← e, h], fun e => by rw [e, h]⟩
mutual
theorem AC.ren_has {ρ : Nat → Nat} (h : ∀ t, ρ (ρ t) = t) (d : Nat) : ∀ c : AC, (c.ren ρ).has d = c.has (ρ d)
  | .ptr t _ _ _ => by simp only [AC.ren, AC.has]; exact beq_ren h t d
  | .msl t _ _ _ _ => by simp only [AC.ren, AC.has]; exact beq_ren h t d
  | .mmap t => by simp only [AC.ren, AC.has]; exact beq_ren h t d
  | .mfn f a b => by simp only [AC.ren, AC.has, AC.renL_has h d a, AC.renL_has h d b]
  | .p v => rfl
  | .nils => rfl
  | .raw x => rfl
theorem AC.renL_has {ρ : Nat → Nat} (h : ∀ t, ρ (ρ t) = t) (d : Nat) : ∀ cs : List AC, AC.has.hasL d (AC.renL ρ cs) = AC.has.hasL (ρ d) cs
  | [] => rfl
  | c :: cs => by simp only [AC.renL, AC.has.hasL, AC.ren_has h d c, AC.renL_has h d cs]
end
mutual
theorem AV.ren_has {ρ : Nat → Nat} (h : ∀ t, ρ (ρ t) = t) (d : Nat) : ∀ c : AV, (c.ren ρ).has d = c.has (ρ d)
  | .one c => AC.ren_has h d c
  | .agg cs => AC.renL_has h d cs
  | .tup xs => AV.renL_has h d xs
  | .top => rfl
  | .und => rfl
theorem AV.renL_has {ρ : Nat → Nat} (h : ∀ t, ρ (ρ t) = t) (d : Nat) : ∀ cs : List AV, AV.has.hasV d (AV.renL ρ cs) = AV.has.hasV (ρ d) cs
  | [] => rfl
  | c :: cs => by simp only [AV.renL, AV.has.hasV, AV.ren_has h d c, AV.renL_has h d cs]
end

section
variable {A : Nat → Prop} {τ τ2 : Tau} {w : World} {ρ : Nat → Nat}

theorem all2_map {α β : Type} {R S : α → β → Prop} {f : α → α} {az : List α} {bs : List β} (h : All2 R az bs) (k : ∀ a b, R a b → S (f a) b) : All2 S (az.map f) bs := by
  induction h with
  | nil => exact .nil
  | cons x _ ih => exact .cons (k _ _ x) ih
theorem all2_unmap {α β : Type} {R S : α → β → Prop} {f : α → α} : ∀ {az : List α} {bs : List β}, All2 R (az.map f) bs → (∀ a b, R (f a) b → S a b) → All2 S az bs
  | [], bs, h, k => by cases h; exact .nil
  | a :: az, bs, h, k => by
    cases h with
    | cons x t => exact .cons (k _ _ x) (all2_unmap t k)

theorem C0.ren (hτ : ∀ t, τ2 (ρ t) = τ t) {c : AC} {x : Value} (h : C0 A τ w c x) : C0 A τ2 w (c.ren ρ) x := by
  cases h with
  | p v x h => exact .p v x h
  | nils => exact .nils
  | ptr t i s off b h => exact .ptr _ i s off b ((hτ t).trans h)
  | mslN t o s cap a h hc => exact .mslN _ o s cap a ((hτ t).trans h) hc
  | msl t o s len b c cap h hc hl hr => exact .msl _ o s len b c cap ((hτ t).trans h) hc hl hr
  | mmap t b h => exact .mmap _ b ((hτ t).trans h)
  | raw x h => exact .raw x h
theorem CRel.ren (hτ : ∀ t, τ2 (ρ t) = τ t) {c : AC} {x : Value} (h : CRel A τ w c x) : CRel A τ2 w (c.ren ρ) x := by
  cases h with
  | c0 h => exact .c0 (h.ren hτ)
  | mfn f first caps vf vc h1 h2 =>
    rw [AC.ren, AC.renL_map, AC.renL_map]
    exact .mfn f _ _ vf vc (all2_map h1 fun _ _ h => h.ren hτ) (all2_map h2 fun _ _ h => h.ren hτ)
theorem V1.ren (hτ : ∀ t, τ2 (ρ t) = τ t) {c : AV} {x : Value} (h : V1 A τ w c x) : V1 A τ2 w (c.ren ρ) x := by
  cases h with
  | one h => exact .one (h.ren hτ)
  | agg h => rw [AV.ren, AC.renL_map]; exact .agg (all2_map h fun _ _ h => h.ren hτ)
  | top => exact .top _
  | und => exact .und
theorem VRel.ren (hτ : ∀ t, τ2 (ρ t) = τ t) {c : AV} {x : Value} (h : VRel A τ w c x) : VRel A τ2 w (c.ren ρ) x := by
  cases h with
  | v1 h => exact .v1 (h.ren hτ)
  | tup h => rw [AV.ren, AV.renL_map]; exact .tup (all2_map h fun _ _ h => h.ren hτ)
theorem VRel.unren (hρ : ∀ t, ρ (ρ t) = t) {c : AV} {x : Value} (h : VRel A τ w (c.ren ρ) x) : VRel A (fun t => τ (ρ t)) w c x := by
  have := h.ren (ρ := ρ) (τ2 := fun t => τ (ρ t)) (fun t => by show τ (ρ (ρ t)) = τ t; rw [hρ])
  rwa [AV.ren_ren hρ] at this

theorem hasV_false {t : Nat} {cs : List AV} : AV.has.hasV t cs = false ↔ ∀ c ∈ cs, c.has t = false := by
  induction cs with
  | nil => simp [AV.has.hasV]
  | cons c cs ih => simp [AV.has.hasV, ih]
end

/-- a number that is not spoken of -/
def Bnd (f : Nat → Bool) : Prop := ∃ b, ∀ t, b ≤ t → f t = false
theorem Bnd.or {f g : Nat → Bool} (h : Bnd f) (k : Bnd g) : Bnd (fun t => f t || g t) :=
  let ⟨b, hb⟩ := h; let ⟨c, hc⟩ := k; ⟨max b c, fun t ht => by show (f t || g t) = false; rw [hb t (by omega), hc t (by omega)]; rfl⟩
theorem Bnd.eq (u : Nat) : Bnd (fun t => u == t) := ⟨u + 1, fun t ht => by simp; omega⟩
mutual
theorem AC.bnd : ∀ c : AC, Bnd (fun t => AC.has t c)
  | .p _ => ⟨0, fun _ _ => rfl⟩
  | .nils => ⟨0, fun _ _ => rfl⟩
  | .ptr u _ _ _ => Bnd.eq u
  | .msl u _ _ _ _ => Bnd.eq u
  | .mmap u => Bnd.eq u
  | .mfn _ a b => Bnd.or (AC.bndL a) (AC.bndL b)
  | .raw _ => ⟨0, fun _ _ => rfl⟩
theorem AC.bndL : ∀ cs : List AC, Bnd (fun t => AC.has.hasL t cs)
  | [] => ⟨0, fun _ _ => rfl⟩
  | c :: cs => Bnd.or (AC.bnd c) (AC.bndL cs)
end
mutual
theorem AV.bnd : ∀ c : AV, Bnd (fun t => AV.has t c)
  | .one c => AC.bnd c
  | .agg cs => AC.bndL cs
  | .tup xs => AV.bndL xs
  | .top => ⟨0, fun _ _ => rfl⟩
  | .und => ⟨0, fun _ _ => rfl⟩
theorem AV.bndL : ∀ cs : List AV, Bnd (fun t => AV.has.hasV t cs)
  | [] => ⟨0, fun _ _ => rfl⟩
  | c :: cs => Bnd.or (AV.bnd c) (AV.bndL cs)
end

def AO.has (d : Nat) : AO → Bool
  | .cells _ cs => AC.has.hasL d cs
  | _ => false
def stoHas (d : Nat) (σ : Sto) : Bool := σ.any fun p => p.1 == d || p.2.has d
theorem sto_bnd : ∀ σ : Sto, Bnd (fun t => stoHas t σ)
  | [] => ⟨0, fun _ _ => rfl⟩
  | (u, o) :: σ => by
    have h1 : Bnd (fun t => AO.has t o) := by
      cases o with
      | cells m cs => exact AC.bndL cs
      | none => exact ⟨0, fun _ _ => rfl⟩
      | arr => exact ⟨0, fun _ _ => rfl⟩
      | map => exact ⟨0, fun _ _ => rfl⟩
    obtain ⟨b, hb⟩ := Bnd.or (Bnd.or (Bnd.eq u) h1) (sto_bnd σ)
    exact ⟨b, fun t ht => by have := hb t ht; simpa [stoHas] using this⟩
theorem stoHas_lo {d : Nat} : ∀ {σ : Sto}, stoHas d σ = false → lo σ d = .none ∧ ∀ t, (lo σ t).has d = false
  | [], _ => ⟨rfl, fun _ => rfl⟩
  | (u, o) :: σ, h => by
    simp only [stoHas, List.any_cons, Bool.or_eq_false_iff, beq_eq_false_iff_ne] at h
    obtain ⟨h1, h2⟩ := stoHas_lo (σ := σ) h.2
    refine ⟨by simp only [lo]; rw [if_neg (fun e => h.1.1 e.symm)]; exact h1, fun t => ?_⟩
    simp only [lo]
    split
    · exact h.1.2
    · exact h2 t

theorem ORel.retau {M A : Nat → Prop} {τ τ' : Tau} {w : World} {t : Nat} {o : AO} (h : ORel M A τ w t o) (ht : o ≠ .none → τ' t = τ t) (hτ : ∀ u, o.has u = true → τ' u = τ u) : ORel M A τ' w t o := by
  cases o with
  | none => trivial
  | cells m cs =>
    obtain ⟨b, xs, e, h1, h2, h3, h4⟩ := h
    exact ⟨b, xs, e, (ht (by simp)).trans h1, h2, h3.stepL (p := fun c => ∀ t, c.has t = true → τ' t = τ t) (fun c hc t ht => hτ t (hasL_mem hc ht)) (fun _ _ hp h => h.step (WStep.refl w) (fun _ h => h) (fun _ _ => rfl) hp), h4⟩
  | arr m s rows =>
    obtain ⟨h0, hl, h⟩ := h
    refine ⟨h0, hl, ?_⟩
    rcases h with ⟨h1, h2⟩ | ⟨b, xs, e, h1, h2⟩
    · exact .inl ⟨(ht (by simp)).trans h1, h2⟩
    · exact .inr ⟨b, xs, e, (ht (by simp)).trans h1, h2⟩
  | map m es =>
    obtain ⟨b, ces, clock, h1, h2⟩ := h
    exact ⟨b, ces, clock, (ht (by simp)).trans h1, h2⟩

/-- what a function makes for itself alone does not matter to its caller -/
theorem MutC.hide {P : Program} {f : FuncId} {vs : List AV} {σ σ' : Sto} {r : AV} {fr : List Nat} (d : Nat) (h : MutC P f vs σ r σ' (d :: fr))
    (h1 : AV.has.hasV d vs = false) (h2 : r.has d = false) (h3 : stoHas d σ = false) (h4 : stoHas d σ' = false) (h5 : d ∉ fr) : MutC P f vs σ r σ' fr := by
  refine ⟨h.enters, fun A τ w xs ex exs hA hxs hex hfr hob hsp => ?_⟩
  obtain ⟨b, hb⟩ := Bnd.or (Bnd.or (AV.bndL ex) (AV.bndL vs)) (Bnd.or (AV.bnd r) (Bnd.or (sto_bnd σ) (sto_bnd σ')))
  obtain ⟨N, hNb, hNd, hNf⟩ : ∃ N, b ≤ N ∧ N ≠ d ∧ N ∉ fr := by
    refine ⟨b + d + 1 + fr.sum, by omega, by omega, fun hm => ?_⟩
    have : ∀ (l : List Nat) x, x ∈ l → x ≤ l.sum := by
      intro l
      induction l with
      | nil => intro x hx; simp at hx
      | cons y l ih =>
        intro x hx
        rcases List.mem_cons.1 hx with rfl | hx
        · simp
        · have := ih x hx; simp; omega
    have := this fr _ hm
    omega
  have hN := hb N hNb
  simp only [Bool.or_eq_false_iff] at hN
  obtain ⟨⟨n1, n2⟩, n3, n4, n5⟩ := hN
  let ρ : Nat → Nat := fun t => if t = d then N else if t = N then d else t
  have hρd : ρ d = N := by simp [ρ]
  have hρN : ρ N = d := by simp [ρ, hNd]
  have hρo : ∀ t, t ≠ d → t ≠ N → ρ t = t := fun t a b => by simp [ρ, a, b]
  have hρρ : ∀ t, ρ (ρ t) = t := fun t => by
    by_cases a : t = d
    · rw [a, hρd, hρN]
    · by_cases b : t = N
      · rw [b, hρN, hρd]
      · rw [hρo t a b, hρo t a b]
  have s3 := stoHas_lo h3; have s4 := stoHas_lo h4; have m3 := stoHas_lo n4; have m4 := stoHas_lo n5
  -- a number that is spoken of stays
  have st : ∀ (τ : Tau) t, t ≠ d → t ≠ N → (fun u => τ (ρ u)) t = τ t := fun τ t a b => by show τ (ρ t) = τ t; rw [hρo t a b]
  have ne1 : ∀ (g : Nat → Bool) (t : Nat), g d = false → g N = false → g t = true → t ≠ d ∧ t ≠ N := fun g t a b c => ⟨fun e => (by rw [e, a] at c; cases c), fun e => (by rw [e, b] at c; cases c)⟩
  have howner : ∀ {σ : Sto} (τ : Tau), lo σ d = .none → lo σ N = .none → owOf σ (fun u => τ (ρ u)) = owOf σ τ := fun {σ} τ a b => by
    funext k
    apply propext
    constructor
    · rintro ⟨t, hm, ht⟩
      refine ⟨t, hm, ?_⟩
      rw [← st τ t (fun e => by rw [e, a] at hm; cases hm) (fun e => by rw [e, b] at hm; cases hm)]; exact ht
    · rintro ⟨t, hm, ht⟩
      refine ⟨t, hm, ?_⟩
      rw [st τ t (fun e => by rw [e, a] at hm; cases hm) (fun e => by rw [e, b] at hm; cases hm)]; exact ht
  have hsep : ∀ {σ : Sto} (τ : Tau), lo σ d = .none → lo σ N = .none → SepS σ τ → SepS σ (fun u => τ (ρ u)) := fun {σ} τ a b hs t t' k g1 g2 hne hm hk => by
    have e1 := st τ t (fun e => g1 (by rw [e]; exact a)) (fun e => g1 (by rw [e]; exact b))
    have e2 := st τ t' (fun e => g2 (by rw [e]; exact a)) (fun e => g2 (by rw [e]; exact b))
    rw [e1] at hk; rw [e2]
    exact hs t t' k g1 g2 hne hm hk
  have hobj : ∀ {σ : Sto} (τ : Tau) {M A : Nat → Prop} {w : World}, stoHas d σ = false → stoHas N σ = false → (∀ t, ORel M A τ w t (lo σ t)) → ∀ t, ORel M A (fun u => τ (ρ u)) w t (lo σ t) := fun {σ} τ {M A w} a b ho t => by
    have a' := stoHas_lo a; have b' := stoHas_lo b
    exact (ho t).retau (fun hn => st τ t (fun e => hn (by rw [e]; exact a'.1)) (fun e => hn (by rw [e]; exact b'.1)))
      (fun u hu => by have := ne1 (fun u => (lo σ t).has u) u (a'.2 t) (b'.2 t) hu; exact st τ u this.1 this.2)
  have key := h.calls A (fun u => τ (ρ u)) w xs (ex.map (AV.ren ρ)) exs hA
    (hxs.stepL (p := fun c => ∀ t, c.has t = true → (fun u => τ (ρ u)) t = τ t) (fun c hc t ht => by
        have := ne1 (fun u => AV.has.hasV u vs) t h1 n2 (hasV_mem hc ht); exact st τ t this.1 this.2)
      (fun _ _ hp h => h.step (WStep.refl w) (fun _ h => h) (fun _ _ => rfl) hp))
    (all2_map hex fun _ _ h => h.ren (fun t => by show τ (ρ (ρ t)) = τ t; rw [hρρ]))
    (fun u hu v hv => by
      obtain ⟨v0, hv0, rfl⟩ := List.mem_map.1 hv
      rw [AV.ren_has hρρ]
      rcases List.mem_cons.1 hu with rfl | hu
      · rw [hρd]; exact hasV_false.1 n1 v0 hv0
      · rw [hρo u (fun e => h5 (e ▸ hu)) (fun e => hNf (e ▸ hu))]
        exact hfr u hu v0 hv0)
    (hobj τ h3 n4 hob) (hsep τ s3.1 m3.1 hsp)
  rw [howner τ s3.1 m3.1] at key
  refine key.mono ?_
  rintro e w' ⟨x, A', τ', he, hfm, ho, hs, hr, hx⟩
  refine ⟨x, A', fun u => τ' (ρ u), he, hfm, hobj τ' h4 n5 ho, hsep τ' s4.1 m4.1 hs, ?_, ?_⟩
  · exact hr.step (WStep.refl w') (fun _ h => h) (fun _ _ => rfl) (fun t ht => by
      have := ne1 (fun u => r.has u) t h2 n3 ht; exact st τ' t this.1 this.2)
  · exact all2_unmap hx fun _ _ h => h.unren hρρ

def AO.ren (ρ : Nat → Nat) : AO → AO
  | .cells m cs => .cells m (AC.renL ρ cs)
  | .none => .none
  | .arr m s rows => .arr m s rows
  | .map m es => .map m es
def renS (ρ : Nat → Nat) (σ : Sto) : Sto := σ.map fun p => (ρ p.1, p.2.ren ρ)
theorem AO.ren_ren {ρ : Nat → Nat} (h : ∀ t, ρ (ρ t) = t) (o : AO) : (o.ren ρ).ren ρ = o := by
  cases o <;> simp only [AO.ren, AC.renL_renL h]
theorem renS_renS {ρ : Nat → Nat} (h : ∀ t, ρ (ρ t) = t) (σ : Sto) : renS ρ (renS ρ σ) = σ := by
  unfold renS
  rw [List.map_map]
  conv => rhs; rw [← List.map_id σ]
  apply List.map_congr_left
  rintro ⟨t, o⟩ _
  simp only [Function.comp, h, AO.ren_ren h, id]
theorem lo_renS {ρ : Nat → Nat} (h : ∀ t, ρ (ρ t) = t) (σ : Sto) (t : Nat) : lo (renS ρ σ) t = (lo σ (ρ t)).ren ρ := by
  induction σ with
  | nil => rfl
  | cons p σ ih =>
    obtain ⟨u, o⟩ := p
    show (if t = ρ u then o.ren ρ else lo (renS ρ σ) t) = (if ρ t = u then o else lo σ (ρ t)).ren ρ
    by_cases e : t = ρ u
    · rw [if_pos e, if_pos (by rw [e, h])]
    · rw [if_neg e, if_neg (fun k => e (by rw [← k, h])), ih]
def AS.ren (ρ : Nat → Nat) (s : AS) : AS := { env := s.env.map fun p => (p.1, p.2.ren ρ), σ := renS ρ s.σ, ex := s.ex.map (AV.ren ρ) }
theorem lk_ren (ρ : Nat → Nat) (e : Env) (i : Nat) : lk (e.map fun p => (p.1, p.2.ren ρ)) i = (lk e i).ren ρ := by
  induction e with
  | nil => rfl
  | cons p e ih =>
    obtain ⟨j, v⟩ := p
    show (if i = j then v.ren ρ else lk (e.map fun p => (p.1, p.2.ren ρ)) i) = (if i = j then v else lk e i).ren ρ
    split
    · rfl
    · exact ih
theorem AO.ren_none {ρ : Nat → Nat} {o : AO} : o.ren ρ = .none ↔ o = .none := by cases o <;> simp [AO.ren]
theorem AO.ren_mu {ρ : Nat → Nat} (o : AO) : (o.ren ρ).mu = o.mu := by cases o <;> rfl
theorem ORel.ren {M A : Nat → Prop} {τ : Tau} {w : World} {ρ : Nat → Nat} (hρ : ∀ t, ρ (ρ t) = t) {t : Nat} {o : AO} (h : ORel M A τ w (ρ t) o) : ORel M A (fun u => τ (ρ u)) w t (o.ren ρ) := by
  cases o with
  | none => trivial
  | cells m cs =>
    obtain ⟨b, xs, e, h1, h2, h3, h4⟩ := h
    show ORel M A _ w t (.cells m (AC.renL ρ cs))
    rw [AC.renL_map]
    refine ⟨b, xs, e, h1, h2, all2_map h3 fun _ _ h => h.ren (fun u => by show τ (ρ (ρ u)) = τ u; rw [hρ]), ?_⟩
    cases m
    · refine ⟨h4.1, fun c hc => ?_⟩
      obtain ⟨c0, hc0, rfl⟩ := List.mem_map.1 hc
      obtain ⟨v, rfl⟩ := h4.2 c0 hc0
      exact ⟨v, rfl⟩
    · exact h4
  | arr m s rows => exact h
  | map m es => exact h
theorem SimAt.ren {G : Ground} {s : AS} {a : Act} {w : World} {A : Nat → Prop} {τ : Tau} {ρ : Nat → Nat} (hρ : ∀ t, ρ (ρ t) = t) (h : SimAt G s a w A τ) : SimAt G (s.ren ρ) a w A (fun t => τ (ρ t)) := by
  have hτ : ∀ t, (fun u => τ (ρ u)) (ρ t) = τ t := fun t => by show τ (ρ (ρ t)) = τ t; rw [hρ]
  refine ⟨h.below, h.a0, h.a1, h.alt, h.size, fun i => ?_, fun t => ?_, fun t t' b h1 h2 hne hm hb => ?_, ?_, h.marks⟩
  · show VRel A _ w (lk (s.env.map fun p => (p.1, p.2.ren ρ)) i) _
    rw [lk_ren]; exact (h.env i).ren (ρ := ρ) hτ
  · show ORel _ A _ w t (lo (renS ρ s.σ) t)
    rw [lo_renS hρ]; exact (h.obj (ρ t)).ren hρ
  · change lo (renS ρ s.σ) t ≠ .none at h1
    change lo (renS ρ s.σ) t' ≠ .none at h2
    change (lo (renS ρ s.σ) t).mu = true at hm
    rw [lo_renS hρ] at h1 h2 hm
    rw [AO.ren_mu] at hm
    exact h.sep (ρ t) (ρ t') b (fun e => h1 (AO.ren_none.2 e)) (fun e => h2 (AO.ren_none.2 e)) (fun e => hne (by rw [← hρ t, e, hρ])) hm hb
  · exact all2_map h.ex fun _ _ h => h.ren (ρ := ρ) hτ
theorem Weak.ren {G : Ground} {s : AS} {ρ : Nat → Nat} (hρ : ∀ t, ρ (ρ t) = t) : Weak G s (s.ren ρ) := fun a w ⟨A, τ, h⟩ => ⟨A, _, h.ren hρ⟩

/-- two numbers, changed about -/
def swp (d N t : Nat) : Nat := if t = d then N else if t = N then d else t
theorem swp_swp (d N t : Nat) : swp d N (swp d N t) = t := by
  unfold swp
  by_cases a : t = d
  · rw [if_pos a]
    by_cases b : N = d
    · rw [if_pos b, b, a]
    · rw [if_neg b, if_pos rfl, a]
  · rw [if_neg a]
    by_cases b : t = N
    · rw [if_pos b, if_pos rfl, b]
    · rw [if_neg b, if_neg a, if_neg b]
theorem swp_d (d N : Nat) : swp d N d = N := if_pos rfl

/-- room for an object of that number: all that has it is called otherwise meanwhile -/
theorem T_room {G : Ground} {F : Fence} {n : Nat} {Q : Exit → AS → Prop} {c : ACode} {s : AS} (d : Nat)
    (h : ∀ ρ : Nat → Nat, (∀ t, ρ (ρ t) = t) → lo (renS ρ s.σ) d = .none → ((renS ρ s.σ).all fun p => p.2.nr d) = true → ((s.ex.map (AV.ren ρ)).all fun v => !v.has d) = true → T G F n c Q (s.ren ρ)) : T G F n c Q s := by
  obtain ⟨b, hb⟩ := Bnd.or (sto_bnd s.σ) (AV.bndL s.ex)
  have hN := hb b (Nat.le_refl _)
  simp only [Bool.or_eq_false_iff] at hN
  have h1 := stoHas_lo hN.1
  refine T_weak (Weak.ren (ρ := swp d b) (swp_swp d b)) (h _ (swp_swp d b) ?_ ?_ ?_)
  · rw [lo_renS (swp_swp d b), swp_d, h1.1]; rfl
  · rw [List.all_eq_true]
    rintro ⟨t, o⟩ hp
    obtain ⟨⟨t0, o0⟩, hp0, e⟩ := List.mem_map.1 hp
    simp only [Prod.mk.injEq] at e
    obtain ⟨rfl, rfl⟩ := e
    have h2 : o0.has b = false := by
      have := hN.1
      simp only [stoHas, List.any_eq_false] at this
      have := this _ hp0
      simp only [Bool.or_eq_true, not_or, Bool.not_eq_true] at this
      exact this.2
    cases o0 with
    | cells m cs =>
      simp only [AO.has] at h2
      show (!AC.has.hasL d (AC.renL (swp d b) cs)) = true
      rw [AC.renL_has (swp_swp d b), swp_d, h2]; rfl
    | none => rfl
    | arr => rfl
    | map => rfl
  · rw [List.all_eq_true]
    intro v hv
    obtain ⟨v0, hv0, rfl⟩ := List.mem_map.1 hv
    rw [AV.ren_has (swp_swp d b), swp_d, hasV_false.1 hN.2 v0 hv0]; rfl
end Go.AM

namespace Go.AM
open Go Go.Proofs
set_option maxRecDepth 100000
set_option maxHeartbeats 4000000
set_option linter.unusedSimpArgs false
set_option linter.unusedVariables false

def fitsS (a b : List Int) : Bool := (joinSF a b).2 == 0 && sameL (joinSF a b).1 b
theorem p_shape_Fits (a b : List Int) : PureC Try.prog fi_shape_Fits [dI a, dI b] (dB (fitsS a b)) := by
  refine pure_shape_Fits (by simp) fun G hP hn => ?_
  unfold a_shape_Fits
  have k := p_shape_Join a b
  have ke := p_slices_Equal (joinSF a b).1 b
  have hf : fitsS a b = ((joinSF a b).2 == 0 && sameL (joinSF a b).1 b) := rfl
  generalize joinSF a b = r at *
  cases e : (r.2 == 0)
  · repeat' (first | apply T_then | apply then_ret | apply then_exit | apply then_goto | apply rnd_exit | apply rnd_ret | apply rnd_goto | apply noGo_normal | apply noGo_ret | apply noGo_exit | apply jmp_normal | apply jmp_ret | apply jmp_exit | apply jmp_goto | apply inB_normal | apply inB_ret | apply inB_goto | apply inB_exit | refine inB_exit_ne rfl ?_ | ((first | apply T_srK fw | apply T_regK fw); · ((try simp only [TOps.flat, List.cons_append, List.nil_append]); repeat (first | apply X_g0 | apply X_g | apply S_keep | apply X_skip | apply X_skipN | refine X_call ?_ ⟨_, _, _, _, _, _, rfl, rfl, rfl, by rw [hP]; exact k⟩ ?_ | refine X_call ?_ ⟨_, _, _, _, _, _, rfl, rfl, rfl, by rw [hP]; exact ke⟩ ?_ | apply X_q | apply X_st | apply X_n | apply X_s | apply SKs0 | apply SKs2 | apply SKs1 | refine ⟨⟨rfl, rfl⟩, ?_⟩ | refine ⟨⟨rfl, ?_⟩, ?_⟩ | refine ⟨?_, ?_⟩ | (· (try simp only [go_sem, seval, reduceIte, ↓reduceIte, Bool.not_eq_true, reduceCtorEq, beq_false, beq_true, hn, hP, e]); first | done | rfl)))) | apply T_seq | apply T_block | refine T_scopeJ 0 rfl ?_ | apply T_scope | apply T_goto | apply T_ret | apply T_skip | apply T_exit | apply T_label | refine T_condT rfl ?_ | refine T_condF rfl ?_ | refine T_condD rfl (fun _ => ?_) (fun _ => ?_) | refine T_cond rfl (fun _ => ?_) (fun _ => ?_))
    exact ends_ret rfl rfl rfl (by rw [hf, e]; rfl)
  · repeat' (first | apply T_then | apply then_ret | apply then_exit | apply then_goto | apply rnd_exit | apply rnd_ret | apply rnd_goto | apply noGo_normal | apply noGo_ret | apply noGo_exit | apply jmp_normal | apply jmp_ret | apply jmp_exit | apply jmp_goto | apply inB_normal | apply inB_ret | apply inB_goto | apply inB_exit | refine inB_exit_ne rfl ?_ | ((first | apply T_srK fw | apply T_regK fw); · ((try simp only [TOps.flat, List.cons_append, List.nil_append]); repeat (first | apply X_g0 | apply X_g | apply S_keep | apply X_skip | apply X_skipN | refine X_call ?_ ⟨_, _, _, _, _, _, rfl, rfl, rfl, by rw [hP]; exact k⟩ ?_ | refine X_call ?_ ⟨_, _, _, _, _, _, rfl, rfl, rfl, by rw [hP]; exact ke⟩ ?_ | apply X_q | apply X_st | apply X_n | apply X_s | apply SKs0 | apply SKs2 | apply SKs1 | refine ⟨⟨rfl, rfl⟩, ?_⟩ | refine ⟨⟨rfl, ?_⟩, ?_⟩ | refine ⟨?_, ?_⟩ | (· (try simp only [go_sem, seval, reduceIte, ↓reduceIte, Bool.not_eq_true, reduceCtorEq, beq_false, beq_true, hn, hP, e]); first | done | rfl)))) | apply T_seq | apply T_block | refine T_scopeJ 0 rfl ?_ | apply T_scope | apply T_goto | apply T_ret | apply T_skip | apply T_exit | apply T_label | refine T_condT rfl ?_ | refine T_condF rfl ?_ | refine T_condD rfl (fun _ => ?_) (fun _ => ?_) | refine T_cond rfl (fun _ => ?_) (fun _ => ?_))
    exact ends_ret rfl rfl rfl (by rw [hf, e]; rfl)

/-- how far a step of a side goes -/
def stp : List Int → List Int
  | [] => []
  | m :: r => (if m > 1 then prd r else 0) :: stp r
theorem stp_len : ∀ s : List Int, (stp s).length = s.length
  | [] => rfl
  | m :: r => by simp [stp, stp_len r]
def stepsL (s : List Int) (n : Nat) : List Int := List.replicate (n - s.length) 0 ++ stp s
def dotL : List Int → List Int → Int → Int
  | n :: x, m :: t, a => dotL x t (a + n * m)
  | _, _, a => a
def fromAt (s g : List Int) (p : Int) : Int := dotL (idxF g p) (stepsL s g.length) 0
def allF (s g : List Int) : List (List DV) := (List.range (sizeS g).toNat).map fun p => [dN ((p : Nat) : Int), dN (fromAt s g ((p : Nat) : Int))]
theorem allF_get (s g : List Int) (k : Nat) (h : k < (sizeS g).toNat) : (allF s g)[k]? = some [dN k, dN (fromAt s g k)] := by simp [allF, h]
theorem allF_len (s g : List Int) : (allF s g).length = (sizeS g).toNat := by simp [allF]

theorem p_tensor_from (s g : List Int) : PureC Try.prog fi_tensor_from [dI s, dI g] (.one (.fn fi_tensor_from_1 [] [.box [eI g], .box [eI s]])) := by
  refine pure_tensor_from (by simp) fun G hP hn => ?_
  unfold a_tensor_from
  repeat' (first | apply T_then | apply then_ret | apply then_exit | apply then_goto | apply rnd_exit | apply rnd_ret | apply rnd_goto | apply noGo_normal | apply noGo_ret | apply noGo_exit | apply jmp_normal | apply jmp_ret | apply jmp_exit | apply jmp_goto | apply inB_normal | apply inB_ret | apply inB_goto | apply inB_exit | refine inB_exit_ne rfl ?_ | ((first | apply T_srK fw | apply T_regK fw); · ((try simp only [TOps.flat, List.cons_append, List.nil_append]); repeat (first | apply X_g0 | apply X_g | apply S_keep | apply X_skip | apply X_skipN | apply X_q | apply X_st | apply X_n | apply X_s | apply SKs0 | apply SKs2 | apply SKs1 | refine ⟨⟨rfl, rfl⟩, ?_⟩ | refine ⟨⟨rfl, ?_⟩, ?_⟩ | refine ⟨?_, ?_⟩ | (· (try simp only [go_sem, seval, reduceIte, ↓reduceIte, Bool.not_eq_true, reduceCtorEq, beq_false, beq_true, hn, hP]); first | done | rfl)))) | apply T_seq | apply T_block | refine T_scopeJ 0 rfl ?_ | apply T_scope | apply T_goto | apply T_ret | apply T_skip | apply T_exit | apply T_label | refine T_condT rfl ?_ | refine T_condF rfl ?_ | refine T_condD rfl (fun _ => ?_) (fun _ => ?_) | refine T_cond rfl (fun _ => ?_) (fun _ => ?_))
  exact ends_ret rfl rfl rfl rfl

theorem prd_drop_le {s : List Int} (h : ShapeOk s) (n : Nat) : 1 ≤ prd (s.drop n) ∧ prd (s.drop n) ≤ 64 := by
  have h1 : prd s = prd (s.take n) * prd (s.drop n) := by rw [← prd_append, List.take_append_drop]
  have h2 := prd_pos (s := s.drop n) (fun m hm => h.2.1 m (List.mem_of_mem_drop hm))
  have h3 := prd_pos (s := s.take n) (fun m hm => h.2.1 m (List.mem_of_mem_take hm))
  have h4 := h.2.2
  have : 1 * prd (s.drop n) ≤ prd (s.take n) * prd (s.drop n) := Int.mul_le_mul_of_nonneg_right h3 (by omega)
  omega
theorem stp_bound {s : List Int} (h : ShapeOk s) : ∀ (n : Nat) (x : Int), x ∈ stp (s.drop n) → 0 ≤ x ∧ x ≤ 64 := by
  have key : ∀ (k : Nat) (n : Nat), s.length - n = k → ∀ x, x ∈ stp (s.drop n) → 0 ≤ x ∧ x ≤ 64 := by
    intro k
    induction k with
    | zero => intro n hn x hx; rw [List.drop_of_length_le (by omega)] at hx; simp [stp] at hx
    | succ k ih =>
      intro n hn x hx
      rw [List.drop_eq_getElem_cons (by omega)] at hx
      simp only [stp, List.mem_cons] at hx
      rcases hx with rfl | hx
      · have := prd_drop_le h (n + 1)
        split <;> omega
      · exact ih (n + 1) (by omega) x hx
  exact fun n => key _ n rfl
theorem steps_len {s : List Int} {n : Nat} (h : s.length ≤ n) : (stepsL s n).length = n := by simp [stepsL, stp_len]; omega
theorem steps_bound {s : List Int} (h : ShapeOk s) {n i : Nat} {x : Int} (hx : (stepsL s n)[i]? = some x) : 0 ≤ x ∧ x ≤ 64 := by
  have := List.mem_of_getElem? hx
  unfold stepsL at this
  rcases List.mem_append.1 this with hm | hm
  · have := (List.mem_replicate.1 hm).2; omega
  · exact stp_bound h 0 x (by simpa using hm)

theorem q_tensor_from_1 {s g : List Int} (hs : ShapeOk s) (hg : ShapeOk g) (hl : s.length ≤ g.length) : SeqC Try.prog fi_tensor_from_1 [.box [eI g], .box [eI s]] (allF s g) := by
  refine seqC_of call_tensor_from_1 func_tensor_from_1 (by rfl) is_tensor_from_1 ok_tensor_from_1 rv_tensor_from_1 (Nat.le_of_ble_eq_true (by rfl)) fun R l σ fr G ex hP hnt hR hno hA fam hex hy => ?_
  have hnt : G.nt = 77 := hnt
  refine T_room 15 fun ρ hρ hlo hnr hxr => ?_
  simp only [AS.ren, List.map, AV.ren, AC.ren, initV, Nat.zero_add, Nat.reduceAdd] at hlo hnr hxr ⊢
  generalize hS0 : renS ρ (σ 0) = S0 at *
  generalize hE : ex.map (AV.ren ρ) = E at *
  unfold a_tensor_from_1
  have hM : MaxN = 140737488355328 := rfl
  have h3 := hg.1
  have q1 : (g.length : Int) * 8 ≤ MaxN := by omega
  have q2 : (g.length : Int) ≤ MaxN := by omega
  have hnr' := hnr
  simp only [AO.nr] at hnr'
  have hsl := hs.1
  have w0 : IntKind.i64.wrap ((s.length : Int) - 1) = (s.length : Int) - 1 := wrap_in (by omega) (by omega)
  repeat' (first     | refine T_then ?_ | refine then_ret ?_ | refine then_exit ?_ | refine then_goto ?_     | refine rnd_exit ?_ | refine rnd_ret ?_ | refine rnd_goto ?_     | refine noGo_normal ?_ | refine noGo_ret ?_ | refine noGo_exit ?_ | refine jmp_normal ?_ | refine jmp_ret ?_ | refine jmp_exit ?_ | refine jmp_goto ?_     | refine inB_normal ?_ | refine inB_ret ?_ | refine inB_goto ?_ | refine inB_exit ?_ | refine inB_exit_ne rfl ?_     | ((first | apply T_srE fw | apply T_regE fw); · ((try simp only [go_sem, seval, reduceIte, ↓reduceIte, hP, hlo, hnr', hxr, scr_ex hxr, w0, q1, q2, Int.le_refl]); (repeat ((first       | (refine ⟨true, false, rfl, fun h => absurd h (by decide), ?_⟩) | (refine ⟨false, false, rfl, fun h => absurd h (by decide), ?_⟩) | refine ⟨_, _, rfl, fun _ => rfl, ?_⟩); (try simp only [go_sem, seval, reduceIte, ↓reduceIte, hP, hlo, hnr', hxr, scr_ex hxr, w0, q1, q2, Int.le_refl]))); (first | done | exact rfl)))     | ((first | apply T_sdF fw (by rw [hP]; rfl) (by decide +kernel) | apply T_drF fw (by rw [hP]; rfl) (by decide +kernel)); · ((try simp only [TOps.flat, List.cons_append, List.nil_append]); (repeat ((first | refine Y_g0 ?_ | refine Y_g (by (try simp only [go_sem, seval, reduceIte, ↓reduceIte, Bool.not_eq_true, reduceCtorEq, beq_false, beq_true, hP, hlo, hnr', hxr, scr_ex hxr, w0, q1, q2, Int.le_refl]); (first | done | exact rfl)) ?_); (first | refine Y_skip ?_ | ((first | apply Y_q); (· ((try simp only [go_sem, seval, reduceIte, ↓reduceIte, Bool.not_eq_true, reduceCtorEq, beq_false, beq_true, hP, hlo, hnr', hxr, scr_ex hxr, w0, q1, q2, Int.le_refl]); (first | done | exact rfl))))))); apply RunF_nil; (try simp only [go_sem, seval, reduceIte, ↓reduceIte, Bool.not_eq_true, reduceCtorEq, beq_false, beq_true, hP, hlo, hnr', hxr, scr_ex hxr, w0, q1, q2, Int.le_refl]); (first | done | exact rfl)))     | ((first | apply T_sd fw (by rw [hP]; rfl) | apply T_dr fw (by rw [hP]; rfl)); · ((try simp only [go_sem, seval, reduceIte, ↓reduceIte, bne, beq_false, beq_true, Bool.not_eq_true, Bool.if_true_right, decide_not, reduceCtorEq, hP, hlo, hnr', hxr, scr_ex hxr, w0, q1, q2, Int.le_refl]); (first | done | exact rfl)))     | refine T_seq ?_ | refine T_block ?_ | refine T_scopeJ 0 rfl ?_ | refine T_scope ?_ | refine T_goto ?_ | refine T_ret ?_ | refine T_skip ?_ | refine T_exit ?_ | refine T_label ?_     | refine T_condT rfl ?_ | refine T_condF rfl ?_     | refine T_condD rfl (fun _ => ?_) (fun _ => ?_)     | refine T_cond rfl (fun _ => ?_) (fun _ => ?_))
  refine T_for s.length (fun _ (a : Int × Int × List Int) => { env := [(0, .one (.raw (.func (.yield l) #[] #[]))), (1, .one (.p (.box [eI g]))), (2, .one (.p (.box [eI s]))), (4, .one (.msl 15 0 1 g.length (some g.length))), (5, .one (.p (.int .i64 a.1))), (6, .one (.p (.int .i64 a.2.1)))], σ := (15, .arr true 1 (rI a.2.2)) :: S0, ex := E })
    (fun k a => a.1 = (s.length : Int) - 1 - k ∧ a.2.1 = prd (s.drop (s.length - k)) ∧ a.2.2 = List.replicate (g.length - k) 0 ++ stp (s.drop (s.length - k))) ((s.length : Int) - 1, 1, List.replicate g.length 0)
    ⟨by simp, by simp [prd], by simp [stp]⟩ ?_ fun k a hk ha => ?_
  · refine Weak.sto (s := { env := _, σ := _, ex := E }) fun t => .inl ?_
    simp [lo, rI]
  obtain ⟨i5, st, R'⟩ := a
  obtain ⟨h5, hst, hR'⟩ := ha
  simp only at h5 hst hR'
  by_cases hlt : k < s.length
  · obtain ⟨j, hj⟩ : ∃ j, j = s.length - 1 - k := ⟨_, rfl⟩
    have h5' : i5 = (j : Int) := by omega
    subst h5'
    have hjl : j < s.length := by omega
    have hd : s.drop j = s[j] :: s.drop (j + 1) := List.drop_eq_getElem_cons hjl
    have hx : s[j]? = some s[j] := List.getElem?_eq_getElem hjl
    rw [show s.length - k = j + 1 from by omega] at hst hR'
    have hm := hs.2.1 _ (List.getElem_mem hjl)
    have hb := prd_drop_le hs j
    have hb2 := prd_drop_le hs (j + 1)
    have hp : prd (s.drop j) = s[j] * prd (s.drop (j + 1)) := by rw [hd]; rfl
    have hstp : stp (s.drop j) = (if s[j] > 1 then prd (s.drop (j + 1)) else 0) :: stp (s.drop (j + 1)) := by rw [hd]; rfl
    rw [← hst] at hp hstp hb2
    have w1 : IntKind.i64.wrap (st * s[j]) = st * s[j] := by rw [Int.mul_comm]; exact wrap_in (by omega) (by omega)
    have w2 : IntKind.i64.wrap ((j : Int) - 1) = (j : Int) - 1 := wrap_in (by omega) (by omega)
    have w3 : IntKind.i64.wrap ((g.length : Int) - (s.length : Int)) = ((g.length - s.length : Nat) : Int) := by rw [wrap_in (by omega) (by omega)]; omega
    have w4 : IntKind.i64.wrap (((g.length - s.length : Nat) : Int) + (j : Int)) = ((g.length - 1 - k : Nat) : Int) := by rw [wrap_in (by omega) (by omega)]; omega
    have hrep : List.replicate (g.length - k) (0 : Int) = List.replicate (g.length - 1 - k + 1) 0 := by congr 1; omega
    rw [hrep] at hR'
    have hz : R'[g.length - 1 - k]? = some 0 := by
      rw [hR', List.getElem?_append_left (by simp)]; simp
    have hset := rep_set (g.length - 1 - k) st (stp (s.drop (j + 1)))
    rw [← hR'] at hset
    have hlen : R'.length = g.length := by rw [hR']; simp [stp_len]; omega
    have c0 : ((j : Int) ≥ 0) = True := by simp
    have c2 : g.length - 1 - k < g.length := by omega
    have inv1 : (j : Int) - 1 = (s.length : Int) - 1 - ((k + 1 : Nat) : Int) := by omega
    have inv2 : st * s[j] = prd (s.drop (s.length - (k + 1))) := by rw [show s.length - (k + 1) = j from by omega, hp, Int.mul_comm]
    by_cases hm1 : s[j] > 1
    · repeat' (first     | refine T_then ?_ | refine then_ret ?_ | refine then_exit ?_ | refine then_goto ?_     | refine rnd_exit ?_ | refine rnd_ret ?_ | refine rnd_goto ?_     | refine noGo_normal ?_ | refine noGo_ret ?_ | refine noGo_exit ?_ | refine jmp_normal ?_ | refine jmp_ret ?_ | refine jmp_exit ?_ | refine jmp_goto ?_     | refine inB_normal ?_ | refine inB_ret ?_ | refine inB_goto ?_ | refine inB_exit ?_ | refine inB_exit_ne rfl ?_     | ((first | apply T_srE fw | apply T_regE fw); · ((try simp only [go_sem, seval, reduceIte, ↓reduceIte, hP, c0, hx, hjl, hm1, w1, w2, w3, w4, hz, hlen, c2, rI_set]); (repeat ((first       | (refine ⟨true, false, rfl, fun h => absurd h (by decide), ?_⟩) | (refine ⟨false, false, rfl, fun h => absurd h (by decide), ?_⟩) | refine ⟨_, _, rfl, fun _ => rfl, ?_⟩); (try simp only [go_sem, seval, reduceIte, ↓reduceIte, hP, c0, hx, hjl, hm1, w1, w2, w3, w4, hz, hlen, c2, rI_set]))); (first | done | exact rfl)))     | ((first | apply T_sdF fw (by rw [hP]; rfl) (by decide +kernel) | apply T_drF fw (by rw [hP]; rfl) (by decide +kernel)); · ((try simp only [TOps.flat, List.cons_append, List.nil_append]); (repeat ((first | refine Y_g0 ?_ | refine Y_g (by (try simp only [go_sem, seval, reduceIte, ↓reduceIte, Bool.not_eq_true, reduceCtorEq, beq_false, beq_true, hP, c0, hx, hjl, hm1, w1, w2, w3, w4, hz, hlen, c2, rI_set]); (first | done | exact rfl)) ?_); (first | refine Y_skip ?_ | ((first | apply Y_q); (· ((try simp only [go_sem, seval, reduceIte, ↓reduceIte, Bool.not_eq_true, reduceCtorEq, beq_false, beq_true, hP, c0, hx, hjl, hm1, w1, w2, w3, w4, hz, hlen, c2, rI_set]); (first | done | exact rfl))))))); apply RunF_nil; (try simp only [go_sem, seval, reduceIte, ↓reduceIte, Bool.not_eq_true, reduceCtorEq, beq_false, beq_true, hP, c0, hx, hjl, hm1, w1, w2, w3, w4, hz, hlen, c2, rI_set]); (first | done | exact rfl)))     | ((first | apply T_sd fw (by rw [hP]; rfl) | apply T_dr fw (by rw [hP]; rfl)); · ((try simp only [go_sem, seval, reduceIte, ↓reduceIte, bne, beq_false, beq_true, Bool.not_eq_true, Bool.if_true_right, decide_not, reduceCtorEq, hP, c0, hx, hjl, hm1, w1, w2, w3, w4, hz, hlen, c2, rI_set]); (first | done | exact rfl)))     | refine T_seq ?_ | refine T_block ?_ | refine T_scopeJ 0 rfl ?_ | refine T_scope ?_ | refine T_goto ?_ | refine T_ret ?_ | refine T_skip ?_ | refine T_exit ?_ | refine T_label ?_     | refine T_condT rfl ?_ | refine T_condF rfl ?_     | refine T_condD rfl (fun _ => ?_) (fun _ => ?_)     | refine T_cond rfl (fun _ => ?_) (fun _ => ?_))
      refine rnd_next hlt ((j : Int) - 1, st * s[j], R'.set (g.length - 1 - k) st) ⟨inv1, inv2, ?_⟩ (Weak.sto (s := { env := _, σ := _, ex := E }) fun t => .inl ?_)
      · rw [hset, show s.length - (k + 1) = j from by omega, hstp, if_pos hm1, show g.length - (k + 1) = g.length - 1 - k from by omega]
      · simp only [lo]; split <;> rfl
    · repeat' (first     | refine T_then ?_ | refine then_ret ?_ | refine then_exit ?_ | refine then_goto ?_     | refine rnd_exit ?_ | refine rnd_ret ?_ | refine rnd_goto ?_     | refine noGo_normal ?_ | refine noGo_ret ?_ | refine noGo_exit ?_ | refine jmp_normal ?_ | refine jmp_ret ?_ | refine jmp_exit ?_ | refine jmp_goto ?_     | refine inB_normal ?_ | refine inB_ret ?_ | refine inB_goto ?_ | refine inB_exit ?_ | refine inB_exit_ne rfl ?_     | ((first | apply T_srE fw | apply T_regE fw); · ((try simp only [go_sem, seval, reduceIte, ↓reduceIte, hP, c0, hx, hjl, hm1, w1, w2, w3, w4]); (repeat ((first       | (refine ⟨true, false, rfl, fun h => absurd h (by decide), ?_⟩) | (refine ⟨false, false, rfl, fun h => absurd h (by decide), ?_⟩) | refine ⟨_, _, rfl, fun _ => rfl, ?_⟩); (try simp only [go_sem, seval, reduceIte, ↓reduceIte, hP, c0, hx, hjl, hm1, w1, w2, w3, w4]))); (first | done | exact rfl)))     | ((first | apply T_sdF fw (by rw [hP]; rfl) (by decide +kernel) | apply T_drF fw (by rw [hP]; rfl) (by decide +kernel)); · ((try simp only [TOps.flat, List.cons_append, List.nil_append]); (repeat ((first | refine Y_g0 ?_ | refine Y_g (by (try simp only [go_sem, seval, reduceIte, ↓reduceIte, Bool.not_eq_true, reduceCtorEq, beq_false, beq_true, hP, c0, hx, hjl, hm1, w1, w2, w3, w4]); (first | done | exact rfl)) ?_); (first | refine Y_skip ?_ | ((first | apply Y_q); (· ((try simp only [go_sem, seval, reduceIte, ↓reduceIte, Bool.not_eq_true, reduceCtorEq, beq_false, beq_true, hP, c0, hx, hjl, hm1, w1, w2, w3, w4]); (first | done | exact rfl))))))); apply RunF_nil; (try simp only [go_sem, seval, reduceIte, ↓reduceIte, Bool.not_eq_true, reduceCtorEq, beq_false, beq_true, hP, c0, hx, hjl, hm1, w1, w2, w3, w4]); (first | done | exact rfl)))     | ((first | apply T_sd fw (by rw [hP]; rfl) | apply T_dr fw (by rw [hP]; rfl)); · ((try simp only [go_sem, seval, reduceIte, ↓reduceIte, bne, beq_false, beq_true, Bool.not_eq_true, Bool.if_true_right, decide_not, reduceCtorEq, hP, c0, hx, hjl, hm1, w1, w2, w3, w4]); (first | done | exact rfl)))     | refine T_seq ?_ | refine T_block ?_ | refine T_scopeJ 0 rfl ?_ | refine T_scope ?_ | refine T_goto ?_ | refine T_ret ?_ | refine T_skip ?_ | refine T_exit ?_ | refine T_label ?_     | refine T_condT rfl ?_ | refine T_condF rfl ?_     | refine T_condD rfl (fun _ => ?_) (fun _ => ?_)     | refine T_cond rfl (fun _ => ?_) (fun _ => ?_))
      refine rnd_next hlt ((j : Int) - 1, st * s[j], R') ⟨inv1, inv2, ?_⟩ (.refl _ _)
      rw [show s.length - (k + 1) = j from by omega, hstp, if_neg hm1, hR', show g.length - (k + 1) = g.length - 1 - k from by omega, List.replicate_succ']
      simp
  have hke : k = s.length := by omega
  rw [hke, Nat.sub_self, List.drop_zero] at hR'
  have c0 : ¬ i5 ≥ 0 := by omega
  repeat' (first     | refine T_then ?_ | refine then_ret ?_ | refine then_exit ?_ | refine then_goto ?_     | refine rnd_exit ?_ | refine rnd_ret ?_ | refine rnd_goto ?_     | refine noGo_normal ?_ | refine noGo_ret ?_ | refine noGo_exit ?_ | refine jmp_normal ?_ | refine jmp_ret ?_ | refine jmp_exit ?_ | refine jmp_goto ?_     | refine inB_normal ?_ | refine inB_ret ?_ | refine inB_goto ?_ | refine inB_exit ?_ | refine inB_exit_ne rfl ?_     | ((first | apply T_srE fw | apply T_regE fw); · ((try simp only [go_sem, seval, reduceIte, ↓reduceIte, hP, c0]); (repeat ((first       | (refine ⟨true, false, rfl, fun h => absurd h (by decide), ?_⟩) | (refine ⟨false, false, rfl, fun h => absurd h (by decide), ?_⟩) | refine ⟨_, _, rfl, fun _ => rfl, ?_⟩       | (refine .inl ⟨_, _, ⟨_, _, _, _, _, _, rfl, rfl, rfl, p_shape_Size _⟩, ?_⟩)       | (refine ⟨_, ?_, rfl, fun _ => ⟨_, ⟨_, _, _, _, _, _, rfl, rfl, rfl, p_shape_Size _⟩, ?_⟩, ?_⟩; rotate_left; (· (simp only [go_sem, seval, reduceIte, ↓reduceIte, hP, c0]; first | done | exact rfl)))); (try simp only [go_sem, seval, reduceIte, ↓reduceIte, hP, c0]))); (first | done | exact rfl)))     | ((first | apply T_sdF fw (by rw [hP]; rfl) (by decide +kernel) | apply T_drF fw (by rw [hP]; rfl) (by decide +kernel)); · ((try simp only [TOps.flat, List.cons_append, List.nil_append]); (repeat ((first | refine Y_g0 ?_ | refine Y_g (by (try simp only [go_sem, seval, reduceIte, ↓reduceIte, Bool.not_eq_true, reduceCtorEq, beq_false, beq_true, hP, c0]); (first | done | exact rfl)) ?_); (first | refine Y_skip ?_ | ((first | apply Y_q | (refine Y_call ⟨_, _, _, _, _, _, rfl, rfl, rfl, (by rw [hP]; exact p_shape_Size _)⟩ ?_ ?_)); (· ((try simp only [go_sem, seval, reduceIte, ↓reduceIte, Bool.not_eq_true, reduceCtorEq, beq_false, beq_true, hP, c0]); (first | done | exact rfl))))))); apply RunF_nil; (try simp only [go_sem, seval, reduceIte, ↓reduceIte, Bool.not_eq_true, reduceCtorEq, beq_false, beq_true, hP, c0]); (first | done | exact rfl)))     | ((first | apply T_sd fw (by rw [hP]; rfl) | apply T_dr fw (by rw [hP]; rfl)); · ((try simp only [go_sem, seval, reduceIte, ↓reduceIte, bne, beq_false, beq_true, Bool.not_eq_true, Bool.if_true_right, decide_not, reduceCtorEq, hP, c0]); (repeat ((first       | (refine ⟨_, ⟨_, _, _, _, _, _, rfl, rfl, rfl, p_shape_Size _⟩, ?_⟩)); (try simp only [go_sem, seval, reduceIte, ↓reduceIte, bne, beq_false, beq_true, Bool.not_eq_true, Bool.if_true_right, decide_not, reduceCtorEq, hP, c0]))); (first | done | exact rfl)))     | refine T_seq ?_ | refine T_block ?_ | refine T_scopeJ 0 rfl ?_ | refine T_scope ?_ | refine T_goto ?_ | refine T_ret ?_ | refine T_skip ?_ | refine T_exit ?_ | refine T_label ?_     | refine T_condT rfl ?_ | refine T_condF rfl ?_     | refine T_condD rfl (fun _ => ?_) (fun _ => ?_)     | refine T_cond rfl (fun _ => ?_) (fun _ => ?_))
  have hRs : R' = stepsL s g.length := hR'
  have hRl : R'.length = g.length := by rw [hRs]; exact steps_len hl
  refine T_weak (Weak.freeze (i := 4) rfl (toD_list (n := 5) (rows := rI R') (m := true) rfl (by simp [hRl]))) ?_
  simp only [if_true]
  refine T_weak (s' := { env := [(0, .one (.raw (.func (.yield l) #[] #[]))), (1, .one (.p (.box [eI g]))), (4, .one (.p (eI R'))), (45, .one (.p (.int .i64 (sizeS g)))), (46, .one (.p (.int .i64 0)))], σ := S0, ex := E })
    ((Weak.pick [0, 1, 4, 45, 46]).trans (Weak.sto (s := { env := _, σ := _, ex := E }) fun t => ?_)) ?_
  · by_cases h : t = 15
    · exact .inr (by rw [h]; exact hlo)
    · exact .inl (by simp [lo, h])
  refine T_weak (Weak.ren hρ) ?_
  simp only [AS.ren, List.map, AV.ren, AC.ren]
  have hS1 : renS ρ S0 = σ 0 := by rw [← hS0, renS_renS hρ]
  have hE1 : E.map (AV.ren ρ) = ex := by
    rw [← hE, List.map_map]
    conv => rhs; rw [← List.map_id ex]
    exact List.map_congr_left fun v _ => AV.ren_ren hρ v
  rw [hS1, hE1]
  have hz2 := sizeS_nn g
  refine T_for (sizeS g).toNat (fun i (_ : Unit) => { env := [(0, .one (.raw (.func (.yield l) #[] #[]))), (1, .one (.p (.box [eI g]))), (4, .one (.p (eI R'))), (45, .one (.p (.int .i64 (sizeS g)))), (46, .one (.p (.int .i64 i)))], σ := σ i, ex := ex })
    (fun _ _ => True) () trivial (.refl _ _) fun i _ hi _ => ?_
  by_cases hlt2 : i < (sizeS g).toNat
  rotate_left
  · have c1 : ¬ (i : Int) < sizeS g := by omega
    have e1 : i = (allF s g).length := by rw [allF_len]; omega
    repeat' (first     | refine T_then ?_ | refine then_ret ?_ | refine then_exit ?_ | refine then_goto ?_     | refine rnd_exit ?_ | refine rnd_ret ?_ | refine rnd_goto ?_     | refine noGo_normal ?_ | refine noGo_ret ?_ | refine noGo_exit ?_ | refine jmp_normal ?_ | refine jmp_ret ?_ | refine jmp_exit ?_ | refine jmp_goto ?_     | refine inB_normal ?_ | refine inB_ret ?_ | refine inB_goto ?_ | refine inB_exit ?_ | refine inB_exit_ne rfl ?_     | ((first | apply T_srE fw | apply T_regE fw); · ((try simp only [go_sem, seval, reduceIte, ↓reduceIte, hP, c1]); (repeat ((first       | (refine ⟨true, false, rfl, fun h => absurd h (by decide), ?_⟩) | (refine ⟨false, false, rfl, fun h => absurd h (by decide), ?_⟩) | refine ⟨_, _, rfl, fun _ => rfl, ?_⟩); (try simp only [go_sem, seval, reduceIte, ↓reduceIte, hP, c1]))); (first | done | exact rfl)))     | ((first | apply T_sdF fw (by rw [hP]; rfl) (by decide +kernel) | apply T_drF fw (by rw [hP]; rfl) (by decide +kernel)); · ((try simp only [TOps.flat, List.cons_append, List.nil_append]); (repeat ((first | refine Y_g0 ?_ | refine Y_g (by (try simp only [go_sem, seval, reduceIte, ↓reduceIte, Bool.not_eq_true, reduceCtorEq, beq_false, beq_true, hP, c1]); (first | done | exact rfl)) ?_); (first | refine Y_skip ?_ | ((first | apply Y_q); (· ((try simp only [go_sem, seval, reduceIte, ↓reduceIte, Bool.not_eq_true, reduceCtorEq, beq_false, beq_true, hP, c1]); (first | done | exact rfl))))))); apply RunF_nil; (try simp only [go_sem, seval, reduceIte, ↓reduceIte, Bool.not_eq_true, reduceCtorEq, beq_false, beq_true, hP, c1]); (first | done | exact rfl)))     | ((first | apply T_sd fw (by rw [hP]; rfl) | apply T_dr fw (by rw [hP]; rfl)); · ((try simp only [go_sem, seval, reduceIte, ↓reduceIte, bne, beq_false, beq_true, Bool.not_eq_true, Bool.if_true_right, decide_not, reduceCtorEq, hP, c1]); (first | done | exact rfl)))     | refine T_seq ?_ | refine T_block ?_ | refine T_scopeJ 0 rfl ?_ | refine T_scope ?_ | refine T_goto ?_ | refine T_ret ?_ | refine T_skip ?_ | refine T_exit ?_ | refine T_label ?_     | refine T_condT rfl ?_ | refine T_condF rfl ?_     | refine T_condD rfl (fun _ => ?_) (fun _ => ?_)     | refine T_cond rfl (fun _ => ?_) (fun _ => ?_))
    exact ⟨.inl rfl, by rw [e1], rfl⟩
  have c1 : (i : Int) < sizeS g := by omega
  have w1 : IntKind.i64.wrap ((i : Int) + 1) = ((i + 1 : Nat) : Int) := by rw [wrap_in (by omega) (by omega)]; rfl
  have hpx : PureC Try.prog fi_shape_Index [dI g, dN i] (.tup [dI (idxF g i), dN 0]) := by
    have := p_shape_Index g i
    rw [if_neg (by simp; omega)] at this
    exact this
  have hyi := hy i _ (allF_get s g i hlt2)
  have hix : InIdx g (idxF g i) := by rw [idxF_eq hg.2.1 (by omega) (by omega)]; exact ix_in hg.2.1
  have hfa : fromAt s g i = dotL (idxF g i) R' 0 := by rw [hRs]; rfl
  have hxl := hix.length
  generalize idxF g (i : Int) = x at *
  repeat' (first     | refine T_then ?_ | refine then_ret ?_ | refine then_exit ?_ | refine then_goto ?_     | refine rnd_exit ?_ | refine rnd_ret ?_ | refine rnd_goto ?_     | refine noGo_normal ?_ | refine noGo_ret ?_ | refine noGo_exit ?_ | refine jmp_normal ?_ | refine jmp_ret ?_ | refine jmp_exit ?_ | refine jmp_goto ?_     | refine inB_normal ?_ | refine inB_ret ?_ | refine inB_goto ?_ | refine inB_exit ?_ | refine inB_exit_ne rfl ?_     | ((first | apply T_srE fw | apply T_regE fw); · ((try simp only [go_sem, seval, reduceIte, ↓reduceIte, hP, c1, w1]); (repeat ((first       | (refine ⟨true, false, rfl, fun h => absurd h (by decide), ?_⟩) | (refine ⟨false, false, rfl, fun h => absurd h (by decide), ?_⟩) | refine ⟨_, _, rfl, fun _ => rfl, ?_⟩       | (refine .inl ⟨_, _, ⟨_, _, _, _, _, _, rfl, rfl, rfl, hpx⟩, ?_⟩)       | (refine ⟨_, ?_, rfl, fun _ => ⟨_, ⟨_, _, _, _, _, _, rfl, rfl, rfl, hpx⟩, ?_⟩, ?_⟩; rotate_left; (· (simp only [go_sem, seval, reduceIte, ↓reduceIte, hP, c1, w1]; first | done | exact rfl)))); (try simp only [go_sem, seval, reduceIte, ↓reduceIte, hP, c1, w1]))); (first | done | exact rfl)))     | ((first | apply T_sdF fw (by rw [hP]; rfl) (by decide +kernel) | apply T_drF fw (by rw [hP]; rfl) (by decide +kernel)); · ((try simp only [TOps.flat, List.cons_append, List.nil_append]); (repeat ((first | refine Y_g0 ?_ | refine Y_g (by (try simp only [go_sem, seval, reduceIte, ↓reduceIte, Bool.not_eq_true, reduceCtorEq, beq_false, beq_true, hP, c1, w1]); (first | done | exact rfl)) ?_); (first | refine Y_skip ?_ | ((first | apply Y_q | (refine Y_call ⟨_, _, _, _, _, _, rfl, rfl, rfl, (by rw [hP]; exact hpx)⟩ ?_ ?_)); (· ((try simp only [go_sem, seval, reduceIte, ↓reduceIte, Bool.not_eq_true, reduceCtorEq, beq_false, beq_true, hP, c1, w1]); (first | done | exact rfl))))))); apply RunF_nil; (try simp only [go_sem, seval, reduceIte, ↓reduceIte, Bool.not_eq_true, reduceCtorEq, beq_false, beq_true, hP, c1, w1]); (first | done | exact rfl)))     | ((first | apply T_sd fw (by rw [hP]; rfl) | apply T_dr fw (by rw [hP]; rfl)); · ((try simp only [go_sem, seval, reduceIte, ↓reduceIte, bne, beq_false, beq_true, Bool.not_eq_true, Bool.if_true_right, decide_not, reduceCtorEq, hP, c1, w1]); (repeat ((first       | (refine ⟨_, ⟨_, _, _, _, _, _, rfl, rfl, rfl, hpx⟩, ?_⟩)); (try simp only [go_sem, seval, reduceIte, ↓reduceIte, bne, beq_false, beq_true, Bool.not_eq_true, Bool.if_true_right, decide_not, reduceCtorEq, hP, c1, w1]))); (first | done | exact rfl)))     | refine T_seq ?_ | refine T_block ?_ | refine T_scopeJ 0 rfl ?_ | refine T_scope ?_ | refine T_goto ?_ | refine T_ret ?_ | refine T_skip ?_ | refine T_exit ?_ | refine T_label ?_     | refine T_condT rfl ?_ | refine T_condF rfl ?_     | refine T_condD rfl (fun _ => ?_) (fun _ => ?_)     | refine T_cond rfl (fun _ => ?_) (fun _ => ?_))
  refine T_for x.length (fun j (at_ : Int) => { env := [(0, .one (.raw (.func (.yield l) #[] #[]))), (1, .one (.p (.box [eI g]))), (4, .one (.p (eI R'))), (7, .one (.p (.int .i64 i))), (10, .one (.p (.int .i64 at_))), (45, .one (.p (.int .i64 (sizeS g)))), (46, .one (.p (.int .i64 i))), (55, .one (.p (eI x))), (56, .one (.p (.int .i64 x.length))), (57, .one (.p (.int .i64 j)))], σ := σ i, ex := ex })
    (fun j at_ => 0 ≤ at_ ∧ at_ ≤ j * 1024 ∧ dotL (x.drop j) (R'.drop j) at_ = fromAt s g i) 0 ⟨by omega, by omega, by rw [hfa]; rfl⟩ (.refl _ _) fun j at_ hj hat => ?_
  obtain ⟨a0, a1, hdot⟩ := hat
  have hg3 := hg.1
  by_cases hjl : j < x.length
  · have c2 : (j : Int) < (x.length : Int) := by omega
    have w2 : IntKind.i64.wrap ((j : Int) + 1) = ((j + 1 : Nat) : Int) := by rw [wrap_in (by omega) (by omega)]; rfl
    have hjR : j < R'.length := by omega
    have hx : x[j]? = some x[j] := List.getElem?_eq_getElem hjl
    have hr : R'[j]? = some R'[j] := List.getElem?_eq_getElem hjR
    have hgj : g[j]? = some g[j] := List.getElem?_eq_getElem (by omega)
    obtain ⟨k', hk', k0, k1⟩ := hix.get hgj
    rw [hx] at hk'; cases hk'
    have hgb := hg.2.1 _ (List.mem_of_getElem? hgj)
    have hrb : 0 ≤ R'[j] ∧ R'[j] ≤ 64 := steps_bound hs (n := g.length) (i := j) (by rw [← hRs]; exact hr)
    rw [List.drop_eq_getElem_cons hjl, List.drop_eq_getElem_cons hjR] at hdot
    simp only [dotL] at hdot
    have hpr : 0 ≤ x[j] * R'[j] ∧ x[j] * R'[j] ≤ 1024 := by
      refine ⟨Int.mul_nonneg k0 hrb.1, ?_⟩
      have h1 : x[j] * R'[j] ≤ 16 * R'[j] := Int.mul_le_mul_of_nonneg_right (by omega) hrb.1
      omega
    have w3 : IntKind.i64.wrap (x[j] * R'[j]) = x[j] * R'[j] := wrap_in (by omega) (by omega)
    generalize x[j] = xj at *
    generalize R'[j] = rj at *
    generalize hpq : xj * rj = pr at *
    have w4 : IntKind.i64.wrap (at_ + pr) = at_ + pr := wrap_in (by omega) (by omega)
    repeat' (first     | refine T_then ?_ | refine then_ret ?_ | refine then_exit ?_ | refine then_goto ?_     | refine rnd_exit ?_ | refine rnd_ret ?_ | refine rnd_goto ?_     | refine noGo_normal ?_ | refine noGo_ret ?_ | refine noGo_exit ?_ | refine jmp_normal ?_ | refine jmp_ret ?_ | refine jmp_exit ?_ | refine jmp_goto ?_     | refine inB_normal ?_ | refine inB_ret ?_ | refine inB_goto ?_ | refine inB_exit ?_ | refine inB_exit_ne rfl ?_     | ((first | apply T_srE fw | apply T_regE fw); · ((try simp only [go_sem, seval, reduceIte, ↓reduceIte, hP, c2, w2, hx, hr, hjl, hjR, w3, hpq, w4]); (repeat ((first       | (refine ⟨true, false, rfl, fun h => absurd h (by decide), ?_⟩) | (refine ⟨false, false, rfl, fun h => absurd h (by decide), ?_⟩) | refine ⟨_, _, rfl, fun _ => rfl, ?_⟩); (try simp only [go_sem, seval, reduceIte, ↓reduceIte, hP, c2, w2, hx, hr, hjl, hjR, w3, hpq, w4]))); (first | done | exact rfl)))     | ((first | apply T_sdF fw (by rw [hP]; rfl) (by decide +kernel) | apply T_drF fw (by rw [hP]; rfl) (by decide +kernel)); · ((try simp only [TOps.flat, List.cons_append, List.nil_append]); (repeat ((first | refine Y_g0 ?_ | refine Y_g (by (try simp only [go_sem, seval, reduceIte, ↓reduceIte, Bool.not_eq_true, reduceCtorEq, beq_false, beq_true, hP, c2, w2, hx, hr, hjl, hjR, w3, hpq, w4]); (first | done | exact rfl)) ?_); (first | refine Y_skip ?_ | ((first | apply Y_q); (· ((try simp only [go_sem, seval, reduceIte, ↓reduceIte, Bool.not_eq_true, reduceCtorEq, beq_false, beq_true, hP, c2, w2, hx, hr, hjl, hjR, w3, hpq, w4]); (first | done | exact rfl))))))); apply RunF_nil; (try simp only [go_sem, seval, reduceIte, ↓reduceIte, Bool.not_eq_true, reduceCtorEq, beq_false, beq_true, hP, c2, w2, hx, hr, hjl, hjR, w3, hpq, w4]); (first | done | exact rfl)))     | ((first | apply T_sd fw (by rw [hP]; rfl) | apply T_dr fw (by rw [hP]; rfl)); · ((try simp only [go_sem, seval, reduceIte, ↓reduceIte, bne, beq_false, beq_true, Bool.not_eq_true, Bool.if_true_right, decide_not, reduceCtorEq, hP, c2, w2, hx, hr, hjl, hjR, w3, hpq, w4]); (first | done | exact rfl)))     | refine T_seq ?_ | refine T_block ?_ | refine T_scopeJ 0 rfl ?_ | refine T_scope ?_ | refine T_goto ?_ | refine T_ret ?_ | refine T_skip ?_ | refine T_exit ?_ | refine T_label ?_     | refine T_condT rfl ?_ | refine T_condF rfl ?_     | refine T_condD rfl (fun _ => ?_) (fun _ => ?_)     | refine T_cond rfl (fun _ => ?_) (fun _ => ?_))
    exact rnd_next hjl (at_ + pr) ⟨by omega, by push_cast; omega, hdot⟩ (.refl _ _)
  · have hje : j = x.length := by omega
    have c2 : ¬ (j : Int) < (x.length : Int) := by omega
    rw [hje, List.drop_of_length_le (Nat.le_refl _)] at hdot
    simp only [dotL] at hdot
    rw [← hdot] at hyi
    repeat' (first     | refine T_then ?_ | refine then_ret ?_ | refine then_exit ?_ | refine then_goto ?_     | refine rnd_exit ?_ | refine rnd_ret ?_ | refine rnd_goto ?_     | refine noGo_normal ?_ | refine noGo_ret ?_ | refine noGo_exit ?_ | refine jmp_normal ?_ | refine jmp_ret ?_ | refine jmp_exit ?_ | refine jmp_goto ?_     | refine inB_normal ?_ | refine inB_ret ?_ | refine inB_goto ?_ | refine inB_exit ?_ | refine inB_exit_ne rfl ?_     | ((first | apply T_srE fw | apply T_regE fw); · ((try simp only [go_sem, seval, reduceIte, ↓reduceIte, hP, c2]); (repeat ((first       | (refine ⟨true, false, rfl, fun h => absurd h (by decide), ?_⟩) | (refine ⟨false, false, rfl, fun h => absurd h (by decide), ?_⟩) | refine ⟨_, _, rfl, fun _ => rfl, ?_⟩); (try simp only [go_sem, seval, reduceIte, ↓reduceIte, hP, c2]))); (first | done | exact rfl)))     | ((first | apply T_sdF fw (by rw [hP]; rfl) (by decide +kernel) | apply T_drF fw (by rw [hP]; rfl) (by decide +kernel)); · ((try simp only [TOps.flat, List.cons_append, List.nil_append]); (repeat ((first | refine Y_g0 ?_ | refine Y_g (by (try simp only [go_sem, seval, reduceIte, ↓reduceIte, Bool.not_eq_true, reduceCtorEq, beq_false, beq_true, hP, c2]); (first | done | exact rfl)) ?_); (first | refine Y_skip ?_ | ((first | apply Y_q); (· ((try simp only [go_sem, seval, reduceIte, ↓reduceIte, Bool.not_eq_true, reduceCtorEq, beq_false, beq_true, hP, c2]); (first | done | exact rfl))))))); apply RunF_nil; (try simp only [go_sem, seval, reduceIte, ↓reduceIte, Bool.not_eq_true, reduceCtorEq, beq_false, beq_true, hP, c2]); (first | done | exact rfl)))     | ((first | apply T_sd fw (by rw [hP]; rfl) | apply T_dr fw (by rw [hP]; rfl)); · ((try simp only [go_sem, seval, reduceIte, ↓reduceIte, bne, beq_false, beq_true, Bool.not_eq_true, Bool.if_true_right, decide_not, reduceCtorEq, hP, c2]); (first | done | exact rfl)))     | refine T_seq ?_ | refine T_block ?_ | refine T_scopeJ 0 rfl ?_ | refine T_scope ?_ | refine T_goto ?_ | refine T_ret ?_ | refine T_skip ?_ | refine T_exit ?_ | refine T_label ?_     | refine T_condT rfl ?_ | refine T_condF rfl ?_     | refine T_condD rfl (fun _ => ?_) (fun _ => ?_)     | refine T_cond rfl (fun _ => ?_) (fun _ => ?_))
    have hd : ∀ (d : Nat), d < 77 → ∀ t, some d = some t → t < G.nt := fun d hd t ht => by cases ht; omega
    refine T_steps fw (S := { env := [(0, .one (.raw (.func (.yield l) #[] #[]))), (1, .one (.p (.box [eI g]))), (4, .one (.p (eI R'))), (45, .one (.p (.int .i64 (sizeS g)))), (46, .one (.p (.int .i64 i))), (75, .one (.p (.bool false)))], σ := σ (i + 1), ex := ex })
      (.q (hd _ (by decide)) rfl (.q (hd _ (by decide)) rfl (.q (hd _ (by decide)) rfl (.yld (hd _ (by decide)) (yStep fam hR hno hA hyi hex rfl rfl fun d i => lk_has (by simp only [putd, get, lk, List.all_cons, List.all_nil]; simp [AV.has, AC.has, lk]) i) (.q (hd _ (by decide)) rfl (.weak (Weak.drop.trans (Weak.pick [0, 1, 4, 45, 46, 75])) .nil)))))) ?_
    repeat' (first     | refine T_then ?_ | refine then_ret ?_ | refine then_exit ?_ | refine then_goto ?_     | refine rnd_exit ?_ | refine rnd_ret ?_ | refine rnd_goto ?_     | refine noGo_normal ?_ | refine noGo_ret ?_ | refine noGo_exit ?_ | refine jmp_normal ?_ | refine jmp_ret ?_ | refine jmp_exit ?_ | refine jmp_goto ?_     | refine inB_normal ?_ | refine inB_ret ?_ | refine inB_goto ?_ | refine inB_exit ?_ | refine inB_exit_ne rfl ?_     | ((first | apply T_srE fw | apply T_regE fw); · ((try simp only [go_sem, seval, reduceIte, ↓reduceIte, hP, w1]); (repeat ((first       | (refine ⟨true, false, rfl, fun h => absurd h (by decide), ?_⟩) | (refine ⟨false, false, rfl, fun h => absurd h (by decide), ?_⟩) | refine ⟨_, _, rfl, fun _ => rfl, ?_⟩); (try simp only [go_sem, seval, reduceIte, ↓reduceIte, hP, w1]))); (first | done | exact rfl)))     | ((first | apply T_sdF fw (by rw [hP]; rfl) (by decide +kernel) | apply T_drF fw (by rw [hP]; rfl) (by decide +kernel)); · ((try simp only [TOps.flat, List.cons_append, List.nil_append]); (repeat ((first | refine Y_g0 ?_ | refine Y_g (by (try simp only [go_sem, seval, reduceIte, ↓reduceIte, Bool.not_eq_true, reduceCtorEq, beq_false, beq_true, hP, w1]); (first | done | exact rfl)) ?_); (first | refine Y_skip ?_ | ((first | apply Y_q); (· ((try simp only [go_sem, seval, reduceIte, ↓reduceIte, Bool.not_eq_true, reduceCtorEq, beq_false, beq_true, hP, w1]); (first | done | exact rfl))))))); apply RunF_nil; (try simp only [go_sem, seval, reduceIte, ↓reduceIte, Bool.not_eq_true, reduceCtorEq, beq_false, beq_true, hP, w1]); (first | done | exact rfl)))     | ((first | apply T_sd fw (by rw [hP]; rfl) | apply T_dr fw (by rw [hP]; rfl)); · ((try simp only [go_sem, seval, reduceIte, ↓reduceIte, bne, beq_false, beq_true, Bool.not_eq_true, Bool.if_true_right, decide_not, reduceCtorEq, hP, w1]); (first | done | exact rfl)))     | refine T_seq ?_ | refine T_block ?_ | refine T_scopeJ 0 rfl ?_ | refine T_scope ?_ | refine T_goto ?_ | refine T_ret ?_ | refine T_skip ?_ | refine T_exit ?_ | refine T_label ?_     | refine T_condT rfl ?_ | refine T_condF rfl ?_     | refine T_condD rfl (fun _ => ?_) (fun _ => ?_)     | refine T_cond rfl (fun _ => ?_) (fun _ => ?_))
    exact rnd_next hlt2 () trivial (.refl _ _)
end Go.AM

namespace Go.AM
open Go Go.Proofs
set_option maxRecDepth 100000
set_option maxHeartbeats 4000000
set_option linter.unusedSimpArgs false
set_option linter.unusedVariables false

theorem side_pos {s : List Int} (h : ShapeOk s) (i : Nat) : 1 ≤ sideS s i := by
  by_cases hi : i < s.length
  · have := sideS_lt hi
    exact (h.2.1 _ (List.mem_of_getElem? this)).1
  · rw [sideS_ge (by omega)]; omega
theorem side_ext {s t : List Int} (hl : s.length = t.length) (h : ∀ i, i < s.length → sideS s i = sideS t i) : s = t := by
  have key : s.reverse = t.reverse := by
    apply List.ext_getElem?
    intro i
    by_cases hi : i < s.length
    · have := h i hi
      unfold sideS at this
      rw [List.getElem?_eq_getElem (by simpa using hi), List.getElem?_eq_getElem (by simp; omega)] at this ⊢
      simpa using this
    · rw [List.getElem?_eq_none (by simp; omega), List.getElem?_eq_none (by simp; omega)]
  have := congrArg List.reverse key
  simpa using this
theorem side_joinSh {a b : List Int} {k i : Nat} (hi : i < k) : sideS (joinSh a b k) i = maxS a b i := by
  unfold sideS joinSh
  rw [List.reverse_reverse, List.getElem?_map, List.getElem?_range hi]; rfl

/-- two shapes, and what they are stretched to -/
structure JoinOk (a b r : List Int) : Prop where
  ha : ShapeOk a
  hb : ShapeOk b
  hr : ShapeOk r
  len : r.length = max a.length b.length
  side : ∀ i, sideS r i = max (sideS a i) (sideS b i)
  ok : ∀ i, sideS a i = sideS b i ∨ sideS a i = 1 ∨ sideS b i = 1

theorem clash_iff {x y : Int} : clash x y = false ↔ x = y ∨ x = 1 ∨ y = 1 := by
  unfold clash
  by_cases h1 : x = y <;> by_cases h2 : x = 1 <;> by_cases h3 : y = 1 <;> simp [h1, h2, h3]

theorem joinOk_of {a b : List Int} (h : joinOk a b = true) : JoinOk a b (joinSh a b (max a.length b.length)) := by
  unfold joinOk at h
  simp only [Bool.and_eq_true, List.all_eq_true, List.mem_range] at h
  obtain ⟨h1, h2, h3, h4⟩ := h
  refine ⟨checkS_iff.1 h1, checkS_iff.1 h2, checkS_iff.1 h4, joinSh_len _ _ _, fun i => ?_, fun i => ?_⟩
  · by_cases hi : i < max a.length b.length
    · exact side_joinSh hi
    · rw [sideS_ge (by rw [joinSh_len]; omega), sideS_ge (s := a) (by omega), sideS_ge (s := b) (by omega)]; rfl
  · by_cases hi : i < max a.length b.length
    · have := h3 i hi
      rw [Bool.not_eq_true'] at this
      exact clash_iff.1 this
    · left; rw [sideS_ge (s := a) (by omega), sideS_ge (s := b) (by omega)]
theorem JoinOk.eq {a b r : List Int} (h : JoinOk a b r) : joinSF a b = (r, 0) := by
  have hr : joinSh a b (max a.length b.length) = r := side_ext (by rw [joinSh_len, h.len]) fun i hi => by
    rw [joinSh_len] at hi
    rw [side_joinSh hi, h.side i]; rfl
  have hk : joinOk a b = true := by
    unfold joinOk
    rw [checkS_iff.2 h.ha, checkS_iff.2 h.hb, hr, checkS_iff.2 h.hr]
    have : ((List.range (max a.length b.length)).all fun i => !clash (sideS a i) (sideS b i)) = true := by
      rw [List.all_eq_true]
      intro i _
      rw [clash_iff.2 (h.ok i)]; rfl
    rw [this]; rfl
  unfold joinSF
  rw [if_pos hk, hr]
theorem join_or (a b : List Int) : (∃ r, JoinOk a b r ∧ joinSF a b = (r, 0)) ∨ ((¬ ∃ r, JoinOk a b r) ∧ joinSF a b = ([], 20)) := by
  by_cases h : joinOk a b = true
  · exact .inl ⟨_, joinOk_of h, (joinOk_of h).eq⟩
  · have e : joinSF a b = ([], 20) := by unfold joinSF; rw [if_neg h]
    refine .inr ⟨?_, e⟩
    rintro ⟨r, k⟩
    rw [k.eq] at e; simp at e
theorem JoinOk.comm {a b r : List Int} (h : JoinOk a b r) : JoinOk b a r :=
  ⟨h.hb, h.ha, h.hr, by rw [h.len]; omega, fun i => by rw [h.side i]; omega, fun i => by have := h.ok i; omega⟩
theorem JoinOk.left {a b r : List Int} (h : JoinOk a b r) : JoinOk a r r :=
  ⟨h.ha, h.hr, h.hr, by have := h.len; omega, fun i => by have := h.side i; omega, fun i => by
    have h1 := h.side i; have h2 := h.ok i; have h3 := side_pos h.ha i; have h4 := side_pos h.hb i; omega⟩
theorem JoinOk.right {a b r : List Int} (h : JoinOk a b r) : JoinOk b r r := h.comm.left
theorem JoinOk.self {s : List Int} (h : ShapeOk s) : JoinOk s s s := ⟨h, h, h, by omega, fun i => by omega, fun i => .inl rfl⟩
theorem shape_nil : ShapeOk [] := checkS_iff.1 (by decide)
theorem JoinOk.nil {s : List Int} (h : ShapeOk s) : JoinOk [] s s :=
  ⟨shape_nil, h, h, by simp, fun i => by have := side_pos h i; rw [sideS_ge (s := []) (by simp)]; omega, fun i => .inr (.inl (sideS_ge (by simp)))⟩
theorem JoinOk.trans {a b r : List Int} (h : JoinOk a b b) (k : JoinOk b r r) : JoinOk a r r :=
  ⟨h.ha, k.hb, k.hr, by have := h.len; have := k.len; omega, fun i => by have := h.side i; have := k.side i; omega, fun i => by
    have h1 := h.side i; have h2 := h.ok i; have h3 := side_pos h.ha i; have h4 := side_pos h.hb i
    have k1 := k.side i; have k2 := k.ok i; have k4 := side_pos k.hb i; omega⟩
theorem JoinOk.assoc {a b c x y z w : List Int} (h1 : JoinOk a b x) (h2 : JoinOk x c y) (h3 : JoinOk b c z) (h4 : JoinOk a z w) : y = w :=
  side_ext (by have := h1.len; have := h2.len; have := h3.len; have := h4.len; omega) fun i _ => by
    have := h1.side i; have := h2.side i; have := h3.side i; have := h4.side i; omega
theorem fits_of {s g : List Int} (h : JoinOk s g g) : fitsS s g = true := by
  unfold fitsS; rw [h.eq]; simp [sameL_refl]
theorem of_fits {s g : List Int} (h : fitsS s g = true) : JoinOk s g g := by
  unfold fitsS at h
  rcases join_or s g with ⟨r, k, e⟩ | ⟨_, e⟩
  · rw [e] at h
    simp only [beq_self_eq_true, Bool.true_and] at h
    have := sameL_iff.1 h
    subst this
    exact k
  · rw [e] at h; simp at h

def clip : List Int → List Int → List Int
  | m :: s, k :: x => (if m > 1 then k else 0) :: clip s x
  | _, _ => []
def FitR (s g : List Int) : Prop := All2 (fun m k => m = k ∨ m = 1) s g

theorem clip_in : ∀ {s g x : List Int}, Sides s → FitR s g → InIdx g x → InIdx s (clip s x)
  | [], _, _, _, h, _ => by cases h; cases ‹InIdx _ _›; exact .nil
  | m :: s, _, _, hs, h, hx => by
    cases h with
    | cons h t => cases hx with
      | cons k0 k1 hx =>
        have := hs.head
        refine .cons ?_ ?_ (clip_in hs.tail t hx)
        · split <;> omega
        · split <;> omega
theorem dot_clip : ∀ {s g x : List Int} {a : Int}, Sides s → FitR s g → InIdx g x → dotL x (stp s) a = a + pl s (clip s x) 0
  | [], _, _, a, _, h, hx => by cases h; cases hx; simp [dotL, stp, clip, pl]
  | m :: s, _, _, a, hs, h, hx => by
    cases h with
    | cons h t => cases hx with
      | @cons _ k _ _ k0 k1 hx =>
        have ih := dot_clip (a := a + k * (if m > 1 then prd s else 0)) hs.tail t hx
        have h2 := pl_add (clip_in hs.tail t hx) (0 * m + (if m > 1 then k else 0))
        simp only [dotL, stp, clip, pl]
        rw [ih, h2]
        split <;> simp <;> omega
theorem dot_skip : ∀ {n : Nat} {x1 x2 t : List Int} {a : Int}, x1.length = n → dotL (x1 ++ x2) (List.replicate n 0 ++ t) a = dotL x2 t a
  | 0, [], _, _, _, _ => rfl
  | n + 1, k :: x1, x2, t, a, h => by
    simp only [List.cons_append, List.replicate_succ, dotL, Int.mul_zero, Int.add_zero]
    exact dot_skip (by simpa using h)

theorem JoinOk.fitR {s g : List Int} (h : JoinOk s g g) : s.length ≤ g.length ∧ FitR s (g.drop (g.length - s.length)) := by
  have hl : s.length ≤ g.length := by have := h.len; omega
  refine ⟨hl, All2.of_get (by simp; omega) fun i m k hm hk => ?_⟩
  have hi := (List.getElem?_eq_some_iff.1 hm).1
  have e1 := sideS_lt (s := s) (i := s.length - 1 - i) (by omega)
  have e2 := sideS_lt (s := g) (i := s.length - 1 - i) (by omega)
  rw [show s.length - 1 - (s.length - 1 - i) = i from by omega, hm] at e1
  rw [List.getElem?_drop] at hk
  rw [show g.length - 1 - (s.length - 1 - i) = g.length - s.length + i from by omega, hk] at e2
  have h1 := h.side (s.length - 1 - i); have h2 := h.ok (s.length - 1 - i); have h3 := side_pos h.ha (s.length - 1 - i); have h4 := side_pos h.hb (s.length - 1 - i)
  simp only [Option.some.injEq] at e1 e2
  omega
theorem InIdx.drop {s x : List Int} (h : InIdx s x) : ∀ n, InIdx (s.drop n) (x.drop n) := by
  induction h with
  | nil => intro n; simp; exact .nil
  | cons k0 k1 h ih =>
    intro n
    cases n with
    | zero => exact .cons k0 k1 h
    | succ n => exact ih n

/-- the index in what is stretched -/
def fromX (s x : List Int) : List Int := clip s (x.drop (x.length - s.length))
theorem fromX_in {s g x : List Int} (h : JoinOk s g g) (hx : InIdx g x) : InIdx s (fromX s x) := by
  have hf := h.fitR
  have hxl := hx.length
  unfold fromX
  rw [← hxl]
  exact clip_in h.ha.2.1 hf.2 (hx.drop _)
theorem fromAt_eq {s g : List Int} (h : JoinOk s g g) {p : Nat} (hp : (p : Int) < prd g) : fromAt s g p = pl s (fromX s (ix g p)) 0 := by
  have hf := h.fitR
  have hix : InIdx g (ix g p) := ix_in h.hb.2.1
  have hxl := hix.length
  have h64 := h.hb.2.2
  unfold fromAt fromX stepsL
  rw [idxF_eq h.hb.2.1 (by omega) (by omega)]
  generalize ix g (p : Int) = x at *
  rw [← hxl]
  conv => lhs; rw [← List.take_append_drop (g.length - s.length) x]
  rw [dot_skip (by simp; omega), dot_clip h.ha.2.1 hf.2 (hix.drop _), Int.zero_add]
theorem fromAt_lt {s g : List Int} (h : JoinOk s g g) {p : Nat} (hp : (p : Int) < prd g) : 0 ≤ fromAt s g p ∧ fromAt s g p < prd s := by
  rw [fromAt_eq h hp]
  exact pl_lt (fromX_in h (ix_in h.hb.2.1))

/-- a stretched tensor's numbers -/
def spreadD (s d g : List Int) : List Int := mk g fun x => (atF s d (fromX s x)).1
def spreadN (s d g : List Int) (n : Nat) : List Int := (List.range n).map fun p => (d[(fromAt s g ((p : Nat) : Int)).toNat]?).getD 0
theorem spreadN_eq {s d g : List Int} (h : JoinOk s g g) (hc : checkT s d = true) : spreadN s d g (sizeS g).toNat = spreadD s d g := by
  unfold spreadN spreadD mk
  apply List.map_congr_left
  intro p hp
  have hp := List.mem_range.1 hp
  have hsz := sizeS_ok h.hb
  have h64 := h.hb.2.2
  have hlt : (p : Int) < prd g := by omega
  have hix : InIdx g (ix g p) := ix_in h.hb.2.1
  rw [fromAt_eq h hlt, idxF_eq h.hb.2.1 (by omega) (by omega)]
  show _ = (atF s d (fromX s (ix g p))).1
  rw [atF_ok hc (fromX_in h hix)]
theorem clip_self : ∀ {s x : List Int}, InIdx s x → clip s x = x
  | [], _, h => by cases h; rfl
  | m :: s, _, h => by
    cases h with
    | @cons _ k _ _ k0 k1 h =>
      simp only [clip, clip_self h]
      congr 1
      split <;> omega
theorem clip_drop : ∀ (s x : List Int) (n : Nat), s.length = x.length → (clip s x).drop n = clip (s.drop n) (x.drop n)
  | [], [], n, _ => by cases n <;> rfl
  | m :: s, k :: x, 0, _ => rfl
  | m :: s, k :: x, n + 1, h => by simp only [clip, List.drop_succ_cons]; exact clip_drop s x n (by simpa using h)
theorem clip_clip : ∀ {s t x : List Int}, FitR s t → t.length = x.length → clip s (clip t x) = clip s x
  | [], _, _, h, _ => by cases h; rfl
  | m :: s, _, _, h, hl => by
    cases h with
    | @cons _ k _ t h q =>
      rename_i x
      match x, hl with
      | y :: x, hl =>
        simp only [clip, clip_clip q (by simpa using hl)]
        congr 1
        rcases h with rfl | rfl
        · split <;> rfl
        · rfl
theorem clip_len : ∀ {s x : List Int}, s.length = x.length → (clip s x).length = s.length
  | [], [], _ => rfl
  | m :: s, k :: x, h => by simp only [clip, List.length_cons]; rw [clip_len (by simpa using h)]
end Go.AM

namespace Go.AM
open Go Go.Proofs
set_option maxRecDepth 100000
set_option maxHeartbeats 4000000
set_option linter.unusedSimpArgs false
set_option linter.unusedVariables false

theorem p_bits_Mul {x y : Nat} (hx : x < 18446744073709551616) (hy : y < 18446744073709551616) : PureC Try.prog fi_math_bits_Mul [dU x, dU y] (dUU (x * y / 18446744073709551616) (x * y % 18446744073709551616)) := by
  refine pure_math_bits_Mul (by simp) fun G hP hn => ?_
  unfold a_math_bits_Mul
  have k := p_bits_Mul64 hx hy
  have w1 := u64_nat hx
  have w2 := u64_nat hy
  have w3 : IntKind.u64.wrap ((x * y / 18446744073709551616 : Nat) : Int) = ((x * y / 18446744073709551616 : Nat) : Int) := u64_nat (by
    have : x * y < 18446744073709551616 * 18446744073709551616 := Nat.mul_lt_mul'' hx hy
    omega)
  have w4 : IntKind.u64.wrap ((x * y % 18446744073709551616 : Nat) : Int) = ((x * y % 18446744073709551616 : Nat) : Int) := u64_nat (by omega)
  generalize x * y / 18446744073709551616 = h at *
  generalize x * y % 18446744073709551616 = l at *
  repeat' (first | apply T_then | apply then_ret | apply then_exit | apply then_goto | apply rnd_exit | apply rnd_ret | apply rnd_goto | apply noGo_normal | apply noGo_ret | apply noGo_exit | apply jmp_normal | apply jmp_ret | apply jmp_exit | apply jmp_goto | apply inB_normal | apply inB_ret | apply inB_goto | apply inB_exit | refine inB_exit_ne rfl ?_ | ((first | apply T_srK fw | apply T_regK fw); · ((try simp only [TOps.flat, List.cons_append, List.nil_append]); repeat (first | apply X_g0 | apply X_g | apply S_keep | apply X_skip | apply X_skipN | refine X_call ?_ ⟨_, _, _, _, _, _, rfl, rfl, rfl, by rw [hP]; exact k⟩ ?_ | apply X_q | apply X_st | apply X_n | apply X_s | apply SKs0 | apply SKs2 | apply SKs1 | refine ⟨⟨rfl, rfl⟩, ?_⟩ | refine ⟨⟨rfl, ?_⟩, ?_⟩ | refine ⟨?_, ?_⟩ | (· (try simp only [go_sem, seval, reduceIte, ↓reduceIte, Bool.not_eq_true, reduceCtorEq, beq_false, beq_true, hn, hP, w1, w2, w3, w4]); first | done | rfl)))) | apply T_seq | apply T_block | refine T_scopeJ 0 rfl ?_ | apply T_scope | apply T_goto | apply T_ret | apply T_skip | apply T_exit | apply T_label | refine T_condT rfl ?_ | refine T_condF rfl ?_ | refine T_condD rfl (fun _ => ?_) (fun _ => ?_) | refine T_cond rfl (fun _ => ?_) (fun _ => ?_))
  exact ends_ret rfl rfl rfl rfl

def repL (v : Int) (k n : Nat) : List Int := List.replicate n v ++ List.replicate (k - n) 0

theorem m_slices_Repeat (v : Int) (k : Nat) (h1 : 1 ≤ k) (h2 : k ≤ 64) : MutC Try.prog fi_slices_Repeat_int_int [.one (.msl 13 0 1 1 none), .one (.p (.int .i64 k))] [(13, .arr true 1 (rI [v]))]
    (.one (.msl 30 0 1 k (some k))) [(13, .arr true 1 (rI [v])), (30, .arr true 1 (rI (List.replicate k v)))] [30] := by
  refine mut_slices_Repeat_int_int (by simp) fun G ex hP hn hfr => ?_
  unfold a_slices_Repeat_int_int
  have hfr := hfr 30 (by simp)
  have kb := p_bits_Mul (x := 1) (y := k) (by omega) (by omega)
  rw [Nat.one_mul, show k / 18446744073709551616 = 0 from by omega, show k % 18446744073709551616 = k from by omega] at kb
  have w1 : IntKind.u64.wrap (1 : Int) = 1 := by decide
  have w2 := u64_nat (n := k) (by omega)
  have w3 : IntKind.i64.wrap (k : Int) = (k : Int) := wrap_in (by omega) (by omega)
  have c0 : ¬ (k : Int) < 0 := by omega
  have c1 : ¬ (k : Int) > 9223372036854775807 := by omega
  have hM : MaxN = 140737488355328 := rfl
  have q1 : (k : Int) * 8 ≤ MaxN := by omega
  have q2 : (k : Int) ≤ MaxN := by omega
  have m1 : min (1 : Int) (k : Int) = 1 := by omega
  repeat' (first | apply T_then | apply then_ret | apply then_exit | apply then_goto | apply rnd_exit | apply rnd_ret | apply rnd_goto | apply noGo_normal | apply noGo_ret | apply noGo_exit | apply jmp_normal | apply jmp_ret | apply jmp_exit | apply jmp_goto | apply inB_normal | apply inB_ret | apply inB_goto | apply inB_exit | refine inB_exit_ne rfl ?_ | ((first | apply T_srK fw | apply T_regK fw); · ((try simp only [TOps.flat, List.cons_append, List.nil_append]); repeat (first | apply X_g0 | apply X_g | apply S_keep | apply X_skip | apply X_skipN | refine X_call ?_ ⟨_, _, _, _, _, _, rfl, rfl, rfl, by rw [hP]; exact kb⟩ ?_ | apply X_q | apply X_st | apply X_n | apply X_s | apply SKs0 | apply SKs2 | apply SKs1 | refine ⟨⟨rfl, rfl⟩, ?_⟩ | refine ⟨⟨rfl, ?_⟩, ?_⟩ | refine ⟨?_, ?_⟩ | (· (try simp only [go_sem, seval, reduceIte, ↓reduceIte, Bool.not_eq_true, reduceCtorEq, beq_false, beq_true, hn, hP, w1, w2, w3, c0, c1, m1, q1, q2, hfr, scr_ex hfr, Int.le_refl]); first | done | rfl)))) | apply T_seq | apply T_block | refine T_scopeJ 0 rfl ?_ | apply T_scope | apply T_goto | apply T_ret | apply T_skip | apply T_exit | apply T_label | refine T_condT rfl ?_ | refine T_condF rfl ?_ | refine T_condD rfl (fun _ => ?_) (fun _ => ?_) | refine T_cond rfl (fun _ => ?_) (fun _ => ?_))
  have e0 : List.take k [[PV.int IntKind.i64 v]] = [[PV.int IntKind.i64 v]] := List.take_of_length_le (by simpa using h1)
  refine T_for k (fun i (n : Nat) => { env := [(7, .one (.msl 30 0 1 k (some k))), (8, .one (.p (.int .i64 n)))], σ := [(30, .arr true 1 (rI (repL v k n))), (13, .arr true 1 (rI [v]))], ex := ex })
    (fun i n => i < n ∧ n ≤ k) 1 ⟨by omega, h1⟩ ?_ fun i n hi hc => ?_
  · refine Weak.sub fun p hp => ?_
    simp only [List.mem_cons, List.not_mem_nil, or_false] at hp
    rcases hp with rfl | rfl
    · simp [lo, e0, repL, rI]
    · rfl
  obtain ⟨c1, c2⟩ := hc
  by_cases hlt : n < k
  · have c3 : (n : Int) < k := by omega
    have c4 : (n : Int) ≤ k := by omega
    repeat' (first | apply T_then | apply then_ret | apply then_exit | apply then_goto | apply rnd_exit | apply rnd_ret | apply rnd_goto | apply noGo_normal | apply noGo_ret | apply noGo_exit | apply jmp_normal | apply jmp_ret | apply jmp_exit | apply jmp_goto | apply inB_normal | apply inB_ret | apply inB_goto | apply inB_exit | refine inB_exit_ne rfl ?_ | ((first | apply T_srK fw | apply T_regK fw); · ((try simp only [TOps.flat, List.cons_append, List.nil_append]); repeat (first | apply X_g0 | apply X_g | apply S_keep | apply X_skip | apply X_skipN | apply X_q | apply X_st | apply X_n | apply X_s | apply SKs0 | apply SKs2 | apply SKs1 | refine ⟨⟨rfl, rfl⟩, ?_⟩ | refine ⟨⟨rfl, ?_⟩, ?_⟩ | refine ⟨?_, ?_⟩ | (· (try simp only [go_sem, seval, reduceIte, ↓reduceIte, Bool.not_eq_true, reduceCtorEq, beq_false, beq_true, hn, hP, c3, c4, c2, Int.le_refl]); first | done | rfl)))) | apply T_seq | apply T_block | refine T_scopeJ 0 rfl ?_ | apply T_scope | apply T_goto | apply T_ret | apply T_skip | apply T_exit | apply T_label | refine T_condT rfl ?_ | refine T_condF rfl ?_ | refine T_condD rfl (fun _ => ?_) (fun _ => ?_) | refine T_cond rfl (fun _ => ?_) (fun _ => ?_))
    have n0 : ¬ n = 0 := by omega
    have n1 : ¬ n = k := by omega
    have hl : (repL v k n).length = k := by simp [repL]; omega
    have c5 : n + (k - n) = k := by omega
    have e1 : (List.take (k - n) (List.take n (rI (repL v k n)))) = rI (List.replicate (min n (k - n)) v) := by
      simp [repL, rI, List.take_append_of_le_length, List.take_replicate, Nat.min_comm]
    have e2 : (List.take n (rI (repL v k n))).length = n := by simp [hl]; omega
    have w4 : IntKind.i64.wrap ((n : Int) + min (n : Int) ((k - n : Nat) : Int)) = ((n + min n (k - n) : Nat) : Int) := by rw [wrap_in (by omega) (by omega)]; omega
    have e3 : List.take n (rI (repL v k n)) ++ rI (List.replicate (min n (k - n)) v) ++ List.drop (n + min n (k - n)) (rI (repL v k n)) = rI (repL v k (n + min n (k - n))) := by
      rw [← List.map_take, ← List.map_drop, ← List.map_append, ← List.map_append]
      congr 1
      unfold repL
      rw [List.take_append_of_le_length (by simp), List.take_of_length_le (by simp), List.drop_append, List.drop_of_length_le (by simp), List.nil_append, List.length_replicate, List.drop_replicate, List.replicate_append_replicate]
      congr 2
      omega
    apply T_dr fw (by rw [hP]; rfl)
    · simp only [go_sem, seval, reduceIte, ↓reduceIte, bne, beq_false, beq_true, Bool.not_eq_true, Bool.if_true_right, decide_not, reduceCtorEq, hP, all1, n0, n1, hlt, hl, c3, c4, c2, c5, e1, e2, w4, Nat.le_refl, Int.le_refl]
      exact rfl
    repeat' (first | apply T_then | apply then_ret | apply then_exit | apply then_goto | apply rnd_exit | apply rnd_ret | apply rnd_goto | apply noGo_normal | apply noGo_ret | apply noGo_exit | apply jmp_normal | apply jmp_ret | apply jmp_exit | apply jmp_goto | apply inB_normal | apply inB_ret | apply inB_goto | apply inB_exit | refine inB_exit_ne rfl ?_ | ((first | apply T_srK fw | apply T_regK fw); · ((try simp only [TOps.flat, List.cons_append, List.nil_append]); repeat (first | apply X_g0 | apply X_g | apply S_keep | apply X_skip | apply X_skipN | apply X_q | apply X_st | apply X_n | apply X_s | apply SKs0 | apply SKs2 | apply SKs1 | refine ⟨⟨rfl, rfl⟩, ?_⟩ | refine ⟨⟨rfl, ?_⟩, ?_⟩ | refine ⟨?_, ?_⟩ | (· (try simp only [go_sem, seval, reduceIte, ↓reduceIte, Bool.not_eq_true, reduceCtorEq, beq_false, beq_true, hn, hP]); first | done | rfl)))) | apply T_seq | apply T_block | refine T_scopeJ 0 rfl ?_ | apply T_scope | apply T_goto | apply T_ret | apply T_skip | apply T_exit | apply T_label | refine T_condT rfl ?_ | refine T_condF rfl ?_ | refine T_condD rfl (fun _ => ?_) (fun _ => ?_) | refine T_cond rfl (fun _ => ?_) (fun _ => ?_))
    refine rnd_next (by omega) (n + min n (k - n)) ⟨by omega, by omega⟩ (Weak.sub fun p hp => ?_)
    simp only [List.mem_cons, List.not_mem_nil, or_false] at hp
    rcases hp with rfl | rfl
    · rw [← e3]; simp [lo]
    · rfl
  · have c3 : ¬ (n : Int) < k := by omega
    have hnk : n = k := by omega
    repeat' (first | apply T_then | apply then_ret | apply then_exit | apply then_goto | apply rnd_exit | apply rnd_ret | apply rnd_goto | apply noGo_normal | apply noGo_ret | apply noGo_exit | apply jmp_normal | apply jmp_ret | apply jmp_exit | apply jmp_goto | apply inB_normal | apply inB_ret | apply inB_goto | apply inB_exit | refine inB_exit_ne rfl ?_ | ((first | apply T_srK fw | apply T_regK fw); · ((try simp only [TOps.flat, List.cons_append, List.nil_append]); repeat (first | apply X_g0 | apply X_g | apply S_keep | apply X_skip | apply X_skipN | apply X_q | apply X_st | apply X_n | apply X_s | apply SKs0 | apply SKs2 | apply SKs1 | refine ⟨⟨rfl, rfl⟩, ?_⟩ | refine ⟨⟨rfl, ?_⟩, ?_⟩ | refine ⟨?_, ?_⟩ | (· (try simp only [go_sem, seval, reduceIte, ↓reduceIte, Bool.not_eq_true, reduceCtorEq, beq_false, beq_true, hn, hP, c3]); first | done | rfl)))) | apply T_seq | apply T_block | refine T_scopeJ 0 rfl ?_ | apply T_scope | apply T_goto | apply T_ret | apply T_skip | apply T_exit | apply T_label | refine T_condT rfl ?_ | refine T_condF rfl ?_ | refine T_condD rfl (fun _ => ?_) (fun _ => ?_) | refine T_cond rfl (fun _ => ?_) (fun _ => ?_))
    refine endsM_ret rfl rfl rfl (fun p hp => ?_) rfl
    simp only [List.mem_cons, List.not_mem_nil, or_false] at hp
    rcases hp with rfl | rfl
    · rfl
    · simp [lo, hnk, repL]
end Go.AM

namespace Go.AM
open Go Go.Proofs
set_option maxRecDepth 100000
set_option maxHeartbeats 4000000
set_option linter.unusedSimpArgs false
set_option linter.unusedVariables false

def fullF (s : List Int) (n : Int) : (List Int × List Int) × Int := if checkS s = true then ((s, List.replicate (sizeS s).toNat n), 0) else bad 20
theorem sizeS_nat (s : List Int) : sizeS s = (((sizeS s).toNat : Nat) : Int) := by have := sizeS_nn s; omega
theorem sizeS_one {s : List Int} (h : checkS s = true) : 1 ≤ (sizeS s).toNat ∧ (sizeS s).toNat ≤ 64 := by
  have h1 := checkS_iff.1 h
  have h2 := sizeS_ok h1
  have h3 := prd_pos h1.2.1
  have h4 := h1.2.2
  omega
theorem c_size {s : List Int} : PureC Try.prog fi_shape_Size [dI s] (dN (((sizeS s).toNat : Nat) : Int)) := by
  have := p_shape_Size s
  rw [sizeS_nat s] at this; exact this

theorem m_tensor_Full' {s : List Int} (n : Int) (h : checkS s = true) : MutC Try.prog fi_tensor_Full [.one (.p (eI s)), .one (.p (.int .i64 n))] []
    (.tup [.agg [.msl 5 0 1 s.length none, .msl 30 0 1 (sizeS s).toNat (some (sizeS s).toNat)], .one (.p (.int .i64 0))])
    [(5, .arr true 1 (rI s)), (30, .arr true 1 (rI (List.replicate (sizeS s).toNat n)))] [4, 13, 5, 30] := by
  refine mut_tensor_Full (by simp) fun G ex hP hn hfr => ?_
  unfold a_tensor_Full
  have hs := check_len h
  have kc := p_shape_Check s
  rw [h] at kc
  have kl := m_slices_Clone s (by omega)
  have ks := c_size (s := s)
  have hk := sizeS_one h
  have kr := m_slices_Repeat n (sizeS s).toNat hk.1 hk.2
  have hfr4 := hfr 4 (by simp)
  have hfr13 := hfr 13 (by simp)
  have hfr5 := hfr 5 (by simp)
  have hfr30 := hfr 30 (by simp)
  have hfrA : ∀ x ∈ ex, AV.has 5 x = false := by simpa using hfr5
  have hfrB : ∀ x ∈ ex, AV.has 30 x = false := by simpa using hfr30
  generalize (sizeS s).toNat = k at *
  repeat' (first | apply T_then | apply then_ret | apply then_exit | apply then_goto | apply rnd_exit | apply rnd_ret | apply rnd_goto | apply noGo_normal | apply noGo_ret | apply noGo_exit | apply jmp_normal | apply jmp_ret | apply jmp_exit | apply jmp_goto | apply inB_normal | apply inB_ret | apply inB_goto | apply inB_exit | refine inB_exit_ne rfl ?_ | ((first | apply T_srK fw | apply T_regK fw); · ((try simp only [TOps.flat, List.cons_append, List.nil_append]); repeat (first | apply X_g0 | apply X_g | apply S_keep | apply X_skip | apply X_skipN | refine X_call ?_ ⟨_, _, _, _, _, _, rfl, rfl, rfl, by rw [hP]; exact kc⟩ ?_ | refine X_call ?_ ⟨_, _, _, _, _, _, rfl, rfl, rfl, by rw [hP]; exact ks⟩ ?_ | refine X_callM ?_ (callM_mk rfl rfl (by rw [hP]; exact kl) (by simp [lo]) (by simp) (by simp [AS.nr, AV.has, AC.has, AC.has.hasL, AO.nr, lo, DV.av] <;> assumption)) ?_ | refine X_callM ?_ (callM_mk rfl rfl (by rw [hP]; exact kr) (by simp [lo]) (by simp) (by simp [AS.nr, AV.has, AC.has, AC.has.hasL, AO.nr, lo, DV.av] <;> assumption)) ?_ | apply X_q | apply X_st | apply X_n | apply X_s | apply SKs0 | apply SKs2 | apply SKs1 | refine ⟨⟨rfl, rfl⟩, ?_⟩ | refine ⟨⟨rfl, ?_⟩, ?_⟩ | refine ⟨?_, ?_⟩ | (· (try simp only [go_sem, seval, reduceIte, ↓reduceIte, Bool.not_eq_true, reduceCtorEq, beq_false, beq_true, hn, hP, hfr5, hfr30, hfr4, hfr13, scr_ex hfr5, scr_ex hfr30, hfrA, hfrB]); first | done | rfl)))) | apply T_seq | apply T_block | refine T_scopeJ 0 rfl ?_ | apply T_scope | apply T_goto | apply T_ret | apply T_skip | apply T_exit | apply T_label | refine T_condT rfl ?_ | refine T_condF rfl ?_ | refine T_condD rfl (fun _ => ?_) (fun _ => ?_) | refine T_cond rfl (fun _ => ?_) (fun _ => ?_))
  refine endsM_ret rfl rfl rfl (fun p hp => ?_) rfl
  simp only [List.mem_cons, List.not_mem_nil, or_false] at hp
  rcases hp with rfl | rfl <;> rfl

theorem m_tensor_Full {s : List Int} (n : Int) (h : checkS s = true) : MutC Try.prog fi_tensor_Full [.one (.p (eI s)), .one (.p (.int .i64 n))] []
    (.tup [.agg [.msl 5 0 1 s.length none, .msl 30 0 1 (sizeS s).toNat (some (sizeS s).toNat)], .one (.p (.int .i64 0))])
    [(5, .arr true 1 (rI s)), (30, .arr true 1 (rI (List.replicate (sizeS s).toNat n)))] [5, 30] :=
  ((m_tensor_Full' n h).hide 4 rfl rfl rfl rfl (by simp)).hide 13 rfl rfl rfl rfl (by simp)

theorem p_tensor_Full (s : List Int) (n : Int) : PureC Try.prog fi_tensor_Full [dI s, dN n] (dTE (fullF s n)) := by
  refine pure_tensor_Full (by simp) fun G hP hn => ?_
  unfold a_tensor_Full
  have kc := p_shape_Check s
  cases h : checkS s
  · repeat' (first | apply T_then | apply then_ret | apply then_exit | apply then_goto | apply rnd_exit | apply rnd_ret | apply rnd_goto | apply noGo_normal | apply noGo_ret | apply noGo_exit | apply jmp_normal | apply jmp_ret | apply jmp_exit | apply jmp_goto | apply inB_normal | apply inB_ret | apply inB_goto | apply inB_exit | refine inB_exit_ne rfl ?_ | ((first | apply T_srK fw | apply T_regK fw); · ((try simp only [TOps.flat, List.cons_append, List.nil_append]); repeat (first | apply X_g0 | apply X_g | apply S_keep | apply X_skip | apply X_skipN | refine X_call ?_ ⟨_, _, _, _, _, _, rfl, rfl, rfl, by rw [hP]; exact kc⟩ ?_ | apply X_q | apply X_st | apply X_n | apply X_s | apply SKs0 | apply SKs2 | apply SKs1 | refine ⟨⟨rfl, rfl⟩, ?_⟩ | refine ⟨⟨rfl, ?_⟩, ?_⟩ | refine ⟨?_, ?_⟩ | (· (try simp only [go_sem, seval, reduceIte, ↓reduceIte, Bool.not_eq_true, reduceCtorEq, beq_false, beq_true, hn, hP, h]); first | done | rfl)))) | apply T_seq | apply T_block | refine T_scopeJ 0 rfl ?_ | apply T_scope | apply T_goto | apply T_ret | apply T_skip | apply T_exit | apply T_label | refine T_condT rfl ?_ | refine T_condF rfl ?_ | refine T_condD rfl (fun _ => ?_) (fun _ => ?_) | refine T_cond rfl (fun _ => ?_) (fun _ => ?_))
    exact ends_ret rfl rfl rfl (by simp [fullF, h, bad, resD])
  · rw [h] at kc
    have hs := check_len h
    have kl := m_slices_Clone s (by omega)
    have ks := c_size (s := s)
    have hk := sizeS_one h
    have hf : fullF s n = ((s, List.replicate (sizeS s).toNat n), 0) := by unfold fullF; rw [if_pos h]
    have kr := m_slices_Repeat n (sizeS s).toNat hk.1 hk.2
    generalize (sizeS s).toNat = k at *
    repeat' (first | apply T_then | apply then_ret | apply then_exit | apply then_goto | apply rnd_exit | apply rnd_ret | apply rnd_goto | apply noGo_normal | apply noGo_ret | apply noGo_exit | apply jmp_normal | apply jmp_ret | apply jmp_exit | apply jmp_goto | apply inB_normal | apply inB_ret | apply inB_goto | apply inB_exit | refine inB_exit_ne rfl ?_ | ((first | apply T_srK fw | apply T_regK fw); · ((try simp only [TOps.flat, List.cons_append, List.nil_append]); repeat (first | apply X_g0 | apply X_g | apply S_keep | apply X_skip | apply X_skipN | refine X_call ?_ ⟨_, _, _, _, _, _, rfl, rfl, rfl, by rw [hP]; exact kc⟩ ?_ | refine X_call ?_ ⟨_, _, _, _, _, _, rfl, rfl, rfl, by rw [hP]; exact ks⟩ ?_ | refine X_callM ?_ (callM_mk rfl rfl (by rw [hP]; exact kl) (by simp [lo]) (by simp) (by simp [AS.nr, AV.has, AC.has, AC.has.hasL, AO.nr, lo, DV.av] <;> assumption)) ?_ | refine X_callM ?_ (callM_mk rfl rfl (by rw [hP]; exact kr) (by simp [lo]) (by simp) (by simp [AS.nr, AV.has, AC.has, AC.has.hasL, AO.nr, lo, DV.av] <;> assumption)) ?_ | apply X_q | apply X_st | apply X_n | apply X_s | apply SKs0 | apply SKs2 | apply SKs1 | refine ⟨⟨rfl, rfl⟩, ?_⟩ | refine ⟨⟨rfl, ?_⟩, ?_⟩ | refine ⟨?_, ?_⟩ | (· (try simp only [go_sem, seval, reduceIte, ↓reduceIte, Bool.not_eq_true, reduceCtorEq, beq_false, beq_true, hn, hP]); first | done | rfl)))) | apply T_seq | apply T_block | refine T_scopeJ 0 rfl ?_ | apply T_scope | apply T_goto | apply T_ret | apply T_skip | apply T_exit | apply T_label | refine T_condT rfl ?_ | refine T_condF rfl ?_ | refine T_condD rfl (fun _ => ?_) (fun _ => ?_) | refine T_cond rfl (fun _ => ?_) (fun _ => ?_))
    exact ends_twoM (t1 := 5) (t2 := 30) (by decide) rfl rfl rfl (by simp) (by simp) (.inr ⟨_, rfl, rfl⟩) (by rw [hf]; rfl)
end Go.AM

namespace Go.AM
open Go Go.Proofs
set_option maxRecDepth 100000
set_option maxHeartbeats 4000000
set_option linter.unusedSimpArgs false
set_option linter.unusedVariables false

def spreadF (s d g : List Int) : (List Int × List Int) × Int :=
  if checkT s d = true then (if fitsS s g = true then ((g, spreadD s d g), 0) else bad 20) else bad 30

theorem spreadN_len (s d g : List Int) (k : Nat) : (spreadN s d g k).length = k := by simp [spreadN]
theorem spreadN_succ (s d g : List Int) (k : Nat) : spreadN s d g (k + 1) = spreadN s d g k ++ [(d[(fromAt s g ((k : Nat) : Int)).toNat]?).getD 0] := by
  simp [spreadN, List.range_succ]
def spD (s d g : List Int) (k : Nat) : List Int := spreadN s d g k ++ List.replicate ((sizeS g).toNat - k) 0
theorem spD_len {s d g : List Int} {k : Nat} (h : k ≤ (sizeS g).toNat) : (spD s d g k).length = (sizeS g).toNat := by simp [spD, spreadN_len]; omega
theorem spD_set {s d g : List Int} {k : Nat} (h : k < (sizeS g).toNat) : (spD s d g k).set k ((d[(fromAt s g ((k : Nat) : Int)).toNat]?).getD 0) = spD s d g (k + 1) := by
  unfold spD
  rw [spreadN_succ, List.set_append_right _ _ (by rw [spreadN_len]; omega), spreadN_len, Nat.sub_self]
  rw [show (sizeS g).toNat - k = ((sizeS g).toNat - (k + 1)) + 1 from by omega, List.replicate_succ]
  simp
def spS (s d g : List Int) (k : Nat) : Sto :=
  [(2, .cells true [.p (eI s), .p (eI d)]), (4, .cells true [.nils, .nils]), (6, .cells true [.msl 5 0 1 g.length none, .msl 30 0 1 (sizeS g).toNat (some (sizeS g).toNat)]), (5, .arr true 1 (rI g)), (30, .arr true 1 (rI (spD s d g k)))]
theorem sp_fam (s d g : List Int) : Fam (spS s d g) [] := by
  refine ⟨fun k p hp => ?_, fun k t ht => ?_, fun k d hd => ?_, fun k t d hd ht => ?_⟩
  · simp only [spS, List.mem_cons, List.not_mem_nil, or_false] at hp
    rcases hp with rfl | rfl | rfl | rfl | rfl <;> rfl
  · by_cases h : t ∈ (spS s d g k).map (·.1)
    · exact h
    · exact absurd (lo_none h) ht
  · simp at hd
  · simp at hd

theorem p_tensor_Spread (s d g : List Int) : PureC Try.prog fi_tensor_Spread [dT s d, dI g] (dTE (spreadF s d g)) := by
  refine pure_tensor_Spread (by simp) fun G hP hn => ?_
  unfold a_tensor_Spread
  have kc := p_tensor_Check s d
  cases h1 : checkT s d
  · rw [h1] at kc
    have hf : spreadF s d g = bad 30 := by unfold spreadF; rw [if_neg (by simp [h1])]
    repeat' (first | apply T_then | apply then_ret | apply then_exit | apply then_goto | apply rnd_exit | apply rnd_ret | apply rnd_goto | apply noGo_normal | apply noGo_ret | apply noGo_exit | apply jmp_normal | apply jmp_ret | apply jmp_exit | apply jmp_goto | apply inB_normal | apply inB_ret | apply inB_goto | apply inB_exit | refine inB_exit_ne rfl ?_ | ((first | apply T_srK fw | apply T_regK fw); · ((try simp only [TOps.flat, List.cons_append, List.nil_append]); repeat (first | apply X_g0 | apply X_g | apply S_keep | apply X_skip | apply X_skipN | refine X_call ?_ ⟨_, _, _, _, _, _, rfl, rfl, rfl, by rw [hP]; exact kc⟩ ?_ | apply X_q | apply X_st | apply X_n | apply X_s | apply SKs0 | apply SKs2 | apply SKs1 | refine ⟨⟨rfl, rfl⟩, ?_⟩ | refine ⟨⟨rfl, ?_⟩, ?_⟩ | refine ⟨?_, ?_⟩ | (· (try simp only [go_sem, seval, reduceIte, ↓reduceIte, Bool.not_eq_true, reduceCtorEq, beq_false, beq_true, hn, hP]); first | done | rfl)))) | apply T_seq | apply T_block | refine T_scopeJ 0 rfl ?_ | apply T_scope | apply T_goto | apply T_ret | apply T_skip | apply T_exit | apply T_label | refine T_condT rfl ?_ | refine T_condF rfl ?_ | refine T_condD rfl (fun _ => ?_) (fun _ => ?_) | refine T_cond rfl (fun _ => ?_) (fun _ => ?_))
    exact ends_ret rfl rfl rfl (by rw [hf]; rfl)
  rw [h1] at kc
  have kf := p_shape_Fits s g
  cases h2 : fitsS s g
  · rw [h2] at kf
    have hf : spreadF s d g = bad 20 := by unfold spreadF; rw [if_pos h1, if_neg (by simp [h2])]
    repeat' (first | apply T_then | apply then_ret | apply then_exit | apply then_goto | apply rnd_exit | apply rnd_ret | apply rnd_goto | apply noGo_normal | apply noGo_ret | apply noGo_exit | apply jmp_normal | apply jmp_ret | apply jmp_exit | apply jmp_goto | apply inB_normal | apply inB_ret | apply inB_goto | apply inB_exit | refine inB_exit_ne rfl ?_ | ((first | apply T_srK fw | apply T_regK fw); · ((try simp only [TOps.flat, List.cons_append, List.nil_append]); repeat (first | apply X_g0 | apply X_g | apply S_keep | apply X_skip | apply X_skipN | refine X_call ?_ ⟨_, _, _, _, _, _, rfl, rfl, rfl, by rw [hP]; exact kc⟩ ?_ | refine X_call ?_ ⟨_, _, _, _, _, _, rfl, rfl, rfl, by rw [hP]; exact kf⟩ ?_ | apply X_q | apply X_st | apply X_n | apply X_s | apply SKs0 | apply SKs2 | apply SKs1 | refine ⟨⟨rfl, rfl⟩, ?_⟩ | refine ⟨⟨rfl, ?_⟩, ?_⟩ | refine ⟨?_, ?_⟩ | (· (try simp only [go_sem, seval, reduceIte, ↓reduceIte, Bool.not_eq_true, reduceCtorEq, beq_false, beq_true, hn, hP]); first | done | rfl)))) | apply T_seq | apply T_block | refine T_scopeJ 0 rfl ?_ | apply T_scope | apply T_goto | apply T_ret | apply T_skip | apply T_exit | apply T_label | refine T_condT rfl ?_ | refine T_condF rfl ?_ | refine T_condD rfl (fun _ => ?_) (fun _ => ?_) | refine T_cond rfl (fun _ => ?_) (fun _ => ?_))
    exact ends_ret rfl rfl rfl (by rw [hf]; rfl)
  rw [h2] at kf
  have hj := of_fits h2
  have kF := m_tensor_Full (s := g) 0 (checkS_iff.2 hj.hb)
  have kfrom := p_tensor_from s g
  repeat' (first | apply T_then | apply then_ret | apply then_exit | apply then_goto | apply rnd_exit | apply rnd_ret | apply rnd_goto | apply noGo_normal | apply noGo_ret | apply noGo_exit | apply jmp_normal | apply jmp_ret | apply jmp_exit | apply jmp_goto | apply inB_normal | apply inB_ret | apply inB_goto | apply inB_exit | refine inB_exit_ne rfl ?_ | ((first | apply T_srK fw | apply T_regK fw); · ((try simp only [TOps.flat, List.cons_append, List.nil_append]); repeat (first | apply X_g0 | apply X_g | apply S_keep | apply X_skip | apply X_skipN | refine X_call ?_ ⟨_, _, _, _, _, _, rfl, rfl, rfl, by rw [hP]; exact kc⟩ ?_ | refine X_call ?_ ⟨_, _, _, _, _, _, rfl, rfl, rfl, by rw [hP]; exact kf⟩ ?_ | refine X_call ?_ ⟨_, _, _, _, _, _, rfl, rfl, rfl, by rw [hP]; exact kfrom⟩ ?_ | refine X_callM ?_ (callM_mk rfl rfl (by rw [hP]; exact kF) (by simp [lo]) (by simp) (by simp [AS.nr, AV.has, AC.has, AC.has.hasL, AO.nr, lo, DV.av] <;> assumption)) ?_ | apply X_q | apply X_st | apply X_n | apply X_s | apply SKs0 | apply SKs2 | apply SKs1 | refine ⟨⟨rfl, rfl⟩, ?_⟩ | refine ⟨⟨rfl, ?_⟩, ?_⟩ | refine ⟨?_, ?_⟩ | (· (try simp only [go_sem, seval, reduceIte, ↓reduceIte, Bool.not_eq_true, reduceCtorEq, beq_false, beq_true, hn, hP]); first | done | rfl)))) | apply T_seq | apply T_block | refine T_scopeJ 0 rfl ?_ | apply T_scope | apply T_goto | apply T_ret | apply T_skip | apply T_exit | apply T_label | refine T_condT rfl ?_ | refine T_condF rfl ?_ | refine T_condD rfl (fun _ => ?_) (fun _ => ?_) | refine T_cond rfl (fun _ => ?_) (fun _ => ?_))
  refine T_range rfl (by rw [hP]; exact q_tensor_from_1 hj.ha hj.hb hj.fitR.1) (spS s d g) [] (by rw [hn]; rfl) (fun x hx => by
    simp only [allF, List.mem_map] at hx
    obtain ⟨p, _, rfl⟩ := hx
    rfl) (fun t => ?_) (sp_fam s d g) (fun t ht => ?_) (fun d hd => by simp at hd) ?_ ?_
  · left
    have : spD s d g 0 = List.replicate (sizeS g).toNat 0 := by simp [spD, spreadN]
    simp only [spS, this, lo]
  · by_cases h : t ∈ (spS s d g 0).map (·.1)
    · exact h
    · exact absurd (lo_none h) ht
  · intro k v hv F n G' G'' ex fw h1' h2' h3' h4' hfr
    have hP : G''.P = Try.prog := h3'.trans hP
    have hk : k < (sizeS g).toNat := by
      have := (List.getElem?_eq_some_iff.1 hv).1
      rwa [allF_len] at this
    rw [allF_get s g k hk] at hv
    cases hv
    have hsz := sizeS_ok hj.hb
    have hlt := fromAt_lt hj (p := k) (by omega)
    have hdl := (checkT_iff.1 h1).2
    obtain ⟨q, hq⟩ := Int.eq_ofNat_of_zero_le hlt.1
    have hset := spD_set (s := s) (d := d) hk
    have hlen := spD_len (s := s) (d := d) (Nat.le_of_lt hk)
    rw [hq, Int.toNat_natCast] at hset
    have hql : q < d.length := by omega
    have hx : d[q]? = some d[q] := List.getElem?_eq_getElem hql
    rw [hx] at hset
    simp only [Option.getD_some] at hset
    obtain ⟨z, hz⟩ : ∃ z, (spD s d g k)[k]? = some z := ⟨_, List.getElem?_eq_getElem (by omega)⟩
    simp only [putE, List.map, spS, hq]
    generalize (sizeS g).toNat = N at *
    generalize spD s d g k = R at *
    repeat' (first     | refine T_then ?_ | refine then_ret ?_ | refine then_exit ?_ | refine then_goto ?_     | refine rnd_exit ?_ | refine rnd_ret ?_ | refine rnd_goto ?_     | refine noGo_normal ?_ | refine noGo_ret ?_ | refine noGo_exit ?_ | refine jmp_normal ?_ | refine jmp_ret ?_ | refine jmp_exit ?_ | refine jmp_goto ?_     | refine inB_normal ?_ | refine inB_ret ?_ | refine inB_goto ?_ | refine inB_exit ?_ | refine inB_exit_ne rfl ?_     | ((first | apply T_sr fw | apply T_reg fw); · ((try simp only [go_sem, seval, reduceIte, ↓reduceIte, hP]); (repeat ((first       | (refine ⟨true, false, rfl, fun h => absurd h (by decide), ?_⟩) | (refine ⟨false, false, rfl, fun h => absurd h (by decide), ?_⟩) | refine ⟨_, _, rfl, fun _ => rfl, ?_⟩); (try simp only [go_sem, seval, reduceIte, ↓reduceIte, hP]))); (first | done | exact rfl)))     | ((first | apply T_sdF fw (by rw [hP]; rfl) (by decide +kernel) | apply T_drF fw (by rw [hP]; rfl) (by decide +kernel)); · ((try simp only [TOps.flat, List.cons_append, List.nil_append]); (repeat ((first | refine Y_g0 ?_ | refine Y_g (by (try simp only [go_sem, seval, reduceIte, ↓reduceIte, Bool.not_eq_true, reduceCtorEq, beq_false, beq_true, hP]); (first | done | exact rfl)) ?_); (first | refine Y_skip ?_ | ((first | apply Y_q); (· ((try simp only [go_sem, seval, reduceIte, ↓reduceIte, Bool.not_eq_true, reduceCtorEq, beq_false, beq_true, hP]); (first | done | exact rfl))))))); apply RunF_nil; (try simp only [go_sem, seval, reduceIte, ↓reduceIte, Bool.not_eq_true, reduceCtorEq, beq_false, beq_true, hP]); (first | done | exact rfl)))     | ((first | apply T_sd fw (by rw [hP]; rfl) | apply T_dr fw (by rw [hP]; rfl)); · ((try simp only [go_sem, seval, reduceIte, ↓reduceIte, bne, beq_false, beq_true, Bool.not_eq_true, Bool.if_true_right, decide_not, reduceCtorEq, hP]); (first | done | exact rfl)))     | refine T_seq ?_ | refine T_block ?_ | refine T_scopeJ 0 rfl ?_ | refine T_scope ?_ | refine T_goto ?_ | refine T_ret ?_ | refine T_skip ?_ | refine T_exit ?_ | refine T_label ?_     | refine T_condT rfl ?_ | refine T_condF rfl ?_     | refine T_condD rfl (fun _ => ?_) (fun _ => ?_)     | refine T_cond rfl (fun _ => ?_) (fun _ => ?_))
    refine ⟨rfl, ?_⟩
    apply T_block
    apply T_dr fw (by rw [hP]; rfl)
    · simp only [go_sem, seval, reduceIte, ↓reduceIte, bne, beq_false, beq_true, Bool.not_eq_true, Bool.if_true_right, decide_not, reduceCtorEq, hP, all1, hx, hql, hz, hlen, hk, rI_set]
      exact rfl
    repeat' (first     | refine T_then ?_ | refine then_ret ?_ | refine then_exit ?_ | refine then_goto ?_     | refine rnd_exit ?_ | refine rnd_ret ?_ | refine rnd_goto ?_     | refine noGo_normal ?_ | refine noGo_ret ?_ | refine noGo_exit ?_ | refine jmp_normal ?_ | refine jmp_ret ?_ | refine jmp_exit ?_ | refine jmp_goto ?_     | refine inB_normal ?_ | refine inB_ret ?_ | refine inB_goto ?_ | refine inB_exit ?_ | refine inB_exit_ne rfl ?_     | ((first | apply T_sr fw | apply T_reg fw); · ((try simp only [go_sem, seval, reduceIte, ↓reduceIte, hP]); (repeat ((first       | (refine ⟨true, false, rfl, fun h => absurd h (by decide), ?_⟩) | (refine ⟨false, false, rfl, fun h => absurd h (by decide), ?_⟩) | refine ⟨_, _, rfl, fun _ => rfl, ?_⟩); (try simp only [go_sem, seval, reduceIte, ↓reduceIte, hP]))); (first | done | exact rfl)))     | ((first | apply T_sdF fw (by rw [hP]; rfl) (by decide +kernel) | apply T_drF fw (by rw [hP]; rfl) (by decide +kernel)); · ((try simp only [TOps.flat, List.cons_append, List.nil_append]); (repeat ((first | refine Y_g0 ?_ | refine Y_g (by (try simp only [go_sem, seval, reduceIte, ↓reduceIte, Bool.not_eq_true, reduceCtorEq, beq_false, beq_true, hP]); (first | done | exact rfl)) ?_); (first | refine Y_skip ?_ | ((first | apply Y_q); (· ((try simp only [go_sem, seval, reduceIte, ↓reduceIte, Bool.not_eq_true, reduceCtorEq, beq_false, beq_true, hP]); (first | done | exact rfl))))))); apply RunF_nil; (try simp only [go_sem, seval, reduceIte, ↓reduceIte, Bool.not_eq_true, reduceCtorEq, beq_false, beq_true, hP]); (first | done | exact rfl)))     | ((first | apply T_sd fw (by rw [hP]; rfl) | apply T_dr fw (by rw [hP]; rfl)); · ((try simp only [go_sem, seval, reduceIte, ↓reduceIte, bne, beq_false, beq_true, Bool.not_eq_true, Bool.if_true_right, decide_not, reduceCtorEq, hP]); (first | done | exact rfl)))     | refine T_seq ?_ | refine T_block ?_ | refine T_scopeJ 0 rfl ?_ | refine T_scope ?_ | refine T_goto ?_ | refine T_ret ?_ | refine T_skip ?_ | refine T_exit ?_ | refine T_label ?_     | refine T_condT rfl ?_ | refine T_condF rfl ?_     | refine T_condD rfl (fun _ => ?_) (fun _ => ?_)     | refine T_cond rfl (fun _ => ?_) (fun _ => ?_))
    refine ⟨rfl, fun p hp => ?_, rfl⟩
    simp only [List.mem_cons, List.not_mem_nil, or_false] at hp
    rcases hp with rfl | rfl | rfl | rfl | rfl
    · rfl
    · rfl
    · rfl
    · rfl
    · simp [lo, hset]
  · simp only [List.cons_append, List.nil_append, spS, allF_len]
    have he : spD s d g (sizeS g).toNat = spreadD s d g := by unfold spD; rw [Nat.sub_self, spreadN_eq hj h1]; simp
    have hsl : (spreadD s d g).length = (sizeS g).toNat := by rw [← he]; exact spD_len (Nat.le_refl _)
    rw [he]
    generalize (sizeS g).toNat = N at *
    repeat' (first | apply T_then | apply then_ret | apply then_exit | apply then_goto | apply rnd_exit | apply rnd_ret | apply rnd_goto | apply noGo_normal | apply noGo_ret | apply noGo_exit | apply jmp_normal | apply jmp_ret | apply jmp_exit | apply jmp_goto | apply inB_normal | apply inB_ret | apply inB_goto | apply inB_exit | refine inB_exit_ne rfl ?_ | ((first | apply T_srK fw | apply T_regK fw); · ((try simp only [TOps.flat, List.cons_append, List.nil_append]); repeat (first | apply X_g0 | apply X_g | apply S_keep | apply X_skip | apply X_skipN | apply X_q | apply X_st | apply X_n | apply X_s | apply SKs0 | apply SKs2 | apply SKs1 | refine ⟨⟨rfl, rfl⟩, ?_⟩ | refine ⟨⟨rfl, ?_⟩, ?_⟩ | refine ⟨?_, ?_⟩ | (· (try simp only [go_sem, seval, reduceIte, ↓reduceIte, Bool.not_eq_true, reduceCtorEq, beq_false, beq_true, hn, hP]); first | done | rfl)))) | apply T_seq | apply T_block | refine T_scopeJ 0 rfl ?_ | apply T_scope | apply T_goto | apply T_ret | apply T_skip | apply T_exit | apply T_label | refine T_condT rfl ?_ | refine T_condF rfl ?_ | refine T_condD rfl (fun _ => ?_) (fun _ => ?_) | refine T_cond rfl (fun _ => ?_) (fun _ => ?_))
    exact ends_twoM (t1 := 5) (t2 := 30) (by decide) rfl rfl rfl (by simp) (by simp [hsl]) (.inr ⟨_, rfl, rfl⟩) (by unfold spreadF; rw [if_pos h1, if_pos h2]; rfl)
end Go.AM

namespace Go.AM
open Go Go.Proofs
set_option maxRecDepth 100000
set_option maxHeartbeats 4000000
set_option linter.unusedSimpArgs false
set_option linter.unusedVariables false

/-- two tensors, number by number -/
def twoF (W : Int → Int → Int × Int) (s d t e : List Int) : (List Int × List Int) × Int :=
  if checkT s d = true ∧ checkT t e = true then (if (joinSF s t).2 = 0 then eachF (joinSF s t).1 (fun p => W (gt (spreadD s d (joinSF s t).1) p) (gt (spreadD t e (joinSF s t).1) p)) else bad 20) else bad 30
def oneF (W : Int → Int × Int) (s d : List Int) : (List Int × List Int) × Int := if checkT s d = true then eachF s (fun p => W (gt d p)) else bad 30

theorem gt_some {d : List Int} {p : Nat} (h : p < d.length) : d[p]? = some (gt d p) := by unfold gt; rw [List.getElem?_eq_getElem h]; rfl
theorem spread_I64 {s d g : List Int} (h : I64s d) : I64s (spreadD s d g) := I64s.mk fun x => atF_range h
theorem spread_len {s d g : List Int} (h : ShapeOk g) : (spreadD s d g).length = (sizeS g).toNat := by
  have := mk_len h (fun x => (atF s d (fromX s x)).1)
  have h2 := sizeS_ok h
  unfold spreadD; omega

theorem p_elem_Two' {op : Int} {f : FuncId} {W : Int → Int → Int × Int} (hop : (op = 10 ∧ f = fi_fix_Add) ∨ (op = 11 ∧ f = fi_fix_Sub) ∨ (op = 12 ∧ f = fi_fix_Mul) ∨ (op = 13 ∧ f = fi_fix_Div))
    (s d t e : List Int) (hd : I64s d) (he : I64s e) (hW : ∀ p, p < (sizeS (joinSF s t).1).toNat → PureC Try.prog f [dN (gt (spreadD s d (joinSF s t).1) p), dN (gt (spreadD t e (joinSF s t).1) p)] (dNE (W (gt (spreadD s d (joinSF s t).1) p) (gt (spreadD t e (joinSF s t).1) p)))) :
    PureC Try.prog fi_elem_Two [dN op, dT s d, dT t e] (dTE (twoF W s d t e)) := by
  refine pure_elem_Two (by simp) fun G hP hn => ?_
  unfold a_elem_Two
  have kk := p_elem_kinds
  unfold kindsM at kk
  have kc1 := p_tensor_Check s d
  have kc2 := p_tensor_Check t e
  have kj := p_shape_Join s t
  have kx := p_tensor_Spread s d (joinSF s t).1
  have ky := p_tensor_Spread t e (joinSF s t).1
  rcases hop with ⟨rfl, rfl⟩ | ⟨rfl, rfl⟩ | ⟨rfl, rfl⟩ | ⟨rfl, rfl⟩
  all_goals
    cases h1 : checkT s d
    · have hf : twoF W s d t e = bad 30 := by unfold twoF; rw [if_neg (by simp [h1])]
      rw [h1] at kc1
      repeat' (first | apply T_then | apply then_ret | apply then_exit | apply then_goto | apply rnd_exit | apply rnd_ret | apply rnd_goto | apply noGo_normal | apply noGo_ret | apply noGo_exit | apply jmp_normal | apply jmp_ret | apply jmp_exit | apply jmp_goto | apply inB_normal | apply inB_ret | apply inB_goto | apply inB_exit | refine inB_exit_ne rfl ?_ | ((first | apply T_srK fw | apply T_regK fw); · ((try simp only [TOps.flat, List.cons_append, List.nil_append]); repeat (first | apply X_g0 | apply X_g | apply S_keep | apply X_skip | apply X_skipN | refine X_call ?_ ⟨_, _, _, _, _, _, rfl, rfl, rfl, by rw [hP]; exact kk⟩ ?_ | refine X_call ?_ ⟨_, _, _, _, _, _, rfl, rfl, rfl, by rw [hP]; exact kc1⟩ ?_ | apply X_q | apply X_st | apply X_n | apply X_s | apply SKs0 | apply SKs2 | apply SKs1 | refine ⟨⟨rfl, rfl⟩, ?_⟩ | refine ⟨⟨rfl, ?_⟩, ?_⟩ | refine ⟨?_, ?_⟩ | (· (try simp only [go_sem, seval, reduceIte, ↓reduceIte, Bool.not_eq_true, reduceCtorEq, beq_false, beq_true, hn, hP]); first | done | rfl)))) | apply T_seq | apply T_block | refine T_scopeJ 0 rfl ?_ | apply T_scope | apply T_goto | apply T_ret | apply T_skip | apply T_exit | apply T_label | refine T_condT rfl ?_ | refine T_condF rfl ?_ | refine T_condD rfl (fun _ => ?_) (fun _ => ?_) | refine T_cond rfl (fun _ => ?_) (fun _ => ?_))
      exact ends_ret rfl rfl rfl (by rw [hf]; rfl)
    cases h2 : checkT t e
    · have hf : twoF W s d t e = bad 30 := by unfold twoF; rw [if_neg (by simp [h2])]
      rw [h1] at kc1
      rw [h2] at kc2
      repeat' (first | apply T_then | apply then_ret | apply then_exit | apply then_goto | apply rnd_exit | apply rnd_ret | apply rnd_goto | apply noGo_normal | apply noGo_ret | apply noGo_exit | apply jmp_normal | apply jmp_ret | apply jmp_exit | apply jmp_goto | apply inB_normal | apply inB_ret | apply inB_goto | apply inB_exit | refine inB_exit_ne rfl ?_ | ((first | apply T_srK fw | apply T_regK fw); · ((try simp only [TOps.flat, List.cons_append, List.nil_append]); repeat (first | apply X_g0 | apply X_g | apply S_keep | apply X_skip | apply X_skipN | refine X_call ?_ ⟨_, _, _, _, _, _, rfl, rfl, rfl, by rw [hP]; exact kk⟩ ?_ | refine X_call ?_ ⟨_, _, _, _, _, _, rfl, rfl, rfl, by rw [hP]; exact kc1⟩ ?_ | refine X_call ?_ ⟨_, _, _, _, _, _, rfl, rfl, rfl, by rw [hP]; exact kc2⟩ ?_ | apply X_q | apply X_st | apply X_n | apply X_s | apply SKs0 | apply SKs2 | apply SKs1 | refine ⟨⟨rfl, rfl⟩, ?_⟩ | refine ⟨⟨rfl, ?_⟩, ?_⟩ | refine ⟨?_, ?_⟩ | (· (try simp only [go_sem, seval, reduceIte, ↓reduceIte, Bool.not_eq_true, reduceCtorEq, beq_false, beq_true, hn, hP]); first | done | rfl)))) | apply T_seq | apply T_block | refine T_scopeJ 0 rfl ?_ | apply T_scope | apply T_goto | apply T_ret | apply T_skip | apply T_exit | apply T_label | refine T_condT rfl ?_ | refine T_condF rfl ?_ | refine T_condD rfl (fun _ => ?_) (fun _ => ?_) | refine T_cond rfl (fun _ => ?_) (fun _ => ?_))
      exact ends_ret rfl rfl rfl (by rw [hf]; rfl)
    rw [h1] at kc1
    rw [h2] at kc2
    rcases join_or s t with ⟨r, hj, hr⟩ | ⟨_, hr⟩
    rotate_left
    · have hf : twoF W s d t e = bad 20 := by unfold twoF; rw [if_pos ⟨h1, h2⟩, hr, if_neg (by simp)]
      rw [hr] at kj
      repeat' (first | apply T_then | apply then_ret | apply then_exit | apply then_goto | apply rnd_exit | apply rnd_ret | apply rnd_goto | apply noGo_normal | apply noGo_ret | apply noGo_exit | apply jmp_normal | apply jmp_ret | apply jmp_exit | apply jmp_goto | apply inB_normal | apply inB_ret | apply inB_goto | apply inB_exit | refine inB_exit_ne rfl ?_ | ((first | apply T_srK fw | apply T_regK fw); · ((try simp only [TOps.flat, List.cons_append, List.nil_append]); repeat (first | apply X_g0 | apply X_g | apply S_keep | apply X_skip | apply X_skipN | refine X_call ?_ ⟨_, _, _, _, _, _, rfl, rfl, rfl, by rw [hP]; exact kk⟩ ?_ | refine X_call ?_ ⟨_, _, _, _, _, _, rfl, rfl, rfl, by rw [hP]; exact kc1⟩ ?_ | refine X_call ?_ ⟨_, _, _, _, _, _, rfl, rfl, rfl, by rw [hP]; exact kc2⟩ ?_ | refine X_call ?_ ⟨_, _, _, _, _, _, rfl, rfl, rfl, by rw [hP]; exact kj⟩ ?_ | apply X_q | apply X_st | apply X_n | apply X_s | apply SKs0 | apply SKs2 | apply SKs1 | refine ⟨⟨rfl, rfl⟩, ?_⟩ | refine ⟨⟨rfl, ?_⟩, ?_⟩ | refine ⟨?_, ?_⟩ | (· (try simp only [go_sem, seval, reduceIte, ↓reduceIte, Bool.not_eq_true, reduceCtorEq, beq_false, beq_true, hn, hP]); first | done | rfl)))) | apply T_seq | apply T_block | refine T_scopeJ 0 rfl ?_ | apply T_scope | apply T_goto | apply T_ret | apply T_skip | apply T_exit | apply T_label | refine T_condT rfl ?_ | refine T_condF rfl ?_ | refine T_condD rfl (fun _ => ?_) (fun _ => ?_) | refine T_cond rfl (fun _ => ?_) (fun _ => ?_))
      exact ends_ret rfl rfl rfl (by rw [hf]; rfl)
    · have hf : twoF W s d t e = eachF r (fun p => W (gt (spreadD s d r) p) (gt (spreadD t e r) p)) := by unfold twoF; rw [if_pos ⟨h1, h2⟩, hr, if_pos rfl]
      rw [hr] at kj kx ky hW
      have hx : spreadF s d r = ((r, spreadD s d r), 0) := by unfold spreadF; rw [if_pos h1, if_pos (fits_of hj.left)]
      have hy : spreadF t e r = ((r, spreadD t e r), 0) := by unfold spreadF; rw [if_pos h2, if_pos (fits_of hj.right)]
      rw [hx] at kx
      rw [hy] at ky
      have lx := spread_len (s := s) (d := d) hj.hr
      have ly := spread_len (s := t) (d := e) hj.hr
      have ix := spread_I64 (s := s) (g := r) hd
      have iy := spread_I64 (s := t) (g := r) he
      generalize spreadD s d r = xd at *
      generalize spreadD t e r = yd at *
      have kE := fun (k1 : PV) (f2 : FuncId) (hW : ∀ p, p < (sizeS r).toNat → PureC Try.prog f2 [dN (gt xd p), dN (gt yd p)] (dNE (W (gt xd p) (gt yd p)))) => p_elem_each (f := fi_elem_Two_1) (caps := [.box [k1, .fn f2 [] []], .box [eI r, eI xd], .box [eI r, eI yd]]) (s := r) (h := fun p => W (gt xd p) (gt yd p)) (by have := hj.hr.1; omega)
        (fun p hp => p_elem_Two_1 (gt_some (by omega)) (gt_some (by omega)) (hW p hp))
      repeat' (first | apply T_then | apply then_ret | apply then_exit | apply then_goto | apply rnd_exit | apply rnd_ret | apply rnd_goto | apply noGo_normal | apply noGo_ret | apply noGo_exit | apply jmp_normal | apply jmp_ret | apply jmp_exit | apply jmp_goto | apply inB_normal | apply inB_ret | apply inB_goto | apply inB_exit | refine inB_exit_ne rfl ?_ | ((first | apply T_srK fw | apply T_regK fw); · ((try simp only [TOps.flat, List.cons_append, List.nil_append]); repeat (first | apply X_g0 | apply X_g | apply S_keep | apply X_skip | apply X_skipN | refine X_call ?_ ⟨_, _, _, _, _, _, rfl, rfl, rfl, by rw [hP]; exact kk⟩ ?_ | refine X_call ?_ ⟨_, _, _, _, _, _, rfl, rfl, rfl, by rw [hP]; exact kc1⟩ ?_ | refine X_call ?_ ⟨_, _, _, _, _, _, rfl, rfl, rfl, by rw [hP]; exact kc2⟩ ?_ | refine X_call ?_ ⟨_, _, _, _, _, _, rfl, rfl, rfl, by rw [hP]; exact kj⟩ ?_ | refine X_call ?_ ⟨_, _, _, _, _, _, rfl, rfl, rfl, by rw [hP]; exact kx⟩ ?_ | refine X_call ?_ ⟨_, _, _, _, _, _, rfl, rfl, rfl, by rw [hP]; exact ky⟩ ?_ | refine X_call ?_ ⟨_, _, _, _, _, _, rfl, rfl, rfl, by rw [hP]; exact kE _ _ hW⟩ ?_ | apply X_q | apply X_st | apply X_n | apply X_s | apply SKs0 | apply SKs2 | apply SKs1 | refine ⟨⟨rfl, rfl⟩, ?_⟩ | refine ⟨⟨rfl, ?_⟩, ?_⟩ | refine ⟨?_, ?_⟩ | (· (try simp only [go_sem, seval, reduceIte, ↓reduceIte, Bool.not_eq_true, reduceCtorEq, beq_false, beq_true, hn, hP]); first | done | rfl)))) | apply T_seq | apply T_block | refine T_scopeJ 0 rfl ?_ | apply T_scope | apply T_goto | apply T_ret | apply T_skip | apply T_exit | apply T_label | refine T_condT rfl ?_ | refine T_condF rfl ?_ | refine T_condD rfl (fun _ => ?_) (fun _ => ?_) | refine T_cond rfl (fun _ => ?_) (fun _ => ?_))
      exact ends_ret rfl rfl rfl (by rw [hf]; rfl)

theorem p_elem_Two {op : Int} {f : FuncId} {W : Int → Int → Int × Int} (hop : (op = 10 ∧ f = fi_fix_Add) ∨ (op = 11 ∧ f = fi_fix_Sub) ∨ (op = 12 ∧ f = fi_fix_Mul) ∨ (op = 13 ∧ f = fi_fix_Div))
    (hW : ∀ a b, I64 a → I64 b → PureC Try.prog f [dN a, dN b] (dNE (W a b))) (s d t e : List Int) (hd : I64s d) (he : I64s e) : PureC Try.prog fi_elem_Two [dN op, dT s d, dT t e] (dTE (twoF W s d t e)) :=
  p_elem_Two' hop s d t e hd he fun p _ => hW _ _ (gt_range (spread_I64 hd) p) (gt_range (spread_I64 he) p)
end Go.AM

namespace Go.AM
open Go Go.Proofs
set_option maxRecDepth 100000
set_option maxHeartbeats 4000000
set_option linter.unusedSimpArgs false
set_option linter.unusedVariables false

theorem p_elem_One {op : Int} {f : FuncId} {W : Int → Int × Int} (hop : (op = 20 ∧ f = fi_fix_Neg) ∨ (op = 21 ∧ f = fi_elem_kinds_1) ∨ (op = 22 ∧ f = fi_fix_Pow) ∨ (op = 23 ∧ f = fi_fix_Sqrt))
    (hW : ∀ a, I64 a → PureC Try.prog f [dN a] (dNE (W a))) (s d : List Int) (hd : I64s d) : PureC Try.prog fi_elem_One [dN op, dT s d] (dTE (oneF W s d)) := by
  refine pure_elem_One (by simp) fun G hP hn => ?_
  unfold a_elem_One
  have kk := p_elem_kinds
  unfold kindsM at kk
  have kc1 := p_tensor_Check s d
  rcases hop with ⟨rfl, rfl⟩ | ⟨rfl, rfl⟩ | ⟨rfl, rfl⟩ | ⟨rfl, rfl⟩
  all_goals
    cases h1 : checkT s d
    · have hf : oneF W s d = bad 30 := by unfold oneF; rw [if_neg (by simp [h1])]
      rw [h1] at kc1
      repeat' (first | apply T_then | apply then_ret | apply then_exit | apply then_goto | apply rnd_exit | apply rnd_ret | apply rnd_goto | apply noGo_normal | apply noGo_ret | apply noGo_exit | apply jmp_normal | apply jmp_ret | apply jmp_exit | apply jmp_goto | apply inB_normal | apply inB_ret | apply inB_goto | apply inB_exit | refine inB_exit_ne rfl ?_ | ((first | apply T_srK fw | apply T_regK fw); · ((try simp only [TOps.flat, List.cons_append, List.nil_append]); repeat (first | apply X_g0 | apply X_g | apply S_keep | apply X_skip | apply X_skipN | refine X_call ?_ ⟨_, _, _, _, _, _, rfl, rfl, rfl, by rw [hP]; exact kk⟩ ?_ | refine X_call ?_ ⟨_, _, _, _, _, _, rfl, rfl, rfl, by rw [hP]; exact kc1⟩ ?_ | apply X_q | apply X_st | apply X_n | apply X_s | apply SKs0 | apply SKs2 | apply SKs1 | refine ⟨⟨rfl, rfl⟩, ?_⟩ | refine ⟨⟨rfl, ?_⟩, ?_⟩ | refine ⟨?_, ?_⟩ | (· (try simp only [go_sem, seval, reduceIte, ↓reduceIte, Bool.not_eq_true, reduceCtorEq, beq_false, beq_true, hn, hP]); first | done | rfl)))) | apply T_seq | apply T_block | refine T_scopeJ 0 rfl ?_ | apply T_scope | apply T_goto | apply T_ret | apply T_skip | apply T_exit | apply T_label | refine T_condT rfl ?_ | refine T_condF rfl ?_ | refine T_condD rfl (fun _ => ?_) (fun _ => ?_) | refine T_cond rfl (fun _ => ?_) (fun _ => ?_))
      exact ends_ret rfl rfl rfl (by rw [hf]; rfl)
    · rw [h1] at kc1
      have hf : oneF W s d = eachF s (fun p => W (gt d p)) := by unfold oneF; rw [if_pos h1]
      have hc := checkT_iff.1 h1
      have hsz := sizeS_ok hc.1
      have kE := fun (k2 : PV) (f2 : FuncId) (hW : ∀ a, I64 a → PureC Try.prog f2 [dN a] (dNE (W a))) => p_elem_each (f := fi_elem_One_1) (caps := [.box [.fn f2 [] [], k2], .box [eI s, eI d]]) (s := s) (h := fun p => W (gt d p)) (by have := hc.1.1; omega)
        (fun p hp => p_elem_One_1 (gt_some (by omega)) (hW _ (gt_range hd p)))
      repeat' (first | apply T_then | apply then_ret | apply then_exit | apply then_goto | apply rnd_exit | apply rnd_ret | apply rnd_goto | apply noGo_normal | apply noGo_ret | apply noGo_exit | apply jmp_normal | apply jmp_ret | apply jmp_exit | apply jmp_goto | apply inB_normal | apply inB_ret | apply inB_goto | apply inB_exit | refine inB_exit_ne rfl ?_ | ((first | apply T_srK fw | apply T_regK fw); · ((try simp only [TOps.flat, List.cons_append, List.nil_append]); repeat (first | apply X_g0 | apply X_g | apply S_keep | apply X_skip | apply X_skipN | refine X_call ?_ ⟨_, _, _, _, _, _, rfl, rfl, rfl, by rw [hP]; exact kk⟩ ?_ | refine X_call ?_ ⟨_, _, _, _, _, _, rfl, rfl, rfl, by rw [hP]; exact kc1⟩ ?_ | refine X_call ?_ ⟨_, _, _, _, _, _, rfl, rfl, rfl, by rw [hP]; exact kE _ _ hW⟩ ?_ | apply X_q | apply X_st | apply X_n | apply X_s | apply SKs0 | apply SKs2 | apply SKs1 | refine ⟨⟨rfl, rfl⟩, ?_⟩ | refine ⟨⟨rfl, ?_⟩, ?_⟩ | refine ⟨?_, ?_⟩ | (· (try simp only [go_sem, seval, reduceIte, ↓reduceIte, Bool.not_eq_true, reduceCtorEq, beq_false, beq_true, hn, hP]); first | done | rfl)))) | apply T_seq | apply T_block | refine T_scopeJ 0 rfl ?_ | apply T_scope | apply T_goto | apply T_ret | apply T_skip | apply T_exit | apply T_label | refine T_condT rfl ?_ | refine T_condF rfl ?_ | refine T_condD rfl (fun _ => ?_) (fun _ => ?_) | refine T_cond rfl (fun _ => ?_) (fun _ => ?_))
      exact ends_ret rfl rfl rfl (by rw [hf]; rfl)

theorem p_elem_Two_no {op : Int} (h1 : op ≠ 10) (h2 : op ≠ 11) (h3 : op ≠ 12) (h4 : op ≠ 13) (s d t e : List Int) : PureC Try.prog fi_elem_Two [dN op, dT s d, dT t e] (dTE (bad 1)) := by
  refine pure_elem_Two (by simp) fun G hP hn => ?_
  unfold a_elem_Two
  have kk := p_elem_kinds
  unfold kindsM at kk
  have g1 : ¬ 10 = op := fun h => h1 h.symm
  have g2 : ¬ 11 = op := fun h => h2 h.symm
  have g3 : ¬ 12 = op := fun h => h3 h.symm
  have g4 : ¬ 13 = op := fun h => h4 h.symm
  by_cases h5 : op = 20
  · subst h5
    repeat' (first | apply T_then | apply then_ret | apply then_exit | apply then_goto | apply rnd_exit | apply rnd_ret | apply rnd_goto | apply noGo_normal | apply noGo_ret | apply noGo_exit | apply jmp_normal | apply jmp_ret | apply jmp_exit | apply jmp_goto | apply inB_normal | apply inB_ret | apply inB_goto | apply inB_exit | refine inB_exit_ne rfl ?_ | ((first | apply T_srK fw | apply T_regK fw); · ((try simp only [TOps.flat, List.cons_append, List.nil_append]); repeat (first | apply X_g0 | apply X_g | apply S_keep | apply X_skip | apply X_skipN | refine X_call ?_ ⟨_, _, _, _, _, _, rfl, rfl, rfl, by rw [hP]; exact kk⟩ ?_ | apply X_q | apply X_st | apply X_n | apply X_s | apply SKs0 | apply SKs2 | apply SKs1 | refine ⟨⟨rfl, rfl⟩, ?_⟩ | refine ⟨⟨rfl, ?_⟩, ?_⟩ | refine ⟨?_, ?_⟩ | (· (try simp only [go_sem, seval, reduceIte, ↓reduceIte, Bool.not_eq_true, reduceCtorEq, beq_false, beq_true, hn, hP]); first | done | rfl)))) | apply T_seq | apply T_block | refine T_scopeJ 0 rfl ?_ | apply T_scope | apply T_goto | apply T_ret | apply T_skip | apply T_exit | apply T_label | refine T_condT rfl ?_ | refine T_condF rfl ?_ | refine T_condD rfl (fun _ => ?_) (fun _ => ?_) | refine T_cond rfl (fun _ => ?_) (fun _ => ?_))
    exact ends_ret rfl rfl rfl rfl
  by_cases h6 : op = 21
  · subst h6
    repeat' (first | apply T_then | apply then_ret | apply then_exit | apply then_goto | apply rnd_exit | apply rnd_ret | apply rnd_goto | apply noGo_normal | apply noGo_ret | apply noGo_exit | apply jmp_normal | apply jmp_ret | apply jmp_exit | apply jmp_goto | apply inB_normal | apply inB_ret | apply inB_goto | apply inB_exit | refine inB_exit_ne rfl ?_ | ((first | apply T_srK fw | apply T_regK fw); · ((try simp only [TOps.flat, List.cons_append, List.nil_append]); repeat (first | apply X_g0 | apply X_g | apply S_keep | apply X_skip | apply X_skipN | refine X_call ?_ ⟨_, _, _, _, _, _, rfl, rfl, rfl, by rw [hP]; exact kk⟩ ?_ | apply X_q | apply X_st | apply X_n | apply X_s | apply SKs0 | apply SKs2 | apply SKs1 | refine ⟨⟨rfl, rfl⟩, ?_⟩ | refine ⟨⟨rfl, ?_⟩, ?_⟩ | refine ⟨?_, ?_⟩ | (· (try simp only [go_sem, seval, reduceIte, ↓reduceIte, Bool.not_eq_true, reduceCtorEq, beq_false, beq_true, hn, hP]); first | done | rfl)))) | apply T_seq | apply T_block | refine T_scopeJ 0 rfl ?_ | apply T_scope | apply T_goto | apply T_ret | apply T_skip | apply T_exit | apply T_label | refine T_condT rfl ?_ | refine T_condF rfl ?_ | refine T_condD rfl (fun _ => ?_) (fun _ => ?_) | refine T_cond rfl (fun _ => ?_) (fun _ => ?_))
    exact ends_ret rfl rfl rfl rfl
  by_cases h7 : op = 22
  · subst h7
    repeat' (first | apply T_then | apply then_ret | apply then_exit | apply then_goto | apply rnd_exit | apply rnd_ret | apply rnd_goto | apply noGo_normal | apply noGo_ret | apply noGo_exit | apply jmp_normal | apply jmp_ret | apply jmp_exit | apply jmp_goto | apply inB_normal | apply inB_ret | apply inB_goto | apply inB_exit | refine inB_exit_ne rfl ?_ | ((first | apply T_srK fw | apply T_regK fw); · ((try simp only [TOps.flat, List.cons_append, List.nil_append]); repeat (first | apply X_g0 | apply X_g | apply S_keep | apply X_skip | apply X_skipN | refine X_call ?_ ⟨_, _, _, _, _, _, rfl, rfl, rfl, by rw [hP]; exact kk⟩ ?_ | apply X_q | apply X_st | apply X_n | apply X_s | apply SKs0 | apply SKs2 | apply SKs1 | refine ⟨⟨rfl, rfl⟩, ?_⟩ | refine ⟨⟨rfl, ?_⟩, ?_⟩ | refine ⟨?_, ?_⟩ | (· (try simp only [go_sem, seval, reduceIte, ↓reduceIte, Bool.not_eq_true, reduceCtorEq, beq_false, beq_true, hn, hP]); first | done | rfl)))) | apply T_seq | apply T_block | refine T_scopeJ 0 rfl ?_ | apply T_scope | apply T_goto | apply T_ret | apply T_skip | apply T_exit | apply T_label | refine T_condT rfl ?_ | refine T_condF rfl ?_ | refine T_condD rfl (fun _ => ?_) (fun _ => ?_) | refine T_cond rfl (fun _ => ?_) (fun _ => ?_))
    exact ends_ret rfl rfl rfl rfl
  by_cases h8 : op = 23
  · subst h8
    repeat' (first | apply T_then | apply then_ret | apply then_exit | apply then_goto | apply rnd_exit | apply rnd_ret | apply rnd_goto | apply noGo_normal | apply noGo_ret | apply noGo_exit | apply jmp_normal | apply jmp_ret | apply jmp_exit | apply jmp_goto | apply inB_normal | apply inB_ret | apply inB_goto | apply inB_exit | refine inB_exit_ne rfl ?_ | ((first | apply T_srK fw | apply T_regK fw); · ((try simp only [TOps.flat, List.cons_append, List.nil_append]); repeat (first | apply X_g0 | apply X_g | apply S_keep | apply X_skip | apply X_skipN | refine X_call ?_ ⟨_, _, _, _, _, _, rfl, rfl, rfl, by rw [hP]; exact kk⟩ ?_ | apply X_q | apply X_st | apply X_n | apply X_s | apply SKs0 | apply SKs2 | apply SKs1 | refine ⟨⟨rfl, rfl⟩, ?_⟩ | refine ⟨⟨rfl, ?_⟩, ?_⟩ | refine ⟨?_, ?_⟩ | (· (try simp only [go_sem, seval, reduceIte, ↓reduceIte, Bool.not_eq_true, reduceCtorEq, beq_false, beq_true, hn, hP]); first | done | rfl)))) | apply T_seq | apply T_block | refine T_scopeJ 0 rfl ?_ | apply T_scope | apply T_goto | apply T_ret | apply T_skip | apply T_exit | apply T_label | refine T_condT rfl ?_ | refine T_condF rfl ?_ | refine T_condD rfl (fun _ => ?_) (fun _ => ?_) | refine T_cond rfl (fun _ => ?_) (fun _ => ?_))
    exact ends_ret rfl rfl rfl rfl
  have g5 : ¬ 20 = op := fun h => h5 h.symm
  have g6 : ¬ 21 = op := fun h => h6 h.symm
  have g7 : ¬ 22 = op := fun h => h7 h.symm
  have g8 : ¬ 23 = op := fun h => h8 h.symm
  repeat' (first | apply T_then | apply then_ret | apply then_exit | apply then_goto | apply rnd_exit | apply rnd_ret | apply rnd_goto | apply noGo_normal | apply noGo_ret | apply noGo_exit | apply jmp_normal | apply jmp_ret | apply jmp_exit | apply jmp_goto | apply inB_normal | apply inB_ret | apply inB_goto | apply inB_exit | refine inB_exit_ne rfl ?_ | ((first | apply T_srK fw | apply T_regK fw); · ((try simp only [TOps.flat, List.cons_append, List.nil_append]); repeat (first | apply X_g0 | apply X_g | apply S_keep | apply X_skip | apply X_skipN | refine X_call ?_ ⟨_, _, _, _, _, _, rfl, rfl, rfl, by rw [hP]; exact kk⟩ ?_ | apply X_q | apply X_st | apply X_n | apply X_s | apply SKs0 | apply SKs2 | apply SKs1 | refine ⟨⟨rfl, rfl⟩, ?_⟩ | refine ⟨⟨rfl, ?_⟩, ?_⟩ | refine ⟨?_, ?_⟩ | (· (try simp only [go_sem, seval, reduceIte, ↓reduceIte, Bool.not_eq_true, reduceCtorEq, beq_false, beq_true, hn, hP, h1, h2, h3, h4, h5, h6, h7, h8, g1, g2, g3, g4, g5, g6, g7, g8]); first | done | rfl)))) | apply T_seq | apply T_block | refine T_scopeJ 0 rfl ?_ | apply T_scope | apply T_goto | apply T_ret | apply T_skip | apply T_exit | apply T_label | refine T_condT rfl ?_ | refine T_condF rfl ?_ | refine T_condD rfl (fun _ => ?_) (fun _ => ?_) | refine T_cond rfl (fun _ => ?_) (fun _ => ?_))
  exact ends_ret rfl rfl rfl rfl

theorem p_elem_One_no {op : Int} (h5 : op ≠ 20) (h6 : op ≠ 21) (h7 : op ≠ 22) (h8 : op ≠ 23) (s d : List Int) : PureC Try.prog fi_elem_One [dN op, dT s d] (dTE (bad 1)) := by
  refine pure_elem_One (by simp) fun G hP hn => ?_
  unfold a_elem_One
  have kk := p_elem_kinds
  unfold kindsM at kk
  have g5 : ¬ 20 = op := fun h => h5 h.symm
  have g6 : ¬ 21 = op := fun h => h6 h.symm
  have g7 : ¬ 22 = op := fun h => h7 h.symm
  have g8 : ¬ 23 = op := fun h => h8 h.symm
  by_cases h1 : op = 10
  · subst h1
    repeat' (first | apply T_then | apply then_ret | apply then_exit | apply then_goto | apply rnd_exit | apply rnd_ret | apply rnd_goto | apply noGo_normal | apply noGo_ret | apply noGo_exit | apply jmp_normal | apply jmp_ret | apply jmp_exit | apply jmp_goto | apply inB_normal | apply inB_ret | apply inB_goto | apply inB_exit | refine inB_exit_ne rfl ?_ | ((first | apply T_srK fw | apply T_regK fw); · ((try simp only [TOps.flat, List.cons_append, List.nil_append]); repeat (first | apply X_g0 | apply X_g | apply S_keep | apply X_skip | apply X_skipN | refine X_call ?_ ⟨_, _, _, _, _, _, rfl, rfl, rfl, by rw [hP]; exact kk⟩ ?_ | apply X_q | apply X_st | apply X_n | apply X_s | apply SKs0 | apply SKs2 | apply SKs1 | refine ⟨⟨rfl, rfl⟩, ?_⟩ | refine ⟨⟨rfl, ?_⟩, ?_⟩ | refine ⟨?_, ?_⟩ | (· (try simp only [go_sem, seval, reduceIte, ↓reduceIte, Bool.not_eq_true, reduceCtorEq, beq_false, beq_true, hn, hP]); first | done | rfl)))) | apply T_seq | apply T_block | refine T_scopeJ 0 rfl ?_ | apply T_scope | apply T_goto | apply T_ret | apply T_skip | apply T_exit | apply T_label | refine T_condT rfl ?_ | refine T_condF rfl ?_ | refine T_condD rfl (fun _ => ?_) (fun _ => ?_) | refine T_cond rfl (fun _ => ?_) (fun _ => ?_))
    exact ends_ret rfl rfl rfl rfl
  by_cases h2 : op = 11
  · subst h2
    repeat' (first | apply T_then | apply then_ret | apply then_exit | apply then_goto | apply rnd_exit | apply rnd_ret | apply rnd_goto | apply noGo_normal | apply noGo_ret | apply noGo_exit | apply jmp_normal | apply jmp_ret | apply jmp_exit | apply jmp_goto | apply inB_normal | apply inB_ret | apply inB_goto | apply inB_exit | refine inB_exit_ne rfl ?_ | ((first | apply T_srK fw | apply T_regK fw); · ((try simp only [TOps.flat, List.cons_append, List.nil_append]); repeat (first | apply X_g0 | apply X_g | apply S_keep | apply X_skip | apply X_skipN | refine X_call ?_ ⟨_, _, _, _, _, _, rfl, rfl, rfl, by rw [hP]; exact kk⟩ ?_ | apply X_q | apply X_st | apply X_n | apply X_s | apply SKs0 | apply SKs2 | apply SKs1 | refine ⟨⟨rfl, rfl⟩, ?_⟩ | refine ⟨⟨rfl, ?_⟩, ?_⟩ | refine ⟨?_, ?_⟩ | (· (try simp only [go_sem, seval, reduceIte, ↓reduceIte, Bool.not_eq_true, reduceCtorEq, beq_false, beq_true, hn, hP]); first | done | rfl)))) | apply T_seq | apply T_block | refine T_scopeJ 0 rfl ?_ | apply T_scope | apply T_goto | apply T_ret | apply T_skip | apply T_exit | apply T_label | refine T_condT rfl ?_ | refine T_condF rfl ?_ | refine T_condD rfl (fun _ => ?_) (fun _ => ?_) | refine T_cond rfl (fun _ => ?_) (fun _ => ?_))
    exact ends_ret rfl rfl rfl rfl
  by_cases h3 : op = 12
  · subst h3
    repeat' (first | apply T_then | apply then_ret | apply then_exit | apply then_goto | apply rnd_exit | apply rnd_ret | apply rnd_goto | apply noGo_normal | apply noGo_ret | apply noGo_exit | apply jmp_normal | apply jmp_ret | apply jmp_exit | apply jmp_goto | apply inB_normal | apply inB_ret | apply inB_goto | apply inB_exit | refine inB_exit_ne rfl ?_ | ((first | apply T_srK fw | apply T_regK fw); · ((try simp only [TOps.flat, List.cons_append, List.nil_append]); repeat (first | apply X_g0 | apply X_g | apply S_keep | apply X_skip | apply X_skipN | refine X_call ?_ ⟨_, _, _, _, _, _, rfl, rfl, rfl, by rw [hP]; exact kk⟩ ?_ | apply X_q | apply X_st | apply X_n | apply X_s | apply SKs0 | apply SKs2 | apply SKs1 | refine ⟨⟨rfl, rfl⟩, ?_⟩ | refine ⟨⟨rfl, ?_⟩, ?_⟩ | refine ⟨?_, ?_⟩ | (· (try simp only [go_sem, seval, reduceIte, ↓reduceIte, Bool.not_eq_true, reduceCtorEq, beq_false, beq_true, hn, hP]); first | done | rfl)))) | apply T_seq | apply T_block | refine T_scopeJ 0 rfl ?_ | apply T_scope | apply T_goto | apply T_ret | apply T_skip | apply T_exit | apply T_label | refine T_condT rfl ?_ | refine T_condF rfl ?_ | refine T_condD rfl (fun _ => ?_) (fun _ => ?_) | refine T_cond rfl (fun _ => ?_) (fun _ => ?_))
    exact ends_ret rfl rfl rfl rfl
  by_cases h4 : op = 13
  · subst h4
    repeat' (first | apply T_then | apply then_ret | apply then_exit | apply then_goto | apply rnd_exit | apply rnd_ret | apply rnd_goto | apply noGo_normal | apply noGo_ret | apply noGo_exit | apply jmp_normal | apply jmp_ret | apply jmp_exit | apply jmp_goto | apply inB_normal | apply inB_ret | apply inB_goto | apply inB_exit | refine inB_exit_ne rfl ?_ | ((first | apply T_srK fw | apply T_regK fw); · ((try simp only [TOps.flat, List.cons_append, List.nil_append]); repeat (first | apply X_g0 | apply X_g | apply S_keep | apply X_skip | apply X_skipN | refine X_call ?_ ⟨_, _, _, _, _, _, rfl, rfl, rfl, by rw [hP]; exact kk⟩ ?_ | apply X_q | apply X_st | apply X_n | apply X_s | apply SKs0 | apply SKs2 | apply SKs1 | refine ⟨⟨rfl, rfl⟩, ?_⟩ | refine ⟨⟨rfl, ?_⟩, ?_⟩ | refine ⟨?_, ?_⟩ | (· (try simp only [go_sem, seval, reduceIte, ↓reduceIte, Bool.not_eq_true, reduceCtorEq, beq_false, beq_true, hn, hP]); first | done | rfl)))) | apply T_seq | apply T_block | refine T_scopeJ 0 rfl ?_ | apply T_scope | apply T_goto | apply T_ret | apply T_skip | apply T_exit | apply T_label | refine T_condT rfl ?_ | refine T_condF rfl ?_ | refine T_condD rfl (fun _ => ?_) (fun _ => ?_) | refine T_cond rfl (fun _ => ?_) (fun _ => ?_))
    exact ends_ret rfl rfl rfl rfl
  have g1 : ¬ 10 = op := fun h => h1 h.symm
  have g2 : ¬ 11 = op := fun h => h2 h.symm
  have g3 : ¬ 12 = op := fun h => h3 h.symm
  have g4 : ¬ 13 = op := fun h => h4 h.symm
  repeat' (first | apply T_then | apply then_ret | apply then_exit | apply then_goto | apply rnd_exit | apply rnd_ret | apply rnd_goto | apply noGo_normal | apply noGo_ret | apply noGo_exit | apply jmp_normal | apply jmp_ret | apply jmp_exit | apply jmp_goto | apply inB_normal | apply inB_ret | apply inB_goto | apply inB_exit | refine inB_exit_ne rfl ?_ | ((first | apply T_srK fw | apply T_regK fw); · ((try simp only [TOps.flat, List.cons_append, List.nil_append]); repeat (first | apply X_g0 | apply X_g | apply S_keep | apply X_skip | apply X_skipN | refine X_call ?_ ⟨_, _, _, _, _, _, rfl, rfl, rfl, by rw [hP]; exact kk⟩ ?_ | apply X_q | apply X_st | apply X_n | apply X_s | apply SKs0 | apply SKs2 | apply SKs1 | refine ⟨⟨rfl, rfl⟩, ?_⟩ | refine ⟨⟨rfl, ?_⟩, ?_⟩ | refine ⟨?_, ?_⟩ | (· (try simp only [go_sem, seval, reduceIte, ↓reduceIte, Bool.not_eq_true, reduceCtorEq, beq_false, beq_true, hn, hP, h1, h2, h3, h4, h5, h6, h7, h8, g1, g2, g3, g4, g5, g6, g7, g8]); first | done | rfl)))) | apply T_seq | apply T_block | refine T_scopeJ 0 rfl ?_ | apply T_scope | apply T_goto | apply T_ret | apply T_skip | apply T_exit | apply T_label | refine T_condT rfl ?_ | refine T_condF rfl ?_ | refine T_condD rfl (fun _ => ?_) (fun _ => ?_) | refine T_cond rfl (fun _ => ?_) (fun _ => ?_))
  exact ends_ret rfl rfl rfl rfl
end Go.AM

namespace Go.AM
open Go Go.Proofs
set_option maxRecDepth 100000
set_option maxHeartbeats 4000000
set_option linter.unusedSimpArgs false
set_option linter.unusedVariables false

theorem i64s_dec {l : List Int} (h : (l.all fun n => decide (I64 n)) = true) : I64s l := fun n hn => by simpa using List.all_eq_true.1 h n hn

end Go.AM

namespace Go.AM
open Go Go.Proofs
set_option maxRecDepth 100000
set_option maxHeartbeats 4000000
set_option linter.unusedSimpArgs false
set_option linter.unusedVariables false

theorem p_fix_Div_zero (a : Int) : PureC Try.prog fi_fix_Div [dN a, dN 0] (dNE (0, 11)) := by
  refine pure_fix_Div (by simp) fun G hP hn => ?_
  unfold a_fix_Div
  repeat' (first | apply T_then | apply then_ret | apply then_exit | apply then_goto | apply rnd_exit | apply rnd_ret | apply rnd_goto | apply noGo_normal | apply noGo_ret | apply noGo_exit | apply jmp_normal | apply jmp_ret | apply jmp_exit | apply jmp_goto | apply inB_normal | apply inB_ret | apply inB_goto | apply inB_exit | refine inB_exit_ne rfl ?_ | ((first | apply T_srK fw | apply T_regK fw); · ((try simp only [TOps.flat, List.cons_append, List.nil_append]); repeat (first | apply X_g0 | apply X_g | apply S_keep | apply X_skip | apply X_skipN | apply X_q | apply X_st | apply X_n | apply X_s | apply SKs0 | apply SKs2 | apply SKs1 | refine ⟨⟨rfl, rfl⟩, ?_⟩ | refine ⟨⟨rfl, ?_⟩, ?_⟩ | refine ⟨?_, ?_⟩ | (· (try simp only [go_sem, seval, reduceIte, ↓reduceIte, Bool.not_eq_true, reduceCtorEq, beq_false, beq_true, hn, hP]); first | done | rfl)))) | apply T_seq | apply T_block | refine T_scopeJ 0 rfl ?_ | apply T_scope | apply T_goto | apply T_ret | apply T_skip | apply T_exit | apply T_label | refine T_condT rfl ?_ | refine T_condF rfl ?_ | refine T_condD rfl (fun _ => ?_) (fun _ => ?_) | refine T_cond rfl (fun _ => ?_) (fun _ => ?_))
  exact ends_ret rfl rfl rfl rfl

theorem k_Add {s d t e : List Int} (hd : I64s d) (he : I64s e) : PureC Try.prog fi_elem_Two [dN 10, dT s d, dT t e] (dTE (twoF fAdd s d t e)) := p_elem_Two (.inl ⟨rfl, rfl⟩) (fun _ _ ha hb => p_fix_Add ha hb) s d t e hd he
theorem k_Sub {s d t e : List Int} (hd : I64s d) (he : I64s e) : PureC Try.prog fi_elem_Two [dN 11, dT s d, dT t e] (dTE (twoF fSub s d t e)) := p_elem_Two (.inr (.inl ⟨rfl, rfl⟩)) (fun _ _ ha hb => p_fix_Sub ha hb) s d t e hd he
theorem k_Mul {s d t e : List Int} (hd : I64s d) (he : I64s e) : PureC Try.prog fi_elem_Two [dN 12, dT s d, dT t e] (dTE (twoF fMul s d t e)) := p_elem_Two (.inr (.inr (.inl ⟨rfl, rfl⟩))) (fun _ _ ha hb => p_fix_Mul ha hb) s d t e hd he
theorem k_Neg {s d : List Int} (hd : I64s d) : PureC Try.prog fi_elem_One [dN 20, dT s d] (dTE (oneF fNeg s d)) := p_elem_One (.inl ⟨rfl, rfl⟩) (fun _ ha => p_fix_Neg ha) s d hd
theorem k_Relu {s d : List Int} (hd : I64s d) : PureC Try.prog fi_elem_One [dN 21, dT s d] (dTE (oneF fRelu s d)) := p_elem_One (.inr (.inl ⟨rfl, rfl⟩)) (fun _ _ => p_relu _) s d hd

theorem aw41 : twoF fSub [2] [5, 1] [] [2] = (([2], [3, -1]), 0) := by decide +kernel
theorem aw42 : oneF fNeg [2] [5, 1] = (([2], [-5, -1]), 0) := by decide +kernel
theorem aw43 : twoF (fun _ _ => (0, 11)) [2] [5, 1] [] [0] = bad 11 := by decide +kernel
theorem aw44 : oneF fRelu [2] [-5, -1] = (([2], [0, 0]), 0) := by decide +kernel
theorem aw45 : ∀ p, p < (sizeS (joinSF [2] []).1).toNat → gt (spreadD [] [0] (joinSF [2] []).1) p = 0 := by decide +kernel

theorem p_awake4 : PureC Try.prog fi_fullerlaw04_awake [] (dB true) := by
  refine pure_fullerlaw04_awake (by simp) fun G hP hn => ?_
  unfold a_fullerlaw04_awake
  have ha : I64s [5, 1] := i64s_dec (by decide)
  have hb : I64s [2] := i64s_dec (by decide)
  have hc : I64s [-5, -1] := i64s_dec (by decide)
  have hz : I64s [0] := i64s_dec (by decide)
  have k1 := k_Sub (s := [2]) (t := []) ha hb
  have k2 := k_Neg (s := [2]) ha
  have k3 := p_elem_One_no (op := 10) (by decide) (by decide) (by decide) (by decide) [2] [5, 1]
  have k4 := p_elem_Two_no (op := 20) (by decide) (by decide) (by decide) (by decide) [2] [5, 1] [] [2]
  have k5 := p_elem_Two' (op := 13) (f := fi_fix_Div) (W := fun _ _ => (0, 11)) (.inr (.inr (.inr ⟨rfl, rfl⟩))) [2] [5, 1] [] [0] ha hz (fun p hp => by rw [aw45 p hp]; exact p_fix_Div_zero _)
  have k6 := k_Relu (s := [2]) hc
  rw [aw41] at k1; rw [aw42] at k2; rw [aw43] at k5; rw [aw44] at k6
  have s1 := c_same' [3, -1]
  have s2 := c_same' [-5, -1]
  have s3 := c_same' [0, 0]
  repeat' (first | apply T_then | apply then_ret | apply then_exit | apply then_goto | apply rnd_exit | apply rnd_ret | apply rnd_goto | apply noGo_normal | apply noGo_ret | apply noGo_exit | apply jmp_normal | apply jmp_ret | apply jmp_exit | apply jmp_goto | apply inB_normal | apply inB_ret | apply inB_goto | apply inB_exit | refine inB_exit_ne rfl ?_ | ((first | apply T_srK fw | apply T_regK fw); · ((try simp only [TOps.flat, List.cons_append, List.nil_append]); repeat (first | apply X_g0 | apply X_g | apply S_keep | apply X_skip | apply X_skipN | refine X_call ?_ ⟨_, _, _, _, _, _, rfl, rfl, rfl, by rw [hP]; exact k1⟩ ?_ | refine X_call ?_ ⟨_, _, _, _, _, _, rfl, rfl, rfl, by rw [hP]; exact k2⟩ ?_ | refine X_call ?_ ⟨_, _, _, _, _, _, rfl, rfl, rfl, by rw [hP]; exact k3⟩ ?_ | refine X_call ?_ ⟨_, _, _, _, _, _, rfl, rfl, rfl, by rw [hP]; exact k4⟩ ?_ | refine X_call ?_ ⟨_, _, _, _, _, _, rfl, rfl, rfl, by rw [hP]; exact k5⟩ ?_ | refine X_call ?_ ⟨_, _, _, _, _, _, rfl, rfl, rfl, by rw [hP]; exact k6⟩ ?_ | refine X_call ?_ ⟨_, _, _, _, _, _, rfl, rfl, rfl, by rw [hP]; exact s1⟩ ?_ | refine X_call ?_ ⟨_, _, _, _, _, _, rfl, rfl, rfl, by rw [hP]; exact s2⟩ ?_ | refine X_call ?_ ⟨_, _, _, _, _, _, rfl, rfl, rfl, by rw [hP]; exact s3⟩ ?_ | apply X_q | apply X_st | apply X_n | apply X_s | apply SKs0 | apply SKs2 | apply SKs1 | refine ⟨⟨rfl, rfl⟩, ?_⟩ | refine ⟨⟨rfl, ?_⟩, ?_⟩ | refine ⟨?_, ?_⟩ | (· (try simp only [go_sem, seval, reduceIte, ↓reduceIte, Bool.not_eq_true, reduceCtorEq, beq_false, beq_true, hn, hP]); first | done | rfl)))) | apply T_seq | apply T_block | refine T_scopeJ 0 rfl ?_ | apply T_scope | apply T_goto | apply T_ret | apply T_skip | apply T_exit | apply T_label | refine T_condT rfl ?_ | refine T_condF rfl ?_ | refine T_condD rfl (fun _ => ?_) (fun _ => ?_) | refine T_cond rfl (fun _ => ?_) (fun _ => ?_))
  exact ends_ret rfl rfl rfl rfl
end Go.AM

namespace Go.AM
open Go Go.Proofs
set_option maxRecDepth 100000
set_option maxHeartbeats 4000000
set_option linter.unusedSimpArgs false
set_option linter.unusedVariables false

/-- the number at an index -/
def val (s d x : List Int) : Int := (atF s d x).1
theorem val_range {s d x : List Int} (h : I64s d) : I64 (val s d x) := atF_range h
theorem eachF_ok {s : List Int} {h : Nat → Int × Int} (k : ∀ p, p < (sizeS s).toNat → (h p).2 = 0) : eachF s h = ((s, (List.range (sizeS s).toNat).map fun p => (h p).1), 0) := by
  unfold eachF
  rw [coll_ok (fun p hp => by rw [Nat.zero_add]; exact k p hp)]
  simp
theorem eachF_inv {s : List Int} {h : Nat → Int × Int} (k : (eachF s h).2 = 0) : ∀ p, p < (sizeS s).toNat → (h p).2 = 0 := by
  rcases coll_cases h (sizeS s).toNat with c | ⟨j, hj, c1, c2⟩
  · exact c
  · exfalso
    have := coll_err (f := h) (n := (sizeS s).toNat) (a := 0) (acc := []) hj (fun i hi => by rw [Nat.zero_add]; exact c1 i hi) (by rw [Nat.zero_add]; exact c2)
    rw [Nat.zero_add] at this
    unfold eachF at k
    rw [this, if_neg c2] at k
    exact c2 k
/-- places, and indices -/
theorem spread_gt {s d r : List Int} (h : ShapeOk r) {p : Nat} (hp : p < (sizeS r).toNat) : gt (spreadD s d r) p = val s d (fromX s (ix r p)) := by
  have hsz := sizeS_ok h
  unfold gt spreadD
  rw [mk_get h _ (by omega)]; rfl
theorem place_of {r x : List Int} (h : ShapeOk r) (hx : InIdx r x) : ∃ p, p < (sizeS r).toNat ∧ ix r ((p : Nat) : Int) = x := by
  have h1 := pl_lt hx
  have hsz := sizeS_ok h
  obtain ⟨p, hp⟩ := Int.eq_ofNat_of_zero_le h1.1
  exact ⟨p, by omega, by rw [← hp]; exact ix_pl0 hx h.2.1⟩
theorem mk_places {r : List Int} (h : ShapeOk r) (g : List Int → Int) : ((List.range (sizeS r).toNat).map fun p => g (ix r ((p : Nat) : Int))) = mk r g := by
  have h64 := sizeS_nn r
  unfold mk
  apply List.map_congr_left
  intro p hp
  have := List.mem_range.1 hp
  rw [idxF_eq h.2.1 (by omega) (by omega)]

theorem two_ok {W : Int → Int → Int × Int} {s d t e r : List Int} (h1 : checkT s d = true) (h2 : checkT t e = true) (hj : JoinOk s t r) (hW : ∀ x, InIdx r x → (W (val s d (fromX s x)) (val t e (fromX t x))).2 = 0) :
    twoF W s d t e = ((r, mk r fun x => (W (val s d (fromX s x)) (val t e (fromX t x))).1), 0) := by
  unfold twoF
  rw [if_pos ⟨h1, h2⟩, hj.eq, if_pos rfl]
  have hh : ∀ p, p < (sizeS r).toNat → W (gt (spreadD s d r) p) (gt (spreadD t e r) p) = W (val s d (fromX s (ix r p))) (val t e (fromX t (ix r p))) := fun p hp => by rw [spread_gt hj.hr hp, spread_gt hj.hr hp]
  rw [eachF_ok (fun p hp => by rw [hh p hp]; exact hW _ (ix_in hj.hr.2.1))]
  congr 2
  rw [← mk_places hj.hr]
  exact List.map_congr_left fun p hp => by rw [hh p (List.mem_range.1 hp)]
theorem two_inv {W : Int → Int → Int × Int} {s d t e : List Int} (h : (twoF W s d t e).2 = 0) : checkT s d = true ∧ checkT t e = true ∧ ∃ r, JoinOk s t r ∧ (∀ x, InIdx r x → (W (val s d (fromX s x)) (val t e (fromX t x))).2 = 0) ∧
    twoF W s d t e = ((r, mk r fun x => (W (val s d (fromX s x)) (val t e (fromX t x))).1), 0) := by
  by_cases hc : checkT s d = true ∧ checkT t e = true
  · refine ⟨hc.1, hc.2, ?_⟩
    rcases join_or s t with ⟨r, hj, hr⟩ | ⟨_, hr⟩
    · have hf : twoF W s d t e = eachF r (fun p => W (gt (spreadD s d r) p) (gt (spreadD t e r) p)) := by unfold twoF; rw [if_pos hc, hr, if_pos rfl]
      rw [hf] at h
      have hk := eachF_inv h
      have hW : ∀ x, InIdx r x → (W (val s d (fromX s x)) (val t e (fromX t x))).2 = 0 := fun x hx => by
        obtain ⟨p, hp, rfl⟩ := place_of hj.hr hx
        have := hk p hp
        rwa [spread_gt hj.hr hp, spread_gt hj.hr hp] at this
      exact ⟨r, hj, hW, two_ok hc.1 hc.2 hj hW⟩
    · unfold twoF at h; rw [if_pos hc, hr, if_neg (by simp)] at h; simp [bad] at h
  · unfold twoF at h; rw [if_neg hc] at h; simp [bad] at h
theorem two_comm {W : Int → Int → Int × Int} (hW : ∀ a b, W a b = W b a) (s d t e : List Int) : twoF W t e s d = twoF W s d t e := by
  unfold twoF
  by_cases hc : checkT s d = true ∧ checkT t e = true
  · rw [if_pos hc, if_pos hc.symm]
    rcases join_or s t with ⟨r, hj, hr⟩ | ⟨hno, hr⟩
    · rw [hr, hj.comm.eq]
      simp only [if_true]
      congr 1
      funext p
      exact hW _ _
    · rcases join_or t s with ⟨r, hj, _⟩ | ⟨_, hr2⟩
      · exact absurd ⟨r, hj.comm⟩ hno
      · rw [hr, hr2]; rfl
  · rw [if_neg hc, if_neg (fun h => hc h.symm)]
theorem fAdd_comm (a b : Int) : fAdd a b = fAdd b a := by unfold fAdd; rw [Int.add_comm]

theorem coll_range {f : Nat → Int × Int} (hf : ∀ p, I64 (f p).1) : ∀ (n a : Nat) (acc : List Int), I64s acc → I64s (coll f n a acc).1
  | 0, _, _, h => h
  | n + 1, a, acc, h => by
    simp only [coll]
    split
    · exact coll_range hf n _ _ (h.append fun x hx => by rw [List.mem_singleton.1 hx]; exact hf a)
    · exact I64s.nil
theorem each_range {s : List Int} {h : Nat → Int × Int} (hf : ∀ p, I64 (h p).1) : I64s (eachF s h).1.2 := by
  unfold eachF
  split
  · exact coll_range hf _ _ _ I64s.nil
  · exact I64s.nil
theorem two_range {W : Int → Int → Int × Int} (hW : ∀ a b, I64 (W a b).1) (s d t e : List Int) : I64s (twoF W s d t e).1.2 := by
  unfold twoF
  split
  · split
    · exact each_range fun p => hW _ _
    · exact I64s.nil
  · exact I64s.nil
theorem fromX_fromX {s t g x : List Int} (h1 : JoinOk s t t) (h2 : JoinOk t g g) (hx : InIdx g x) : fromX s (fromX t x) = fromX s x := by
  have f1 := h1.fitR
  have f2 := h2.fitR
  have hxl := hx.length
  unfold fromX
  have hlen : (clip t (x.drop (x.length - t.length))).length = t.length := clip_len (by simp; omega)
  rw [hlen, clip_drop _ _ _ (by simp; omega), clip_clip f1.2 (by simp; omega), List.drop_drop]
  congr 2
  omega
theorem fromX_self {s x : List Int} (h : InIdx s x) : fromX s x = x := by
  unfold fromX
  rw [h.length, Nat.sub_self, List.drop_zero, clip_self h]
theorem val_mk {r x : List Int} (h : ShapeOk r) (hx : InIdx r x) (g : List Int → Int) : val r (mk r g) x = g x := by unfold val; rw [mk_at h hx]
theorem fAdd_val {a b : Int} (h : (fAdd a b).2 = 0) : (fAdd a b).1 = a + b := by
  unfold fAdd rng at h ⊢; split at h <;> simp_all
theorem full_is {s : List Int} (v : Int) (h : checkS s = true) : fullF s v = ((s, List.replicate (sizeS s).toNat v), 0) := by unfold fullF; rw [if_pos h]
theorem sub_self {s d : List Int} (h : checkT s d = true) : twoF fSub s d s d = fullF s 0 := by
  have hs := (checkT_iff.1 h).1
  have hv : ∀ v : Int, fSub v v = (0, 0) := fun v => by unfold fSub; rw [Int.sub_self]; exact rng_in i64_0
  rw [two_ok h h (JoinOk.self hs) (fun x _ => by rw [hv]), full_is 0 (checkS_iff.2 hs)]
  simp only [hv]
  congr 2
  unfold mk
  rw [List.map_const']; simp
theorem add_back {s d t e : List Int} (hd : I64s d) (h : (twoF fAdd s d t e).2 = 0) :
    ∃ r xd, twoF fAdd s d t e = ((r, xd), 0) ∧ twoF fSub r xd t e = ((r, spreadD s d r), 0) ∧ spreadF s d r = ((r, spreadD s d r), 0) := by
  obtain ⟨h1, h2, r, hj, hW, hf⟩ := two_inv h
  refine ⟨r, _, hf, ?_, by unfold spreadF; rw [if_pos h1, if_pos (fits_of hj.left)]⟩
  have hx : ∀ x, InIdx r x → fSub (val r (mk r fun x => (fAdd (val s d (fromX s x)) (val t e (fromX t x))).1) (fromX r x)) (val t e (fromX t x)) = (val s d (fromX s x), 0) := fun x hx => by
    rw [fromX_self hx, val_mk hj.hr hx, fAdd_val (hW x hx)]
    unfold fSub
    rw [Int.add_sub_cancel]
    exact rng_in (val_range hd)
  rw [two_ok (mk_check hj.hr _) h2 hj.right.comm (fun x h => by rw [hx x h])]
  congr 2
  unfold spreadD
  exact mk_congr hj.hr fun x h => by rw [hx x h]; rfl
theorem add_three {s d t e u c r1 xd r2 yd r3 zd r4 wd : List Int} (h1 : twoF fAdd s d t e = ((r1, xd), 0)) (h2 : twoF fAdd r1 xd u c = ((r2, yd), 0)) (h3 : twoF fAdd t e u c = ((r3, zd), 0)) (h4 : twoF fAdd s d r3 zd = ((r4, wd), 0)) :
    r2 = r4 ∧ yd = wd ∧ checkT r2 yd = true := by
  obtain ⟨a1, a2, q1, j1, w1, f1⟩ := two_inv (by rw [h1] : (twoF fAdd s d t e).2 = 0)
  obtain ⟨b1, b2, q2, j2, w2, f2⟩ := two_inv (by rw [h2] : (twoF fAdd r1 xd u c).2 = 0)
  obtain ⟨c1, c2, q3, j3, w3, f3⟩ := two_inv (by rw [h3] : (twoF fAdd t e u c).2 = 0)
  obtain ⟨d1, d2, q4, j4, w4, f4⟩ := two_inv (by rw [h4] : (twoF fAdd s d r3 zd).2 = 0)
  rw [h1] at f1; rw [h2] at f2; rw [h3] at f3; rw [h4] at f4
  simp only [Prod.mk.injEq, and_true] at f1 f2 f3 f4
  obtain ⟨rfl, e1⟩ := f1
  obtain ⟨rfl, e2⟩ := f2
  obtain ⟨rfl, e3⟩ := f3
  obtain ⟨rfl, e4⟩ := f4
  have hr := JoinOk.assoc j1 j2 j3 j4
  subst hr
  refine ⟨rfl, ?_, by rw [e2]; exact mk_check j2.hr _⟩
  rw [e2, e4]
  refine mk_congr j2.hr fun x hx => ?_
  have x1 := fromX_in j2.left hx
  have x3 := fromX_in j4.right hx
  rw [fAdd_val (w2 x hx), fAdd_val (w4 x hx)]
  have v1 : val r1 xd (fromX r1 x) = val s d (fromX s x) + val t e (fromX t x) := by
    rw [e1, val_mk j1.hr x1, fAdd_val (w1 _ x1), fromX_fromX j1.left j2.left hx, fromX_fromX j1.right j2.left hx]
  have v3 : val r3 zd (fromX r3 x) = val t e (fromX t x) + val u c (fromX u x) := by
    rw [e3, val_mk j3.hr x3, fAdd_val (w3 _ x3), fromX_fromX j3.left j4.right hx, fromX_fromX j3.right j4.right hx]
  rw [v1, v3, Int.add_assoc]
end Go.AM

namespace Go.AM
open Go.RowKit (Below)
set_option linter.unusedSimpArgs false
set_option linter.unusedVariables false

mutual
inductive Conf (P : Program) : TypeId → List PV → Prop
  | bool {t : TypeId} (b : Bool) (ht : P.underlying t = some .bool) : Conf P t [.bool b]
  | int {t : TypeId} {k : IntKind} (n : Int) (ht : P.underlying t = some (.int k)) (hw : (Lit.int k n).wf = true) : Conf P t [.int k n]
  | str {t : TypeId} (s : ByteArray) (ht : P.underlying t = some .string) : Conf P t [.str s]
  | sl {t e : TypeId} (rows : List (List PV)) (ht : P.underlying t = some (.slice e)) (h : ∀ r ∈ rows, Conf P e r) : Conf P t [.sl rows]
  | st {t : TypeId} {fs : Array Field} (parts : List (List PV)) (ht : P.underlying t = some (.struct fs)) (h : ConfAll P (fs.toList.map (·.type)) parts) : Conf P t parts.flatten
inductive ConfAll (P : Program) : List TypeId → List (List PV) → Prop
  | nil : ConfAll P [] []
  | cons {t : TypeId} {ts : List TypeId} {r : List PV} {rs : List (List PV)} (h : Conf P t r) (hs : ConfAll P ts rs) : ConfAll P (t :: ts) (r :: rs)
end

def contig (P : Program) : Nat → List Field → Nat → Bool
  | off, [], n => off == n
  | off, f :: fs, n => f.offset == off && contig P (off + P.cellsOf f.type) fs n

/-- integers, bools, strings, slices and structs of such -/
def okTy (P : Program) : Nat → TypeId → Bool
  | 0, _ => false
  | m + 1, t => match P.underlying t with
    | some .bool => P.cellsOf t == 1
    | some (.int _) => P.cellsOf t == 1
    | some .string => P.cellsOf t == 1
    | some (.slice e) => P.cellsOf t == 1 && decide (1 ≤ P.cellsOf e) && decide (1 ≤ P.bytesOf e) && okTy P m e
    | some (.struct fs) => contig P 0 fs.toList (P.cellsOf t) && fs.toList.all fun f => okTy P m f.type
    | _ => false

theorem flat_at {A : Nat → Prop} {w : World} {b c : Nat} : ∀ {rows : List (List PV)} {off : Nat}, (∀ r ∈ rows, r.length = c) → (∀ i r, rows[i]? = some r → PAt A w r b (off + i * c)) → PAt A w rows.flatten b off
  | [], off, _, _ => .atNil b off
  | r :: rows, off, h1, h2 => by
    simp only [List.flatten_cons]
    refine PAt.append (by simpa using h2 0 r rfl) ?_
    refine flat_at (fun r hr => h1 r (by simp [hr])) fun i r' hi => ?_
    have := h2 (i + 1) r' (by simpa using hi)
    rw [h1 r (by simp)]
    rwa [show off + (i + 1) * c = off + c + i * c from by rw [Nat.add_mul]; omega] at this

section
variable {H : Type} {enc : TypeId × Value → H} {P : Program} {w : World}

def inHeap (w : World) (b : Nat) : Prop := b < w.heap.size

theorem cell_lt {a : Addr} {v : Value} (h : w.cell? a = some v) : a.block < w.heap.size ∧ a.spot = none ∧ w.cell? ⟨a.block, a.off, none⟩ = some v := by
  unfold World.cell? at h ⊢
  split at h
  · rename_i c e z hb
    split at h
    · cases h
    · rename_i hs
      have : a.spot = none := by cases hz : a.spot <;> simp_all
      exact ⟨heap_lt hb, this, by simp [hb, h]⟩
  · cases h

theorem weights_mem {e : TypeId} {l : List (DataW H)} {n : Nat} (h : (DataW.weightsAll P e l).all (· ≤ n) = true) : ∀ d ∈ l, (d.weights P e).all (· ≤ n) = true := by
  induction l with
  | nil => intro d hd; simp at hd
  | cons x l ih =>
    simp only [DataW.weightsAll, List.all_append, Bool.and_eq_true] at h
    intro d hd
    rcases List.mem_cons.1 hd with rfl | hd
    · exact h.1
    · exact ih h.2 d hd

theorem reads_fields {total n : Nat} {cs : List Value} (hlen : cs.length = total) (ih : ∀ (t : TypeId), okTy P n t = true → ∀ (m : Nat) (cs : List Value) (d : DataW H) (ps : List MemPlace),
      DataW.trod enc P w 0 (fun _ => true) true m t cs = some (d, ps) → (d.weights P t).all (· ≤ reachBytes) = true → ∃ vs, Conf P t vs ∧ vs.length = P.cellsOf t ∧ PRels (inHeap w) w vs cs) {m : Nat} :
    ∀ (fs : List Field) (off : Nat) (xs : List (DataW H × List MemPlace)), contig P off fs total = true → (fs.all fun f => okTy P n f.type) = true → xs.length = fs.length →
      (∀ (i : Nat) (f : Field), fs[i]? = some f → DataW.trod enc P w 0 (fun _ => true) true m f.type ((cs.drop f.offset).take (P.cellsOf f.type)) = xs[i]?) →
      (DataW.weightsEach P (fs.map (·.type)) (xs.map (·.1))).all (· ≤ reachBytes) = true → off ≤ total →
      ∃ parts, ConfAll P (fs.map (·.type)) parts ∧ parts.flatten.length = total - off ∧ PRels (inHeap w) w parts.flatten (cs.drop off)
  | [], off, xs, h1, _, _, _, _, hle => by
    simp only [contig, beq_iff_eq] at h1
    subst h1
    exact ⟨[], .nil, by simp, by rw [List.drop_eq_nil_of_le (by omega)]; exact .psNil⟩
  | f :: fs, off, xs, h1, h2, h3, h4, h5, hle => by
    simp only [contig, Bool.and_eq_true, beq_iff_eq] at h1
    simp only [List.all_cons, Bool.and_eq_true] at h2
    obtain ⟨ho, h1⟩ := h1
    cases xs with
    | nil => simp at h3
    | cons x xs =>
      have e0 := h4 0 f rfl
      rw [ho] at e0
      simp only [List.getElem?_cons_zero] at e0
      simp only [List.map_cons, DataW.weightsEach, List.all_append, Bool.and_eq_true] at h5
      obtain ⟨vs, c1, c2, c3⟩ := ih f.type h2.1 m _ x.1 x.2 e0 h5.1
      have hlen2 := (PRels.all2.1 c3).length
      have hle2 : off + P.cellsOf f.type ≤ total := by
        rw [c2, List.length_take, List.length_drop] at hlen2
        omega
      obtain ⟨parts, p1, p2, p3⟩ := reads_fields hlen ih fs (off + P.cellsOf f.type) xs h1 h2.2 (by simpa using h3) (fun i f' hi => by simpa using h4 (i + 1) f' (by simpa using hi)) h5.2 hle2
      refine ⟨vs :: parts, .cons c1 p1, by simp only [List.flatten_cons, List.length_append, p2, c2]; omega, ?_⟩
      simp only [List.flatten_cons]
      have := PRels.all2.2 ((PRels.all2.1 c3).append (PRels.all2.1 p3))
      rwa [← List.drop_drop, List.take_append_drop] at this

theorem rows_of {α : Type} {Q : Nat → α → Prop} : ∀ (n : Nat), (∀ i, i < n → ∃ r, Q i r) → ∃ rows : List α, rows.length = n ∧ ∀ i r, rows[i]? = some r → Q i r
  | 0, _ => ⟨[], rfl, fun i r h => by simp at h⟩
  | n + 1, h => by
    obtain ⟨rows, h1, h2⟩ := rows_of n fun i hi => h i (by omega)
    obtain ⟨r, hr⟩ := h n (by omega)
    refine ⟨rows ++ [r], by simp [h1], fun i x hx => ?_⟩
    by_cases hi : i < n
    · rw [List.getElem?_append_left (by omega)] at hx; exact h2 i x hx
    · rw [List.getElem?_append_right (by omega)] at hx
      have : i = n := by
        by_cases e : i = n
        · exact e
        · rw [List.getElem?_eq_none (by simp; omega)] at hx; cases hx
      subst this
      rw [show i - rows.length = 0 from by omega] at hx
      simp at hx; subst hx; exact hr

theorem add_none (b off k : Nat) : (⟨b, off, none⟩ : Addr).add k = ⟨b, off + k, none⟩ := by
  unfold Addr.add
  split
  · rename_i h; subst h; rfl
  · rfl

theorem reads : ∀ (n : Nat) (t : TypeId), okTy P n t = true → ∀ (m : Nat) (cs : List Value) (d : DataW H) (ps : List MemPlace),
    DataW.trod enc P w 0 (fun _ => true) true m t cs = some (d, ps) → (d.weights P t).all (· ≤ reachBytes) = true → ∃ vs, Conf P t vs ∧ vs.length = P.cellsOf t ∧ PRels (inHeap w) w vs cs
  | 0, t, h => by simp [okTy] at h
  | n + 1, t, h => by
    intro m cs d ps hd hw
    unfold okTy at h
    split at h
    · rename_i ht
      obtain ⟨b, rfl, hx⟩ := DataW.trod_bool ht hd
      exact ⟨[.bool b], .bool b ht, by simpa using (beq_iff_eq.1 h).symm, .psCons _ _ _ _ (.bool b) .psNil⟩
    · rename_i k ht
      obtain ⟨z, rfl, hx, hwf⟩ := DataW.trod_int ht hd
      exact ⟨[.int k z], .int z ht hwf, by simpa using (beq_iff_eq.1 h).symm, .psCons _ _ _ _ (.int k z) .psNil⟩
    · rename_i ht
      obtain ⟨z, rfl, hx, _⟩ := DataW.trod_string ht hd
      exact ⟨[.str z], .str z ht, by simpa using (beq_iff_eq.1 h).symm, .psCons _ _ _ _ (.str z) .psNil⟩
    · rename_i e ht
      simp only [Bool.and_eq_true, beq_iff_eq, decide_eq_true_eq] at h
      obtain ⟨⟨⟨h1, h2⟩, h3⟩, h4⟩ := h
      rcases DataW.trod_slice ht hd with ⟨rfl, hx⟩ | ⟨a, len, cap, elems, rest, m', _, rfl, hx, _, hlc, hcm, hel, hget, hsp, _⟩
      · exact ⟨[.sl []], .sl [] ht (by simp), by simp [h1], .psCons _ _ _ _ (.nil none 0) .psNil⟩
      · obtain ⟨hrl, _⟩ := hsp rfl
        simp only [Prod.mk.injEq] at hx
        obtain ⟨rfl, _⟩ := hx
        simp only [DataW.weights, ht, List.all_cons, List.all_append, Bool.and_eq_true, decide_eq_true_eq, List.length_map] at hw
        obtain ⟨hw1, hw2, _⟩ := hw
        have hcap : cap ≤ reachBytes := by
          have : (elems.length + rest.length) * 1 ≤ (elems.length + rest.length) * P.bytesOf e := Nat.mul_le_mul_left _ h3
          omega
        have each : ∀ i, i < len → ∃ r, Conf P e r ∧ r.length = P.cellsOf e ∧ ∃ cs', w.cells? 0 (a.add (i * P.cellsOf e)) (P.cellsOf e) = some cs' ∧ PRels (inHeap w) w r cs' := by
          intro i hi
          have hi2 : i < elems.length := by omega
          have := hget i hi
          rw [List.getElem?_eq_getElem hi2] at this
          obtain ⟨cs', q1, q2⟩ := Option.bind_eq_some_iff.1 this
          obtain ⟨vs, r1, r2, r3⟩ := reads n e h4 m' cs' _ _ q2 (weights_mem hw2 _ (List.mem_map_of_mem (List.getElem_mem hi2)))
          exact ⟨vs, r1, r2, cs', q1, r3⟩
        obtain ⟨rows, hrows, hrow⟩ := rows_of len each
        have hconf : ∀ r ∈ rows, Conf P e r ∧ r.length = P.cellsOf e := by
          intro r hr
          obtain ⟨i, hi⟩ := List.getElem?_of_mem hr
          exact ⟨(hrow i r hi).1, (hrow i r hi).2.1⟩
        refine ⟨[.sl rows], .sl rows ht fun r hr => (hconf r hr).1, by simp [h1], .psCons _ _ _ _ ?_ .psNil⟩
        by_cases h0 : len = 0
        · subst h0
          have : rows = [] := List.length_eq_zero_iff.1 hrows
          subst this
          exact .nil (some a) cap
        · obtain ⟨_, _, _, cs', q1, q2⟩ := each 0 (by omega)
          obtain ⟨_, q3, q4⟩ := World.cells?_some q1
          have q5 := q4 0 (by omega)
          rw [List.getElem?_eq_getElem (by omega)] at q5
          have e1 : (a.add (0 * P.cellsOf e)).add 0 = a := by simp [Addr.add]
          rw [e1] at q5
          obtain ⟨z1, z2, _⟩ := cell_lt q5
          obtain ⟨b, off, spot⟩ := a
          simp only at z1 z2
          subst z2
          have hM : reachBytes ≤ MaxN := by decide
          have := Rel.sl (A := inHeap w) (w := w) rows b off cap (P.cellsOf e) z1 (fun r hr => (hconf r hr).2) (by omega) (by omega) (flat_at (fun r hr => (hconf r hr).2) fun i r hi => by
            obtain ⟨_, s2, cs', s3, s4⟩ := hrow i r hi
            obtain ⟨_, s5, s6⟩ := World.cells?_some s3
            refine PAt.of_get fun j v hj => ?_
            obtain ⟨x, hx, hr⟩ := (PRels.all2.1 s4).get j v hj
            refine ⟨x, ?_, hr⟩
            have := s6 j (by have := (List.getElem?_eq_some_iff.1 hj).1; omega)
            rw [add_none, add_none, hx] at this
            exact this)
          rw [hrows] at this
          exact this
    · rename_i fs ht
      simp only [Bool.and_eq_true] at h
      obtain ⟨xs, m', _, hx, hl, hxl, hf⟩ := DataW.trod_struct ht hd
      simp only [Prod.mk.injEq] at hx
      obtain ⟨rfl, _⟩ := hx
      simp only [DataW.weights, ht] at hw
      obtain ⟨parts, p1, p2, p3⟩ := reads_fields (m := m') hl (reads n) fs.toList 0 xs h.1 h.2 (by simpa using hxl) (fun i f hi => hf i f (by simpa using hi)) hw (Nat.zero_le _)
      exact ⟨parts.flatten, .st parts ht p1, by simpa using p2, by simpa using p3⟩
    · cases h
end

/-- what an argument of that type is -/
def ArgOk (P : Program) (t : TypeId) (d : DV) : Prop :=
  match P.underlying t with
  | some (.struct _) => ∃ vs, d = .agg vs ∧ Conf P t vs
  | _ => ∃ v, d = .one v ∧ Conf P t [v]

theorem arg_reads {H : Type} {enc : TypeId × Value → H} {P : Program} {w : World} {base n : Nat} {t : TypeId} {v : Value} {d : DataW H} {ps : List MemPlace} (ht : okTy P n t = true) (hv : Value.okWide P w .any base t v)
    (hd : DataW.Trod enc P w 0 (fun _ => true) true t v d ps) (hw : (d.weights P t).all (· ≤ reachBytes) = true) : ∃ x, ArgOk P t x ∧ DRel (inHeap w) w x v := by
  obtain ⟨m, hd⟩ := hd
  obtain ⟨vs, h1, h2, h3⟩ := reads n t ht m _ d ps hd hw
  have one : (∀ xs, v ≠ .agg xs) → P.cellsOf t = 1 → ∃ c, vs = [c] ∧ DRel (inHeap w) w (.one c) v := by
    intro hn hc
    have hcell : v.cells.toList = [v] := by cases v <;> first | rfl | exact absurd rfl (hn _)
    rw [hcell] at h3
    cases h3 with
    | psCons c _ cs _ h t =>
      cases t
      exact ⟨c, rfl, .d1 (.one h)⟩
  cases n with
  | zero => simp [okTy] at ht
  | succ n =>
  unfold okTy at ht
  unfold ArgOk
  unfold Value.okWide at hv
  split at ht
  · rename_i hu
    simp only [hu] at hv ⊢
    obtain ⟨c, rfl, hr⟩ := one (fun xs e => by subst e; simp [Cell.okWide, Cell.ok, hu] at hv) (by simpa using ht)
    exact ⟨_, ⟨c, rfl, h1⟩, hr⟩
  · rename_i k hu
    simp only [hu] at hv ⊢
    obtain ⟨c, rfl, hr⟩ := one (fun xs e => by subst e; simp [Cell.okWide, Cell.ok, hu] at hv) (by simpa using ht)
    exact ⟨_, ⟨c, rfl, h1⟩, hr⟩
  · rename_i hu
    simp only [hu] at hv ⊢
    obtain ⟨c, rfl, hr⟩ := one (fun xs e => by subst e; simp [Cell.okWide, Cell.ok, hu] at hv) (by simpa using ht)
    exact ⟨_, ⟨c, rfl, h1⟩, hr⟩
  · rename_i e hu
    simp only [hu] at hv ⊢
    simp only [Bool.and_eq_true, beq_iff_eq] at ht
    obtain ⟨c, rfl, hr⟩ := one (fun xs e => by subst e; simp [Cell.okWide, Cell.ok, hu] at hv) ht.1.1.1
    exact ⟨_, ⟨c, rfl, h1⟩, hr⟩
  · rename_i fs hu
    simp only [hu] at hv ⊢
    obtain ⟨cs, rfl, _, _⟩ := hv
    exact ⟨_, ⟨vs, rfl, h1⟩, .d1 (.agg (PRels.all2.1 h3))⟩
  · cases ht

theorem args_read {H : Type} {enc : TypeId × Value → H} {P : Program} {w : World} {base n : Nat} : ∀ {ts : List TypeId} {vs : List Value} {ds : List (DataW H)} {ps : List MemPlace}, (ts.all fun t => okTy P n t) = true →
    (∀ (j : Nat) t v, ts[j]? = some t → vs[j]? = some v → Value.okWide P w .any base t v) → DataW.TrodAll enc P w 0 (fun _ => true) true ts vs ds ps → (DataW.weightsEach P ts ds).all (· ≤ reachBytes) = true →
    ∃ xs, All2 (ArgOk P) ts xs ∧ All2 (DRel (inHeap w) w) xs vs
  | [], vs, ds, ps, _, _, h, _ => by
    cases vs <;> cases ds <;> simp [DataW.TrodAll] at h
    exact ⟨[], .nil, .nil⟩
  | t :: ts, vs, ds, ps, ht, hv, h, hw => by
    obtain ⟨v, vs', d, ds', p, q, rfl, rfl, rfl, h1, h2⟩ := Go.ChangeShapes.trodAll_cons h
    simp only [List.all_cons, Bool.and_eq_true] at ht
    simp only [DataW.weightsEach, List.all_append, Bool.and_eq_true] at hw
    obtain ⟨x, a1, a2⟩ := arg_reads ht.1 (hv 0 t v rfl rfl) h1 hw.1
    obtain ⟨xs, b1, b2⟩ := args_read ht.2 (fun j t v h3 h4 => hv (j + 1) t v (by simpa using h3) (by simpa using h4)) h2 hw.2
    exact ⟨x :: xs, .cons a1 b1, .cons a2 b2⟩

theorem args_carry {H : Type} {enc : TypeId × Value → H} {P : Program} (hl : laidOutB P = true) {W W' : World} {sp : Nat → Bool} : ∀ {ts : List TypeId} {vs : List Value} {ds : List (DataW H)} {ps : List MemPlace},
    (ts.all fun t => P.readableRec t && decide (t < P.types.size)) = true → DataW.TrodAll enc P W 0 (fun _ => true) true ts vs ds ps → (∀ p ∈ ps, W.sameAt W' p) → (∀ p ∈ ps, sp p.block = true) → DataW.TrodAll enc P W' 0 sp true ts vs ds ps
  | [], vs, ds, ps, _, h, _, _ => by cases vs <;> cases ds <;> simp [DataW.TrodAll] at h ⊢; exact h
  | t :: ts, vs, ds, ps, ht, h, h1, h2 => by
    obtain ⟨v, vs', d, ds', p, q, rfl, rfl, rfl, h3, h4⟩ := Go.ChangeShapes.trodAll_cons h
    simp only [List.all_cons, Bool.and_eq_true, decide_eq_true_eq] at ht
    exact ⟨p, q, Go.WideElems.Trod_stays hl ht.1.1 ht.1.2 h3 (fun x hx => h1 x (by simp [hx])) (fun x hx => h2 x (by simp [hx])), args_carry hl ht.2 h4 (fun x hx => h1 x (by simp [hx])) (fun x hx => h2 x (by simp [hx])), rfl⟩

/-- A LAW's ROW, OUT OF ITS CONTRACT. -/
theorem law_lifted {C : Checked} {os : Os} {f : FuncId} {fn : Func} {spec : ChangeSpec} {conds : List PathCond} {H : Type} {enc : TypeId × Value → H} {tb : TypeId} (n : Nat)
    (own : ownKnob C.prog.godebug = none) (started : os.Started) (noInit : C.prog.inits.idxOf? f = none) (hfn : C.prog.funcs[f]? = some fn)
    (witness : ∃ (w : World) (tape : Tape) (i : Input), w.os = os ∧ (w.forCall tape i).Shaped C.prog ∧ i.vars = [] ∧ Input.okWide C.prog (w.forCall tape i) .any w.heap.size f i ∧
      spec.pre6 enc C.prog fn conds false (w.forCall tape i).memory i.args ∧ ({} : Assume).holds C.prog (lone (Frame.enter C.prog f i.args .normal) [] (w.forCall tape i)))
    (hl : laidOutB C.prog = true) (hts : (fn.params.toList.all fun t => okTy C.prog n t) = true) (hrd : (fn.params.toList.all fun t => C.prog.readableRec t && decide (t < C.prog.types.size)) = true)
    (hvars : spec.vars = []) (hres : fn.resultTypes = #[tb]) (hb : C.prog.underlying tb = some .bool)
    (hspec : ∀ ds : List (DataW H), ds.length = fn.params.size → spec.fn H ds = { results := [.lit (.bool true)], args := ds })
    (law : ∀ xs, All2 (ArgOk C.prog) fn.params.toList xs → PureC C.prog f xs (.one (.bool true))) :
    ReturnsInHanded {} C os f .any (spec.pre6 enc C.prog fn conds false) (spec.post enc C.prog fn false true false false) := by
  refine returnsInHanded_of_change_shaped own started noInit hfn witness ?_
  intro W base args ds gs before hval hW _ hwt _ _
  obtain ⟨p, q, hA, hV, rfl, hfz, hnd⟩ := id hW
  rw [hvars] at hV
  have hgs : gs = [] ∧ q = [] := by
    cases gs with
    | nil => simp only [DataW.TrodVars] at hV; exact ⟨rfl, hV⟩
    | cons _ _ => exact hV.elim
  obtain ⟨rfl, rfl⟩ := hgs
  have hvt : spec.plain.varTypes C.prog = [] := by
    simp [DataSpec.varTypes, ChangeSpec.plain, hvars]
  rw [hvt, List.append_nil, List.append_nil] at hwt
  obtain ⟨xs, h1, h2⟩ := args_read hts (fun j t v h3 h4 => hval j t v (by simpa using h3) (by simpa using h4)) hA hwt
  have hlen : ds.length = fn.params.size := by
    have key : ∀ {ts : List TypeId} {vs : List Value} {ds : List (DataW H)} {ps : List MemPlace}, DataW.TrodAll enc C.prog W 0 (fun _ => true) true ts vs ds ps → ds.length = ts.length := by
      intro ts
      induction ts with
      | nil => intro vs ds ps h; cases vs <;> cases ds <;> simp [DataW.TrodAll] at h ⊢
      | cons t ts ih =>
        intro vs ds ps h
        obtain ⟨_, _, _, _, _, _, rfl, rfl, _, _, h4⟩ := Go.ChangeShapes.trodAll_cons h
        simp [ih h4]
    simpa using key hA
  have hsp := hspec ds hlen
  have hcall := (law xs h1).calls (inHeap W) W args.toList (fun _ hb => hb) h2
  refine Calls.mono (by simpa using hcall) ?_
  rintro e W' ⟨x, rfl, hbel, hr⟩
  have hx : x = .bool true := by
    cases hr with | d1 h => cases h with | one h => cases h; rfl
  subst hx
  refine ⟨_, rfl, ds, [], p ++ [], [], p, [], hW, ?_, ?_, ?_, hbel.frame _, fun h => by cases h⟩
  · rw [List.append_nil, hsp, hres]
    exact Go.ChangeShapes.trodAll_mk1 (Go.RowKit.shut_bool hb true)
  · rw [List.append_nil, hsp]
    exact args_carry hl hrd hA (fun x hx => hbel.same (hW.lt x (by simpa using hx))) (fun x hx => by simpa using hW.lt x (by simpa using hx))
  · rw [List.append_nil, hsp, hvars]
    rfl
end Go.AM

namespace Go.AM
open Go Go.Proofs Go.Proofs.Ytcmbjbmghoopcaa
set_option maxRecDepth 100000
set_option linter.unusedSimpArgs false
set_option linter.unusedVariables false

theorem wf_i64 {n : Int} (h : (Lit.int .i64 n).wf = true) : -9223372036854775808 ≤ n ∧ n < 9223372036854775808 := by
  simp only [Lit.wf, IntKind.has, IntKind.min, IntKind.max, IntKind.bits, IntKind.signed] at h
  simp at h
  omega

theorem conf_int {v : List PV} (h : Conf Try.prog 3 v) : ∃ n : Int, v = [.int .i64 n] ∧ -9223372036854775808 ≤ n ∧ n < 9223372036854775808 := by
  have hu := Try.underlying3
  cases h with
  | bool b ht => rw [hu] at ht; cases ht
  | int n ht hw => rw [hu] at ht; cases ht; exact ⟨n, rfl, wf_i64 hw⟩
  | str s ht => rw [hu] at ht; cases ht
  | sl rows ht h => rw [hu] at ht; cases ht
  | st parts ht h => rw [hu] at ht; cases ht

def i64s (s : List Int) : Prop := ∀ n ∈ s, -9223372036854775808 ≤ n ∧ n < 9223372036854775808

theorem conf_rows : ∀ {rows : List (List PV)}, (∀ r ∈ rows, Conf Try.prog 3 r) → ∃ s : List Int, rows = rI s ∧ i64s s
  | [], _ => ⟨[], rfl, fun n hn => by simp at hn⟩
  | r :: rows, h => by
    obtain ⟨n, rfl, hn⟩ := conf_int (h r (by simp))
    obtain ⟨s, rfl, hs⟩ := conf_rows (rows := rows) fun r hr => h r (by simp [hr])
    exact ⟨n :: s, rfl, fun m hm => by
      rcases List.mem_cons.1 hm with rfl | hm
      · exact hn
      · exact hs m hm⟩

theorem conf_ints {v : List PV} (h : Conf Try.prog 22 v) : ∃ s : List Int, v = [eI s] ∧ i64s s := by
  have hu := Try.underlying22
  cases h with
  | bool b ht => rw [hu] at ht; cases ht
  | int n ht hw => rw [hu] at ht; cases ht
  | str s ht => rw [hu] at ht; cases ht
  | sl rows ht h =>
    rw [hu] at ht; cases ht
    obtain ⟨s, rfl, hs⟩ := conf_rows h
    exact ⟨s, rfl, hs⟩
  | st parts ht h => rw [hu] at ht; cases ht

theorem conf_T {v : List PV} (h : Conf Try.prog 24 v) : ∃ s d : List Int, v = [eI s, eI d] ∧ i64s s ∧ i64s d := by
  have hu := Try.underlying24
  cases h with
  | bool b ht => rw [hu] at ht; cases ht
  | int n ht hw => rw [hu] at ht; cases ht
  | str s ht => rw [hu] at ht; cases ht
  | sl rows ht h => rw [hu] at ht; cases ht
  | st parts ht h =>
    rw [hu] at ht; cases ht
    cases h with | cons h1 h => cases h with | cons h2 h => cases h with | nil =>
      obtain ⟨s, rfl, hs⟩ := conf_ints h1
      obtain ⟨d, rfl, hd⟩ := conf_ints h2
      exact ⟨s, d, rfl, hs, hd⟩

theorem arg_T {d : DV} (h : ArgOk Try.prog 24 d) : ∃ s e : List Int, d = dT s e ∧ i64s s ∧ i64s e := by
  unfold ArgOk at h
  rw [Try.underlying24] at h
  obtain ⟨vs, rfl, h⟩ := h
  obtain ⟨s, e, rfl, hs, he⟩ := conf_T h
  exact ⟨s, e, rfl, hs, he⟩
theorem own : ownKnob Try.prog.godebug = none := by kernel_rfl
theorem laidOut : laidOutB Try.prog = true := by kernel_rfl

end Go.AM

