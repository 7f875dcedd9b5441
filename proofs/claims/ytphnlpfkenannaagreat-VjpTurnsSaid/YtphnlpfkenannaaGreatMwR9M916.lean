import Derived.Test.YtphnlpfkenannaaGreatMwR9M915
set_option linter.unusedVariables false
set_option linter.unusedSimpArgs false
namespace Go.AM
attribute [go_sem] Run RunI evQ evN evS evBinV evBin evNil isNilK isNilC isNeq ldP ldC ldO get gets acs pvs C0ok parts asCells fillC srcOf srcZ partsP setRows putd newSt AS.keep AS.keepE pint pbool List.map List.length lk lo initE DV.av DV.av1 TOps.dsts if_true if_false ite_true ite_false Option.getD Option.toList List.cons_append List.nil_append List.append_nil decide_true decide_false Bool.not_true Bool.not_false cond_true cond_false List.length_map List.getElem?_map Option.map Int.toNat_natCast Int.natCast_nonneg Int.ofNat_lt true_and and_true List.take List.drop Bool.false_eq_true List.getElem?_cons_zero List.getElem?_cons_succ Nat.add_zero Nat.zero_add Bool.and_true Bool.true_and Bool.or_false Bool.false_or Bool.and_false Bool.or_true Bool.true_or Bool.false_and AS.scr AV.scr AC.scr AO.scr AS.nr List.all_cons List.all_nil AV.has AV.has.hasV AC.has AC.has.hasL AO.nr decide_eq_true_eq false_and and_false List.set List.replicate ne_eq not_true not_false_eq_true Nat.zero_mul Int.mul_one List.length_set Option.bind Nat.zero_le max1 max2 max3 max4 max5 max6 max7 max8 Nat.le_refl List.length_append List.length_cons List.length_nil List.length_replicate ddS restS List.filter_cons List.filter_nil List.contains_cons List.contains_nil beq_self_eq_true initV bne_self_eq_false false_implies true_implies imp_self implies_true
attribute [go_sem] RunD TOps.flat okPair okN okInd okCl okFr rdOf AV.id1 FOp.us usG AOp.opds QOp.opds NOp.opds SOp.opds Opd.us FP.scO gmet AVp ACp dtOf dobOf It.o It.f List.flatMap_cons List.flatMap_nil Option.isNone List.filter List.filterMap Option.some_beq_some Option.some_beq_none Option.none_beq_some Option.map_none Option.map_some Bool.or_self Bool.and_self List.filterMap_cons List.filterMap_nil Option.isNone_none Option.isNone_some RunF
attribute [go_sem] bndI roomOf slcC findE entV entriesOf putM carryN chunk isTop oleB Int.cast_ofNat_Int Int.natCast_zero Int.natCast_one TOps.flat Nat.sub_zero Nat.sub_self List.flatten_cons List.flatten_nil true_or or_true Option.some.injEq
end Go.AM

namespace Go.AM
section
variable {G : Ground} {F : Fence} {n : Nat} {Q : Exit → AS → Prop} {s : AS}
theorem callM_mk {P : Program} {f : Opd} {az : List Opd} {s : AS} {r : AV} {σ1 σ0 : Sto} {c : AC} {id : FuncId} {first caps : List AV} {fr : List Nat} (h1 : get s.env f = .one c) (h2 : fnOf c = some (id, first, caps))
    (h6 : MutC P id (first ++ gets s.env az ++ caps) σ0 r σ1 fr) (h3 : ∀ p ∈ σ0, lo s.σ p.1 = p.2) (h4 : ∀ p ∈ σ0, p.1 ∈ σ1.map (·.1)) (h5 : ∀ d ∈ fr, s.nr d = true ∧ lo s.σ d = .none) : CallM P f az s r σ1 :=
  ⟨c, id, first, caps, σ0, fr, h1, h2, h3, h4, fun d hd => ⟨AS.nr_Nr (h5 d hd).1, (h5 d hd).2⟩, h6⟩
theorem S_st1 {os : List FOp} {K : AS → Prop} {d : Nat} {g : Option (Nat × Bool)} {e : Env} {σ : Sto} {ex : List AV} {q : SOp} {u : Nat} {ob : AO} {v : AV} (hd : d < G.nt) (hg : gmet e g = some true) (h : evS q e σ d = some (u, ob, v, 0)) (k : SK G os K { env := (d, v) :: e, σ := (u, ob) :: σ, ex := ex }) :
    SK G (⟨some d, g, .s q⟩ :: os) K { env := e, σ := σ, ex := ex } :=
  let ⟨S, h', k'⟩ := k; ⟨S, .cons (.run (o := ⟨some d, g, .s q⟩) hg (fun t ht => by cases ht; exact hd) (.s (t := d) (.inl rfl) h (fun hk => by cases hk))) h', k'⟩
theorem X_st1 {os : List FOp} {K : AS → Prop} {d : Nat} {g : Option (Nat × Bool)} {e : Env} {σ : Sto} {ex : List AV} {q : SOp} {u : Nat} {ob : AO} {v : AV} (hd : d < G.nt) (h : evS q e σ d = some (u, ob, v, 0)) (k : SK G os K { env := (d, v) :: e, σ := (u, ob) :: σ, ex := ex }) :
    SKb G true ⟨some d, g, .s q⟩ os K { env := e, σ := σ, ex := ex } := SKt.mk fun hg => S_st1 hd hg h k
structure SKs (G : Ground) (os : List FOp) (K : AS → Prop) (d : Nat) (e : Env) (σ : Sto) (ex : List AV) (k u : Nat) (ob : AO) (v : AV) : Prop where
  of : match k with
    | 0 => SK G os K { env := (d, v) :: e, σ := (u, ob) :: σ, ex := ex }
    | 1 => u = d ∧ (lo σ d = .none ∧ AS.nr d { env := e, σ := σ, ex := ex } = true) ∧ SK G os K { env := (d, v) :: e, σ := (d, ob) :: σ, ex := ex }
    | 2 => ∃ e1 σ1 ex1, AS.scr u { env := e, σ := σ, ex := ex } = { env := e1, σ := σ1, ex := ex1 } ∧ SK G os K { env := (d, v) :: e1, σ := (u, ob) :: σ1, ex := ex1 }
    | _ => False
section
variable {G : Ground} {os : List FOp} {K : AS → Prop} {d u : Nat} {g : Option (Nat × Bool)} {e : Env} {σ : Sto} {ex : List AV} {ob : AO} {v : AV}
theorem SKs0 (h : SK G os K { env := (d, v) :: e, σ := (u, ob) :: σ, ex := ex }) : SKs G os K d e σ ex 0 u ob v := ⟨h⟩
theorem SKs1 (h : (lo σ d = .none ∧ AS.nr d { env := e, σ := σ, ex := ex } = true) ∧ SK G os K { env := (d, v) :: e, σ := (d, ob) :: σ, ex := ex }) : SKs G os K d e σ ex 1 d ob v := ⟨⟨rfl, h⟩⟩
theorem SKs2 {e1 : Env} {σ1 : Sto} {ex1 : List AV} (h : AS.scr u { env := e, σ := σ, ex := ex } = { env := e1, σ := σ1, ex := ex1 } ∧ SK G os K { env := (d, v) :: e1, σ := (u, ob) :: σ1, ex := ex1 }) : SKs G os K d e σ ex 2 u ob v := ⟨⟨_, _, _, h⟩⟩
theorem X_s {q : SOp} {k : Nat} (hd : d < G.nt) (h : evS q e σ d = some (u, ob, v, k)) (hk : SKs G os K d e σ ex k u ob v) : SKb G true ⟨some d, g, .s q⟩ os K { env := e, σ := σ, ex := ex } := by
  obtain ⟨hk⟩ := hk
  match k, hk with
  | 0, hk => exact X_st1 hd h hk
  | 1, hk => obtain ⟨rfl, hk⟩ := hk; exact X_ap1 hd h hk
  | 2, hk => obtain ⟨e1, σ1, ex1, hk⟩ := hk; exact X_ap2 hd h hk
  | k + 3, hk => exact hk.elim
end
def RunE (P : Program) (s0 : AS) : Nat → List (List Nat) → List FOp → List It → (AS → Prop) → AS → Prop
  | _, [], [], _, K, s => K s
  | i, un :: uns, o :: os, acc, K, s =>
    match gmet s.env o.g with
    | some false => acc.all (fun t => okPair un t (i, o, { v := .und })) = true ∧ RunE P s0 (i + 1) uns os ((i, o, { v := .und }) :: acc) K (putd o.d .und s)
    | some true => match o.op with
      | .q q => match evQ q s.env s.σ with
        | some v => acc.all (fun t => okPair un t (i, o, { v := v, rd := rdOf (.q q) s.env })) = true ∧ RunE P s0 (i + 1) uns os ((i, o, { v := v, rd := rdOf (.q q) s.env }) :: acc) K (putd o.d v s)
        | none => False
      | .s q => match evS q s.env s.σ (o.d.getD 0) with
        | some (u, ob, v, k) => (k = 0 ∧ oleB ob (lo s.σ u) = true) ∧ acc.all (fun t => okPair un t (i, o, { v := v, rd := u :: rdOf (.s q) s.env })) = true ∧
            RunE P s0 (i + 1) uns os ((i, o, { v := v, rd := u :: rdOf (.s q) s.env }) :: acc) K (putd o.d v s)
        | none => False
      | _ => False
    | none => False
  | _, _, _, _, _, _ => False
def findL : ACode → Nat → Option ACode
  | .seq a b, l => match findL a l with
    | some r => some (.seq r b)
    | none => findL b l
  | .label l', l => if l' == l then some .skip else none
  | _, _ => none
theorem findL_sound {P : Program} {nt l : Nat} : ∀ {c : ACode} {cc : Code}, compC P cc = some c.erase → c.ok nt = true →
    match findL c l with
    | some r => ∃ rc, findLabel cc l = some rc ∧ compC P rc = some r.erase ∧ r.ok nt = true
    | none => findLabel cc l = none := by
  intro c
  induction c with
  | seq a b iha ihb =>
    intro cc hc hok
    obtain ⟨ca, cb, rfl, h1, h2⟩ := inv_seq hc
    simp only [ACode.ok, Bool.and_eq_true] at hok
    have ka := iha h1 hok.1
    have kb := ihb h2 hok.2
    simp only [findL, findLabel]
    cases hf : findL a l with
    | some r =>
      rw [hf] at ka
      obtain ⟨rc, q1, q2, q3⟩ := ka
      refine ⟨.seq rc cb, by rw [q1], ?_, by simp [ACode.ok, q3, hok.2]⟩
      simp only [compC, q2, h2, ACode.erase]; rfl
    | none =>
      rw [hf] at ka
      simp only at ka
      simp only [ka]
      exact kb
  | label l' =>
    intro cc hc hok
    have := inv_label hc
    subst this
    simp only [findL, findLabel]
    split
    · rename_i r hr
      split at hr
      · cases hr; rename_i hl; exact ⟨.skip, by rw [if_pos hl], rfl, rfl⟩
      · cases hr
    · rename_i hr
      split at hr
      · cases hr
      · rename_i hl; rw [if_neg hl]
  | skip => intro cc hc _; have := inv_skip hc; subst this; rfl
  | region un t k i =>
    intro cc hc _
    simp only [ACode.erase] at hc
    obtain ⟨id, ops, d, l0, rfl, _⟩ := inv_region0 hc
    rfl
  | cond c x y _ _ => intro cc hc _; obtain ⟨_, _, _, rfl, _⟩ := inv_cond hc; rfl
  | block i c _ => intro cc hc _; obtain ⟨_, rfl, _⟩ := inv_block hc; rfl
  | loop c _ => intro cc hc _; obtain ⟨_, rfl, _⟩ := inv_loop hc; rfl
  | scope c _ => intro cc hc _; obtain ⟨_, rfl, _⟩ := inv_scope hc; rfl
  | exit i => intro cc hc _; have := inv_exit hc; subst this; rfl
  | goto i => intro cc hc _; have := inv_goto hc; subst this; rfl
  | ret => intro cc hc _; have := inv_ret hc; subst this; rfl
  | range f ps x y _ _ => intro cc hc _; obtain ⟨_, _, _, _, rfl, _⟩ := inv_range hc; rfl
structure jmp (G : Ground) (n l : Nat) (rest : ACode) (Q : Exit → AS → Prop) (e : Exit) (s : AS) : Prop where
  of : match e with
    | .goto l' => l' = l ∧ T G Fence.wide n rest (noGo Q) s
    | e => Q e s
theorem T_scopeJ (l : Nat) {c rest : ACode} (hf : findL c l = some rest) (h : T G Fence.wide n c (jmp G n l rest Q) s) : T G Fence.wide n (.scope c) Q s := by
  refine ⟨fun code hc hok a w hs => ?_⟩
  obtain ⟨cc, rfl, hc'⟩ := inv_scope hc
  have hok' : c.ok G.nt = true := hok
  have hfs := findL_sound (l := l) hc' hok'
  rw [hf] at hfs
  obtain ⟨rc, q1, q2, q3⟩ := hfs
  refine wpIn_wide.2 (wp_scope_jumps l (fun a w => ∃ s', SimS G s' a w ∧ T G Fence.wide n rest (noGo Q) s') (fun _ _ => 0) q1 (wpIn_wide.1 (wpIn_mono (h.of cc hc' hok' a w hs) ?_)) ?_)
  · rintro e a w ⟨s', hq, hs'⟩
    obtain ⟨hq⟩ := hq
    cases e with
    | goto l' => exact ⟨hq.1, s', hs', hq.2⟩
    | _ => exact ⟨s', hq, hs'⟩
  · rintro a w ⟨s', hs', hT⟩
    refine wpIn_wide.1 (wpIn_mono (hT.of rc q2 q3 a w hs') ?_)
    rintro e a w ⟨s', hq, hs'⟩
    obtain ⟨hq⟩ := hq
    cases e <;> first | exact hq.elim | exact ⟨s', hq, hs'⟩
variable {l id : Nat} {rest : ACode}
theorem jmp_normal (h : Q .normal s) : jmp G n l rest Q .normal s := ⟨h⟩
theorem jmp_ret (h : Q .ret s) : jmp G n l rest Q .ret s := ⟨h⟩
theorem jmp_exit (h : Q (.exit id) s) : jmp G n l rest Q (.exit id) s := ⟨h⟩
theorem jmp_goto (h : T G Fence.wide n rest (noGo Q) s) : jmp G n l rest Q (.goto l) s := ⟨rfl, h⟩
end
end Go.AM
namespace Go.AM
attribute [go_sem] RunE
end Go.AM

namespace Go.AM
open Go.RowKit (Below)

mutual
def AC.ren (ρ : Nat → Nat) : AC → AC
  | .ptr t i s o => .ptr (ρ t) i s o
  | .msl t o s l c => .msl (ρ t) o s l c
  | .mmap t => .mmap (ρ t)
  | .mfn f a b => .mfn f (AC.renL ρ a) (AC.renL ρ b)
  | .p v => .p v
  | .nils => .nils
  | .raw x => .raw x
def AC.renL (ρ : Nat → Nat) : List AC → List AC
  | [] => []
  | c :: cs => AC.ren ρ c :: AC.renL ρ cs
end
mutual
def AV.ren (ρ : Nat → Nat) : AV → AV
  | .one c => .one (c.ren ρ)
  | .agg cs => .agg (AC.renL ρ cs)
  | .tup xs => .tup (AV.renL ρ xs)
  | .top => .top
  | .und => .und
def AV.renL (ρ : Nat → Nat) : List AV → List AV
  | [] => []
  | c :: cs => AV.ren ρ c :: AV.renL ρ cs
end
theorem AC.renL_map (ρ : Nat → Nat) : ∀ cs : List AC, AC.renL ρ cs = cs.map (AC.ren ρ)
  | [] => rfl
  | c :: cs => by rw [AC.renL, AC.renL_map ρ cs]; rfl
theorem AV.renL_map (ρ : Nat → Nat) : ∀ cs : List AV, AV.renL ρ cs = cs.map (AV.ren ρ)
  | [] => rfl
  | c :: cs => by rw [AV.renL, AV.renL_map ρ cs]; rfl
mutual
theorem AC.ren_ren {ρ : Nat → Nat} (h : ∀ t, ρ (ρ t) = t) : ∀ c : AC, (c.ren ρ).ren ρ = c
  | .ptr t i s o => by simp only [AC.ren, h]
  | .msl t o s l c => by simp only [AC.ren, h]
  | .mmap t => by simp only [AC.ren, h]
  | .mfn f a b => by simp only [AC.ren, AC.renL_renL h a, AC.renL_renL h b]
  | .p v => rfl
  | .nils => rfl
  | .raw x => rfl
theorem AC.renL_renL {ρ : Nat → Nat} (h : ∀ t, ρ (ρ t) = t) : ∀ cs : List AC, AC.renL ρ (AC.renL ρ cs) = cs
  | [] => rfl
  | c :: cs => by simp only [AC.renL, AC.ren_ren h c, AC.renL_renL h cs]
end
mutual
theorem AV.ren_ren {ρ : Nat → Nat} (h : ∀ t, ρ (ρ t) = t) : ∀ c : AV, (c.ren ρ).ren ρ = c
  | .one c => by simp only [AV.ren, AC.ren_ren h]
  | .agg cs => by simp only [AV.ren, AC.renL_renL h]
  | .tup xs => by simp only [AV.ren, AV.renL_renL h xs]
  | .top => rfl
  | .und => rfl
theorem AV.renL_renL {ρ : Nat → Nat} (h : ∀ t, ρ (ρ t) = t) : ∀ cs : List AV, AV.renL ρ (AV.renL ρ cs) = cs
  | [] => rfl
  | c :: cs => by simp only [AV.renL, AV.ren_ren h c, AV.renL_renL h cs]
end
theorem beq_ren {ρ : Nat → Nat} (h : ∀ t, ρ (ρ t) = t) (t d : Nat) : (ρ t == d) = (t == ρ d) := by
  rw [Bool.eq_iff_iff, beq_iff_eq, beq_iff_eq]
  exact ⟨fun e => by rw [← e, h], fun e => by rw [e, h]⟩
mutual
theorem AC.ren_has {ρ : Nat → Nat} (h : ∀ t, ρ (ρ t) = t) (d : Nat) : ∀ c : AC, (c.ren ρ).has d = c.has (ρ d)
  | .ptr t _ _ _ => by simp only [AC.ren, AC.has]; exact beq_ren h t d
  | .msl t _ _ _ _ => by simp only [AC.ren, AC.has]; exact beq_ren h t d
  | .mmap t => by simp only [AC.ren, AC.has]; exact beq_ren h t d
  | .mfn f a b => by simp only [AC.ren, AC.has, AC.renL_has h d a, AC.renL_has h d b]
  | .p v => rfl
  | .nils => rfl
  | .raw x => rfl
theorem AC.renL_has {ρ : Nat → Nat} (h : ∀ t, ρ (ρ t) = t) (d : Nat) : ∀ cs : List AC, AC.has.hasL d (AC.renL ρ cs) = AC.has.hasL (ρ d) cs
  | [] => rfl
  | c :: cs => by simp only [AC.renL, AC.has.hasL, AC.ren_has h d c, AC.renL_has h d cs]
end
mutual
theorem AV.ren_has {ρ : Nat → Nat} (h : ∀ t, ρ (ρ t) = t) (d : Nat) : ∀ c : AV, (c.ren ρ).has d = c.has (ρ d)
  | .one c => AC.ren_has h d c
  | .agg cs => AC.renL_has h d cs
  | .tup xs => AV.renL_has h d xs
  | .top => rfl
  | .und => rfl
theorem AV.renL_has {ρ : Nat → Nat} (h : ∀ t, ρ (ρ t) = t) (d : Nat) : ∀ cs : List AV, AV.has.hasV d (AV.renL ρ cs) = AV.has.hasV (ρ d) cs
  | [] => rfl
  | c :: cs => by simp only [AV.renL, AV.has.hasV, AV.ren_has h d c, AV.renL_has h d cs]
end
section
variable {A : Nat → Prop} {τ τ2 : Tau} {w : World} {ρ : Nat → Nat}
theorem all2_map {α β : Type} {R S : α → β → Prop} {f : α → α} {az : List α} {bs : List β} (h : All2 R az bs) (k : ∀ a b, R a b → S (f a) b) : All2 S (az.map f) bs := by
  induction h with
  | nil => exact .nil
  | cons x _ ih => exact .cons (k _ _ x) ih
theorem all2_unmap {α β : Type} {R S : α → β → Prop} {f : α → α} : ∀ {az : List α} {bs : List β}, All2 R (az.map f) bs → (∀ a b, R (f a) b → S a b) → All2 S az bs
  | [], bs, h, k => by cases h; exact .nil
  | a :: az, bs, h, k => by
    cases h with
    | cons x t => exact .cons (k _ _ x) (all2_unmap t k)
theorem C0.ren (hτ : ∀ t, τ2 (ρ t) = τ t) {c : AC} {x : Value} (h : C0 A τ w c x) : C0 A τ2 w (c.ren ρ) x := by
  cases h with
  | p v x h => exact .p v x h
  | nils => exact .nils
  | ptr t i s off b h => exact .ptr _ i s off b ((hτ t).trans h)
  | mslN t o s cap a h hc => exact .mslN _ o s cap a ((hτ t).trans h) hc
  | msl t o s len b c cap h hc hl hr => exact .msl _ o s len b c cap ((hτ t).trans h) hc hl hr
  | mmap t b h => exact .mmap _ b ((hτ t).trans h)
  | raw x h => exact .raw x h
theorem CRel.ren (hτ : ∀ t, τ2 (ρ t) = τ t) {c : AC} {x : Value} (h : CRel A τ w c x) : CRel A τ2 w (c.ren ρ) x := by
  cases h with
  | c0 h => exact .c0 (h.ren hτ)
  | mfn f first caps vf vc h1 h2 =>
    rw [AC.ren, AC.renL_map, AC.renL_map]
    exact .mfn f _ _ vf vc (all2_map h1 fun _ _ h => h.ren hτ) (all2_map h2 fun _ _ h => h.ren hτ)
theorem V1.ren (hτ : ∀ t, τ2 (ρ t) = τ t) {c : AV} {x : Value} (h : V1 A τ w c x) : V1 A τ2 w (c.ren ρ) x := by
  cases h with
  | one h => exact .one (h.ren hτ)
  | agg h => rw [AV.ren, AC.renL_map]; exact .agg (all2_map h fun _ _ h => h.ren hτ)
  | top => exact .top _
  | und => exact .und
theorem VRel.ren (hτ : ∀ t, τ2 (ρ t) = τ t) {c : AV} {x : Value} (h : VRel A τ w c x) : VRel A τ2 w (c.ren ρ) x := by
  cases h with
  | v1 h => exact .v1 (h.ren hτ)
  | tup h => rw [AV.ren, AV.renL_map]; exact .tup (all2_map h fun _ _ h => h.ren hτ)
theorem VRel.unren (hρ : ∀ t, ρ (ρ t) = t) {c : AV} {x : Value} (h : VRel A τ w (c.ren ρ) x) : VRel A (fun t => τ (ρ t)) w c x := by
  have := h.ren (ρ := ρ) (τ2 := fun t => τ (ρ t)) (fun t => by show τ (ρ (ρ t)) = τ t; rw [hρ])
  rwa [AV.ren_ren hρ] at this
theorem hasV_false {t : Nat} {cs : List AV} : AV.has.hasV t cs = false ↔ ∀ c ∈ cs, c.has t = false := by
  induction cs with
  | nil => simp [AV.has.hasV]
  | cons c cs ih => simp [AV.has.hasV, ih]
end
def Bnd (f : Nat → Bool) : Prop := ∃ b, ∀ t, b ≤ t → f t = false
theorem Bnd.or {f g : Nat → Bool} (h : Bnd f) (k : Bnd g) : Bnd (fun t => f t || g t) :=
  let ⟨b, hb⟩ := h; let ⟨c, hc⟩ := k; ⟨max b c, fun t ht => by show (f t || g t) = false; rw [hb t (by omega), hc t (by omega)]; rfl⟩
theorem Bnd.eq (u : Nat) : Bnd (fun t => u == t) := ⟨u + 1, fun t ht => by simp; omega⟩
mutual
theorem AC.bnd : ∀ c : AC, Bnd (fun t => AC.has t c)
  | .p _ => ⟨0, fun _ _ => rfl⟩
  | .nils => ⟨0, fun _ _ => rfl⟩
  | .ptr u _ _ _ => Bnd.eq u
  | .msl u _ _ _ _ => Bnd.eq u
  | .mmap u => Bnd.eq u
  | .mfn _ a b => Bnd.or (AC.bndL a) (AC.bndL b)
  | .raw _ => ⟨0, fun _ _ => rfl⟩
theorem AC.bndL : ∀ cs : List AC, Bnd (fun t => AC.has.hasL t cs)
  | [] => ⟨0, fun _ _ => rfl⟩
  | c :: cs => Bnd.or (AC.bnd c) (AC.bndL cs)
end
mutual
theorem AV.bnd : ∀ c : AV, Bnd (fun t => AV.has t c)
  | .one c => AC.bnd c
  | .agg cs => AC.bndL cs
  | .tup xs => AV.bndL xs
  | .top => ⟨0, fun _ _ => rfl⟩
  | .und => ⟨0, fun _ _ => rfl⟩
theorem AV.bndL : ∀ cs : List AV, Bnd (fun t => AV.has.hasV t cs)
  | [] => ⟨0, fun _ _ => rfl⟩
  | c :: cs => Bnd.or (AV.bnd c) (AV.bndL cs)
end
def AO.has (d : Nat) : AO → Bool
  | .cells _ cs => AC.has.hasL d cs
  | _ => false
def stoHas (d : Nat) (σ : Sto) : Bool := σ.any fun p => p.1 == d || p.2.has d
theorem sto_bnd : ∀ σ : Sto, Bnd (fun t => stoHas t σ)
  | [] => ⟨0, fun _ _ => rfl⟩
  | (u, o) :: σ => by
    have h1 : Bnd (fun t => AO.has t o) := by
      cases o with
      | cells m cs => exact AC.bndL cs
      | none => exact ⟨0, fun _ _ => rfl⟩
      | arr => exact ⟨0, fun _ _ => rfl⟩
      | map => exact ⟨0, fun _ _ => rfl⟩
    obtain ⟨b, hb⟩ := Bnd.or (Bnd.or (Bnd.eq u) h1) (sto_bnd σ)
    exact ⟨b, fun t ht => by have := hb t ht; simpa [stoHas] using this⟩
theorem stoHas_lo {d : Nat} : ∀ {σ : Sto}, stoHas d σ = false → lo σ d = .none ∧ ∀ t, (lo σ t).has d = false
  | [], _ => ⟨rfl, fun _ => rfl⟩
  | (u, o) :: σ, h => by
    simp only [stoHas, List.any_cons, Bool.or_eq_false_iff, beq_eq_false_iff_ne] at h
    obtain ⟨h1, h2⟩ := stoHas_lo (σ := σ) h.2
    refine ⟨by simp only [lo]; rw [if_neg (fun e => h.1.1 e.symm)]; exact h1, fun t => ?_⟩
    simp only [lo]
    split
    · exact h.1.2
    · exact h2 t
theorem ORel.retau {M A : Nat → Prop} {τ τ' : Tau} {w : World} {t : Nat} {o : AO} (h : ORel M A τ w t o) (ht : o ≠ .none → τ' t = τ t) (hτ : ∀ u, o.has u = true → τ' u = τ u) : ORel M A τ' w t o := by
  cases o with
  | none => trivial
  | cells m cs =>
    obtain ⟨b, xs, e, h1, h2, h3, h4⟩ := h
    exact ⟨b, xs, e, (ht (by simp)).trans h1, h2, h3.stepL (p := fun c => ∀ t, c.has t = true → τ' t = τ t) (fun c hc t ht => hτ t (hasL_mem hc ht)) (fun _ _ hp h => h.step (WStep.refl w) (fun _ h => h) (fun _ _ => rfl) hp), h4⟩
  | arr m s rows =>
    obtain ⟨h0, hl, h⟩ := h
    refine ⟨h0, hl, ?_⟩
    rcases h with ⟨h1, h2⟩ | ⟨b, xs, e, h1, h2⟩
    · exact .inl ⟨(ht (by simp)).trans h1, h2⟩
    · exact .inr ⟨b, xs, e, (ht (by simp)).trans h1, h2⟩
  | map m es =>
    obtain ⟨b, ces, clock, h1, h2⟩ := h
    exact ⟨b, ces, clock, (ht (by simp)).trans h1, h2⟩
theorem MutC.hide {P : Program} {f : FuncId} {vs : List AV} {σ σ' : Sto} {r : AV} {fr : List Nat} (d : Nat) (h : MutC P f vs σ r σ' (d :: fr))
    (h1 : AV.has.hasV d vs = false) (h2 : r.has d = false) (h3 : stoHas d σ = false) (h4 : stoHas d σ' = false) (h5 : d ∉ fr) : MutC P f vs σ r σ' fr := by
  refine ⟨h.enters, fun A τ w xs ex exs hA hxs hex hfr hob hsp => ?_⟩
  obtain ⟨b, hb⟩ := Bnd.or (Bnd.or (AV.bndL ex) (AV.bndL vs)) (Bnd.or (AV.bnd r) (Bnd.or (sto_bnd σ) (sto_bnd σ')))
  obtain ⟨N, hNb, hNd, hNf⟩ : ∃ N, b ≤ N ∧ N ≠ d ∧ N ∉ fr := by
    refine ⟨b + d + 1 + fr.sum, by omega, by omega, fun hm => ?_⟩
    have : ∀ (l : List Nat) x, x ∈ l → x ≤ l.sum := by
      intro l
      induction l with
      | nil => intro x hx; simp at hx
      | cons y l ih =>
        intro x hx
        rcases List.mem_cons.1 hx with rfl | hx
        · simp
        · have := ih x hx; simp; omega
    have := this fr _ hm
    omega
  have hN := hb N hNb
  simp only [Bool.or_eq_false_iff] at hN
  obtain ⟨⟨n1, n2⟩, n3, n4, n5⟩ := hN
  let ρ : Nat → Nat := fun t => if t = d then N else if t = N then d else t
  have hρd : ρ d = N := by simp [ρ]
  have hρN : ρ N = d := by simp [ρ, hNd]
  have hρo : ∀ t, t ≠ d → t ≠ N → ρ t = t := fun t a b => by simp [ρ, a, b]
  have hρρ : ∀ t, ρ (ρ t) = t := fun t => by
    by_cases a : t = d
    · rw [a, hρd, hρN]
    · by_cases b : t = N
      · rw [b, hρN, hρd]
      · rw [hρo t a b, hρo t a b]
  have s3 := stoHas_lo h3; have s4 := stoHas_lo h4; have m3 := stoHas_lo n4; have m4 := stoHas_lo n5
  -- a number that is spoken of stays
  have st : ∀ (τ : Tau) t, t ≠ d → t ≠ N → (fun u => τ (ρ u)) t = τ t := fun τ t a b => by show τ (ρ t) = τ t; rw [hρo t a b]
  have ne1 : ∀ (g : Nat → Bool) (t : Nat), g d = false → g N = false → g t = true → t ≠ d ∧ t ≠ N := fun g t a b c => ⟨fun e => (by rw [e, a] at c; cases c), fun e => (by rw [e, b] at c; cases c)⟩
  have howner : ∀ {σ : Sto} (τ : Tau), lo σ d = .none → lo σ N = .none → owOf σ (fun u => τ (ρ u)) = owOf σ τ := fun {σ} τ a b => by
    funext k
    apply propext
    constructor
    · rintro ⟨t, hm, ht⟩
      refine ⟨t, hm, ?_⟩
      rw [← st τ t (fun e => by rw [e, a] at hm; cases hm) (fun e => by rw [e, b] at hm; cases hm)]; exact ht
    · rintro ⟨t, hm, ht⟩
      refine ⟨t, hm, ?_⟩
      rw [st τ t (fun e => by rw [e, a] at hm; cases hm) (fun e => by rw [e, b] at hm; cases hm)]; exact ht
  have hsep : ∀ {σ : Sto} (τ : Tau), lo σ d = .none → lo σ N = .none → SepS σ τ → SepS σ (fun u => τ (ρ u)) := fun {σ} τ a b hs t t' k g1 g2 hne hm hk => by
    have e1 := st τ t (fun e => g1 (by rw [e]; exact a)) (fun e => g1 (by rw [e]; exact b))
    have e2 := st τ t' (fun e => g2 (by rw [e]; exact a)) (fun e => g2 (by rw [e]; exact b))
    rw [e1] at hk; rw [e2]
    exact hs t t' k g1 g2 hne hm hk
  have hobj : ∀ {σ : Sto} (τ : Tau) {M A : Nat → Prop} {w : World}, stoHas d σ = false → stoHas N σ = false → (∀ t, ORel M A τ w t (lo σ t)) → ∀ t, ORel M A (fun u => τ (ρ u)) w t (lo σ t) := fun {σ} τ {M A w} a b ho t => by
    have a' := stoHas_lo a; have b' := stoHas_lo b
    exact (ho t).retau (fun hn => st τ t (fun e => hn (by rw [e]; exact a'.1)) (fun e => hn (by rw [e]; exact b'.1)))
      (fun u hu => by have := ne1 (fun u => (lo σ t).has u) u (a'.2 t) (b'.2 t) hu; exact st τ u this.1 this.2)
  have key := h.calls A (fun u => τ (ρ u)) w xs (ex.map (AV.ren ρ)) exs hA
    (hxs.stepL (p := fun c => ∀ t, c.has t = true → (fun u => τ (ρ u)) t = τ t) (fun c hc t ht => by
        have := ne1 (fun u => AV.has.hasV u vs) t h1 n2 (hasV_mem hc ht); exact st τ t this.1 this.2)
      (fun _ _ hp h => h.step (WStep.refl w) (fun _ h => h) (fun _ _ => rfl) hp))
    (all2_map hex fun _ _ h => h.ren (fun t => by show τ (ρ (ρ t)) = τ t; rw [hρρ]))
    (fun u hu v hv => by
      obtain ⟨v0, hv0, rfl⟩ := List.mem_map.1 hv
      rw [AV.ren_has hρρ]
      rcases List.mem_cons.1 hu with rfl | hu
      · rw [hρd]; exact hasV_false.1 n1 v0 hv0
      · rw [hρo u (fun e => h5 (e ▸ hu)) (fun e => hNf (e ▸ hu))]
        exact hfr u hu v0 hv0)
    (hobj τ h3 n4 hob) (hsep τ s3.1 m3.1 hsp)
  rw [howner τ s3.1 m3.1] at key
  refine key.mono ?_
  rintro e w' ⟨x, A', τ', he, hfm, ho, hs, hr, hx⟩
  refine ⟨x, A', fun u => τ' (ρ u), he, hfm, hobj τ' h4 n5 ho, hsep τ' s4.1 m4.1 hs, ?_, ?_⟩
  · exact hr.step (WStep.refl w') (fun _ h => h) (fun _ _ => rfl) (fun t ht => by
      have := ne1 (fun u => r.has u) t h2 n3 ht; exact st τ' t this.1 this.2)
  · exact all2_unmap hx fun _ _ h => h.unren hρρ
def AO.ren (ρ : Nat → Nat) : AO → AO
  | .cells m cs => .cells m (AC.renL ρ cs)
  | .none => .none
  | .arr m s rows => .arr m s rows
  | .map m es => .map m es
def renS (ρ : Nat → Nat) (σ : Sto) : Sto := σ.map fun p => (ρ p.1, p.2.ren ρ)
theorem AO.ren_ren {ρ : Nat → Nat} (h : ∀ t, ρ (ρ t) = t) (o : AO) : (o.ren ρ).ren ρ = o := by
  cases o <;> simp only [AO.ren, AC.renL_renL h]
theorem renS_renS {ρ : Nat → Nat} (h : ∀ t, ρ (ρ t) = t) (σ : Sto) : renS ρ (renS ρ σ) = σ := by
  unfold renS
  rw [List.map_map]
  conv => rhs; rw [← List.map_id σ]
  apply List.map_congr_left
  rintro ⟨t, o⟩ _
  simp only [Function.comp, h, AO.ren_ren h, id]
theorem lo_renS {ρ : Nat → Nat} (h : ∀ t, ρ (ρ t) = t) (σ : Sto) (t : Nat) : lo (renS ρ σ) t = (lo σ (ρ t)).ren ρ := by
  induction σ with
  | nil => rfl
  | cons p σ ih =>
    obtain ⟨u, o⟩ := p
    show (if t = ρ u then o.ren ρ else lo (renS ρ σ) t) = (if ρ t = u then o else lo σ (ρ t)).ren ρ
    by_cases e : t = ρ u
    · rw [if_pos e, if_pos (by rw [e, h])]
    · rw [if_neg e, if_neg (fun k => e (by rw [← k, h])), ih]
def AS.ren (ρ : Nat → Nat) (s : AS) : AS := { env := s.env.map fun p => (p.1, p.2.ren ρ), σ := renS ρ s.σ, ex := s.ex.map (AV.ren ρ) }
theorem lk_ren (ρ : Nat → Nat) (e : Env) (i : Nat) : lk (e.map fun p => (p.1, p.2.ren ρ)) i = (lk e i).ren ρ := by
  induction e with
  | nil => rfl
  | cons p e ih =>
    obtain ⟨j, v⟩ := p
    show (if i = j then v.ren ρ else lk (e.map fun p => (p.1, p.2.ren ρ)) i) = (if i = j then v else lk e i).ren ρ
    split
    · rfl
    · exact ih
theorem AO.ren_none {ρ : Nat → Nat} {o : AO} : o.ren ρ = .none ↔ o = .none := by cases o <;> simp [AO.ren]
theorem AO.ren_mu {ρ : Nat → Nat} (o : AO) : (o.ren ρ).mu = o.mu := by cases o <;> rfl
theorem ORel.ren {M A : Nat → Prop} {τ : Tau} {w : World} {ρ : Nat → Nat} (hρ : ∀ t, ρ (ρ t) = t) {t : Nat} {o : AO} (h : ORel M A τ w (ρ t) o) : ORel M A (fun u => τ (ρ u)) w t (o.ren ρ) := by
  cases o with
  | none => trivial
  | cells m cs =>
    obtain ⟨b, xs, e, h1, h2, h3, h4⟩ := h
    show ORel M A _ w t (.cells m (AC.renL ρ cs))
    rw [AC.renL_map]
    refine ⟨b, xs, e, h1, h2, all2_map h3 fun _ _ h => h.ren (fun u => by show τ (ρ (ρ u)) = τ u; rw [hρ]), ?_⟩
    cases m
    · refine ⟨h4.1, fun c hc => ?_⟩
      obtain ⟨c0, hc0, rfl⟩ := List.mem_map.1 hc
      obtain ⟨v, rfl⟩ := h4.2 c0 hc0
      exact ⟨v, rfl⟩
    · exact h4
  | arr m s rows => exact h
  | map m es => exact h
theorem SimAt.ren {G : Ground} {s : AS} {a : Act} {w : World} {A : Nat → Prop} {τ : Tau} {ρ : Nat → Nat} (hρ : ∀ t, ρ (ρ t) = t) (h : SimAt G s a w A τ) : SimAt G (s.ren ρ) a w A (fun t => τ (ρ t)) := by
  have hτ : ∀ t, (fun u => τ (ρ u)) (ρ t) = τ t := fun t => by show τ (ρ (ρ t)) = τ t; rw [hρ]
  refine ⟨h.below, h.a0, h.a1, h.alt, h.size, fun i => ?_, fun t => ?_, fun t t' b h1 h2 hne hm hb => ?_, ?_, h.marks⟩
  · show VRel A _ w (lk (s.env.map fun p => (p.1, p.2.ren ρ)) i) _
    rw [lk_ren]; exact (h.env i).ren (ρ := ρ) hτ
  · show ORel _ A _ w t (lo (renS ρ s.σ) t)
    rw [lo_renS hρ]; exact (h.obj (ρ t)).ren hρ
  · change lo (renS ρ s.σ) t ≠ .none at h1
    change lo (renS ρ s.σ) t' ≠ .none at h2
    change (lo (renS ρ s.σ) t).mu = true at hm
    rw [lo_renS hρ] at h1 h2 hm
    rw [AO.ren_mu] at hm
    exact h.sep (ρ t) (ρ t') b (fun e => h1 (AO.ren_none.2 e)) (fun e => h2 (AO.ren_none.2 e)) (fun e => hne (by rw [← hρ t, e, hρ])) hm hb
  · exact all2_map h.ex fun _ _ h => h.ren (ρ := ρ) hτ
theorem Weak.ren {G : Ground} {s : AS} {ρ : Nat → Nat} (hρ : ∀ t, ρ (ρ t) = t) : Weak G s (s.ren ρ) := fun a w ⟨A, τ, h⟩ => ⟨A, _, h.ren hρ⟩
def swp (d N t : Nat) : Nat := if t = d then N else if t = N then d else t
theorem swp_swp (d N t : Nat) : swp d N (swp d N t) = t := by
  unfold swp
  by_cases a : t = d
  · rw [if_pos a]
    by_cases b : N = d
    · rw [if_pos b, b, a]
    · rw [if_neg b, if_pos rfl, a]
  · rw [if_neg a]
    by_cases b : t = N
    · rw [if_pos b, if_pos rfl, b]
    · rw [if_neg b, if_neg a, if_neg b]
theorem swp_d (d N : Nat) : swp d N d = N := if_pos rfl
theorem T_room {G : Ground} {F : Fence} {n : Nat} {Q : Exit → AS → Prop} {c : ACode} {s : AS} (d : Nat)
    (h : ∀ ρ : Nat → Nat, (∀ t, ρ (ρ t) = t) → lo (renS ρ s.σ) d = .none → ((renS ρ s.σ).all fun p => p.2.nr d) = true → ((s.ex.map (AV.ren ρ)).all fun v => !v.has d) = true → T G F n c Q (s.ren ρ)) : T G F n c Q s := by
  obtain ⟨b, hb⟩ := Bnd.or (sto_bnd s.σ) (AV.bndL s.ex)
  have hN := hb b (Nat.le_refl _)
  simp only [Bool.or_eq_false_iff] at hN
  have h1 := stoHas_lo hN.1
  refine T_weak (Weak.ren (ρ := swp d b) (swp_swp d b)) (h _ (swp_swp d b) ?_ ?_ ?_)
  · rw [lo_renS (swp_swp d b), swp_d, h1.1]; rfl
  · rw [List.all_eq_true]
    rintro ⟨t, o⟩ hp
    obtain ⟨⟨t0, o0⟩, hp0, e⟩ := List.mem_map.1 hp
    simp only [Prod.mk.injEq] at e
    obtain ⟨rfl, rfl⟩ := e
    have h2 : o0.has b = false := by
      have := hN.1
      simp only [stoHas, List.any_eq_false] at this
      have := this _ hp0
      simp only [Bool.or_eq_true, not_or, Bool.not_eq_true] at this
      exact this.2
    cases o0 with
    | cells m cs =>
      simp only [AO.has] at h2
      show (!AC.has.hasL d (AC.renL (swp d b) cs)) = true
      rw [AC.renL_has (swp_swp d b), swp_d, h2]; rfl
    | none => rfl
    | arr => rfl
    | map => rfl
  · rw [List.all_eq_true]
    intro v hv
    obtain ⟨v0, hv0, rfl⟩ := List.mem_map.1 hv
    rw [AV.ren_has (swp_swp d b), swp_d, hasV_false.1 hN.2 v0 hv0]; rfl
end Go.AM

namespace Go.AM
open Go

structure Bx (Q : Prop) : Prop where
  of : Q
theorem aa {p q : Prop} (h : p) (k : q) : p ∧ q := ⟨h, k⟩
theorem go {A B P Q : Prop} (F : A) (C : B) (k : Q) (h : A → B → Bx Q → P := by
  intro F C k
  repeat' (first | apply T_then | apply then_ret | apply then_exit | apply then_goto | apply rnd_exit | apply rnd_ret | apply rnd_goto | apply noGo_normal | apply noGo_ret | apply noGo_exit | apply jmp_normal | apply jmp_ret | apply jmp_exit | apply jmp_goto | apply inB_normal | apply inB_ret | apply inB_goto | apply inB_exit | refine inB_exit_ne rfl ?_ | ((first | apply T_srK fw | apply T_regK fw); · ((try simp only [TOps.flat, List.cons_append, List.nil_append]); repeat (first | apply X_g0 | apply X_g | apply S_keep | apply X_skip | apply X_skipN | refine X_call ?_ ⟨_, _, _, _, _, _, rfl, rfl, rfl, by rw [hP]; first | assumption | apply C | apply C.1 | apply C.2 | apply C.2.1 | apply C.2.2.1 | apply C.2.2.2.1 | apply C.2.2.2.2.1 | apply C.2.2.2.2.2.1 | apply C.2.2.2.2.2.2.1 | apply C.2.2.2.2.2.2.2.1 | apply C.2.2.2.2.2.2.2.2.1 | apply C.2.2.2.2.2.2.2.2.2.1 | apply C.2.2.2.2.2.2.2.2.2.2.1 | apply C.2.2.2.2.2.2.2.2.2.2.2.1 | apply C.2.2 | apply C.2.2.2 | apply C.2.2.2.2 | apply C.2.2.2.2.2 | apply C.2.2.2.2.2.2 | apply C.2.2.2.2.2.2.2 | apply C.2.2.2.2.2.2.2.2 | apply C.2.2.2.2.2.2.2.2.2 | apply C.2.2.2.2.2.2.2.2.2.2 | apply C.2.2.2.2.2.2.2.2.2.2.2⟩ ?_ | refine X_callI ?_ ⟨_, _, _, _, _, _, _, rfl, rfl, rfl, (by rw [hP]; first | assumption | apply C | apply C.1 | apply C.2 | apply C.2.1 | apply C.2.2.1 | apply C.2.2.2.1 | apply C.2.2.2.2.1 | apply C.2.2.2.2.2.1 | apply C.2.2.2.2.2.2.1 | apply C.2.2.2.2.2.2.2.1 | apply C.2.2.2.2.2.2.2.2.1 | apply C.2.2.2.2.2.2.2.2.2.1 | apply C.2.2.2.2.2.2.2.2.2.2.1 | apply C.2.2.2.2.2.2.2.2.2.2.2.1 | apply C.2.2 | apply C.2.2.2 | apply C.2.2.2.2 | apply C.2.2.2.2.2 | apply C.2.2.2.2.2.2 | apply C.2.2.2.2.2.2.2 | apply C.2.2.2.2.2.2.2.2 | apply C.2.2.2.2.2.2.2.2.2 | apply C.2.2.2.2.2.2.2.2.2.2 | apply C.2.2.2.2.2.2.2.2.2.2.2), rfl, (by rw [hP]; first | assumption | apply C | apply C.1 | apply C.2 | apply C.2.1 | apply C.2.2.1 | apply C.2.2.2.1 | apply C.2.2.2.2.1 | apply C.2.2.2.2.2.1 | apply C.2.2.2.2.2.2.1 | apply C.2.2.2.2.2.2.2.1 | apply C.2.2.2.2.2.2.2.2.1 | apply C.2.2.2.2.2.2.2.2.2.1 | apply C.2.2.2.2.2.2.2.2.2.2.1 | apply C.2.2.2.2.2.2.2.2.2.2.2.1 | apply C.2.2 | apply C.2.2.2 | apply C.2.2.2.2 | apply C.2.2.2.2.2 | apply C.2.2.2.2.2.2 | apply C.2.2.2.2.2.2.2 | apply C.2.2.2.2.2.2.2.2 | apply C.2.2.2.2.2.2.2.2.2 | apply C.2.2.2.2.2.2.2.2.2.2 | apply C.2.2.2.2.2.2.2.2.2.2.2)⟩ ?_ | refine X_callM ?_ (callM_mk rfl rfl (by rw [hP]; first | assumption | apply C | apply C.1 | apply C.2 | apply C.2.1 | apply C.2.2.1 | apply C.2.2.2.1 | apply C.2.2.2.2.1 | apply C.2.2.2.2.2.1 | apply C.2.2.2.2.2.2.1 | apply C.2.2.2.2.2.2.2.1 | apply C.2.2.2.2.2.2.2.2.1 | apply C.2.2.2.2.2.2.2.2.2.1 | apply C.2.2.2.2.2.2.2.2.2.2.1 | apply C.2.2.2.2.2.2.2.2.2.2.2.1 | apply C.2.2 | apply C.2.2.2 | apply C.2.2.2.2 | apply C.2.2.2.2.2 | apply C.2.2.2.2.2.2 | apply C.2.2.2.2.2.2.2 | apply C.2.2.2.2.2.2.2.2 | apply C.2.2.2.2.2.2.2.2.2 | apply C.2.2.2.2.2.2.2.2.2.2 | apply C.2.2.2.2.2.2.2.2.2.2.2) (by simp [lo]) (by simp) (by simp [AS.nr, AV.has, AC.has, AC.has.hasL, AO.nr, lo, DV.av] <;> assumption)) ?_ | apply X_q | apply X_st | apply X_n | apply X_s | apply SKs0 | apply SKs2 | apply SKs1 | refine ⟨⟨rfl, rfl⟩, ?_⟩ | refine ⟨⟨rfl, ?_⟩, ?_⟩ | refine ⟨?_, ?_⟩ | (· (try simp only [go_sem, seval, reduceIte, ↓reduceIte, Bool.not_eq_true, reduceCtorEq, beq_false, beq_true, hn, hP, Int.lt_irrefl, Int.le_refl, Nat.lt_irrefl, Nat.le_refl, List.length_set, Int.toNat_one, Int.toNat_zero, F]); first | done | rfl)))) | ((first | apply T_sdF fw (by rw [hP]; rfl) (by decide +kernel) | apply T_drF fw (by rw [hP]; rfl) (by decide +kernel)); · ((try simp only [TOps.flat, List.cons_append, List.nil_append]); repeat (first | apply Y_g0 | apply Y_g | apply Y_skip | apply Y_q | refine Y_call ⟨_, _, _, _, _, _, rfl, rfl, rfl, by rw [hP]; first | assumption | apply C | apply C.1 | apply C.2 | apply C.2.1 | apply C.2.2.1 | apply C.2.2.2.1 | apply C.2.2.2.2.1 | apply C.2.2.2.2.2.1 | apply C.2.2.2.2.2.2.1 | apply C.2.2.2.2.2.2.2.1 | apply C.2.2.2.2.2.2.2.2.1 | apply C.2.2.2.2.2.2.2.2.2.1 | apply C.2.2.2.2.2.2.2.2.2.2.1 | apply C.2.2.2.2.2.2.2.2.2.2.2.1 | apply C.2.2 | apply C.2.2.2 | apply C.2.2.2.2 | apply C.2.2.2.2.2 | apply C.2.2.2.2.2.2 | apply C.2.2.2.2.2.2.2 | apply C.2.2.2.2.2.2.2.2 | apply C.2.2.2.2.2.2.2.2.2 | apply C.2.2.2.2.2.2.2.2.2.2 | apply C.2.2.2.2.2.2.2.2.2.2.2⟩ ?_ ?_ | refine RunF_nil (P := G.P) ?_ | (· (try simp only [go_sem, seval, reduceIte, ↓reduceIte, Bool.not_eq_true, reduceCtorEq, beq_false, beq_true, hn, hP, Int.lt_irrefl, Int.le_refl, Nat.lt_irrefl, Nat.le_refl, List.length_set, Int.toNat_one, Int.toNat_zero, F]); first | done | rfl)))) | ((first | apply T_sd fw (by rw [hP]; rfl) | apply T_dr fw (by rw [hP]; rfl)); · ((try simp only [go_sem, seval, reduceIte, ↓reduceIte, bne, beq_false, beq_true, Bool.not_eq_true, Bool.if_true_right, decide_not, reduceCtorEq, hP, Int.lt_irrefl, Int.le_refl, Nat.lt_irrefl, Nat.le_refl, List.length_set, Int.toNat_one, Int.toNat_zero, F]); (repeat ((first | (refine ⟨_, ⟨_, _, _, _, _, _, rfl, rfl, rfl, (by first | assumption | apply C | apply C.1 | apply C.2 | apply C.2.1 | apply C.2.2.1 | apply C.2.2.2.1 | apply C.2.2.2.2.1 | apply C.2.2.2.2.2.1 | apply C.2.2.2.2.2.2.1 | apply C.2.2.2.2.2.2.2.1 | apply C.2.2.2.2.2.2.2.2.1 | apply C.2.2.2.2.2.2.2.2.2.1 | apply C.2.2.2.2.2.2.2.2.2.2.1 | apply C.2.2.2.2.2.2.2.2.2.2.2.1 | apply C.2.2 | apply C.2.2.2 | apply C.2.2.2.2 | apply C.2.2.2.2.2 | apply C.2.2.2.2.2.2 | apply C.2.2.2.2.2.2.2 | apply C.2.2.2.2.2.2.2.2 | apply C.2.2.2.2.2.2.2.2.2 | apply C.2.2.2.2.2.2.2.2.2.2 | apply C.2.2.2.2.2.2.2.2.2.2.2)⟩, ?_⟩)); (try simp only [go_sem, seval, reduceIte, ↓reduceIte, bne, beq_false, beq_true, Bool.not_eq_true, Bool.if_true_right, decide_not, reduceCtorEq, hP, Int.lt_irrefl, Int.le_refl, Nat.lt_irrefl, Nat.le_refl, List.length_set, Int.toNat_one, Int.toNat_zero, F]))); (first | done | exact rfl))) | apply T_seq | apply T_block | refine T_scopeJ 0 rfl ?_ | apply T_scope | apply T_goto | apply T_ret | apply T_skip | apply T_exit | apply T_label | refine T_condT rfl ?_ | refine T_condF rfl ?_)
  exact k.of) : P := h F C ⟨k⟩
end Go.AM

