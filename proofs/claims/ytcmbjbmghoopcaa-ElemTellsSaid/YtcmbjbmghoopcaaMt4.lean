import Derived.Test.YtcmbjbmghoopcaaMt3
import Derived.Lib.Mul64
set_option linter.unusedVariables false
set_option linter.unusedSimpArgs false
namespace Go.AM
open Go.RowKit (Below)

theorem obj_not {M A : Nat → Prop} {τ : Tau} {w : World} {t b : Nat} {o : AO} {x : Obj} (h : ORel M A τ w t o) (hn : o ≠ .none) (hb : τ t = some b) (hx : w.heap[b]? = some x) : (∃ cs e, x = .cells cs e (0, 0)) ∨ ∃ ces c, x = .map ces c := by
  cases o with
  | none => exact absurd rfl hn
  | cells m cs =>
    obtain ⟨b', xs, e, h1, h2, _⟩ := h
    rw [hb] at h1; cases h1; rw [hx] at h2; cases h2
    exact .inl ⟨_, _, rfl⟩
  | arr m s rows =>
    obtain ⟨_, _, ⟨h1, _⟩ | ⟨b', xs, e, h1, h2, _⟩⟩ := h
    · rw [hb] at h1; cases h1
    · rw [hb] at h1; cases h1; rw [hx] at h2; cases h2
      exact .inl ⟨_, _, rfl⟩
  | map m es =>
    obtain ⟨b', ces, c, h1, h2, _⟩ := h
    rw [hb] at h1; cases h1; rw [hx] at h2; cases h2
    exact .inr ⟨_, _, rfl⟩
theorem ow_not {M A : Nat → Prop} {τ : Tau} {w : World} {σ : Sto} {l : Nat} {x : Obj} (h : ∀ t, ORel M A τ w t (lo σ t)) (hx : w.heap[l]? = some x) (h1 : ∀ cs e, x ≠ .cells cs e (0, 0)) (h2 : ∀ ces c, x ≠ .map ces c) : ¬ owOf σ τ l := by
  rintro ⟨t, hm, hb⟩
  rcases obj_not (h t) (fun e => by rw [e] at hm; cases hm) hb hx with ⟨cs, e, rfl⟩ | ⟨ces, c, rfl⟩
  · exact h1 _ _ rfl
  · exact h2 _ _ rfl
theorem WStep.loop {w : World} {l : Nat} {R R' : Loop} (h : w.heap[l]? = some (.loop R)) : WStep (· = l) w (w.putObj l (.loop R')) := by
  refine ⟨rfl, rfl, rfl, by simp [World.putObj], fun b _ hb => World.putObj_heap_other hb, fun b cs e hb => ⟨cs, ?_, rfl⟩⟩
  rw [World.putObj_heap_other (fun e' => by subst e'; rw [h] at hb; cases hb)]
  exact hb
theorem KeepD.loop {w : World} {l : Nat} {R R' : Loop} (h : w.heap[l]? = some (.loop R)) : KeepD w (w.putObj l (.loop R')) := fun b ds hb => by
  rw [World.putObj_heap_other (fun e' => by subst e'; rw [h] at hb; cases hb)]; exact hb
section
variable {G : Ground} {F : Fence} {n : Nat} {Q : Exit → AS → Prop} {s : AS}
theorem T_steps (hF : FOk F) {t : TOps} {k ids : List Nat} {S : AS} (h : Steps G.P G t.flat s S) (hq : Q .normal S) : T G F n (.region none t k ids) Q s := by
  refine ⟨fun code hc => ?_⟩
  intro hok a w hs
  obtain ⟨id, ops, l, rfl, hz, hfl⟩ := inv_region hc
  have hl := flatT_inj hfl
  subst hl
  refine wpIn_region ?_
  have := steps_ops (F := F) (n := n) (Q := fun e a w => ∃ s', Q e s' ∧ SimS G s' a w) hF h 0 ops.toList hz (fun i o hi => by simpa using hi) (fun a w hs' => ⟨_, hq, hs'⟩) a w hs
  rw [compR_len hz] at this
  simpa [List.range_eq_range'] using this
theorem Steps.q {d : Option Nat} {q : QOp} {v : AV} {l : List FOp} {S : AS} (hd : ∀ t, d = some t → t < G.nt) (h : evQ q s.env s.σ = some v) (t : Steps G.P G l (putd d v s) S) : Steps G.P G (⟨d, none, .q q⟩ :: l) s S :=
  .cons (.run rfl hd (.q h)) t
theorem SimAt.reput {a : Act} {w : World} {A : Nat → Prop} {τ : Tau} {l : Nat} {R R' : Loop} (h : SimAt G s a w A τ) (hl : l < G.N) (hno : ¬ G.ow l) (hA : ¬ A l) (ho : w.heap[l]? = some (.loop R)) :
    SimAt { G with w0 := G.w0.putObj l (.loop R') } s a (w.putObj l (.loop R')) A τ := by
  have hw := WStep.loop (R' := R') ho
  have hst : Still A w (w.putObj l (.loop R')) := hw.still h.alt (fun b hb e => hA (e ▸ hb))
  have hN : ({ G with w0 := G.w0.putObj l (.loop R') } : Ground).N = G.N := by simp [Ground.N, World.putObj]
  have hM : ∀ b, G.M b → ({ G with w0 := G.w0.putObj l (.loop R') } : Ground).M b := fun b hb => hb.imp (fun h => by rw [hN]; exact h) id
  have hMe : ({ G with w0 := G.w0.putObj l (.loop R') } : Ground).M = G.M := by
    funext b; simp only [Ground.M, hN]
  refine ⟨⟨h.below.os, h.below.tape, h.below.output, ?_, fun k hk hn => ?_⟩, h.a0, fun b hb => (h.a1 b hb).imp id (hM b), fun b hb => Nat.lt_of_lt_of_le (h.alt b hb) hw.size, h.size, fun i => (h.env i).step hw (fun _ hb => hb) hst (fun _ _ => rfl),
    fun t => ?_, h.sep, h.ex.mono fun _ _ hv => hv.step hw (fun _ hb => hb) hst (fun _ _ => rfl), ?_⟩
  · rw [hN]; exact Nat.le_trans h.below.size hw.size
  · rw [hN] at hk
    show (w.putObj l (.loop R')).heap[k]? = (G.w0.putObj l (.loop R')).heap[k]?
    by_cases hkl : k = l
    · subst hkl
      rw [World.putObj_heap_same (heap_lt ho), World.putObj_heap_same hk]
    · rw [World.putObj_heap_other hkl, World.putObj_heap_other hkl]
      exact h.below.block k hk hn
  · rw [hMe]
    refine (h.obj t).step hw (fun _ hb => hb) hst (fun _ hb => .inl hb) (fun b hne hb hlt => hw.same b hlt fun e => ?_) rfl (fun _ _ => rfl)
    subst e
    rcases obj_not (h.obj t) hne hb ho with ⟨_, _, h⟩ | ⟨_, _, h⟩ <;> cases h
  · rw [hN]
    exact h.marks.step (KeepD.loop ho) (fun _ hb => .inl hb)
def putE : List Nat → List AV → Env → Env
  | p :: ps, v :: vs, e => putE ps vs ((p, v) :: e)
  | _, _, e => e
theorem put_rel {A : Nat → Prop} {τ : Tau} {w : World} : ∀ {ps : List Nat} {vs : List AV} {xs : List Value} {e : Env} {tmps : Array Value}, All2 (VRel A τ w) vs xs → (∀ i, VRel A τ w (lk e i) (tmps.getD i undef)) → ps.all (· < tmps.size) = true →
    (∀ i, VRel A τ w (lk (putE ps vs e) i) (((ps.zip xs).foldl (fun t (p, v) => t.setIfInBounds p v) tmps).getD i undef)) ∧ ((ps.zip xs).foldl (fun t (p, v) => t.setIfInBounds p v) tmps).size = tmps.size
  | [], _, _, e, tmps, _, h, _ => ⟨by simpa [putE] using h, by simp⟩
  | p :: ps, _, _, e, tmps, .nil, h, _ => ⟨by simpa [putE] using h, by simp⟩
  | p :: ps, _, _, e, tmps, .cons (a := v) (b := x) hv ht, h, hp => by
    simp only [List.all_cons, Bool.and_eq_true, decide_eq_true_eq] at hp
    have := put_rel (ps := ps) (e := (p, v) :: e) (tmps := tmps.setIfInBounds p x) ht (fun i => by
      rw [lk_put]
      by_cases hi : i = p
      · subst hi
        rw [if_pos rfl]
        have : (tmps.setIfInBounds i x).getD i undef = x := by simp [Array.getD_eq_getD_getElem?, hp.1]
        rw [this]; exact hv
      · rw [if_neg hi]
        have : (tmps.setIfInBounds p x).getD i undef = tmps.getD i undef := by
          simp [Array.getD_eq_getD_getElem?, Array.getElem?_setIfInBounds_ne (Ne.symm hi)]
        rw [this]; exact h i) (by simpa using hp.2)
    simpa [putE] using this
structure AsgEnd (K : AS → Prop) (e : Exit) (s : AS) : Prop where
  norm : e = .normal
  k : K s
structure RoundEnd (σ' : Sto) (ex : List AV) (e : Exit) (s : AS) : Prop where
  norm : e = .normal
  sto : ∀ p ∈ σ', lo s.σ p.1 = p.2
  ex : s.ex = ex
structure Fam (σ : Nat → Sto) (fr : List Nat) : Prop where
  once : ∀ k, ∀ p ∈ σ k, lo (σ k) p.1 = p.2
  keys : ∀ k t, lo (σ k) t ≠ .none → t ∈ (σ (k + 1)).map (·.1)
  out : ∀ k d, d ∈ fr → lo (σ k) d = .none ∨ d ∈ (σ (k + 1)).map (·.1)
  obj : ∀ k t d, d ∈ fr → t ∉ (σ (k + 1)).map (·.1) → (lo (σ k) t).nr d = true
structure SeqC (P : Program) (f : FuncId) (caps : List PV) (xs : List (List DV)) : Prop where
  enters : ∀ args w, (callFunc f args).run P w = .ok (.enter f args) w
  calls : ∀ (R : Loop) (l : Nat) (σ : Nat → Sto) (fr : List Nat) (cA : List AV) (cV : List Value),
    (∀ k x, xs[k]? = some x → YieldC P R l (x.map DV.av) (σ k) (σ (k + 1)) fr cA cV) → Fam σ fr →
    ∀ (A : Nat → Prop) (τ : Tau) (w : World) (vb : List Value) (ex : List AV) (exs : List Value), (∀ b, A b → b < w.heap.size) → PRels A w caps vb → All2 (VRel A τ w) (cA ++ ex) (cV ++ exs) →
    (∀ d ∈ fr, ∀ v ∈ cA ++ ex, v.has d = false) → (∀ t, ORel (fun _ => True) A τ w t (lo (σ 0) t)) → SepS (σ 0) τ → w.heap[l]? = some (.loop R) → ¬ A l →
    Calls P f ⟨Value.func (.yield l) #[] #[] :: vb⟩ w fun e w' => ∃ x A' τ', e = .returned x ∧ Frame A (owOf (σ 0) τ) w w' A' ∧ (∀ t, ORel (fun b => w.heap.size ≤ b ∨ owOf (σ 0) τ b) A' τ' w' t (lo (σ xs.length) t)) ∧
      SepS (σ xs.length) τ' ∧ All2 (VRel A' τ' w') (cA ++ ex) (cV ++ exs)
theorem inv_range {P : Program} {code : Code} {f : Opd} {ps : List Nat} {x y : ACode} (h : compC P code = some (.range f ps x y)) :
    ∃ fo pa cx cy, code = .rangeFunc fo pa cx cy ∧ opd fo = some f ∧ pa.toList = ps ∧ compC P cx = some x ∧ compC P cy = some y := by
  cases code <;> simp [compC, Option.bind_eq_some_iff, Option.map_eq_some_iff] at h
  obtain ⟨f', h1, x', h2, y', h3, rfl, rfl, rfl, rfl⟩ := h
  exact ⟨_, _, _, _, rfl, h1, rfl, h2, h3⟩
theorem yield_of {a : Act} {fn : FuncId} {pa : Array Tmp} {ps : List Nat} {cx cy : Code} {x y : ACode} {D : Nat} {l : Nat} {vs : List AV} {σ σ' : Sto} {fr : List Nat} {env : Env} {P : Program} {nt : Nat}
    (hpa : pa.toList = ps) (hps : ps.all (· < nt) = true) (hlen : vs.length = ps.length) (hcx : compC P cx = some x.erase) (hcy : compC P cy = some y.erase) (hokx : x.ok nt = true) (hoky : y.ok nt = true) (hnt : a.tmps.size = nt)
    (round : ∀ (F : Fence) (n : Nat) (G' G'' : Ground) (ex : List AV), FOk F → G'.P = P → G'.nt = nt → G''.P = P → G''.nt = nt → (∀ d ∈ fr, ex.all (fun v => !v.has d) = true) →
      T G' F n x (AsgEnd fun s1 => T G'' F n y (RoundEnd σ' ex) s1) { env := putE ps vs env, σ := σ, ex := ex }) :
    YieldC P { state := .ready, pending := none, fn := fn, tmps := a.tmps, params := pa, assign := cx, body := cy, defers := D } l vs σ σ' fr (env.map fun p => lk env p.1) (env.map fun p => a.tmps.getD p.1 undef) := by
  intro F n A τ w xs ex exs hF hA hx he hfr ho hs hl hAl
  have hF' : FOk (F.inRound l) := by
    rcases hF with rfl | ⟨l', rfl⟩
    · exact .inr ⟨l, rfl⟩
    · exact .inr ⟨l, rfl⟩
  have hxl := hx.length
  have hpl : pa.size = ps.length := by rw [← hpa]; simp
  refine ⟨fn, _, cx, cy, run_yield hl (by simp; omega), roundIn_of_wpIn (hF.fn fn) ?_⟩
  generalize hRd : ({ state := .ready, pending := none, fn := fn, tmps := a.tmps, params := pa, assign := cx, body := cy, defers := D } : Loop) = R at hl
  have hRs : R.state = .ready := by rw [← hRd]
  have hRp : R.pending = none := by rw [← hRd]
  have htm : (pa.zip ⟨xs⟩).foldl (fun tmps (t, a) => tmps.setIfInBounds t a) a.tmps = (ps.zip xs).foldl (fun t (p, v) => t.setIfInBounds p v) a.tmps := by
    rw [← hpa, ← Array.foldl_toList]
    simp
  have henv : ∀ i, VRel A τ w (lk env i) (a.tmps.getD i undef) := by
    intro i
    by_cases hi : i ∈ env.map (·.1)
    · obtain ⟨p, hp, rfl⟩ := List.mem_map.1 hi
      have : All2 (VRel A τ w) (env.map fun p => lk env p.1) (env.map fun p => a.tmps.getD p.1 undef) := by
        have h2 : ∀ {α β : Type} {R : α → β → Prop} {az az' : List α} {b1 b2 : List β}, All2 R (az ++ az') (b1 ++ b2) → az.length = b1.length → All2 R az b1 := by
          intro α β R az
          induction az with
          | nil => intro az' b1 b2 _ hl; cases b1 with | nil => exact .nil | cons => simp at hl
          | cons a az ih =>
            intro az' b1 b2 h hl
            cases b1 with
            | nil => simp at hl
            | cons b b1 => cases h with | cons h t => exact .cons h (ih t (by simpa using hl))
        exact h2 he (by simp)
      exact All2.map_inv this p hp
    · rw [lk_none hi]; exact .v1 (.top _)
  have hput := put_rel (ps := ps) hx henv (by rw [hnt]; exact hps)
  let G : Ground := { P := P, w0 := w, A0 := A, nt := nt, exv := (env.map fun p => a.tmps.getD p.1 undef) ++ exs, ow := owOf σ τ }
  have hno : ¬ G.ow l := ow_not ho hl (fun _ _ h => by cases h) (fun _ _ h => by cases h)
  have hlN : l < G.N := heap_lt hl
  have hs0 : SimAt G { env := putE ps vs env, σ := σ, ex := (env.map fun p => lk env p.1) ++ ex } { tmps := (ps.zip xs).foldl (fun t (p, v) => t.setIfInBounds p v) a.tmps, defers := [] } w A τ := by
    refine ⟨⟨rfl, rfl, rfl, Nat.le_refl _, fun _ _ _ => rfl⟩, fun _ hb => hb, fun _ hb => .inl hb, hA, by rw [hput.2]; exact hnt, hput.1, fun t => ?_, hs, he, trivial⟩
    exact (ho t).monoM fun b hm hb _ => .inr ⟨t, hm, hb⟩
  let G2 : Ground := { G with w0 := G.w0.putObj l (.loop { R with state := .busy }) }
  have hr := round (F.inRound l) n G G2 ((env.map fun p => lk env p.1) ++ ex) hF' rfl rfl rfl rfl (fun d hd => by
    rw [List.all_eq_true]; intro v hv; simp [hfr d hd v hv])
  have ht : ({ tmps := (R.params.zip ⟨xs⟩).foldl (fun tmps (t, a) => tmps.setIfInBounds t a) R.tmps, defers := [] } : Act) = { tmps := (ps.zip xs).foldl (fun t (p, v) => t.setIfInBounds p v) a.tmps, defers := [] } := by
    rw [show R.params = pa from by rw [← hRd], show R.tmps = a.tmps from by rw [← hRd], htm]
  rw [ht]
  have notA : ∀ {G : Ground} {s : AS} {a : Act} {w : World} {A1 : Nat → Prop} {τ1 : Tau}, SimAt G s a w A1 τ1 → l < G.N → ¬ G.ow l → ¬ G.A0 l → ¬ A1 l := by
    intro G s a w A1 τ1 hs h1 h2 h3 h
    rcases hs.a1 l h with h4 | h4 | h4
    · exact h3 h4
    · omega
    · exact h2 h4
  refine wpIn_mono (hr.of cx hcx hokx _ _ ⟨A, τ, hs0⟩) ?_
  rintro e a1 w1 ⟨s1, ⟨rfl, hbody⟩, A1, τ1, hs1⟩
  have hl1 : w1.heap[l]? = some (.loop R) := (hs1.below.block l hlN hno).trans hl
  have hA1 := notA hs1 hlN hno hAl
  refine ⟨_, run_beginRound hl1 hRs, ?_⟩
  have hs2 := hs1.reput (R' := { R with state := .busy }) hlN hno hA1 hl1
  refine wpIn_mono (hbody.of cy hcy hoky _ _ ⟨A1, τ1, hs2⟩) ?_
  rintro e a3 w3 ⟨s3, ⟨rfl, hsto, hex3⟩, A3, τ3, hs3⟩
  have hN2 : G2.N = G.N := by simp [G2, Ground.N, World.putObj]
  have hl2 : G2.w0.heap[l]? = some (.loop { R with state := .busy }) := World.putObj_heap_same hlN
  have hl3 : w3.heap[l]? = some (.loop { R with state := .busy }) := (hs3.below.block l (by rw [hN2]; exact hlN) hno).trans hl2
  have hA3 := notA hs3 (by rw [hN2]; exact hlN) hno hAl
  have hs4 := hs3.reput (R' := R) (by rw [hN2]; exact hlN) hno hA3 hl3
  have hend := run_endRound (P := P) none hl3
  have hRR : ({ ({ R with state := .busy } : Loop) with state := if (none : Option Code).isNone then .ready else .done, pending := none } : Loop) = R := by
    cases R; simp only at hRs hRp; subst hRs hRp; rfl
  rw [hRR] at hend
  refine ⟨_, _, hend, .bool true, A3, τ3, rfl, ?_, fun t => ?_, ?_, .v1 (.one (.c0 (.p _ _ (.bool true)))), ?_⟩
  · have hsz : w.heap.size ≤ (w3.putObj l (.loop R)).heap.size := by
      have := hs4.below.size
      simpa [Ground.N, G2, G, World.putObj] using this
    refine ⟨hs4.below.os, hs4.below.tape, hs4.below.output, hsz, fun k hk hn => ?_, hs3.a0, fun b hb => ?_, hs4.alt⟩
    · have := hs4.below.block k (by simpa [Ground.N, G2, G, World.putObj] using hk) hn
      rw [this]
      show ((w.putObj l (.loop { R with state := .busy })).putObj l (.loop R)).heap[k]? = w.heap[k]?
      by_cases hkl : k = l
      · rw [hkl, World.putObj_heap_same (by simpa [World.putObj, Ground.N, G] using hlN), hl]
      · rw [World.putObj_heap_other hkl, World.putObj_heap_other hkl]
    · rcases hs3.a1 b hb with h | h | h
      · exact .inl h
      · rw [hN2] at h; exact .inr (.inr h)
      · exact .inr (.inl h)
  · have hobj := hs4.obj t
    rcases lo_of_mem hsto t with e1 | e1
    · rw [e1]
      refine hobj.monoM fun b _ _ hb => hb.imp (fun h => ?_) id
      simpa [Ground.N, G2, G, World.putObj] using h
    · rw [e1]; trivial
  · intro t t' b n1 n2 hne hmu hb
    rcases lo_of_mem hsto t with e1 | e1
    · rcases lo_of_mem hsto t' with e2 | e2
      · rw [e1] at n1 hmu; rw [e2] at n2
        exact hs4.sep t t' b n1 n2 hne hmu hb
      · exact absurd e2 n2
    · exact absurd e1 n1
  · have := hs4.ex
    rw [hex3] at this
    exact this
theorem T_range {f : Opd} {ps : List Nat} {x y : ACode} {id : FuncId} {caps : List PV} {xs : List (List DV)} (hf : get s.env f = .one (.p (.fn id [] caps))) (hseq : SeqC G.P id caps xs) (σ : Nat → Sto) (fr : List Nat)
    (hps : ps.all (· < G.nt) = true) (hlen : ∀ x ∈ xs, x.length = ps.length) (h0 : ∀ t, lo (σ 0) t = lo s.σ t ∨ lo (σ 0) t = .none) (fam : Fam σ fr) (hk : ∀ t, lo (σ 0) t ≠ .none → t ∈ (σ xs.length).map (·.1)) (hfr : ∀ d ∈ fr, FrOk s (σ xs.length) d)
    (round : ∀ k v, xs[k]? = some v → ∀ (F : Fence) (n : Nat) (G' G'' : Ground) (ex : List AV), FOk F → G'.P = G.P → G'.nt = G.nt → G''.P = G.P → G''.nt = G.nt → (∀ d ∈ fr, ex.all (fun v => !v.has d) = true) →
      T G' F n x (AsgEnd fun s1 => T G'' F n y (RoundEnd (σ (k + 1)) ex) s1) { env := putE ps (v.map DV.av) s.env, σ := σ k, ex := ex })
    (done : Q .normal { s with σ := σ xs.length ++ s.σ }) : T G Fence.wide n (.range f ps x y) Q s := by
  refine ⟨fun code hc => ?_⟩
  intro hok a w hs
  obtain ⟨fo, pa, cx, cy, rfl, hfo, hpa, hcx, hcy⟩ := inv_range hc
  simp only [ACode.ok, Bool.and_eq_true] at hok
  obtain ⟨A, τ, hs⟩ := hs
  have hfv := opd_sound hs hfo
  rw [hf] at hfv
  have hfv := p_inv hfv
  generalize hz : a.eval fo = z at hfv
  cases hfv with
  | fn _ _ _ vf vc hp1 hp2 =>
  cases hp1
  refine wpIn_rangeFunc fun fn _ => ?_
  obtain ⟨R, hR⟩ : ∃ R : Loop, R = { state := .ready, pending := none, fn := fn, tmps := a.tmps, params := pa, assign := cx, body := cy, defers := w.heap.size } := ⟨_, rfl⟩
  obtain ⟨w1, hw1⟩ : ∃ w1, w1 = (w.alloc (.deferred (some []))).alloc (.loop R) := ⟨_, rfl⟩
  have ws : WStep (fun _ => False) w w1 := by
    rw [hw1]
    exact ((WStep.push w _).trans (WStep.push _ _)).weak fun _ h => h.elim (fun h => h) (fun h => h)
  have hs1 : SimAt G s a w1 A τ := hs.world ws (fun _ hb => hb) (fun _ hb => .inl hb) (fun _ hf => hf.elim) (fun _ _ _ _ hf => hf) ws.dfr0
  have hl : w1.heap[w.heap.size + 1]? = some (.loop R) := by
    rw [hw1]; have := World.alloc_heap_new (w.alloc (.deferred (some []))) (.loop R); rwa [World.size_alloc] at this
  have hD : w1.heap[w.heap.size]? = some (.deferred (some [])) := by
    rw [hw1]; exact (Below.heap_alloc _ _ _ (by simp)).trans (World.alloc_heap_new w _)
  have hAl : ¬ A (w.heap.size + 1) := fun h => by have := hs.alt _ h; omega
  have hAD : ¬ A w.heap.size := fun h => by have := hs.alt _ h; omega
  have hrun := callC_run (C := fun R' => Calls G.P id ⟨Value.func (.yield (w.heap.size + 1)) #[] #[] :: vc⟩ w1 R') (r := .top) (fr := fr) (σ0 := σ 0) (σ1 := σ xs.length) (fun h k => h.mono k)
    (fun ex exs h1 h2 h3 h4 => by
      have r1 : All2 (VRel A τ w1) (s.env.map fun p => lk s.env p.1) (s.env.map fun p => a.tmps.getD p.1 undef) := All2.map fun p _ => hs1.env p.1
      have := hseq.calls R (w.heap.size + 1) σ fr _ _ (fun k v hv => by
          rw [hR]
          exact yield_of (a := a) (fn := fn) (cx := cx) (cy := cy) (D := w.heap.size) hpa hps (by simpa using hlen v (List.mem_of_getElem? hv)) hcx hcy hok.1 hok.2 hs.size (round k v hv)) fam
        A τ w1 vc (s.ex ++ ex) (G.exv ++ exs) hs1.alt (hp2.mono (fun _ hb => hb) (ws.still hs.alt fun _ _ h => h)) (r1.append h1) (fun d hd v hv => by
          rcases List.mem_append.1 hv with hv | hv
          · obtain ⟨p, _, rfl⟩ := List.mem_map.1 hv
            exact (hfr d hd).env p.1
          · exact h2 d hd v hv) h3 h4 hl hAl
      refine this.mono ?_
      rintro e w' ⟨x, A', τ', rfl, q1, q2, q3, q4⟩
      exact ⟨x, A', τ', rfl, q1, q2, q3, .v1 (.top _), (q4.split2 r1).2⟩)
    hs1 h0 hk hfr
  refine ⟨w.heap.size + 1, [{ target := .collected w.heap.size, args := #[] }], w1, { target := .fn (.func id) ⟨vc⟩, args := #[.func (.yield (w.heap.size + 1)) #[] #[]] }, w1, id,
    ⟨Value.func (.yield (w.heap.size + 1)) #[] #[] :: vc⟩, w1, ?_, ?_, ?_, ?_, (fun h => by cases h), ?_⟩
  · rw [hw1, hR]; exact run_enterLoop_outer _ _ _ _ _
  · simp only [resolve, hz]
    simp [go_sem]
  · intro f' hf'; trivial
  · simp only [invoke, hseq.enters]
    congr 2
    apply Array.ext'; simp
  · refine callsIn_wide.2 (hrun.mono ?_)
    rintro e w2 ⟨v, A2, τ2, rfl, fr2, hs2, _⟩
    have hob : ∀ t, ORel (fun _ => True) A τ w1 t (lo (σ 0) t) := fun t => by
      rcases h0 t with h | h
      · rw [h]; exact (hs1.obj t).monoM fun _ _ _ _ => trivial
      · rw [h]; trivial
    have hol : ¬ owOf (σ 0) τ (w.heap.size + 1) := ow_not hob hl (fun _ _ h => by cases h) (fun _ _ h => by cases h)
    have hoD : ¬ owOf (σ 0) τ w.heap.size := ow_not hob hD (fun _ _ h => by cases h) (fun _ _ h => by cases h)
    have hl2 : w2.heap[w.heap.size + 1]? = some (.loop R) := (fr2.block _ (heap_lt hl) hol).trans hl
    have hD2 : w2.heap[w.heap.size]? = some (.deferred (some [])) := (fr2.block _ (heap_lt hD) hoD).trans hD
    have hA2l : ¬ A2 (w.heap.size + 1) := fun h => by
      rcases fr2.new _ h with h | h | h
      · exact hAl h
      · exact hol h
      · have := heap_lt hl; omega
    have hA2D : ¬ A2 w.heap.size := fun h => by
      rcases fr2.new _ h with h | h | h
      · exact hAD h
      · exact hoD h
      · have := heap_lt hD; omega
    have hN : G.N ≤ w.heap.size := hs.below.size
    have hend := run_endLoop (P := G.P) hl2 (by rw [hR]; simp)
    have hpend : R.pending = none := by rw [hR]
    refine ⟨none, _, hend.trans (congrArg (fun j => Result.ok j _) hpend), _, done, A2, τ2, ?_⟩
    have hs3 := hs2.world (WStep.loop (R' := { R with state := .exhausted }) hl2) (fun _ hb => hb) (fun _ hb => .inl hb) (fun b hb => by subst hb; exact ⟨hA2l, .inl (by omega)⟩) (fun t b hne hb e => by
      subst e
      rcases obj_not (hs2.obj t) hne hb hl2 with ⟨_, _, h⟩ | ⟨_, _, h⟩ <;> cases h) (KeepD.loop hl2)
    refine ⟨hs3.below, hs3.a0, hs3.a1, hs3.alt, hs3.size, hs3.env, hs3.obj, hs3.sep, hs3.ex, ?_⟩
    show Marks G.N A2 _ ({ target := .collected w.heap.size, args := #[] } :: a.defers)
    refine ⟨⟨w.heap.size, rfl, hN, hA2D, ?_, fun hm => ?_⟩, hs3.marks⟩
    · rw [World.putObj_heap_other (by omega)]; exact hD2
    · have key : ∀ {ds : List Deferred}, Marks G.N A w ds → ({ target := .collected w.heap.size, args := #[] } : Deferred) ∉ ds := by
        intro ds
        induction ds with
        | nil => intro _ h; cases h
        | cons d ds ih =>
          rintro ⟨⟨r, rfl, _, _, h4, _⟩, ht⟩ h
          rcases List.mem_cons.1 h with h | h
          · simp at h
            have := heap_lt h4; omega
          · exact ih ht h
      exact key hs.marks hm
theorem yStep {f : Opd} {az : List Opd} {R : Loop} {l : Nat} {σ : Nat → Sto} {fr : List Nat} {k : Nat} {vs : List AV} {env : Env} {ex : List AV} (fam : Fam σ fr) (hr : G.w0.heap[l]? = some (.loop R)) (hno : ¬ G.ow l) (hA : ¬ G.A0 l)
    (hy : YieldC G.P R l vs (σ k) (σ (k + 1)) fr ex G.exv) (hex : ∀ d ∈ fr, ∀ v ∈ ex, v.has d = false) (hg : get env f = .one (.raw (.func (.yield l) #[] #[]))) (hv : gets env az = vs) (henv : ∀ d i, (lk env i).has d = false) :
    YStep G f az { env := env, σ := σ k, ex := ex } (σ (k + 1)) R l (σ k) fr :=
  ⟨hg, hr, hno, hA, fun _ => .inl rfl, fam.keys k, fun d hd => ⟨henv d, hex d hd, fun t ht => fam.obj k t d hd ht, fam.out k d hd⟩, by rw [hv]; exact hy⟩
theorem Weak.drop {σ1 : Sto} {e : Env} {σ : Sto} {ex : List AV} : Weak G { env := e, σ := σ1 ++ σ, ex := ex } { env := e, σ := σ1, ex := ex } :=
  Weak.sto (s := { env := e, σ := σ1 ++ σ, ex := ex }) fun t => by
    rw [lo_app]
    split
    · exact .inl rfl
    · rename_i h; exact .inr (lo_none h)
theorem seqC_of {P : Program} {f : FuncId} {fn : Func} {c : Code} {ac : ACode} {caps : List PV} {xs : List (List DV)}
    (henter : ∀ args w, (callFunc f args).run P w = .ok (.enter f args) w) (hf : P.funcs[f]? = some fn) (hb : fn.body = some c) (hc : compC P c = some ac.erase) (hok : ac.ok fn.ntmps = true)
    (hr : compRV P fn.results.toList = some []) (hn : caps.length + 1 ≤ fn.ntmps)
    (h : ∀ (R : Loop) (l : Nat) (σ : Nat → Sto) (fr : List Nat) (G : Ground) (ex : List AV), G.P = P → G.nt = fn.ntmps → G.w0.heap[l]? = some (.loop R) → ¬ G.ow l → ¬ G.A0 l → Fam σ fr → (∀ d ∈ fr, ∀ v ∈ ex, v.has d = false) →
      (∀ k x, xs[k]? = some x → YieldC G.P R l (x.map DV.av) (σ k) (σ (k + 1)) fr ex G.exv) →
      T G Fence.wide 0 ac (fun e s => (e = .normal ∨ e = .ret) ∧ s.σ = σ xs.length ∧ s.ex = ex) { env := initV 0 (.one (.raw (.func (.yield l) #[] #[])) :: caps.map fun v => .one (.p v)), σ := σ 0, ex := ex }) : SeqC P f caps xs := by
  refine ⟨henter, fun R l σ fr cA cV hy fam A τ w vb ex exs hA hcaps hex hfr hob hsp hl hAl => ?_⟩
  have hvs : All2 (VRel A τ w) (.one (.raw (.func (.yield l) #[] #[])) :: caps.map fun v => .one (.p v)) (.func (.yield l) #[] #[] :: vb) :=
    .cons (.v1 (.one (.c0 (.raw _ rfl)))) ((PRels.all2.1 hcaps).mapL fun v x hr => .v1 (.one (.c0 (.p _ _ hr))))
  have hrun := mutW_of (r := .tup []) (σ' := σ xs.length) hf hb hc hok hr (by simpa using hn) hA hvs hex hob hsp (T_mono
    (h R l σ fr _ (cA ++ ex) rfl rfl hl (ow_not hob hl (fun _ _ h => by cases h) (fun _ _ h => by cases h)) hAl fam hfr (fun k x hx => (hy k x hx).more ex exs)) fun e s' ⟨h1, h2, h3⟩ =>
      ⟨h1, [], rfl, rfl, rfl, fun p hp => by rw [h2]; exact fam.once _ p hp, h3⟩)
  refine hrun.mono ?_
  rintro e w' ⟨x, A', τ', rfl, q1, q2, q3, _, q5⟩
  exact ⟨x, A', τ', rfl, q1, q2, q3, q5⟩
end
def AS.keepE (k : List Nat) (s : AS) : AS := { s with env := k.map fun i => (i, lk s.env i) }
section
variable {G : Ground} {F : Fence} {n : Nat} {Q : Exit → AS → Prop} {s : AS}
theorem keepE_weak (G : Ground) (k : List Nat) (s : AS) : Weak G s (s.keepE k) := by
  refine Weak.env fun i => ?_
  induction k with
  | nil => exact .inr rfl
  | cons j k ih =>
    simp only [List.map_cons, lk_put]
    by_cases h : i = j
    · left; rw [if_pos h, h]
    · rw [if_neg h]; exact ih
theorem T_regE (hF : FOk F) {t : TOps} {kp ids : List Nat} {S : AS} (h : Run G.P t (fun s' => s'.keepE kp = S) s) (k : Q .normal S) : T G F n (.region none t kp ids) Q s := by
  refine ⟨fun code hc => ?_⟩
  intro hok a w hs
  obtain ⟨id, ops, l, rfl, hz, hfl⟩ := inv_region hc
  have hl := flatT_inj hfl
  subst hl
  simp only [ACode.ok, Bool.and_eq_true] at hok
  obtain ⟨s', hst, hq⟩ := run_sound (G := G) hok.1 hok.2 h
  refine wpIn_region ?_
  have := steps_ops (F := F) (n := n) (Q := fun e a w => ∃ s', Q e s' ∧ SimS G s' a w) hF hst 0 ops.toList hz (fun i o hi => by simpa using hi) (fun a w hs' => ⟨S, k, by rw [← hq]; exact keepE_weak G kp s' a w hs'⟩) a w hs
  rw [compR_len hz] at this
  simpa [List.range_eq_range'] using this
theorem T_srE (hF : FOk F) {t : TOps} {kp ids : List Nat} {S : AS} {b : ACode} (h : Run G.P t (fun s' => s'.keepE kp = S) s) (k : T G F n b Q S) : T G F n (.seq (.region none t kp ids) b) Q s :=
  T_seq (T_regE hF h ⟨k⟩)
end
theorem lk_has {d : Nat} {e : Env} (h : e.all (fun p => !p.2.has d) = true) (i : Nat) : (lk e i).has d = false := by
  induction e with
  | nil => rfl
  | cons p e ih =>
    obtain ⟨j, v⟩ := p
    simp only [List.all_cons, Bool.and_eq_true, Bool.not_eq_true'] at h
    simp only [lk]
    split
    · exact h.1
    · exact ih (by simpa using h.2)
theorem Weak.pick {G : Ground} {s : AS} (k : List Nat) : Weak G s { s with env := k.map fun i => (i, lk s.env i) } := keepE_weak G k s
theorem Weak.nilC {G : Ground} {s : AS} (o d i k : Nat) {cs : List AC} (ho : lo s.σ o = .cells true cs) (hi : cs[i]? = some .nils) (hd : s.nr d = true) (hn : lo s.σ d = .none) :
    Weak G s { s with σ := (o, .cells true (cs.set i (.msl d 0 k 0 none))) :: (d, .arr true k []) :: s.σ } := by
  rintro a w ⟨A, τ, hs⟩
  have h1 := hs.newNone (AS.nr_Nr hd) hn true k
  have hod : o ≠ d := fun e => by rw [e, hn] at ho; cases ho
  have hlo : lo ((d, .arr true k []) :: s.σ) o = .cells true cs := by rw [lo_put, if_neg hod]; exact ho
  refine ⟨A, _, h1.below, h1.a0, h1.a1, h1.alt, h1.size, h1.env, fun t => ?_, fun t t' b n1 n2 hne hmu hb => ?_, h1.ex, h1.marks⟩
  · rw [lo_put]
    by_cases ht : t = o
    · subst ht
      rw [if_pos rfl]
      have := h1.obj t
      simp only [hlo] at this
      obtain ⟨b, xs, e, q1, q2, q3, q4⟩ := this
      refine ⟨b, xs, e, q1, q2, All2.of_get (by rw [List.length_set]; exact q3.length) fun j c x hc hx => ?_, q4⟩
      by_cases hj : j = i
      · subst hj
        rw [List.getElem?_set_self (by have := (List.getElem?_eq_some_iff.1 hi).1; exact this)] at hc
        cases hc
        obtain ⟨y, hy, hr⟩ := q3.get j _ hi
        rw [hy] at hx; cases hx
        cases hr with | c0 hr => cases hr with
          | nils => exact .c0 (.mslN d 0 k none none (if_pos rfl) (fun n hn => by cases hn))
      · rw [List.getElem?_set_ne (Ne.symm hj)] at hc
        obtain ⟨y, hy, hr⟩ := q3.get j _ hc
        rw [hy] at hx; cases hx
        exact hr
    · rw [if_neg ht]; exact h1.obj t
  · have key : ∀ t, lo ((o, .cells true (cs.set i (.msl d 0 k 0 none))) :: (d, .arr true k []) :: s.σ) t ≠ .none → lo ((d, .arr true k []) :: s.σ) t ≠ .none := by
      intro t h
      rw [lo_put] at h
      split at h
      · rename_i e; subst e; rw [hlo]; simp
      · exact h
    refine h1.sep t t' b (key t n1) (key t' n2) hne ?_ hb
    rw [lo_put] at hmu
    split at hmu
    · rename_i e; subst e; rw [hlo]; rfl
    · exact hmu
theorem FrOk.of {s : AS} {σ1 : Sto} {d : Nat} (ks : List Nat) (hks : σ1.map (·.1) = ks) (he : s.env.all (fun p => !p.2.has d) = true) (hx : s.ex.all (fun v => !v.has d) = true) (hk : s.σ.all (fun p => ks.contains p.1) = true)
    (ho : lo s.σ d = .none ∨ ks.contains d = true) : FrOk s σ1 d := by
  refine ⟨lk_has he, fun v hv => by simpa using (List.all_eq_true.1 hx) v hv, fun t ht => ?_, ?_⟩
  · have : lo s.σ t = .none := lo_none fun hc => by
      obtain ⟨p, hp, rfl⟩ := List.mem_map.1 hc
      have := (List.all_eq_true.1 hk) p hp
      rw [hks] at ht
      exact ht (by simpa using this)
    rw [this]; rfl
  · rw [hks]
    exact ho.imp id fun h => by simpa using h
theorem ends_agg2 {rv : List RV} {s : AS} {t k len : Nat} {cap : Option Nat} {m : Bool} {rows : List (List PV)} {a v : PV} (h1 : evRV rv s.env s.σ = some [.agg [.p a, .msl t 0 k len cap], .one (.p v)]) (h2 : lo s.σ t = .arr m k rows) (hl : len = rows.length) :
    Ends rv (.tup [.agg [a, .sl rows], .one v]) .ret s :=
  ends_ret (ds := [.agg [a, .sl rows], .one v]) (σ' := if m then (t, .arr false k rows) :: s.σ else s.σ) h1 (by
    have h3 : foldP (toP 6) [.p a, .msl t 0 k len cap] s.σ = some ([a, .sl rows], if m then (t, .arr false k rows) :: s.σ else s.σ) := by
      have := toD_list (n := 5) (cap := cap) h2 hl
      simp only [foldP]
      rw [show toP 6 (AC.p a) s.σ = some (a, s.σ) from rfl]
      simp only [this]
    simp only [toDs, toD, h3]; rfl) rfl rfl
end Go.AM

namespace Go.AM
open Go.RowKit (Below)

def quietOp : AOp → Bool
  | .q _ | .call _ _ => true
  | _ => false
def okT (oj oi : FOp) : Bool := (match oj.d with | some d => !oi.us.contains d && oi.d != some d | none => true) && (match oi.d with | some d => !oj.us.contains d | none => true)
def quietG : Nat → List (List Nat) → List FOp → List (Nat × FOp) → Bool
  | _, [], [], _ => true
  | i, un :: uns, o :: os, acc => quietOp o.op && acc.all (fun a => !un.contains a.1 || okT a.2 o) && quietG (i + 1) uns os ((i, o) :: acc)
  | _, _, _, _ => false
def RunF (P : Program) : List FOp → (AS → Prop) → AS → Prop
  | [], K, s => K s
  | o :: os, K, s => match gmet s.env o.g with
    | some false => RunF P os K (putd o.d .und s)
    | some true => match o.op with
      | .q q => match evQ q s.env s.σ with
        | some v => RunF P os K (putd o.d v s)
        | none => False
      | .call f xs => (gets s.env (f :: xs)).all AVp = true ∧ ∃ r, CallR P f xs s.env s.σ s.σ r ∧ RunF P os K (putd o.d r.av s)
      | _ => False
    | none => False
theorem runF_D {P : Program} {s0 : AS} {K : AS → Prop} : ∀ (os : List FOp) (uns : List (List Nat)) (i : Nat) (acc : List It) (s : AS), (∀ t ∈ acc, t.f.wr = none ∧ t.f.nw = false) →
    quietG i uns os (acc.map fun t => (t.1, t.o)) = true → RunF P os K s → RunD P s0 i uns os acc K s
  | [], [], i, acc, s, ha, hq, h => by simp only [RunF] at h; simp only [RunD]; exact h
  | [], _ :: _, i, acc, s, ha, hq, h => by simp [quietG] at hq
  | _ :: _, [], i, acc, s, ha, hq, h => by simp [quietG] at hq
  | o :: os, un :: uns, i, acc, s, ha, hq, h => by
    simp only [quietG, Bool.and_eq_true, List.all_map] at hq
    obtain ⟨⟨h1, h2⟩, h3⟩ := hq
    have pair : ∀ (v : AV) (rd : List Nat), acc.all (fun t => okPair un t (i, o, { v := v, rd := rd })) = true := by
      intro v rd
      rw [List.all_eq_true] at h2 ⊢
      intro t ht
      obtain ⟨q1, q2⟩ := ha t ht
      have := h2 t ht
      simp only [Function.comp, Bool.or_eq_true] at this
      unfold okPair
      have e1 : okN t.f ({ v := v, rd := rd } : FP) = true := rfl
      have e2 : okN ({ v := v, rd := rd } : FP) t.f = true := by unfold okN; rw [q2]; rfl
      show (okN t.f ({ v := v, rd := rd } : FP) && (!un.contains t.1 || (okN ({ v := v, rd := rd } : FP) t.f && okInd t.o t.f o { v := v, rd := rd }))) = true
      rw [e1, e2, Bool.true_and, Bool.true_and]
      rcases this with h | h
      · rw [h]; rfl
      · have : okInd t.o t.f o { v := v, rd := rd } = true := by
          unfold okT at h
          simp only [Bool.and_eq_true] at h
          have hsc : t.f.scO = none := by unfold FP.scO; rw [q1]; split <;> rfl
          unfold okInd okCl
          rw [q1, hsc]
          simp only [Bool.and_true]
          rw [show (({ v := v, rd := rd } : FP).scO) = none from rfl]
          simp only [Bool.and_true, Bool.and_eq_true]
          exact ⟨h, rfl⟩
        rw [this]; simp
    have next : ∀ (v : AV) (rd : List Nat) (s' : AS), RunF P os K s' → RunD P s0 (i + 1) uns os ((i, o, { v := v, rd := rd }) :: acc) K s' := by
      intro v rd s' hr
      refine runF_D os uns (i + 1) _ s' (fun t ht => ?_) (by simpa [It.o] using h3) hr
      rcases List.mem_cons.1 ht with rfl | ht
      · exact ⟨rfl, rfl⟩
      · exact ha t ht
    simp only [RunF] at h
    simp only [RunD]
    split at h
    · rename_i hg
      try simp only [hg]
      exact ⟨pair _ _, next _ _ _ h⟩
    · rename_i hg
      try simp only [hg]
      split at h
      · rename_i q ho
        split at h
        · rename_i v hv
          try simp only [ho, hv]
          exact ⟨pair _ _, next _ _ _ h⟩
        · exact h.elim
      · rename_i f xs ho
        try simp only [ho]
        obtain ⟨q1, r, q2, q3⟩ := h
        exact ⟨q1, r, q2, pair _ _, next _ _ _ q3⟩
      · exact h.elim
    · exact h.elim
section
variable {G : Ground} {F : Fence} {n : Nat} {Q : Exit → AS → Prop} {s : AS}
theorem T_drF (hF : FOk F) {un : List (List Nat)} {t : TOps} {kp ids : List Nat} {S : AS} (hm : G.P.follows .mixedOrders = true) (hq : quietG 0 un t.flat [] = true) (h : RunF G.P t.flat (fun s' => s'.keep kp ids = S) s) (k : Q .normal S) :
    T G F n (.region (some un) t kp ids) Q s := T_dr hF hm (runF_D _ _ _ [] _ (fun t ht => by simp at ht) hq h) k
theorem T_sdF (hF : FOk F) {un : List (List Nat)} {t : TOps} {kp ids : List Nat} {S : AS} {b : ACode} (hm : G.P.follows .mixedOrders = true) (hq : quietG 0 un t.flat [] = true) (h : RunF G.P t.flat (fun s' => s'.keep kp ids = S) s) (k : T G F n b Q S) :
    T G F n (.seq (.region (some un) t kp ids) b) Q s := T_seq (T_drF hF hm hq h ⟨k⟩)
end
section
variable {P : Program} {os : List FOp} {K : AS → Prop} {d : Nat} {g : Option (Nat × Bool)} {e : Env} {σ : Sto} {ex : List AV}
theorem RunF_q {q : QOp} {v : AV} (hg : gmet e g = some true) (h : evQ q e σ = some v) (k : RunF P os K { env := (d, v) :: e, σ := σ, ex := ex }) : RunF P (⟨some d, g, .q q⟩ :: os) K { env := e, σ := σ, ex := ex } := by
  simp only [RunF, hg, h]; exact k
theorem RunF_skip {op : AOp} (hg : gmet e g = some false) (k : RunF P os K { env := (d, .und) :: e, σ := σ, ex := ex }) : RunF P (⟨some d, g, op⟩ :: os) K { env := e, σ := σ, ex := ex } := by
  simp only [RunF, hg]; exact k
theorem RunF_call {f : Opd} {xs : List Opd} {r : DV} (hg : gmet e g = some true) (hp : (gets e (f :: xs)).all AVp = true) (hc : CallR P f xs e σ σ r) (k : RunF P os K { env := (d, r.av) :: e, σ := σ, ex := ex }) :
    RunF P (⟨some d, g, .call f xs⟩ :: os) K { env := e, σ := σ, ex := ex } := by
  simp only [RunF, hg]; exact ⟨hp, r, hc, k⟩
theorem RunF_nil {S : AS} {kp ids : List Nat} (h : AS.keep kp ids { env := e, σ := σ, ex := ex } = S) : RunF P [] (fun s' => s'.keep kp ids = S) { env := e, σ := σ, ex := ex } := by
  simp only [RunF]; exact h
end
end Go.AM

namespace Go.AM
open Go.RowKit (Below)

def SK (G : Ground) (os : List FOp) (K : AS → Prop) (s : AS) : Prop := ∃ S, Steps G.P G os s S ∧ K S
section
variable {G : Ground} {os : List FOp} {K : AS → Prop} {d : Nat} {g : Option (Nat × Bool)} {e : Env} {σ : Sto} {ex : List AV}
theorem S_q {q : QOp} {v : AV} (hd : d < G.nt) (hg : gmet e g = some true) (h : evQ q e σ = some v) (k : SK G os K { env := (d, v) :: e, σ := σ, ex := ex }) : SK G (⟨some d, g, .q q⟩ :: os) K { env := e, σ := σ, ex := ex } :=
  let ⟨S, h', k'⟩ := k; ⟨S, .cons (.run hg (fun t ht => by cases ht; exact hd) (.q h)) h', k'⟩
theorem S_skip {op : AOp} (hd : d < G.nt) (hg : gmet e g = some false) (k : SK G os K { env := (d, .und) :: e, σ := σ, ex := ex }) : SK G (⟨some d, g, op⟩ :: os) K { env := e, σ := σ, ex := ex } :=
  let ⟨S, h', k'⟩ := k; ⟨S, .cons (.skip hg (fun t ht => by cases ht; exact hd)) h', k'⟩
theorem S_skipN {op : AOp} (hg : gmet e g = some false) (k : SK G os K { env := e, σ := σ, ex := ex }) : SK G (⟨none, g, op⟩ :: os) K { env := e, σ := σ, ex := ex } :=
  let ⟨S, h', k'⟩ := k; ⟨S, .cons (.skip hg (fun t ht => by cases ht)) h', k'⟩
theorem S_n {q : NOp} {ob : AO} {v : AV} (hd : d < G.nt) (hg : gmet e g = some true) (hn : lo σ d = .none) (hr : AS.nr d { env := e, σ := σ, ex := ex } = true) (h : evN q e d = some (ob, v))
    (k : SK G os K { env := (d, v) :: e, σ := (d, ob) :: σ, ex := ex }) : SK G (⟨some d, g, .n q⟩ :: os) K { env := e, σ := σ, ex := ex } :=
  let ⟨S, h', k'⟩ := k; ⟨S, .cons (.run hg (fun t ht => by cases ht; exact hd) (.n rfl hn (AS.nr_Nr hr) h)) h', k'⟩
theorem S_st {q : SOp} {u : Nat} {ob : AO} {v : AV} (hg : gmet e g = some true) (h : evS q e σ 0 = some (u, ob, v, 0)) (k : SK G os K { env := e, σ := (u, ob) :: σ, ex := ex }) : SK G (⟨none, g, .s q⟩ :: os) K { env := e, σ := σ, ex := ex } :=
  let ⟨S, h', k'⟩ := k; ⟨S, .cons (.run (o := ⟨none, g, .s q⟩) hg (fun t ht => by cases ht) (.s (t := 0) (.inr rfl) h (fun hk => by cases hk))) h', k'⟩
theorem S_ap1 {q : SOp} {ob : AO} {v : AV} (hd : d < G.nt) (hg : gmet e g = some true) (h : evS q e σ d = some (d, ob, v, 1)) (hn : lo σ d = .none) (hr : AS.nr d { env := e, σ := σ, ex := ex } = true)
    (k : SK G os K { env := (d, v) :: e, σ := (d, ob) :: σ, ex := ex }) : SK G (⟨some d, g, .s q⟩ :: os) K { env := e, σ := σ, ex := ex } :=
  let ⟨S, h', k'⟩ := k; ⟨S, .cons (.run (o := ⟨some d, g, .s q⟩) hg (fun t ht => by cases ht; exact hd) (.s (.inl rfl) h (fun _ => ⟨rfl, AS.nr_Nr hr, hn⟩))) h', k'⟩
theorem S_ap2 {q : SOp} {u : Nat} {ob : AO} {v : AV} {e1 : Env} {σ1 : Sto} {ex1 : List AV} (hd : d < G.nt) (hg : gmet e g = some true) (h : evS q e σ d = some (u, ob, v, 2)) (hs : AS.scr u { env := e, σ := σ, ex := ex } = { env := e1, σ := σ1, ex := ex1 })
    (k : SK G os K { env := (d, v) :: e1, σ := (u, ob) :: σ1, ex := ex1 }) : SK G (⟨some d, g, .s q⟩ :: os) K { env := e, σ := σ, ex := ex } := by
  obtain ⟨S, h', k'⟩ := k
  refine ⟨S, .cons (.run (o := ⟨some d, g, .s q⟩) hg (fun t ht => by cases ht; exact hd) (.s (.inl rfl) h (fun hk => by cases hk))) ?_, k'⟩
  simp only [newSt, if_true, hs, putd]
  exact h'
theorem S_call {f : Opd} {xs : List Opd} {r : DV} {σ' : Sto} (hd : d < G.nt) (hg : gmet e g = some true) (hc : CallR G.P f xs e σ σ' r) (k : SK G os K { env := (d, r.av) :: e, σ := σ', ex := ex }) :
    SK G (⟨some d, g, .call f xs⟩ :: os) K { env := e, σ := σ, ex := ex } :=
  let ⟨S, h', k'⟩ := k; ⟨S, .cons (.run hg (fun t ht => by cases ht; exact hd) (.call (s := { env := e, σ := σ, ex := ex }) hc)) h', k'⟩
theorem S_callM {f : Opd} {xs : List Opd} {r : AV} {σ1 : Sto} (hd : d < G.nt) (hg : gmet e g = some true) (hc : CallM G.P f xs { env := e, σ := σ, ex := ex } r σ1) (k : SK G os K { env := (d, r) :: e, σ := σ1 ++ σ, ex := ex }) :
    SK G (⟨some d, g, .call f xs⟩ :: os) K { env := e, σ := σ, ex := ex } :=
  let ⟨S, h', k'⟩ := k; ⟨S, .cons (.run hg (fun t ht => by cases ht; exact hd) (.callM (s := { env := e, σ := σ, ex := ex }) hc)) h', k'⟩
theorem S_keep {kp ids : List Nat} {s S : AS} (h : s.keep kp ids = S) : SK G [] (fun s' => s'.keep kp ids = S) s := ⟨s, .nil, h⟩
variable {F : Fence} {n : Nat} {Q : Exit → AS → Prop} {s S : AS}
theorem T_regK (hF : FOk F) {t : TOps} {kp ids : List Nat} (h : SK G t.flat (fun s' => s'.keep kp ids = S) s) (k : Q .normal S) : T G F n (.region none t kp ids) Q s := by
  obtain ⟨S', h1, h2⟩ := h
  refine T_mono (T_steps (Q := fun e s' => e = .normal ∧ s' = S) hF (h1.append (l := t.flat) (m := []) (.weak (h2 ▸ keep_weak G kp ids S') .nil) |> (by simpa using ·)) ⟨rfl, rfl⟩) ?_
  rintro e s' ⟨rfl, rfl⟩
  exact k
theorem T_srK (hF : FOk F) {t : TOps} {kp ids : List Nat} {b : ACode} (h : SK G t.flat (fun s' => s'.keep kp ids = S) s) (k : T G F n b Q S) : T G F n (.seq (.region none t kp ids) b) Q s := T_seq (T_regK hF h ⟨k⟩)
end
theorem Weak.sub {G : Ground} {e : Env} {σ σ' : Sto} {ex : List AV} (h : ∀ p ∈ σ', lo σ p.1 = p.2) : Weak G { env := e, σ := σ, ex := ex } { env := e, σ := σ', ex := ex } :=
  Weak.sto (s := { env := e, σ := σ, ex := ex }) (lo_of_mem h)
structure SKt (G : Ground) (o : FOp) (os : List FOp) (K : AS → Prop) (s : AS) : Prop where
  of : gmet s.env o.g = some true → SK G (o :: os) K s
structure SKf (G : Ground) (o : FOp) (os : List FOp) (K : AS → Prop) (s : AS) : Prop where
  of : gmet s.env o.g = some false → SK G (o :: os) K s
def SKb (G : Ground) (b : Bool) (o : FOp) (os : List FOp) (K : AS → Prop) (s : AS) : Prop := match b with
  | true => SKt G o os K s
  | false => SKf G o os K s
section
variable {G : Ground} {os : List FOp} {K : AS → Prop} {d : Nat} {g : Option (Nat × Bool)} {e : Env} {σ : Sto} {ex : List AV}
theorem X_g {o : FOp} {b : Bool} {s : AS} (hg : gmet s.env o.g = some b) (k : SKb G b o os K s) : SK G (o :: os) K s := by
  cases b
  · exact SKf.of k hg
  · exact SKt.of k hg
theorem X_g0 {d : Option Nat} {op : AOp} {s : AS} (k : SKb G true ⟨d, none, op⟩ os K s) : SK G (⟨d, none, op⟩ :: os) K s := X_g (o := ⟨d, none, op⟩) rfl k
theorem X_q {q : QOp} {v : AV} (hd : d < G.nt) (h : evQ q e σ = some v) (k : SK G os K { env := (d, v) :: e, σ := σ, ex := ex }) : SKb G true ⟨some d, g, .q q⟩ os K { env := e, σ := σ, ex := ex } :=
  SKt.mk fun hg => S_q hd hg h k
theorem X_skip {op : AOp} (hd : d < G.nt) (k : SK G os K { env := (d, .und) :: e, σ := σ, ex := ex }) : SKb G false ⟨some d, g, op⟩ os K { env := e, σ := σ, ex := ex } :=
  SKf.mk fun hg => S_skip hd hg k
theorem X_skipN {op : AOp} (k : SK G os K { env := e, σ := σ, ex := ex }) : SKb G false ⟨none, g, op⟩ os K { env := e, σ := σ, ex := ex } :=
  SKf.mk fun hg => S_skipN hg k
theorem X_n {q : NOp} {ob : AO} {v : AV} (hd : d < G.nt) (h : evN q e d = some (ob, v))
    (k : (lo σ d = .none ∧ AS.nr d { env := e, σ := σ, ex := ex } = true) ∧ SK G os K { env := (d, v) :: e, σ := (d, ob) :: σ, ex := ex }) : SKb G true ⟨some d, g, .n q⟩ os K { env := e, σ := σ, ex := ex } := SKt.mk fun hg => S_n hd hg k.1.1 k.1.2 h k.2
theorem X_st {q : SOp} {u : Nat} {ob : AO} {v : AV} (h : evS q e σ 0 = some (u, ob, v, 0)) (k : SK G os K { env := e, σ := (u, ob) :: σ, ex := ex }) : SKb G true ⟨none, g, .s q⟩ os K { env := e, σ := σ, ex := ex } :=
  SKt.mk fun hg => S_st hg h k
theorem X_ap1 {q : SOp} {ob : AO} {v : AV} (hd : d < G.nt) (h : evS q e σ d = some (d, ob, v, 1))
    (k : (lo σ d = .none ∧ AS.nr d { env := e, σ := σ, ex := ex } = true) ∧ SK G os K { env := (d, v) :: e, σ := (d, ob) :: σ, ex := ex }) : SKb G true ⟨some d, g, .s q⟩ os K { env := e, σ := σ, ex := ex } := SKt.mk fun hg => S_ap1 hd hg h k.1.1 k.1.2 k.2
theorem X_ap2 {q : SOp} {u : Nat} {ob : AO} {v : AV} {e1 : Env} {σ1 : Sto} {ex1 : List AV} (hd : d < G.nt) (h : evS q e σ d = some (u, ob, v, 2))
    (k : AS.scr u { env := e, σ := σ, ex := ex } = { env := e1, σ := σ1, ex := ex1 } ∧ SK G os K { env := (d, v) :: e1, σ := (u, ob) :: σ1, ex := ex1 }) : SKb G true ⟨some d, g, .s q⟩ os K { env := e, σ := σ, ex := ex } := SKt.mk fun hg => S_ap2 hd hg h k.1 k.2
theorem X_call {f : Opd} {xs : List Opd} {r : DV} {σ' : Sto} (hd : d < G.nt) (hc : CallR G.P f xs e σ σ' r) (k : SK G os K { env := (d, r.av) :: e, σ := σ', ex := ex }) :
    SKb G true ⟨some d, g, .call f xs⟩ os K { env := e, σ := σ, ex := ex } := SKt.mk fun hg => S_call hd hg hc k
theorem X_callM {f : Opd} {xs : List Opd} {r : AV} {σ1 : Sto} (hd : d < G.nt) (hc : CallM G.P f xs { env := e, σ := σ, ex := ex } r σ1) (k : SK G os K { env := (d, r) :: e, σ := σ1 ++ σ, ex := ex }) :
    SKb G true ⟨some d, g, .call f xs⟩ os K { env := e, σ := σ, ex := ex } := SKt.mk fun hg => S_callM hd hg hc k
end
structure RFt (P : Program) (o : FOp) (os : List FOp) (K : AS → Prop) (s : AS) : Prop where
  of : gmet s.env o.g = some true → RunF P (o :: os) K s
structure RFf (P : Program) (o : FOp) (os : List FOp) (K : AS → Prop) (s : AS) : Prop where
  of : gmet s.env o.g = some false → RunF P (o :: os) K s
def RFb (P : Program) (b : Bool) (o : FOp) (os : List FOp) (K : AS → Prop) (s : AS) : Prop := match b with
  | true => RFt P o os K s
  | false => RFf P o os K s
section
variable {P : Program} {os : List FOp} {K : AS → Prop} {d : Nat} {g : Option (Nat × Bool)} {e : Env} {σ : Sto} {ex : List AV}
theorem Y_g {o : FOp} {b : Bool} {s : AS} (hg : gmet s.env o.g = some b) (k : RFb P b o os K s) : RunF P (o :: os) K s := by
  cases b
  · exact RFf.of k hg
  · exact RFt.of k hg
theorem Y_g0 {d : Option Nat} {op : AOp} {s : AS} (k : RFb P true ⟨d, none, op⟩ os K s) : RunF P (⟨d, none, op⟩ :: os) K s := Y_g (o := ⟨d, none, op⟩) rfl k
theorem Y_q {q : QOp} {v : AV} (h : evQ q e σ = some v) (k : RunF P os K { env := (d, v) :: e, σ := σ, ex := ex }) : RFb P true ⟨some d, g, .q q⟩ os K { env := e, σ := σ, ex := ex } := RFt.mk fun hg => RunF_q hg h k
theorem Y_skip {op : AOp} (k : RunF P os K { env := (d, .und) :: e, σ := σ, ex := ex }) : RFb P false ⟨some d, g, op⟩ os K { env := e, σ := σ, ex := ex } := RFf.mk fun hg => RunF_skip hg k
theorem Y_call {f : Opd} {xs : List Opd} {r : DV} (hc : CallR P f xs e σ σ r) (hp : (gets e (f :: xs)).all AVp = true) (k : RunF P os K { env := (d, r.av) :: e, σ := σ, ex := ex }) :
    RFb P true ⟨some d, g, .call f xs⟩ os K { env := e, σ := σ, ex := ex } := RFt.mk fun hg => RunF_call hg hp hc k
end
end Go.AM

namespace Go.AM
attribute [go_sem] Run RunI evQ evN evS evBinV evBin evNil isNilK isNilC isNeq ldP ldC ldO get gets acs pvs C0ok parts asCells fillC srcOf partsP setRows putd newSt AS.keep AS.keepE pint pbool List.map List.length lk lo initE DV.av DV.av1 TOps.dsts if_true if_false ite_true ite_false Option.getD Option.toList List.cons_append List.nil_append List.append_nil decide_true decide_false Bool.not_true Bool.not_false cond_true cond_false List.length_map List.getElem?_map Option.map Int.toNat_natCast Int.natCast_nonneg Int.ofNat_lt true_and and_true List.take List.drop Bool.false_eq_true List.getElem?_cons_zero List.getElem?_cons_succ Nat.add_zero Nat.zero_add Bool.and_true Bool.true_and Bool.or_false Bool.false_or Bool.and_false Bool.or_true Bool.true_or Bool.false_and AS.scr AV.scr AC.scr AO.scr AS.nr List.all_cons List.all_nil AV.has AV.has.hasV AC.has AC.has.hasL AO.nr decide_eq_true_eq false_and and_false List.set List.replicate ne_eq not_true not_false_eq_true Nat.zero_mul Int.mul_one List.length_set Option.bind Nat.zero_le max1 max2 max3 max4 max5 max6 max7 max8 Nat.le_refl List.length_append List.length_cons List.length_nil List.length_replicate ddS restS List.filter_cons List.filter_nil List.contains_cons List.contains_nil beq_self_eq_true initV bne_self_eq_false false_implies true_implies imp_self implies_true
attribute [go_sem] RunD TOps.flat okPair okN okInd okCl okFr rdOf AV.id1 FOp.us usG AOp.opds QOp.opds NOp.opds SOp.opds Opd.us FP.scO gmet AVp ACp dtOf dobOf It.o It.f List.flatMap_cons List.flatMap_nil Option.isNone List.filter List.filterMap Option.some_beq_some Option.some_beq_none Option.none_beq_some Option.map_none Option.map_some Bool.or_self Bool.and_self List.filterMap_cons List.filterMap_nil Option.isNone_none Option.isNone_some RunF
attribute [go_sem] bndI roomOf slcC findE entV entriesOf putM carryN chunk isTop oleB Int.cast_ofNat_Int Int.natCast_zero Int.natCast_one TOps.flat Nat.sub_zero Nat.sub_self List.flatten_cons List.flatten_nil true_or or_true Option.some.injEq
end Go.AM

namespace Go.AM
section
variable {G : Ground} {F : Fence} {n : Nat} {Q : Exit → AS → Prop} {s : AS}
theorem callM_mk {P : Program} {f : Opd} {az : List Opd} {s : AS} {r : AV} {σ1 σ0 : Sto} {c : AC} {id : FuncId} {first caps : List AV} {fr : List Nat} (h1 : get s.env f = .one c) (h2 : fnOf c = some (id, first, caps))
    (h6 : MutC P id (first ++ gets s.env az ++ caps) σ0 r σ1 fr) (h3 : ∀ p ∈ σ0, lo s.σ p.1 = p.2) (h4 : ∀ p ∈ σ0, p.1 ∈ σ1.map (·.1)) (h5 : ∀ d ∈ fr, s.nr d = true ∧ lo s.σ d = .none) : CallM P f az s r σ1 :=
  ⟨c, id, first, caps, σ0, fr, h1, h2, h3, h4, h5, h6⟩
theorem S_st1 {os : List FOp} {K : AS → Prop} {d : Nat} {g : Option (Nat × Bool)} {e : Env} {σ : Sto} {ex : List AV} {q : SOp} {u : Nat} {ob : AO} {v : AV} (hd : d < G.nt) (hg : gmet e g = some true) (h : evS q e σ d = some (u, ob, v, 0)) (k : SK G os K { env := (d, v) :: e, σ := (u, ob) :: σ, ex := ex }) :
    SK G (⟨some d, g, .s q⟩ :: os) K { env := e, σ := σ, ex := ex } :=
  let ⟨S, h', k'⟩ := k; ⟨S, .cons (.run (o := ⟨some d, g, .s q⟩) hg (fun t ht => by cases ht; exact hd) (.s (t := d) (.inl rfl) h (fun hk => by cases hk))) h', k'⟩
theorem X_st1 {os : List FOp} {K : AS → Prop} {d : Nat} {g : Option (Nat × Bool)} {e : Env} {σ : Sto} {ex : List AV} {q : SOp} {u : Nat} {ob : AO} {v : AV} (hd : d < G.nt) (h : evS q e σ d = some (u, ob, v, 0)) (k : SK G os K { env := (d, v) :: e, σ := (u, ob) :: σ, ex := ex }) :
    SKb G true ⟨some d, g, .s q⟩ os K { env := e, σ := σ, ex := ex } := SKt.mk fun hg => S_st1 hd hg h k
structure SKs (G : Ground) (os : List FOp) (K : AS → Prop) (d : Nat) (e : Env) (σ : Sto) (ex : List AV) (k u : Nat) (ob : AO) (v : AV) : Prop where
  of : match k with
    | 0 => SK G os K { env := (d, v) :: e, σ := (u, ob) :: σ, ex := ex }
    | 1 => u = d ∧ (lo σ d = .none ∧ AS.nr d { env := e, σ := σ, ex := ex } = true) ∧ SK G os K { env := (d, v) :: e, σ := (d, ob) :: σ, ex := ex }
    | 2 => ∃ e1 σ1 ex1, AS.scr u { env := e, σ := σ, ex := ex } = { env := e1, σ := σ1, ex := ex1 } ∧ SK G os K { env := (d, v) :: e1, σ := (u, ob) :: σ1, ex := ex1 }
    | _ => False
section
variable {G : Ground} {os : List FOp} {K : AS → Prop} {d u : Nat} {g : Option (Nat × Bool)} {e : Env} {σ : Sto} {ex : List AV} {ob : AO} {v : AV}
theorem SKs0 (h : SK G os K { env := (d, v) :: e, σ := (u, ob) :: σ, ex := ex }) : SKs G os K d e σ ex 0 u ob v := ⟨h⟩
theorem SKs1 (h : (lo σ d = .none ∧ AS.nr d { env := e, σ := σ, ex := ex } = true) ∧ SK G os K { env := (d, v) :: e, σ := (d, ob) :: σ, ex := ex }) : SKs G os K d e σ ex 1 d ob v := ⟨⟨rfl, h⟩⟩
theorem SKs2 {e1 : Env} {σ1 : Sto} {ex1 : List AV} (h : AS.scr u { env := e, σ := σ, ex := ex } = { env := e1, σ := σ1, ex := ex1 } ∧ SK G os K { env := (d, v) :: e1, σ := (u, ob) :: σ1, ex := ex1 }) : SKs G os K d e σ ex 2 u ob v := ⟨⟨_, _, _, h⟩⟩
theorem X_s {q : SOp} {k : Nat} (hd : d < G.nt) (h : evS q e σ d = some (u, ob, v, k)) (hk : SKs G os K d e σ ex k u ob v) : SKb G true ⟨some d, g, .s q⟩ os K { env := e, σ := σ, ex := ex } := by
  obtain ⟨hk⟩ := hk
  match k, hk with
  | 0, hk => exact X_st1 hd h hk
  | 1, hk => obtain ⟨rfl, hk⟩ := hk; exact X_ap1 hd h hk
  | 2, hk => obtain ⟨e1, σ1, ex1, hk⟩ := hk; exact X_ap2 hd h hk
  | k + 3, hk => exact hk.elim
end
def findL : ACode → Nat → Option ACode
  | .seq a b, l => match findL a l with
    | some r => some (.seq r b)
    | none => findL b l
  | .label l', l => if l' == l then some .skip else none
  | _, _ => none
theorem findL_sound {P : Program} {nt l : Nat} : ∀ {c : ACode} {cc : Code}, compC P cc = some c.erase → c.ok nt = true →
    match findL c l with
    | some r => ∃ rc, findLabel cc l = some rc ∧ compC P rc = some r.erase ∧ r.ok nt = true
    | none => findLabel cc l = none := by
  intro c
  induction c with
  | seq a b iha ihb =>
    intro cc hc hok
    obtain ⟨ca, cb, rfl, h1, h2⟩ := inv_seq hc
    simp only [ACode.ok, Bool.and_eq_true] at hok
    have ka := iha h1 hok.1
    have kb := ihb h2 hok.2
    simp only [findL, findLabel]
    cases hf : findL a l with
    | some r =>
      rw [hf] at ka
      obtain ⟨rc, q1, q2, q3⟩ := ka
      refine ⟨.seq rc cb, by rw [q1], ?_, by simp [ACode.ok, q3, hok.2]⟩
      simp only [compC, q2, h2, ACode.erase]; rfl
    | none =>
      rw [hf] at ka
      simp only at ka
      simp only [ka]
      exact kb
  | label l' =>
    intro cc hc hok
    have := inv_label hc
    subst this
    simp only [findL, findLabel]
    split
    · rename_i r hr
      split at hr
      · cases hr; rename_i hl; exact ⟨.skip, by rw [if_pos hl], rfl, rfl⟩
      · cases hr
    · rename_i hr
      split at hr
      · cases hr
      · rename_i hl; rw [if_neg hl]
  | skip => intro cc hc _; have := inv_skip hc; subst this; rfl
  | region un t k i =>
    intro cc hc _
    simp only [ACode.erase] at hc
    obtain ⟨id, ops, d, l0, rfl, _⟩ := inv_region0 hc
    rfl
  | cond c x y _ _ => intro cc hc _; obtain ⟨_, _, _, rfl, _⟩ := inv_cond hc; rfl
  | block i c _ => intro cc hc _; obtain ⟨_, rfl, _⟩ := inv_block hc; rfl
  | loop c _ => intro cc hc _; obtain ⟨_, rfl, _⟩ := inv_loop hc; rfl
  | scope c _ => intro cc hc _; obtain ⟨_, rfl, _⟩ := inv_scope hc; rfl
  | exit i => intro cc hc _; have := inv_exit hc; subst this; rfl
  | goto i => intro cc hc _; have := inv_goto hc; subst this; rfl
  | ret => intro cc hc _; have := inv_ret hc; subst this; rfl
  | range f ps x y _ _ => intro cc hc _; obtain ⟨_, _, _, _, rfl, _⟩ := inv_range hc; rfl
structure jmp (G : Ground) (n l : Nat) (rest : ACode) (Q : Exit → AS → Prop) (e : Exit) (s : AS) : Prop where
  of : match e with
    | .goto l' => l' = l ∧ T G Fence.wide n rest (noGo Q) s
    | e => Q e s
theorem T_scopeJ (l : Nat) {c rest : ACode} (hf : findL c l = some rest) (h : T G Fence.wide n c (jmp G n l rest Q) s) : T G Fence.wide n (.scope c) Q s := by
  refine ⟨fun code hc hok a w hs => ?_⟩
  obtain ⟨cc, rfl, hc'⟩ := inv_scope hc
  have hok' : c.ok G.nt = true := hok
  have hfs := findL_sound (l := l) hc' hok'
  rw [hf] at hfs
  obtain ⟨rc, q1, q2, q3⟩ := hfs
  refine wpIn_wide.2 (wp_scope_jumps l (fun a w => ∃ s', SimS G s' a w ∧ T G Fence.wide n rest (noGo Q) s') (fun _ _ => 0) q1 (wpIn_wide.1 (wpIn_mono (h.of cc hc' hok' a w hs) ?_)) ?_)
  · rintro e a w ⟨s', hq, hs'⟩
    obtain ⟨hq⟩ := hq
    cases e with
    | goto l' => exact ⟨hq.1, s', hs', hq.2⟩
    | _ => exact ⟨s', hq, hs'⟩
  · rintro a w ⟨s', hs', hT⟩
    refine wpIn_wide.1 (wpIn_mono (hT.of rc q2 q3 a w hs') ?_)
    rintro e a w ⟨s', hq, hs'⟩
    obtain ⟨hq⟩ := hq
    cases e <;> first | exact hq.elim | exact ⟨s', hq, hs'⟩
variable {l id : Nat} {rest : ACode}
theorem jmp_normal (h : Q .normal s) : jmp G n l rest Q .normal s := ⟨h⟩
theorem jmp_ret (h : Q .ret s) : jmp G n l rest Q .ret s := ⟨h⟩
theorem jmp_exit (h : Q (.exit id) s) : jmp G n l rest Q (.exit id) s := ⟨h⟩
theorem jmp_goto (h : T G Fence.wide n rest (noGo Q) s) : jmp G n l rest Q (.goto l) s := ⟨rfl, h⟩
end
end Go.AM
namespace Go.AM
end Go.AM

namespace Go.AM
open Go Go.Proofs
set_option maxRecDepth 100000
abbrev eI (s : List Int) : PV := .sl (s.map fun n => [.int .i64 n])
abbrev dI (s : List Int) : DV := .one (eI s)
abbrev dB (b : Bool) : DV := .one (.bool b)
abbrev dN (n : Int) : DV := .one (.int .i64 n)
theorem all1 (s : List Int) : (s.map fun n => [PV.int .i64 n]).all (fun r => r.length == 1) = true := by
  simp
def chk : List Int → Int → Int
  | [], n => n
  | x :: r, n => if x < 1 ∨ x > 16 then 0 else chk r (IntKind.i64.wrap (n * x))
def checkS (s : List Int) : Bool := !decide ((s.length : Int) > 3) && (decide (chk s 1 > 0) && decide (chk s 1 ≤ 64))
theorem p_shape_Check (s : List Int) : PureC Try.prog fi_shape_Check [dI s] (dB (checkS s)) := by
  refine pure_shape_Check (by simp) fun G hP hn => ?_
  unfold a_shape_Check
  refine T_wf 0 fun hl => ?_
  simp only [initE, lk, dI, eI, DV.av, wf_one, wf_sl, if_true, List.length_map] at hl
  repeat' (first     | refine T_then ?_ | refine then_ret ?_ | refine then_exit ?_ | refine then_goto ?_     | refine rnd_exit ?_ | refine rnd_ret ?_ | refine rnd_goto ?_     | refine noGo_normal ?_ | refine noGo_ret ?_ | refine noGo_exit ?_ | refine jmp_normal ?_ | refine jmp_ret ?_ | refine jmp_exit ?_ | refine jmp_goto ?_     | refine inB_normal ?_ | refine inB_ret ?_ | refine inB_goto ?_ | refine inB_exit ?_ | refine inB_exit_ne rfl ?_     | ((first | apply T_sr fw | apply T_reg fw); · ((try simp only [go_sem, seval, reduceIte, ↓reduceIte]); (repeat ((first       | (refine ⟨true, false, rfl, fun h => absurd h (by decide), ?_⟩) | (refine ⟨false, false, rfl, fun h => absurd h (by decide), ?_⟩) | refine ⟨_, _, rfl, fun _ => rfl, ?_⟩); (try simp only [go_sem, seval, reduceIte, ↓reduceIte]))); (first | done | exact rfl)))     | ((first | apply T_sdF fw (by rw [hP]; rfl) (by decide +kernel) | apply T_drF fw (by rw [hP]; rfl) (by decide +kernel)); · ((try simp only [TOps.flat, List.cons_append, List.nil_append]); (repeat ((first | refine Y_g0 ?_ | refine Y_g (by (try simp only [go_sem, seval, reduceIte, ↓reduceIte, Bool.not_eq_true, reduceCtorEq, beq_false, beq_true]); (first | done | exact rfl)) ?_); (first | refine Y_skip ?_ | ((first | apply Y_q); (· ((try simp only [go_sem, seval, reduceIte, ↓reduceIte, Bool.not_eq_true, reduceCtorEq, beq_false, beq_true]); (first | done | exact rfl))))))); apply RunF_nil; (try simp only [go_sem, seval, reduceIte, ↓reduceIte, Bool.not_eq_true, reduceCtorEq, beq_false, beq_true]); (first | done | exact rfl)))     | ((first | apply T_sd fw (by rw [hP]; rfl) | apply T_dr fw (by rw [hP]; rfl)); · ((try simp only [go_sem, seval, reduceIte, ↓reduceIte, bne, beq_false, beq_true, Bool.not_eq_true, Bool.if_true_right, decide_not, reduceCtorEq]); (first | done | exact rfl)))     | refine T_seq ?_ | refine T_block ?_ | refine T_scopeJ 0 rfl ?_ | refine T_scope ?_ | refine T_goto ?_ | refine T_ret ?_ | refine T_skip ?_ | refine T_exit ?_ | refine T_label ?_     | refine T_condT rfl ?_ | refine T_condF rfl ?_     | refine T_condD rfl (fun _ => ?_) (fun _ => ?_)     | refine T_cond rfl (fun _ => ?_) (fun _ => ?_))
  · rename_i h
    exact ends_ret rfl rfl rfl (by simp [resD, checkS, h])
  · rename_i h
    refine T_for s.length (fun i acc => { env := [(3, .one (.p (.int .i64 acc))), (9, .one (.p (eI s))), (10, .one (.p (.int .i64 s.length))), (11, .one (.p (.int .i64 i)))], σ := [] })
      (fun i acc => chk (s.drop i) acc = chk s 1) 1 rfl (.refl _ _) fun i acc hi hc => ?_
    rcases nth hi with ⟨x, hlt, hx, hd⟩ | ⟨rfl, hd⟩
    · have hw := wrap_succ hlt hl.1
      rw [hd] at hc
      repeat' (first     | refine T_then ?_ | refine then_ret ?_ | refine then_exit ?_ | refine then_goto ?_     | refine rnd_exit ?_ | refine rnd_ret ?_ | refine rnd_goto ?_     | refine noGo_normal ?_ | refine noGo_ret ?_ | refine noGo_exit ?_ | refine jmp_normal ?_ | refine jmp_ret ?_ | refine jmp_exit ?_ | refine jmp_goto ?_     | refine inB_normal ?_ | refine inB_ret ?_ | refine inB_goto ?_ | refine inB_exit ?_ | refine inB_exit_ne rfl ?_     | ((first | apply T_sr fw | apply T_reg fw); · ((try simp only [go_sem, seval, reduceIte, ↓reduceIte, hx, hlt, hw]); (repeat ((first       | (refine ⟨true, false, rfl, fun h => absurd h (by decide), ?_⟩) | (refine ⟨false, false, rfl, fun h => absurd h (by decide), ?_⟩) | refine ⟨_, _, rfl, fun _ => rfl, ?_⟩); (try simp only [go_sem, seval, reduceIte, ↓reduceIte, hx, hlt, hw]))); (first | done | exact rfl)))     | ((first | apply T_sdF fw (by rw [hP]; rfl) (by decide +kernel) | apply T_drF fw (by rw [hP]; rfl) (by decide +kernel)); · ((try simp only [TOps.flat, List.cons_append, List.nil_append]); (repeat ((first | refine Y_g0 ?_ | refine Y_g (by (try simp only [go_sem, seval, reduceIte, ↓reduceIte, Bool.not_eq_true, reduceCtorEq, beq_false, beq_true, hx, hlt, hw]); (first | done | exact rfl)) ?_); (first | refine Y_skip ?_ | ((first | apply Y_q); (· ((try simp only [go_sem, seval, reduceIte, ↓reduceIte, Bool.not_eq_true, reduceCtorEq, beq_false, beq_true, hx, hlt, hw]); (first | done | exact rfl))))))); apply RunF_nil; (try simp only [go_sem, seval, reduceIte, ↓reduceIte, Bool.not_eq_true, reduceCtorEq, beq_false, beq_true, hx, hlt, hw]); (first | done | exact rfl)))     | ((first | apply T_sd fw (by rw [hP]; rfl) | apply T_dr fw (by rw [hP]; rfl)); · ((try simp only [go_sem, seval, reduceIte, ↓reduceIte, bne, beq_false, beq_true, Bool.not_eq_true, Bool.if_true_right, decide_not, reduceCtorEq, hx, hlt, hw]); (first | done | exact rfl)))     | refine T_seq ?_ | refine T_block ?_ | refine T_scopeJ 0 rfl ?_ | refine T_scope ?_ | refine T_goto ?_ | refine T_ret ?_ | refine T_skip ?_ | refine T_exit ?_ | refine T_label ?_     | refine T_condT rfl ?_ | refine T_condF rfl ?_     | refine T_condD rfl (fun _ => ?_) (fun _ => ?_)     | refine T_cond rfl (fun _ => ?_) (fun _ => ?_))
      · rename_i h2
        refine ends_ret rfl rfl rfl ?_
        have h3 : chk s 1 = 0 := by rw [← hc]; simp only [chk]; rw [if_pos (by simpa using h2)]
        simp [resD, checkS, h3]
      · rename_i h2
        refine rnd_next hlt _ ?_ (.refl _ _)
        rw [← hc]; simp only [chk]; rw [if_neg (by simpa using h2)]
    · rw [hd] at hc
      repeat' (first     | refine T_then ?_ | refine then_ret ?_ | refine then_exit ?_ | refine then_goto ?_     | refine rnd_exit ?_ | refine rnd_ret ?_ | refine rnd_goto ?_     | refine noGo_normal ?_ | refine noGo_ret ?_ | refine noGo_exit ?_ | refine jmp_normal ?_ | refine jmp_ret ?_ | refine jmp_exit ?_ | refine jmp_goto ?_     | refine inB_normal ?_ | refine inB_ret ?_ | refine inB_goto ?_ | refine inB_exit ?_ | refine inB_exit_ne rfl ?_     | ((first | apply T_sr fw | apply T_reg fw); · ((try simp only [go_sem, seval, reduceIte, ↓reduceIte, Int.lt_irrefl, Nat.lt_irrefl]); (repeat ((first       | (refine ⟨true, false, rfl, fun h => absurd h (by decide), ?_⟩) | (refine ⟨false, false, rfl, fun h => absurd h (by decide), ?_⟩) | refine ⟨_, _, rfl, fun _ => rfl, ?_⟩); (try simp only [go_sem, seval, reduceIte, ↓reduceIte, Int.lt_irrefl, Nat.lt_irrefl]))); (first | done | exact rfl)))     | ((first | apply T_sdF fw (by rw [hP]; rfl) (by decide +kernel) | apply T_drF fw (by rw [hP]; rfl) (by decide +kernel)); · ((try simp only [TOps.flat, List.cons_append, List.nil_append]); (repeat ((first | refine Y_g0 ?_ | refine Y_g (by (try simp only [go_sem, seval, reduceIte, ↓reduceIte, Bool.not_eq_true, reduceCtorEq, beq_false, beq_true, Int.lt_irrefl, Nat.lt_irrefl]); (first | done | exact rfl)) ?_); (first | refine Y_skip ?_ | ((first | apply Y_q); (· ((try simp only [go_sem, seval, reduceIte, ↓reduceIte, Bool.not_eq_true, reduceCtorEq, beq_false, beq_true, Int.lt_irrefl, Nat.lt_irrefl]); (first | done | exact rfl))))))); apply RunF_nil; (try simp only [go_sem, seval, reduceIte, ↓reduceIte, Bool.not_eq_true, reduceCtorEq, beq_false, beq_true, Int.lt_irrefl, Nat.lt_irrefl]); (first | done | exact rfl)))     | ((first | apply T_sd fw (by rw [hP]; rfl) | apply T_dr fw (by rw [hP]; rfl)); · ((try simp only [go_sem, seval, reduceIte, ↓reduceIte, bne, beq_false, beq_true, Bool.not_eq_true, Bool.if_true_right, decide_not, reduceCtorEq, Int.lt_irrefl, Nat.lt_irrefl]); (first | done | exact rfl)))     | refine T_seq ?_ | refine T_block ?_ | refine T_scopeJ 0 rfl ?_ | refine T_scope ?_ | refine T_goto ?_ | refine T_ret ?_ | refine T_skip ?_ | refine T_exit ?_ | refine T_label ?_     | refine T_condT rfl ?_ | refine T_condF rfl ?_     | refine T_condD rfl (fun _ => ?_) (fun _ => ?_)     | refine T_cond rfl (fun _ => ?_) (fun _ => ?_))
      refine ends_ret rfl rfl rfl ?_
      simp only [chk] at hc
      simp [resD, checkS, hc]; omega
def prodW : List Int → Int → Int
  | [], n => n
  | x :: r, n => prodW r (IntKind.i64.wrap (n * x))
def sizeS (s : List Int) : Int := if checkS s then prodW s 1 else 0
theorem p_shape_Size (s : List Int) : PureC Try.prog fi_shape_Size [dI s] (dN (sizeS s)) := by
  refine pure_shape_Size (by simp) fun G hP hn => ?_
  unfold a_shape_Size
  refine T_wf 0 fun hl => ?_
  simp only [initE, lk, dI, eI, DV.av, wf_one, wf_sl, if_true, List.length_map] at hl
  repeat' (first     | refine T_then ?_ | refine then_ret ?_ | refine then_exit ?_ | refine then_goto ?_     | refine rnd_exit ?_ | refine rnd_ret ?_ | refine rnd_goto ?_     | refine noGo_normal ?_ | refine noGo_ret ?_ | refine noGo_exit ?_ | refine jmp_normal ?_ | refine jmp_ret ?_ | refine jmp_exit ?_ | refine jmp_goto ?_     | refine inB_normal ?_ | refine inB_ret ?_ | refine inB_goto ?_ | refine inB_exit ?_ | refine inB_exit_ne rfl ?_     | ((first | apply T_sr fw | apply T_reg fw); · ((try simp only [go_sem, seval, reduceIte, ↓reduceIte, hP]); (repeat ((first       | (refine ⟨true, false, rfl, fun h => absurd h (by decide), ?_⟩) | (refine ⟨false, false, rfl, fun h => absurd h (by decide), ?_⟩) | refine ⟨_, _, rfl, fun _ => rfl, ?_⟩       | (refine .inl ⟨_, _, ⟨_, _, _, _, _, _, rfl, rfl, rfl, p_shape_Check _⟩, ?_⟩)       | (refine ⟨_, ?_, rfl, fun _ => ⟨_, ⟨_, _, _, _, _, _, rfl, rfl, rfl, p_shape_Check _⟩, ?_⟩, ?_⟩; rotate_left; (· (simp only [go_sem, seval, reduceIte, ↓reduceIte, hP]; first | done | exact rfl)))); (try simp only [go_sem, seval, reduceIte, ↓reduceIte, hP]))); (first | done | exact rfl)))     | ((first | apply T_sdF fw (by rw [hP]; rfl) (by decide +kernel) | apply T_drF fw (by rw [hP]; rfl) (by decide +kernel)); · ((try simp only [TOps.flat, List.cons_append, List.nil_append]); (repeat ((first | refine Y_g0 ?_ | refine Y_g (by (try simp only [go_sem, seval, reduceIte, ↓reduceIte, Bool.not_eq_true, reduceCtorEq, beq_false, beq_true, hP]); (first | done | exact rfl)) ?_); (first | refine Y_skip ?_ | ((first | apply Y_q | (refine Y_call ⟨_, _, _, _, _, _, rfl, rfl, rfl, (by rw [hP]; exact p_shape_Check _)⟩ ?_ ?_)); (· ((try simp only [go_sem, seval, reduceIte, ↓reduceIte, Bool.not_eq_true, reduceCtorEq, beq_false, beq_true, hP]); (first | done | exact rfl))))))); apply RunF_nil; (try simp only [go_sem, seval, reduceIte, ↓reduceIte, Bool.not_eq_true, reduceCtorEq, beq_false, beq_true, hP]); (first | done | exact rfl)))     | ((first | apply T_sd fw (by rw [hP]; rfl) | apply T_dr fw (by rw [hP]; rfl)); · ((try simp only [go_sem, seval, reduceIte, ↓reduceIte, bne, beq_false, beq_true, Bool.not_eq_true, Bool.if_true_right, decide_not, reduceCtorEq, hP]); (repeat ((first       | (refine ⟨_, ⟨_, _, _, _, _, _, rfl, rfl, rfl, p_shape_Check _⟩, ?_⟩)); (try simp only [go_sem, seval, reduceIte, ↓reduceIte, bne, beq_false, beq_true, Bool.not_eq_true, Bool.if_true_right, decide_not, reduceCtorEq, hP]))); (first | done | exact rfl)))     | refine T_seq ?_ | refine T_block ?_ | refine T_scopeJ 0 rfl ?_ | refine T_scope ?_ | refine T_goto ?_ | refine T_ret ?_ | refine T_skip ?_ | refine T_exit ?_ | refine T_label ?_     | refine T_condT rfl ?_ | refine T_condF rfl ?_     | refine T_condD rfl (fun _ => ?_) (fun _ => ?_)     | refine T_cond rfl (fun _ => ?_) (fun _ => ?_))
  · rename_i h
    exact ends_ret rfl rfl rfl (by simp at h; simp [resD, sizeS, h])
  · rename_i h
    refine T_for s.length (fun i acc => { env := [(3, .one (.p (.int .i64 acc))), (9, .one (.p (eI s))), (10, .one (.p (.int .i64 s.length))), (11, .one (.p (.int .i64 i)))], σ := [] })
      (fun i acc => prodW (s.drop i) acc = prodW s 1) 1 rfl (.refl _ _) fun i acc hi hc => ?_
    rcases nth hi with ⟨x, hlt, hx, hd⟩ | ⟨rfl, hd⟩
    · have hw := wrap_succ hlt hl.1
      rw [hd] at hc
      repeat' (first     | refine T_then ?_ | refine then_ret ?_ | refine then_exit ?_ | refine then_goto ?_     | refine rnd_exit ?_ | refine rnd_ret ?_ | refine rnd_goto ?_     | refine noGo_normal ?_ | refine noGo_ret ?_ | refine noGo_exit ?_ | refine jmp_normal ?_ | refine jmp_ret ?_ | refine jmp_exit ?_ | refine jmp_goto ?_     | refine inB_normal ?_ | refine inB_ret ?_ | refine inB_goto ?_ | refine inB_exit ?_ | refine inB_exit_ne rfl ?_     | ((first | apply T_sr fw | apply T_reg fw); · ((try simp only [go_sem, seval, reduceIte, ↓reduceIte, hx, hlt, hw]); (repeat ((first       | (refine ⟨true, false, rfl, fun h => absurd h (by decide), ?_⟩) | (refine ⟨false, false, rfl, fun h => absurd h (by decide), ?_⟩) | refine ⟨_, _, rfl, fun _ => rfl, ?_⟩); (try simp only [go_sem, seval, reduceIte, ↓reduceIte, hx, hlt, hw]))); (first | done | exact rfl)))     | ((first | apply T_sdF fw (by rw [hP]; rfl) (by decide +kernel) | apply T_drF fw (by rw [hP]; rfl) (by decide +kernel)); · ((try simp only [TOps.flat, List.cons_append, List.nil_append]); (repeat ((first | refine Y_g0 ?_ | refine Y_g (by (try simp only [go_sem, seval, reduceIte, ↓reduceIte, Bool.not_eq_true, reduceCtorEq, beq_false, beq_true, hx, hlt, hw]); (first | done | exact rfl)) ?_); (first | refine Y_skip ?_ | ((first | apply Y_q); (· ((try simp only [go_sem, seval, reduceIte, ↓reduceIte, Bool.not_eq_true, reduceCtorEq, beq_false, beq_true, hx, hlt, hw]); (first | done | exact rfl))))))); apply RunF_nil; (try simp only [go_sem, seval, reduceIte, ↓reduceIte, Bool.not_eq_true, reduceCtorEq, beq_false, beq_true, hx, hlt, hw]); (first | done | exact rfl)))     | ((first | apply T_sd fw (by rw [hP]; rfl) | apply T_dr fw (by rw [hP]; rfl)); · ((try simp only [go_sem, seval, reduceIte, ↓reduceIte, bne, beq_false, beq_true, Bool.not_eq_true, Bool.if_true_right, decide_not, reduceCtorEq, hx, hlt, hw]); (first | done | exact rfl)))     | refine T_seq ?_ | refine T_block ?_ | refine T_scopeJ 0 rfl ?_ | refine T_scope ?_ | refine T_goto ?_ | refine T_ret ?_ | refine T_skip ?_ | refine T_exit ?_ | refine T_label ?_     | refine T_condT rfl ?_ | refine T_condF rfl ?_     | refine T_condD rfl (fun _ => ?_) (fun _ => ?_)     | refine T_cond rfl (fun _ => ?_) (fun _ => ?_))
      exact rnd_next hlt _ hc (.refl _ _)
    · rw [hd] at hc
      repeat' (first     | refine T_then ?_ | refine then_ret ?_ | refine then_exit ?_ | refine then_goto ?_     | refine rnd_exit ?_ | refine rnd_ret ?_ | refine rnd_goto ?_     | refine noGo_normal ?_ | refine noGo_ret ?_ | refine noGo_exit ?_ | refine jmp_normal ?_ | refine jmp_ret ?_ | refine jmp_exit ?_ | refine jmp_goto ?_     | refine inB_normal ?_ | refine inB_ret ?_ | refine inB_goto ?_ | refine inB_exit ?_ | refine inB_exit_ne rfl ?_     | ((first | apply T_sr fw | apply T_reg fw); · ((try simp only [go_sem, seval, reduceIte, ↓reduceIte, Int.lt_irrefl, Nat.lt_irrefl]); (repeat ((first       | (refine ⟨true, false, rfl, fun h => absurd h (by decide), ?_⟩) | (refine ⟨false, false, rfl, fun h => absurd h (by decide), ?_⟩) | refine ⟨_, _, rfl, fun _ => rfl, ?_⟩); (try simp only [go_sem, seval, reduceIte, ↓reduceIte, Int.lt_irrefl, Nat.lt_irrefl]))); (first | done | exact rfl)))     | ((first | apply T_sdF fw (by rw [hP]; rfl) (by decide +kernel) | apply T_drF fw (by rw [hP]; rfl) (by decide +kernel)); · ((try simp only [TOps.flat, List.cons_append, List.nil_append]); (repeat ((first | refine Y_g0 ?_ | refine Y_g (by (try simp only [go_sem, seval, reduceIte, ↓reduceIte, Bool.not_eq_true, reduceCtorEq, beq_false, beq_true, Int.lt_irrefl, Nat.lt_irrefl]); (first | done | exact rfl)) ?_); (first | refine Y_skip ?_ | ((first | apply Y_q); (· ((try simp only [go_sem, seval, reduceIte, ↓reduceIte, Bool.not_eq_true, reduceCtorEq, beq_false, beq_true, Int.lt_irrefl, Nat.lt_irrefl]); (first | done | exact rfl))))))); apply RunF_nil; (try simp only [go_sem, seval, reduceIte, ↓reduceIte, Bool.not_eq_true, reduceCtorEq, beq_false, beq_true, Int.lt_irrefl, Nat.lt_irrefl]); (first | done | exact rfl)))     | ((first | apply T_sd fw (by rw [hP]; rfl) | apply T_dr fw (by rw [hP]; rfl)); · ((try simp only [go_sem, seval, reduceIte, ↓reduceIte, bne, beq_false, beq_true, Bool.not_eq_true, Bool.if_true_right, decide_not, reduceCtorEq, Int.lt_irrefl, Nat.lt_irrefl]); (first | done | exact rfl)))     | refine T_seq ?_ | refine T_block ?_ | refine T_scopeJ 0 rfl ?_ | refine T_scope ?_ | refine T_goto ?_ | refine T_ret ?_ | refine T_skip ?_ | refine T_exit ?_ | refine T_label ?_     | refine T_condT rfl ?_ | refine T_condF rfl ?_     | refine T_condD rfl (fun _ => ?_) (fun _ => ?_)     | refine T_cond rfl (fun _ => ?_) (fun _ => ?_))
      refine ends_ret rfl rfl rfl ?_
      simp only [prodW] at hc
      simp at h
      simp [resD, sizeS, h, hc]
abbrev rI (s : List Int) : List (List PV) := s.map fun n => [.int .i64 n]
theorem m_slices_Clone (s : List Int) (hs : s.length ≤ 2 ^ 36) : MutC Try.prog fi_slices_Clone_int_int [.one (.p (eI s))] [] (.one (.msl 5 0 1 s.length none)) [(5, .arr true 1 (rI s))] [5] := by
  refine mut_slices_Clone_int_int (by simp) fun G ex hP hn hfr => ?_
  unfold a_slices_Clone_int_int
  have hfr := hfr 5 (by simp)
  repeat' (first     | refine T_then ?_ | refine then_ret ?_ | refine then_exit ?_ | refine then_goto ?_     | refine rnd_exit ?_ | refine rnd_ret ?_ | refine rnd_goto ?_     | refine noGo_normal ?_ | refine noGo_ret ?_ | refine noGo_exit ?_ | refine jmp_normal ?_ | refine jmp_ret ?_ | refine jmp_exit ?_ | refine jmp_goto ?_     | refine inB_normal ?_ | refine inB_ret ?_ | refine inB_goto ?_ | refine inB_exit ?_ | refine inB_exit_ne rfl ?_     | ((first | apply T_sr fw | apply T_reg fw); · ((try simp only [go_sem, seval, reduceIte, ↓reduceIte]); (repeat ((first       | (refine ⟨true, false, rfl, fun h => absurd h (by decide), ?_⟩) | (refine ⟨false, false, rfl, fun h => absurd h (by decide), ?_⟩) | refine ⟨_, _, rfl, fun _ => rfl, ?_⟩); (try simp only [go_sem, seval, reduceIte, ↓reduceIte]))); (first | done | exact rfl)))     | ((first | apply T_sdF fw (by rw [hP]; rfl) (by decide +kernel) | apply T_drF fw (by rw [hP]; rfl) (by decide +kernel)); · ((try simp only [TOps.flat, List.cons_append, List.nil_append]); (repeat ((first | refine Y_g0 ?_ | refine Y_g (by (try simp only [go_sem, seval, reduceIte, ↓reduceIte, Bool.not_eq_true, reduceCtorEq, beq_false, beq_true]); (first | done | exact rfl)) ?_); (first | refine Y_skip ?_ | ((first | apply Y_q); (· ((try simp only [go_sem, seval, reduceIte, ↓reduceIte, Bool.not_eq_true, reduceCtorEq, beq_false, beq_true]); (first | done | exact rfl))))))); apply RunF_nil; (try simp only [go_sem, seval, reduceIte, ↓reduceIte, Bool.not_eq_true, reduceCtorEq, beq_false, beq_true]); (first | done | exact rfl)))     | ((first | apply T_sd fw (by rw [hP]; rfl) | apply T_dr fw (by rw [hP]; rfl)); · ((try simp only [go_sem, seval, reduceIte, ↓reduceIte, bne, beq_false, beq_true, Bool.not_eq_true, Bool.if_true_right, decide_not, reduceCtorEq]); (first | done | exact rfl)))     | refine T_seq ?_ | refine T_block ?_ | refine T_scopeJ 0 rfl ?_ | refine T_scope ?_ | refine T_goto ?_ | refine T_ret ?_ | refine T_skip ?_ | refine T_exit ?_ | refine T_label ?_     | refine T_condT rfl ?_ | refine T_condF rfl ?_     | refine T_condD rfl (fun _ => ?_) (fun _ => ?_)     | refine T_cond rfl (fun _ => ?_) (fun _ => ?_))
  refine T_eqnil fw (by decide) rfl fun b hb => ?_
  simp only [AS.keep, List.map, lk, lo, Nat.reduceEqDiff, if_true, if_false, restS, List.filter, ddS, List.length, List.nil_append, initV]
  have h8 : s.length * 8 ≤ 2 ^ 40 := by omega
  have h9 : s.length ≤ 2 ^ 40 := by omega
  cases b
  · repeat' (first     | refine T_then ?_ | refine then_ret ?_ | refine then_exit ?_ | refine then_goto ?_     | refine rnd_exit ?_ | refine rnd_ret ?_ | refine rnd_goto ?_     | refine noGo_normal ?_ | refine noGo_ret ?_ | refine noGo_exit ?_ | refine jmp_normal ?_ | refine jmp_ret ?_ | refine jmp_exit ?_ | refine jmp_goto ?_     | refine inB_normal ?_ | refine inB_ret ?_ | refine inB_goto ?_ | refine inB_exit ?_ | refine inB_exit_ne rfl ?_     | ((first | apply T_sr fw | apply T_reg fw); · ((try simp only [go_sem, seval, reduceIte, ↓reduceIte, hP, all1, h8, h9, hfr, scr_ex hfr]); (repeat ((first       | (refine ⟨true, false, rfl, fun h => absurd h (by decide), ?_⟩) | (refine ⟨false, false, rfl, fun h => absurd h (by decide), ?_⟩) | refine ⟨_, _, rfl, fun _ => rfl, ?_⟩); (try simp only [go_sem, seval, reduceIte, ↓reduceIte, hP, all1, h8, h9, hfr, scr_ex hfr]))); (first | done | exact rfl)))     | ((first | apply T_sdF fw (by rw [hP]; rfl) (by decide +kernel) | apply T_drF fw (by rw [hP]; rfl) (by decide +kernel)); · ((try simp only [TOps.flat, List.cons_append, List.nil_append]); (repeat ((first | refine Y_g0 ?_ | refine Y_g (by (try simp only [go_sem, seval, reduceIte, ↓reduceIte, Bool.not_eq_true, reduceCtorEq, beq_false, beq_true, hP, all1, h8, h9, hfr, scr_ex hfr]); (first | done | exact rfl)) ?_); (first | refine Y_skip ?_ | ((first | apply Y_q); (· ((try simp only [go_sem, seval, reduceIte, ↓reduceIte, Bool.not_eq_true, reduceCtorEq, beq_false, beq_true, hP, all1, h8, h9, hfr, scr_ex hfr]); (first | done | exact rfl))))))); apply RunF_nil; (try simp only [go_sem, seval, reduceIte, ↓reduceIte, Bool.not_eq_true, reduceCtorEq, beq_false, beq_true, hP, all1, h8, h9, hfr, scr_ex hfr]); (first | done | exact rfl)))     | ((first | apply T_sd fw (by rw [hP]; rfl) | apply T_dr fw (by rw [hP]; rfl)); · ((try simp only [go_sem, seval, reduceIte, ↓reduceIte, bne, beq_false, beq_true, Bool.not_eq_true, Bool.if_true_right, decide_not, reduceCtorEq, hP, all1, h8, h9, hfr, scr_ex hfr]); (first | done | exact rfl)))     | refine T_seq ?_ | refine T_block ?_ | refine T_scopeJ 0 rfl ?_ | refine T_scope ?_ | refine T_goto ?_ | refine T_ret ?_ | refine T_skip ?_ | refine T_exit ?_ | refine T_label ?_     | refine T_condT rfl ?_ | refine T_condF rfl ?_     | refine T_condD rfl (fun _ => ?_) (fun _ => ?_)     | refine T_cond rfl (fun _ => ?_) (fun _ => ?_))
    exact endsM_ret rfl rfl rfl (by simp [lo]) rfl
  · have hs0 : s = [] := by simpa using hb rfl
    subst hs0
    refine T_then ?_
    refine T_condT rfl ?_
    refine T_sr fw (S := { env := [(2, .one .nils)], σ := [], ex := ex }) ?_ ?_
    · simp only [go_sem, seval, reduceIte, ↓reduceIte]
    · refine T_nils 2 5 1 rfl (by simp [AS.nr, AV.has, AC.has]; simpa using hfr) rfl ?_
      repeat' (first     | refine T_then ?_ | refine then_ret ?_ | refine then_exit ?_ | refine then_goto ?_     | refine rnd_exit ?_ | refine rnd_ret ?_ | refine rnd_goto ?_     | refine noGo_normal ?_ | refine noGo_ret ?_ | refine noGo_exit ?_ | refine jmp_normal ?_ | refine jmp_ret ?_ | refine jmp_exit ?_ | refine jmp_goto ?_     | refine inB_normal ?_ | refine inB_ret ?_ | refine inB_goto ?_ | refine inB_exit ?_ | refine inB_exit_ne rfl ?_     | ((first | apply T_sr fw | apply T_reg fw); · ((try simp only [go_sem, seval, reduceIte, ↓reduceIte]); (repeat ((first       | (refine ⟨true, false, rfl, fun h => absurd h (by decide), ?_⟩) | (refine ⟨false, false, rfl, fun h => absurd h (by decide), ?_⟩) | refine ⟨_, _, rfl, fun _ => rfl, ?_⟩); (try simp only [go_sem, seval, reduceIte, ↓reduceIte]))); (first | done | exact rfl)))     | ((first | apply T_sdF fw (by rw [hP]; rfl) (by decide +kernel) | apply T_drF fw (by rw [hP]; rfl) (by decide +kernel)); · ((try simp only [TOps.flat, List.cons_append, List.nil_append]); (repeat ((first | refine Y_g0 ?_ | refine Y_g (by (try simp only [go_sem, seval, reduceIte, ↓reduceIte, Bool.not_eq_true, reduceCtorEq, beq_false, beq_true]); (first | done | exact rfl)) ?_); (first | refine Y_skip ?_ | ((first | apply Y_q); (· ((try simp only [go_sem, seval, reduceIte, ↓reduceIte, Bool.not_eq_true, reduceCtorEq, beq_false, beq_true]); (first | done | exact rfl))))))); apply RunF_nil; (try simp only [go_sem, seval, reduceIte, ↓reduceIte, Bool.not_eq_true, reduceCtorEq, beq_false, beq_true]); (first | done | exact rfl)))     | ((first | apply T_sd fw (by rw [hP]; rfl) | apply T_dr fw (by rw [hP]; rfl)); · ((try simp only [go_sem, seval, reduceIte, ↓reduceIte, bne, beq_false, beq_true, Bool.not_eq_true, Bool.if_true_right, decide_not, reduceCtorEq]); (first | done | exact rfl)))     | refine T_seq ?_ | refine T_block ?_ | refine T_scopeJ 0 rfl ?_ | refine T_scope ?_ | refine T_goto ?_ | refine T_ret ?_ | refine T_skip ?_ | refine T_exit ?_ | refine T_label ?_     | refine T_condT rfl ?_ | refine T_condF rfl ?_     | refine T_condD rfl (fun _ => ?_) (fun _ => ?_)     | refine T_cond rfl (fun _ => ?_) (fun _ => ?_))
      exact endsM_ret rfl rfl rfl (by simp [lo]) rfl
theorem rI_set (l : List Int) (i : Nat) (y : Int) : (rI l).set i [.int .i64 y] = rI (l.set i y) := by
  simp [List.map_set]
end Go.AM

namespace Go.AM
open Go Go.Proofs
set_option maxRecDepth 100000
abbrev dT (s d : List Int) : DV := .agg [eI s, eI d]
def checkT (s d : List Int) : Bool := checkS s && ((d.length : Int) == sizeS s)
theorem p_tensor_Check (s d : List Int) : PureC Try.prog fi_tensor_Check [dT s d] (dB (checkT s d)) := by
  refine pure_tensor_Check (by simp) fun G hP hn => ?_
  unfold a_tensor_Check
  cases hc : checkS s
  · repeat' (first     | refine T_then ?_ | refine then_ret ?_ | refine then_exit ?_ | refine then_goto ?_     | refine rnd_exit ?_ | refine rnd_ret ?_ | refine rnd_goto ?_     | refine noGo_normal ?_ | refine noGo_ret ?_ | refine noGo_exit ?_ | refine jmp_normal ?_ | refine jmp_ret ?_ | refine jmp_exit ?_ | refine jmp_goto ?_     | refine inB_normal ?_ | refine inB_ret ?_ | refine inB_goto ?_ | refine inB_exit ?_ | refine inB_exit_ne rfl ?_     | ((first | apply T_sr fw | apply T_reg fw); · ((try simp only [go_sem, seval, reduceIte, ↓reduceIte, hP, hc]); (repeat ((first       | (refine ⟨true, false, rfl, fun h => absurd h (by decide), ?_⟩) | (refine ⟨false, false, rfl, fun h => absurd h (by decide), ?_⟩) | refine ⟨_, _, rfl, fun _ => rfl, ?_⟩       | (refine .inl ⟨_, _, ⟨_, _, _, _, _, _, rfl, rfl, rfl, p_shape_Check _⟩, ?_⟩)       | (refine .inl ⟨_, _, ⟨_, _, _, _, _, _, rfl, rfl, rfl, p_shape_Size _⟩, ?_⟩)       | (refine ⟨_, ?_, rfl, fun _ => ⟨_, ⟨_, _, _, _, _, _, rfl, rfl, rfl, p_shape_Check _⟩, ?_⟩, ?_⟩; rotate_left; (· (simp only [go_sem, seval, reduceIte, ↓reduceIte, hP, hc]; first | done | exact rfl)))       | (refine ⟨_, ?_, rfl, fun _ => ⟨_, ⟨_, _, _, _, _, _, rfl, rfl, rfl, p_shape_Size _⟩, ?_⟩, ?_⟩; rotate_left; (· (simp only [go_sem, seval, reduceIte, ↓reduceIte, hP, hc]; first | done | exact rfl)))); (try simp only [go_sem, seval, reduceIte, ↓reduceIte, hP, hc]))); (first | done | exact rfl)))     | ((first | apply T_sdF fw (by rw [hP]; rfl) (by decide +kernel) | apply T_drF fw (by rw [hP]; rfl) (by decide +kernel)); · ((try simp only [TOps.flat, List.cons_append, List.nil_append]); (repeat ((first | refine Y_g0 ?_ | refine Y_g (by (try simp only [go_sem, seval, reduceIte, ↓reduceIte, Bool.not_eq_true, reduceCtorEq, beq_false, beq_true, hP, hc]); (first | done | exact rfl)) ?_); (first | refine Y_skip ?_ | ((first | apply Y_q | (refine Y_call ⟨_, _, _, _, _, _, rfl, rfl, rfl, (by rw [hP]; exact p_shape_Check _)⟩ ?_ ?_) | (refine Y_call ⟨_, _, _, _, _, _, rfl, rfl, rfl, (by rw [hP]; exact p_shape_Size _)⟩ ?_ ?_)); (· ((try simp only [go_sem, seval, reduceIte, ↓reduceIte, Bool.not_eq_true, reduceCtorEq, beq_false, beq_true, hP, hc]); (first | done | exact rfl))))))); apply RunF_nil; (try simp only [go_sem, seval, reduceIte, ↓reduceIte, Bool.not_eq_true, reduceCtorEq, beq_false, beq_true, hP, hc]); (first | done | exact rfl)))     | ((first | apply T_sd fw (by rw [hP]; rfl) | apply T_dr fw (by rw [hP]; rfl)); · ((try simp only [go_sem, seval, reduceIte, ↓reduceIte, bne, beq_false, beq_true, Bool.not_eq_true, Bool.if_true_right, decide_not, reduceCtorEq, hP, hc]); (repeat ((first       | (refine ⟨_, ⟨_, _, _, _, _, _, rfl, rfl, rfl, p_shape_Check _⟩, ?_⟩)       | (refine ⟨_, ⟨_, _, _, _, _, _, rfl, rfl, rfl, p_shape_Size _⟩, ?_⟩)); (try simp only [go_sem, seval, reduceIte, ↓reduceIte, bne, beq_false, beq_true, Bool.not_eq_true, Bool.if_true_right, decide_not, reduceCtorEq, hP, hc]))); (first | done | exact rfl)))     | refine T_seq ?_ | refine T_block ?_ | refine T_scopeJ 0 rfl ?_ | refine T_scope ?_ | refine T_goto ?_ | refine T_ret ?_ | refine T_skip ?_ | refine T_exit ?_ | refine T_label ?_     | refine T_condT rfl ?_ | refine T_condF rfl ?_     | refine T_condD rfl (fun _ => ?_) (fun _ => ?_)     | refine T_cond rfl (fun _ => ?_) (fun _ => ?_))
    exact ends_ret rfl rfl rfl (by simp [resD, checkT, hc])
  · repeat' (first     | refine T_then ?_ | refine then_ret ?_ | refine then_exit ?_ | refine then_goto ?_     | refine rnd_exit ?_ | refine rnd_ret ?_ | refine rnd_goto ?_     | refine noGo_normal ?_ | refine noGo_ret ?_ | refine noGo_exit ?_ | refine jmp_normal ?_ | refine jmp_ret ?_ | refine jmp_exit ?_ | refine jmp_goto ?_     | refine inB_normal ?_ | refine inB_ret ?_ | refine inB_goto ?_ | refine inB_exit ?_ | refine inB_exit_ne rfl ?_     | ((first | apply T_sr fw | apply T_reg fw); · ((try simp only [go_sem, seval, reduceIte, ↓reduceIte, hP, hc]); (repeat ((first       | (refine ⟨true, false, rfl, fun h => absurd h (by decide), ?_⟩) | (refine ⟨false, false, rfl, fun h => absurd h (by decide), ?_⟩) | refine ⟨_, _, rfl, fun _ => rfl, ?_⟩       | (refine .inl ⟨_, _, ⟨_, _, _, _, _, _, rfl, rfl, rfl, p_shape_Check _⟩, ?_⟩)       | (refine .inl ⟨_, _, ⟨_, _, _, _, _, _, rfl, rfl, rfl, p_shape_Size _⟩, ?_⟩)       | (refine ⟨_, ?_, rfl, fun _ => ⟨_, ⟨_, _, _, _, _, _, rfl, rfl, rfl, p_shape_Check _⟩, ?_⟩, ?_⟩; rotate_left; (· (simp only [go_sem, seval, reduceIte, ↓reduceIte, hP, hc]; first | done | exact rfl)))       | (refine ⟨_, ?_, rfl, fun _ => ⟨_, ⟨_, _, _, _, _, _, rfl, rfl, rfl, p_shape_Size _⟩, ?_⟩, ?_⟩; rotate_left; (· (simp only [go_sem, seval, reduceIte, ↓reduceIte, hP, hc]; first | done | exact rfl)))); (try simp only [go_sem, seval, reduceIte, ↓reduceIte, hP, hc]))); (first | done | exact rfl)))     | ((first | apply T_sdF fw (by rw [hP]; rfl) (by decide +kernel) | apply T_drF fw (by rw [hP]; rfl) (by decide +kernel)); · ((try simp only [TOps.flat, List.cons_append, List.nil_append]); (repeat ((first | refine Y_g0 ?_ | refine Y_g (by (try simp only [go_sem, seval, reduceIte, ↓reduceIte, Bool.not_eq_true, reduceCtorEq, beq_false, beq_true, hP, hc]); (first | done | exact rfl)) ?_); (first | refine Y_skip ?_ | ((first | apply Y_q | (refine Y_call ⟨_, _, _, _, _, _, rfl, rfl, rfl, (by rw [hP]; exact p_shape_Check _)⟩ ?_ ?_) | (refine Y_call ⟨_, _, _, _, _, _, rfl, rfl, rfl, (by rw [hP]; exact p_shape_Size _)⟩ ?_ ?_)); (· ((try simp only [go_sem, seval, reduceIte, ↓reduceIte, Bool.not_eq_true, reduceCtorEq, beq_false, beq_true, hP, hc]); (first | done | exact rfl))))))); apply RunF_nil; (try simp only [go_sem, seval, reduceIte, ↓reduceIte, Bool.not_eq_true, reduceCtorEq, beq_false, beq_true, hP, hc]); (first | done | exact rfl)))     | ((first | apply T_sd fw (by rw [hP]; rfl) | apply T_dr fw (by rw [hP]; rfl)); · ((try simp only [go_sem, seval, reduceIte, ↓reduceIte, bne, beq_false, beq_true, Bool.not_eq_true, Bool.if_true_right, decide_not, reduceCtorEq, hP, hc]); (repeat ((first       | (refine ⟨_, ⟨_, _, _, _, _, _, rfl, rfl, rfl, p_shape_Check _⟩, ?_⟩)       | (refine ⟨_, ⟨_, _, _, _, _, _, rfl, rfl, rfl, p_shape_Size _⟩, ?_⟩)); (try simp only [go_sem, seval, reduceIte, ↓reduceIte, bne, beq_false, beq_true, Bool.not_eq_true, Bool.if_true_right, decide_not, reduceCtorEq, hP, hc]))); (first | done | exact rfl)))     | refine T_seq ?_ | refine T_block ?_ | refine T_scopeJ 0 rfl ?_ | refine T_scope ?_ | refine T_goto ?_ | refine T_ret ?_ | refine T_skip ?_ | refine T_exit ?_ | refine T_label ?_     | refine T_condT rfl ?_ | refine T_condF rfl ?_     | refine T_condD rfl (fun _ => ?_) (fun _ => ?_)     | refine T_cond rfl (fun _ => ?_) (fun _ => ?_))
    exact ends_ret rfl rfl rfl (by simp [resD, checkT, hc])
end Go.AM

namespace Go.AM
open Go Go.Proofs
set_option maxRecDepth 100000
abbrev dNE (p : Int × Int) : DV := .tup [dN p.1, dN p.2]
def plW : List Int → List Int → Int → Int × Int
  | n :: s, k :: x, a => if k < 0 ∨ k ≥ n then (0, 20) else plW s x (IntKind.i64.wrap (IntKind.i64.wrap (a * n) + k))
  | _, _, a => (a, 0)
def placeF (s x : List Int) : Int × Int := if (!checkS s || ((x.length : Int) != s.length)) = true then (0, 20) else plW s x 0
end Go.AM

namespace Go.AM
open Go Go.Proofs
set_option maxRecDepth 100000
def digs : List Int → Int → List Int
  | [], _ => []
  | n :: r, p => p.tmod n :: digs r (IntKind.i64.wrap (p.tdiv n))
def idxF (s : List Int) (p : Int) : List Int := (digs s.reverse p).reverse
theorem chk_pos : ∀ {s : List Int} {a : Int}, chk s a > 0 → ∀ m ∈ s, 1 ≤ m ∧ m ≤ 16
  | [], _, _, m, hm => by simp at hm
  | x :: r, a, h, m, hm => by
    simp only [chk] at h
    split at h
    · omega
    · rename_i hx
      rcases List.mem_cons.1 hm with rfl | hm
      · omega
      · exact chk_pos h m hm
theorem check_pos {s : List Int} (h : checkS s = true) : ∀ m ∈ s, 1 ≤ m ∧ m ≤ 16 := by
  simp only [checkS, Bool.and_eq_true, decide_eq_true_eq] at h
  exact chk_pos h.2.1
theorem check_len {s : List Int} (h : checkS s = true) : s.length ≤ 3 := by
  simp [checkS] at h; omega
theorem rep_set (a : Nat) (v : Int) (t : List Int) : (List.replicate (a + 1) (0 : Int) ++ t).set a v = List.replicate a 0 ++ v :: t := by
  rw [List.set_append_left _ _ (by simp), List.replicate_succ']
  rw [List.set_append_right _ _ (by simp)]
  simp
theorem p_shape_Index (s : List Int) (p : Int) : PureC Try.prog fi_shape_Index [dI s, dN p] (if (decide (p < 0) || decide (p ≥ sizeS s)) = true then .tup [dI [], dN 20] else .tup [dI (idxF s p), dN 0]) := by
  refine pure_shape_Index (by simp) fun G hP hn => ?_
  unfold a_shape_Index
  refine T_wf 0 fun hl => ?_
  simp only [initE, lk, dI, eI, DV.av, wf_one, wf_sl, if_true, List.length_map] at hl
  by_cases hck : checkS s = true
  · have hl3 := check_len hck
    have hM : MaxN = 140737488355328 := rfl
    have q1 : (s.length : Int) * 8 ≤ MaxN := by omega
    have q2 : (s.length : Int) ≤ MaxN := by omega
    repeat' (first     | refine T_then ?_ | refine then_ret ?_ | refine then_exit ?_ | refine then_goto ?_     | refine rnd_exit ?_ | refine rnd_ret ?_ | refine rnd_goto ?_     | refine noGo_normal ?_ | refine noGo_ret ?_ | refine noGo_exit ?_ | refine jmp_normal ?_ | refine jmp_ret ?_ | refine jmp_exit ?_ | refine jmp_goto ?_     | refine inB_normal ?_ | refine inB_ret ?_ | refine inB_goto ?_ | refine inB_exit ?_ | refine inB_exit_ne rfl ?_     | ((first | apply T_sr fw | apply T_reg fw); · ((try simp only [go_sem, seval, reduceIte, ↓reduceIte, hP, q1, q2, Int.le_refl]); (repeat ((first       | (refine ⟨true, false, rfl, fun h => absurd h (by decide), ?_⟩) | (refine ⟨false, false, rfl, fun h => absurd h (by decide), ?_⟩) | refine ⟨_, _, rfl, fun _ => rfl, ?_⟩       | (refine .inl ⟨_, _, ⟨_, _, _, _, _, _, rfl, rfl, rfl, p_shape_Size _⟩, ?_⟩)       | (refine ⟨_, ?_, rfl, fun _ => ⟨_, ⟨_, _, _, _, _, _, rfl, rfl, rfl, p_shape_Size _⟩, ?_⟩, ?_⟩; rotate_left; (· (simp only [go_sem, seval, reduceIte, ↓reduceIte, hP, q1, q2, Int.le_refl]; first | done | exact rfl)))); (try simp only [go_sem, seval, reduceIte, ↓reduceIte, hP, q1, q2, Int.le_refl]))); (first | done | exact rfl)))     | ((first | apply T_sdF fw (by rw [hP]; rfl) (by decide +kernel) | apply T_drF fw (by rw [hP]; rfl) (by decide +kernel)); · ((try simp only [TOps.flat, List.cons_append, List.nil_append]); (repeat ((first | refine Y_g0 ?_ | refine Y_g (by (try simp only [go_sem, seval, reduceIte, ↓reduceIte, Bool.not_eq_true, reduceCtorEq, beq_false, beq_true, hP, q1, q2, Int.le_refl]); (first | done | exact rfl)) ?_); (first | refine Y_skip ?_ | ((first | apply Y_q | (refine Y_call ⟨_, _, _, _, _, _, rfl, rfl, rfl, (by rw [hP]; exact p_shape_Size _)⟩ ?_ ?_)); (· ((try simp only [go_sem, seval, reduceIte, ↓reduceIte, Bool.not_eq_true, reduceCtorEq, beq_false, beq_true, hP, q1, q2, Int.le_refl]); (first | done | exact rfl))))))); apply RunF_nil; (try simp only [go_sem, seval, reduceIte, ↓reduceIte, Bool.not_eq_true, reduceCtorEq, beq_false, beq_true, hP, q1, q2, Int.le_refl]); (first | done | exact rfl)))     | ((first | apply T_sd fw (by rw [hP]; rfl) | apply T_dr fw (by rw [hP]; rfl)); · ((try simp only [go_sem, seval, reduceIte, ↓reduceIte, bne, beq_false, beq_true, Bool.not_eq_true, Bool.if_true_right, decide_not, reduceCtorEq, hP, q1, q2, Int.le_refl]); (repeat ((first       | (refine ⟨_, ⟨_, _, _, _, _, _, rfl, rfl, rfl, p_shape_Size _⟩, ?_⟩)); (try simp only [go_sem, seval, reduceIte, ↓reduceIte, bne, beq_false, beq_true, Bool.not_eq_true, Bool.if_true_right, decide_not, reduceCtorEq, hP, q1, q2, Int.le_refl]))); (first | done | exact rfl)))     | refine T_seq ?_ | refine T_block ?_ | refine T_scopeJ 0 rfl ?_ | refine T_scope ?_ | refine T_goto ?_ | refine T_ret ?_ | refine T_skip ?_ | refine T_exit ?_ | refine T_label ?_     | refine T_condT rfl ?_ | refine T_condF rfl ?_     | refine T_condD rfl (fun _ => ?_) (fun _ => ?_)     | refine T_cond rfl (fun _ => ?_) (fun _ => ?_))
    · rename_i h
      exact ends_ret rfl rfl rfl (by simp only [resD]; rw [if_pos h]; rfl)
    · rename_i h
      refine T_for s.length (fun i (a : Int × List Int) => { env := [(0, .one (.p (eI s))), (1, .one (.p (.int .i64 a.1))), (6, .one (.msl 19 0 1 s.length (some s.length))), (21, .one (.p (.int .i64 s.length))), (22, .one (.p (.int .i64 i)))], σ := [(19, .arr true 1 (rI (List.replicate (s.length - i) 0 ++ a.2)))] })
        (fun i a => a.2.length = i ∧ (digs (s.reverse.drop i) a.1).reverse ++ a.2 = idxF s p) (p, []) ⟨rfl, by simp [idxF]⟩ (by simp; exact .refl _ _) fun i a hi hc => ?_
      obtain ⟨q, t⟩ := a
      obtain ⟨hc1, hc2⟩ := hc
      simp only at hc1 hc2
      rcases nth (s := s.reverse) (i := i) (by simpa using hi) with ⟨m, hlt, hm, hd⟩ | ⟨hi2, hd⟩
      · have hlt : i < s.length := by simpa using hlt
        have hm2 : s[s.length - 1 - i]? = some m := by rw [← hm, List.getElem?_reverse hlt]
        have hm1 : 1 ≤ m := (check_pos hck m (List.mem_of_getElem? hm2)).1
        have hm0 : ¬ m = 0 := by omega
        have w1 : IntKind.i64.wrap ((s.length : Int) - 1) = (s.length : Int) - 1 := wrap_in (by omega) (by omega)
        have w2 : IntKind.i64.wrap ((s.length : Int) - 1 - i) = ((s.length - 1 - i : Nat) : Int) := by rw [wrap_in (by omega) (by omega)]; omega
        have w3 := wrap_succ hlt hl.1
        have c1 : s.length - 1 - i < s.length := by omega
        have hrep : List.replicate (s.length - i) (0 : Int) = List.replicate (s.length - 1 - i + 1) 0 := by congr 1; omega
        have hz : (List.replicate (s.length - 1 - i + 1) (0 : Int) ++ t)[s.length - 1 - i]? = some 0 := by
          rw [List.getElem?_append_left (by simp)]; simp
        have hst := rep_set (s.length - 1 - i) (q.tmod m) t
        have hlen : (List.replicate (s.length - 1 - i + 1) (0 : Int) ++ t).length = s.length := by simp; omega
        rw [hrep]
        generalize List.replicate (s.length - 1 - i + 1) (0 : Int) ++ t = R at hz hst hlen
        repeat' (first     | refine T_then ?_ | refine then_ret ?_ | refine then_exit ?_ | refine then_goto ?_     | refine rnd_exit ?_ | refine rnd_ret ?_ | refine rnd_goto ?_     | refine noGo_normal ?_ | refine noGo_ret ?_ | refine noGo_exit ?_ | refine jmp_normal ?_ | refine jmp_ret ?_ | refine jmp_exit ?_ | refine jmp_goto ?_     | refine inB_normal ?_ | refine inB_ret ?_ | refine inB_goto ?_ | refine inB_exit ?_ | refine inB_exit_ne rfl ?_     | ((first | apply T_sr fw | apply T_reg fw); · ((try simp only [go_sem, seval, reduceIte, ↓reduceIte, hP, hlt, hm2, hm0, w1, w2, w3, c1, hz, hlen, rI_set]); (repeat ((first       | (refine ⟨true, false, rfl, fun h => absurd h (by decide), ?_⟩) | (refine ⟨false, false, rfl, fun h => absurd h (by decide), ?_⟩) | refine ⟨_, _, rfl, fun _ => rfl, ?_⟩); (try simp only [go_sem, seval, reduceIte, ↓reduceIte, hP, hlt, hm2, hm0, w1, w2, w3, c1, hz, hlen, rI_set]))); (first | done | exact rfl)))     | ((first | apply T_sdF fw (by rw [hP]; rfl) (by decide +kernel) | apply T_drF fw (by rw [hP]; rfl) (by decide +kernel)); · ((try simp only [TOps.flat, List.cons_append, List.nil_append]); (repeat ((first | refine Y_g0 ?_ | refine Y_g (by (try simp only [go_sem, seval, reduceIte, ↓reduceIte, Bool.not_eq_true, reduceCtorEq, beq_false, beq_true, hP, hlt, hm2, hm0, w1, w2, w3, c1, hz, hlen, rI_set]); (first | done | exact rfl)) ?_); (first | refine Y_skip ?_ | ((first | apply Y_q); (· ((try simp only [go_sem, seval, reduceIte, ↓reduceIte, Bool.not_eq_true, reduceCtorEq, beq_false, beq_true, hP, hlt, hm2, hm0, w1, w2, w3, c1, hz, hlen, rI_set]); (first | done | exact rfl))))))); apply RunF_nil; (try simp only [go_sem, seval, reduceIte, ↓reduceIte, Bool.not_eq_true, reduceCtorEq, beq_false, beq_true, hP, hlt, hm2, hm0, w1, w2, w3, c1, hz, hlen, rI_set]); (first | done | exact rfl)))     | ((first | apply T_sd fw (by rw [hP]; rfl) | apply T_dr fw (by rw [hP]; rfl)); · ((try simp only [go_sem, seval, reduceIte, ↓reduceIte, bne, beq_false, beq_true, Bool.not_eq_true, Bool.if_true_right, decide_not, reduceCtorEq, hP, hlt, hm2, hm0, w1, w2, w3, c1, hz, hlen, rI_set]); (first | done | exact rfl)))     | refine T_seq ?_ | refine T_block ?_ | refine T_scopeJ 0 rfl ?_ | refine T_scope ?_ | refine T_goto ?_ | refine T_ret ?_ | refine T_skip ?_ | refine T_exit ?_ | refine T_label ?_     | refine T_condT rfl ?_ | refine T_condF rfl ?_     | refine T_condD rfl (fun _ => ?_) (fun _ => ?_)     | refine T_cond rfl (fun _ => ?_) (fun _ => ?_))
        refine rnd_next hlt (IntKind.i64.wrap (q.tdiv m), q.tmod m :: t) ⟨by simp [hc1], ?_⟩ ?_
        · rw [hd] at hc2
          simp only [digs, List.reverse_cons, List.append_assoc, List.singleton_append, List.cons_append, List.nil_append] at hc2
          exact hc2
        · rw [hst, show s.length - 1 - i = s.length - (i + 1) from by omega]
          exact .refl _ _
      · have hi3 : i = s.length := by simpa using hi2
        subst hi3
        repeat' (first     | refine T_then ?_ | refine then_ret ?_ | refine then_exit ?_ | refine then_goto ?_     | refine rnd_exit ?_ | refine rnd_ret ?_ | refine rnd_goto ?_     | refine noGo_normal ?_ | refine noGo_ret ?_ | refine noGo_exit ?_ | refine jmp_normal ?_ | refine jmp_ret ?_ | refine jmp_exit ?_ | refine jmp_goto ?_     | refine inB_normal ?_ | refine inB_ret ?_ | refine inB_goto ?_ | refine inB_exit ?_ | refine inB_exit_ne rfl ?_     | ((first | apply T_sr fw | apply T_reg fw); · ((try simp only [go_sem, seval, reduceIte, ↓reduceIte, hP, Int.lt_irrefl, Nat.lt_irrefl]); (repeat ((first       | (refine ⟨true, false, rfl, fun h => absurd h (by decide), ?_⟩) | (refine ⟨false, false, rfl, fun h => absurd h (by decide), ?_⟩) | refine ⟨_, _, rfl, fun _ => rfl, ?_⟩); (try simp only [go_sem, seval, reduceIte, ↓reduceIte, hP, Int.lt_irrefl, Nat.lt_irrefl]))); (first | done | exact rfl)))     | ((first | apply T_sdF fw (by rw [hP]; rfl) (by decide +kernel) | apply T_drF fw (by rw [hP]; rfl) (by decide +kernel)); · ((try simp only [TOps.flat, List.cons_append, List.nil_append]); (repeat ((first | refine Y_g0 ?_ | refine Y_g (by (try simp only [go_sem, seval, reduceIte, ↓reduceIte, Bool.not_eq_true, reduceCtorEq, beq_false, beq_true, hP, Int.lt_irrefl, Nat.lt_irrefl]); (first | done | exact rfl)) ?_); (first | refine Y_skip ?_ | ((first | apply Y_q); (· ((try simp only [go_sem, seval, reduceIte, ↓reduceIte, Bool.not_eq_true, reduceCtorEq, beq_false, beq_true, hP, Int.lt_irrefl, Nat.lt_irrefl]); (first | done | exact rfl))))))); apply RunF_nil; (try simp only [go_sem, seval, reduceIte, ↓reduceIte, Bool.not_eq_true, reduceCtorEq, beq_false, beq_true, hP, Int.lt_irrefl, Nat.lt_irrefl]); (first | done | exact rfl)))     | ((first | apply T_sd fw (by rw [hP]; rfl) | apply T_dr fw (by rw [hP]; rfl)); · ((try simp only [go_sem, seval, reduceIte, ↓reduceIte, bne, beq_false, beq_true, Bool.not_eq_true, Bool.if_true_right, decide_not, reduceCtorEq, hP, Int.lt_irrefl, Nat.lt_irrefl]); (first | done | exact rfl)))     | refine T_seq ?_ | refine T_block ?_ | refine T_scopeJ 0 rfl ?_ | refine T_scope ?_ | refine T_goto ?_ | refine T_ret ?_ | refine T_skip ?_ | refine T_exit ?_ | refine T_label ?_     | refine T_condT rfl ?_ | refine T_condF rfl ?_     | refine T_condD rfl (fun _ => ?_) (fun _ => ?_)     | refine T_cond rfl (fun _ => ?_) (fun _ => ?_))
        have ht : t = idxF s p := by rw [← hc2, hd]; simp [digs]
        rw [if_neg (by rw [h]; simp)]
        rw [← ht]
        have e0 : List.replicate (s.length - s.length) (0 : Int) ++ t = t := by simp
        try rw [e0]
        exact ends_list2 (rows := rI t) rfl rfl (by simp [hc1])
  · have hs0 : sizeS s = 0 := by simp [sizeS, hck]
    rw [hs0]
    repeat' (first     | refine T_then ?_ | refine then_ret ?_ | refine then_exit ?_ | refine then_goto ?_     | refine rnd_exit ?_ | refine rnd_ret ?_ | refine rnd_goto ?_     | refine noGo_normal ?_ | refine noGo_ret ?_ | refine noGo_exit ?_ | refine jmp_normal ?_ | refine jmp_ret ?_ | refine jmp_exit ?_ | refine jmp_goto ?_     | refine inB_normal ?_ | refine inB_ret ?_ | refine inB_goto ?_ | refine inB_exit ?_ | refine inB_exit_ne rfl ?_     | ((first | apply T_sr fw | apply T_reg fw); · ((try simp only [go_sem, seval, reduceIte, ↓reduceIte, hP, hs0]); (repeat ((first       | (refine ⟨true, false, rfl, fun h => absurd h (by decide), ?_⟩) | (refine ⟨false, false, rfl, fun h => absurd h (by decide), ?_⟩) | refine ⟨_, _, rfl, fun _ => rfl, ?_⟩       | (refine .inl ⟨_, _, ⟨_, _, _, _, _, _, rfl, rfl, rfl, p_shape_Size _⟩, ?_⟩)       | (refine ⟨_, ?_, rfl, fun _ => ⟨_, ⟨_, _, _, _, _, _, rfl, rfl, rfl, p_shape_Size _⟩, ?_⟩, ?_⟩; rotate_left; (· (simp only [go_sem, seval, reduceIte, ↓reduceIte, hP, hs0]; first | done | exact rfl)))); (try simp only [go_sem, seval, reduceIte, ↓reduceIte, hP, hs0]))); (first | done | exact rfl)))     | ((first | apply T_sdF fw (by rw [hP]; rfl) (by decide +kernel) | apply T_drF fw (by rw [hP]; rfl) (by decide +kernel)); · ((try simp only [TOps.flat, List.cons_append, List.nil_append]); (repeat ((first | refine Y_g0 ?_ | refine Y_g (by (try simp only [go_sem, seval, reduceIte, ↓reduceIte, Bool.not_eq_true, reduceCtorEq, beq_false, beq_true, hP, hs0]); (first | done | exact rfl)) ?_); (first | refine Y_skip ?_ | ((first | apply Y_q | (refine Y_call ⟨_, _, _, _, _, _, rfl, rfl, rfl, (by rw [hP]; exact p_shape_Size _)⟩ ?_ ?_)); (· ((try simp only [go_sem, seval, reduceIte, ↓reduceIte, Bool.not_eq_true, reduceCtorEq, beq_false, beq_true, hP, hs0]); (first | done | exact rfl))))))); apply RunF_nil; (try simp only [go_sem, seval, reduceIte, ↓reduceIte, Bool.not_eq_true, reduceCtorEq, beq_false, beq_true, hP, hs0]); (first | done | exact rfl)))     | ((first | apply T_sd fw (by rw [hP]; rfl) | apply T_dr fw (by rw [hP]; rfl)); · ((try simp only [go_sem, seval, reduceIte, ↓reduceIte, bne, beq_false, beq_true, Bool.not_eq_true, Bool.if_true_right, decide_not, reduceCtorEq, hP, hs0]); (repeat ((first       | (refine ⟨_, ⟨_, _, _, _, _, _, rfl, rfl, rfl, p_shape_Size _⟩, ?_⟩)); (try simp only [go_sem, seval, reduceIte, ↓reduceIte, bne, beq_false, beq_true, Bool.not_eq_true, Bool.if_true_right, decide_not, reduceCtorEq, hP, hs0]))); (first | done | exact rfl)))     | refine T_seq ?_ | refine T_block ?_ | refine T_scopeJ 0 rfl ?_ | refine T_scope ?_ | refine T_goto ?_ | refine T_ret ?_ | refine T_skip ?_ | refine T_exit ?_ | refine T_label ?_     | refine T_condT rfl ?_ | refine T_condF rfl ?_     | refine T_condD rfl (fun _ => ?_) (fun _ => ?_)     | refine T_cond rfl (fun _ => ?_) (fun _ => ?_))
    · rename_i h
      exact ends_ret rfl rfl rfl (by simp only [resD]; rw [if_pos h]; rfl)
    · rename_i h
      simp only [Bool.or_eq_false_iff, decide_eq_false_iff_not] at h
      omega
end Go.AM

namespace Go.AM
open Go Go.Proofs
set_option maxRecDepth 100000

theorem p_ref02_product (s : List Int) : PureC Try.prog fi_fullerref02_product [dI s] (dN (prodW s 1)) := by
  refine pure_fullerref02_product (by simp) fun G hP hn => ?_
  unfold a_fullerref02_product
  refine T_wf 0 fun hl => ?_
  simp only [initE, lk, dI, eI, DV.av, wf_one, wf_sl, if_true, List.length_map] at hl
  repeat' (first     | refine T_then ?_ | refine then_ret ?_ | refine then_exit ?_ | refine then_goto ?_     | refine rnd_exit ?_ | refine rnd_ret ?_ | refine rnd_goto ?_     | refine noGo_normal ?_ | refine noGo_ret ?_ | refine noGo_exit ?_ | refine jmp_normal ?_ | refine jmp_ret ?_ | refine jmp_exit ?_ | refine jmp_goto ?_     | refine inB_normal ?_ | refine inB_ret ?_ | refine inB_goto ?_ | refine inB_exit ?_ | refine inB_exit_ne rfl ?_     | ((first | apply T_sr fw | apply T_reg fw); · ((try simp only [go_sem, seval, reduceIte, ↓reduceIte, hP]); (repeat ((first       | (refine ⟨true, false, rfl, fun h => absurd h (by decide), ?_⟩) | (refine ⟨false, false, rfl, fun h => absurd h (by decide), ?_⟩) | refine ⟨_, _, rfl, fun _ => rfl, ?_⟩); (try simp only [go_sem, seval, reduceIte, ↓reduceIte, hP]))); (first | done | exact rfl)))     | ((first | apply T_sdF fw (by rw [hP]; rfl) (by decide +kernel) | apply T_drF fw (by rw [hP]; rfl) (by decide +kernel)); · ((try simp only [TOps.flat, List.cons_append, List.nil_append]); (repeat ((first | refine Y_g0 ?_ | refine Y_g (by (try simp only [go_sem, seval, reduceIte, ↓reduceIte, Bool.not_eq_true, reduceCtorEq, beq_false, beq_true, hP]); (first | done | exact rfl)) ?_); (first | refine Y_skip ?_ | ((first | apply Y_q); (· ((try simp only [go_sem, seval, reduceIte, ↓reduceIte, Bool.not_eq_true, reduceCtorEq, beq_false, beq_true, hP]); (first | done | exact rfl))))))); apply RunF_nil; (try simp only [go_sem, seval, reduceIte, ↓reduceIte, Bool.not_eq_true, reduceCtorEq, beq_false, beq_true, hP]); (first | done | exact rfl)))     | ((first | apply T_sd fw (by rw [hP]; rfl) | apply T_dr fw (by rw [hP]; rfl)); · ((try simp only [go_sem, seval, reduceIte, ↓reduceIte, bne, beq_false, beq_true, Bool.not_eq_true, Bool.if_true_right, decide_not, reduceCtorEq, hP]); (first | done | exact rfl)))     | refine T_seq ?_ | refine T_block ?_ | refine T_scopeJ 0 rfl ?_ | refine T_scope ?_ | refine T_goto ?_ | refine T_ret ?_ | refine T_skip ?_ | refine T_exit ?_ | refine T_label ?_     | refine T_condT rfl ?_ | refine T_condF rfl ?_     | refine T_condD rfl (fun _ => ?_) (fun _ => ?_)     | refine T_cond rfl (fun _ => ?_) (fun _ => ?_))
  refine T_for s.length (fun i acc => { env := [(0, .one (.p (eI s))), (3, .one (.p (.int .i64 acc))), (4, .one (.p (.int .i64 i)))], σ := [] })
    (fun i acc => prodW (s.drop i) acc = prodW s 1) 1 rfl (.refl _ _) fun i acc hi hc => ?_
  rcases nth hi with ⟨x, hlt, hx, hd⟩ | ⟨rfl, hd⟩
  · have hw := wrap_succ hlt hl.1
    rw [hd] at hc
    repeat' (first     | refine T_then ?_ | refine then_ret ?_ | refine then_exit ?_ | refine then_goto ?_     | refine rnd_exit ?_ | refine rnd_ret ?_ | refine rnd_goto ?_     | refine noGo_normal ?_ | refine noGo_ret ?_ | refine noGo_exit ?_ | refine jmp_normal ?_ | refine jmp_ret ?_ | refine jmp_exit ?_ | refine jmp_goto ?_     | refine inB_normal ?_ | refine inB_ret ?_ | refine inB_goto ?_ | refine inB_exit ?_ | refine inB_exit_ne rfl ?_     | ((first | apply T_sr fw | apply T_reg fw); · ((try simp only [go_sem, seval, reduceIte, ↓reduceIte, hx, hlt, hw]); (repeat ((first       | (refine ⟨true, false, rfl, fun h => absurd h (by decide), ?_⟩) | (refine ⟨false, false, rfl, fun h => absurd h (by decide), ?_⟩) | refine ⟨_, _, rfl, fun _ => rfl, ?_⟩); (try simp only [go_sem, seval, reduceIte, ↓reduceIte, hx, hlt, hw]))); (first | done | exact rfl)))     | ((first | apply T_sdF fw (by rw [hP]; rfl) (by decide +kernel) | apply T_drF fw (by rw [hP]; rfl) (by decide +kernel)); · ((try simp only [TOps.flat, List.cons_append, List.nil_append]); (repeat ((first | refine Y_g0 ?_ | refine Y_g (by (try simp only [go_sem, seval, reduceIte, ↓reduceIte, Bool.not_eq_true, reduceCtorEq, beq_false, beq_true, hx, hlt, hw]); (first | done | exact rfl)) ?_); (first | refine Y_skip ?_ | ((first | apply Y_q); (· ((try simp only [go_sem, seval, reduceIte, ↓reduceIte, Bool.not_eq_true, reduceCtorEq, beq_false, beq_true, hx, hlt, hw]); (first | done | exact rfl))))))); apply RunF_nil; (try simp only [go_sem, seval, reduceIte, ↓reduceIte, Bool.not_eq_true, reduceCtorEq, beq_false, beq_true, hx, hlt, hw]); (first | done | exact rfl)))     | ((first | apply T_sd fw (by rw [hP]; rfl) | apply T_dr fw (by rw [hP]; rfl)); · ((try simp only [go_sem, seval, reduceIte, ↓reduceIte, bne, beq_false, beq_true, Bool.not_eq_true, Bool.if_true_right, decide_not, reduceCtorEq, hx, hlt, hw]); (first | done | exact rfl)))     | refine T_seq ?_ | refine T_block ?_ | refine T_scopeJ 0 rfl ?_ | refine T_scope ?_ | refine T_goto ?_ | refine T_ret ?_ | refine T_skip ?_ | refine T_exit ?_ | refine T_label ?_     | refine T_condT rfl ?_ | refine T_condF rfl ?_     | refine T_condD rfl (fun _ => ?_) (fun _ => ?_)     | refine T_cond rfl (fun _ => ?_) (fun _ => ?_))
    exact rnd_next hlt _ hc (.refl _ _)
  · rw [hd] at hc
    repeat' (first     | refine T_then ?_ | refine then_ret ?_ | refine then_exit ?_ | refine then_goto ?_     | refine rnd_exit ?_ | refine rnd_ret ?_ | refine rnd_goto ?_     | refine noGo_normal ?_ | refine noGo_ret ?_ | refine noGo_exit ?_ | refine jmp_normal ?_ | refine jmp_ret ?_ | refine jmp_exit ?_ | refine jmp_goto ?_     | refine inB_normal ?_ | refine inB_ret ?_ | refine inB_goto ?_ | refine inB_exit ?_ | refine inB_exit_ne rfl ?_     | ((first | apply T_sr fw | apply T_reg fw); · ((try simp only [go_sem, seval, reduceIte, ↓reduceIte, Int.lt_irrefl, Nat.lt_irrefl]); (repeat ((first       | (refine ⟨true, false, rfl, fun h => absurd h (by decide), ?_⟩) | (refine ⟨false, false, rfl, fun h => absurd h (by decide), ?_⟩) | refine ⟨_, _, rfl, fun _ => rfl, ?_⟩); (try simp only [go_sem, seval, reduceIte, ↓reduceIte, Int.lt_irrefl, Nat.lt_irrefl]))); (first | done | exact rfl)))     | ((first | apply T_sdF fw (by rw [hP]; rfl) (by decide +kernel) | apply T_drF fw (by rw [hP]; rfl) (by decide +kernel)); · ((try simp only [TOps.flat, List.cons_append, List.nil_append]); (repeat ((first | refine Y_g0 ?_ | refine Y_g (by (try simp only [go_sem, seval, reduceIte, ↓reduceIte, Bool.not_eq_true, reduceCtorEq, beq_false, beq_true, Int.lt_irrefl, Nat.lt_irrefl]); (first | done | exact rfl)) ?_); (first | refine Y_skip ?_ | ((first | apply Y_q); (· ((try simp only [go_sem, seval, reduceIte, ↓reduceIte, Bool.not_eq_true, reduceCtorEq, beq_false, beq_true, Int.lt_irrefl, Nat.lt_irrefl]); (first | done | exact rfl))))))); apply RunF_nil; (try simp only [go_sem, seval, reduceIte, ↓reduceIte, Bool.not_eq_true, reduceCtorEq, beq_false, beq_true, Int.lt_irrefl, Nat.lt_irrefl]); (first | done | exact rfl)))     | ((first | apply T_sd fw (by rw [hP]; rfl) | apply T_dr fw (by rw [hP]; rfl)); · ((try simp only [go_sem, seval, reduceIte, ↓reduceIte, bne, beq_false, beq_true, Bool.not_eq_true, Bool.if_true_right, decide_not, reduceCtorEq, Int.lt_irrefl, Nat.lt_irrefl]); (first | done | exact rfl)))     | refine T_seq ?_ | refine T_block ?_ | refine T_scopeJ 0 rfl ?_ | refine T_scope ?_ | refine T_goto ?_ | refine T_ret ?_ | refine T_skip ?_ | refine T_exit ?_ | refine T_label ?_     | refine T_condT rfl ?_ | refine T_condF rfl ?_     | refine T_condD rfl (fun _ => ?_) (fun _ => ?_)     | refine T_cond rfl (fun _ => ?_) (fun _ => ?_))
    exact ends_ret rfl rfl rfl (by simp only [prodW] at hc; simp [resD, hc])
def eqL : List Int → List Int → Bool
  | a :: s, b :: t => if (!(a == b)) = true then false else eqL s t
  | _, _ => true
def sameL (s t : List Int) : Bool := if ((s.length : Int) != t.length) = true then false else eqL s t
theorem p_slices_Equal (s t : List Int) : PureC Try.prog fi_slices_Equal_int_int [dI s, dI t] (dB (sameL s t)) := by
  refine pure_slices_Equal_int_int (by simp) fun G hP hn => ?_
  unfold a_slices_Equal_int_int
  refine T_wf 0 fun hl => ?_
  simp only [initE, lk, dI, eI, DV.av, wf_one, wf_sl, if_true, List.length_map] at hl
  repeat' (first     | refine T_then ?_ | refine then_ret ?_ | refine then_exit ?_ | refine then_goto ?_     | refine rnd_exit ?_ | refine rnd_ret ?_ | refine rnd_goto ?_     | refine noGo_normal ?_ | refine noGo_ret ?_ | refine noGo_exit ?_ | refine jmp_normal ?_ | refine jmp_ret ?_ | refine jmp_exit ?_ | refine jmp_goto ?_     | refine inB_normal ?_ | refine inB_ret ?_ | refine inB_goto ?_ | refine inB_exit ?_ | refine inB_exit_ne rfl ?_     | ((first | apply T_sr fw | apply T_reg fw); · ((try simp only [go_sem, seval, reduceIte, ↓reduceIte, hP]); (repeat ((first       | (refine ⟨true, false, rfl, fun h => absurd h (by decide), ?_⟩) | (refine ⟨false, false, rfl, fun h => absurd h (by decide), ?_⟩) | refine ⟨_, _, rfl, fun _ => rfl, ?_⟩); (try simp only [go_sem, seval, reduceIte, ↓reduceIte, hP]))); (first | done | exact rfl)))     | ((first | apply T_sdF fw (by rw [hP]; rfl) (by decide +kernel) | apply T_drF fw (by rw [hP]; rfl) (by decide +kernel)); · ((try simp only [TOps.flat, List.cons_append, List.nil_append]); (repeat ((first | refine Y_g0 ?_ | refine Y_g (by (try simp only [go_sem, seval, reduceIte, ↓reduceIte, Bool.not_eq_true, reduceCtorEq, beq_false, beq_true, hP]); (first | done | exact rfl)) ?_); (first | refine Y_skip ?_ | ((first | apply Y_q); (· ((try simp only [go_sem, seval, reduceIte, ↓reduceIte, Bool.not_eq_true, reduceCtorEq, beq_false, beq_true, hP]); (first | done | exact rfl))))))); apply RunF_nil; (try simp only [go_sem, seval, reduceIte, ↓reduceIte, Bool.not_eq_true, reduceCtorEq, beq_false, beq_true, hP]); (first | done | exact rfl)))     | ((first | apply T_sd fw (by rw [hP]; rfl) | apply T_dr fw (by rw [hP]; rfl)); · ((try simp only [go_sem, seval, reduceIte, ↓reduceIte, bne, beq_false, beq_true, Bool.not_eq_true, Bool.if_true_right, decide_not, reduceCtorEq, hP]); (first | done | exact rfl)))     | refine T_seq ?_ | refine T_block ?_ | refine T_scopeJ 0 rfl ?_ | refine T_scope ?_ | refine T_goto ?_ | refine T_ret ?_ | refine T_skip ?_ | refine T_exit ?_ | refine T_label ?_     | refine T_condT rfl ?_ | refine T_condF rfl ?_     | refine T_condD rfl (fun _ => ?_) (fun _ => ?_)     | refine T_cond rfl (fun _ => ?_) (fun _ => ?_))
  · rename_i h
    exact ends_ret rfl rfl rfl (by simp only [resD, sameL]; rw [if_pos h])
  · rename_i h
    have hxl : t.length = s.length := by
      simp only [bne_eq_false_iff_eq] at h
      omega
    refine T_for s.length (fun i (_ : Unit) => { env := [(0, .one (.p (eI s))), (1, .one (.p (eI t))), (12, .one (.p (.int .i64 s.length))), (13, .one (.p (.int .i64 i)))], σ := [] })
      (fun i _ => eqL (s.drop i) (t.drop i) = eqL s t) () rfl (.refl _ _) fun i _ hi hc => ?_
    rcases nth hi with ⟨m, hlt, hm, hd⟩ | ⟨rfl, hd⟩
    · rcases nth (s := t) (i := i) (by omega) with ⟨k, hlt2, hk, hd2⟩ | ⟨hi2, _⟩
      · have hw := wrap_succ hlt hl.1
        rw [hd, hd2] at hc
        simp only [eqL] at hc
        repeat' (first     | refine T_then ?_ | refine then_ret ?_ | refine then_exit ?_ | refine then_goto ?_     | refine rnd_exit ?_ | refine rnd_ret ?_ | refine rnd_goto ?_     | refine noGo_normal ?_ | refine noGo_ret ?_ | refine noGo_exit ?_ | refine jmp_normal ?_ | refine jmp_ret ?_ | refine jmp_exit ?_ | refine jmp_goto ?_     | refine inB_normal ?_ | refine inB_ret ?_ | refine inB_goto ?_ | refine inB_exit ?_ | refine inB_exit_ne rfl ?_     | ((first | apply T_sr fw | apply T_reg fw); · ((try simp only [go_sem, seval, reduceIte, ↓reduceIte, hP, hm, hk, hlt, hlt2, hw]); (repeat ((first       | (refine ⟨true, false, rfl, fun h => absurd h (by decide), ?_⟩) | (refine ⟨false, false, rfl, fun h => absurd h (by decide), ?_⟩) | refine ⟨_, _, rfl, fun _ => rfl, ?_⟩); (try simp only [go_sem, seval, reduceIte, ↓reduceIte, hP, hm, hk, hlt, hlt2, hw]))); (first | done | exact rfl)))     | ((first | apply T_sdF fw (by rw [hP]; rfl) (by decide +kernel) | apply T_drF fw (by rw [hP]; rfl) (by decide +kernel)); · ((try simp only [TOps.flat, List.cons_append, List.nil_append]); (repeat ((first | refine Y_g0 ?_ | refine Y_g (by (try simp only [go_sem, seval, reduceIte, ↓reduceIte, Bool.not_eq_true, reduceCtorEq, beq_false, beq_true, hP, hm, hk, hlt, hlt2, hw]); (first | done | exact rfl)) ?_); (first | refine Y_skip ?_ | ((first | apply Y_q); (· ((try simp only [go_sem, seval, reduceIte, ↓reduceIte, Bool.not_eq_true, reduceCtorEq, beq_false, beq_true, hP, hm, hk, hlt, hlt2, hw]); (first | done | exact rfl))))))); apply RunF_nil; (try simp only [go_sem, seval, reduceIte, ↓reduceIte, Bool.not_eq_true, reduceCtorEq, beq_false, beq_true, hP, hm, hk, hlt, hlt2, hw]); (first | done | exact rfl)))     | ((first | apply T_sd fw (by rw [hP]; rfl) | apply T_dr fw (by rw [hP]; rfl)); · ((try simp only [go_sem, seval, reduceIte, ↓reduceIte, bne, beq_false, beq_true, Bool.not_eq_true, Bool.if_true_right, decide_not, reduceCtorEq, hP, hm, hk, hlt, hlt2, hw]); (first | done | exact rfl)))     | refine T_seq ?_ | refine T_block ?_ | refine T_scopeJ 0 rfl ?_ | refine T_scope ?_ | refine T_goto ?_ | refine T_ret ?_ | refine T_skip ?_ | refine T_exit ?_ | refine T_label ?_     | refine T_condT rfl ?_ | refine T_condF rfl ?_     | refine T_condD rfl (fun _ => ?_) (fun _ => ?_)     | refine T_cond rfl (fun _ => ?_) (fun _ => ?_))
        · rename_i h2
          have h2 : (!(m == k)) = true := h2
          rw [if_pos h2] at hc
          exact ends_ret rfl rfl rfl (by simp only [resD, sameL]; rw [if_neg (by rw [h]; simp), ← hc])
        · rename_i h2
          have h2 : (!(m == k)) = false := h2
          rw [if_neg (by rw [h2]; simp)] at hc
          exact rnd_next hlt () hc (.refl _ _)
      · omega
    · rw [hd] at hc
      repeat' (first     | refine T_then ?_ | refine then_ret ?_ | refine then_exit ?_ | refine then_goto ?_     | refine rnd_exit ?_ | refine rnd_ret ?_ | refine rnd_goto ?_     | refine noGo_normal ?_ | refine noGo_ret ?_ | refine noGo_exit ?_ | refine jmp_normal ?_ | refine jmp_ret ?_ | refine jmp_exit ?_ | refine jmp_goto ?_     | refine inB_normal ?_ | refine inB_ret ?_ | refine inB_goto ?_ | refine inB_exit ?_ | refine inB_exit_ne rfl ?_     | ((first | apply T_sr fw | apply T_reg fw); · ((try simp only [go_sem, seval, reduceIte, ↓reduceIte, Int.lt_irrefl, Nat.lt_irrefl]); (repeat ((first       | (refine ⟨true, false, rfl, fun h => absurd h (by decide), ?_⟩) | (refine ⟨false, false, rfl, fun h => absurd h (by decide), ?_⟩) | refine ⟨_, _, rfl, fun _ => rfl, ?_⟩); (try simp only [go_sem, seval, reduceIte, ↓reduceIte, Int.lt_irrefl, Nat.lt_irrefl]))); (first | done | exact rfl)))     | ((first | apply T_sdF fw (by rw [hP]; rfl) (by decide +kernel) | apply T_drF fw (by rw [hP]; rfl) (by decide +kernel)); · ((try simp only [TOps.flat, List.cons_append, List.nil_append]); (repeat ((first | refine Y_g0 ?_ | refine Y_g (by (try simp only [go_sem, seval, reduceIte, ↓reduceIte, Bool.not_eq_true, reduceCtorEq, beq_false, beq_true, Int.lt_irrefl, Nat.lt_irrefl]); (first | done | exact rfl)) ?_); (first | refine Y_skip ?_ | ((first | apply Y_q); (· ((try simp only [go_sem, seval, reduceIte, ↓reduceIte, Bool.not_eq_true, reduceCtorEq, beq_false, beq_true, Int.lt_irrefl, Nat.lt_irrefl]); (first | done | exact rfl))))))); apply RunF_nil; (try simp only [go_sem, seval, reduceIte, ↓reduceIte, Bool.not_eq_true, reduceCtorEq, beq_false, beq_true, Int.lt_irrefl, Nat.lt_irrefl]); (first | done | exact rfl)))     | ((first | apply T_sd fw (by rw [hP]; rfl) | apply T_dr fw (by rw [hP]; rfl)); · ((try simp only [go_sem, seval, reduceIte, ↓reduceIte, bne, beq_false, beq_true, Bool.not_eq_true, Bool.if_true_right, decide_not, reduceCtorEq, Int.lt_irrefl, Nat.lt_irrefl]); (first | done | exact rfl)))     | refine T_seq ?_ | refine T_block ?_ | refine T_scopeJ 0 rfl ?_ | refine T_scope ?_ | refine T_goto ?_ | refine T_ret ?_ | refine T_skip ?_ | refine T_exit ?_ | refine T_label ?_     | refine T_condT rfl ?_ | refine T_condF rfl ?_     | refine T_condD rfl (fun _ => ?_) (fun _ => ?_)     | refine T_cond rfl (fun _ => ?_) (fun _ => ?_))
      simp only [eqL] at hc
      exact ends_ret rfl rfl rfl (by simp only [resD, sameL]; rw [if_neg (by rw [h]; simp), ← hc])
end Go.AM

namespace Go.AM
open Go Go.Proofs
set_option maxRecDepth 100000

theorem chk_all : ∀ {s : List Int} {a : Int}, (∀ m ∈ s, 1 ≤ m ∧ m ≤ 16) → chk s a = prodW s a
  | [], a, _ => rfl
  | x :: r, a, h => by
    have hx := h x (by simp)
    simp only [chk, prodW]
    rw [if_neg (by omega)]
    exact chk_all fun m hm => h m (by simp [hm])
theorem chk_bad : ∀ {s : List Int} {a m : Int}, m ∈ s → (m < 1 ∨ m > 16) → chk s a = 0
  | x :: r, a, m, hm, hb => by
    simp only [chk]
    split
    · rfl
    · rename_i hx
      rcases List.mem_cons.1 hm with rfl | hm
      · exact absurd hb hx
      · exact chk_bad hm hb
theorem prod_pos : ∀ {s : List Int}, s.length ≤ 3 → (∀ m ∈ s, 1 ≤ m ∧ m ≤ 16) → prodW s 1 > 0
  | [], _, _ => by decide
  | [a], _, h => by
    have h1 := h a (by simp)
    simp only [prodW]
    rw [wrap_in (by omega) (by omega)]; omega
  | [a, b], _, h => by
    have h1 := h a (by simp)
    have h2 := h b (by simp)
    simp only [prodW]
    have e1 : (1 : Int) * a = a := by omega
    have p1 : 1 ≤ a * b := by
      have := Int.mul_le_mul h1.1 h2.1 (by omega) (by omega); omega
    have p2 : a * b ≤ 16 * 16 := Int.mul_le_mul h1.2 h2.2 (by omega) (by omega)
    rw [e1, wrap_in (n := a) (by omega) (by omega), wrap_in (n := a * b) (by omega) (by omega)]; omega
  | [a, b, c], _, h => by
    have h1 := h a (by simp)
    have h2 := h b (by simp)
    have h3 := h c (by simp)
    simp only [prodW]
    have e1 : (1 : Int) * a = a := by omega
    have p1 : 1 ≤ a * b := by
      have := Int.mul_le_mul h1.1 h2.1 (by omega) (by omega); omega
    have p2 : a * b ≤ 16 * 16 := Int.mul_le_mul h1.2 h2.2 (by omega) (by omega)
    have p3 : 1 ≤ a * b * c := by
      have := Int.mul_le_mul p1 h3.1 (by omega) (by omega); omega
    have p4 : a * b * c ≤ 256 * 16 := Int.mul_le_mul (by omega) h3.2 (by omega) (by omega)
    rw [e1, wrap_in (n := a) (by omega) (by omega), wrap_in (n := a * b) (by omega) (by omega), wrap_in (n := a * b * c) (by omega) (by omega)]; omega
  | _ :: _ :: _ :: _ :: _, h, _ => by simp at h
theorem p_ref02_Check (s : List Int) : PureC Try.prog fi_fullerref02_Check [dI s] (dB (checkS s)) := by
  refine pure_fullerref02_Check (by simp) fun G hP hn => ?_
  unfold a_fullerref02_Check
  refine T_wf 0 fun hl => ?_
  simp only [initE, lk, dI, eI, DV.av, wf_one, wf_sl, if_true, List.length_map] at hl
  repeat' (first     | refine T_then ?_ | refine then_ret ?_ | refine then_exit ?_ | refine then_goto ?_     | refine rnd_exit ?_ | refine rnd_ret ?_ | refine rnd_goto ?_     | refine noGo_normal ?_ | refine noGo_ret ?_ | refine noGo_exit ?_ | refine jmp_normal ?_ | refine jmp_ret ?_ | refine jmp_exit ?_ | refine jmp_goto ?_     | refine inB_normal ?_ | refine inB_ret ?_ | refine inB_goto ?_ | refine inB_exit ?_ | refine inB_exit_ne rfl ?_     | ((first | apply T_sr fw | apply T_reg fw); · ((try simp only [go_sem, seval, reduceIte, ↓reduceIte, hP]); (repeat ((first       | (refine ⟨true, false, rfl, fun h => absurd h (by decide), ?_⟩) | (refine ⟨false, false, rfl, fun h => absurd h (by decide), ?_⟩) | refine ⟨_, _, rfl, fun _ => rfl, ?_⟩); (try simp only [go_sem, seval, reduceIte, ↓reduceIte, hP]))); (first | done | exact rfl)))     | ((first | apply T_sdF fw (by rw [hP]; rfl) (by decide +kernel) | apply T_drF fw (by rw [hP]; rfl) (by decide +kernel)); · ((try simp only [TOps.flat, List.cons_append, List.nil_append]); (repeat ((first | refine Y_g0 ?_ | refine Y_g (by (try simp only [go_sem, seval, reduceIte, ↓reduceIte, Bool.not_eq_true, reduceCtorEq, beq_false, beq_true, hP]); (first | done | exact rfl)) ?_); (first | refine Y_skip ?_ | ((first | apply Y_q); (· ((try simp only [go_sem, seval, reduceIte, ↓reduceIte, Bool.not_eq_true, reduceCtorEq, beq_false, beq_true, hP]); (first | done | exact rfl))))))); apply RunF_nil; (try simp only [go_sem, seval, reduceIte, ↓reduceIte, Bool.not_eq_true, reduceCtorEq, beq_false, beq_true, hP]); (first | done | exact rfl)))     | ((first | apply T_sd fw (by rw [hP]; rfl) | apply T_dr fw (by rw [hP]; rfl)); · ((try simp only [go_sem, seval, reduceIte, ↓reduceIte, bne, beq_false, beq_true, Bool.not_eq_true, Bool.if_true_right, decide_not, reduceCtorEq, hP]); (first | done | exact rfl)))     | refine T_seq ?_ | refine T_block ?_ | refine T_scopeJ 0 rfl ?_ | refine T_scope ?_ | refine T_goto ?_ | refine T_ret ?_ | refine T_skip ?_ | refine T_exit ?_ | refine T_label ?_     | refine T_condT rfl ?_ | refine T_condF rfl ?_     | refine T_condD rfl (fun _ => ?_) (fun _ => ?_)     | refine T_cond rfl (fun _ => ?_) (fun _ => ?_))
  · rename_i h
    exact ends_ret rfl rfl rfl (by simp [resD, checkS, h])
  · rename_i h
    refine T_for s.length (fun i (_ : Unit) => { env := [(0, .one (.p (eI s))), (3, .one (.p (.int .i64 i)))], σ := [] })
      (fun i _ => ∀ j m, j < i → s[j]? = some m → 1 ≤ m ∧ m ≤ 16) () (by intro j m hj; omega) (.refl _ _) fun i _ hi hc => ?_
    rcases nth hi with ⟨x, hlt, hx, hd⟩ | ⟨rfl, hd⟩
    · have hw := wrap_succ hlt hl.1
      repeat' (first     | refine T_then ?_ | refine then_ret ?_ | refine then_exit ?_ | refine then_goto ?_     | refine rnd_exit ?_ | refine rnd_ret ?_ | refine rnd_goto ?_     | refine noGo_normal ?_ | refine noGo_ret ?_ | refine noGo_exit ?_ | refine jmp_normal ?_ | refine jmp_ret ?_ | refine jmp_exit ?_ | refine jmp_goto ?_     | refine inB_normal ?_ | refine inB_ret ?_ | refine inB_goto ?_ | refine inB_exit ?_ | refine inB_exit_ne rfl ?_     | ((first | apply T_sr fw | apply T_reg fw); · ((try simp only [go_sem, seval, reduceIte, ↓reduceIte, hP, hx, hlt, hw]); (repeat ((first       | (refine ⟨true, false, rfl, fun h => absurd h (by decide), ?_⟩) | (refine ⟨false, false, rfl, fun h => absurd h (by decide), ?_⟩) | refine ⟨_, _, rfl, fun _ => rfl, ?_⟩); (try simp only [go_sem, seval, reduceIte, ↓reduceIte, hP, hx, hlt, hw]))); (first | done | exact rfl)))     | ((first | apply T_sdF fw (by rw [hP]; rfl) (by decide +kernel) | apply T_drF fw (by rw [hP]; rfl) (by decide +kernel)); · ((try simp only [TOps.flat, List.cons_append, List.nil_append]); (repeat ((first | refine Y_g0 ?_ | refine Y_g (by (try simp only [go_sem, seval, reduceIte, ↓reduceIte, Bool.not_eq_true, reduceCtorEq, beq_false, beq_true, hP, hx, hlt, hw]); (first | done | exact rfl)) ?_); (first | refine Y_skip ?_ | ((first | apply Y_q); (· ((try simp only [go_sem, seval, reduceIte, ↓reduceIte, Bool.not_eq_true, reduceCtorEq, beq_false, beq_true, hP, hx, hlt, hw]); (first | done | exact rfl))))))); apply RunF_nil; (try simp only [go_sem, seval, reduceIte, ↓reduceIte, Bool.not_eq_true, reduceCtorEq, beq_false, beq_true, hP, hx, hlt, hw]); (first | done | exact rfl)))     | ((first | apply T_sd fw (by rw [hP]; rfl) | apply T_dr fw (by rw [hP]; rfl)); · ((try simp only [go_sem, seval, reduceIte, ↓reduceIte, bne, beq_false, beq_true, Bool.not_eq_true, Bool.if_true_right, decide_not, reduceCtorEq, hP, hx, hlt, hw]); (first | done | exact rfl)))     | refine T_seq ?_ | refine T_block ?_ | refine T_scopeJ 0 rfl ?_ | refine T_scope ?_ | refine T_goto ?_ | refine T_ret ?_ | refine T_skip ?_ | refine T_exit ?_ | refine T_label ?_     | refine T_condT rfl ?_ | refine T_condF rfl ?_     | refine T_condD rfl (fun _ => ?_) (fun _ => ?_)     | refine T_cond rfl (fun _ => ?_) (fun _ => ?_))
      · rename_i h2
        have h3 : chk s 1 = 0 := chk_bad (List.mem_of_getElem? hx) (by simpa using h2)
        exact ends_ret rfl rfl rfl (by simp [resD, checkS, h3])
      · rename_i h2
        refine rnd_next hlt () (fun j m hj hm => ?_) (.refl _ _)
        by_cases hji : j = i
        · subst hji
          rw [hx] at hm; cases hm
          simp at h2; omega
        · exact hc j m (by omega) hm
    · repeat' (first     | refine T_then ?_ | refine then_ret ?_ | refine then_exit ?_ | refine then_goto ?_     | refine rnd_exit ?_ | refine rnd_ret ?_ | refine rnd_goto ?_     | refine noGo_normal ?_ | refine noGo_ret ?_ | refine noGo_exit ?_ | refine jmp_normal ?_ | refine jmp_ret ?_ | refine jmp_exit ?_ | refine jmp_goto ?_     | refine inB_normal ?_ | refine inB_ret ?_ | refine inB_goto ?_ | refine inB_exit ?_ | refine inB_exit_ne rfl ?_     | ((first | apply T_sr fw | apply T_reg fw); · ((try simp only [go_sem, seval, reduceIte, ↓reduceIte, hP, Int.lt_irrefl, Nat.lt_irrefl]); (repeat ((first       | (refine ⟨true, false, rfl, fun h => absurd h (by decide), ?_⟩) | (refine ⟨false, false, rfl, fun h => absurd h (by decide), ?_⟩) | refine ⟨_, _, rfl, fun _ => rfl, ?_⟩       | (refine .inl ⟨_, _, ⟨_, _, _, _, _, _, rfl, rfl, rfl, p_ref02_product _⟩, ?_⟩)       | (refine ⟨_, ?_, rfl, fun _ => ⟨_, ⟨_, _, _, _, _, _, rfl, rfl, rfl, p_ref02_product _⟩, ?_⟩, ?_⟩; rotate_left; (· (simp only [go_sem, seval, reduceIte, ↓reduceIte, hP, Int.lt_irrefl, Nat.lt_irrefl]; first | done | exact rfl)))); (try simp only [go_sem, seval, reduceIte, ↓reduceIte, hP, Int.lt_irrefl, Nat.lt_irrefl]))); (first | done | exact rfl)))     | ((first | apply T_sdF fw (by rw [hP]; rfl) (by decide +kernel) | apply T_drF fw (by rw [hP]; rfl) (by decide +kernel)); · ((try simp only [TOps.flat, List.cons_append, List.nil_append]); (repeat ((first | refine Y_g0 ?_ | refine Y_g (by (try simp only [go_sem, seval, reduceIte, ↓reduceIte, Bool.not_eq_true, reduceCtorEq, beq_false, beq_true, hP, Int.lt_irrefl, Nat.lt_irrefl]); (first | done | exact rfl)) ?_); (first | refine Y_skip ?_ | ((first | apply Y_q | (refine Y_call ⟨_, _, _, _, _, _, rfl, rfl, rfl, (by rw [hP]; exact p_ref02_product _)⟩ ?_ ?_)); (· ((try simp only [go_sem, seval, reduceIte, ↓reduceIte, Bool.not_eq_true, reduceCtorEq, beq_false, beq_true, hP, Int.lt_irrefl, Nat.lt_irrefl]); (first | done | exact rfl))))))); apply RunF_nil; (try simp only [go_sem, seval, reduceIte, ↓reduceIte, Bool.not_eq_true, reduceCtorEq, beq_false, beq_true, hP, Int.lt_irrefl, Nat.lt_irrefl]); (first | done | exact rfl)))     | ((first | apply T_sd fw (by rw [hP]; rfl) | apply T_dr fw (by rw [hP]; rfl)); · ((try simp only [go_sem, seval, reduceIte, ↓reduceIte, bne, beq_false, beq_true, Bool.not_eq_true, Bool.if_true_right, decide_not, reduceCtorEq, hP, Int.lt_irrefl, Nat.lt_irrefl]); (repeat ((first       | (refine ⟨_, ⟨_, _, _, _, _, _, rfl, rfl, rfl, p_ref02_product _⟩, ?_⟩)); (try simp only [go_sem, seval, reduceIte, ↓reduceIte, bne, beq_false, beq_true, Bool.not_eq_true, Bool.if_true_right, decide_not, reduceCtorEq, hP, Int.lt_irrefl, Nat.lt_irrefl]))); (first | done | exact rfl)))     | refine T_seq ?_ | refine T_block ?_ | refine T_scopeJ 0 rfl ?_ | refine T_scope ?_ | refine T_goto ?_ | refine T_ret ?_ | refine T_skip ?_ | refine T_exit ?_ | refine T_label ?_     | refine T_condT rfl ?_ | refine T_condF rfl ?_     | refine T_condD rfl (fun _ => ?_) (fun _ => ?_)     | refine T_cond rfl (fun _ => ?_) (fun _ => ?_))
      have hall : ∀ m ∈ s, 1 ≤ m ∧ m ≤ 16 := fun m hm => by
        obtain ⟨j, hj, rfl⟩ := List.getElem_of_mem hm
        exact hc j _ hj (List.getElem?_eq_getElem hj)
      have hpos := prod_pos (s := s) (by omega) hall
      have h4 := chk_all (a := 1) hall
      exact ends_ret rfl rfl rfl (by simp [resD, checkS, h4, hpos]; omega)
end Go.AM

namespace Go.AM
open Go Go.Proofs
set_option maxRecDepth 100000

theorem p_ref02_Size (s : List Int) : PureC Try.prog fi_fullerref02_Size [dI s] (dN (sizeS s)) := by
  refine pure_fullerref02_Size (by simp) fun G hP hn => ?_
  unfold a_fullerref02_Size
  repeat' (first     | refine T_then ?_ | refine then_ret ?_ | refine then_exit ?_ | refine then_goto ?_     | refine rnd_exit ?_ | refine rnd_ret ?_ | refine rnd_goto ?_     | refine noGo_normal ?_ | refine noGo_ret ?_ | refine noGo_exit ?_ | refine jmp_normal ?_ | refine jmp_ret ?_ | refine jmp_exit ?_ | refine jmp_goto ?_     | refine inB_normal ?_ | refine inB_ret ?_ | refine inB_goto ?_ | refine inB_exit ?_ | refine inB_exit_ne rfl ?_     | ((first | apply T_sr fw | apply T_reg fw); · ((try simp only [go_sem, seval, reduceIte, ↓reduceIte, hP]); (repeat ((first       | (refine ⟨true, false, rfl, fun h => absurd h (by decide), ?_⟩) | (refine ⟨false, false, rfl, fun h => absurd h (by decide), ?_⟩) | refine ⟨_, _, rfl, fun _ => rfl, ?_⟩       | (refine .inl ⟨_, _, ⟨_, _, _, _, _, _, rfl, rfl, rfl, p_ref02_Check _⟩, ?_⟩)       | (refine .inl ⟨_, _, ⟨_, _, _, _, _, _, rfl, rfl, rfl, p_ref02_product _⟩, ?_⟩)       | (refine ⟨_, ?_, rfl, fun _ => ⟨_, ⟨_, _, _, _, _, _, rfl, rfl, rfl, p_ref02_Check _⟩, ?_⟩, ?_⟩; rotate_left; (· (simp only [go_sem, seval, reduceIte, ↓reduceIte, hP]; first | done | exact rfl)))       | (refine ⟨_, ?_, rfl, fun _ => ⟨_, ⟨_, _, _, _, _, _, rfl, rfl, rfl, p_ref02_product _⟩, ?_⟩, ?_⟩; rotate_left; (· (simp only [go_sem, seval, reduceIte, ↓reduceIte, hP]; first | done | exact rfl)))); (try simp only [go_sem, seval, reduceIte, ↓reduceIte, hP]))); (first | done | exact rfl)))     | ((first | apply T_sdF fw (by rw [hP]; rfl) (by decide +kernel) | apply T_drF fw (by rw [hP]; rfl) (by decide +kernel)); · ((try simp only [TOps.flat, List.cons_append, List.nil_append]); (repeat ((first | refine Y_g0 ?_ | refine Y_g (by (try simp only [go_sem, seval, reduceIte, ↓reduceIte, Bool.not_eq_true, reduceCtorEq, beq_false, beq_true, hP]); (first | done | exact rfl)) ?_); (first | refine Y_skip ?_ | ((first | apply Y_q | (refine Y_call ⟨_, _, _, _, _, _, rfl, rfl, rfl, (by rw [hP]; exact p_ref02_Check _)⟩ ?_ ?_) | (refine Y_call ⟨_, _, _, _, _, _, rfl, rfl, rfl, (by rw [hP]; exact p_ref02_product _)⟩ ?_ ?_)); (· ((try simp only [go_sem, seval, reduceIte, ↓reduceIte, Bool.not_eq_true, reduceCtorEq, beq_false, beq_true, hP]); (first | done | exact rfl))))))); apply RunF_nil; (try simp only [go_sem, seval, reduceIte, ↓reduceIte, Bool.not_eq_true, reduceCtorEq, beq_false, beq_true, hP]); (first | done | exact rfl)))     | ((first | apply T_sd fw (by rw [hP]; rfl) | apply T_dr fw (by rw [hP]; rfl)); · ((try simp only [go_sem, seval, reduceIte, ↓reduceIte, bne, beq_false, beq_true, Bool.not_eq_true, Bool.if_true_right, decide_not, reduceCtorEq, hP]); (repeat ((first       | (refine ⟨_, ⟨_, _, _, _, _, _, rfl, rfl, rfl, p_ref02_Check _⟩, ?_⟩)       | (refine ⟨_, ⟨_, _, _, _, _, _, rfl, rfl, rfl, p_ref02_product _⟩, ?_⟩)); (try simp only [go_sem, seval, reduceIte, ↓reduceIte, bne, beq_false, beq_true, Bool.not_eq_true, Bool.if_true_right, decide_not, reduceCtorEq, hP]))); (first | done | exact rfl)))     | refine T_seq ?_ | refine T_block ?_ | refine T_scopeJ 0 rfl ?_ | refine T_scope ?_ | refine T_goto ?_ | refine T_ret ?_ | refine T_skip ?_ | refine T_exit ?_ | refine T_label ?_     | refine T_condT rfl ?_ | refine T_condF rfl ?_     | refine T_condD rfl (fun _ => ?_) (fun _ => ?_)     | refine T_cond rfl (fun _ => ?_) (fun _ => ?_))
  · rename_i h
    exact ends_ret rfl rfl rfl (by simp at h; simp [resD, sizeS, h])
  · rename_i h
    exact ends_ret rfl rfl rfl (by simp at h; simp [resD, sizeS, h])
theorem p_ref03_Check (s d : List Int) : PureC Try.prog fi_fullerref03_Check [dT s d] (dB (checkT s d)) := by
  refine pure_fullerref03_Check (by simp) fun G hP hn => ?_
  unfold a_fullerref03_Check
  cases hc : checkS s
  · repeat' (first     | refine T_then ?_ | refine then_ret ?_ | refine then_exit ?_ | refine then_goto ?_     | refine rnd_exit ?_ | refine rnd_ret ?_ | refine rnd_goto ?_     | refine noGo_normal ?_ | refine noGo_ret ?_ | refine noGo_exit ?_ | refine jmp_normal ?_ | refine jmp_ret ?_ | refine jmp_exit ?_ | refine jmp_goto ?_     | refine inB_normal ?_ | refine inB_ret ?_ | refine inB_goto ?_ | refine inB_exit ?_ | refine inB_exit_ne rfl ?_     | ((first | apply T_sr fw | apply T_reg fw); · ((try simp only [go_sem, seval, reduceIte, ↓reduceIte, hP, hc]); (repeat ((first       | (refine ⟨true, false, rfl, fun h => absurd h (by decide), ?_⟩) | (refine ⟨false, false, rfl, fun h => absurd h (by decide), ?_⟩) | refine ⟨_, _, rfl, fun _ => rfl, ?_⟩       | (refine .inl ⟨_, _, ⟨_, _, _, _, _, _, rfl, rfl, rfl, p_ref02_Check _⟩, ?_⟩)       | (refine .inl ⟨_, _, ⟨_, _, _, _, _, _, rfl, rfl, rfl, p_ref02_Size _⟩, ?_⟩)       | (refine ⟨_, ?_, rfl, fun _ => ⟨_, ⟨_, _, _, _, _, _, rfl, rfl, rfl, p_ref02_Check _⟩, ?_⟩, ?_⟩; rotate_left; (· (simp only [go_sem, seval, reduceIte, ↓reduceIte, hP, hc]; first | done | exact rfl)))       | (refine ⟨_, ?_, rfl, fun _ => ⟨_, ⟨_, _, _, _, _, _, rfl, rfl, rfl, p_ref02_Size _⟩, ?_⟩, ?_⟩; rotate_left; (· (simp only [go_sem, seval, reduceIte, ↓reduceIte, hP, hc]; first | done | exact rfl)))); (try simp only [go_sem, seval, reduceIte, ↓reduceIte, hP, hc]))); (first | done | exact rfl)))     | ((first | apply T_sdF fw (by rw [hP]; rfl) (by decide +kernel) | apply T_drF fw (by rw [hP]; rfl) (by decide +kernel)); · ((try simp only [TOps.flat, List.cons_append, List.nil_append]); (repeat ((first | refine Y_g0 ?_ | refine Y_g (by (try simp only [go_sem, seval, reduceIte, ↓reduceIte, Bool.not_eq_true, reduceCtorEq, beq_false, beq_true, hP, hc]); (first | done | exact rfl)) ?_); (first | refine Y_skip ?_ | ((first | apply Y_q | (refine Y_call ⟨_, _, _, _, _, _, rfl, rfl, rfl, (by rw [hP]; exact p_ref02_Check _)⟩ ?_ ?_) | (refine Y_call ⟨_, _, _, _, _, _, rfl, rfl, rfl, (by rw [hP]; exact p_ref02_Size _)⟩ ?_ ?_)); (· ((try simp only [go_sem, seval, reduceIte, ↓reduceIte, Bool.not_eq_true, reduceCtorEq, beq_false, beq_true, hP, hc]); (first | done | exact rfl))))))); apply RunF_nil; (try simp only [go_sem, seval, reduceIte, ↓reduceIte, Bool.not_eq_true, reduceCtorEq, beq_false, beq_true, hP, hc]); (first | done | exact rfl)))     | ((first | apply T_sd fw (by rw [hP]; rfl) | apply T_dr fw (by rw [hP]; rfl)); · ((try simp only [go_sem, seval, reduceIte, ↓reduceIte, bne, beq_false, beq_true, Bool.not_eq_true, Bool.if_true_right, decide_not, reduceCtorEq, hP, hc]); (repeat ((first       | (refine ⟨_, ⟨_, _, _, _, _, _, rfl, rfl, rfl, p_ref02_Check _⟩, ?_⟩)       | (refine ⟨_, ⟨_, _, _, _, _, _, rfl, rfl, rfl, p_ref02_Size _⟩, ?_⟩)); (try simp only [go_sem, seval, reduceIte, ↓reduceIte, bne, beq_false, beq_true, Bool.not_eq_true, Bool.if_true_right, decide_not, reduceCtorEq, hP, hc]))); (first | done | exact rfl)))     | refine T_seq ?_ | refine T_block ?_ | refine T_scopeJ 0 rfl ?_ | refine T_scope ?_ | refine T_goto ?_ | refine T_ret ?_ | refine T_skip ?_ | refine T_exit ?_ | refine T_label ?_     | refine T_condT rfl ?_ | refine T_condF rfl ?_     | refine T_condD rfl (fun _ => ?_) (fun _ => ?_)     | refine T_cond rfl (fun _ => ?_) (fun _ => ?_))
    exact ends_ret rfl rfl rfl (by simp [resD, checkT, hc])
  · repeat' (first     | refine T_then ?_ | refine then_ret ?_ | refine then_exit ?_ | refine then_goto ?_     | refine rnd_exit ?_ | refine rnd_ret ?_ | refine rnd_goto ?_     | refine noGo_normal ?_ | refine noGo_ret ?_ | refine noGo_exit ?_ | refine jmp_normal ?_ | refine jmp_ret ?_ | refine jmp_exit ?_ | refine jmp_goto ?_     | refine inB_normal ?_ | refine inB_ret ?_ | refine inB_goto ?_ | refine inB_exit ?_ | refine inB_exit_ne rfl ?_     | ((first | apply T_sr fw | apply T_reg fw); · ((try simp only [go_sem, seval, reduceIte, ↓reduceIte, hP, hc]); (repeat ((first       | (refine ⟨true, false, rfl, fun h => absurd h (by decide), ?_⟩) | (refine ⟨false, false, rfl, fun h => absurd h (by decide), ?_⟩) | refine ⟨_, _, rfl, fun _ => rfl, ?_⟩       | (refine .inl ⟨_, _, ⟨_, _, _, _, _, _, rfl, rfl, rfl, p_ref02_Check _⟩, ?_⟩)       | (refine .inl ⟨_, _, ⟨_, _, _, _, _, _, rfl, rfl, rfl, p_ref02_Size _⟩, ?_⟩)       | (refine ⟨_, ?_, rfl, fun _ => ⟨_, ⟨_, _, _, _, _, _, rfl, rfl, rfl, p_ref02_Check _⟩, ?_⟩, ?_⟩; rotate_left; (· (simp only [go_sem, seval, reduceIte, ↓reduceIte, hP, hc]; first | done | exact rfl)))       | (refine ⟨_, ?_, rfl, fun _ => ⟨_, ⟨_, _, _, _, _, _, rfl, rfl, rfl, p_ref02_Size _⟩, ?_⟩, ?_⟩; rotate_left; (· (simp only [go_sem, seval, reduceIte, ↓reduceIte, hP, hc]; first | done | exact rfl)))); (try simp only [go_sem, seval, reduceIte, ↓reduceIte, hP, hc]))); (first | done | exact rfl)))     | ((first | apply T_sdF fw (by rw [hP]; rfl) (by decide +kernel) | apply T_drF fw (by rw [hP]; rfl) (by decide +kernel)); · ((try simp only [TOps.flat, List.cons_append, List.nil_append]); (repeat ((first | refine Y_g0 ?_ | refine Y_g (by (try simp only [go_sem, seval, reduceIte, ↓reduceIte, Bool.not_eq_true, reduceCtorEq, beq_false, beq_true, hP, hc]); (first | done | exact rfl)) ?_); (first | refine Y_skip ?_ | ((first | apply Y_q | (refine Y_call ⟨_, _, _, _, _, _, rfl, rfl, rfl, (by rw [hP]; exact p_ref02_Check _)⟩ ?_ ?_) | (refine Y_call ⟨_, _, _, _, _, _, rfl, rfl, rfl, (by rw [hP]; exact p_ref02_Size _)⟩ ?_ ?_)); (· ((try simp only [go_sem, seval, reduceIte, ↓reduceIte, Bool.not_eq_true, reduceCtorEq, beq_false, beq_true, hP, hc]); (first | done | exact rfl))))))); apply RunF_nil; (try simp only [go_sem, seval, reduceIte, ↓reduceIte, Bool.not_eq_true, reduceCtorEq, beq_false, beq_true, hP, hc]); (first | done | exact rfl)))     | ((first | apply T_sd fw (by rw [hP]; rfl) | apply T_dr fw (by rw [hP]; rfl)); · ((try simp only [go_sem, seval, reduceIte, ↓reduceIte, bne, beq_false, beq_true, Bool.not_eq_true, Bool.if_true_right, decide_not, reduceCtorEq, hP, hc]); (repeat ((first       | (refine ⟨_, ⟨_, _, _, _, _, _, rfl, rfl, rfl, p_ref02_Check _⟩, ?_⟩)       | (refine ⟨_, ⟨_, _, _, _, _, _, rfl, rfl, rfl, p_ref02_Size _⟩, ?_⟩)); (try simp only [go_sem, seval, reduceIte, ↓reduceIte, bne, beq_false, beq_true, Bool.not_eq_true, Bool.if_true_right, decide_not, reduceCtorEq, hP, hc]))); (first | done | exact rfl)))     | refine T_seq ?_ | refine T_block ?_ | refine T_scopeJ 0 rfl ?_ | refine T_scope ?_ | refine T_goto ?_ | refine T_ret ?_ | refine T_skip ?_ | refine T_exit ?_ | refine T_label ?_     | refine T_condT rfl ?_ | refine T_condF rfl ?_     | refine T_condD rfl (fun _ => ?_) (fun _ => ?_)     | refine T_cond rfl (fun _ => ?_) (fun _ => ?_))
    exact ends_ret rfl rfl rfl (by simp [resD, checkT, hc])
end Go.AM

namespace Go.AM
open Go Go.Proofs
set_option maxRecDepth 100000

theorem p_ref02_Same (s t : List Int) : PureC Try.prog fi_fullerref02_Same [dI s, dI t] (dB (sameL s t)) := by
  refine pure_fullerref02_Same (by simp) fun G hP hn => ?_
  unfold a_fullerref02_Same
  refine T_wf 0 fun hl => ?_
  simp only [initE, lk, dI, eI, DV.av, wf_one, wf_sl, if_true, List.length_map] at hl
  repeat' (first     | refine T_then ?_ | refine then_ret ?_ | refine then_exit ?_ | refine then_goto ?_     | refine rnd_exit ?_ | refine rnd_ret ?_ | refine rnd_goto ?_     | refine noGo_normal ?_ | refine noGo_ret ?_ | refine noGo_exit ?_ | refine jmp_normal ?_ | refine jmp_ret ?_ | refine jmp_exit ?_ | refine jmp_goto ?_     | refine inB_normal ?_ | refine inB_ret ?_ | refine inB_goto ?_ | refine inB_exit ?_ | refine inB_exit_ne rfl ?_     | ((first | apply T_sr fw | apply T_reg fw); · ((try simp only [go_sem, seval, reduceIte, ↓reduceIte, hP]); (repeat ((first       | (refine ⟨true, false, rfl, fun h => absurd h (by decide), ?_⟩) | (refine ⟨false, false, rfl, fun h => absurd h (by decide), ?_⟩) | refine ⟨_, _, rfl, fun _ => rfl, ?_⟩); (try simp only [go_sem, seval, reduceIte, ↓reduceIte, hP]))); (first | done | exact rfl)))     | ((first | apply T_sdF fw (by rw [hP]; rfl) (by decide +kernel) | apply T_drF fw (by rw [hP]; rfl) (by decide +kernel)); · ((try simp only [TOps.flat, List.cons_append, List.nil_append]); (repeat ((first | refine Y_g0 ?_ | refine Y_g (by (try simp only [go_sem, seval, reduceIte, ↓reduceIte, Bool.not_eq_true, reduceCtorEq, beq_false, beq_true, hP]); (first | done | exact rfl)) ?_); (first | refine Y_skip ?_ | ((first | apply Y_q); (· ((try simp only [go_sem, seval, reduceIte, ↓reduceIte, Bool.not_eq_true, reduceCtorEq, beq_false, beq_true, hP]); (first | done | exact rfl))))))); apply RunF_nil; (try simp only [go_sem, seval, reduceIte, ↓reduceIte, Bool.not_eq_true, reduceCtorEq, beq_false, beq_true, hP]); (first | done | exact rfl)))     | ((first | apply T_sd fw (by rw [hP]; rfl) | apply T_dr fw (by rw [hP]; rfl)); · ((try simp only [go_sem, seval, reduceIte, ↓reduceIte, bne, beq_false, beq_true, Bool.not_eq_true, Bool.if_true_right, decide_not, reduceCtorEq, hP]); (first | done | exact rfl)))     | refine T_seq ?_ | refine T_block ?_ | refine T_scopeJ 0 rfl ?_ | refine T_scope ?_ | refine T_goto ?_ | refine T_ret ?_ | refine T_skip ?_ | refine T_exit ?_ | refine T_label ?_     | refine T_condT rfl ?_ | refine T_condF rfl ?_     | refine T_condD rfl (fun _ => ?_) (fun _ => ?_)     | refine T_cond rfl (fun _ => ?_) (fun _ => ?_))
  · rename_i h
    exact ends_ret rfl rfl rfl (by simp only [resD, sameL]; rw [if_pos h])
  · rename_i h
    have hxl : t.length = s.length := by
      simp only [bne_eq_false_iff_eq] at h
      omega
    refine T_for s.length (fun i (_ : Unit) => { env := [(0, .one (.p (eI s))), (1, .one (.p (eI t))), (5, .one (.p (.int .i64 i)))], σ := [] })
      (fun i _ => eqL (s.drop i) (t.drop i) = eqL s t) () rfl (.refl _ _) fun i _ hi hc => ?_
    rcases nth hi with ⟨m, hlt, hm, hd⟩ | ⟨rfl, hd⟩
    · rcases nth (s := t) (i := i) (by omega) with ⟨k, hlt2, hk, hd2⟩ | ⟨hi2, _⟩
      · have hw := wrap_succ hlt hl.1
        rw [hd, hd2] at hc
        simp only [eqL] at hc
        repeat' (first     | refine T_then ?_ | refine then_ret ?_ | refine then_exit ?_ | refine then_goto ?_     | refine rnd_exit ?_ | refine rnd_ret ?_ | refine rnd_goto ?_     | refine noGo_normal ?_ | refine noGo_ret ?_ | refine noGo_exit ?_ | refine jmp_normal ?_ | refine jmp_ret ?_ | refine jmp_exit ?_ | refine jmp_goto ?_     | refine inB_normal ?_ | refine inB_ret ?_ | refine inB_goto ?_ | refine inB_exit ?_ | refine inB_exit_ne rfl ?_     | ((first | apply T_sr fw | apply T_reg fw); · ((try simp only [go_sem, seval, reduceIte, ↓reduceIte, hP, hm, hk, hlt, hlt2, hw]); (repeat ((first       | (refine ⟨true, false, rfl, fun h => absurd h (by decide), ?_⟩) | (refine ⟨false, false, rfl, fun h => absurd h (by decide), ?_⟩) | refine ⟨_, _, rfl, fun _ => rfl, ?_⟩); (try simp only [go_sem, seval, reduceIte, ↓reduceIte, hP, hm, hk, hlt, hlt2, hw]))); (first | done | exact rfl)))     | ((first | apply T_sdF fw (by rw [hP]; rfl) (by decide +kernel) | apply T_drF fw (by rw [hP]; rfl) (by decide +kernel)); · ((try simp only [TOps.flat, List.cons_append, List.nil_append]); (repeat ((first | refine Y_g0 ?_ | refine Y_g (by (try simp only [go_sem, seval, reduceIte, ↓reduceIte, Bool.not_eq_true, reduceCtorEq, beq_false, beq_true, hP, hm, hk, hlt, hlt2, hw]); (first | done | exact rfl)) ?_); (first | refine Y_skip ?_ | ((first | apply Y_q); (· ((try simp only [go_sem, seval, reduceIte, ↓reduceIte, Bool.not_eq_true, reduceCtorEq, beq_false, beq_true, hP, hm, hk, hlt, hlt2, hw]); (first | done | exact rfl))))))); apply RunF_nil; (try simp only [go_sem, seval, reduceIte, ↓reduceIte, Bool.not_eq_true, reduceCtorEq, beq_false, beq_true, hP, hm, hk, hlt, hlt2, hw]); (first | done | exact rfl)))     | ((first | apply T_sd fw (by rw [hP]; rfl) | apply T_dr fw (by rw [hP]; rfl)); · ((try simp only [go_sem, seval, reduceIte, ↓reduceIte, bne, beq_false, beq_true, Bool.not_eq_true, Bool.if_true_right, decide_not, reduceCtorEq, hP, hm, hk, hlt, hlt2, hw]); (first | done | exact rfl)))     | refine T_seq ?_ | refine T_block ?_ | refine T_scopeJ 0 rfl ?_ | refine T_scope ?_ | refine T_goto ?_ | refine T_ret ?_ | refine T_skip ?_ | refine T_exit ?_ | refine T_label ?_     | refine T_condT rfl ?_ | refine T_condF rfl ?_     | refine T_condD rfl (fun _ => ?_) (fun _ => ?_)     | refine T_cond rfl (fun _ => ?_) (fun _ => ?_))
        · rename_i h2
          have h2 : (!(m == k)) = true := h2
          rw [if_pos h2] at hc
          exact ends_ret rfl rfl rfl (by simp only [resD, sameL]; rw [if_neg (by rw [h]; simp), ← hc])
        · rename_i h2
          have h2 : (!(m == k)) = false := h2
          rw [if_neg (by rw [h2]; simp)] at hc
          exact rnd_next hlt () hc (.refl _ _)
      · omega
    · rw [hd] at hc
      repeat' (first     | refine T_then ?_ | refine then_ret ?_ | refine then_exit ?_ | refine then_goto ?_     | refine rnd_exit ?_ | refine rnd_ret ?_ | refine rnd_goto ?_     | refine noGo_normal ?_ | refine noGo_ret ?_ | refine noGo_exit ?_ | refine jmp_normal ?_ | refine jmp_ret ?_ | refine jmp_exit ?_ | refine jmp_goto ?_     | refine inB_normal ?_ | refine inB_ret ?_ | refine inB_goto ?_ | refine inB_exit ?_ | refine inB_exit_ne rfl ?_     | ((first | apply T_sr fw | apply T_reg fw); · ((try simp only [go_sem, seval, reduceIte, ↓reduceIte, Int.lt_irrefl, Nat.lt_irrefl]); (repeat ((first       | (refine ⟨true, false, rfl, fun h => absurd h (by decide), ?_⟩) | (refine ⟨false, false, rfl, fun h => absurd h (by decide), ?_⟩) | refine ⟨_, _, rfl, fun _ => rfl, ?_⟩); (try simp only [go_sem, seval, reduceIte, ↓reduceIte, Int.lt_irrefl, Nat.lt_irrefl]))); (first | done | exact rfl)))     | ((first | apply T_sdF fw (by rw [hP]; rfl) (by decide +kernel) | apply T_drF fw (by rw [hP]; rfl) (by decide +kernel)); · ((try simp only [TOps.flat, List.cons_append, List.nil_append]); (repeat ((first | refine Y_g0 ?_ | refine Y_g (by (try simp only [go_sem, seval, reduceIte, ↓reduceIte, Bool.not_eq_true, reduceCtorEq, beq_false, beq_true, Int.lt_irrefl, Nat.lt_irrefl]); (first | done | exact rfl)) ?_); (first | refine Y_skip ?_ | ((first | apply Y_q); (· ((try simp only [go_sem, seval, reduceIte, ↓reduceIte, Bool.not_eq_true, reduceCtorEq, beq_false, beq_true, Int.lt_irrefl, Nat.lt_irrefl]); (first | done | exact rfl))))))); apply RunF_nil; (try simp only [go_sem, seval, reduceIte, ↓reduceIte, Bool.not_eq_true, reduceCtorEq, beq_false, beq_true, Int.lt_irrefl, Nat.lt_irrefl]); (first | done | exact rfl)))     | ((first | apply T_sd fw (by rw [hP]; rfl) | apply T_dr fw (by rw [hP]; rfl)); · ((try simp only [go_sem, seval, reduceIte, ↓reduceIte, bne, beq_false, beq_true, Bool.not_eq_true, Bool.if_true_right, decide_not, reduceCtorEq, Int.lt_irrefl, Nat.lt_irrefl]); (first | done | exact rfl)))     | refine T_seq ?_ | refine T_block ?_ | refine T_scopeJ 0 rfl ?_ | refine T_scope ?_ | refine T_goto ?_ | refine T_ret ?_ | refine T_skip ?_ | refine T_exit ?_ | refine T_label ?_     | refine T_condT rfl ?_ | refine T_condF rfl ?_     | refine T_condD rfl (fun _ => ?_) (fun _ => ?_)     | refine T_cond rfl (fun _ => ?_) (fun _ => ?_))
      simp only [eqL] at hc
      exact ends_ret rfl rfl rfl (by simp only [resD, sameL]; rw [if_neg (by rw [h]; simp), ← hc])
end Go.AM

namespace Go.AM
open Go Go.Proofs

def prd : List Int → Int
  | [] => 1
  | m :: s => m * prd s
def Sides (s : List Int) : Prop := ∀ m ∈ s, 1 ≤ m ∧ m ≤ 16
theorem Sides.tail {m : Int} {s : List Int} (h : Sides (m :: s)) : Sides s := fun k hk => h k (by simp [hk])
theorem Sides.head {m : Int} {s : List Int} (h : Sides (m :: s)) : 1 ≤ m ∧ m ≤ 16 := h m (by simp)
theorem prd_pos : ∀ {s : List Int}, Sides s → 1 ≤ prd s
  | [], _ => by simp [prd]
  | m :: s, h => by
    have h1 := h.head
    have h2 := prd_pos h.tail
    simp only [prd]
    have : 1 * 1 ≤ m * prd s := Int.mul_le_mul h1.1 h2 (by omega) (by omega)
    omega
theorem prd_le : ∀ {s : List Int}, Sides s → prd s ≤ 16 ^ s.length
  | [], _ => by simp [prd]
  | m :: s, h => by
    have h1 := h.head
    have h2 := prd_le h.tail
    have h3 := prd_pos h.tail
    simp only [prd, List.length_cons]
    rw [Int.pow_succ, Int.mul_comm]
    exact Int.mul_le_mul h2 h1.2 (by omega) (by have : (0 : Int) ≤ 16 ^ s.length := Int.pow_nonneg (by decide); omega)
theorem prodW_eq : ∀ {s : List Int} {a : Int}, Sides s → 0 ≤ a → a * prd s ≤ 4611686018427387904 → prodW s a = a * prd s
  | [], a, _, _, _ => by simp [prodW, prd]
  | m :: s, a, h, h0, h1 => by
    have hm := h.head
    have hp := prd_pos h.tail
    simp only [prd, ← Int.mul_assoc] at h1
    have h2 : 0 ≤ a * m := Int.mul_nonneg h0 (by omega)
    have h3 : a * m * 1 ≤ a * m * prd s := Int.mul_le_mul_of_nonneg_left hp h2
    simp only [prodW]
    rw [wrap_in (by omega) (by omega), prodW_eq h.tail h2 h1]
    simp [prd, Int.mul_assoc]
theorem chk_eq : ∀ {s : List Int} {a : Int}, Sides s → chk s a = prodW s a
  | [], a, _ => rfl
  | m :: s, a, h => by
    have hm := h.head
    simp only [chk, prodW]
    rw [if_neg (by omega), chk_eq h.tail]
theorem chk_not : ∀ {s : List Int} {a : Int}, ¬ Sides s → chk s a = 0
  | [], a, h => absurd (fun m hm => by simp at hm) h
  | m :: s, a, h => by
    simp only [chk]
    split
    · rfl
    · rename_i hm
      refine chk_not fun hs => h fun k hk => ?_
      rcases List.mem_cons.1 hk with rfl | hk
      · omega
      · exact hs k hk
def ShapeOk (s : List Int) : Prop := s.length ≤ 3 ∧ Sides s ∧ prd s ≤ 64
theorem prodW_one {s : List Int} (h : Sides s) (h3 : s.length ≤ 3) : prodW s 1 = prd s := by
  have h1 := prd_le h
  have h2 : (16 : Int) ^ s.length ≤ 16 ^ 3 := by
    have : s.length = 0 ∨ s.length = 1 ∨ s.length = 2 ∨ s.length = 3 := by omega
    rcases this with e | e | e | e <;> rw [e] <;> decide
  have h4 : (16 : Int) ^ 3 = 4096 := by decide
  rw [prodW_eq h (by decide) (by omega)]
  omega
theorem checkS_iff {s : List Int} : checkS s = true ↔ ShapeOk s := by
  unfold checkS ShapeOk
  simp only [Bool.and_eq_true, Bool.not_eq_true', decide_eq_false_iff_not, decide_eq_true_eq]
  constructor
  · rintro ⟨h1, h2, h3⟩
    have h4 : s.length ≤ 3 := by omega
    by_cases hs : Sides s
    · rw [chk_eq hs, prodW_one hs h4] at h3
      exact ⟨h4, hs, h3⟩
    · rw [chk_not hs] at h2; omega
  · rintro ⟨h1, hs, h3⟩
    rw [chk_eq hs, prodW_one hs h1]
    have := prd_pos hs
    exact ⟨by omega, by omega, h3⟩
theorem sizeS_ok {s : List Int} (h : ShapeOk s) : sizeS s = prd s := by
  unfold sizeS
  rw [if_pos (checkS_iff.2 h), prodW_one h.2.1 h.1]
theorem sizeS_not {s : List Int} (h : ¬ ShapeOk s) : sizeS s = 0 := by
  unfold sizeS
  rw [if_neg (fun h' => h (checkS_iff.1 h'))]
theorem sizeS_nn (s : List Int) : 0 ≤ sizeS s ∧ sizeS s ≤ 64 := by
  by_cases h : ShapeOk s
  · rw [sizeS_ok h]
    have := prd_pos h.2.1
    have := h.2.2
    omega
  · rw [sizeS_not h]; omega
theorem sizeS_pos {s : List Int} (h : 0 < sizeS s) : ShapeOk s := by
  by_cases hs : ShapeOk s
  · exact hs
  · rw [sizeS_not hs] at h; omega
inductive InIdx : List Int → List Int → Prop
  | nil : InIdx [] []
  | cons {m k : Int} {s x : List Int} (h0 : 0 ≤ k) (h1 : k < m) (h : InIdx s x) : InIdx (m :: s) (k :: x)
def pl : List Int → List Int → Int → Int
  | m :: s, k :: x, a => pl s x (a * m + k)
  | _, _, a => a
theorem InIdx.length {s x : List Int} (h : InIdx s x) : s.length = x.length := by
  induction h with
  | nil => rfl
  | cons _ _ _ ih => simp [ih]
theorem pl_add {s x : List Int} (h : InIdx s x) (a : Int) : pl s x a = a * prd s + pl s x 0 := by
  induction h generalizing a with
  | nil => simp [pl, prd]
  | @cons m k s x h0 h1 h ih =>
    simp only [pl, prd]
    rw [ih (a * m + k), ih (0 * m + k)]
    simp [Int.add_mul, Int.mul_assoc, Int.add_assoc]
theorem pl_lt {s x : List Int} (h : InIdx s x) : 0 ≤ pl s x 0 ∧ pl s x 0 < prd s := by
  induction h with
  | nil => simp [pl, prd]
  | @cons m k s x h0 h1 h ih =>
    simp only [pl, prd]
    rw [pl_add h]
    have hp : 0 ≤ prd s := by omega
    have h2 : 0 ≤ k * prd s := Int.mul_nonneg h0 hp
    have h3 : (k + 1) * prd s ≤ m * prd s := Int.mul_le_mul_of_nonneg_right (by omega) hp
    simp only [Int.zero_mul, Int.zero_add]
    rw [Int.add_mul] at h3
    omega
theorem plW_ok {s x : List Int} (h : InIdx s x) : ∀ {a : Int}, 0 ≤ a → (a + 1) * prd s ≤ 4611686018427387904 → plW s x a = (pl s x a, 0) := by
  induction h with
  | nil => intro a _ _; rfl
  | @cons m k s x h0 h1 h ih =>
    intro a ha hb
    have hp : 1 ≤ prd s := by have := pl_lt h; omega
    have hm : 1 ≤ m := by omega
    simp only [prd, ← Int.mul_assoc] at hb
    have e1 : (a + 1) * m = a * m + m := by rw [Int.add_mul]; omega
    have h2 : 0 ≤ a * m := Int.mul_nonneg ha (by omega)
    have h3 : (a + 1) * m * 1 ≤ (a + 1) * m * prd s := Int.mul_le_mul_of_nonneg_left hp (by omega)
    have h4 : (a * m + k + 1) * prd s ≤ (a + 1) * m * prd s := Int.mul_le_mul_of_nonneg_right (by omega) (by omega)
    simp only [plW, pl]
    rw [if_neg (by omega), wrap_in (n := a * m) (by omega) (by omega), wrap_in (by omega) (by omega), ih (by omega) (by omega)]
theorem plW_not : ∀ {s x : List Int} {a : Int}, s.length = x.length → ¬ InIdx s x → plW s x a = (0, 20)
  | [], [], _, _, h => absurd .nil h
  | m :: s, k :: x, a, hl, h => by
    simp only [plW]
    split
    · rfl
    · rename_i hk
      exact plW_not (by simpa using hl) fun h' => h (.cons (by omega) (by omega) h')
theorem placeF_ok {s x : List Int} (h : ShapeOk s) (hx : InIdx s x) : placeF s x = (pl s x 0, 0) := by
  unfold placeF
  have := prd_pos h.2.1
  have := h.2.2
  rw [if_neg (by simp [checkS_iff.2 h, hx.length]), plW_ok hx (by omega) (by omega)]
theorem placeF_not {s x : List Int} (h : ¬ (ShapeOk s ∧ InIdx s x)) : placeF s x = (0, 20) := by
  unfold placeF
  split
  · rfl
  · rename_i hc
    simp only [Bool.or_eq_true, Bool.not_eq_true', bne_iff_ne, ne_eq, not_or, Bool.not_eq_false, Decidable.not_not] at hc
    exact plW_not (by omega) fun h' => h ⟨checkS_iff.1 hc.1, h'⟩
theorem checkT_iff {s d : List Int} : checkT s d = true ↔ ShapeOk s ∧ (d.length : Int) = prd s := by
  unfold checkT
  simp only [Bool.and_eq_true, beq_iff_eq, checkS_iff]
  constructor
  · rintro ⟨h1, h2⟩; rw [sizeS_ok h1] at h2; exact ⟨h1, h2⟩
  · rintro ⟨h1, h2⟩; rw [sizeS_ok h1]; exact ⟨h1, h2⟩
def atF (s d x : List Int) : Int × Int := if (!checkT s d) = true then (0, 30) else if ((placeF s x).2 != 0) = true then (0, (placeF s x).2) else ((d[(placeF s x).1.toNat]?).getD 0, 0)
theorem atF_ok {s d x : List Int} (h : checkT s d = true) (hx : InIdx s x) : atF s d x = ((d[(pl s x 0).toNat]?).getD 0, 0) := by
  unfold atF
  rw [if_neg (by simp [h]), placeF_ok (checkT_iff.1 h).1 hx]
  simp
end Go.AM

namespace Go.AM
open Go Go.Proofs

def ix : List Int → Int → List Int
  | [], _ => []
  | m :: s, p => (p / prd s) % m :: ix s p
def dg : List Int → Int → List Int
  | [], _ => []
  | n :: r, p => p % n :: dg r (p / n)
theorem digs_eq : ∀ {l : List Int} {p : Int}, Sides l → 0 ≤ p → p ≤ 4611686018427387904 → digs l p = dg l p
  | [], _, _, _, _ => rfl
  | n :: r, p, h, h0, h1 => by
    have hn := h.head
    have h2 : 0 ≤ p / n := Int.ediv_nonneg h0 (by omega)
    have h3 : p / n ≤ p := Int.ediv_le_self n h0
    simp only [digs, dg]
    rw [Int.tmod_eq_emod_of_nonneg h0, Int.tdiv_eq_ediv_of_nonneg h0, wrap_in (by omega) (by omega), digs_eq h.tail h2 (by omega)]
theorem prd_append : ∀ (l k : List Int), prd (l ++ k) = prd l * prd k
  | [], k => by simp [prd]
  | m :: l, k => by simp [prd, prd_append l k, Int.mul_assoc]
theorem prd_reverse : ∀ (l : List Int), prd l.reverse = prd l
  | [] => rfl
  | m :: l => by simp [prd_append, prd_reverse l, prd, Int.mul_comm]
theorem dg_append : ∀ {l : List Int} {m p : Int}, Sides l → dg (l ++ [m]) p = dg l p ++ [(p / prd l) % m]
  | [], m, p, _ => by simp [dg, prd]
  | n :: l, m, p, h => by
    have hn := h.head
    simp only [List.cons_append, dg, prd]
    rw [dg_append h.tail, Int.ediv_ediv_of_nonneg (by omega)]
theorem Sides.reverse {s : List Int} (h : Sides s) : Sides s.reverse := fun m hm => h m (by simpa using hm)
theorem dg_rev : ∀ {s : List Int} {p : Int}, Sides s → (dg s.reverse p).reverse = ix s p
  | [], _, _ => rfl
  | m :: s, p, h => by
    simp only [List.reverse_cons, ix]
    rw [dg_append h.tail.reverse, List.reverse_append, prd_reverse]
    simp [dg_rev h.tail]
theorem idxF_eq {s : List Int} {p : Int} (h : Sides s) (h0 : 0 ≤ p) (h1 : p ≤ 4611686018427387904) : idxF s p = ix s p := by
  unfold idxF
  rw [digs_eq h.reverse h0 h1, dg_rev h]
theorem ix_in : ∀ {s : List Int} {p : Int}, Sides s → InIdx s (ix s p)
  | [], _, _ => .nil
  | m :: s, p, h => by
    have hm := h.head
    exact .cons (Int.emod_nonneg _ (by omega)) (Int.emod_lt_of_pos _ (by omega)) (ix_in h.tail)
theorem emod_split (p b m : Int) (hb : 0 < b) (hm : 0 < m) : p % (m * b) = (p / b) % m * b + p % b := by
  have h1 := Int.mul_ediv_add_emod p b
  have h2 := Int.mul_ediv_add_emod (p / b) m
  have h3 := Int.emod_nonneg p (b := b) (by omega)
  have h4 := Int.emod_lt_of_pos p hb
  have h5 := Int.emod_nonneg (p / b) (b := m) (by omega)
  have h6 := Int.emod_lt_of_pos (p / b) hm
  generalize p / b / m = q at h2
  generalize (p / b) % m = r at h2 h5 h6 ⊢
  generalize p % b = t at h1 h3 h4 ⊢
  rw [← h2] at h1
  have e : p = (m * b) * q + (r * b + t) := by
    rw [← h1, Int.mul_add, Int.mul_comm b (m * q), Int.mul_assoc, Int.mul_comm q b, Int.mul_comm b r, ← Int.mul_assoc, Int.add_assoc]
  rw [e, Int.mul_add_emod_self_left]
  have h7 : 0 ≤ r * b := Int.mul_nonneg h5 (by omega)
  have h8 : (r + 1) * b ≤ m * b := Int.mul_le_mul_of_nonneg_right (by omega) (by omega)
  rw [Int.add_mul] at h8
  exact Int.emod_eq_of_lt (by omega) (by omega)
theorem pl_ix : ∀ {s : List Int} {p : Int}, Sides s → pl s (ix s p) 0 = p % prd s
  | [], p, _ => by simp [pl, prd, Int.emod_one]
  | m :: s, p, h => by
    have hm := h.head
    have hp := prd_pos h.tail
    simp only [pl, ix, prd]
    rw [pl_add (ix_in h.tail), pl_ix h.tail, emod_split p (prd s) m (by omega) (by omega)]
    simp
theorem ix_pl {s x : List Int} (h : InIdx s x) (hs : Sides s) (a : Int) : ix s (a * prd s + pl s x 0) = x := by
  induction h generalizing a with
  | nil => rfl
  | @cons m k s x h0 h1 h ih =>
    have hl := pl_lt h
    have hp := prd_pos hs.tail
    simp only [ix, prd, pl]
    rw [pl_add h]
    have e : a * (m * prd s) + ((0 * m + k) * prd s + pl s x 0) = (a * m + k) * prd s + pl s x 0 := by
      simp [Int.add_mul, Int.mul_assoc, Int.add_assoc]
    rw [e, ih hs.tail]
    congr 1
    rw [Int.add_comm, Int.add_mul_ediv_right _ _ (by omega), Int.ediv_eq_zero_of_lt hl.1 hl.2, Int.zero_add, Int.mul_comm a m, Int.add_comm, Int.add_mul_emod_self_left]
    exact Int.emod_eq_of_lt h0 h1
theorem pl_ix_lt {s : List Int} {p : Int} (h : Sides s) (h0 : 0 ≤ p) (h1 : p < prd s) : pl s (ix s p) 0 = p := by
  rw [pl_ix h, Int.emod_eq_of_lt h0 h1]
theorem ix_pl0 {s x : List Int} (h : InIdx s x) (hs : Sides s) : ix s (pl s x 0) = x := by
  have := ix_pl h hs 0
  simpa using this
end Go.AM

namespace Go.AM
open Go Go.Proofs
set_option maxRecDepth 100000

def mk (s : List Int) (g : List Int → Int) : List Int := (List.range (sizeS s).toNat).map fun p => g (idxF s ((p : Nat) : Int))
end Go.AM

namespace Go.AM
open Go Go.Proofs
set_option maxRecDepth 100000

abbrev dTE (r : (List Int × List Int) × Int) : DV := .tup [dT r.1.1 r.1.2, dN r.2]
def bad (e : Int) : (List Int × List Int) × Int := (([], []), e)
end Go.AM

namespace Go.AM
open Go Go.Proofs
set_option maxRecDepth 100000
set_option maxHeartbeats 4000000

def fewT (s d : List Int) : Bool := decide (s.length ≤ 100) && decide (d.length ≤ 100)
theorem p_ref03_Few (s d : List Int) : PureC Try.prog fi_fullerref03_Few [dT s d] (dB (fewT s d)) := by
  refine pure_fullerref03_Few (by simp) fun G hP hn => ?_
  unfold a_fullerref03_Few
  repeat' (first     | refine T_then ?_ | refine then_ret ?_ | refine then_exit ?_ | refine then_goto ?_     | refine rnd_exit ?_ | refine rnd_ret ?_ | refine rnd_goto ?_     | refine noGo_normal ?_ | refine noGo_ret ?_ | refine noGo_exit ?_ | refine jmp_normal ?_ | refine jmp_ret ?_ | refine jmp_exit ?_ | refine jmp_goto ?_     | refine inB_normal ?_ | refine inB_ret ?_ | refine inB_goto ?_ | refine inB_exit ?_ | refine inB_exit_ne rfl ?_     | ((first | apply T_sr fw | apply T_reg fw); · ((try simp only [go_sem, seval, reduceIte, ↓reduceIte, hP]); (repeat ((first       | (refine ⟨true, false, rfl, fun h => absurd h (by decide), ?_⟩) | (refine ⟨false, false, rfl, fun h => absurd h (by decide), ?_⟩) | refine ⟨_, _, rfl, fun _ => rfl, ?_⟩); (try simp only [go_sem, seval, reduceIte, ↓reduceIte, hP]))); (first | done | exact rfl)))     | ((first | apply T_sdF fw (by rw [hP]; rfl) (by decide +kernel) | apply T_drF fw (by rw [hP]; rfl) (by decide +kernel)); · ((try simp only [TOps.flat, List.cons_append, List.nil_append]); (repeat ((first | refine Y_g0 ?_ | refine Y_g (by (try simp only [go_sem, seval, reduceIte, ↓reduceIte, Bool.not_eq_true, reduceCtorEq, beq_false, beq_true, hP]); (first | done | exact rfl)) ?_); (first | refine Y_skip ?_ | ((first | apply Y_q); (· ((try simp only [go_sem, seval, reduceIte, ↓reduceIte, Bool.not_eq_true, reduceCtorEq, beq_false, beq_true, hP]); (first | done | exact rfl))))))); apply RunF_nil; (try simp only [go_sem, seval, reduceIte, ↓reduceIte, Bool.not_eq_true, reduceCtorEq, beq_false, beq_true, hP]); (first | done | exact rfl)))     | ((first | apply T_sd fw (by rw [hP]; rfl) | apply T_dr fw (by rw [hP]; rfl)); · ((try simp only [go_sem, seval, reduceIte, ↓reduceIte, bne, beq_false, beq_true, Bool.not_eq_true, Bool.if_true_right, decide_not, reduceCtorEq, hP]); (first | done | exact rfl)))     | refine T_seq ?_ | refine T_block ?_ | refine T_scopeJ 0 rfl ?_ | refine T_scope ?_ | refine T_goto ?_ | refine T_ret ?_ | refine T_skip ?_ | refine T_exit ?_ | refine T_label ?_     | refine T_condT rfl ?_ | refine T_condF rfl ?_     | refine T_condD rfl (fun _ => ?_) (fun _ => ?_)     | refine T_cond rfl (fun _ => ?_) (fun _ => ?_))
  exact ends_ret rfl rfl rfl (by simp only [resD, fewT]; congr 3 <;> exact decide_eq_decide.2 (by omega))
def sameT (s d t e : List Int) : Bool := sameL s t && sameL d e
theorem p_ref03_Same (s d t e : List Int) : PureC Try.prog fi_fullerref03_Same [dT s d, dT t e] (dB (sameT s d t e)) := by
  refine pure_fullerref03_Same (by simp) fun G hP hn => ?_
  unfold a_fullerref03_Same
  repeat' (first     | refine T_then ?_ | refine then_ret ?_ | refine then_exit ?_ | refine then_goto ?_     | refine rnd_exit ?_ | refine rnd_ret ?_ | refine rnd_goto ?_     | refine noGo_normal ?_ | refine noGo_ret ?_ | refine noGo_exit ?_ | refine jmp_normal ?_ | refine jmp_ret ?_ | refine jmp_exit ?_ | refine jmp_goto ?_     | refine inB_normal ?_ | refine inB_ret ?_ | refine inB_goto ?_ | refine inB_exit ?_ | refine inB_exit_ne rfl ?_     | ((first | apply T_sr fw | apply T_reg fw); · ((try simp only [go_sem, seval, reduceIte, ↓reduceIte, hP]); (repeat ((first       | (refine ⟨true, false, rfl, fun h => absurd h (by decide), ?_⟩) | (refine ⟨false, false, rfl, fun h => absurd h (by decide), ?_⟩) | refine ⟨_, _, rfl, fun _ => rfl, ?_⟩       | (refine .inl ⟨_, _, ⟨_, _, _, _, _, _, rfl, rfl, rfl, p_ref02_Same _ _⟩, ?_⟩)       | (refine ⟨_, ?_, rfl, fun _ => ⟨_, ⟨_, _, _, _, _, _, rfl, rfl, rfl, p_ref02_Same _ _⟩, ?_⟩, ?_⟩; rotate_left; (· (simp only [go_sem, seval, reduceIte, ↓reduceIte, hP]; first | done | exact rfl)))); (try simp only [go_sem, seval, reduceIte, ↓reduceIte, hP]))); (first | done | exact rfl)))     | ((first | apply T_sdF fw (by rw [hP]; rfl) (by decide +kernel) | apply T_drF fw (by rw [hP]; rfl) (by decide +kernel)); · ((try simp only [TOps.flat, List.cons_append, List.nil_append]); (repeat ((first | refine Y_g0 ?_ | refine Y_g (by (try simp only [go_sem, seval, reduceIte, ↓reduceIte, Bool.not_eq_true, reduceCtorEq, beq_false, beq_true, hP]); (first | done | exact rfl)) ?_); (first | refine Y_skip ?_ | ((first | apply Y_q | (refine Y_call ⟨_, _, _, _, _, _, rfl, rfl, rfl, (by rw [hP]; exact p_ref02_Same _ _)⟩ ?_ ?_)); (· ((try simp only [go_sem, seval, reduceIte, ↓reduceIte, Bool.not_eq_true, reduceCtorEq, beq_false, beq_true, hP]); (first | done | exact rfl))))))); apply RunF_nil; (try simp only [go_sem, seval, reduceIte, ↓reduceIte, Bool.not_eq_true, reduceCtorEq, beq_false, beq_true, hP]); (first | done | exact rfl)))     | ((first | apply T_sd fw (by rw [hP]; rfl) | apply T_dr fw (by rw [hP]; rfl)); · ((try simp only [go_sem, seval, reduceIte, ↓reduceIte, bne, beq_false, beq_true, Bool.not_eq_true, Bool.if_true_right, decide_not, reduceCtorEq, hP]); (repeat ((first       | (refine ⟨_, ⟨_, _, _, _, _, _, rfl, rfl, rfl, p_ref02_Same _ _⟩, ?_⟩)); (try simp only [go_sem, seval, reduceIte, ↓reduceIte, bne, beq_false, beq_true, Bool.not_eq_true, Bool.if_true_right, decide_not, reduceCtorEq, hP]))); (first | done | exact rfl)))     | refine T_seq ?_ | refine T_block ?_ | refine T_scopeJ 0 rfl ?_ | refine T_scope ?_ | refine T_goto ?_ | refine T_ret ?_ | refine T_skip ?_ | refine T_exit ?_ | refine T_label ?_     | refine T_condT rfl ?_ | refine T_condF rfl ?_     | refine T_condD rfl (fun _ => ?_) (fun _ => ?_)     | refine T_cond rfl (fun _ => ?_) (fun _ => ?_))
  exact ends_ret rfl rfl rfl (by simp only [resD, sameT])
end Go.AM

namespace Go.AM
open Go Go.Proofs

theorem mk_len {s : List Int} (h : ShapeOk s) (g : List Int → Int) : ((mk s g).length : Int) = prd s := by
  have := prd_pos h.2.1
  simp only [mk, List.length_map, List.length_range, sizeS_ok h]
  omega
theorem InIdx.append {s x t y : List Int} (h : InIdx s x) (k : InIdx t y) : InIdx (s ++ t) (x ++ y) := by
  induction h with
  | nil => exact k
  | cons h0 h1 _ ih => exact .cons h0 h1 ih
theorem InIdx.reverse {s x : List Int} (h : InIdx s x) : InIdx s.reverse x.reverse := by
  induction h with
  | nil => exact .nil
  | cons h0 h1 _ ih =>
    simp only [List.reverse_cons]
    exact ih.append (.cons h0 h1 .nil)
theorem ShapeOk.reverse {s : List Int} (h : ShapeOk s) : ShapeOk s.reverse := ⟨by simpa using h.1, h.2.1.reverse, by rw [prd_reverse]; exact h.2.2⟩
theorem sameL_refl (l : List Int) : sameL l l = true := by
  unfold sameL
  have : ∀ l : List Int, eqL l l = true := by
    intro l
    induction l with
    | nil => rfl
    | cons a l ih => simp [eqL, ih]
  simp [this]
theorem eqL_iff : ∀ {s t : List Int}, s.length = t.length → (eqL s t = true ↔ s = t)
  | [], [], _ => by simp [eqL]
  | a :: s, b :: t, h => by
    simp only [eqL]
    by_cases hab : a = b
    · subst hab; simp [eqL_iff (s := s) (t := t) (by simpa using h)]
    · simp [hab]
theorem sameL_iff {s t : List Int} : sameL s t = true ↔ s = t := by
  unfold sameL
  by_cases h : s.length = t.length
  · rw [if_neg (by simp [h]), eqL_iff h]
  · rw [if_pos (by simp; omega)]
    constructor
    · intro h'; cases h'
    · intro h'; exact absurd (by rw [h']) h
theorem sameT_refl (s d : List Int) : sameT s d s d = true := by unfold sameT; rw [sameL_refl, sameL_refl]; rfl
end Go.AM

namespace Go.AM
open Go Go.Proofs

theorem inIdx_iff : ∀ {s x : List Int}, InIdx s x ↔ s.length = x.length ∧ ∀ (i : Nat) (m k : Int), s[i]? = some m → x[i]? = some k → 0 ≤ k ∧ k < m
  | [], [] => ⟨fun _ => ⟨rfl, fun i m k h => by simp at h⟩, fun _ => .nil⟩
  | [], _ :: _ => ⟨fun h => (by cases h), fun h => by simp at h⟩
  | _ :: _, [] => ⟨fun h => (by cases h), fun h => by simp at h⟩
  | m :: s, k :: x => by
    constructor
    · intro h
      cases h with
      | cons h0 h1 h =>
        have := inIdx_iff.1 h
        refine ⟨by simp [this.1], fun i m' k' hm hk => ?_⟩
        cases i with
        | zero => simp at hm hk; subst hm hk; exact ⟨h0, h1⟩
        | succ i => exact this.2 i m' k' (by simpa using hm) (by simpa using hk)
    · rintro ⟨h1, h2⟩
      have := h2 0 m k rfl rfl
      exact .cons this.1 this.2 (inIdx_iff.2 ⟨by simpa using h1, fun i m' k' hm hk => h2 (i + 1) m' k' (by simpa using hm) (by simpa using hk)⟩)
theorem InIdx.get {s x : List Int} (h : InIdx s x) {n : Nat} {m : Int} (hm : s[n]? = some m) : ∃ k, x[n]? = some k ∧ 0 ≤ k ∧ k < m := by
  have h1 := inIdx_iff.1 h
  have hn := (List.getElem?_eq_some_iff.1 hm).1
  have hk : x[n]? = some (x[n]'(by omega)) := List.getElem?_eq_getElem (by omega)
  exact ⟨_, hk, h1.2 n _ _ hm hk⟩
theorem InIdx.set {s x : List Int} (h : InIdx s x) (n : Nat) {m k : Int} (h0 : 0 ≤ k) (h1 : k < m) : InIdx (s.set n m) (x.set n k) := by
  have h2 := inIdx_iff.1 h
  refine inIdx_iff.2 ⟨by simp [h2.1], fun i m' k' hm hk => ?_⟩
  by_cases hi : i = n
  · subst hi
    rw [List.getElem?_set] at hm hk
    simp at hm hk
    omega
  · rw [List.getElem?_set_ne (Ne.symm hi)] at hm hk
    exact h2.2 i m' k' hm hk
theorem Sides.set {s : List Int} (h : Sides s) (n : Nat) {m : Int} (h1 : 1 ≤ m ∧ m ≤ 16) : Sides (s.set n m) := by
  intro k hk
  rcases List.mem_or_eq_of_mem_set hk with hk | rfl
  · exact h k hk
  · exact h1
end Go.AM

namespace Go.AM
open Go Go.Proofs

structure Joins (s d t e : List Int) (n : Nat) (k m : Int) : Prop where
  one : checkT s d = true
  two : checkT t e = true
  hk : s[n]? = some k
  hm : t[n]? = some m
  like : t = s.set n m
  ok : ShapeOk (s.set n (k + m))
theorem Joins.kb {s d t e : List Int} {n : Nat} {k m : Int} (h : Joins s d t e n k m) : 1 ≤ k ∧ k ≤ 16 := (checkT_iff.1 h.one).1.2.1 k (List.mem_of_getElem? h.hk)
theorem Joins.lt {s d t e : List Int} {n : Nat} {k m : Int} (h : Joins s d t e n k m) : n < s.length := (List.getElem?_eq_some_iff.1 h.hk).1
end Go.AM

namespace Go.AM
open Go Go.Proofs

theorem c_sameT (s d : List Int) : PureC Try.prog fi_fullerref03_Same [dT s d, dT s d] (dB true) := by
  have := p_ref03_Same s d s d; rw [sameT_refl] at this; exact this
theorem c_same' (s : List Int) : PureC Try.prog fi_fullerref02_Same [dI s, dI s] (dB true) := by
  have := p_ref02_Same s s; rw [sameL_refl] at this; exact this
end Go.AM

namespace Go.AM
open Go Go.Proofs
set_option maxRecDepth 100000
set_option maxHeartbeats 4000000

theorem p_ref02_Index (s : List Int) (p : Int) : PureC Try.prog fi_fullerref02_Index [dI s, dN p] (if (decide (p < 0) || decide (p ≥ sizeS s)) = true then .tup [dI [], dN 20] else .tup [dI (idxF s p), dN 0]) := by
  refine pure_fullerref02_Index (by simp) fun G hP hn => ?_
  unfold a_fullerref02_Index
  by_cases hg : (decide (p < 0) || decide (p ≥ sizeS s)) = true
  · by_cases h1 : p < 0
    · repeat' (first | apply T_then | apply then_ret | apply then_exit | apply then_goto | apply rnd_exit | apply rnd_ret | apply rnd_goto | apply noGo_normal | apply noGo_ret | apply noGo_exit | apply jmp_normal | apply jmp_ret | apply jmp_exit | apply jmp_goto | apply inB_normal | apply inB_ret | apply inB_goto | apply inB_exit | refine inB_exit_ne rfl ?_ | ((first | apply T_srK fw | apply T_regK fw); · ((try simp only [TOps.flat, List.cons_append, List.nil_append]); repeat (first | apply X_g0 | apply X_g | apply S_keep | apply X_skip | apply X_skipN | refine X_call ?_ ⟨_, _, _, _, _, _, rfl, rfl, rfl, by rw [hP]; exact p_ref02_Size _⟩ ?_ | apply X_q | apply X_st | apply X_n | apply X_s | apply SKs0 | apply SKs2 | apply SKs1 | refine ⟨⟨rfl, rfl⟩, ?_⟩ | refine ⟨⟨rfl, ?_⟩, ?_⟩ | refine ⟨?_, ?_⟩ | (· (try simp only [go_sem, seval, reduceIte, ↓reduceIte, Bool.not_eq_true, reduceCtorEq, beq_false, beq_true, hn, hP, h1]); first | done | rfl)))) | apply T_seq | apply T_block | refine T_scopeJ 0 rfl ?_ | apply T_scope | apply T_goto | apply T_ret | apply T_skip | apply T_exit | apply T_label | refine T_condT rfl ?_ | refine T_condF rfl ?_ | refine T_condD rfl (fun _ => ?_) (fun _ => ?_) | refine T_cond rfl (fun _ => ?_) (fun _ => ?_))
      exact ends_ret rfl rfl rfl (by simp only [resD]; rw [if_pos hg]; rfl)
    · have h2 : p ≥ sizeS s := by simpa [h1] using hg
      repeat' (first | apply T_then | apply then_ret | apply then_exit | apply then_goto | apply rnd_exit | apply rnd_ret | apply rnd_goto | apply noGo_normal | apply noGo_ret | apply noGo_exit | apply jmp_normal | apply jmp_ret | apply jmp_exit | apply jmp_goto | apply inB_normal | apply inB_ret | apply inB_goto | apply inB_exit | refine inB_exit_ne rfl ?_ | ((first | apply T_srK fw | apply T_regK fw); · ((try simp only [TOps.flat, List.cons_append, List.nil_append]); repeat (first | apply X_g0 | apply X_g | apply S_keep | apply X_skip | apply X_skipN | refine X_call ?_ ⟨_, _, _, _, _, _, rfl, rfl, rfl, by rw [hP]; exact p_ref02_Size _⟩ ?_ | apply X_q | apply X_st | apply X_n | apply X_s | apply SKs0 | apply SKs2 | apply SKs1 | refine ⟨⟨rfl, rfl⟩, ?_⟩ | refine ⟨⟨rfl, ?_⟩, ?_⟩ | refine ⟨?_, ?_⟩ | (· (try simp only [go_sem, seval, reduceIte, ↓reduceIte, Bool.not_eq_true, reduceCtorEq, beq_false, beq_true, hn, hP, h1, h2]); first | done | rfl)))) | apply T_seq | apply T_block | refine T_scopeJ 0 rfl ?_ | apply T_scope | apply T_goto | apply T_ret | apply T_skip | apply T_exit | apply T_label | refine T_condT rfl ?_ | refine T_condF rfl ?_ | refine T_condD rfl (fun _ => ?_) (fun _ => ?_) | refine T_cond rfl (fun _ => ?_) (fun _ => ?_))
      exact ends_ret rfl rfl rfl (by simp only [resD]; rw [if_pos hg]; rfl)
  · rw [if_neg hg]
    simp only [Bool.or_eq_true, decide_eq_true_eq, not_or] at hg
    obtain ⟨g1, g2⟩ := hg
    have hck := checkS_iff.2 (sizeS_pos (s := s) (by omega))
    have hl3 := check_len hck
    have hM : MaxN = 140737488355328 := rfl
    have w0 : IntKind.i64.wrap ((s.length : Int) - 1) = (s.length : Int) - 1 - ((0 : Nat) : Int) := by rw [wrap_in (by omega) (by omega)]; simp
    repeat' (first | apply T_then | apply then_ret | apply then_exit | apply then_goto | apply rnd_exit | apply rnd_ret | apply rnd_goto | apply noGo_normal | apply noGo_ret | apply noGo_exit | apply jmp_normal | apply jmp_ret | apply jmp_exit | apply jmp_goto | apply inB_normal | apply inB_ret | apply inB_goto | apply inB_exit | refine inB_exit_ne rfl ?_ | ((first | apply T_srK fw | apply T_regK fw); · ((try simp only [TOps.flat, List.cons_append, List.nil_append]); repeat (first | apply X_g0 | apply X_g | apply S_keep | apply X_skip | apply X_skipN | refine X_call ?_ ⟨_, _, _, _, _, _, rfl, rfl, rfl, by rw [hP]; exact p_ref02_Size _⟩ ?_ | apply X_q | apply X_st | apply X_n | apply X_s | apply SKs0 | apply SKs2 | apply SKs1 | refine ⟨⟨rfl, rfl⟩, ?_⟩ | refine ⟨⟨rfl, ?_⟩, ?_⟩ | refine ⟨?_, ?_⟩ | (· (try simp only [go_sem, seval, reduceIte, ↓reduceIte, Bool.not_eq_true, reduceCtorEq, beq_false, beq_true, hn, hP, g1, g2, w0]); first | done | rfl)))) | apply T_seq | apply T_block | refine T_scopeJ 0 rfl ?_ | apply T_scope | apply T_goto | apply T_ret | apply T_skip | apply T_exit | apply T_label | refine T_condT rfl ?_ | refine T_condF rfl ?_ | refine T_condD rfl (fun _ => ?_) (fun _ => ?_) | refine T_cond rfl (fun _ => ?_) (fun _ => ?_))
    refine T_weak (Weak.freeze (i := 7) rfl rfl) ?_
    refine T_for s.length (fun i (a : Int × List Int) => { env := [(0, .one (.p (eI s))), (1, .one (.p (.int .i64 a.1))), (7, .one (.p (eI a.2))), (8, .one (.p (.int .i64 ((s.length : Int) - 1 - (i : Nat)))))], σ := [] })
      (fun i a => a.2.length = i ∧ (digs (s.reverse.drop i) a.1).reverse ++ a.2 = idxF s p) (p, []) ⟨rfl, by simp [idxF]⟩ (Weak.pick [0, 1, 7, 8]) fun i a hi hc => ?_
    obtain ⟨q, t⟩ := a
    obtain ⟨hc1, hc2⟩ := hc
    simp only at hc1 hc2
    rcases nth (s := s.reverse) (i := i) (by simpa using hi) with ⟨m, hlt, hm, hd⟩ | ⟨hi2, hd⟩
    · have hlt : i < s.length := by simpa using hlt
      have hm2 : s[s.length - 1 - i]? = some m := by rw [← hm, List.getElem?_reverse hlt]
      have hm1 : 1 ≤ m := (check_pos hck m (List.mem_of_getElem? hm2)).1
      have hm0 : ¬ m = 0 := by omega
      have c1 : (s.length : Int) - 1 - i ≥ 0 := by omega
      have c1' : (0 : Int) ≤ (s.length : Int) - 1 - i := c1
      have c2 : (s.length : Int) - 1 - i < s.length := by omega
      have c3 : ((s.length : Int) - 1 - i).toNat = s.length - 1 - i := by omega
      have w1 : IntKind.i64.wrap ((s.length : Int) - 1 - i - 1) = (s.length : Int) - 1 - ((i + 1 : Nat) : Int) := by rw [wrap_in (by omega) (by omega)]; omega
      have c4 : (1 + t.length) * 8 ≤ 2 ^ 40 := by omega
      have c5 : 1 + t.length ≤ 2 ^ 40 := by omega
      repeat' (first | apply T_then | apply then_ret | apply then_exit | apply then_goto | apply rnd_exit | apply rnd_ret | apply rnd_goto | apply noGo_normal | apply noGo_ret | apply noGo_exit | apply jmp_normal | apply jmp_ret | apply jmp_exit | apply jmp_goto | apply inB_normal | apply inB_ret | apply inB_goto | apply inB_exit | refine inB_exit_ne rfl ?_ | ((first | apply T_srK fw | apply T_regK fw); · ((try simp only [TOps.flat, List.cons_append, List.nil_append]); repeat (first | apply X_g0 | apply X_g | apply S_keep | apply X_skip | apply X_skipN | apply X_q | apply X_st | apply X_n | apply X_s | apply SKs0 | apply SKs2 | apply SKs1 | refine ⟨⟨rfl, rfl⟩, ?_⟩ | refine ⟨⟨rfl, ?_⟩, ?_⟩ | refine ⟨?_, ?_⟩ | (· (try simp only [go_sem, seval, reduceIte, ↓reduceIte, Bool.not_eq_true, reduceCtorEq, beq_false, beq_true, hn, hP, hm2, hm0, c1, c1', c2, c3, w1, c4, c5, all1]); first | done | rfl)))) | apply T_seq | apply T_block | refine T_scopeJ 0 rfl ?_ | apply T_scope | apply T_goto | apply T_ret | apply T_skip | apply T_exit | apply T_label | refine T_condT rfl ?_ | refine T_condF rfl ?_ | refine T_condD rfl (fun _ => ?_) (fun _ => ?_) | refine T_cond rfl (fun _ => ?_) (fun _ => ?_))
      refine rnd_next hlt (IntKind.i64.wrap (q.tdiv m), q.tmod m :: t) ⟨by simp [hc1], ?_⟩ ?_
      · rw [hd] at hc2
        simp only [digs, List.reverse_cons, List.append_assoc, List.singleton_append, List.cons_append, List.nil_append] at hc2
        exact hc2
      · exact (Weak.freeze (i := 7) rfl (toD_list (n := 5) (rows := rI (q.tmod m :: t)) rfl (by simp; omega))).trans ((Weak.pick [0, 1, 7, 8]).trans (Weak.sub fun p hp => by simp at hp))
    · have hi3 : i = s.length := by simpa using hi2
      subst hi3
      have c1 : ¬ (s.length : Int) - 1 - (s.length : Nat) ≥ 0 := by omega
      repeat' (first | apply T_then | apply then_ret | apply then_exit | apply then_goto | apply rnd_exit | apply rnd_ret | apply rnd_goto | apply noGo_normal | apply noGo_ret | apply noGo_exit | apply jmp_normal | apply jmp_ret | apply jmp_exit | apply jmp_goto | apply inB_normal | apply inB_ret | apply inB_goto | apply inB_exit | refine inB_exit_ne rfl ?_ | ((first | apply T_srK fw | apply T_regK fw); · ((try simp only [TOps.flat, List.cons_append, List.nil_append]); repeat (first | apply X_g0 | apply X_g | apply S_keep | apply X_skip | apply X_skipN | apply X_q | apply X_st | apply X_n | apply X_s | apply SKs0 | apply SKs2 | apply SKs1 | refine ⟨⟨rfl, rfl⟩, ?_⟩ | refine ⟨⟨rfl, ?_⟩, ?_⟩ | refine ⟨?_, ?_⟩ | (· (try simp only [go_sem, seval, reduceIte, ↓reduceIte, Bool.not_eq_true, reduceCtorEq, beq_false, beq_true, hn, hP, c1]); first | done | rfl)))) | apply T_seq | apply T_block | refine T_scopeJ 0 rfl ?_ | apply T_scope | apply T_goto | apply T_ret | apply T_skip | apply T_exit | apply T_label | refine T_condT rfl ?_ | refine T_condF rfl ?_ | refine T_condD rfl (fun _ => ?_) (fun _ => ?_) | refine T_cond rfl (fun _ => ?_) (fun _ => ?_))
      have ht : t = idxF s p := by rw [← hc2, hd]; simp [digs]
      rw [← ht]
      exact ends_ret rfl rfl rfl rfl
end Go.AM

namespace Go.AM
open Go Go.Proofs
set_option maxRecDepth 100000
set_option maxHeartbeats 4000000

theorem c_refIdx {s : List Int} {p : Nat} (h : p < (sizeS s).toNat) : PureC Try.prog fi_fullerref02_Index [dI s, dN p] (.tup [dI (idxF s p), dN 0]) := by
  have := p_ref02_Index s p
  rw [if_neg (by simp; omega)] at this
  exact this
theorem p_ref02_Place (s x : List Int) : PureC Try.prog fi_fullerref02_Place [dI s, dI x] (dNE (placeF s x)) := by
  refine pure_fullerref02_Place (by simp) fun G hP hn => ?_
  unfold a_fullerref02_Place
  repeat' (first | apply T_then | apply then_ret | apply then_exit | apply then_goto | apply rnd_exit | apply rnd_ret | apply rnd_goto | apply noGo_normal | apply noGo_ret | apply noGo_exit | apply jmp_normal | apply jmp_ret | apply jmp_exit | apply jmp_goto | apply inB_normal | apply inB_ret | apply inB_goto | apply inB_exit | refine inB_exit_ne rfl ?_ | ((first | apply T_srK fw | apply T_regK fw); · ((try simp only [TOps.flat, List.cons_append, List.nil_append]); repeat (first | apply X_g0 | apply X_g | apply S_keep | apply X_skip | apply X_skipN | refine X_call ?_ ⟨_, _, _, _, _, _, rfl, rfl, rfl, by rw [hP]; exact p_ref02_Size _⟩ ?_ | apply X_q | apply X_st | apply X_n | apply X_s | apply SKs0 | apply SKs2 | apply SKs1 | refine ⟨⟨rfl, rfl⟩, ?_⟩ | refine ⟨⟨rfl, ?_⟩, ?_⟩ | refine ⟨?_, ?_⟩ | (· (try simp only [go_sem, seval, reduceIte, ↓reduceIte, Bool.not_eq_true, reduceCtorEq, beq_false, beq_true, hn, hP]); first | done | rfl)))) | apply T_seq | apply T_block | refine T_scopeJ 0 rfl ?_ | apply T_scope | apply T_goto | apply T_ret | apply T_skip | apply T_exit | apply T_label | refine T_condT rfl ?_ | refine T_condF rfl ?_ | refine T_condD rfl (fun _ => ?_) (fun _ => ?_) | refine T_cond rfl (fun _ => ?_) (fun _ => ?_))
  have hs := sizeS_nn s
  refine T_for (sizeS s).toNat (fun i (_ : Unit) => { env := [(0, .one (.p (eI s))), (1, .one (.p (eI x))), (6, .one (.p (.int .i64 (sizeS s)))), (7, .one (.p (.int .i64 i)))], σ := [] })
    (fun i _ => ∀ j : Nat, j < i → idxF s j ≠ x) () (fun j hj => by omega) (.refl _ _) fun i _ hi hne => ?_
  by_cases hlt : i < (sizeS s).toNat
  · have c1 : (i : Int) < sizeS s := by omega
    have w1 : IntKind.i64.wrap ((i : Int) + 1) = ((i + 1 : Nat) : Int) := by rw [wrap_in (by omega) (by omega)]; rfl
    have ki := c_refIdx hlt
    have hok := sizeS_pos (s := s) (by omega)
    have he : idxF s (i : Int) = ix s i := idxF_eq hok.2.1 (by omega) (by omega)
    rw [sizeS_ok hok] at c1
    cases hq : sameL (idxF s i) x
    · have hx : idxF s i ≠ x := fun h => by rw [sameL_iff.2 h] at hq; cases hq
      rw [← sizeS_ok hok] at c1
      repeat' (first | apply T_then | apply then_ret | apply then_exit | apply then_goto | apply rnd_exit | apply rnd_ret | apply rnd_goto | apply noGo_normal | apply noGo_ret | apply noGo_exit | apply jmp_normal | apply jmp_ret | apply jmp_exit | apply jmp_goto | apply inB_normal | apply inB_ret | apply inB_goto | apply inB_exit | refine inB_exit_ne rfl ?_ | ((first | apply T_srK fw | apply T_regK fw); · ((try simp only [TOps.flat, List.cons_append, List.nil_append]); repeat (first | apply X_g0 | apply X_g | apply S_keep | apply X_skip | apply X_skipN | refine X_call ?_ ⟨_, _, _, _, _, _, rfl, rfl, rfl, by rw [hP]; exact ki⟩ ?_ | refine X_call ?_ ⟨_, _, _, _, _, _, rfl, rfl, rfl, by rw [hP]; exact p_ref02_Same _ _⟩ ?_ | apply X_q | apply X_st | apply X_n | apply X_s | apply SKs0 | apply SKs2 | apply SKs1 | refine ⟨⟨rfl, rfl⟩, ?_⟩ | refine ⟨⟨rfl, ?_⟩, ?_⟩ | refine ⟨?_, ?_⟩ | (· (try simp only [go_sem, seval, reduceIte, ↓reduceIte, Bool.not_eq_true, reduceCtorEq, beq_false, beq_true, hn, hP, c1, w1, hq]); first | done | rfl)))) | apply T_seq | apply T_block | refine T_scopeJ 0 rfl ?_ | apply T_scope | apply T_goto | apply T_ret | apply T_skip | apply T_exit | apply T_label | refine T_condT rfl ?_ | refine T_condF rfl ?_ | refine T_condD rfl (fun _ => ?_) (fun _ => ?_) | refine T_cond rfl (fun _ => ?_) (fun _ => ?_))
      refine rnd_next hlt () (fun j hj => ?_) (.refl _ _)
      by_cases hji : j = i
      · subst hji; exact hx
      · exact hne j (by omega)
    · have hx := sameL_iff.1 hq
      have hin : InIdx s x := by rw [← hx, he]; exact ix_in hok.2.1
      have hp : placeF s x = ((i : Int), 0) := by
        rw [placeF_ok hok hin, ← hx, he, pl_ix_lt hok.2.1 (by omega) c1]
      rw [← sizeS_ok hok] at c1
      repeat' (first | apply T_then | apply then_ret | apply then_exit | apply then_goto | apply rnd_exit | apply rnd_ret | apply rnd_goto | apply noGo_normal | apply noGo_ret | apply noGo_exit | apply jmp_normal | apply jmp_ret | apply jmp_exit | apply jmp_goto | apply inB_normal | apply inB_ret | apply inB_goto | apply inB_exit | refine inB_exit_ne rfl ?_ | ((first | apply T_srK fw | apply T_regK fw); · ((try simp only [TOps.flat, List.cons_append, List.nil_append]); repeat (first | apply X_g0 | apply X_g | apply S_keep | apply X_skip | apply X_skipN | refine X_call ?_ ⟨_, _, _, _, _, _, rfl, rfl, rfl, by rw [hP]; exact ki⟩ ?_ | refine X_call ?_ ⟨_, _, _, _, _, _, rfl, rfl, rfl, by rw [hP]; exact p_ref02_Same _ _⟩ ?_ | apply X_q | apply X_st | apply X_n | apply X_s | apply SKs0 | apply SKs2 | apply SKs1 | refine ⟨⟨rfl, rfl⟩, ?_⟩ | refine ⟨⟨rfl, ?_⟩, ?_⟩ | refine ⟨?_, ?_⟩ | (· (try simp only [go_sem, seval, reduceIte, ↓reduceIte, Bool.not_eq_true, reduceCtorEq, beq_false, beq_true, hn, hP, c1, w1, hq]); first | done | rfl)))) | apply T_seq | apply T_block | refine T_scopeJ 0 rfl ?_ | apply T_scope | apply T_goto | apply T_ret | apply T_skip | apply T_exit | apply T_label | refine T_condT rfl ?_ | refine T_condF rfl ?_ | refine T_condD rfl (fun _ => ?_) (fun _ => ?_) | refine T_cond rfl (fun _ => ?_) (fun _ => ?_))
      exact ends_ret rfl rfl rfl (by rw [hp]; rfl)
  · have c1 : ¬ (i : Int) < sizeS s := by omega
    have hi2 : i = (sizeS s).toNat := by omega
    have hp : placeF s x = (0, 20) := placeF_not fun ⟨hok, hin⟩ => by
      have hl := pl_lt hin
      rw [sizeS_ok hok] at hi2
      refine hne (pl s x 0).toNat (by omega) ?_
      have : ((pl s x 0).toNat : Int) = pl s x 0 := by omega
      rw [this, idxF_eq hok.2.1 hl.1 (by have := hok.2.2; omega), ix_pl0 hin hok.2.1]
    repeat' (first | apply T_then | apply then_ret | apply then_exit | apply then_goto | apply rnd_exit | apply rnd_ret | apply rnd_goto | apply noGo_normal | apply noGo_ret | apply noGo_exit | apply jmp_normal | apply jmp_ret | apply jmp_exit | apply jmp_goto | apply inB_normal | apply inB_ret | apply inB_goto | apply inB_exit | refine inB_exit_ne rfl ?_ | ((first | apply T_srK fw | apply T_regK fw); · ((try simp only [TOps.flat, List.cons_append, List.nil_append]); repeat (first | apply X_g0 | apply X_g | apply S_keep | apply X_skip | apply X_skipN | apply X_q | apply X_st | apply X_n | apply X_s | apply SKs0 | apply SKs2 | apply SKs1 | refine ⟨⟨rfl, rfl⟩, ?_⟩ | refine ⟨⟨rfl, ?_⟩, ?_⟩ | refine ⟨?_, ?_⟩ | (· (try simp only [go_sem, seval, reduceIte, ↓reduceIte, Bool.not_eq_true, reduceCtorEq, beq_false, beq_true, hn, hP, c1]); first | done | rfl)))) | apply T_seq | apply T_block | refine T_scopeJ 0 rfl ?_ | apply T_scope | apply T_goto | apply T_ret | apply T_skip | apply T_exit | apply T_label | refine T_condT rfl ?_ | refine T_condF rfl ?_ | refine T_condD rfl (fun _ => ?_) (fun _ => ?_) | refine T_cond rfl (fun _ => ?_) (fun _ => ?_))
    exact ends_ret rfl rfl rfl (by rw [hp]; rfl)
end Go.AM

namespace Go.AM
open Go Go.Proofs
set_option maxRecDepth 100000
set_option maxHeartbeats 4000000

def I64 (n : Int) : Prop := -9223372036854775808 ≤ n ∧ n < 9223372036854775808
instance (n : Int) : Decidable (I64 n) := by unfold I64; exact inferInstance
abbrev dU (n : Nat) : DV := .one (.int .u64 (n : Int))
theorem w64_eq (n : Int) : IntKind.i64.wrap n = if n % 18446744073709551616 ≥ 9223372036854775808 then n % 18446744073709551616 - 18446744073709551616 else n % 18446744073709551616 := by
  simp only [IntKind.wrap, IntKind.bits, IntKind.signed]
  simp
theorem u64_eq (n : Int) : IntKind.u64.wrap n = n % 18446744073709551616 := by
  simp only [IntKind.wrap, IntKind.bits, IntKind.signed]
  simp
theorem u64_in {n : Int} (h0 : 0 ≤ n) (h1 : n < 18446744073709551616) : IntKind.u64.wrap n = n := by
  rw [u64_eq]; omega
theorem u64_nat {n : Nat} (h1 : n < 18446744073709551616) : IntKind.u64.wrap (n : Int) = (n : Int) := u64_in (by omega) (by omega)
theorem u64_and {x : Nat} (hx : x < 18446744073709551616) : andZ .u64 (x : Int) 4294967295 = ((x % 4294967296 : Nat) : Int) := by
  unfold andZ
  have e1 : (BitVec.ofInt IntKind.u64.bits (x : Int) &&& BitVec.ofInt IntKind.u64.bits 4294967295).toNat = x % 4294967296 := by
    rw [BitVec.toNat_and]
    have h2 : (BitVec.ofInt IntKind.u64.bits (x : Int)).toNat = x := by
      show (BitVec.ofInt 64 (x : Int)).toNat = x
      rw [BitVec.toNat_ofInt]; omega
    have h3 : (BitVec.ofInt IntKind.u64.bits 4294967295).toNat = 2 ^ 32 - 1 := by decide
    rw [h2, h3, Nat.and_two_pow_sub_one_eq_mod]
  rw [e1, u64_nat (by omega)]
theorem u64_or {x y : Nat} (hx : x < 4294967296) (hy : y < 4294967296) : orZ .u64 ((x * 4294967296 : Nat) : Int) (y : Int) = ((x * 4294967296 + y : Nat) : Int) := by
  unfold orZ
  have e1 : (BitVec.ofInt IntKind.u64.bits ((x * 4294967296 : Nat) : Int) ||| BitVec.ofInt IntKind.u64.bits (y : Int)).toNat = x * 4294967296 + y := by
    rw [BitVec.toNat_or]
    have h2 : (BitVec.ofInt IntKind.u64.bits ((x * 4294967296 : Nat) : Int)).toNat = x * 4294967296 := by
      show (BitVec.ofInt 64 _).toNat = _
      rw [BitVec.toNat_ofInt]; omega
    have h3 : (BitVec.ofInt IntKind.u64.bits (y : Int)).toNat = y := by
      show (BitVec.ofInt 64 _).toNat = _
      rw [BitVec.toNat_ofInt]; omega
    rw [h2, h3]
    have := Nat.shiftLeft_add_eq_or_of_lt (i := 32) (b := y) (by omega) x
    rw [Nat.shiftLeft_eq] at this
    exact this.symm
  rw [e1, u64_nat (by omega)]
theorem shr32 (x : Nat) : shrZ .u64 (x : Int) 32 = ((x / 4294967296 : Nat) : Int) := by
  unfold shrZ
  have : (2 : Int) ^ (min (32 : Int).toNat IntKind.u64.bits) = 4294967296 := by decide
  rw [this, Int.fdiv_eq_ediv_of_nonneg _ (by decide)]
  omega
theorem shl32 (x : Nat) : shlZ .u64 (x : Int) 32 = ((x % 4294967296 * 4294967296 : Nat) : Int) := by
  unfold shlZ
  have : (2 : Int) ^ (min (32 : Int).toNat IntKind.u64.bits) = 4294967296 := by decide
  rw [this, u64_eq]
  omega
def rng (n : Int) : Int × Int := if I64 n then (n, 0) else (0, 10)
def fAdd (a b : Int) : Int × Int := rng (a + b)
def fSub (a b : Int) : Int × Int := rng (a - b)
def fNeg (a : Int) : Int × Int := rng (0 - a)
def fMul (a b : Int) : Int × Int := rng (a * b / 4294967296)
theorem rng_in {n : Int} (h : I64 n) : rng n = (n, 0) := if_pos h
theorem rng_out {n : Int} (h : ¬ I64 n) : rng n = (0, 10) := if_neg h
theorem p_fix_told (n : Int) (b : Bool) : PureC Try.prog fi_fix_told [dN n, dB b] (dNE (if b then (n, 0) else (0, 10))) := by
  refine pure_fix_told (by simp) fun G hP hn => ?_
  unfold a_fix_told
  cases b
  · repeat' (first | apply T_then | apply then_ret | apply then_exit | apply then_goto | apply rnd_exit | apply rnd_ret | apply rnd_goto | apply noGo_normal | apply noGo_ret | apply noGo_exit | apply jmp_normal | apply jmp_ret | apply jmp_exit | apply jmp_goto | apply inB_normal | apply inB_ret | apply inB_goto | apply inB_exit | refine inB_exit_ne rfl ?_ | ((first | apply T_srK fw | apply T_regK fw); · ((try simp only [TOps.flat, List.cons_append, List.nil_append]); repeat (first | apply X_g0 | apply X_g | apply S_keep | apply X_skip | apply X_skipN | apply X_q | apply X_st | apply X_n | apply X_s | apply SKs0 | apply SKs2 | apply SKs1 | refine ⟨⟨rfl, rfl⟩, ?_⟩ | refine ⟨⟨rfl, ?_⟩, ?_⟩ | refine ⟨?_, ?_⟩ | (· (try simp only [go_sem, seval, reduceIte, ↓reduceIte, Bool.not_eq_true, reduceCtorEq, beq_false, beq_true, hn, hP]); first | done | rfl)))) | apply T_seq | apply T_block | refine T_scopeJ 0 rfl ?_ | apply T_scope | apply T_goto | apply T_ret | apply T_skip | apply T_exit | apply T_label | refine T_condT rfl ?_ | refine T_condF rfl ?_ | refine T_condD rfl (fun _ => ?_) (fun _ => ?_) | refine T_cond rfl (fun _ => ?_) (fun _ => ?_))
    exact ends_ret rfl rfl rfl rfl
  · repeat' (first | apply T_then | apply then_ret | apply then_exit | apply then_goto | apply rnd_exit | apply rnd_ret | apply rnd_goto | apply noGo_normal | apply noGo_ret | apply noGo_exit | apply jmp_normal | apply jmp_ret | apply jmp_exit | apply jmp_goto | apply inB_normal | apply inB_ret | apply inB_goto | apply inB_exit | refine inB_exit_ne rfl ?_ | ((first | apply T_srK fw | apply T_regK fw); · ((try simp only [TOps.flat, List.cons_append, List.nil_append]); repeat (first | apply X_g0 | apply X_g | apply S_keep | apply X_skip | apply X_skipN | apply X_q | apply X_st | apply X_n | apply X_s | apply SKs0 | apply SKs2 | apply SKs1 | refine ⟨⟨rfl, rfl⟩, ?_⟩ | refine ⟨⟨rfl, ?_⟩, ?_⟩ | refine ⟨?_, ?_⟩ | (· (try simp only [go_sem, seval, reduceIte, ↓reduceIte, Bool.not_eq_true, reduceCtorEq, beq_false, beq_true, hn, hP]); first | done | rfl)))) | apply T_seq | apply T_block | refine T_scopeJ 0 rfl ?_ | apply T_scope | apply T_goto | apply T_ret | apply T_skip | apply T_exit | apply T_label | refine T_condT rfl ?_ | refine T_condF rfl ?_ | refine T_condD rfl (fun _ => ?_) (fun _ => ?_) | refine T_cond rfl (fun _ => ?_) (fun _ => ?_))
    exact ends_ret rfl rfl rfl rfl
theorem p_fix_Add {a b : Int} (ha : I64 a) (hb : I64 b) : PureC Try.prog fi_fix_Add [dN a, dN b] (dNE (fAdd a b)) := by
  refine pure_fix_Add (by simp) fun G hP hn => ?_
  unfold a_fix_Add
  have hw := w64_eq (a + b)
  unfold I64 at ha hb
  have k1 : I64 (a + b) → fAdd a b = (IntKind.i64.wrap (a + b), 0) := fun h => by
    rw [wrap_in h.1 h.2]; exact rng_in h
  have k2 : ¬ I64 (a + b) → fAdd a b = (0, 10) := fun h => by
    exact rng_out h
  unfold I64 at k1 k2
  by_cases h1 : a < 0 <;> by_cases h2 : b < 0 <;> by_cases h3 : IntKind.i64.wrap (a + b) < 0
  all_goals
    repeat' (first | apply T_then | apply then_ret | apply then_exit | apply then_goto | apply rnd_exit | apply rnd_ret | apply rnd_goto | apply noGo_normal | apply noGo_ret | apply noGo_exit | apply jmp_normal | apply jmp_ret | apply jmp_exit | apply jmp_goto | apply inB_normal | apply inB_ret | apply inB_goto | apply inB_exit | refine inB_exit_ne rfl ?_ | ((first | apply T_srK fw | apply T_regK fw); · ((try simp only [TOps.flat, List.cons_append, List.nil_append]); repeat (first | apply X_g0 | apply X_g | apply S_keep | apply X_skip | apply X_skipN | refine X_call ?_ ⟨_, _, _, _, _, _, rfl, rfl, rfl, by rw [hP]; exact p_fix_told _ _⟩ ?_ | apply X_q | apply X_st | apply X_n | apply X_s | apply SKs0 | apply SKs2 | apply SKs1 | refine ⟨⟨rfl, rfl⟩, ?_⟩ | refine ⟨⟨rfl, ?_⟩, ?_⟩ | refine ⟨?_, ?_⟩ | (· (try simp only [go_sem, seval, reduceIte, ↓reduceIte, Bool.not_eq_true, reduceCtorEq, beq_false, beq_true, hn, hP, h1, h2, h3]); first | done | rfl)))) | apply T_seq | apply T_block | refine T_scopeJ 0 rfl ?_ | apply T_scope | apply T_goto | apply T_ret | apply T_skip | apply T_exit | apply T_label | refine T_condT rfl ?_ | refine T_condF rfl ?_ | refine T_condD rfl (fun _ => ?_) (fun _ => ?_) | refine T_cond rfl (fun _ => ?_) (fun _ => ?_))
    exact ends_ret rfl rfl rfl (by
      simp only [resD]
      first
        | (rw [k1 (by split at hw <;> omega)]; done)
        | (rw [k2 (by split at hw <;> omega)]; done)
        | (rw [k1 (by split at hw <;> omega)]; rfl)
        | (rw [k2 (by split at hw <;> omega)]; rfl))
theorem p_ref01_Add {a b : Int} (ha : I64 a) (hb : I64 b) : PureC Try.prog fi_fullerref01_Add [dN a, dN b] (dNE (fAdd a b)) := by
  refine pure_fullerref01_Add (by simp) fun G hP hn => ?_
  unfold a_fullerref01_Add
  unfold I64 at ha hb
  by_cases h1 : b > 0
  · have w1 : IntKind.i64.wrap (9223372036854775807 - b) = 9223372036854775807 - b := wrap_in (by omega) (by omega)
    by_cases h2 : a > 9223372036854775807 - b
    · repeat' (first | apply T_then | apply then_ret | apply then_exit | apply then_goto | apply rnd_exit | apply rnd_ret | apply rnd_goto | apply noGo_normal | apply noGo_ret | apply noGo_exit | apply jmp_normal | apply jmp_ret | apply jmp_exit | apply jmp_goto | apply inB_normal | apply inB_ret | apply inB_goto | apply inB_exit | refine inB_exit_ne rfl ?_ | ((first | apply T_srK fw | apply T_regK fw); · ((try simp only [TOps.flat, List.cons_append, List.nil_append]); repeat (first | apply X_g0 | apply X_g | apply S_keep | apply X_skip | apply X_skipN | apply X_q | apply X_st | apply X_n | apply X_s | apply SKs0 | apply SKs2 | apply SKs1 | refine ⟨⟨rfl, rfl⟩, ?_⟩ | refine ⟨⟨rfl, ?_⟩, ?_⟩ | refine ⟨?_, ?_⟩ | (· (try simp only [go_sem, seval, reduceIte, ↓reduceIte, Bool.not_eq_true, reduceCtorEq, beq_false, beq_true, hn, hP, h1, w1, h2]); first | done | rfl)))) | apply T_seq | apply T_block | refine T_scopeJ 0 rfl ?_ | apply T_scope | apply T_goto | apply T_ret | apply T_skip | apply T_exit | apply T_label | refine T_condT rfl ?_ | refine T_condF rfl ?_ | refine T_condD rfl (fun _ => ?_) (fun _ => ?_) | refine T_cond rfl (fun _ => ?_) (fun _ => ?_))
      exact ends_ret rfl rfl rfl (by rw [show fAdd a b = (0, 10) from rng_out (by unfold I64; omega)]; rfl)
    · have hr : I64 (a + b) := ⟨by omega, by omega⟩
      have h3 : ¬ b < 0 := by omega
      have w3 : IntKind.i64.wrap (a + b) = a + b := wrap_in hr.1 hr.2
      repeat' (first | apply T_then | apply then_ret | apply then_exit | apply then_goto | apply rnd_exit | apply rnd_ret | apply rnd_goto | apply noGo_normal | apply noGo_ret | apply noGo_exit | apply jmp_normal | apply jmp_ret | apply jmp_exit | apply jmp_goto | apply inB_normal | apply inB_ret | apply inB_goto | apply inB_exit | refine inB_exit_ne rfl ?_ | ((first | apply T_srK fw | apply T_regK fw); · ((try simp only [TOps.flat, List.cons_append, List.nil_append]); repeat (first | apply X_g0 | apply X_g | apply S_keep | apply X_skip | apply X_skipN | apply X_q | apply X_st | apply X_n | apply X_s | apply SKs0 | apply SKs2 | apply SKs1 | refine ⟨⟨rfl, rfl⟩, ?_⟩ | refine ⟨⟨rfl, ?_⟩, ?_⟩ | refine ⟨?_, ?_⟩ | (· (try simp only [go_sem, seval, reduceIte, ↓reduceIte, Bool.not_eq_true, reduceCtorEq, beq_false, beq_true, hn, hP, h1, w1, h2, h3, w3]); first | done | rfl)))) | apply T_seq | apply T_block | refine T_scopeJ 0 rfl ?_ | apply T_scope | apply T_goto | apply T_ret | apply T_skip | apply T_exit | apply T_label | refine T_condT rfl ?_ | refine T_condF rfl ?_ | refine T_condD rfl (fun _ => ?_) (fun _ => ?_) | refine T_cond rfl (fun _ => ?_) (fun _ => ?_))
      exact ends_ret rfl rfl rfl (by rw [show fAdd a b = (a + b, 0) from rng_in hr]; rfl)
  · by_cases h3 : b < 0
    · have w1 : IntKind.i64.wrap (-9223372036854775808 - b) = -9223372036854775808 - b := wrap_in (by omega) (by omega)
      by_cases h2 : a < -9223372036854775808 - b
      · repeat' (first | apply T_then | apply then_ret | apply then_exit | apply then_goto | apply rnd_exit | apply rnd_ret | apply rnd_goto | apply noGo_normal | apply noGo_ret | apply noGo_exit | apply jmp_normal | apply jmp_ret | apply jmp_exit | apply jmp_goto | apply inB_normal | apply inB_ret | apply inB_goto | apply inB_exit | refine inB_exit_ne rfl ?_ | ((first | apply T_srK fw | apply T_regK fw); · ((try simp only [TOps.flat, List.cons_append, List.nil_append]); repeat (first | apply X_g0 | apply X_g | apply S_keep | apply X_skip | apply X_skipN | apply X_q | apply X_st | apply X_n | apply X_s | apply SKs0 | apply SKs2 | apply SKs1 | refine ⟨⟨rfl, rfl⟩, ?_⟩ | refine ⟨⟨rfl, ?_⟩, ?_⟩ | refine ⟨?_, ?_⟩ | (· (try simp only [go_sem, seval, reduceIte, ↓reduceIte, Bool.not_eq_true, reduceCtorEq, beq_false, beq_true, hn, hP, h1, w1, h2, h3]); first | done | rfl)))) | apply T_seq | apply T_block | refine T_scopeJ 0 rfl ?_ | apply T_scope | apply T_goto | apply T_ret | apply T_skip | apply T_exit | apply T_label | refine T_condT rfl ?_ | refine T_condF rfl ?_ | refine T_condD rfl (fun _ => ?_) (fun _ => ?_) | refine T_cond rfl (fun _ => ?_) (fun _ => ?_))
        exact ends_ret rfl rfl rfl (by rw [show fAdd a b = (0, 10) from rng_out (by unfold I64; omega)]; rfl)
      · have hr : I64 (a + b) := ⟨by omega, by omega⟩
        have w3 : IntKind.i64.wrap (a + b) = a + b := wrap_in hr.1 hr.2
        repeat' (first | apply T_then | apply then_ret | apply then_exit | apply then_goto | apply rnd_exit | apply rnd_ret | apply rnd_goto | apply noGo_normal | apply noGo_ret | apply noGo_exit | apply jmp_normal | apply jmp_ret | apply jmp_exit | apply jmp_goto | apply inB_normal | apply inB_ret | apply inB_goto | apply inB_exit | refine inB_exit_ne rfl ?_ | ((first | apply T_srK fw | apply T_regK fw); · ((try simp only [TOps.flat, List.cons_append, List.nil_append]); repeat (first | apply X_g0 | apply X_g | apply S_keep | apply X_skip | apply X_skipN | apply X_q | apply X_st | apply X_n | apply X_s | apply SKs0 | apply SKs2 | apply SKs1 | refine ⟨⟨rfl, rfl⟩, ?_⟩ | refine ⟨⟨rfl, ?_⟩, ?_⟩ | refine ⟨?_, ?_⟩ | (· (try simp only [go_sem, seval, reduceIte, ↓reduceIte, Bool.not_eq_true, reduceCtorEq, beq_false, beq_true, hn, hP, h1, w1, h2, h3, w3]); first | done | rfl)))) | apply T_seq | apply T_block | refine T_scopeJ 0 rfl ?_ | apply T_scope | apply T_goto | apply T_ret | apply T_skip | apply T_exit | apply T_label | refine T_condT rfl ?_ | refine T_condF rfl ?_ | refine T_condD rfl (fun _ => ?_) (fun _ => ?_) | refine T_cond rfl (fun _ => ?_) (fun _ => ?_))
        exact ends_ret rfl rfl rfl (by rw [show fAdd a b = (a + b, 0) from rng_in hr]; rfl)
    · have hr : I64 (a + b) := ⟨by omega, by omega⟩
      have w3 : IntKind.i64.wrap (a + b) = a + b := wrap_in hr.1 hr.2
      repeat' (first | apply T_then | apply then_ret | apply then_exit | apply then_goto | apply rnd_exit | apply rnd_ret | apply rnd_goto | apply noGo_normal | apply noGo_ret | apply noGo_exit | apply jmp_normal | apply jmp_ret | apply jmp_exit | apply jmp_goto | apply inB_normal | apply inB_ret | apply inB_goto | apply inB_exit | refine inB_exit_ne rfl ?_ | ((first | apply T_srK fw | apply T_regK fw); · ((try simp only [TOps.flat, List.cons_append, List.nil_append]); repeat (first | apply X_g0 | apply X_g | apply S_keep | apply X_skip | apply X_skipN | apply X_q | apply X_st | apply X_n | apply X_s | apply SKs0 | apply SKs2 | apply SKs1 | refine ⟨⟨rfl, rfl⟩, ?_⟩ | refine ⟨⟨rfl, ?_⟩, ?_⟩ | refine ⟨?_, ?_⟩ | (· (try simp only [go_sem, seval, reduceIte, ↓reduceIte, Bool.not_eq_true, reduceCtorEq, beq_false, beq_true, hn, hP, h1, h3, w3]); first | done | rfl)))) | apply T_seq | apply T_block | refine T_scopeJ 0 rfl ?_ | apply T_scope | apply T_goto | apply T_ret | apply T_skip | apply T_exit | apply T_label | refine T_condT rfl ?_ | refine T_condF rfl ?_ | refine T_condD rfl (fun _ => ?_) (fun _ => ?_) | refine T_cond rfl (fun _ => ?_) (fun _ => ?_))
      exact ends_ret rfl rfl rfl (by rw [show fAdd a b = (a + b, 0) from rng_in hr]; rfl)
theorem p_fix_size {a : Int} (ha : I64 a) : PureC Try.prog fi_fix_size [dN a] (dU a.natAbs) := by
  refine pure_fix_size (by simp) fun G hP hn => ?_
  unfold a_fix_size
  unfold I64 at ha
  by_cases h1 : a < 0
  · have w : IntKind.u64.wrap (0 - IntKind.u64.wrap a) = (a.natAbs : Int) := by rw [u64_eq a, u64_eq]; omega
    repeat' (first | apply T_then | apply then_ret | apply then_exit | apply then_goto | apply rnd_exit | apply rnd_ret | apply rnd_goto | apply noGo_normal | apply noGo_ret | apply noGo_exit | apply jmp_normal | apply jmp_ret | apply jmp_exit | apply jmp_goto | apply inB_normal | apply inB_ret | apply inB_goto | apply inB_exit | refine inB_exit_ne rfl ?_ | ((first | apply T_srK fw | apply T_regK fw); · ((try simp only [TOps.flat, List.cons_append, List.nil_append]); repeat (first | apply X_g0 | apply X_g | apply S_keep | apply X_skip | apply X_skipN | apply X_q | apply X_st | apply X_n | apply X_s | apply SKs0 | apply SKs2 | apply SKs1 | refine ⟨⟨rfl, rfl⟩, ?_⟩ | refine ⟨⟨rfl, ?_⟩, ?_⟩ | refine ⟨?_, ?_⟩ | (· (try simp only [go_sem, seval, reduceIte, ↓reduceIte, Bool.not_eq_true, reduceCtorEq, beq_false, beq_true, hn, hP, h1, w]); first | done | rfl)))) | apply T_seq | apply T_block | refine T_scopeJ 0 rfl ?_ | apply T_scope | apply T_goto | apply T_ret | apply T_skip | apply T_exit | apply T_label | refine T_condT rfl ?_ | refine T_condF rfl ?_ | refine T_condD rfl (fun _ => ?_) (fun _ => ?_) | refine T_cond rfl (fun _ => ?_) (fun _ => ?_))
    exact ends_ret rfl rfl rfl rfl
  · have w : IntKind.u64.wrap a = (a.natAbs : Int) := by rw [u64_eq a]; omega
    repeat' (first | apply T_then | apply then_ret | apply then_exit | apply then_goto | apply rnd_exit | apply rnd_ret | apply rnd_goto | apply noGo_normal | apply noGo_ret | apply noGo_exit | apply jmp_normal | apply jmp_ret | apply jmp_exit | apply jmp_goto | apply inB_normal | apply inB_ret | apply inB_goto | apply inB_exit | refine inB_exit_ne rfl ?_ | ((first | apply T_srK fw | apply T_regK fw); · ((try simp only [TOps.flat, List.cons_append, List.nil_append]); repeat (first | apply X_g0 | apply X_g | apply S_keep | apply X_skip | apply X_skipN | apply X_q | apply X_st | apply X_n | apply X_s | apply SKs0 | apply SKs2 | apply SKs1 | refine ⟨⟨rfl, rfl⟩, ?_⟩ | refine ⟨⟨rfl, ?_⟩, ?_⟩ | refine ⟨?_, ?_⟩ | (· (try simp only [go_sem, seval, reduceIte, ↓reduceIte, Bool.not_eq_true, reduceCtorEq, beq_false, beq_true, hn, hP, h1, w]); first | done | rfl)))) | apply T_seq | apply T_block | refine T_scopeJ 0 rfl ?_ | apply T_scope | apply T_goto | apply T_ret | apply T_skip | apply T_exit | apply T_label | refine T_condT rfl ?_ | refine T_condF rfl ?_ | refine T_condD rfl (fun _ => ?_) (fun _ => ?_) | refine T_cond rfl (fun _ => ?_) (fun _ => ?_))
    exact ends_ret rfl rfl rfl rfl
theorem p_ref01_size {a : Int} (ha : I64 a) : PureC Try.prog fi_fullerref01_size [dN a] (dU a.natAbs) := by
  refine pure_fullerref01_size (by simp) fun G hP hn => ?_
  unfold a_fullerref01_size
  unfold I64 at ha
  by_cases h1 : a < 0
  · have w0 : IntKind.i64.wrap (a + 1) = a + 1 := wrap_in (by omega) (by omega)
    have w1 : IntKind.i64.wrap (0 - (a + 1)) = 0 - (a + 1) := wrap_in (by omega) (by omega)
    have w2 : IntKind.u64.wrap (0 - (a + 1)) = 0 - (a + 1) := u64_in (by omega) (by omega)
    have w3 : IntKind.u64.wrap (0 - (a + 1) + 1) = (a.natAbs : Int) := by rw [u64_eq]; omega
    repeat' (first | apply T_then | apply then_ret | apply then_exit | apply then_goto | apply rnd_exit | apply rnd_ret | apply rnd_goto | apply noGo_normal | apply noGo_ret | apply noGo_exit | apply jmp_normal | apply jmp_ret | apply jmp_exit | apply jmp_goto | apply inB_normal | apply inB_ret | apply inB_goto | apply inB_exit | refine inB_exit_ne rfl ?_ | ((first | apply T_srK fw | apply T_regK fw); · ((try simp only [TOps.flat, List.cons_append, List.nil_append]); repeat (first | apply X_g0 | apply X_g | apply S_keep | apply X_skip | apply X_skipN | apply X_q | apply X_st | apply X_n | apply X_s | apply SKs0 | apply SKs2 | apply SKs1 | refine ⟨⟨rfl, rfl⟩, ?_⟩ | refine ⟨⟨rfl, ?_⟩, ?_⟩ | refine ⟨?_, ?_⟩ | (· (try simp only [go_sem, seval, reduceIte, ↓reduceIte, Bool.not_eq_true, reduceCtorEq, beq_false, beq_true, hn, hP, h1, w0, w1, w2, w3]); first | done | rfl)))) | apply T_seq | apply T_block | refine T_scopeJ 0 rfl ?_ | apply T_scope | apply T_goto | apply T_ret | apply T_skip | apply T_exit | apply T_label | refine T_condT rfl ?_ | refine T_condF rfl ?_ | refine T_condD rfl (fun _ => ?_) (fun _ => ?_) | refine T_cond rfl (fun _ => ?_) (fun _ => ?_))
    exact ends_ret rfl rfl rfl rfl
  · have w : IntKind.u64.wrap a = (a.natAbs : Int) := by rw [u64_eq a]; omega
    repeat' (first | apply T_then | apply then_ret | apply then_exit | apply then_goto | apply rnd_exit | apply rnd_ret | apply rnd_goto | apply noGo_normal | apply noGo_ret | apply noGo_exit | apply jmp_normal | apply jmp_ret | apply jmp_exit | apply jmp_goto | apply inB_normal | apply inB_ret | apply inB_goto | apply inB_exit | refine inB_exit_ne rfl ?_ | ((first | apply T_srK fw | apply T_regK fw); · ((try simp only [TOps.flat, List.cons_append, List.nil_append]); repeat (first | apply X_g0 | apply X_g | apply S_keep | apply X_skip | apply X_skipN | apply X_q | apply X_st | apply X_n | apply X_s | apply SKs0 | apply SKs2 | apply SKs1 | refine ⟨⟨rfl, rfl⟩, ?_⟩ | refine ⟨⟨rfl, ?_⟩, ?_⟩ | refine ⟨?_, ?_⟩ | (· (try simp only [go_sem, seval, reduceIte, ↓reduceIte, Bool.not_eq_true, reduceCtorEq, beq_false, beq_true, hn, hP, h1, w]); first | done | rfl)))) | apply T_seq | apply T_block | refine T_scopeJ 0 rfl ?_ | apply T_scope | apply T_goto | apply T_ret | apply T_skip | apply T_exit | apply T_label | refine T_condT rfl ?_ | refine T_condF rfl ?_ | refine T_condD rfl (fun _ => ?_) (fun _ => ?_) | refine T_cond rfl (fun _ => ?_) (fun _ => ?_))
    exact ends_ret rfl rfl rfl rfl
def apart (a b : Int) : Bool := decide (a ≠ 0) && (decide (b ≠ 0) && (decide (a < 0) != decide (b < 0)))
theorem p_fix_apart (a b : Int) : PureC Try.prog fi_fix_apart [dN a, dN b] (dB (apart a b)) := by
  refine pure_fix_apart (by simp) fun G hP hn => ?_
  unfold a_fix_apart
  by_cases h1 : a = 0
  · have h1' : (a != 0) = false := by simp [h1]
    repeat' (first | apply T_then | apply then_ret | apply then_exit | apply then_goto | apply rnd_exit | apply rnd_ret | apply rnd_goto | apply noGo_normal | apply noGo_ret | apply noGo_exit | apply jmp_normal | apply jmp_ret | apply jmp_exit | apply jmp_goto | apply inB_normal | apply inB_ret | apply inB_goto | apply inB_exit | refine inB_exit_ne rfl ?_ | ((first | apply T_srK fw | apply T_regK fw); · ((try simp only [TOps.flat, List.cons_append, List.nil_append]); repeat (first | apply X_g0 | apply X_g | apply S_keep | apply X_skip | apply X_skipN | apply X_q | apply X_st | apply X_n | apply X_s | apply SKs0 | apply SKs2 | apply SKs1 | refine ⟨⟨rfl, rfl⟩, ?_⟩ | refine ⟨⟨rfl, ?_⟩, ?_⟩ | refine ⟨?_, ?_⟩ | (· (try simp only [go_sem, seval, reduceIte, ↓reduceIte, Bool.not_eq_true, reduceCtorEq, beq_false, beq_true, hn, hP, h1']); first | done | rfl)))) | apply T_seq | apply T_block | refine T_scopeJ 0 rfl ?_ | apply T_scope | apply T_goto | apply T_ret | apply T_skip | apply T_exit | apply T_label | refine T_condT rfl ?_ | refine T_condF rfl ?_ | refine T_condD rfl (fun _ => ?_) (fun _ => ?_) | refine T_cond rfl (fun _ => ?_) (fun _ => ?_))
    exact ends_ret rfl rfl rfl (by simp [resD, apart, h1])
  · have h1' : (a != 0) = true := by simp [h1]
    by_cases h2 : b = 0
    · have h2' : (b != 0) = false := by simp [h2]
      repeat' (first | apply T_then | apply then_ret | apply then_exit | apply then_goto | apply rnd_exit | apply rnd_ret | apply rnd_goto | apply noGo_normal | apply noGo_ret | apply noGo_exit | apply jmp_normal | apply jmp_ret | apply jmp_exit | apply jmp_goto | apply inB_normal | apply inB_ret | apply inB_goto | apply inB_exit | refine inB_exit_ne rfl ?_ | ((first | apply T_srK fw | apply T_regK fw); · ((try simp only [TOps.flat, List.cons_append, List.nil_append]); repeat (first | apply X_g0 | apply X_g | apply S_keep | apply X_skip | apply X_skipN | apply X_q | apply X_st | apply X_n | apply X_s | apply SKs0 | apply SKs2 | apply SKs1 | refine ⟨⟨rfl, rfl⟩, ?_⟩ | refine ⟨⟨rfl, ?_⟩, ?_⟩ | refine ⟨?_, ?_⟩ | (· (try simp only [go_sem, seval, reduceIte, ↓reduceIte, Bool.not_eq_true, reduceCtorEq, beq_false, beq_true, hn, hP, h1', h2']); first | done | rfl)))) | apply T_seq | apply T_block | refine T_scopeJ 0 rfl ?_ | apply T_scope | apply T_goto | apply T_ret | apply T_skip | apply T_exit | apply T_label | refine T_condT rfl ?_ | refine T_condF rfl ?_ | refine T_condD rfl (fun _ => ?_) (fun _ => ?_) | refine T_cond rfl (fun _ => ?_) (fun _ => ?_))
      exact ends_ret rfl rfl rfl (by simp [resD, apart, h2])
    · have h2' : (b != 0) = true := by simp [h2]
      by_cases h3 : a < 0 <;> by_cases h4 : b < 0
      all_goals
        repeat' (first | apply T_then | apply then_ret | apply then_exit | apply then_goto | apply rnd_exit | apply rnd_ret | apply rnd_goto | apply noGo_normal | apply noGo_ret | apply noGo_exit | apply jmp_normal | apply jmp_ret | apply jmp_exit | apply jmp_goto | apply inB_normal | apply inB_ret | apply inB_goto | apply inB_exit | refine inB_exit_ne rfl ?_ | ((first | apply T_srK fw | apply T_regK fw); · ((try simp only [TOps.flat, List.cons_append, List.nil_append]); repeat (first | apply X_g0 | apply X_g | apply S_keep | apply X_skip | apply X_skipN | apply X_q | apply X_st | apply X_n | apply X_s | apply SKs0 | apply SKs2 | apply SKs1 | refine ⟨⟨rfl, rfl⟩, ?_⟩ | refine ⟨⟨rfl, ?_⟩, ?_⟩ | refine ⟨?_, ?_⟩ | (· (try simp only [go_sem, seval, reduceIte, ↓reduceIte, Bool.not_eq_true, reduceCtorEq, beq_false, beq_true, hn, hP, h1', h2', h3, h4]); first | done | rfl)))) | apply T_seq | apply T_block | refine T_scopeJ 0 rfl ?_ | apply T_scope | apply T_goto | apply T_ret | apply T_skip | apply T_exit | apply T_label | refine T_condT rfl ?_ | refine T_condF rfl ?_ | refine T_condD rfl (fun _ => ?_) (fun _ => ?_) | refine T_cond rfl (fun _ => ?_) (fun _ => ?_))
        exact ends_ret rfl rfl rfl (by simp [resD, apart, h1, h2, h3, h4])
end Go.AM

