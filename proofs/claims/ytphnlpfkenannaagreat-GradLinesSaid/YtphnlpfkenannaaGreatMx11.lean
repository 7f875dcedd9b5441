import Derived.Test.YtphnlpfkenannaaGreatMx10
set_option linter.unusedVariables false
set_option linter.unusedSimpArgs false
namespace Go.AM
open Go.RowKit (Below)

def initV : Nat → List AV → Env
  | _, [] => []
  | i, d :: ds => (i, d) :: initV (i + 1) ds
theorem initV_lk : ∀ (ds : List AV) (i j : Nat), lk (initV i ds) j = if h : i ≤ j ∧ j - i < ds.length then (ds[j - i]'h.2) else .top
  | [], i, j => by simp [initV, lk]
  | d :: ds, i, j => by
    simp only [initV, lk_put]
    by_cases h : j = i
    · subst h; simp
    · rw [if_neg h, initV_lk ds (i + 1) j]
      by_cases h1 : i + 1 ≤ j
      · have e1 : j - i = (j - (i + 1)) + 1 := by omega
        simp only [e1, List.length_cons, List.getElem_cons_succ]
        by_cases h2 : j - (i + 1) < ds.length
        · rw [dif_pos ⟨h1, h2⟩, dif_pos ⟨by omega, by omega⟩]
        · rw [dif_neg (by omega), dif_neg (by omega)]
      · rw [dif_neg (by omega), dif_neg (by omega)]
def noTupA : List AV → Bool
  | [] => true
  | .tup _ :: _ => false
  | _ :: ds => noTupA ds
def resA : List AV → AV
  | [v] => v
  | vs => .tup vs
def EndsM (rv : List RV) (r : AV) (σ' : Sto) (ex : List AV) : Exit → AS → Prop := fun e s => (e = .normal ∨ e = .ret) ∧ ∃ vs, evRV rv s.env s.σ = some vs ∧ noTupA vs = true ∧ r = resA vs ∧ (∀ p ∈ σ', lo s.σ p.1 = p.2) ∧ s.ex = ex
theorem endsM_ret {rv : List RV} {r : AV} {s : AS} {σ' : Sto} {ex : List AV} {vs : List AV} (h1 : evRV rv s.env s.σ = some vs) (h2 : noTupA vs = true) (h3 : r = resA vs) (h4 : ∀ p ∈ σ', lo s.σ p.1 = p.2) (h5 : s.ex = ex) : EndsM rv r σ' ex .ret s :=
  ⟨.inr rfl, vs, h1, h2, h3, h4, h5⟩
theorem endsM_normal {rv : List RV} {r : AV} {s : AS} {σ' : Sto} {ex : List AV} {vs : List AV} (h1 : evRV rv s.env s.σ = some vs) (h2 : noTupA vs = true) (h3 : r = resA vs) (h4 : ∀ p ∈ σ', lo s.σ p.1 = p.2) (h5 : s.ex = ex) : EndsM rv r σ' ex .normal s :=
  ⟨.inl rfl, vs, h1, h2, h3, h4, h5⟩
theorem lo_of_mem {σ' σ : Sto} (h : ∀ p ∈ σ', lo σ p.1 = p.2) (t : Nat) : lo σ' t = lo σ t ∨ lo σ' t = .none := by
  induction σ' with
  | nil => exact .inr rfl
  | cons p σ' ih =>
    obtain ⟨j, v⟩ := p
    simp only [lo]
    by_cases hj : t = j
    · subst hj; rw [if_pos rfl]; exact .inl (h (t, v) (by simp)).symm
    · rw [if_neg hj]; exact ih fun p hp => h p (by simp [hp])
theorem mutW_of {P : Program} {f : FuncId} {fn : Func} {c : Code} {ac : ACode} {rv : List RV} {vs : List AV} {σ σ' : Sto} {r : AV} {A : Nat → Prop} {τ : Tau} {w : World} {xs : List Value} {ex : List AV} {exs : List Value}
    (hf : P.funcs[f]? = some fn) (hb : fn.body = some c) (hc : compC P c = some ac.erase) (hok : ac.ok fn.ntmps = true)
    (hr : compRV P fn.results.toList = some rv) (hn : vs.length ≤ fn.ntmps)
    (hA : ∀ b, A b → b < w.heap.size) (hxs : All2 (VRel A τ w) vs xs) (hex : All2 (VRel A τ w) ex exs) (hob : ∀ t, ORel (fun _ => True) A τ w t (lo σ t)) (hsp : SepS σ τ)
    (h : T { P := P, w0 := w, A0 := A, nt := fn.ntmps, exv := exs, ow := owOf σ τ } Fence.wide 0 ac (EndsM rv r σ' ex) { env := initV 0 vs, σ := σ, ex := ex }) :
    Calls P f ⟨xs⟩ w (MPost A τ w σ σ' r ex exs) := by
  let G : Ground := { P := P, w0 := w, A0 := A, nt := fn.ntmps, exv := exs, ow := owOf σ τ }
  have hlen := hxs.length
  have hs : SimAt G { env := initV 0 vs, σ := σ, ex := ex } { tmps := (⟨xs⟩ : Array Value) ++ Array.replicate (fn.ntmps - (⟨xs⟩ : Array Value).size) undef, defers := [] } w A τ := by
    refine ⟨⟨rfl, rfl, rfl, Nat.le_refl _, fun _ _ _ => rfl⟩, fun _ hb => hb, fun _ hb => .inl hb, hA, ?_, fun i => ?_, fun t => ?_, hsp, hex, trivial⟩
    · simp [G]; omega
    · simp only [initV_lk]
      split
      · rename_i hi
        have hi2 : i < xs.length := by omega
        have hget : ((⟨xs⟩ : Array Value) ++ Array.replicate (fn.ntmps - (⟨xs⟩ : Array Value).size) undef).getD i undef = xs[i] := by
          rw [Array.getD_eq_getD_getElem?, Array.getElem?_append_left (by simpa using hi2)]
          simp [hi2]
        rw [hget]
        obtain ⟨x, hx, hrel⟩ := hxs.get (i - 0) _ (List.getElem?_eq_getElem hi.2)
        have : xs[i] = x := by
          have := (List.getElem?_eq_some_iff.1 hx).2
          simpa using this
        rw [this]; exact hrel
      · exact .v1 (.top _)
    · exact (hob t).monoM fun b hm hb _ => .inr ⟨t, hm, hb⟩
  refine callsIn_wide.1 (callsIn_of_wp_marks (n := 0) hf hb trivial (wpIn_mono (T.of h c hc hok _ _ ⟨A, _, hs⟩) ?_))
  rintro e a w' ⟨s', ⟨he, ws, h1, h2, rfl, h4, h5⟩, A1, τ1, hs'⟩
  have fin : LeavesInM Fence.wide 0 G.P fn a.tmps (fun e w' => ∃ x A' τ', e = .returned x ∧ Frame A (owOf σ τ) w w' A' ∧ (∀ t, ORel (fun b => w.heap.size ≤ b ∨ owOf σ τ b) A' τ' w' t (lo σ' t)) ∧ SepS σ' τ' ∧
      VRel A' τ' w' (resA ws) x ∧ All2 (VRel A' τ' w') ex exs) a.defers .returning w' := by
    refine leaves (A := A1) (τ := τ1) (s := s') a.defers w' hs' fun w2 hs2 => ?_
    obtain ⟨ys, q1, q2⟩ := run_results (P := P) (a := { tmps := a.tmps, defers := [] }) hr hs2 h1
    have hm : (fn.results.mapM (resV a.tmps)).run P w2 = .ok ⟨ys⟩ w2 := by
      rw [Array.mapM_eq_mapM_toList]
      simp only [Sem.run_map, q1, Result.andThen_ok]
    have hrr : (results fn a.tmps).run P w2 = .ok (if h : ys.length = 1 then ys[0] else .tuple ⟨ys⟩) w2 := by
      rw [results_def]
      simp only [Sem.run_bind, hm, Result.andThen_ok, Sem.run_pure]
      rfl
    have hv : VRel A1 τ1 w2 (resA ws) (if h : ys.length = 1 then ys[0] else .tuple ⟨ys⟩) := by
      have v1 : ∀ {ws : List AV} {ys : List Value}, noTupA ws = true → All2 (VRel A1 τ1 w2) ws ys → All2 (V1 A1 τ1 w2) ws ys := by
        intro ws
        induction ws with
        | nil => intro ys _ h; cases h; exact .nil
        | cons v ws ih =>
          intro ys hn h
          cases h with
          | cons h t =>
            have hn' : noTupA ws = true := by
              revert hn; cases v <;> simp [noTupA]
            cases h with
            | v1 h => exact .cons h (ih hn' t)
            | tup h => simp [noTupA] at hn
      have q3 := v1 h2 q2
      cases q2 with
      | nil => simp [resA]; exact .tup .nil
      | cons g1 gt =>
        cases gt with
        | nil => simpa [resA] using g1
        | cons g2 gt2 =>
          simp only [resA]
          simp
          exact .tup q3
    have hσ := lo_of_mem h4
    refine ⟨_, hrr, _, A1, τ1, rfl, ⟨hs2.below.os, hs2.below.tape, hs2.below.output, hs2.below.size, hs2.below.block, hs2.a0, fun b hb => (hs2.a1 b hb).imp id fun hM => hM.symm, hs2.alt⟩, fun t => ?_, fun t t' b n1 n2 hne hmu hb => ?_, hv, ?_⟩
    · rcases hσ t with e1 | e1
      · rw [e1]; exact hs2.obj t
      · rw [e1]; trivial
    · rcases hσ t with e1 | e1
      · rcases hσ t' with e2 | e2
        · rw [e1] at n1 hmu; rw [e2] at n2
          exact hs2.sep t t' b n1 n2 hne hmu hb
        · exact absurd e2 n2
      · exact absurd e1 n1
    · have := hs2.ex
      rw [h5] at this
      exact this
  rcases he with rfl | rfl <;> exact fin
theorem mutC_of {P : Program} {f : FuncId} {fn : Func} {c : Code} {ac : ACode} {rv : List RV} {vs : List AV} {σ σ' : Sto} {r : AV} {fr : List Nat}
    (henter : ∀ args w, (callFunc f args).run P w = .ok (.enter f args) w) (hf : P.funcs[f]? = some fn) (hb : fn.body = some c) (hc : compC P c = some ac.erase) (hok : ac.ok fn.ntmps = true)
    (hr : compRV P fn.results.toList = some rv) (hn : vs.length ≤ fn.ntmps)
    (h : ∀ (G : Ground) (ex : List AV), G.P = P → G.nt = fn.ntmps → (∀ d ∈ fr, ex.all (fun v => !v.has d) = true) → T G Fence.wide 0 ac (EndsM rv r σ' ex) { env := initV 0 vs, σ := σ, ex := ex }) : MutC P f vs σ r σ' fr :=
  ⟨henter, fun A τ w xs ex exs hA hxs hex hfr hob hsp => mutW_of hf hb hc hok hr hn hA hxs hex hob hsp (h _ ex rfl rfl fun d hd => by
    rw [List.all_eq_true]; intro v hv; simp [hfr d hd v hv])⟩
theorem T_nils {G : Ground} {F : Fence} {n : Nat} {Q : Exit → AS → Prop} {s : AS} {c : ACode} (i d m : Nat) (hi : lk s.env i = .one .nils) (hd : s.nr d = true) (hn : lo s.σ d = .none)
    (h : T G F n c Q { s with env := (i, .one (.msl d 0 m 0 none)) :: s.env, σ := (d, .arr true m []) :: s.σ }) : T G F n c Q s := by
  refine ⟨fun code hc hok a w hs => ?_⟩
  obtain ⟨A, τ, hs⟩ := hs
  have h1 := hs.newNone (AS.nr_Nr hd) hn true m
  refine h.of code hc hok a w ⟨A, _, h1.below, h1.a0, h1.a1, h1.alt, h1.size, fun j => ?_, h1.obj, h1.sep, h1.ex, h1.marks⟩
  rw [lk_put]
  by_cases hj : j = i
  · subst hj
    rw [if_pos rfl]
    have h2 := one_inv (hi ▸ hs.env j : VRel A τ w (.one .nils) _)
    generalize a.tmps.getD j undef = z at h2
    cases h2 with
    | c0 h2 => cases h2 with
      | nils => exact .v1 (.one (.c0 (.mslN d 0 m none none (if_pos rfl) (fun n hn => by cases hn))))
  · rw [if_neg hj]; exact h1.env j
theorem scr_ex {ex : List AV} {d : Nat} (h : ex.all (fun v => !v.has d) = true) : ex.map (AV.scr d) = ex := by
  induction ex with
  | nil => rfl
  | cons v ex ih =>
    simp only [List.all_cons, Bool.and_eq_true, Bool.not_eq_true'] at h
    rw [List.map_cons, AV.scr_id h.1, ih (by simpa using h.2)]
theorem toD_list {n t k len : Nat} {cap : Option Nat} {σ : Sto} {m : Bool} {rows : List (List PV)} (h2 : lo σ t = .arr m k rows) (hl : len = rows.length) :
    toP (n + 1) (.msl t 0 k len cap) σ = some (.sl rows, if m then (t, .arr false k rows) :: σ else σ) := by
  subst hl
  simp only [toP, h2]
  simp
theorem ends_list {rv : List RV} {s : AS} {t k len : Nat} {cap : Option Nat} {m : Bool} {rows : List (List PV)} (h1 : evRV rv s.env s.σ = some [.one (.msl t 0 k len cap)]) (h2 : lo s.σ t = .arr m k rows) (hl : len = rows.length) :
    Ends rv (.one (.sl rows)) .ret s :=
  ends_ret (ds := [.one (.sl rows)]) h1 (by simp only [toDs, toD, toD_list (n := 5) h2 hl]; rfl) rfl rfl
theorem ends_list2 {rv : List RV} {s : AS} {t k len : Nat} {cap : Option Nat} {m : Bool} {rows : List (List PV)} {v : PV} (h1 : evRV rv s.env s.σ = some [.one (.msl t 0 k len cap), .one (.p v)]) (h2 : lo s.σ t = .arr m k rows) (hl : len = rows.length) :
    Ends rv (.tup [.one (.sl rows), .one v]) .ret s :=
  ends_ret (ds := [.one (.sl rows), .one v]) h1 (by simp only [toDs, toD, toD_list (n := 5) h2 hl]; rfl) rfl rfl
theorem Weak.freeze {G : Ground} {s : AS} {i : Nat} {c : AC} {v : PV} {σ' : Sto} (hi : lk s.env i = .one c) (h : toP 6 c s.σ = some (v, σ')) : Weak G s { s with env := (i, .one (.p v)) :: s.env, σ := σ' } := by
  rintro a w ⟨A, τ, hs⟩
  obtain ⟨A', i1, h1, k⟩ := toP_sound 6 c s σ' v A hs h
  refine ⟨A', τ, h1.below, h1.a0, h1.a1, h1.alt, h1.size, fun j => ?_, h1.obj, h1.sep, h1.ex, h1.marks⟩
  rw [lk_put]
  by_cases hj : j = i
  · subst hj
    rw [if_pos rfl]
    have h2 := one_inv (hi ▸ hs.env j : VRel A τ w (.one c) _)
    exact .v1 (.one (.c0 (.p _ _ (k _ h2))))
  · rw [if_neg hj]; exact h1.env j
end Go.AM

namespace Go.AM
open Go.RowKit (Below)

theorem obj_not {M A : Nat → Prop} {τ : Tau} {w : World} {t b : Nat} {o : AO} {x : Obj} (h : ORel M A τ w t o) (hn : o ≠ .none) (hb : τ t = some b) (hx : w.heap[b]? = some x) : (∃ cs e, x = .cells cs e (0, 0)) ∨ ∃ ces c, x = .map ces c := by
  cases o with
  | none => exact absurd rfl hn
  | cells m cs =>
    obtain ⟨b', xs, e, h1, h2, _⟩ := h
    rw [hb] at h1; cases h1; rw [hx] at h2; cases h2
    exact .inl ⟨_, _, rfl⟩
  | arr m s rows =>
    obtain ⟨_, _, ⟨h1, _⟩ | ⟨b', xs, e, h1, h2, _⟩⟩ := h
    · rw [hb] at h1; cases h1
    · rw [hb] at h1; cases h1; rw [hx] at h2; cases h2
      exact .inl ⟨_, _, rfl⟩
  | map m es =>
    obtain ⟨b', ces, c, h1, h2, _⟩ := h
    rw [hb] at h1; cases h1; rw [hx] at h2; cases h2
    exact .inr ⟨_, _, rfl⟩
theorem ow_not {M A : Nat → Prop} {τ : Tau} {w : World} {σ : Sto} {l : Nat} {x : Obj} (h : ∀ t, ORel M A τ w t (lo σ t)) (hx : w.heap[l]? = some x) (h1 : ∀ cs e, x ≠ .cells cs e (0, 0)) (h2 : ∀ ces c, x ≠ .map ces c) : ¬ owOf σ τ l := by
  rintro ⟨t, hm, hb⟩
  rcases obj_not (h t) (fun e => by rw [e] at hm; cases hm) hb hx with ⟨cs, e, rfl⟩ | ⟨ces, c, rfl⟩
  · exact h1 _ _ rfl
  · exact h2 _ _ rfl
theorem WStep.loop {w : World} {l : Nat} {R R' : Loop} (h : w.heap[l]? = some (.loop R)) : WStep (· = l) w (w.putObj l (.loop R')) := by
  refine ⟨rfl, rfl, rfl, by simp [World.putObj], fun b _ hb => World.putObj_heap_other hb, fun b cs e hb => ⟨cs, ?_, rfl⟩⟩
  rw [World.putObj_heap_other (fun e' => by subst e'; rw [h] at hb; cases hb)]
  exact hb
theorem KeepD.loop {w : World} {l : Nat} {R R' : Loop} (h : w.heap[l]? = some (.loop R)) : KeepD w (w.putObj l (.loop R')) := fun b ds hb => by
  rw [World.putObj_heap_other (fun e' => by subst e'; rw [h] at hb; cases hb)]; exact hb
section
variable {G : Ground} {F : Fence} {n : Nat} {Q : Exit → AS → Prop} {s : AS}
theorem T_steps (hF : FOk F) {t : TOps} {k ids : List Nat} {S : AS} (h : Steps G.P G t.flat s S) (hq : Q .normal S) : T G F n (.region none t k ids) Q s := by
  refine ⟨fun code hc => ?_⟩
  intro hok a w hs
  obtain ⟨id, ops, l, rfl, hz, hfl⟩ := inv_region hc
  have hl := flatT_inj hfl
  subst hl
  refine wpIn_region ?_
  have := steps_ops (F := F) (n := n) (Q := fun e a w => ∃ s', Q e s' ∧ SimS G s' a w) hF h 0 ops.toList hz (fun i o hi => by simpa using hi) (fun a w hs' => ⟨_, hq, hs'⟩) a w hs
  rw [compR_len hz] at this
  simpa [List.range_eq_range'] using this
theorem Steps.q {d : Option Nat} {q : QOp} {v : AV} {l : List FOp} {S : AS} (hd : ∀ t, d = some t → t < G.nt) (h : evQ q s.env s.σ = some v) (t : Steps G.P G l (putd d v s) S) : Steps G.P G (⟨d, none, .q q⟩ :: l) s S :=
  .cons (.run rfl hd (.q h)) t
theorem SimAt.reput {a : Act} {w : World} {A : Nat → Prop} {τ : Tau} {l : Nat} {R R' : Loop} (h : SimAt G s a w A τ) (hl : l < G.N) (hno : ¬ G.ow l) (hA : ¬ A l) (ho : w.heap[l]? = some (.loop R)) :
    SimAt { G with w0 := G.w0.putObj l (.loop R') } s a (w.putObj l (.loop R')) A τ := by
  have hw := WStep.loop (R' := R') ho
  have hst : Still A w (w.putObj l (.loop R')) := hw.still h.alt (fun b hb e => hA (e ▸ hb))
  have hN : ({ G with w0 := G.w0.putObj l (.loop R') } : Ground).N = G.N := by simp [Ground.N, World.putObj]
  have hM : ∀ b, G.M b → ({ G with w0 := G.w0.putObj l (.loop R') } : Ground).M b := fun b hb => hb.imp (fun h => by rw [hN]; exact h) id
  have hMe : ({ G with w0 := G.w0.putObj l (.loop R') } : Ground).M = G.M := by
    funext b; simp only [Ground.M, hN]
  refine ⟨⟨h.below.os, h.below.tape, h.below.output, ?_, fun k hk hn => ?_⟩, h.a0, fun b hb => (h.a1 b hb).imp id (hM b), fun b hb => Nat.lt_of_lt_of_le (h.alt b hb) hw.size, h.size, fun i => (h.env i).step hw (fun _ hb => hb) hst (fun _ _ => rfl),
    fun t => ?_, h.sep, h.ex.mono fun _ _ hv => hv.step hw (fun _ hb => hb) hst (fun _ _ => rfl), ?_⟩
  · rw [hN]; exact Nat.le_trans h.below.size hw.size
  · rw [hN] at hk
    show (w.putObj l (.loop R')).heap[k]? = (G.w0.putObj l (.loop R')).heap[k]?
    by_cases hkl : k = l
    · subst hkl
      rw [World.putObj_heap_same (heap_lt ho), World.putObj_heap_same hk]
    · rw [World.putObj_heap_other hkl, World.putObj_heap_other hkl]
      exact h.below.block k hk hn
  · rw [hMe]
    refine (h.obj t).step hw (fun _ hb => hb) hst (fun _ hb => .inl hb) (fun b hne hb hlt => hw.same b hlt fun e => ?_) rfl (fun _ _ => rfl)
    subst e
    rcases obj_not (h.obj t) hne hb ho with ⟨_, _, h⟩ | ⟨_, _, h⟩ <;> cases h
  · rw [hN]
    exact h.marks.step (KeepD.loop ho) (fun _ hb => .inl hb)
def putE : List Nat → List AV → Env → Env
  | p :: ps, v :: vs, e => putE ps vs ((p, v) :: e)
  | _, _, e => e
theorem put_rel {A : Nat → Prop} {τ : Tau} {w : World} : ∀ {ps : List Nat} {vs : List AV} {xs : List Value} {e : Env} {tmps : Array Value}, All2 (VRel A τ w) vs xs → (∀ i, VRel A τ w (lk e i) (tmps.getD i undef)) → ps.all (· < tmps.size) = true →
    (∀ i, VRel A τ w (lk (putE ps vs e) i) (((ps.zip xs).foldl (fun t (p, v) => t.setIfInBounds p v) tmps).getD i undef)) ∧ ((ps.zip xs).foldl (fun t (p, v) => t.setIfInBounds p v) tmps).size = tmps.size
  | [], _, _, e, tmps, _, h, _ => ⟨by simpa [putE] using h, by simp⟩
  | p :: ps, _, _, e, tmps, .nil, h, _ => ⟨by simpa [putE] using h, by simp⟩
  | p :: ps, _, _, e, tmps, .cons (a := v) (b := x) hv ht, h, hp => by
    simp only [List.all_cons, Bool.and_eq_true, decide_eq_true_eq] at hp
    have := put_rel (ps := ps) (e := (p, v) :: e) (tmps := tmps.setIfInBounds p x) ht (fun i => by
      rw [lk_put]
      by_cases hi : i = p
      · subst hi
        rw [if_pos rfl]
        have : (tmps.setIfInBounds i x).getD i undef = x := by simp [Array.getD_eq_getD_getElem?, hp.1]
        rw [this]; exact hv
      · rw [if_neg hi]
        have : (tmps.setIfInBounds p x).getD i undef = tmps.getD i undef := by
          simp [Array.getD_eq_getD_getElem?, Array.getElem?_setIfInBounds_ne (Ne.symm hi)]
        rw [this]; exact h i) (by simpa using hp.2)
    simpa [putE] using this
structure AsgEnd (K : AS → Prop) (e : Exit) (s : AS) : Prop where
  norm : e = .normal
  k : K s
structure RoundEnd (σ' : Sto) (ex : List AV) (e : Exit) (s : AS) : Prop where
  norm : e = .normal
  sto : ∀ p ∈ σ', lo s.σ p.1 = p.2
  ex : s.ex = ex
structure Fam (σ : Nat → Sto) (fr : List Nat) : Prop where
  once : ∀ k, ∀ p ∈ σ k, lo (σ k) p.1 = p.2
  keys : ∀ k t, lo (σ k) t ≠ .none → t ∈ (σ (k + 1)).map (·.1)
  out : ∀ k d, d ∈ fr → lo (σ k) d = .none ∨ d ∈ (σ (k + 1)).map (·.1)
  obj : ∀ k t d, d ∈ fr → t ∉ (σ (k + 1)).map (·.1) → (lo (σ k) t).nr d = true
structure SeqC (P : Program) (f : FuncId) (caps : List PV) (xs : List (List DV)) : Prop where
  enters : ∀ args w, (callFunc f args).run P w = .ok (.enter f args) w
  calls : ∀ (R : Loop) (l : Nat) (σ : Nat → Sto) (fr : List Nat) (cA : List AV) (cV : List Value),
    (∀ k x, xs[k]? = some x → YieldC P R l (x.map DV.av) (σ k) (σ (k + 1)) fr cA cV) → Fam σ fr →
    ∀ (A : Nat → Prop) (τ : Tau) (w : World) (vb : List Value) (ex : List AV) (exs : List Value), (∀ b, A b → b < w.heap.size) → PRels A w caps vb → All2 (VRel A τ w) (cA ++ ex) (cV ++ exs) →
    (∀ d ∈ fr, ∀ v ∈ cA ++ ex, v.has d = false) → (∀ t, ORel (fun _ => True) A τ w t (lo (σ 0) t)) → SepS (σ 0) τ → w.heap[l]? = some (.loop R) → ¬ A l →
    Calls P f ⟨Value.func (.yield l) #[] #[] :: vb⟩ w fun e w' => ∃ x A' τ', e = .returned x ∧ Frame A (owOf (σ 0) τ) w w' A' ∧ (∀ t, ORel (fun b => w.heap.size ≤ b ∨ owOf (σ 0) τ b) A' τ' w' t (lo (σ xs.length) t)) ∧
      SepS (σ xs.length) τ' ∧ All2 (VRel A' τ' w') (cA ++ ex) (cV ++ exs)
theorem inv_range {P : Program} {code : Code} {f : Opd} {ps : List Nat} {x y : ACode} (h : compC P code = some (.range f ps x y)) :
    ∃ fo pa cx cy, code = .rangeFunc fo pa cx cy ∧ opd fo = some f ∧ pa.toList = ps ∧ compC P cx = some x ∧ compC P cy = some y := by
  cases code <;> simp [compC, Option.bind_eq_some_iff, Option.map_eq_some_iff] at h
  obtain ⟨f', h1, x', h2, y', h3, rfl, rfl, rfl, rfl⟩ := h
  exact ⟨_, _, _, _, rfl, h1, rfl, h2, h3⟩
theorem yield_of {a : Act} {fn : FuncId} {pa : Array Tmp} {ps : List Nat} {cx cy : Code} {x y : ACode} {D : Nat} {l : Nat} {vs : List AV} {σ σ' : Sto} {fr : List Nat} {env : Env} {P : Program} {nt : Nat}
    (hpa : pa.toList = ps) (hps : ps.all (· < nt) = true) (hlen : vs.length = ps.length) (hcx : compC P cx = some x.erase) (hcy : compC P cy = some y.erase) (hokx : x.ok nt = true) (hoky : y.ok nt = true) (hnt : a.tmps.size = nt)
    (round : ∀ (F : Fence) (n : Nat) (G' G'' : Ground) (ex : List AV), FOk F → G'.P = P → G'.nt = nt → G''.P = P → G''.nt = nt → (∀ d ∈ fr, ex.all (fun v => !v.has d) = true) →
      T G' F n x (AsgEnd fun s1 => T G'' F n y (RoundEnd σ' ex) s1) { env := putE ps vs env, σ := σ, ex := ex }) :
    YieldC P { state := .ready, pending := none, fn := fn, tmps := a.tmps, params := pa, assign := cx, body := cy, defers := D } l vs σ σ' fr (env.map fun p => lk env p.1) (env.map fun p => a.tmps.getD p.1 undef) := by
  intro F n A τ w xs ex exs hF hA hx he hfr ho hs hl hAl
  have hF' : FOk (F.inRound l) := by
    rcases hF with rfl | ⟨l', rfl⟩
    · exact .inr ⟨l, rfl⟩
    · exact .inr ⟨l, rfl⟩
  have hxl := hx.length
  have hpl : pa.size = ps.length := by rw [← hpa]; simp
  refine ⟨fn, _, cx, cy, run_yield hl (by simp; omega), roundIn_of_wpIn (hF.fn fn) ?_⟩
  generalize hRd : ({ state := .ready, pending := none, fn := fn, tmps := a.tmps, params := pa, assign := cx, body := cy, defers := D } : Loop) = R at hl
  have hRs : R.state = .ready := by rw [← hRd]
  have hRp : R.pending = none := by rw [← hRd]
  have htm : (pa.zip ⟨xs⟩).foldl (fun tmps (t, a) => tmps.setIfInBounds t a) a.tmps = (ps.zip xs).foldl (fun t (p, v) => t.setIfInBounds p v) a.tmps := by
    rw [← hpa, ← Array.foldl_toList]
    simp
  have henv : ∀ i, VRel A τ w (lk env i) (a.tmps.getD i undef) := by
    intro i
    by_cases hi : i ∈ env.map (·.1)
    · obtain ⟨p, hp, rfl⟩ := List.mem_map.1 hi
      have : All2 (VRel A τ w) (env.map fun p => lk env p.1) (env.map fun p => a.tmps.getD p.1 undef) := by
        have h2 : ∀ {α β : Type} {R : α → β → Prop} {az az' : List α} {b1 b2 : List β}, All2 R (az ++ az') (b1 ++ b2) → az.length = b1.length → All2 R az b1 := by
          intro α β R az
          induction az with
          | nil => intro az' b1 b2 _ hl; cases b1 with | nil => exact .nil | cons => simp at hl
          | cons a az ih =>
            intro az' b1 b2 h hl
            cases b1 with
            | nil => simp at hl
            | cons b b1 => cases h with | cons h t => exact .cons h (ih t (by simpa using hl))
        exact h2 he (by simp)
      exact All2.map_inv this p hp
    · rw [lk_none hi]; exact .v1 (.top _)
  have hput := put_rel (ps := ps) hx henv (by rw [hnt]; exact hps)
  let G : Ground := { P := P, w0 := w, A0 := A, nt := nt, exv := (env.map fun p => a.tmps.getD p.1 undef) ++ exs, ow := owOf σ τ }
  have hno : ¬ G.ow l := ow_not ho hl (fun _ _ h => by cases h) (fun _ _ h => by cases h)
  have hlN : l < G.N := heap_lt hl
  have hs0 : SimAt G { env := putE ps vs env, σ := σ, ex := (env.map fun p => lk env p.1) ++ ex } { tmps := (ps.zip xs).foldl (fun t (p, v) => t.setIfInBounds p v) a.tmps, defers := [] } w A τ := by
    refine ⟨⟨rfl, rfl, rfl, Nat.le_refl _, fun _ _ _ => rfl⟩, fun _ hb => hb, fun _ hb => .inl hb, hA, by rw [hput.2]; exact hnt, hput.1, fun t => ?_, hs, he, trivial⟩
    exact (ho t).monoM fun b hm hb _ => .inr ⟨t, hm, hb⟩
  let G2 : Ground := { G with w0 := G.w0.putObj l (.loop { R with state := .busy }) }
  have hr := round (F.inRound l) n G G2 ((env.map fun p => lk env p.1) ++ ex) hF' rfl rfl rfl rfl (fun d hd => by
    rw [List.all_eq_true]; intro v hv; simp [hfr d hd v hv])
  have ht : ({ tmps := (R.params.zip ⟨xs⟩).foldl (fun tmps (t, a) => tmps.setIfInBounds t a) R.tmps, defers := [] } : Act) = { tmps := (ps.zip xs).foldl (fun t (p, v) => t.setIfInBounds p v) a.tmps, defers := [] } := by
    rw [show R.params = pa from by rw [← hRd], show R.tmps = a.tmps from by rw [← hRd], htm]
  rw [ht]
  have notA : ∀ {G : Ground} {s : AS} {a : Act} {w : World} {A1 : Nat → Prop} {τ1 : Tau}, SimAt G s a w A1 τ1 → l < G.N → ¬ G.ow l → ¬ G.A0 l → ¬ A1 l := by
    intro G s a w A1 τ1 hs h1 h2 h3 h
    rcases hs.a1 l h with h4 | h4 | h4
    · exact h3 h4
    · omega
    · exact h2 h4
  refine wpIn_mono (hr.of cx hcx hokx _ _ ⟨A, τ, hs0⟩) ?_
  rintro e a1 w1 ⟨s1, ⟨rfl, hbody⟩, A1, τ1, hs1⟩
  have hl1 : w1.heap[l]? = some (.loop R) := (hs1.below.block l hlN hno).trans hl
  have hA1 := notA hs1 hlN hno hAl
  refine ⟨_, run_beginRound hl1 hRs, ?_⟩
  have hs2 := hs1.reput (R' := { R with state := .busy }) hlN hno hA1 hl1
  refine wpIn_mono (hbody.of cy hcy hoky _ _ ⟨A1, τ1, hs2⟩) ?_
  rintro e a3 w3 ⟨s3, ⟨rfl, hsto, hex3⟩, A3, τ3, hs3⟩
  have hN2 : G2.N = G.N := by simp [G2, Ground.N, World.putObj]
  have hl2 : G2.w0.heap[l]? = some (.loop { R with state := .busy }) := World.putObj_heap_same hlN
  have hl3 : w3.heap[l]? = some (.loop { R with state := .busy }) := (hs3.below.block l (by rw [hN2]; exact hlN) hno).trans hl2
  have hA3 := notA hs3 (by rw [hN2]; exact hlN) hno hAl
  have hs4 := hs3.reput (R' := R) (by rw [hN2]; exact hlN) hno hA3 hl3
  have hend := run_endRound (P := P) none hl3
  have hRR : ({ ({ R with state := .busy } : Loop) with state := if (none : Option Code).isNone then .ready else .done, pending := none } : Loop) = R := by
    cases R; simp only at hRs hRp; subst hRs hRp; rfl
  rw [hRR] at hend
  refine ⟨_, _, hend, .bool true, A3, τ3, rfl, ?_, fun t => ?_, ?_, .v1 (.one (.c0 (.p _ _ (.bool true)))), ?_⟩
  · have hsz : w.heap.size ≤ (w3.putObj l (.loop R)).heap.size := by
      have := hs4.below.size
      simpa [Ground.N, G2, G, World.putObj] using this
    refine ⟨hs4.below.os, hs4.below.tape, hs4.below.output, hsz, fun k hk hn => ?_, hs3.a0, fun b hb => ?_, hs4.alt⟩
    · have := hs4.below.block k (by simpa [Ground.N, G2, G, World.putObj] using hk) hn
      rw [this]
      show ((w.putObj l (.loop { R with state := .busy })).putObj l (.loop R)).heap[k]? = w.heap[k]?
      by_cases hkl : k = l
      · rw [hkl, World.putObj_heap_same (by simpa [World.putObj, Ground.N, G] using hlN), hl]
      · rw [World.putObj_heap_other hkl, World.putObj_heap_other hkl]
    · rcases hs3.a1 b hb with h | h | h
      · exact .inl h
      · rw [hN2] at h; exact .inr (.inr h)
      · exact .inr (.inl h)
  · have hobj := hs4.obj t
    rcases lo_of_mem hsto t with e1 | e1
    · rw [e1]
      refine hobj.monoM fun b _ _ hb => hb.imp (fun h => ?_) id
      simpa [Ground.N, G2, G, World.putObj] using h
    · rw [e1]; trivial
  · intro t t' b n1 n2 hne hmu hb
    rcases lo_of_mem hsto t with e1 | e1
    · rcases lo_of_mem hsto t' with e2 | e2
      · rw [e1] at n1 hmu; rw [e2] at n2
        exact hs4.sep t t' b n1 n2 hne hmu hb
      · exact absurd e2 n2
    · exact absurd e1 n1
  · have := hs4.ex
    rw [hex3] at this
    exact this
theorem T_range {f : Opd} {ps : List Nat} {x y : ACode} {id : FuncId} {caps : List PV} {xs : List (List DV)} (hf : get s.env f = .one (.p (.fn id [] caps))) (hseq : SeqC G.P id caps xs) (σ : Nat → Sto) (fr : List Nat)
    (hps : ps.all (· < G.nt) = true) (hlen : ∀ x ∈ xs, x.length = ps.length) (h0 : ∀ t, lo (σ 0) t = lo s.σ t ∨ lo (σ 0) t = .none) (fam : Fam σ fr) (hk : ∀ t, lo (σ 0) t ≠ .none → t ∈ (σ xs.length).map (·.1)) (hfr : ∀ d ∈ fr, FrOk s (σ xs.length) d)
    (round : ∀ k v, xs[k]? = some v → ∀ (F : Fence) (n : Nat) (G' G'' : Ground) (ex : List AV), FOk F → G'.P = G.P → G'.nt = G.nt → G''.P = G.P → G''.nt = G.nt → (∀ d ∈ fr, ex.all (fun v => !v.has d) = true) →
      T G' F n x (AsgEnd fun s1 => T G'' F n y (RoundEnd (σ (k + 1)) ex) s1) { env := putE ps (v.map DV.av) s.env, σ := σ k, ex := ex })
    (done : Q .normal { s with σ := σ xs.length ++ s.σ }) : T G Fence.wide n (.range f ps x y) Q s := by
  refine ⟨fun code hc => ?_⟩
  intro hok a w hs
  obtain ⟨fo, pa, cx, cy, rfl, hfo, hpa, hcx, hcy⟩ := inv_range hc
  simp only [ACode.ok, Bool.and_eq_true] at hok
  obtain ⟨A, τ, hs⟩ := hs
  have hfv := opd_sound hs hfo
  rw [hf] at hfv
  have hfv := p_inv hfv
  generalize hz : a.eval fo = z at hfv
  cases hfv with
  | fn _ _ _ vf vc hp1 hp2 =>
  cases hp1
  refine wpIn_rangeFunc fun fn _ => ?_
  obtain ⟨R, hR⟩ : ∃ R : Loop, R = { state := .ready, pending := none, fn := fn, tmps := a.tmps, params := pa, assign := cx, body := cy, defers := w.heap.size } := ⟨_, rfl⟩
  obtain ⟨w1, hw1⟩ : ∃ w1, w1 = (w.alloc (.deferred (some []))).alloc (.loop R) := ⟨_, rfl⟩
  have ws : WStep (fun _ => False) w w1 := by
    rw [hw1]
    exact ((WStep.push w _).trans (WStep.push _ _)).weak fun _ h => h.elim (fun h => h) (fun h => h)
  have hs1 : SimAt G s a w1 A τ := hs.world ws (fun _ hb => hb) (fun _ hb => .inl hb) (fun _ hf => hf.elim) (fun _ _ _ _ hf => hf) ws.dfr0
  have hl : w1.heap[w.heap.size + 1]? = some (.loop R) := by
    rw [hw1]; have := World.alloc_heap_new (w.alloc (.deferred (some []))) (.loop R); rwa [World.size_alloc] at this
  have hD : w1.heap[w.heap.size]? = some (.deferred (some [])) := by
    rw [hw1]; exact (Below.heap_alloc _ _ _ (by simp)).trans (World.alloc_heap_new w _)
  have hAl : ¬ A (w.heap.size + 1) := fun h => by have := hs.alt _ h; omega
  have hAD : ¬ A w.heap.size := fun h => by have := hs.alt _ h; omega
  have hrun := callC_run (C := fun R' => Calls G.P id ⟨Value.func (.yield (w.heap.size + 1)) #[] #[] :: vc⟩ w1 R') (r := .top) (fr := fr) (σ0 := σ 0) (σ1 := σ xs.length) (fun h k => h.mono k)
    (fun ex exs h1 h2 h3 h4 => by
      have r1 : All2 (VRel A τ w1) (s.env.map fun p => lk s.env p.1) (s.env.map fun p => a.tmps.getD p.1 undef) := All2.map fun p _ => hs1.env p.1
      have := hseq.calls R (w.heap.size + 1) σ fr _ _ (fun k v hv => by
          rw [hR]
          exact yield_of (a := a) (fn := fn) (cx := cx) (cy := cy) (D := w.heap.size) hpa hps (by simpa using hlen v (List.mem_of_getElem? hv)) hcx hcy hok.1 hok.2 hs.size (round k v hv)) fam
        A τ w1 vc (s.ex ++ ex) (G.exv ++ exs) hs1.alt (hp2.mono (fun _ hb => hb) (ws.still hs.alt fun _ _ h => h)) (r1.append h1) (fun d hd v hv => by
          rcases List.mem_append.1 hv with hv | hv
          · obtain ⟨p, _, rfl⟩ := List.mem_map.1 hv
            exact (hfr d hd).env p.1
          · exact h2 d hd v hv) h3 h4 hl hAl
      refine this.mono ?_
      rintro e w' ⟨x, A', τ', rfl, q1, q2, q3, q4⟩
      exact ⟨x, A', τ', rfl, q1, q2, q3, .v1 (.top _), (q4.split2 r1).2⟩)
    hs1 h0 hk hfr
  refine ⟨w.heap.size + 1, [{ target := .collected w.heap.size, args := #[] }], w1, { target := .fn (.func id) ⟨vc⟩, args := #[.func (.yield (w.heap.size + 1)) #[] #[]] }, w1, id,
    ⟨Value.func (.yield (w.heap.size + 1)) #[] #[] :: vc⟩, w1, ?_, ?_, ?_, ?_, (fun h => by cases h), ?_⟩
  · rw [hw1, hR]; exact run_enterLoop_outer _ _ _ _ _
  · simp only [resolve, hz]
    simp [go_sem]
  · intro f' hf'; trivial
  · simp only [invoke, hseq.enters]
    congr 2
    apply Array.ext'; simp
  · refine callsIn_wide.2 (hrun.mono ?_)
    rintro e w2 ⟨v, A2, τ2, rfl, fr2, hs2, _⟩
    have hob : ∀ t, ORel (fun _ => True) A τ w1 t (lo (σ 0) t) := fun t => by
      rcases h0 t with h | h
      · rw [h]; exact (hs1.obj t).monoM fun _ _ _ _ => trivial
      · rw [h]; trivial
    have hol : ¬ owOf (σ 0) τ (w.heap.size + 1) := ow_not hob hl (fun _ _ h => by cases h) (fun _ _ h => by cases h)
    have hoD : ¬ owOf (σ 0) τ w.heap.size := ow_not hob hD (fun _ _ h => by cases h) (fun _ _ h => by cases h)
    have hl2 : w2.heap[w.heap.size + 1]? = some (.loop R) := (fr2.block _ (heap_lt hl) hol).trans hl
    have hD2 : w2.heap[w.heap.size]? = some (.deferred (some [])) := (fr2.block _ (heap_lt hD) hoD).trans hD
    have hA2l : ¬ A2 (w.heap.size + 1) := fun h => by
      rcases fr2.new _ h with h | h | h
      · exact hAl h
      · exact hol h
      · have := heap_lt hl; omega
    have hA2D : ¬ A2 w.heap.size := fun h => by
      rcases fr2.new _ h with h | h | h
      · exact hAD h
      · exact hoD h
      · have := heap_lt hD; omega
    have hN : G.N ≤ w.heap.size := hs.below.size
    have hend := run_endLoop (P := G.P) hl2 (by rw [hR]; simp)
    have hpend : R.pending = none := by rw [hR]
    refine ⟨none, _, hend.trans (congrArg (fun j => Result.ok j _) hpend), _, done, A2, τ2, ?_⟩
    have hs3 := hs2.world (WStep.loop (R' := { R with state := .exhausted }) hl2) (fun _ hb => hb) (fun _ hb => .inl hb) (fun b hb => by subst hb; exact ⟨hA2l, .inl (by omega)⟩) (fun t b hne hb e => by
      subst e
      rcases obj_not (hs2.obj t) hne hb hl2 with ⟨_, _, h⟩ | ⟨_, _, h⟩ <;> cases h) (KeepD.loop hl2)
    refine ⟨hs3.below, hs3.a0, hs3.a1, hs3.alt, hs3.size, hs3.env, hs3.obj, hs3.sep, hs3.ex, ?_⟩
    show Marks G.N A2 _ ({ target := .collected w.heap.size, args := #[] } :: a.defers)
    refine ⟨⟨w.heap.size, rfl, hN, hA2D, ?_, fun hm => ?_⟩, hs3.marks⟩
    · rw [World.putObj_heap_other (by omega)]; exact hD2
    · have key : ∀ {ds : List Deferred}, Marks G.N A w ds → ({ target := .collected w.heap.size, args := #[] } : Deferred) ∉ ds := by
        intro ds
        induction ds with
        | nil => intro _ h; cases h
        | cons d ds ih =>
          rintro ⟨⟨r, rfl, _, _, h4, _⟩, ht⟩ h
          rcases List.mem_cons.1 h with h | h
          · simp at h
            have := heap_lt h4; omega
          · exact ih ht h
      exact key hs.marks hm
theorem yStep {f : Opd} {az : List Opd} {R : Loop} {l : Nat} {σ : Nat → Sto} {fr : List Nat} {k : Nat} {vs : List AV} {env : Env} {ex : List AV} (fam : Fam σ fr) (hr : G.w0.heap[l]? = some (.loop R)) (hno : ¬ G.ow l) (hA : ¬ G.A0 l)
    (hy : YieldC G.P R l vs (σ k) (σ (k + 1)) fr ex G.exv) (hex : ∀ d ∈ fr, ∀ v ∈ ex, v.has d = false) (hg : get env f = .one (.raw (.func (.yield l) #[] #[]))) (hv : gets env az = vs) (henv : ∀ d i, (lk env i).has d = false) :
    YStep G f az { env := env, σ := σ k, ex := ex } (σ (k + 1)) R l (σ k) fr :=
  ⟨hg, hr, hno, hA, fun _ => .inl rfl, fam.keys k, fun d hd => ⟨henv d, hex d hd, fun t ht => fam.obj k t d hd ht, fam.out k d hd⟩, by rw [hv]; exact hy⟩
theorem Weak.drop {σ1 : Sto} {e : Env} {σ : Sto} {ex : List AV} : Weak G { env := e, σ := σ1 ++ σ, ex := ex } { env := e, σ := σ1, ex := ex } :=
  Weak.sto (s := { env := e, σ := σ1 ++ σ, ex := ex }) fun t => by
    rw [lo_app]
    split
    · exact .inl rfl
    · rename_i h; exact .inr (lo_none h)
theorem seqC_of {P : Program} {f : FuncId} {fn : Func} {c : Code} {ac : ACode} {caps : List PV} {xs : List (List DV)}
    (henter : ∀ args w, (callFunc f args).run P w = .ok (.enter f args) w) (hf : P.funcs[f]? = some fn) (hb : fn.body = some c) (hc : compC P c = some ac.erase) (hok : ac.ok fn.ntmps = true)
    (hr : compRV P fn.results.toList = some []) (hn : caps.length + 1 ≤ fn.ntmps)
    (h : ∀ (R : Loop) (l : Nat) (σ : Nat → Sto) (fr : List Nat) (G : Ground) (ex : List AV), G.P = P → G.nt = fn.ntmps → G.w0.heap[l]? = some (.loop R) → ¬ G.ow l → ¬ G.A0 l → Fam σ fr → (∀ d ∈ fr, ∀ v ∈ ex, v.has d = false) →
      (∀ k x, xs[k]? = some x → YieldC G.P R l (x.map DV.av) (σ k) (σ (k + 1)) fr ex G.exv) →
      T G Fence.wide 0 ac (fun e s => (e = .normal ∨ e = .ret) ∧ s.σ = σ xs.length ∧ s.ex = ex) { env := initV 0 (.one (.raw (.func (.yield l) #[] #[])) :: caps.map fun v => .one (.p v)), σ := σ 0, ex := ex }) : SeqC P f caps xs := by
  refine ⟨henter, fun R l σ fr cA cV hy fam A τ w vb ex exs hA hcaps hex hfr hob hsp hl hAl => ?_⟩
  have hvs : All2 (VRel A τ w) (.one (.raw (.func (.yield l) #[] #[])) :: caps.map fun v => .one (.p v)) (.func (.yield l) #[] #[] :: vb) :=
    .cons (.v1 (.one (.c0 (.raw _ rfl)))) ((PRels.all2.1 hcaps).mapL fun v x hr => .v1 (.one (.c0 (.p _ _ hr))))
  have hrun := mutW_of (r := .tup []) (σ' := σ xs.length) hf hb hc hok hr (by simpa using hn) hA hvs hex hob hsp (T_mono
    (h R l σ fr _ (cA ++ ex) rfl rfl hl (ow_not hob hl (fun _ _ h => by cases h) (fun _ _ h => by cases h)) hAl fam hfr (fun k x hx => (hy k x hx).more ex exs)) fun e s' ⟨h1, h2, h3⟩ =>
      ⟨h1, [], rfl, rfl, rfl, fun p hp => by rw [h2]; exact fam.once _ p hp, h3⟩)
  refine hrun.mono ?_
  rintro e w' ⟨x, A', τ', rfl, q1, q2, q3, _, q5⟩
  exact ⟨x, A', τ', rfl, q1, q2, q3, q5⟩
end
def AS.keepE (k : List Nat) (s : AS) : AS := { s with env := k.map fun i => (i, lk s.env i) }
section
variable {G : Ground} {F : Fence} {n : Nat} {Q : Exit → AS → Prop} {s : AS}
theorem keepE_weak (G : Ground) (k : List Nat) (s : AS) : Weak G s (s.keepE k) := by
  refine Weak.env fun i => ?_
  induction k with
  | nil => exact .inr rfl
  | cons j k ih =>
    simp only [List.map_cons, lk_put]
    by_cases h : i = j
    · left; rw [if_pos h, h]
    · rw [if_neg h]; exact ih
theorem T_regE (hF : FOk F) {t : TOps} {kp ids : List Nat} {S : AS} (h : Run G.P t (fun s' => s'.keepE kp = S) s) (k : Q .normal S) : T G F n (.region none t kp ids) Q s := by
  refine ⟨fun code hc => ?_⟩
  intro hok a w hs
  obtain ⟨id, ops, l, rfl, hz, hfl⟩ := inv_region hc
  have hl := flatT_inj hfl
  subst hl
  simp only [ACode.ok, Bool.and_eq_true] at hok
  obtain ⟨s', hst, hq⟩ := run_sound (G := G) hok.1 hok.2 h
  refine wpIn_region ?_
  have := steps_ops (F := F) (n := n) (Q := fun e a w => ∃ s', Q e s' ∧ SimS G s' a w) hF hst 0 ops.toList hz (fun i o hi => by simpa using hi) (fun a w hs' => ⟨S, k, by rw [← hq]; exact keepE_weak G kp s' a w hs'⟩) a w hs
  rw [compR_len hz] at this
  simpa [List.range_eq_range'] using this
theorem T_srE (hF : FOk F) {t : TOps} {kp ids : List Nat} {S : AS} {b : ACode} (h : Run G.P t (fun s' => s'.keepE kp = S) s) (k : T G F n b Q S) : T G F n (.seq (.region none t kp ids) b) Q s :=
  T_seq (T_regE hF h ⟨k⟩)
end
theorem lk_has {d : Nat} {e : Env} (h : e.all (fun p => !p.2.has d) = true) (i : Nat) : (lk e i).has d = false := by
  induction e with
  | nil => rfl
  | cons p e ih =>
    obtain ⟨j, v⟩ := p
    simp only [List.all_cons, Bool.and_eq_true, Bool.not_eq_true'] at h
    simp only [lk]
    split
    · exact h.1
    · exact ih (by simpa using h.2)
theorem Weak.pick {G : Ground} {s : AS} (k : List Nat) : Weak G s { s with env := k.map fun i => (i, lk s.env i) } := keepE_weak G k s
theorem Weak.nilC {G : Ground} {s : AS} (o d i k : Nat) {cs : List AC} (ho : lo s.σ o = .cells true cs) (hi : cs[i]? = some .nils) (hd : s.nr d = true) (hn : lo s.σ d = .none) :
    Weak G s { s with σ := (o, .cells true (cs.set i (.msl d 0 k 0 none))) :: (d, .arr true k []) :: s.σ } := by
  rintro a w ⟨A, τ, hs⟩
  have h1 := hs.newNone (AS.nr_Nr hd) hn true k
  have hod : o ≠ d := fun e => by rw [e, hn] at ho; cases ho
  have hlo : lo ((d, .arr true k []) :: s.σ) o = .cells true cs := by rw [lo_put, if_neg hod]; exact ho
  refine ⟨A, _, h1.below, h1.a0, h1.a1, h1.alt, h1.size, h1.env, fun t => ?_, fun t t' b n1 n2 hne hmu hb => ?_, h1.ex, h1.marks⟩
  · rw [lo_put]
    by_cases ht : t = o
    · subst ht
      rw [if_pos rfl]
      have := h1.obj t
      simp only [hlo] at this
      obtain ⟨b, xs, e, q1, q2, q3, q4⟩ := this
      refine ⟨b, xs, e, q1, q2, All2.of_get (by rw [List.length_set]; exact q3.length) fun j c x hc hx => ?_, q4⟩
      by_cases hj : j = i
      · subst hj
        rw [List.getElem?_set_self (by have := (List.getElem?_eq_some_iff.1 hi).1; exact this)] at hc
        cases hc
        obtain ⟨y, hy, hr⟩ := q3.get j _ hi
        rw [hy] at hx; cases hx
        cases hr with | c0 hr => cases hr with
          | nils => exact .c0 (.mslN d 0 k none none (if_pos rfl) (fun n hn => by cases hn))
      · rw [List.getElem?_set_ne (Ne.symm hj)] at hc
        obtain ⟨y, hy, hr⟩ := q3.get j _ hc
        rw [hy] at hx; cases hx
        exact hr
    · rw [if_neg ht]; exact h1.obj t
  · have key : ∀ t, lo ((o, .cells true (cs.set i (.msl d 0 k 0 none))) :: (d, .arr true k []) :: s.σ) t ≠ .none → lo ((d, .arr true k []) :: s.σ) t ≠ .none := by
      intro t h
      rw [lo_put] at h
      split at h
      · rename_i e; subst e; rw [hlo]; simp
      · exact h
    refine h1.sep t t' b (key t n1) (key t' n2) hne ?_ hb
    rw [lo_put] at hmu
    split at hmu
    · rename_i e; subst e; rw [hlo]; rfl
    · exact hmu
theorem FrOk.of {s : AS} {σ1 : Sto} {d : Nat} (ks : List Nat) (hks : σ1.map (·.1) = ks) (he : s.env.all (fun p => !p.2.has d) = true) (hx : s.ex.all (fun v => !v.has d) = true) (hk : s.σ.all (fun p => ks.contains p.1) = true)
    (ho : lo s.σ d = .none ∨ ks.contains d = true) : FrOk s σ1 d := by
  refine ⟨lk_has he, fun v hv => by simpa using (List.all_eq_true.1 hx) v hv, fun t ht => ?_, ?_⟩
  · have : lo s.σ t = .none := lo_none fun hc => by
      obtain ⟨p, hp, rfl⟩ := List.mem_map.1 hc
      have := (List.all_eq_true.1 hk) p hp
      rw [hks] at ht
      exact ht (by simpa using this)
    rw [this]; rfl
  · rw [hks]
    exact ho.imp id fun h => by simpa using h
theorem ends_agg2 {rv : List RV} {s : AS} {t k len : Nat} {cap : Option Nat} {m : Bool} {rows : List (List PV)} {a v : PV} (h1 : evRV rv s.env s.σ = some [.agg [.p a, .msl t 0 k len cap], .one (.p v)]) (h2 : lo s.σ t = .arr m k rows) (hl : len = rows.length) :
    Ends rv (.tup [.agg [a, .sl rows], .one v]) .ret s :=
  ends_ret (ds := [.agg [a, .sl rows], .one v]) (σ' := if m then (t, .arr false k rows) :: s.σ else s.σ) h1 (by
    have h3 : foldP (toP 6) [.p a, .msl t 0 k len cap] s.σ = some ([a, .sl rows], if m then (t, .arr false k rows) :: s.σ else s.σ) := by
      have := toD_list (n := 5) (cap := cap) h2 hl
      simp only [foldP]
      rw [show toP 6 (AC.p a) s.σ = some (a, s.σ) from rfl]
      simp only [this]
    simp only [toDs, toD, h3]; rfl) rfl rfl
end Go.AM

namespace Go.AM
open Go.RowKit (Below)

def quietOp : AOp → Bool
  | .q _ | .call _ _ => true
  | _ => false
def okT (oj oi : FOp) : Bool := (match oj.d with | some d => !oi.us.contains d && oi.d != some d | none => true) && (match oi.d with | some d => !oj.us.contains d | none => true)
def quietG : Nat → List (List Nat) → List FOp → List (Nat × FOp) → Bool
  | _, [], [], _ => true
  | i, un :: uns, o :: os, acc => quietOp o.op && acc.all (fun a => !un.contains a.1 || okT a.2 o) && quietG (i + 1) uns os ((i, o) :: acc)
  | _, _, _, _ => false
def RunF (P : Program) : List FOp → (AS → Prop) → AS → Prop
  | [], K, s => K s
  | o :: os, K, s => match gmet s.env o.g with
    | some false => RunF P os K (putd o.d .und s)
    | some true => match o.op with
      | .q q => match evQ q s.env s.σ with
        | some v => RunF P os K (putd o.d v s)
        | none => False
      | .call f xs => (gets s.env (f :: xs)).all AVp = true ∧ ∃ r, CallR P f xs s.env s.σ s.σ r ∧ RunF P os K (putd o.d r.av s)
      | _ => False
    | none => False
theorem runF_D {P : Program} {s0 : AS} {K : AS → Prop} : ∀ (os : List FOp) (uns : List (List Nat)) (i : Nat) (acc : List It) (s : AS), (∀ t ∈ acc, t.f.wr = none ∧ t.f.nw = false) →
    quietG i uns os (acc.map fun t => (t.1, t.o)) = true → RunF P os K s → RunD P s0 i uns os acc K s
  | [], [], i, acc, s, ha, hq, h => by simp only [RunF] at h; simp only [RunD]; exact h
  | [], _ :: _, i, acc, s, ha, hq, h => by simp [quietG] at hq
  | _ :: _, [], i, acc, s, ha, hq, h => by simp [quietG] at hq
  | o :: os, un :: uns, i, acc, s, ha, hq, h => by
    simp only [quietG, Bool.and_eq_true, List.all_map] at hq
    obtain ⟨⟨h1, h2⟩, h3⟩ := hq
    have pair : ∀ (v : AV) (rd : List Nat), acc.all (fun t => okPair un t (i, o, { v := v, rd := rd })) = true := by
      intro v rd
      rw [List.all_eq_true] at h2 ⊢
      intro t ht
      obtain ⟨q1, q2⟩ := ha t ht
      have := h2 t ht
      simp only [Function.comp, Bool.or_eq_true] at this
      unfold okPair
      have e1 : okN t.f ({ v := v, rd := rd } : FP) = true := rfl
      have e2 : okN ({ v := v, rd := rd } : FP) t.f = true := by unfold okN; rw [q2]; rfl
      show (okN t.f ({ v := v, rd := rd } : FP) && (!un.contains t.1 || (okN ({ v := v, rd := rd } : FP) t.f && okInd t.o t.f o { v := v, rd := rd }))) = true
      rw [e1, e2, Bool.true_and, Bool.true_and]
      rcases this with h | h
      · rw [h]; rfl
      · have : okInd t.o t.f o { v := v, rd := rd } = true := by
          unfold okT at h
          simp only [Bool.and_eq_true] at h
          have hsc : t.f.scO = none := by unfold FP.scO; rw [q1]; split <;> rfl
          unfold okInd okCl
          rw [q1, hsc]
          simp only [Bool.and_true]
          rw [show (({ v := v, rd := rd } : FP).scO) = none from rfl]
          simp only [Bool.and_true, Bool.and_eq_true]
          exact ⟨h, rfl⟩
        rw [this]; simp
    have next : ∀ (v : AV) (rd : List Nat) (s' : AS), RunF P os K s' → RunD P s0 (i + 1) uns os ((i, o, { v := v, rd := rd }) :: acc) K s' := by
      intro v rd s' hr
      refine runF_D os uns (i + 1) _ s' (fun t ht => ?_) (by simpa [It.o] using h3) hr
      rcases List.mem_cons.1 ht with rfl | ht
      · exact ⟨rfl, rfl⟩
      · exact ha t ht
    simp only [RunF] at h
    simp only [RunD]
    split at h
    · rename_i hg
      try simp only [hg]
      exact ⟨pair _ _, next _ _ _ h⟩
    · rename_i hg
      try simp only [hg]
      split at h
      · rename_i q ho
        split at h
        · rename_i v hv
          try simp only [ho, hv]
          exact ⟨pair _ _, next _ _ _ h⟩
        · exact h.elim
      · rename_i f xs ho
        try simp only [ho]
        obtain ⟨q1, r, q2, q3⟩ := h
        exact ⟨q1, r, q2, pair _ _, next _ _ _ q3⟩
      · exact h.elim
    · exact h.elim
section
variable {G : Ground} {F : Fence} {n : Nat} {Q : Exit → AS → Prop} {s : AS}
theorem T_drF (hF : FOk F) {un : List (List Nat)} {t : TOps} {kp ids : List Nat} {S : AS} (hm : G.P.follows .mixedOrders = true) (hq : quietG 0 un t.flat [] = true) (h : RunF G.P t.flat (fun s' => s'.keep kp ids = S) s) (k : Q .normal S) :
    T G F n (.region (some un) t kp ids) Q s := T_dr hF hm (runF_D _ _ _ [] _ (fun t ht => by simp at ht) hq h) k
theorem T_sdF (hF : FOk F) {un : List (List Nat)} {t : TOps} {kp ids : List Nat} {S : AS} {b : ACode} (hm : G.P.follows .mixedOrders = true) (hq : quietG 0 un t.flat [] = true) (h : RunF G.P t.flat (fun s' => s'.keep kp ids = S) s) (k : T G F n b Q S) :
    T G F n (.seq (.region (some un) t kp ids) b) Q s := T_seq (T_drF hF hm hq h ⟨k⟩)
end
section
variable {P : Program} {os : List FOp} {K : AS → Prop} {d : Nat} {g : Option (Nat × Bool)} {e : Env} {σ : Sto} {ex : List AV}
theorem RunF_q {q : QOp} {v : AV} (hg : gmet e g = some true) (h : evQ q e σ = some v) (k : RunF P os K { env := (d, v) :: e, σ := σ, ex := ex }) : RunF P (⟨some d, g, .q q⟩ :: os) K { env := e, σ := σ, ex := ex } := by
  simp only [RunF, hg, h]; exact k
theorem RunF_skip {op : AOp} (hg : gmet e g = some false) (k : RunF P os K { env := (d, .und) :: e, σ := σ, ex := ex }) : RunF P (⟨some d, g, op⟩ :: os) K { env := e, σ := σ, ex := ex } := by
  simp only [RunF, hg]; exact k
theorem RunF_call {f : Opd} {xs : List Opd} {r : DV} (hg : gmet e g = some true) (hp : (gets e (f :: xs)).all AVp = true) (hc : CallR P f xs e σ σ r) (k : RunF P os K { env := (d, r.av) :: e, σ := σ, ex := ex }) :
    RunF P (⟨some d, g, .call f xs⟩ :: os) K { env := e, σ := σ, ex := ex } := by
  simp only [RunF, hg]; exact ⟨hp, r, hc, k⟩
theorem RunF_nil {S : AS} {kp ids : List Nat} (h : AS.keep kp ids { env := e, σ := σ, ex := ex } = S) : RunF P [] (fun s' => s'.keep kp ids = S) { env := e, σ := σ, ex := ex } := by
  simp only [RunF]; exact h
end
end Go.AM

