import Derived.Test.YtbbjlecedaamcaaMs12
set_option linter.unusedVariables false
set_option linter.unusedSimpArgs false
namespace Go.AM
open Go.RowKit (Below)

def initV : Nat → List AV → Env
  | _, [] => []
  | i, d :: ds => (i, d) :: initV (i + 1) ds
theorem initV_lk : ∀ (ds : List AV) (i j : Nat), lk (initV i ds) j = if h : i ≤ j ∧ j - i < ds.length then (ds[j - i]'h.2) else .top
  | [], i, j => by simp [initV, lk]
  | d :: ds, i, j => by
    simp only [initV, lk_put]
    by_cases h : j = i
    · subst h; simp
    · rw [if_neg h, initV_lk ds (i + 1) j]
      by_cases h1 : i + 1 ≤ j
      · have e1 : j - i = (j - (i + 1)) + 1 := by omega
        simp only [e1, List.length_cons, List.getElem_cons_succ]
        by_cases h2 : j - (i + 1) < ds.length
        · rw [dif_pos ⟨h1, h2⟩, dif_pos ⟨by omega, by omega⟩]
        · rw [dif_neg (by omega), dif_neg (by omega)]
      · rw [dif_neg (by omega), dif_neg (by omega)]
def noTupA : List AV → Bool
  | [] => true
  | .tup _ :: _ => false
  | _ :: ds => noTupA ds
def resA : List AV → AV
  | [v] => v
  | vs => .tup vs
def EndsM (rv : List RV) (r : AV) (σ' : Sto) (ex : List AV) : Exit → AS → Prop := fun e s => (e = .normal ∨ e = .ret) ∧ ∃ vs, evRV rv s.env s.σ = some vs ∧ noTupA vs = true ∧ r = resA vs ∧ (∀ p ∈ σ', lo s.σ p.1 = p.2) ∧ s.ex = ex
theorem endsM_ret {rv : List RV} {r : AV} {s : AS} {σ' : Sto} {ex : List AV} {vs : List AV} (h1 : evRV rv s.env s.σ = some vs) (h2 : noTupA vs = true) (h3 : r = resA vs) (h4 : ∀ p ∈ σ', lo s.σ p.1 = p.2) (h5 : s.ex = ex) : EndsM rv r σ' ex .ret s :=
  ⟨.inr rfl, vs, h1, h2, h3, h4, h5⟩
theorem endsM_normal {rv : List RV} {r : AV} {s : AS} {σ' : Sto} {ex : List AV} {vs : List AV} (h1 : evRV rv s.env s.σ = some vs) (h2 : noTupA vs = true) (h3 : r = resA vs) (h4 : ∀ p ∈ σ', lo s.σ p.1 = p.2) (h5 : s.ex = ex) : EndsM rv r σ' ex .normal s :=
  ⟨.inl rfl, vs, h1, h2, h3, h4, h5⟩
theorem lo_of_mem {σ' σ : Sto} (h : ∀ p ∈ σ', lo σ p.1 = p.2) (t : Nat) : lo σ' t = lo σ t ∨ lo σ' t = .none := by
  induction σ' with
  | nil => exact .inr rfl
  | cons p σ' ih =>
    obtain ⟨j, v⟩ := p
    simp only [lo]
    by_cases hj : t = j
    · subst hj; rw [if_pos rfl]; exact .inl (h (t, v) (by simp)).symm
    · rw [if_neg hj]; exact ih fun p hp => h p (by simp [hp])
theorem mutW_of {P : Program} {f : FuncId} {fn : Func} {c : Code} {ac : ACode} {rv : List RV} {vs : List AV} {σ σ' : Sto} {r : AV} {A : Nat → Prop} {τ : Tau} {w : World} {xs : List Value} {ex : List AV} {exs : List Value}
    (hf : P.funcs[f]? = some fn) (hb : fn.body = some c) (hc : compC P c = some ac.erase) (hok : ac.ok fn.ntmps = true)
    (hr : compRV P fn.results.toList = some rv) (hn : vs.length ≤ fn.ntmps)
    (hA : ∀ b, A b → b < w.heap.size) (hxs : All2 (VRel A τ w) vs xs) (hex : All2 (VRel A τ w) ex exs) (hob : ∀ t, ORel (fun _ => True) A τ w t (lo σ t)) (hsp : SepS σ τ)
    (h : T { P := P, w0 := w, A0 := A, nt := fn.ntmps, exv := exs, ow := owOf σ τ } Fence.wide 0 ac (EndsM rv r σ' ex) { env := initV 0 vs, σ := σ, ex := ex }) :
    Calls P f ⟨xs⟩ w (MPost A τ w σ σ' r ex exs) := by
  let G : Ground := { P := P, w0 := w, A0 := A, nt := fn.ntmps, exv := exs, ow := owOf σ τ }
  have hlen := hxs.length
  have hs : SimAt G { env := initV 0 vs, σ := σ, ex := ex } { tmps := (⟨xs⟩ : Array Value) ++ Array.replicate (fn.ntmps - (⟨xs⟩ : Array Value).size) undef, defers := [] } w A τ := by
    refine ⟨⟨rfl, rfl, rfl, Nat.le_refl _, fun _ _ _ => rfl⟩, fun _ hb => hb, fun _ hb => .inl hb, hA, ?_, fun i => ?_, fun t => ?_, hsp, hex, trivial⟩
    · simp [G]; omega
    · simp only [initV_lk]
      split
      · rename_i hi
        have hi2 : i < xs.length := by omega
        have hget : ((⟨xs⟩ : Array Value) ++ Array.replicate (fn.ntmps - (⟨xs⟩ : Array Value).size) undef).getD i undef = xs[i] := by
          rw [Array.getD_eq_getD_getElem?, Array.getElem?_append_left (by simpa using hi2)]
          simp [hi2]
        rw [hget]
        obtain ⟨x, hx, hrel⟩ := hxs.get (i - 0) _ (List.getElem?_eq_getElem hi.2)
        have : xs[i] = x := by
          have := (List.getElem?_eq_some_iff.1 hx).2
          simpa using this
        rw [this]; exact hrel
      · exact .v1 (.top _)
    · exact (hob t).monoM fun b hm hb _ => .inr ⟨t, hm, hb⟩
  refine callsIn_wide.1 (callsIn_of_wp_marks (n := 0) hf hb trivial (wpIn_mono (T.of h c hc hok _ _ ⟨A, _, hs⟩) ?_))
  rintro e a w' ⟨s', ⟨he, ws, h1, h2, rfl, h4, h5⟩, A1, τ1, hs'⟩
  have fin : LeavesInM Fence.wide 0 G.P fn a.tmps (fun e w' => ∃ x A' τ', e = .returned x ∧ Frame A (owOf σ τ) w w' A' ∧ (∀ t, ORel (fun b => w.heap.size ≤ b ∨ owOf σ τ b) A' τ' w' t (lo σ' t)) ∧ SepS σ' τ' ∧
      VRel A' τ' w' (resA ws) x ∧ All2 (VRel A' τ' w') ex exs) a.defers .returning w' := by
    refine leaves (A := A1) (τ := τ1) (s := s') a.defers w' hs' fun w2 hs2 => ?_
    obtain ⟨ys, q1, q2⟩ := run_results (P := P) (a := { tmps := a.tmps, defers := [] }) hr hs2 h1
    have hm : (fn.results.mapM (resV a.tmps)).run P w2 = .ok ⟨ys⟩ w2 := by
      rw [Array.mapM_eq_mapM_toList]
      simp only [Sem.run_map, q1, Result.andThen_ok]
    have hrr : (results fn a.tmps).run P w2 = .ok (if h : ys.length = 1 then ys[0] else .tuple ⟨ys⟩) w2 := by
      rw [results_def]
      simp only [Sem.run_bind, hm, Result.andThen_ok, Sem.run_pure]
      rfl
    have hv : VRel A1 τ1 w2 (resA ws) (if h : ys.length = 1 then ys[0] else .tuple ⟨ys⟩) := by
      have v1 : ∀ {ws : List AV} {ys : List Value}, noTupA ws = true → All2 (VRel A1 τ1 w2) ws ys → All2 (V1 A1 τ1 w2) ws ys := by
        intro ws
        induction ws with
        | nil => intro ys _ h; cases h; exact .nil
        | cons v ws ih =>
          intro ys hn h
          cases h with
          | cons h t =>
            have hn' : noTupA ws = true := by
              revert hn; cases v <;> simp [noTupA]
            cases h with
            | v1 h => exact .cons h (ih hn' t)
            | tup h => simp [noTupA] at hn
      have q3 := v1 h2 q2
      cases q2 with
      | nil => simp [resA]; exact .tup .nil
      | cons g1 gt =>
        cases gt with
        | nil => simpa [resA] using g1
        | cons g2 gt2 =>
          simp only [resA]
          simp
          exact .tup q3
    have hσ := lo_of_mem h4
    refine ⟨_, hrr, _, A1, τ1, rfl, ⟨hs2.below.os, hs2.below.tape, hs2.below.output, hs2.below.size, hs2.below.block, hs2.a0, fun b hb => (hs2.a1 b hb).imp id fun hM => hM.symm, hs2.alt⟩, fun t => ?_, fun t t' b n1 n2 hne hmu hb => ?_, hv, ?_⟩
    · rcases hσ t with e1 | e1
      · rw [e1]; exact hs2.obj t
      · rw [e1]; trivial
    · rcases hσ t with e1 | e1
      · rcases hσ t' with e2 | e2
        · rw [e1] at n1 hmu; rw [e2] at n2
          exact hs2.sep t t' b n1 n2 hne hmu hb
        · exact absurd e2 n2
      · exact absurd e1 n1
    · have := hs2.ex
      rw [h5] at this
      exact this
  rcases he with rfl | rfl <;> exact fin
theorem mutC_of {P : Program} {f : FuncId} {fn : Func} {c : Code} {ac : ACode} {rv : List RV} {vs : List AV} {σ σ' : Sto} {r : AV} {fr : List Nat}
    (henter : ∀ args w, (callFunc f args).run P w = .ok (.enter f args) w) (hf : P.funcs[f]? = some fn) (hb : fn.body = some c) (hc : compC P c = some ac.erase) (hok : ac.ok fn.ntmps = true)
    (hr : compRV P fn.results.toList = some rv) (hn : vs.length ≤ fn.ntmps)
    (h : ∀ (G : Ground) (ex : List AV), G.P = P → G.nt = fn.ntmps → (∀ d ∈ fr, ex.all (fun v => !v.has d) = true) → T G Fence.wide 0 ac (EndsM rv r σ' ex) { env := initV 0 vs, σ := σ, ex := ex }) : MutC P f vs σ r σ' fr :=
  ⟨henter, fun A τ w xs ex exs hA hxs hex hfr hob hsp => mutW_of hf hb hc hok hr hn hA hxs hex hob hsp (h _ ex rfl rfl fun d hd => by
    rw [List.all_eq_true]; intro v hv; simp [hfr d hd v hv])⟩
theorem T_nils {G : Ground} {F : Fence} {n : Nat} {Q : Exit → AS → Prop} {s : AS} {c : ACode} (i d m : Nat) (hi : lk s.env i = .one .nils) (hd : s.nr d = true) (hn : lo s.σ d = .none)
    (h : T G F n c Q { s with env := (i, .one (.msl d 0 m 0 none)) :: s.env, σ := (d, .arr true m []) :: s.σ }) : T G F n c Q s := by
  refine ⟨fun code hc hok a w hs => ?_⟩
  obtain ⟨A, τ, hs⟩ := hs
  have h1 := hs.newNone (AS.nr_Nr hd) hn true m
  refine h.of code hc hok a w ⟨A, _, h1.below, h1.a0, h1.a1, h1.alt, h1.size, fun j => ?_, h1.obj, h1.sep, h1.ex, h1.marks⟩
  rw [lk_put]
  by_cases hj : j = i
  · subst hj
    rw [if_pos rfl]
    have h2 := one_inv (hi ▸ hs.env j : VRel A τ w (.one .nils) _)
    generalize a.tmps.getD j undef = z at h2
    cases h2 with
    | c0 h2 => cases h2 with
      | nils => exact .v1 (.one (.c0 (.mslN d 0 m none none (if_pos rfl) (fun n hn => by cases hn))))
  · rw [if_neg hj]; exact h1.env j
theorem scr_ex {ex : List AV} {d : Nat} (h : ex.all (fun v => !v.has d) = true) : ex.map (AV.scr d) = ex := by
  induction ex with
  | nil => rfl
  | cons v ex ih =>
    simp only [List.all_cons, Bool.and_eq_true, Bool.not_eq_true'] at h
    rw [List.map_cons, AV.scr_id h.1, ih (by simpa using h.2)]
theorem toD_list {n t k len : Nat} {cap : Option Nat} {σ : Sto} {m : Bool} {rows : List (List PV)} (h2 : lo σ t = .arr m k rows) (hl : len = rows.length) :
    toP (n + 1) (.msl t 0 k len cap) σ = some (.sl rows, if m then (t, .arr false k rows) :: σ else σ) := by
  subst hl
  simp only [toP, h2]
  simp
theorem ends_list2 {rv : List RV} {s : AS} {t k len : Nat} {cap : Option Nat} {m : Bool} {rows : List (List PV)} {v : PV} (h1 : evRV rv s.env s.σ = some [.one (.msl t 0 k len cap), .one (.p v)]) (h2 : lo s.σ t = .arr m k rows) (hl : len = rows.length) :
    Ends rv (.tup [.one (.sl rows), .one v]) .ret s :=
  ends_ret (ds := [.one (.sl rows), .one v]) h1 (by simp only [toDs, toD, toD_list (n := 5) h2 hl]; rfl) rfl rfl
theorem Weak.freeze {G : Ground} {s : AS} {i : Nat} {c : AC} {v : PV} {σ' : Sto} (hi : lk s.env i = .one c) (h : toP 6 c s.σ = some (v, σ')) : Weak G s { s with env := (i, .one (.p v)) :: s.env, σ := σ' } := by
  rintro a w ⟨A, τ, hs⟩
  obtain ⟨A', i1, h1, k⟩ := toP_sound 6 c s σ' v A hs h
  refine ⟨A', τ, h1.below, h1.a0, h1.a1, h1.alt, h1.size, fun j => ?_, h1.obj, h1.sep, h1.ex, h1.marks⟩
  rw [lk_put]
  by_cases hj : j = i
  · subst hj
    rw [if_pos rfl]
    have h2 := one_inv (hi ▸ hs.env j : VRel A τ w (.one c) _)
    exact .v1 (.one (.c0 (.p _ _ (k _ h2))))
  · rw [if_neg hj]; exact h1.env j
end Go.AM

namespace Go.AM
open Go
section
variable (d : Nat)
abbrev mv (s : Nat) (r : TOps) : TOps := .op (some d) none (.q (.mov (.t s))) r
abbrev ic (n : Int) : Opd := .c (.one (.p (.int .i64 n)))
abbrev qq (q : QOp) (r : TOps) : TOps := .op (some d) none (.q q) r
abbrev nn (q : NOp) (r : TOps) : TOps := .op (some d) none (.n q) r
abbrev ss (q : SOp) (r : TOps) : TOps := .op none none (.s q) r
abbrev sd (q : SOp) (r : TOps) : TOps := .op (some d) none (.s q) r
end
section
variable (d : Nat)
abbrev mc (n : Int) (r : TOps) : TOps := .op (some d) none (.q (.mov (.c (.one (.p (.int .i64 n)))))) r
abbrev xt (s n : Nat) (r : TOps) : TOps := .op (some d) none (.q (.extr (.t s) n)) r
abbrev bt (o : BinOp) (x y : Nat) (r : TOps) : TOps := .op (some d) none (.q (.bin o (.t x) (.t y))) r
abbrev bc (o : BinOp) (x : Nat) (n : Int) (r : TOps) : TOps := .op (some d) none (.q (.bin o (.t x) (.c (.one (.p (.int .i64 n)))))) r
abbrev ld (n : Nat) (g : Bool) (x : Nat) (r : TOps) : TOps := .op (some d) none (.q (.load n g (.t x))) r
abbrev fa (n x : Nat) (r : TOps) : TOps := .op (some d) none (.q (.faddr n (.t x))) r
abbrev ia (n x y : Nat) (r : TOps) : TOps := .op (some d) none (.q (.iaddr n (.t x) (.t y))) r
abbrev le (x : Nat) (r : TOps) : TOps := .op (some d) none (.q (.len (.t x))) r
abbrev al (z : List AC) (r : TOps) : TOps := .op (some d) none (.n (.alloc z)) r
abbrev cl (f : FuncId) (xs : List Nat) (r : TOps) : TOps := .op (some d) none (.call (.c (.one (.p (.fn f [] [])))) (xs.map .t)) r
end
abbrev st (n a x : Nat) (r : TOps) : TOps := .op none none (.s (.store n (.t a) (.t x))) r
abbrev rg (k i : List Nat) (t : TOps) : ACode := .region none t k i
abbrev sr (k i : List Nat) (t : TOps) (b : ACode) : ACode := .seq (.region none t k i) b
abbrev cd (c : Nat) (a b : ACode) : ACode := .cond (.t c) a b
abbrev ib (k i : List Nat) (t : TOps) (c : Nat) (a b : ACode) : ACode := .seq (.seq (.region none t k i) (.cond (.t c) a .skip)) b
def PureT (P : Program) (f : FuncId) (nt : Nat) (ac : ACode) (rv : List RV) : Prop :=
  ∀ {ds : List DV} {r : DV}, ds.length ≤ nt → (∀ (G : Ground), G.P = P → G.nt = nt → T G Fence.wide 0 ac (Ends rv r) { env := initE 0 ds, σ := [] }) → PureC P f ds r
def MutT (P : Program) (f : FuncId) (nt : Nat) (ac : ACode) (rv : List RV) : Prop :=
  ∀ {vs : List AV} {σ σ' : Sto} {r : AV} {fr : List Nat}, vs.length ≤ nt → (∀ (G : Ground) (ex : List AV), G.P = P → G.nt = nt → (∀ d ∈ fr, ex.all (fun v => !v.has d) = true) → T G Fence.wide 0 ac (EndsM rv r σ' ex) { env := initV 0 vs, σ := σ, ex := ex }) → MutC P f vs σ r σ' fr
theorem body_is {fn : Func} (h : fn.body.isSome = true) : fn.body = some (fn.body.getD .skip) := by
  cases e : fn.body with
  | none => rw [e] at h; cases h
  | some c => rfl
section
variable {P : Program} {f : FuncId} {fn : Func} {nt : Nat} {ac : ACode} {rv : List RV}
theorem pureT_of (henter : ∀ args w, (callFunc f args).run P w = .ok (.enter f args) w) (hf : P.funcs[f]? = some fn) (hb : fn.body.isSome = true := by kernel_rfl) (hc : compC P (fn.body.getD .skip) = some ac.erase := by kernel_rfl)
    (hok : ac.ok nt = true := by kernel_rfl) (hr : compRV P fn.results.toList = some rv := by kernel_rfl) (hnt : fn.ntmps = nt := by kernel_rfl) : PureT P f nt ac rv := by
  subst hnt
  exact fun hn h => pureC_of henter hf (body_is hb) hc hok hr hn h
theorem mutT_of (henter : ∀ args w, (callFunc f args).run P w = .ok (.enter f args) w) (hf : P.funcs[f]? = some fn) (hb : fn.body.isSome = true := by kernel_rfl) (hc : compC P (fn.body.getD .skip) = some ac.erase := by kernel_rfl)
    (hok : ac.ok nt = true := by kernel_rfl) (hr : compRV P fn.results.toList = some rv := by kernel_rfl) (hnt : fn.ntmps = nt := by kernel_rfl) : MutT P f nt ac rv := by
  subst hnt
  exact fun hn h => mutC_of henter hf (body_is hb) hc hok hr hn h
end
end Go.AM

