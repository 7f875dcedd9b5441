import Derived.Test.YtphnlpfkenannaaGreatMwR9M910
import Derived.Test.YtphnlpfkenannaaGreatProg
import Derived.KernelRfl
set_option linter.unusedVariables false
set_option linter.unusedSimpArgs false
namespace Go.AM
open Go.RowKit (Below)

def initV : Nat → List AV → Env
  | _, [] => []
  | i, d :: ds => (i, d) :: initV (i + 1) ds
theorem initV_lk : ∀ (ds : List AV) (i j : Nat), lk (initV i ds) j = if h : i ≤ j ∧ j - i < ds.length then (ds[j - i]'h.2) else .top
  | [], i, j => by simp [initV, lk]
  | d :: ds, i, j => by
    simp only [initV, lk_put]
    by_cases h : j = i
    · subst h; simp
    · rw [if_neg h, initV_lk ds (i + 1) j]
      by_cases h1 : i + 1 ≤ j
      · have e1 : j - i = (j - (i + 1)) + 1 := by omega
        simp only [e1, List.length_cons, List.getElem_cons_succ]
        by_cases h2 : j - (i + 1) < ds.length
        · rw [dif_pos ⟨h1, h2⟩, dif_pos ⟨by omega, by omega⟩]
        · rw [dif_neg (by omega), dif_neg (by omega)]
      · rw [dif_neg (by omega), dif_neg (by omega)]
def noTupA : List AV → Bool
  | [] => true
  | .tup _ :: _ => false
  | _ :: ds => noTupA ds
def resA : List AV → AV
  | [v] => v
  | vs => .tup vs
def EndsM (rv : List RV) (r : AV) (σ' : Sto) (ex : List AV) : Exit → AS → Prop := fun e s => (e = .normal ∨ e = .ret) ∧ ∃ vs, evRV rv s.env s.σ = some vs ∧ noTupA vs = true ∧ r = resA vs ∧ (∀ p ∈ σ', lo s.σ p.1 = p.2) ∧ s.ex = ex
theorem endsM_ret {rv : List RV} {r : AV} {s : AS} {σ' : Sto} {ex : List AV} {vs : List AV} (h1 : evRV rv s.env s.σ = some vs) (h2 : noTupA vs = true) (h3 : r = resA vs) (h4 : ∀ p ∈ σ', lo s.σ p.1 = p.2) (h5 : s.ex = ex) : EndsM rv r σ' ex .ret s :=
  ⟨.inr rfl, vs, h1, h2, h3, h4, h5⟩
theorem endsM_normal {rv : List RV} {r : AV} {s : AS} {σ' : Sto} {ex : List AV} {vs : List AV} (h1 : evRV rv s.env s.σ = some vs) (h2 : noTupA vs = true) (h3 : r = resA vs) (h4 : ∀ p ∈ σ', lo s.σ p.1 = p.2) (h5 : s.ex = ex) : EndsM rv r σ' ex .normal s :=
  ⟨.inl rfl, vs, h1, h2, h3, h4, h5⟩
theorem lo_of_mem {σ' σ : Sto} (h : ∀ p ∈ σ', lo σ p.1 = p.2) (t : Nat) : lo σ' t = lo σ t ∨ lo σ' t = .none := by
  induction σ' with
  | nil => exact .inr rfl
  | cons p σ' ih =>
    obtain ⟨j, v⟩ := p
    simp only [lo]
    by_cases hj : t = j
    · subst hj; rw [if_pos rfl]; exact .inl (h (t, v) (by simp)).symm
    · rw [if_neg hj]; exact ih fun p hp => h p (by simp [hp])
theorem mutW_of {P : Program} {f : FuncId} {fn : Func} {c : Code} {ac : ACode} {rv : List RV} {vs : List AV} {σ σ' : Sto} {r : AV} {A : Nat → Prop} {τ : Tau} {w : World} {xs : List Value} {ex : List AV} {exs : List Value}
    (hf : P.funcs[f]? = some fn) (hb : fn.body = some c) (hc : compC P c = some ac.erase) (hok : ac.ok fn.ntmps = true)
    (hr : compRV P fn.results.toList = some rv) (hn : vs.length ≤ fn.ntmps)
    (hA : ∀ b, A b → b < w.heap.size) (hxs : All2 (VRel A τ w) vs xs) (hex : All2 (VRel A τ w) ex exs) (hob : ∀ t, ORel (fun _ => True) A τ w t (lo σ t)) (hsp : SepS σ τ)
    (h : T { P := P, w0 := w, A0 := A, nt := fn.ntmps, exv := exs, ow := owOf σ τ } Fence.wide 0 ac (EndsM rv r σ' ex) { env := initV 0 vs, σ := σ, ex := ex }) :
    Calls P f ⟨xs⟩ w (MPost A τ w σ σ' r ex exs) := by
  let G : Ground := { P := P, w0 := w, A0 := A, nt := fn.ntmps, exv := exs, ow := owOf σ τ }
  have hlen := hxs.length
  have hs : SimAt G { env := initV 0 vs, σ := σ, ex := ex } { tmps := (⟨xs⟩ : Array Value) ++ Array.replicate (fn.ntmps - (⟨xs⟩ : Array Value).size) undef, defers := [] } w A τ := by
    refine ⟨⟨rfl, rfl, rfl, Nat.le_refl _, fun _ _ _ => rfl⟩, fun _ hb => hb, fun _ hb => .inl hb, hA, ?_, fun i => ?_, fun t => ?_, hsp, hex, trivial⟩
    · simp [G]; omega
    · simp only [initV_lk]
      split
      · rename_i hi
        have hi2 : i < xs.length := by omega
        have hget : ((⟨xs⟩ : Array Value) ++ Array.replicate (fn.ntmps - (⟨xs⟩ : Array Value).size) undef).getD i undef = xs[i] := by
          rw [Array.getD_eq_getD_getElem?, Array.getElem?_append_left (by simpa using hi2)]
          simp [hi2]
        rw [hget]
        obtain ⟨x, hx, hrel⟩ := hxs.get (i - 0) _ (List.getElem?_eq_getElem hi.2)
        have : xs[i] = x := by
          have := (List.getElem?_eq_some_iff.1 hx).2
          simpa using this
        rw [this]; exact hrel
      · exact .v1 (.top _)
    · exact (hob t).monoM fun b hm hb _ => .inr ⟨t, hm, hb⟩
  refine callsIn_wide.1 (callsIn_of_wp_marks (n := 0) hf hb trivial (wpIn_mono (T.of h c hc hok _ _ ⟨A, _, hs⟩) ?_))
  rintro e a w' ⟨s', ⟨he, ws, h1, h2, rfl, h4, h5⟩, A1, τ1, hs'⟩
  have fin : LeavesInM Fence.wide 0 G.P fn a.tmps (fun e w' => ∃ x A' τ', e = .returned x ∧ Frame A (owOf σ τ) w w' A' ∧ (∀ t, ORel (fun b => w.heap.size ≤ b ∨ owOf σ τ b) A' τ' w' t (lo σ' t)) ∧ SepS σ' τ' ∧
      VRel A' τ' w' (resA ws) x ∧ All2 (VRel A' τ' w') ex exs) a.defers .returning w' := by
    refine leaves (A := A1) (τ := τ1) (s := s') a.defers w' hs' fun w2 hs2 => ?_
    obtain ⟨ys, q1, q2⟩ := run_results (P := P) (a := { tmps := a.tmps, defers := [] }) hr hs2 h1
    have hm : (fn.results.mapM (resV a.tmps)).run P w2 = .ok ⟨ys⟩ w2 := by
      rw [Array.mapM_eq_mapM_toList]
      simp only [Sem.run_map, q1, Result.andThen_ok]
    have hrr : (results fn a.tmps).run P w2 = .ok (if h : ys.length = 1 then ys[0] else .tuple ⟨ys⟩) w2 := by
      rw [results_def]
      simp only [Sem.run_bind, hm, Result.andThen_ok, Sem.run_pure]
      rfl
    have hv : VRel A1 τ1 w2 (resA ws) (if h : ys.length = 1 then ys[0] else .tuple ⟨ys⟩) := by
      have v1 : ∀ {ws : List AV} {ys : List Value}, noTupA ws = true → All2 (VRel A1 τ1 w2) ws ys → All2 (V1 A1 τ1 w2) ws ys := by
        intro ws
        induction ws with
        | nil => intro ys _ h; cases h; exact .nil
        | cons v ws ih =>
          intro ys hn h
          cases h with
          | cons h t =>
            have hn' : noTupA ws = true := by
              revert hn; cases v <;> simp [noTupA]
            cases h with
            | v1 h => exact .cons h (ih hn' t)
            | tup h => simp [noTupA] at hn
      have q3 := v1 h2 q2
      cases q2 with
      | nil => simp [resA]; exact .tup .nil
      | cons g1 gt =>
        cases gt with
        | nil => simpa [resA] using g1
        | cons g2 gt2 =>
          simp only [resA]
          simp
          exact .tup q3
    have hσ := lo_of_mem h4
    refine ⟨_, hrr, _, A1, τ1, rfl, ⟨hs2.below.os, hs2.below.tape, hs2.below.output, hs2.below.size, hs2.below.block, hs2.a0, fun b hb => (hs2.a1 b hb).imp id fun hM => hM.symm, hs2.alt⟩, fun t => ?_, fun t t' b n1 n2 hne hmu hb => ?_, hv, ?_⟩
    · rcases hσ t with e1 | e1
      · rw [e1]; exact hs2.obj t
      · rw [e1]; trivial
    · rcases hσ t with e1 | e1
      · rcases hσ t' with e2 | e2
        · rw [e1] at n1 hmu; rw [e2] at n2
          exact hs2.sep t t' b n1 n2 hne hmu hb
        · exact absurd e2 n2
      · exact absurd e1 n1
    · have := hs2.ex
      rw [h5] at this
      exact this
  rcases he with rfl | rfl <;> exact fin
theorem mutC_of {P : Program} {f : FuncId} {fn : Func} {c : Code} {ac : ACode} {rv : List RV} {vs : List AV} {σ σ' : Sto} {r : AV} {fr : List Nat}
    (henter : ∀ args w, (callFunc f args).run P w = .ok (.enter f args) w) (hf : P.funcs[f]? = some fn) (hb : fn.body = some c) (hc : compC P c = some ac.erase) (hok : ac.ok fn.ntmps = true)
    (hr : compRV P fn.results.toList = some rv) (hn : vs.length ≤ fn.ntmps)
    (h : ∀ (G : Ground) (ex : List AV), G.P = P → G.nt = fn.ntmps → (∀ d ∈ fr, ex.all (fun v => !v.has d) = true) → T G Fence.wide 0 ac (EndsM rv r σ' ex) { env := initV 0 vs, σ := σ, ex := ex }) : MutC P f vs σ r σ' fr :=
  ⟨henter, fun A τ w xs ex exs hA hxs hex hfr hob hsp => mutW_of hf hb hc hok hr hn hA hxs hex hob hsp (h _ ex rfl rfl fun d hd => by
    rw [List.all_eq_true]; intro v hv; simp [hfr d hd v hv])⟩
theorem T_nils {G : Ground} {F : Fence} {n : Nat} {Q : Exit → AS → Prop} {s : AS} {c : ACode} (i d m : Nat) (hi : lk s.env i = .one .nils) (hd : s.nr d = true) (hn : lo s.σ d = .none)
    (h : T G F n c Q { s with env := (i, .one (.msl d 0 m 0 none)) :: s.env, σ := (d, .arr true m []) :: s.σ }) : T G F n c Q s := by
  refine ⟨fun code hc hok a w hs => ?_⟩
  obtain ⟨A, τ, hs⟩ := hs
  have h1 := hs.newNone (AS.nr_Nr hd) hn true m
  refine h.of code hc hok a w ⟨A, _, h1.below, h1.a0, h1.a1, h1.alt, h1.size, fun j => ?_, h1.obj, h1.sep, h1.ex, h1.marks⟩
  rw [lk_put]
  by_cases hj : j = i
  · subst hj
    rw [if_pos rfl]
    have h2 := one_inv (hi ▸ hs.env j : VRel A τ w (.one .nils) _)
    generalize a.tmps.getD j undef = z at h2
    cases h2 with
    | c0 h2 => cases h2 with
      | nils => exact .v1 (.one (.c0 (.mslN d 0 m none none (if_pos rfl) (fun n hn => by cases hn))))
  · rw [if_neg hj]; exact h1.env j
theorem scr_ex {ex : List AV} {d : Nat} (h : ex.all (fun v => !v.has d) = true) : ex.map (AV.scr d) = ex := by
  induction ex with
  | nil => rfl
  | cons v ex ih =>
    simp only [List.all_cons, Bool.and_eq_true, Bool.not_eq_true'] at h
    rw [List.map_cons, AV.scr_id h.1, ih (by simpa using h.2)]
theorem toD_list {n t k len : Nat} {cap : Option Nat} {σ : Sto} {m : Bool} {rows : List (List PV)} (h2 : lo σ t = .arr m k rows) (hl : len = rows.length) :
    toP (n + 1) (.msl t 0 k len cap) σ = some (.sl rows, if m then (t, .arr false k rows) :: σ else σ) := by
  subst hl
  simp only [toP, h2]
  simp
theorem ends_list {rv : List RV} {s : AS} {t k len : Nat} {cap : Option Nat} {m : Bool} {rows : List (List PV)} (h1 : evRV rv s.env s.σ = some [.one (.msl t 0 k len cap)]) (h2 : lo s.σ t = .arr m k rows) (hl : len = rows.length) :
    Ends rv (.one (.sl rows)) .ret s :=
  ends_ret (ds := [.one (.sl rows)]) h1 (by simp only [toDs, toD, toD_list (n := 5) h2 hl]; rfl) rfl rfl
theorem ends_list2 {rv : List RV} {s : AS} {t k len : Nat} {cap : Option Nat} {m : Bool} {rows : List (List PV)} {v : PV} (h1 : evRV rv s.env s.σ = some [.one (.msl t 0 k len cap), .one (.p v)]) (h2 : lo s.σ t = .arr m k rows) (hl : len = rows.length) :
    Ends rv (.tup [.one (.sl rows), .one v]) .ret s :=
  ends_ret (ds := [.one (.sl rows), .one v]) h1 (by simp only [toDs, toD, toD_list (n := 5) h2 hl]; rfl) rfl rfl
theorem Weak.freeze {G : Ground} {s : AS} {i : Nat} {c : AC} {v : PV} {σ' : Sto} (hi : lk s.env i = .one c) (h : toP 6 c s.σ = some (v, σ')) : Weak G s { s with env := (i, .one (.p v)) :: s.env, σ := σ' } := by
  rintro a w ⟨A, τ, hs⟩
  obtain ⟨A', i1, h1, k⟩ := toP_sound 6 c s σ' v A hs h
  refine ⟨A', τ, h1.below, h1.a0, h1.a1, h1.alt, h1.size, fun j => ?_, h1.obj, h1.sep, h1.ex, h1.marks⟩
  rw [lk_put]
  by_cases hj : j = i
  · subst hj
    rw [if_pos rfl]
    have h2 := one_inv (hi ▸ hs.env j : VRel A τ w (.one c) _)
    exact .v1 (.one (.c0 (.p _ _ (k _ h2))))
  · rw [if_neg hj]; exact h1.env j
end Go.AM

namespace Go.AM
open Go
section
variable (d : Nat)
abbrev mv (s : Nat) (r : TOps) : TOps := .op (some d) none (.q (.mov (.t s))) r
abbrev ic (n : Int) : Opd := .c (.one (.p (.int .i64 n)))
abbrev qq (q : QOp) (r : TOps) : TOps := .op (some d) none (.q q) r
abbrev nn (q : NOp) (r : TOps) : TOps := .op (some d) none (.n q) r
abbrev ss (q : SOp) (r : TOps) : TOps := .op none none (.s q) r
abbrev sd (q : SOp) (r : TOps) : TOps := .op (some d) none (.s q) r
end
section
variable (d : Nat)
abbrev mc (n : Int) (r : TOps) : TOps := .op (some d) none (.q (.mov (.c (.one (.p (.int .i64 n)))))) r
abbrev xt (s n : Nat) (r : TOps) : TOps := .op (some d) none (.q (.extr (.t s) n)) r
abbrev bt (o : BinOp) (x y : Nat) (r : TOps) : TOps := .op (some d) none (.q (.bin o (.t x) (.t y))) r
abbrev bc (o : BinOp) (x : Nat) (n : Int) (r : TOps) : TOps := .op (some d) none (.q (.bin o (.t x) (.c (.one (.p (.int .i64 n)))))) r
abbrev ld (n : Nat) (g : Bool) (x : Nat) (r : TOps) : TOps := .op (some d) none (.q (.load n g (.t x))) r
abbrev fa (n x : Nat) (r : TOps) : TOps := .op (some d) none (.q (.faddr n (.t x))) r
abbrev ia (n x y : Nat) (r : TOps) : TOps := .op (some d) none (.q (.iaddr n (.t x) (.t y))) r
abbrev le (x : Nat) (r : TOps) : TOps := .op (some d) none (.q (.len (.t x))) r
abbrev al (z : List AC) (r : TOps) : TOps := .op (some d) none (.n (.alloc z)) r
abbrev cl (f : FuncId) (xs : List Nat) (r : TOps) : TOps := .op (some d) none (.call (.c (.one (.p (.fn f [] [])))) (xs.map .t)) r
end
abbrev st (n a x : Nat) (r : TOps) : TOps := .op none none (.s (.store n (.t a) (.t x))) r
abbrev rg (k i : List Nat) (t : TOps) : ACode := .region none t k i
abbrev sr (k i : List Nat) (t : TOps) (b : ACode) : ACode := .seq (.region none t k i) b
abbrev cd (c : Nat) (a b : ACode) : ACode := .cond (.t c) a b
abbrev ib (k i : List Nat) (t : TOps) (c : Nat) (a b : ACode) : ACode := .seq (.seq (.region none t k i) (.cond (.t c) a .skip)) b
def PureT (P : Program) (f : FuncId) (nt : Nat) (ac : ACode) (rv : List RV) : Prop :=
  ∀ {ds : List DV} {r : DV}, ds.length ≤ nt → (∀ (G : Ground), G.P = P → G.nt = nt → T G Fence.wide 0 ac (Ends rv r) { env := initE 0 ds, σ := [] }) → PureC P f ds r
def MutT (P : Program) (f : FuncId) (nt : Nat) (ac : ACode) (rv : List RV) : Prop :=
  ∀ {vs : List AV} {σ σ' : Sto} {r : AV} {fr : List Nat}, vs.length ≤ nt → (∀ (G : Ground) (ex : List AV), G.P = P → G.nt = nt → (∀ d ∈ fr, ex.all (fun v => !v.has d) = true) → T G Fence.wide 0 ac (EndsM rv r σ' ex) { env := initV 0 vs, σ := σ, ex := ex }) → MutC P f vs σ r σ' fr
theorem body_is {fn : Func} (h : fn.body.isSome = true) : fn.body = some (fn.body.getD .skip) := by
  cases e : fn.body with
  | none => rw [e] at h; cases h
  | some c => rfl
section
variable {P : Program} {f : FuncId} {fn : Func} {nt : Nat} {ac : ACode} {rv : List RV}
theorem pureT_of (henter : ∀ args w, (callFunc f args).run P w = .ok (.enter f args) w) (hf : P.funcs[f]? = some fn) (hb : fn.body.isSome = true := by kernel_rfl) (hc : compC P (fn.body.getD .skip) = some ac.erase := by kernel_rfl)
    (hok : ac.ok nt = true := by kernel_rfl) (hr : compRV P fn.results.toList = some rv := by kernel_rfl) (hnt : fn.ntmps = nt := by kernel_rfl) : PureT P f nt ac rv := by
  subst hnt
  exact fun hn h => pureC_of henter hf (body_is hb) hc hok hr hn h
theorem mutT_of (henter : ∀ args w, (callFunc f args).run P w = .ok (.enter f args) w) (hf : P.funcs[f]? = some fn) (hb : fn.body.isSome = true := by kernel_rfl) (hc : compC P (fn.body.getD .skip) = some ac.erase := by kernel_rfl)
    (hok : ac.ok nt = true := by kernel_rfl) (hr : compRV P fn.results.toList = some rv := by kernel_rfl) (hnt : fn.ntmps = nt := by kernel_rfl) : MutT P f nt ac rv := by
  subst hnt
  exact fun hn h => mutC_of henter hf (body_is hb) hc hok hr hn h
end
end Go.AM

namespace Go.AM
open Go Go.Proofs
set_option maxRecDepth 100000
abbrev fi_fullerlaw14_VjpTurns : Nat := 9
abbrev fi_fullerref02_Same : Nat := 21
abbrev fi_eval_Node : Nat := 22
abbrev fi_fullerref03_Same : Nat := 23
abbrev fi_graph_Check : Nat := 24
abbrev fi_fullerlaw14_awake : Nat := 25
abbrev fi_fullerref03_Few : Nat := 27
abbrev fi_vjp_Back : Nat := 28
abbrev fi_tensor_Full : Nat := 30
abbrev fi_tensor_Check : Nat := 31
abbrev fi_fix_Mul : Nat := 39
abbrev fi_infer_Node : Nat := 41
abbrev fi_eval_given : Nat := 42
abbrev fi_eval_rules : Nat := 43
abbrev fi_graph_kinds : Nat := 44
abbrev fi_graph_Check_1 : Nat := 45
abbrev fi_graph_well : Nat := 46
abbrev fi_slices_ContainsFunc_int_int : Nat := 47
abbrev fi_graph_name : Nat := 48
abbrev fi_slices_Equal_int_int : Nat := 49
abbrev fi_vjp_rules : Nat := 50
abbrev fi_shape_Check : Nat := 55
abbrev fi_slices_Clone_int_int : Nat := 56
abbrev fi_slices_Repeat_int_int : Nat := 57
abbrev fi_shape_Size : Nat := 58
abbrev fi_math_bits_Mul64 : Nat := 66
abbrev fi_fix_size : Nat := 67
abbrev fi_fix_wide_signed : Nat := 68
abbrev fi_fix_apart : Nat := 69
abbrev fi_graph_Arity : Nat := 70
abbrev fi_infer_Node_1 : Nat := 71
abbrev fi_slices_ContainsFunc_LL_int_int : Nat := 72
abbrev fi_infer_rules : Nat := 73
abbrev fi_eval_rules_1 : Nat := 74
abbrev fi_eval_of_api_Tensor : Nat := 75
abbrev fi_matmul_Mul : Nat := 76
abbrev fi_eval_rules_2 : Nat := 77
abbrev fi_move_Reshape : Nat := 78
abbrev fi_eval_rules_3 : Nat := 79
abbrev fi_move_Turn : Nat := 80
abbrev fi_eval_rules_4 : Nat := 81
abbrev fi_move_Slice : Nat := 82
abbrev fi_eval_rules_5 : Nat := 83
abbrev fi_move_Join : Nat := 84
abbrev fi_eval_side : Nat := 85
abbrev fi_reduce_Sum : Nat := 86
abbrev fi_reduce_Mean : Nat := 87
abbrev fi_reduce_Max : Nat := 88
abbrev fi_eval_two : Nat := 89
abbrev fi_eval_one : Nat := 90
abbrev fi_slices_IndexFunc_int_int : Nat := 91
abbrev fi_vjp_same : Nat := 92
abbrev fi_vjp_rules_1 : Nat := 93
abbrev fi_vjp_call_folded : Nat := 94
abbrev fi_vjp_call_neg : Nat := 95
abbrev fi_vjp_by : Nat := 96
abbrev fi_vjp_rules_2 : Nat := 97
abbrev fi_vjp_rules_3 : Nat := 99
abbrev fi_vjp_relu : Nat := 100
abbrev fi_vjp_slopes : Nat := 101
abbrev fi_vjp_roots : Nat := 102
abbrev fi_vjp_rules_4 : Nat := 103
abbrev fi_vjp_call_keep : Nat := 104
abbrev fi_vjp_rules_5 : Nat := 106
abbrev fi_vjp_rules_6 : Nat := 108
abbrev fi_vjp_rules_7 : Nat := 109
abbrev fi_vjp_rules_8 : Nat := 110
abbrev fi_vjp_call_side : Nat := 112
abbrev fi_vjp_rules_9 : Nat := 113
abbrev fi_vjp_rules_10 : Nat := 114
abbrev fi_vjp_rules_11 : Nat := 115
abbrev fi_vjp_middle : Nat := 117
abbrev fi_vjp_most : Nat := 118
abbrev fi_math_bits_Mul : Nat := 141
abbrev fi_elem_Two : Nat := 144
abbrev fi_slices_Reverse_int_int : Nat := 145
abbrev fi_fix_wide_signed_1 : Nat := 146
abbrev fi_slices_IndexFunc_LL_int_int : Nat := 148
abbrev fi_infer_rules_1 : Nat := 149
abbrev fi_infer_rules_2 : Nat := 150
abbrev fi_infer_rules_3 : Nat := 151
abbrev fi_infer_rules_4 : Nat := 152
abbrev fi_infer_rules_5 : Nat := 153
abbrev fi_infer_rules_6 : Nat := 154
abbrev fi_infer_both : Nat := 155
abbrev fi_infer_first : Nat := 156
abbrev fi_infer_sided : Nat := 157
abbrev fi_infer_part : Nat := 158
abbrev fi_infer_behind : Nat := 159
abbrev fi_infer_together : Nat := 160
abbrev fi_matmul_may : Nat := 161
abbrev fi_matmul_Mul_1 : Nat := 162
abbrev fi_matmul_Mul_2 : Nat := 163
abbrev fi_fix_Add : Nat := 164
abbrev fi_move_made : Nat := 165
abbrev fi_move_turned_int : Nat := 166
abbrev fi_move_Turn_1 : Nat := 167
abbrev fi_tensor_At : Nat := 168
abbrev fi_move_sided : Nat := 169
abbrev fi_move_Slice_1 : Nat := 170
abbrev fi_move_shifted : Nat := 171
abbrev fi_move_Join_1 : Nat := 172
abbrev fi_eval_side_1 : Nat := 173
abbrev fi_reduce_together : Nat := 174
abbrev fi_reduce_done : Nat := 175
abbrev fi_reduce_none : Nat := 176
abbrev fi_reduce_share : Nat := 177
abbrev fi_reduce_most : Nat := 178
abbrev fi_reduce_same : Nat := 179
abbrev fi_eval_two_1 : Nat := 180
abbrev fi_eval_one_1 : Nat := 181
abbrev fi_elem_One : Nat := 182
abbrev fi_vjp_same_1 : Nat := 183
abbrev fi_tensor_Fold : Nat := 184
abbrev fi_vjp_by_1 : Nat := 185
abbrev fi_math_bits_Len64 : Nat := 227
abbrev fi_elem_kinds : Nat := 228
abbrev fi_shape_Join : Nat := 229
abbrev fi_tensor_Spread : Nat := 230
abbrev fi_elem_each : Nat := 231
abbrev fi_elem_Two_1 : Nat := 232
abbrev fi_infer_sided_1 : Nat := 233
abbrev fi_slices_Delete_int_int : Nat := 234
abbrev fi_fix_told : Nat := 235
abbrev fi_move_indices : Nat := 236
abbrev fi_shape_Place : Nat := 237
abbrev fi_reduce_lanes : Nat := 238
abbrev fi_reduce_lane_at : Nat := 239
abbrev fi_fix_Div : Nat := 240
abbrev fi_elem_One_1 : Nat := 241
abbrev fi_shape_Fits : Nat := 242
abbrev fi_tensor_from : Nat := 243
abbrev fi_fix_shifted : Nat := 244
abbrev fi_elem_kinds_1 : Nat := 264
abbrev fi_fix_Sub : Nat := 265
abbrev fi_fix_Neg : Nat := 266
abbrev fi_fix_Pow : Nat := 267
abbrev fi_fix_Sqrt : Nat := 268
abbrev fi_shape_side : Nat := 269
abbrev fi_move_indices_1 : Nat := 270
abbrev fi_shape_Index : Nat := 271
abbrev fi_math_bits_Div64 : Nat := 272
abbrev fi_tensor_from_1 : Nat := 273
abbrev fi_math_bits_LeadingZeros64 : Nat := 282
end Go.AM

namespace Go.AM
open Go Go.Proofs
set_option maxRecDepth 100000
def a_fullerlaw14_VjpTurns : ACode := (sr [3,4,5,6,7] [5,6,7] (nn 5 (.box 2 (.t 0))<|nn 6 (.box 2 (.t 1))<|nn 7 (.box 2 (.t 2))<|qq 10 (.mov (.c (.one (.p (.bool false)))))<|.nil)<|
(sr [3,4,5,6,7,11] [5,6,7] (cl 20 25 []<|mv 11 20<|.nil)<|
(ib [3,4,5,6,7,11,33] [5,6,7] (ld 21 2 true 5<|cl 22 27 [21]<|qq 23 (.un .not (.t 22))<|mv 24 23<|.sc 28 24 false 27 none (.op (some 25) (some (24, false)) (.q (.load 2 true (.t 6)))<|.op (some 26) (some (24, false)) (.call (.c (.one (.p (.fn fi_fullerref03_Few [] [])))) [(.t 25)])<|.op (some 27) (some (24, false)) (.q (.un .not (.t 26)))<|.nil)<|mv 29 28<|.sc 33 29 false 32 none (.op (some 30) (some (29, false)) (.q (.load 2 true (.t 7)))<|.op (some 31) (some (29, false)) (.call (.c (.one (.p (.fn fi_fullerref03_Few [] [])))) [(.t 30)])<|.op (some 32) (some (29, false)) (.q (.un .not (.t 31)))<|.nil)<|.nil) 33 (sr [10] [5,6,7] (mv 34 11<|mv 10 34<|.nil)<|
.ret)<|
(sr [3,4,5,6,7,11,12] [5,6,7,12] (qq 35 (.build [(.p (.int .i64 0)),.nils,.nils] [(0, 1, (ic 41))])<|al 12 [(.p (.int .i64 0)),.nils,.nils]<|st 3 12 35<|.nil)<|
(sr [3,4,5,6,7,11,12,13] [5,6,7,12,37] (ld 36 2 true 5<|nn 37 (.lit 2 1 [(.sl []),(.sl [])] [(0, (.t 36))])<|mv 13 37<|.nil)<|
(ib [3,4,5,6,7,11,12,13,40] [5,6,7,12,37] (mv 38 4<|qq 39 (.bin .rem (.t 38) (.c (.one (.p (.int .u8 3)))))<|qq 40 (.bin .eql (.t 39) (.c (.one (.p (.int .u8 1)))))<|.nil) 40 (rg [3,4,5,6,7,11,12,13] [5,6,7,12,37,44]<|fa 41 1 5<|ld 42 1 false 41<|le 43 42<|nn 44 (.lit 1 2 [(.int .i64 0)] [(0, (ic 1)),(1, (.t 43))])<|qq 45 (.build [(.p (.int .i64 0)),.nils,.nils] [(0, 1, (ic 40)),(2, 1, (.t 44))])<|st 3 12 45<|.nil)<|
(ib [3,5,6,7,11,12,13,48] [5,6,7,12,37,44] (mv 46 4<|qq 47 (.bin .rem (.t 46) (.c (.one (.p (.int .u8 3)))))<|qq 48 (.bin .eql (.t 47) (.c (.one (.p (.int .u8 2)))))<|.nil) 48 (sr [5,6,7,11,12] [5,6,7,12,37,44,50] (mv 49 3<|nn 50 (.lit 1 1 [(.int .i64 0)] [(0, (.t 49))])<|qq 51 (.build [(.p (.int .i64 0)),.nils,.nils] [(0, 1, (ic 43)),(2, 1, (.t 50))])<|st 3 12 51<|.nil)<|
(rg [7,11,12,13] [5,6,7,12,37,44,50,54]<|ld 52 2 true 5<|ld 53 2 true 6<|nn 54 (.lit 2 2 [(.sl []),(.sl [])] [(0, (.t 52)),(1, (.t 53))])<|mv 13 54<|.nil))<|
(sr [7,11,12,13,14,15] [5,6,7,12,14,37,44,50,54] (ld 56 3 true 12<|mv 57 13<|qq 58 (.build [.nils,.nils] [])<|.op (some 59) none (.call (.c (.one (.p (.fn fi_eval_Node [] [])))) [(.t 56),(.t 57),(.t 58),(.c (.one .nils))])<|mv 55 59<|xt 60 55 0<|xt 61 55 1<|al 14 [.nils,.nils]<|st 2 14 60<|mv 15 61<|.nil)<|
(sr [7,11,12,13,15,16,17] [5,6,7,12,14,37,44,50,54] (ld 63 3 true 12<|mv 64 13<|ld 65 2 true 14<|ld 66 2 true 7<|cl 67 28 [63,64,65,66]<|mv 62 67<|xt 68 62 0<|xt 69 62 1<|mv 16 68<|mv 17 69<|.nil)<|
(ib [7,11,12,13,15,16,17,75] [5,6,7,12,14,37,44,50,54] (mv 70 15<|bc 71 .neq 70 0<|mv 72 71<|.sc 75 72 false 74 none (.op (some 73) (some (72, false)) (.q (.mov (.t 17)))<|.op (some 74) (some (72, false)) (.q (.bin .neq (.t 73) (ic 0)))<|.nil)<|.nil) 75 (sr [10] [5,6,7,12,14,37,44,50,54] (mv 76 11<|mv 77 76<|.sc 88 77 true 87 none (.op (some 78) (some (77, true)) (.q (.mov (.t 15)))<|.op (some 79) (some (77, true)) (.q (.bin .neq (.t 78) (ic 0)))<|.op (some 80) (some (77, true)) (.q (.mov (.t 79)))<|.sc 83 80 false 82 (some (77, true)) (.op (some 81) (some (80, false)) (.q (.mov (.t 17)))<|.op (some 82) (some (80, false)) (.q (.bin .eql (.t 81) (ic 30)))<|.nil)<|.op (some 84) (some (77, true)) (.q (.mov (.t 83)))<|.sc 87 84 false 86 (some (77, true)) (.op (some 85) (some (84, false)) (.q (.mov (.t 17)))<|.op (some 86) (some (84, false)) (.q (.bin .eql (.t 85) (ic 20)))<|.nil)<|.nil)<|mv 10 88<|.nil)<|
.ret)<|
(sr [7,11,13,16,18,19] [5,6,7,12,14,18,37,44,50,54] (ld 90 3 true 12<|mv 91 16<|qq 92 (.build [.nils,.nils] [])<|.op (some 93) none (.call (.c (.one (.p (.fn fi_eval_Node [] [])))) [(.t 90),(.t 91),(.t 92),(.c (.one .nils))])<|mv 89 93<|xt 94 89 0<|xt 95 89 1<|al 18 [.nils,.nils]<|st 2 18 94<|mv 19 95<|.nil)<|
(sr [10] [5,6,7,12,14,18,37,44,50,54] (mv 96 11<|mv 97 96<|.sc 100 97 true 99 none (.op (some 98) (some (97, true)) (.q (.mov (.t 19)))<|.op (some 99) (some (97, true)) (.q (.bin .eql (.t 98) (ic 0)))<|.nil)<|mv 101 100<|.sc 105 101 true 104 none (.op (some 102) (some (101, true)) (.q (.load 2 true (.t 18)))<|.op (some 103) (some (101, true)) (.q (.load 2 true (.t 7)))<|.op (some 104) (some (101, true)) (.call (.c (.one (.p (.fn fi_fullerref03_Same [] [])))) [(.t 102),(.t 103)])<|.nil)<|mv 106 105<|.sc 112 106 true 111 none (.op (some 107) (some (106, true)) (.q (.mov (.t 16)))<|.op (some 108) (some (106, true)) (.q (.len (.t 107)))<|.op (some 109) (some (106, true)) (.q (.mov (.t 13)))<|.op (some 110) (some (106, true)) (.q (.len (.t 109)))<|.op (some 111) (some (106, true)) (.q (.bin .eql (.t 108) (.t 110)))<|.nil)<|mv 10 112<|.nil)<|
.ret))))))))))))
theorem pure_fullerlaw14_VjpTurns : PureT Tryz.prog fi_fullerlaw14_VjpTurns 113 a_fullerlaw14_VjpTurns [.tmp 10] := pureT_of Tryz.call9 Tryz.func9
end Go.AM

namespace Go.AM
open Go Go.Proofs
set_option maxRecDepth 100000
def a_fullerref02_Same : ACode := (sr [0,1] [] (qq 4 (.mov (.c (.one (.p (.bool false)))))<|.nil)<|
(ib [0,1,10] [] (mv 6 0<|le 7 6<|mv 8 1<|le 9 8<|bt 10 .neq 7 9<|.nil) 10 (sr [4] [] (qq 4 (.mov (.c (.one (.p (.bool false)))))<|.nil)<|
.ret)<|
(.seq (sr [0,1,5] [] (mc 5 0<|.nil)<|
(.block 0 (.loop (.seq (sr [0,1,5,14] [] (mv 11 5<|mv 12 0<|le 13 12<|bt 14 .lss 11 13<|.nil)<|
(cd 14 .skip (.exit 0)))<|
(.seq (.block 1 (.seq (.region (some [[], [0], [], [], [0, 1, 2, 3], [0, 1, 2, 3, 4], [0, 1, 2, 3], [0, 1, 2, 3], []]) (mv 17 0<|mv 18 5<|ia 19 1 17 18<|ld 20 1 false 19<|mv 21 1<|mv 22 5<|ia 23 1 21 22<|ld 24 1 false 23<|bt 25 .neq 20 24<|.nil) [0,1,5,25] [])<|
(cd 25 (sr [4] [] (qq 4 (.mov (.c (.one (.p (.bool false)))))<|.nil)<|
.ret) .skip)))<|
(rg [0,1,5] []<|mv 15 5<|bc 16 .add 15 1<|mv 5 16<|.nil))))))<|
(sr [4] [] (qq 4 (.mov (.c (.one (.p (.bool true)))))<|.nil)<|
.ret))))
theorem pure_fullerref02_Same : PureT Tryz.prog fi_fullerref02_Same 26 a_fullerref02_Same [.tmp 4] := pureT_of Tryz.call21 Tryz.func21
def a_eval_Node : ACode := (sr [1,3,4,6,8] [4,6,8] (nn 4 (.box 3 (.t 0))<|nn 6 (.box 2 (.t 2))<|al 8 [.nils,.nils]<|mc 9 0<|.nil)<|
(sr [1,3,4,6,8,10] [4,6,8] (qq 10 (.mov (.c (.one .nils)))<|.nil)<|
(.seq (sr [1,3,4,6,8,10,17,18,19] [4,6,8] (mv 17 1<|le 18 17<|mc 19 0<|.nil)<|
(.block 0 (.loop (sr [1,3,4,6,8,10,17,18,19,20] [4,6,8] (bt 20 .lss 19 18<|.nil)<|
(.seq (cd 20 .skip (.exit 0))<|
(.seq (.block 1 (sr [1,3,4,6,8,10,12,17,18,19] [4,6,8,12] (ia 21 2 17 19<|ld 22 2 true 21<|al 12 [.nils,.nils]<|st 2 12 22<|.nil)<|
(ib [1,3,4,6,8,10,12,17,18,19,25] [4,6,8,12] (ld 23 2 true 12<|cl 24 31 [23]<|qq 25 (.un .not (.t 24))<|.nil) 25 (sr [8,9] [4,6,8,12] (qq 26 (.build [.nils,.nils] [])<|st 2 8 26<|mc 9 30<|.nil)<|
.ret)<|
(rg [1,3,4,6,8,10,17,18,19] [4,6,8,12,30,31]<|mv 27 10<|fa 28 0 12<|ld 29 1 false 28<|nn 30 (.lit 1 1 [(.sl [])] [(0, (.t 29))])<|sd 31 (.app 1 24 (.t 27) (.t 30))<|mv 10 31<|.nil))))<|
(rg [1,3,4,6,8,10,17,18,19] [4,6,8,12,30,31]<|bc 32 .add 19 1<|mv 19 32<|.nil)))))))<|
(sr [1,3,4,6,8,13,14] [4,6,8,12,30,31] (ld 34 3 true 4<|mv 35 10<|cl 36 41 [34,35]<|mv 33 36<|xt 37 33 0<|xt 38 33 1<|mv 13 37<|mv 14 38<|.nil)<|
(ib [1,3,4,6,8,13,14,40] [4,6,8,12,30,31] (mv 39 14<|bc 40 .neq 39 0<|.nil) 40 (sr [8,9] [4,6,8,12,30,31] (qq 41 (.build [.nils,.nils] [])<|mv 42 14<|st 2 8 41<|mv 9 42<|.nil)<|
.ret)<|
(.seq (sr [1,3,4,6,8,13,44] [4,6,8,12,30,31] (fa 43 0 4<|ld 44 1 false 43<|.nil)<|
(.block 2 (sr [1,3,4,6,8,13,44,45] [4,6,8,12,30,31] (bc 46 .eql 44 1<|mv 45 46<|.nil)<|
(cd 45 (sr [8,9] [4,6,8,12,30,31] (ld 47 2 true 6<|mv 48 13<|cl 49 42 [47,48]<|xt 50 49 0<|xt 51 49 1<|st 2 8 50<|mv 9 51<|.nil)<|
.ret) (sr [1,3,4,8,13,44,52] [4,6,8,12,30,31] (bc 53 .eql 44 2<|mv 52 53<|.nil)<|
(cd 52 (sr [3,4,8,13,15] [4,6,8,12,15,30,31] (al 15 [.nils,.nils]<|.nil)<|
(ib [3,4,8,13,15,60] [4,6,8,12,15,30,31] (fa 54 2 4<|ld 55 1 false 54<|qq 56 (.iaddr 1 (.t 55) (ic 0))<|ld 57 1 false 56<|mv 58 3<|le 59 58<|bt 60 .lss 57 59<|.nil) 60 (rg [8,13,15] [4,6,8,12,15,30,31]<|mv 61 3<|fa 62 2 4<|ld 63 1 false 62<|qq 64 (.iaddr 1 (.t 63) (ic 0))<|ld 65 1 false 64<|ia 66 2 61 65<|ld 67 2 true 66<|st 2 15 67<|.nil)<|
(sr [8,9] [4,6,8,12,15,30,31] (ld 68 2 true 15<|mv 69 13<|cl 70 42 [68,69]<|xt 71 70 0<|xt 72 70 1<|st 2 8 71<|mv 9 72<|.nil)<|
.ret))) (sr [1,4,8,73] [4,6,8,12,30,31] (bc 74 .eql 44 3<|mv 73 74<|.nil)<|
(cd 73 (sr [8,9] [4,6,8,12,30,31] (fa 75 2 4<|ld 76 1 false 75<|qq 77 (.iaddr 1 (.t 76) (ic 0))<|ld 78 1 false 77<|.op (some 79) none (.call (.c (.one (.p (.fn fi_tensor_Full [] [])))) [(.c (.one .nils)),(.t 78)])<|xt 80 79 0<|xt 81 79 1<|st 2 8 80<|mv 9 81<|.nil)<|
.ret) .skip))))))))<|
(.seq (.region (some [[], [0], [0], [], [0, 1, 2, 3], [0, 1, 2, 3, 4], [0, 1, 2, 3, 4], [], [0, 1, 2, 3, 4, 5, 6, 7], []]) (cl 82 43 []<|fa 83 0 4<|ld 84 1 false 83<|qq 85 (.mget (.one (.p .nilF)) false (.t 82) (.t 84))<|mv 86 1<|fa 87 2 4<|ld 88 1 false 87<|.op (some 89) none (.call (.t 85) [(.t 86),(.t 88)])<|al 16 [.nils,.nils,(.p (.int .i64 0))]<|st 3 16 89<|.nil) [8,16] [4,6,8,12,15,16,30,31])<|
(.seq (.region (some [[], [], [0, 1], [0, 1], [2, 3], []]) (fa 90 0 16<|ld 91 2 true 90<|fa 92 2 16<|ld 93 1 false 92<|st 2 8 91<|mv 9 93<|.nil) [8,9] [4,6,8,12,15,16,30,31])<|
.ret))))))))
theorem pure_eval_Node : PureT Tryz.prog fi_eval_Node 94 a_eval_Node [.cell 2 true 8,.tmp 9] := pureT_of Tryz.call22 Tryz.func22
def a_fullerref03_Same : ACode := (sr [2,3] [2,3] (nn 2 (.box 2 (.t 0))<|nn 3 (.box 2 (.t 1))<|qq 4 (.mov (.c (.one (.p (.bool false)))))<|.nil)<|
(sr [2,3,5] [2,3] (fa 6 0 2<|ld 7 1 false 6<|fa 8 0 3<|ld 9 1 false 8<|cl 10 21 [7,9]<|mv 5 10<|.nil)<|
(sr [4] [2,3] (mv 11 5<|mv 12 11<|.sc 18 12 true 17 none (.op (some 13) (some (12, true)) (.q (.faddr 1 (.t 2)))<|.op (some 14) (some (12, true)) (.q (.load 1 false (.t 13)))<|.op (some 15) (some (12, true)) (.q (.faddr 1 (.t 3)))<|.op (some 16) (some (12, true)) (.q (.load 1 false (.t 15)))<|.op (some 17) (some (12, true)) (.call (.c (.one (.p (.fn fi_fullerref02_Same [] [])))) [(.t 14),(.t 16)])<|.nil)<|mv 4 18<|.nil)<|
.ret)))
theorem pure_fullerref03_Same : PureT Tryz.prog fi_fullerref03_Same 19 a_fullerref03_Same [.tmp 4] := pureT_of Tryz.call23 Tryz.func23
def a_graph_Check : ACode := (sr [0] [] (qq 2 (.mov (.c (.one (.p (.bool false)))))<|.nil)<|
(sr [0,3] [] (cl 14 44 []<|mv 3 14<|.nil)<|
(sr [0,3,4] [15] (nn 15 .mkM<|mv 4 15<|.nil)<|
(.seq (sr [0,3,4,16,17,18] [15] (mv 16 0<|le 17 16<|mc 18 0<|.nil)<|
(.block 0 (.loop (sr [0,3,4,16,17,18,19] [15] (bt 19 .lss 18 17<|.nil)<|
(.seq (cd 19 .skip (.exit 0))<|
(.seq (.block 1 (sr [0,3,4,5,6,16,17,18] [5,6,15] (mv 20 18<|ia 21 3 16 18<|ld 22 3 true 21<|al 5 [(.p (.int .i64 0))]<|al 6 [(.p (.int .i64 0)),.nils,.nils]<|st 1 5 20<|st 3 6 22<|.nil)<|
(sr [0,3,4,5,6,7,8,16,17,18] [5,6,7,15] (mv 24 3<|fa 25 0 6<|ld 26 1 false 25<|qq 27 (.mget (.agg [(.p (.int .i64 0)),(.p (.int .i64 0))]) true (.t 24) (.t 26))<|mv 23 27<|xt 28 23 0<|xt 29 23 1<|al 7 [(.p (.int .i64 0)),(.p (.int .i64 0))]<|st 2 7 28<|mv 8 29<|.nil)<|
(sr [0,3,4,6,7,8,9,16,17,18] [5,6,7,15] (qq 30 (.mkF fi_graph_Check_1 [] [(.t 5)])<|mv 9 30<|.nil)<|
(ib [0,3,4,6,16,17,18,52] [5,6,7,15] (mv 31 8<|qq 32 (.un .not (.t 31))<|mv 33 32<|.sc 40 33 false 39 none (.op (some 34) (some (33, false)) (.q (.faddr 1 (.t 6)))<|.op (some 35) (some (33, false)) (.q (.load 1 false (.t 34)))<|.op (some 36) (some (33, false)) (.q (.len (.t 35)))<|.op (some 37) (some (33, false)) (.q (.faddr 0 (.t 7)))<|.op (some 38) (some (33, false)) (.q (.load 1 false (.t 37)))<|.op (some 39) (some (33, false)) (.q (.bin .neq (.t 36) (.t 38)))<|.nil)<|mv 41 40<|.sc 46 41 false 45 none (.op (some 42) (some (41, false)) (.q (.load 3 true (.t 6)))<|.op (some 43) (some (41, false)) (.q (.load 2 true (.t 7)))<|.op (some 44) (some (41, false)) (.call (.c (.one (.p (.fn fi_graph_well [] [])))) [(.t 42),(.t 43)])<|.op (some 45) (some (41, false)) (.q (.un .not (.t 44)))<|.nil)<|mv 47 46<|.sc 52 47 false 51 none (.op (some 48) (some (47, false)) (.q (.faddr 1 (.t 6)))<|.op (some 49) (some (47, false)) (.q (.load 1 false (.t 48)))<|.op (some 50) (some (47, false)) (.q (.mov (.t 9)))<|.op (some 51) (some (47, false)) (.call (.c (.one (.p (.fn fi_slices_ContainsFunc_int_int [] [])))) [(.t 49),(.t 50)])<|.nil)<|.nil) 52 (sr [2] [5,6,7,15] (qq 2 (.mov (.c (.one (.p (.bool false)))))<|.nil)<|
.ret)<|
(sr [0,3,4,6,10,11,16,17,18] [5,6,7,15] (ld 54 3 true 6<|cl 55 48 [54]<|mv 53 55<|xt 56 53 0<|xt 57 53 1<|mv 10 56<|mv 11 57<|.nil)<|
(sr [0,3,4,6,10,16,17,18,58] [5,6,7,15] (mv 58 11<|.nil)<|
(cd 58 (.seq (sr [0,3,4,6,10,12,13,16,17,18] [5,6,7,15] (mv 60 4<|mv 61 10<|qq 62 (.mget (.one .nils) true (.t 60) (.t 61))<|mv 59 62<|xt 63 59 0<|xt 64 59 1<|mv 12 63<|mv 13 64<|.nil)<|
(sr [0,3,4,6,10,16,17,18,72] [5,6,7,15] (mv 65 13<|mv 66 65<|.sc 72 66 true 71 none (.op (some 67) (some (66, true)) (.q (.mov (.t 12)))<|.op (some 68) (some (66, true)) (.q (.faddr 2 (.t 6)))<|.op (some 69) (some (66, true)) (.q (.load 1 false (.t 68)))<|.op (some 70) (some (66, true)) (.call (.c (.one (.p (.fn fi_slices_Equal_int_int [] [])))) [(.t 67),(.t 69)])<|.op (some 71) (some (66, true)) (.q (.un .not (.t 70)))<|.nil)<|.nil)<|
(cd 72 (sr [2] [5,6,7,15] (qq 2 (.mov (.c (.one (.p (.bool false)))))<|.nil)<|
.ret) .skip)))<|
(rg [0,3,4,16,17,18] [5,6,7,15]<|mv 73 4<|mv 74 10<|fa 75 2 6<|ld 76 1 false 75<|ss (.mput (.t 73) (.t 74) (.t 76))<|.nil)) .skip))))))))<|
(rg [0,3,4,16,17,18] [5,6,7,15]<|bc 77 .add 18 1<|mv 18 77<|.nil)))))))<|
(sr [2] [5,6,7,15] (mv 78 0<|le 79 78<|bc 80 .gtr 79 0<|mv 81 80<|.sc 85 81 true 84 none (.op (some 82) (some (81, true)) (.q (.mov (.t 0)))<|.op (some 83) (some (81, true)) (.q (.len (.t 82)))<|.op (some 84) (some (81, true)) (.q (.bin .leq (.t 83) (ic 24)))<|.nil)<|mv 2 85<|.nil)<|
.ret)))))
theorem pure_graph_Check : PureT Tryz.prog fi_graph_Check 86 a_graph_Check [.tmp 2] := pureT_of Tryz.call24 Tryz.func24
def a_fullerlaw14_awake : ACode := (sr [] [] (qq 0 (.mov (.c (.one (.p (.bool false)))))<|.nil)<|
(sr [1] [1,11,12] (nn 11 (.lit 1 1 [(.int .i64 0)] [(0, (ic 2))])<|nn 12 (.lit 1 2 [(.int .i64 0)] [(0, (ic 5)),(1, (ic (-5)))])<|qq 13 (.build [.nils,.nils] [(0, 1, (.t 11)),(1, 1, (.t 12))])<|al 1 [.nils,.nils]<|st 2 1 13<|.nil)<|
(sr [1,2] [1,2,11,12,14,15] (nn 14 (.lit 1 1 [(.int .i64 0)] [(0, (ic 2))])<|nn 15 (.lit 1 2 [(.int .i64 0)] [(0, (ic 7)),(1, (ic 7))])<|qq 16 (.build [.nils,.nils] [(0, 1, (.t 14)),(1, 1, (.t 15))])<|al 2 [.nils,.nils]<|st 2 2 16<|.nil)<|
(sr [1,2,3,4] [1,2,11,12,14,15,20] (qq 18 (.build [(.p (.int .i64 0)),.nils,.nils] [(0, 1, (ic 21))])<|ld 19 2 true 1<|nn 20 (.lit 2 1 [(.sl []),(.sl [])] [(0, (.t 19))])<|ld 21 2 true 1<|ld 22 2 true 2<|cl 23 28 [18,20,21,22]<|mv 17 23<|xt 24 17 0<|xt 25 17 1<|mv 3 24<|mv 4 25<|.nil)<|
(sr [1,3,4,5,6] [1,2,11,12,14,15,20,29,31] (qq 27 (.build [(.p (.int .i64 0)),.nils,.nils] [(0, 1, (ic 11))])<|ld 28 2 true 1<|nn 29 (.lit 1 1 [(.int .i64 0)] [(0, (ic 1))])<|qq 30 (.build [.nils,.nils] [(1, 1, (.t 29))])<|nn 31 (.lit 2 2 [(.sl []),(.sl [])] [(0, (.t 28)),(1, (.t 30))])<|ld 32 2 true 1<|ld 33 2 true 2<|cl 34 28 [27,31,32,33]<|mv 26 34<|xt 35 26 0<|xt 36 26 1<|mv 5 35<|mv 6 36<|.nil)<|
(sr [1,3,4,5,6,8] [1,2,11,12,14,15,20,29,31,40,42] (qq 38 (.build [(.p (.int .i64 0)),.nils,.nils] [(0, 1, (ic 20))])<|ld 39 2 true 1<|nn 40 (.lit 2 1 [(.sl []),(.sl [])] [(0, (.t 39))])<|ld 41 2 true 1<|nn 42 (.lit 1 1 [(.int .i64 0)] [(0, (ic 1))])<|qq 43 (.build [.nils,.nils] [(1, 1, (.t 42))])<|cl 44 28 [38,40,41,43]<|mv 37 44<|xt 45 37 0<|xt 46 37 1<|mv 7 45<|mv 8 46<|.nil)<|
(sr [3,4,5,6,8,10] [1,2,11,12,14,15,20,29,31,40,42,50] (qq 48 (.build [(.p (.int .i64 0)),.nils,.nils] [(0, 1, (ic 20))])<|ld 49 2 true 1<|nn 50 (.lit 2 1 [(.sl []),(.sl [])] [(0, (.t 49))])<|ld 51 2 true 1<|qq 52 (.build [.nils,.nils] [])<|cl 53 28 [48,50,51,52]<|mv 47 53<|xt 54 47 0<|xt 55 47 1<|mv 9 54<|mv 10 55<|.nil)<|
(sr [0] [1,2,11,12,14,15,20,29,31,40,42,50,64,81] (mv 56 3<|le 57 56<|bc 58 .eql 57 1<|mv 59 58<|.sc 66 59 true 65 none (.op (some 60) (some (59, true)) (.q (.mov (.t 3)))<|.op (some 61) (some (59, true)) (.q (.iaddr 2 (.t 60) (ic 0)))<|.op (some 62) (some (59, true)) (.q (.faddr 1 (.t 61)))<|.op (some 63) (some (59, true)) (.q (.load 1 false (.t 62)))<|.op (some 64) (some (59, true)) (.n (.lit 1 2 [(.int .i64 0)] [(0, (ic 7)),(1, (ic 0))]))<|.op (some 65) (some (59, true)) (.call (.c (.one (.p (.fn fi_fullerref02_Same [] [])))) [(.t 63),(.t 64)])<|.nil)<|mv 67 66<|.sc 70 67 true 69 none (.op (some 68) (some (67, true)) (.q (.mov (.t 4)))<|.op (some 69) (some (67, true)) (.q (.bin .eql (.t 68) (ic 0)))<|.nil)<|mv 71 70<|.sc 75 71 true 74 none (.op (some 72) (some (71, true)) (.q (.mov (.t 5)))<|.op (some 73) (some (71, true)) (.q (.len (.t 72)))<|.op (some 74) (some (71, true)) (.q (.bin .eql (.t 73) (ic 2)))<|.nil)<|mv 76 75<|.sc 83 76 true 82 none (.op (some 77) (some (76, true)) (.q (.mov (.t 5)))<|.op (some 78) (some (76, true)) (.q (.iaddr 2 (.t 77) (ic 1)))<|.op (some 79) (some (76, true)) (.q (.faddr 1 (.t 78)))<|.op (some 80) (some (76, true)) (.q (.load 1 false (.t 79)))<|.op (some 81) (some (76, true)) (.n (.lit 1 1 [(.int .i64 0)] [(0, (ic (-14)))]))<|.op (some 82) (some (76, true)) (.call (.c (.one (.p (.fn fi_fullerref02_Same [] [])))) [(.t 80),(.t 81)])<|.nil)<|mv 84 83<|.sc 87 84 true 86 none (.op (some 85) (some (84, true)) (.q (.mov (.t 6)))<|.op (some 86) (some (84, true)) (.q (.bin .eql (.t 85) (ic 0)))<|.nil)<|mv 88 87<|.sc 91 88 true 90 none (.op (some 89) (some (88, true)) (.q (.mov (.t 8)))<|.op (some 90) (some (88, true)) (.q (.bin .eql (.t 89) (ic 20)))<|.nil)<|mv 92 91<|.sc 95 92 true 94 none (.op (some 93) (some (92, true)) (.q (.mov (.t 10)))<|.op (some 94) (some (92, true)) (.q (.bin .eql (.t 93) (ic 30)))<|.nil)<|mv 0 95<|.nil)<|
.ret))))))))
theorem pure_fullerlaw14_awake : PureT Tryz.prog fi_fullerlaw14_awake 96 a_fullerlaw14_awake [.tmp 0] := pureT_of Tryz.call25 Tryz.func25
def a_fullerref03_Few : ACode := (sr [1] [1] (nn 1 (.box 2 (.t 0))<|qq 2 (.mov (.c (.one (.p (.bool false)))))<|.nil)<|
(sr [2] [1] (fa 3 0 1<|ld 4 1 false 3<|le 5 4<|bc 6 .leq 5 100<|mv 7 6<|.sc 12 7 true 11 none (.op (some 8) (some (7, true)) (.q (.faddr 1 (.t 1)))<|.op (some 9) (some (7, true)) (.q (.load 1 false (.t 8)))<|.op (some 10) (some (7, true)) (.q (.len (.t 9)))<|.op (some 11) (some (7, true)) (.q (.bin .leq (.t 10) (ic 100)))<|.nil)<|mv 2 12<|.nil)<|
.ret))
theorem pure_fullerref03_Few : PureT Tryz.prog fi_fullerref03_Few 13 a_fullerref03_Few [.tmp 2] := pureT_of Tryz.call27 Tryz.func27
def a_vjp_Back : ACode := (sr [1,4,6,7,8] [4,6,7] (nn 4 (.box 3 (.t 0))<|nn 6 (.box 2 (.t 2))<|nn 7 (.box 2 (.t 3))<|qq 8 (.mov (.c (.one .nils)))<|mc 9 0<|.nil)<|
(sr [1,4,6,7,8,10] [4,6,7] (qq 10 (.mov (.c (.one .nils)))<|.nil)<|
(sr [1,4,6,7,8,10,11] [4,6,7] (ld 19 2 true 6<|cl 20 31 [19]<|qq 21 (.un .not (.t 20))<|mv 22 21<|.sc 26 22 false 25 none (.op (some 23) (some (22, false)) (.q (.load 2 true (.t 7)))<|.op (some 24) (some (22, false)) (.call (.c (.one (.p (.fn fi_tensor_Check [] [])))) [(.t 23)])<|.op (some 25) (some (22, false)) (.q (.un .not (.t 24)))<|.nil)<|mv 11 26<|.nil)<|
(.seq (sr [1,4,6,7,8,10,11,27,28,29] [4,6,7] (mv 27 1<|le 28 27<|mc 29 0<|.nil)<|
(.block 0 (.loop (sr [1,4,6,7,8,10,11,27,28,29,30] [4,6,7] (bt 30 .lss 29 28<|.nil)<|
(.seq (cd 30 .skip (.exit 0))<|
(.seq (.block 1 (sr [1,4,6,7,8,10,11,13,27,28,29] [4,6,7,13] (ia 31 2 27 29<|ld 32 2 true 31<|al 13 [.nils,.nils]<|st 2 13 32<|.nil)<|
(sr [1,4,6,7,8,10,11,13,27,28,29] [4,6,7,13] (mv 33 11<|mv 34 33<|.sc 38 34 false 37 none (.op (some 35) (some (34, false)) (.q (.load 2 true (.t 13)))<|.op (some 36) (some (34, false)) (.call (.c (.one (.p (.fn fi_tensor_Check [] [])))) [(.t 35)])<|.op (some 37) (some (34, false)) (.q (.un .not (.t 36)))<|.nil)<|mv 11 38<|.nil)<|
(rg [1,4,6,7,8,10,11,27,28,29] [4,6,7,13,42,43]<|mv 39 10<|fa 40 0 13<|ld 41 1 false 40<|nn 42 (.lit 1 1 [(.sl [])] [(0, (.t 41))])<|sd 43 (.app 1 24 (.t 39) (.t 42))<|mv 10 43<|.nil))))<|
(rg [1,4,6,7,8,10,11,27,28,29] [4,6,7,13,42,43]<|bc 44 .add 29 1<|mv 29 44<|.nil)))))))<|
(ib [1,4,6,7,8,10,45] [4,6,7,13,42,43] (mv 45 11<|.nil) 45 (sr [8,9] [4,6,7,13,42,43] (qq 8 (.mov (.c (.one .nils)))<|mc 9 30<|.nil)<|
.ret)<|
(sr [1,4,6,7,8,9,14] [4,6,7,13,42,43] (ld 47 3 true 4<|mv 48 10<|cl 49 41 [47,48]<|mv 46 49<|xt 50 46 0<|xt 51 46 1<|mv 14 50<|mv 9 51<|.nil)<|
(ib [1,4,6,7,8,9,14,53] [4,6,7,13,42,43] (mv 52 9<|bc 53 .neq 52 0<|.nil) 53 (sr [8,9] [4,6,7,13,42,43] (mv 54 9<|qq 8 (.mov (.c (.one .nils)))<|mv 9 54<|.nil)<|
.ret)<|
(ib [1,4,6,7,8,66] [4,6,7,13,42,43] (fa 55 0 6<|ld 56 1 false 55<|mv 57 14<|cl 58 49 [56,57]<|qq 59 (.un .not (.t 58))<|mv 60 59<|.sc 66 60 false 65 none (.op (some 61) (some (60, false)) (.q (.faddr 0 (.t 7)))<|.op (some 62) (some (60, false)) (.q (.load 1 false (.t 61)))<|.op (some 63) (some (60, false)) (.q (.mov (.t 14)))<|.op (some 64) (some (60, false)) (.call (.c (.one (.p (.fn fi_slices_Equal_int_int [] [])))) [(.t 62),(.t 63)])<|.op (some 65) (some (60, false)) (.q (.un .not (.t 64)))<|.nil)<|.nil) 66 (sr [8,9] [4,6,7,13,42,43] (qq 8 (.mov (.c (.one .nils)))<|mc 9 20<|.nil)<|
.ret)<|
(sr [4,8,15] [4,6,7,13,42,43,72] (ld 67 3 true 4<|mv 68 1<|ld 69 2 true 6<|ld 70 2 true 7<|qq 71 (.build [(.p (.int .i64 0)),.nils,.nils,.nils,.nils,.nils,.nils,.nils,(.p (.int .i64 0))] [(0, 3, (.t 67)),(3, 1, (.t 68)),(4, 2, (.t 69)),(6, 2, (.t 70))])<|nn 72 (.box 9 (.t 71))<|mv 15 72<|.nil)<|
(.seq (.seq (.region (some [[], [0], [0], [], [], [0, 1, 2, 3, 4]]) (cl 73 50 []<|fa 74 0 4<|ld 75 1 false 74<|qq 76 (.mget (.one .nils) false (.t 73) (.t 75))<|le 77 76<|mc 78 0<|.nil) [8,15,76,77,78] [4,6,7,13,42,43,72])<|
(.block 2 (.loop (sr [8,15,76,77,78,79] [4,6,7,13,42,43,72] (bt 79 .lss 78 77<|.nil)<|
(.seq (cd 79 .skip (.exit 2))<|
(.seq (.block 3 (sr [8,15,17,76,77,78] [4,6,7,13,42,43,72] (ia 80 1 76 78<|ld 81 1 false 80<|mv 17 81<|.nil)<|
(sr [8,15,18,76,77,78] [4,6,7,13,18,42,43,72] (mv 82 17<|mv 83 15<|.op (some 84) none (.call (.t 82) [(.t 83)])<|al 18 [.nils,.nils]<|st 2 18 84<|.nil)<|
(ib [8,15,18,76,77,78,89] [4,6,7,13,18,42,43,72] (mv 85 15<|qq 86 (.nck (.t 85))<|fa 87 8 86<|ld 88 1 false 87<|bc 89 .neq 88 0<|.nil) 89 (.seq (.region (some [[], [], [], [], [0, 1, 2, 3], []]) (mv 90 15<|qq 91 (.nck (.t 90))<|fa 92 8 91<|ld 93 1 false 92<|qq 8 (.mov (.c (.one .nils)))<|mv 9 93<|.nil) [8,9] [4,6,7,13,18,42,43,72])<|
.ret)<|
(rg [8,15,76,77,78] [4,6,7,13,18,42,43,72,96,97]<|mv 94 8<|ld 95 2 true 18<|nn 96 (.lit 2 1 [(.sl []),(.sl [])] [(0, (.t 95))])<|sd 97 (.app 2 48 (.t 94) (.t 96))<|mv 8 97<|.nil)))))<|
(rg [8,15,76,77,78] [4,6,7,13,18,42,43,72,96,97]<|bc 98 .add 78 1<|mv 78 98<|.nil)))))))<|
(sr [8,9] [4,6,7,13,18,42,43,72,96,97] (mv 99 8<|mv 8 99<|mc 9 0<|.nil)<|
.ret)))))))))))
theorem pure_vjp_Back : PureT Tryz.prog fi_vjp_Back 100 a_vjp_Back [.tmp 8,.tmp 9] := pureT_of Tryz.call28 Tryz.func28
def a_tensor_Full : ACode := (sr [0,1,4] [4] (al 4 [.nils,.nils]<|mc 5 0<|.nil)<|
(ib [0,1,4,8] [4] (mv 6 0<|cl 7 55 [6]<|qq 8 (.un .not (.t 7))<|.nil) 8 (sr [4,5] [4] (qq 9 (.build [.nils,.nils] [])<|st 2 4 9<|mc 5 20<|.nil)<|
.ret)<|
(sr [4,5] [4,13] (mv 10 0<|cl 11 56 [10]<|mv 12 1<|nn 13 (.lit 1 1 [(.int .i64 0)] [(0, (.t 12))])<|mv 14 0<|cl 15 58 [14]<|cl 16 57 [13,15]<|qq 17 (.build [.nils,.nils] [(0, 1, (.t 11)),(1, 1, (.t 16))])<|st 2 4 17<|mc 5 0<|.nil)<|
.ret)))
theorem pure_tensor_Full : PureT Tryz.prog fi_tensor_Full 18 a_tensor_Full [.cell 2 true 4,.tmp 5] := pureT_of Tryz.call30 Tryz.func30
theorem mut_tensor_Full : MutT Tryz.prog fi_tensor_Full 18 a_tensor_Full [.cell 2 true 4,.tmp 5] := mutT_of Tryz.call30 Tryz.func30
def a_tensor_Check : ACode := (sr [1] [1] (nn 1 (.box 2 (.t 0))<|qq 2 (.mov (.c (.one (.p (.bool false)))))<|.nil)<|
(.seq (.region (some [[], [], [], [], [], [], [], [4, 5, 6], [4, 5, 6], [4, 5, 6], [], [], []]) (fa 3 0 1<|ld 4 1 false 3<|cl 5 55 [4]<|mv 6 5<|.sc 14 6 true 13 none (.op (some 7) (some (6, true)) (.q (.faddr 1 (.t 1)))<|.op (some 8) (some (6, true)) (.q (.load 1 false (.t 7)))<|.op (some 9) (some (6, true)) (.q (.len (.t 8)))<|.op (some 10) (some (6, true)) (.q (.faddr 0 (.t 1)))<|.op (some 11) (some (6, true)) (.q (.load 1 false (.t 10)))<|.op (some 12) (some (6, true)) (.call (.c (.one (.p (.fn fi_shape_Size [] [])))) [(.t 11)])<|.op (some 13) (some (6, true)) (.q (.bin .eql (.t 9) (.t 12)))<|.nil)<|mv 2 14<|.nil) [2] [1])<|
.ret))
theorem pure_tensor_Check : PureT Tryz.prog fi_tensor_Check 15 a_tensor_Check [.tmp 2] := pureT_of Tryz.call31 Tryz.func31
def a_fix_Mul : ACode := (sr [0,1] [] (mc 4 0<|mc 5 0<|.nil)<|
(sr [0,1,6,7] [] (mv 9 0<|cl 10 67 [9]<|mv 11 1<|cl 12 67 [11]<|cl 13 66 [10,12]<|mv 8 13<|xt 14 8 0<|xt 15 8 1<|mv 6 14<|mv 7 15<|.nil)<|
(sr [4,5] [] (mv 16 6<|qq 17 (.bin .shr (.t 16) (.c (.one (.p (.int .u64 32)))))<|mv 18 6<|qq 19 (.bin .shl (.t 18) (.c (.one (.p (.int .u64 32)))))<|mv 20 7<|qq 21 (.bin .shr (.t 20) (.c (.one (.p (.int .u64 32)))))<|bt 22 .or 19 21<|qq 23 (.build [(.p (.int .u64 0)),(.p (.int .u64 0))] [(0, 1, (.t 17)),(1, 1, (.t 22))])<|mv 24 7<|qq 25 (.bin .and (.t 24) (.c (.one (.p (.int .u64 4294967295)))))<|qq 26 (.bin .neq (.t 25) (.c (.one (.p (.int .u64 0)))))<|mv 27 0<|mv 28 1<|cl 29 69 [27,28]<|cl 30 68 [23,26,29]<|xt 31 30 0<|xt 32 30 1<|mv 4 31<|mv 5 32<|.nil)<|
.ret)))
theorem pure_fix_Mul : PureT Tryz.prog fi_fix_Mul 33 a_fix_Mul [.tmp 4,.tmp 5] := pureT_of Tryz.call39 Tryz.func39
def a_infer_Node : ACode := (sr [1,2,4] [2] (nn 2 (.box 3 (.t 0))<|qq 4 (.mov (.c (.one .nils)))<|mc 5 0<|.nil)<|
(sr [1,2,4,5] [2] (mc 5 20<|.nil)<|
(.seq (.region (some [[], [], [0, 1], [0, 1], [0, 1, 2, 3], [0, 1, 2, 3], [0, 1, 2, 3], [0, 1, 2, 3], [0, 1, 2, 3], [0, 1, 2, 3, 4, 5, 6, 7, 8], [0, 1, 2, 3, 4, 5, 6, 7, 8], [0, 1], [], []]) (nn 10 (.lit 1 1 [(.int .i64 0)] [(0, (ic 0))])<|qq 11 (.build [(.p (.int .i64 0)),.nils,.nils] [(0, 1, (ic 3)),(2, 1, (.t 10))])<|fa 12 0 2<|ld 13 1 false 12<|fa 14 0 2<|ld 15 1 false 14<|cl 16 70 [15]<|qq 17 (.mm true (ic 0) (.t 16))<|nn 18 (.mkS 1 8 [(.int .i64 0)] (.t 17) (.t 17))<|fa 19 2 2<|ld 20 1 false 19<|qq 21 (.build [(.p (.int .i64 0)),.nils,.nils] [(0, 1, (.t 13)),(1, 1, (.t 18)),(2, 1, (.t 20))])<|nn 22 (.lit 3 2 [(.int .i64 0),(.sl []),(.sl [])] [(0, (.t 11)),(1, (.t 21))])<|mv 6 22<|.nil) [1,2,4,5,6] [2,10,18,22])<|
(sr [1,2,4,5,6,7] [2,10,18,22] (qq 7 (.mov (.c (.one (.p (.fn fi_infer_Node_1 [] [])))))<|.nil)<|
(ib [1,2,4,5,38] [2,10,18,22] (mv 23 1<|le 24 23<|fa 25 0 2<|ld 26 1 false 25<|cl 27 70 [26]<|bt 28 .neq 24 27<|mv 29 28<|.sc 33 29 false 32 none (.op (some 30) (some (29, false)) (.q (.mov (.t 6)))<|.op (some 31) (some (29, false)) (.call (.c (.one (.p (.fn fi_graph_Check [] [])))) [(.t 30)])<|.op (some 32) (some (29, false)) (.q (.un .not (.t 31)))<|.nil)<|mv 34 33<|.sc 38 34 false 37 none (.op (some 35) (some (34, false)) (.q (.mov (.t 1)))<|.op (some 36) (some (34, false)) (.q (.mov (.t 7)))<|.op (some 37) (some (34, false)) (.call (.c (.one (.p (.fn fi_slices_ContainsFunc_LL_int_int [] [])))) [(.t 35),(.t 36)])<|.nil)<|.nil) 38 .ret<|
(.seq (.seq (.region (some [[], [0], [0], [], [0, 1, 2, 3], [0, 1, 2, 3, 4], [0, 1, 2, 3, 4], [], [], [], [9], [10], []]) (cl 40 73 []<|fa 41 0 2<|ld 42 1 false 41<|qq 43 (.mget (.one (.p .nilF)) false (.t 40) (.t 42))<|mv 44 1<|fa 45 2 2<|ld 46 1 false 45<|.op (some 47) none (.call (.t 43) [(.t 44),(.t 46)])<|mv 39 47<|xt 48 39 0<|xt 49 39 1<|mv 8 48<|mv 9 49<|.nil) [4,5,8,9] [2,10,18,22])<|
(sr [4,5,8,50] [2,10,18,22] (mv 50 9<|.nil)<|
(cd 50 (rg [4,5] [2,10,18,22]<|mv 51 8<|mv 4 51<|mc 5 0<|.nil) .skip)))<|
.ret))))))
theorem pure_infer_Node : PureT Tryz.prog fi_infer_Node 52 a_infer_Node [.tmp 4,.tmp 5] := pureT_of Tryz.call41 Tryz.func41
end Go.AM

