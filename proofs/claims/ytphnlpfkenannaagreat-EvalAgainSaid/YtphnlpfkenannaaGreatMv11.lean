import Derived.Test.YtphnlpfkenannaaGreatMv10
import Derived.Test.YtphnlpfkenannaaGreatProg
import Derived.KernelRfl
set_option linter.unusedVariables false
set_option linter.unusedSimpArgs false
namespace Go.AM
open Go.RowKit (Below)

def initV : Nat → List AV → Env
  | _, [] => []
  | i, d :: ds => (i, d) :: initV (i + 1) ds
theorem initV_lk : ∀ (ds : List AV) (i j : Nat), lk (initV i ds) j = if h : i ≤ j ∧ j - i < ds.length then (ds[j - i]'h.2) else .top
  | [], i, j => by simp [initV, lk]
  | d :: ds, i, j => by
    simp only [initV, lk_put]
    by_cases h : j = i
    · subst h; simp
    · rw [if_neg h, initV_lk ds (i + 1) j]
      by_cases h1 : i + 1 ≤ j
      · have e1 : j - i = (j - (i + 1)) + 1 := by omega
        simp only [e1, List.length_cons, List.getElem_cons_succ]
        by_cases h2 : j - (i + 1) < ds.length
        · rw [dif_pos ⟨h1, h2⟩, dif_pos ⟨by omega, by omega⟩]
        · rw [dif_neg (by omega), dif_neg (by omega)]
      · rw [dif_neg (by omega), dif_neg (by omega)]
def noTupA : List AV → Bool
  | [] => true
  | .tup _ :: _ => false
  | _ :: ds => noTupA ds
def resA : List AV → AV
  | [v] => v
  | vs => .tup vs
def EndsM (rv : List RV) (r : AV) (σ' : Sto) (ex : List AV) : Exit → AS → Prop := fun e s => (e = .normal ∨ e = .ret) ∧ ∃ vs, evRV rv s.env s.σ = some vs ∧ noTupA vs = true ∧ r = resA vs ∧ (∀ p ∈ σ', lo s.σ p.1 = p.2) ∧ s.ex = ex
theorem endsM_ret {rv : List RV} {r : AV} {s : AS} {σ' : Sto} {ex : List AV} {vs : List AV} (h1 : evRV rv s.env s.σ = some vs) (h2 : noTupA vs = true) (h3 : r = resA vs) (h4 : ∀ p ∈ σ', lo s.σ p.1 = p.2) (h5 : s.ex = ex) : EndsM rv r σ' ex .ret s :=
  ⟨.inr rfl, vs, h1, h2, h3, h4, h5⟩
theorem endsM_normal {rv : List RV} {r : AV} {s : AS} {σ' : Sto} {ex : List AV} {vs : List AV} (h1 : evRV rv s.env s.σ = some vs) (h2 : noTupA vs = true) (h3 : r = resA vs) (h4 : ∀ p ∈ σ', lo s.σ p.1 = p.2) (h5 : s.ex = ex) : EndsM rv r σ' ex .normal s :=
  ⟨.inl rfl, vs, h1, h2, h3, h4, h5⟩
theorem lo_of_mem {σ' σ : Sto} (h : ∀ p ∈ σ', lo σ p.1 = p.2) (t : Nat) : lo σ' t = lo σ t ∨ lo σ' t = .none := by
  induction σ' with
  | nil => exact .inr rfl
  | cons p σ' ih =>
    obtain ⟨j, v⟩ := p
    simp only [lo]
    by_cases hj : t = j
    · subst hj; rw [if_pos rfl]; exact .inl (h (t, v) (by simp)).symm
    · rw [if_neg hj]; exact ih fun p hp => h p (by simp [hp])
theorem mutW_of {P : Program} {f : FuncId} {fn : Func} {c : Code} {ac : ACode} {rv : List RV} {vs : List AV} {σ σ' : Sto} {r : AV} {A : Nat → Prop} {τ : Tau} {w : World} {xs : List Value} {ex : List AV} {exs : List Value}
    (hf : P.funcs[f]? = some fn) (hb : fn.body = some c) (hc : compC P c = some ac.erase) (hok : ac.ok fn.ntmps = true)
    (hr : compRV P fn.results.toList = some rv) (hn : vs.length ≤ fn.ntmps)
    (hA : ∀ b, A b → b < w.heap.size) (hxs : All2 (VRel A τ w) vs xs) (hex : All2 (VRel A τ w) ex exs) (hob : ∀ t, ORel (fun _ => True) A τ w t (lo σ t)) (hsp : SepS σ τ)
    (h : T { P := P, w0 := w, A0 := A, nt := fn.ntmps, exv := exs, ow := owOf σ τ } Fence.wide 0 ac (EndsM rv r σ' ex) { env := initV 0 vs, σ := σ, ex := ex }) :
    Calls P f ⟨xs⟩ w (MPost A τ w σ σ' r ex exs) := by
  let G : Ground := { P := P, w0 := w, A0 := A, nt := fn.ntmps, exv := exs, ow := owOf σ τ }
  have hlen := hxs.length
  have hs : SimAt G { env := initV 0 vs, σ := σ, ex := ex } { tmps := (⟨xs⟩ : Array Value) ++ Array.replicate (fn.ntmps - (⟨xs⟩ : Array Value).size) undef, defers := [] } w A τ := by
    refine ⟨⟨rfl, rfl, rfl, Nat.le_refl _, fun _ _ _ => rfl⟩, fun _ hb => hb, fun _ hb => .inl hb, hA, ?_, fun i => ?_, fun t => ?_, hsp, hex, trivial⟩
    · simp [G]; omega
    · simp only [initV_lk]
      split
      · rename_i hi
        have hi2 : i < xs.length := by omega
        have hget : ((⟨xs⟩ : Array Value) ++ Array.replicate (fn.ntmps - (⟨xs⟩ : Array Value).size) undef).getD i undef = xs[i] := by
          rw [Array.getD_eq_getD_getElem?, Array.getElem?_append_left (by simpa using hi2)]
          simp [hi2]
        rw [hget]
        obtain ⟨x, hx, hrel⟩ := hxs.get (i - 0) _ (List.getElem?_eq_getElem hi.2)
        have : xs[i] = x := by
          have := (List.getElem?_eq_some_iff.1 hx).2
          simpa using this
        rw [this]; exact hrel
      · exact .v1 (.top _)
    · exact (hob t).monoM fun b hm hb _ => .inr ⟨t, hm, hb⟩
  refine callsIn_wide.1 (callsIn_of_wp_marks (n := 0) hf hb trivial (wpIn_mono (T.of h c hc hok _ _ ⟨A, _, hs⟩) ?_))
  rintro e a w' ⟨s', ⟨he, ws, h1, h2, rfl, h4, h5⟩, A1, τ1, hs'⟩
  have fin : LeavesInM Fence.wide 0 G.P fn a.tmps (fun e w' => ∃ x A' τ', e = .returned x ∧ Frame A (owOf σ τ) w w' A' ∧ (∀ t, ORel (fun b => w.heap.size ≤ b ∨ owOf σ τ b) A' τ' w' t (lo σ' t)) ∧ SepS σ' τ' ∧
      VRel A' τ' w' (resA ws) x ∧ All2 (VRel A' τ' w') ex exs) a.defers .returning w' := by
    refine leaves (A := A1) (τ := τ1) (s := s') a.defers w' hs' fun w2 hs2 => ?_
    obtain ⟨ys, q1, q2⟩ := run_results (P := P) (a := { tmps := a.tmps, defers := [] }) hr hs2 h1
    have hm : (fn.results.mapM (resV a.tmps)).run P w2 = .ok ⟨ys⟩ w2 := by
      rw [Array.mapM_eq_mapM_toList]
      simp only [Sem.run_map, q1, Result.andThen_ok]
    have hrr : (results fn a.tmps).run P w2 = .ok (if h : ys.length = 1 then ys[0] else .tuple ⟨ys⟩) w2 := by
      rw [results_def]
      simp only [Sem.run_bind, hm, Result.andThen_ok, Sem.run_pure]
      rfl
    have hv : VRel A1 τ1 w2 (resA ws) (if h : ys.length = 1 then ys[0] else .tuple ⟨ys⟩) := by
      have v1 : ∀ {ws : List AV} {ys : List Value}, noTupA ws = true → All2 (VRel A1 τ1 w2) ws ys → All2 (V1 A1 τ1 w2) ws ys := by
        intro ws
        induction ws with
        | nil => intro ys _ h; cases h; exact .nil
        | cons v ws ih =>
          intro ys hn h
          cases h with
          | cons h t =>
            have hn' : noTupA ws = true := by
              revert hn; cases v <;> simp [noTupA]
            cases h with
            | v1 h => exact .cons h (ih hn' t)
            | tup h => simp [noTupA] at hn
      have q3 := v1 h2 q2
      cases q2 with
      | nil => simp [resA]; exact .tup .nil
      | cons g1 gt =>
        cases gt with
        | nil => simpa [resA] using g1
        | cons g2 gt2 =>
          simp only [resA]
          simp
          exact .tup q3
    have hσ := lo_of_mem h4
    refine ⟨_, hrr, _, A1, τ1, rfl, ⟨hs2.below.os, hs2.below.tape, hs2.below.output, hs2.below.size, hs2.below.block, hs2.a0, fun b hb => (hs2.a1 b hb).imp id fun hM => hM.symm, hs2.alt⟩, fun t => ?_, fun t t' b n1 n2 hne hmu hb => ?_, hv, ?_⟩
    · rcases hσ t with e1 | e1
      · rw [e1]; exact hs2.obj t
      · rw [e1]; trivial
    · rcases hσ t with e1 | e1
      · rcases hσ t' with e2 | e2
        · rw [e1] at n1 hmu; rw [e2] at n2
          exact hs2.sep t t' b n1 n2 hne hmu hb
        · exact absurd e2 n2
      · exact absurd e1 n1
    · have := hs2.ex
      rw [h5] at this
      exact this
  rcases he with rfl | rfl <;> exact fin
theorem mutC_of {P : Program} {f : FuncId} {fn : Func} {c : Code} {ac : ACode} {rv : List RV} {vs : List AV} {σ σ' : Sto} {r : AV} {fr : List Nat}
    (henter : ∀ args w, (callFunc f args).run P w = .ok (.enter f args) w) (hf : P.funcs[f]? = some fn) (hb : fn.body = some c) (hc : compC P c = some ac.erase) (hok : ac.ok fn.ntmps = true)
    (hr : compRV P fn.results.toList = some rv) (hn : vs.length ≤ fn.ntmps)
    (h : ∀ (G : Ground) (ex : List AV), G.P = P → G.nt = fn.ntmps → (∀ d ∈ fr, ex.all (fun v => !v.has d) = true) → T G Fence.wide 0 ac (EndsM rv r σ' ex) { env := initV 0 vs, σ := σ, ex := ex }) : MutC P f vs σ r σ' fr :=
  ⟨henter, fun A τ w xs ex exs hA hxs hex hfr hob hsp => mutW_of hf hb hc hok hr hn hA hxs hex hob hsp (h _ ex rfl rfl fun d hd => by
    rw [List.all_eq_true]; intro v hv; simp [hfr d hd v hv])⟩
theorem T_nils {G : Ground} {F : Fence} {n : Nat} {Q : Exit → AS → Prop} {s : AS} {c : ACode} (i d m : Nat) (hi : lk s.env i = .one .nils) (hd : s.nr d = true) (hn : lo s.σ d = .none)
    (h : T G F n c Q { s with env := (i, .one (.msl d 0 m 0 none)) :: s.env, σ := (d, .arr true m []) :: s.σ }) : T G F n c Q s := by
  refine ⟨fun code hc hok a w hs => ?_⟩
  obtain ⟨A, τ, hs⟩ := hs
  have h1 := hs.newNone (AS.nr_Nr hd) hn true m
  refine h.of code hc hok a w ⟨A, _, h1.below, h1.a0, h1.a1, h1.alt, h1.size, fun j => ?_, h1.obj, h1.sep, h1.ex, h1.marks⟩
  rw [lk_put]
  by_cases hj : j = i
  · subst hj
    rw [if_pos rfl]
    have h2 := one_inv (hi ▸ hs.env j : VRel A τ w (.one .nils) _)
    generalize a.tmps.getD j undef = z at h2
    cases h2 with
    | c0 h2 => cases h2 with
      | nils => exact .v1 (.one (.c0 (.mslN d 0 m none none (if_pos rfl) (fun n hn => by cases hn))))
  · rw [if_neg hj]; exact h1.env j
theorem scr_ex {ex : List AV} {d : Nat} (h : ex.all (fun v => !v.has d) = true) : ex.map (AV.scr d) = ex := by
  induction ex with
  | nil => rfl
  | cons v ex ih =>
    simp only [List.all_cons, Bool.and_eq_true, Bool.not_eq_true'] at h
    rw [List.map_cons, AV.scr_id h.1, ih (by simpa using h.2)]
theorem toD_list {n t k len : Nat} {cap : Option Nat} {σ : Sto} {m : Bool} {rows : List (List PV)} (h2 : lo σ t = .arr m k rows) (hl : len = rows.length) :
    toP (n + 1) (.msl t 0 k len cap) σ = some (.sl rows, if m then (t, .arr false k rows) :: σ else σ) := by
  subst hl
  simp only [toP, h2]
  simp
theorem ends_list {rv : List RV} {s : AS} {t k len : Nat} {cap : Option Nat} {m : Bool} {rows : List (List PV)} (h1 : evRV rv s.env s.σ = some [.one (.msl t 0 k len cap)]) (h2 : lo s.σ t = .arr m k rows) (hl : len = rows.length) :
    Ends rv (.one (.sl rows)) .ret s :=
  ends_ret (ds := [.one (.sl rows)]) h1 (by simp only [toDs, toD, toD_list (n := 5) h2 hl]; rfl) rfl rfl
theorem ends_list2 {rv : List RV} {s : AS} {t k len : Nat} {cap : Option Nat} {m : Bool} {rows : List (List PV)} {v : PV} (h1 : evRV rv s.env s.σ = some [.one (.msl t 0 k len cap), .one (.p v)]) (h2 : lo s.σ t = .arr m k rows) (hl : len = rows.length) :
    Ends rv (.tup [.one (.sl rows), .one v]) .ret s :=
  ends_ret (ds := [.one (.sl rows), .one v]) h1 (by simp only [toDs, toD, toD_list (n := 5) h2 hl]; rfl) rfl rfl
theorem Weak.freeze {G : Ground} {s : AS} {i : Nat} {c : AC} {v : PV} {σ' : Sto} (hi : lk s.env i = .one c) (h : toP 6 c s.σ = some (v, σ')) : Weak G s { s with env := (i, .one (.p v)) :: s.env, σ := σ' } := by
  rintro a w ⟨A, τ, hs⟩
  obtain ⟨A', i1, h1, k⟩ := toP_sound 6 c s σ' v A hs h
  refine ⟨A', τ, h1.below, h1.a0, h1.a1, h1.alt, h1.size, fun j => ?_, h1.obj, h1.sep, h1.ex, h1.marks⟩
  rw [lk_put]
  by_cases hj : j = i
  · subst hj
    rw [if_pos rfl]
    have h2 := one_inv (hi ▸ hs.env j : VRel A τ w (.one c) _)
    exact .v1 (.one (.c0 (.p _ _ (k _ h2))))
  · rw [if_neg hj]; exact h1.env j
end Go.AM

namespace Go.AM
open Go
section
variable (d : Nat)
abbrev mv (s : Nat) (r : TOps) : TOps := .op (some d) none (.q (.mov (.t s))) r
abbrev ic (n : Int) : Opd := .c (.one (.p (.int .i64 n)))
abbrev qq (q : QOp) (r : TOps) : TOps := .op (some d) none (.q q) r
abbrev nn (q : NOp) (r : TOps) : TOps := .op (some d) none (.n q) r
abbrev ss (q : SOp) (r : TOps) : TOps := .op none none (.s q) r
abbrev sd (q : SOp) (r : TOps) : TOps := .op (some d) none (.s q) r
end
section
variable (d : Nat)
abbrev mc (n : Int) (r : TOps) : TOps := .op (some d) none (.q (.mov (.c (.one (.p (.int .i64 n)))))) r
abbrev xt (s n : Nat) (r : TOps) : TOps := .op (some d) none (.q (.extr (.t s) n)) r
abbrev bt (o : BinOp) (x y : Nat) (r : TOps) : TOps := .op (some d) none (.q (.bin o (.t x) (.t y))) r
abbrev bc (o : BinOp) (x : Nat) (n : Int) (r : TOps) : TOps := .op (some d) none (.q (.bin o (.t x) (.c (.one (.p (.int .i64 n)))))) r
abbrev ld (n : Nat) (g : Bool) (x : Nat) (r : TOps) : TOps := .op (some d) none (.q (.load n g (.t x))) r
abbrev fa (n x : Nat) (r : TOps) : TOps := .op (some d) none (.q (.faddr n (.t x))) r
abbrev ia (n x y : Nat) (r : TOps) : TOps := .op (some d) none (.q (.iaddr n (.t x) (.t y))) r
abbrev le (x : Nat) (r : TOps) : TOps := .op (some d) none (.q (.len (.t x))) r
abbrev al (z : List AC) (r : TOps) : TOps := .op (some d) none (.n (.alloc z)) r
abbrev cl (f : FuncId) (xs : List Nat) (r : TOps) : TOps := .op (some d) none (.call (.c (.one (.p (.fn f [] [])))) (xs.map .t)) r
end
abbrev st (n a x : Nat) (r : TOps) : TOps := .op none none (.s (.store n (.t a) (.t x))) r
abbrev rg (k i : List Nat) (t : TOps) : ACode := .region none t k i
abbrev sr (k i : List Nat) (t : TOps) (b : ACode) : ACode := .seq (.region none t k i) b
abbrev cd (c : Nat) (a b : ACode) : ACode := .cond (.t c) a b
abbrev ib (k i : List Nat) (t : TOps) (c : Nat) (a b : ACode) : ACode := .seq (.seq (.region none t k i) (.cond (.t c) a .skip)) b
def PureT (P : Program) (f : FuncId) (nt : Nat) (ac : ACode) (rv : List RV) : Prop :=
  ∀ {ds : List DV} {r : DV}, ds.length ≤ nt → (∀ (G : Ground), G.P = P → G.nt = nt → T G Fence.wide 0 ac (Ends rv r) { env := initE 0 ds, σ := [] }) → PureC P f ds r
def MutT (P : Program) (f : FuncId) (nt : Nat) (ac : ACode) (rv : List RV) : Prop :=
  ∀ {vs : List AV} {σ σ' : Sto} {r : AV} {fr : List Nat}, vs.length ≤ nt → (∀ (G : Ground) (ex : List AV), G.P = P → G.nt = nt → (∀ d ∈ fr, ex.all (fun v => !v.has d) = true) → T G Fence.wide 0 ac (EndsM rv r σ' ex) { env := initV 0 vs, σ := σ, ex := ex }) → MutC P f vs σ r σ' fr
theorem body_is {fn : Func} (h : fn.body.isSome = true) : fn.body = some (fn.body.getD .skip) := by
  cases e : fn.body with
  | none => rw [e] at h; cases h
  | some c => rfl
section
variable {P : Program} {f : FuncId} {fn : Func} {nt : Nat} {ac : ACode} {rv : List RV}
theorem pureT_of (henter : ∀ args w, (callFunc f args).run P w = .ok (.enter f args) w) (hf : P.funcs[f]? = some fn) (hb : fn.body.isSome = true := by kernel_rfl) (hc : compC P (fn.body.getD .skip) = some ac.erase := by kernel_rfl)
    (hok : ac.ok nt = true := by kernel_rfl) (hr : compRV P fn.results.toList = some rv := by kernel_rfl) (hnt : fn.ntmps = nt := by kernel_rfl) : PureT P f nt ac rv := by
  subst hnt
  exact fun hn h => pureC_of henter hf (body_is hb) hc hok hr hn h
theorem mutT_of (henter : ∀ args w, (callFunc f args).run P w = .ok (.enter f args) w) (hf : P.funcs[f]? = some fn) (hb : fn.body.isSome = true := by kernel_rfl) (hc : compC P (fn.body.getD .skip) = some ac.erase := by kernel_rfl)
    (hok : ac.ok nt = true := by kernel_rfl) (hr : compRV P fn.results.toList = some rv := by kernel_rfl) (hnt : fn.ntmps = nt := by kernel_rfl) : MutT P f nt ac rv := by
  subst hnt
  exact fun hn h => mutC_of henter hf (body_is hb) hc hok hr hn h
end
end Go.AM

namespace Go.AM
open Go Go.Proofs
set_option maxRecDepth 100000
abbrev fi_fullerlaw13_EvalCuts : Nat := 3
abbrev fi_fullerlaw13_EvalOther : Nat := 5
abbrev fi_fullerlaw13_awake : Nat := 15
abbrev fi_fullerref10_Few : Nat := 16
abbrev fi_fullerlaw13_few : Nat := 17
abbrev fi_eval_All : Nat := 18
abbrev fi_infer_Shapes : Nat := 19
abbrev fi_fullerref09_Same : Nat := 20
abbrev fi_fullerref02_Same : Nat := 21
abbrev fi_eval_Node : Nat := 22
abbrev fi_fullerref03_Same : Nat := 23
abbrev fi_graph_Check : Nat := 24
abbrev fi_fullerref09_Few : Nat := 26
abbrev fi_fullerref03_Few : Nat := 27
abbrev fi_tensor_Full : Nat := 30
abbrev fi_tensor_Check : Nat := 31
abbrev fi_fix_Mul : Nat := 39
abbrev fi_infer_Node : Nat := 41
abbrev fi_eval_given : Nat := 42
abbrev fi_eval_rules : Nat := 43
abbrev fi_graph_kinds : Nat := 44
abbrev fi_graph_Check_1 : Nat := 45
abbrev fi_graph_well : Nat := 46
abbrev fi_slices_ContainsFunc_int_int : Nat := 47
abbrev fi_graph_name : Nat := 48
abbrev fi_slices_Equal_int_int : Nat := 49
abbrev fi_shape_Check : Nat := 55
abbrev fi_slices_Clone_int_int : Nat := 56
abbrev fi_slices_Repeat_int_int : Nat := 57
abbrev fi_shape_Size : Nat := 58
abbrev fi_math_bits_Mul64 : Nat := 66
abbrev fi_fix_size : Nat := 67
abbrev fi_fix_wide_signed : Nat := 68
abbrev fi_fix_apart : Nat := 69
abbrev fi_graph_Arity : Nat := 70
abbrev fi_infer_Node_1 : Nat := 71
abbrev fi_slices_ContainsFunc_LL_int_int : Nat := 72
abbrev fi_infer_rules : Nat := 73
abbrev fi_eval_rules_1 : Nat := 74
abbrev fi_eval_of_api_Tensor : Nat := 75
abbrev fi_matmul_Mul : Nat := 76
abbrev fi_eval_rules_2 : Nat := 77
abbrev fi_move_Reshape : Nat := 78
abbrev fi_eval_rules_3 : Nat := 79
abbrev fi_move_Turn : Nat := 80
abbrev fi_eval_rules_4 : Nat := 81
abbrev fi_move_Slice : Nat := 82
abbrev fi_eval_rules_5 : Nat := 83
abbrev fi_move_Join : Nat := 84
abbrev fi_eval_side : Nat := 85
abbrev fi_reduce_Sum : Nat := 86
abbrev fi_reduce_Mean : Nat := 87
abbrev fi_reduce_Max : Nat := 88
abbrev fi_eval_two : Nat := 89
abbrev fi_eval_one : Nat := 90
abbrev fi_slices_IndexFunc_int_int : Nat := 91
abbrev fi_math_bits_Mul : Nat := 141
abbrev fi_elem_Two : Nat := 144
abbrev fi_slices_Reverse_int_int : Nat := 145
abbrev fi_fix_wide_signed_1 : Nat := 146
abbrev fi_slices_IndexFunc_LL_int_int : Nat := 148
abbrev fi_infer_rules_1 : Nat := 149
abbrev fi_infer_rules_2 : Nat := 150
abbrev fi_infer_rules_3 : Nat := 151
abbrev fi_infer_rules_4 : Nat := 152
abbrev fi_infer_rules_5 : Nat := 153
abbrev fi_infer_rules_6 : Nat := 154
abbrev fi_infer_both : Nat := 155
abbrev fi_infer_first : Nat := 156
abbrev fi_infer_sided : Nat := 157
abbrev fi_infer_part : Nat := 158
abbrev fi_infer_behind : Nat := 159
abbrev fi_infer_together : Nat := 160
abbrev fi_matmul_may : Nat := 161
abbrev fi_matmul_Mul_1 : Nat := 162
abbrev fi_matmul_Mul_2 : Nat := 163
abbrev fi_fix_Add : Nat := 164
abbrev fi_move_made : Nat := 165
abbrev fi_move_turned_int : Nat := 166
abbrev fi_move_Turn_1 : Nat := 167
abbrev fi_tensor_At : Nat := 168
abbrev fi_move_sided : Nat := 169
abbrev fi_move_Slice_1 : Nat := 170
abbrev fi_move_shifted : Nat := 171
abbrev fi_move_Join_1 : Nat := 172
abbrev fi_eval_side_1 : Nat := 173
abbrev fi_reduce_together : Nat := 174
abbrev fi_reduce_done : Nat := 175
abbrev fi_reduce_none : Nat := 176
abbrev fi_reduce_share : Nat := 177
abbrev fi_reduce_most : Nat := 178
abbrev fi_reduce_same : Nat := 179
abbrev fi_eval_two_1 : Nat := 180
abbrev fi_eval_one_1 : Nat := 181
abbrev fi_elem_One : Nat := 182
abbrev fi_math_bits_Len64 : Nat := 227
abbrev fi_elem_kinds : Nat := 228
abbrev fi_shape_Join : Nat := 229
abbrev fi_tensor_Spread : Nat := 230
abbrev fi_elem_each : Nat := 231
abbrev fi_elem_Two_1 : Nat := 232
abbrev fi_infer_sided_1 : Nat := 233
abbrev fi_slices_Delete_int_int : Nat := 234
abbrev fi_fix_told : Nat := 235
abbrev fi_move_indices : Nat := 236
abbrev fi_shape_Place : Nat := 237
abbrev fi_reduce_lanes : Nat := 238
abbrev fi_reduce_lane_at : Nat := 239
abbrev fi_fix_Div : Nat := 240
abbrev fi_elem_One_1 : Nat := 241
abbrev fi_shape_Fits : Nat := 242
abbrev fi_tensor_from : Nat := 243
abbrev fi_fix_shifted : Nat := 244
abbrev fi_elem_kinds_1 : Nat := 264
abbrev fi_fix_Sub : Nat := 265
abbrev fi_fix_Neg : Nat := 266
abbrev fi_fix_Pow : Nat := 267
abbrev fi_fix_Sqrt : Nat := 268
abbrev fi_shape_side : Nat := 269
abbrev fi_move_indices_1 : Nat := 270
abbrev fi_shape_Index : Nat := 271
abbrev fi_math_bits_Div64 : Nat := 272
abbrev fi_tensor_from_1 : Nat := 273
abbrev fi_math_bits_LeadingZeros64 : Nat := 282
end Go.AM

namespace Go.AM
open Go Go.Proofs
set_option maxRecDepth 100000
def a_fullerlaw13_EvalCuts : ACode := (sr [0,2,3,5] [5] (nn 5 (.box 2 (.t 1))<|qq 8 (.mov (.c (.one (.p (.bool false)))))<|.nil)<|
(sr [0,2,3,5,9] [5] (cl 25 15 []<|mv 9 25<|.nil)<|
(ib [0,2,3,5,9,34] [5] (mv 26 0<|cl 27 16 [26]<|qq 28 (.un .not (.t 27))<|mv 29 28<|.sc 34 29 false 33 none (.op (some 30) (some (29, false)) (.q (.load 2 true (.t 5)))<|.op (some 31) (some (29, false)) (.q (.mov (.t 2)))<|.op (some 32) (some (29, false)) (.call (.c (.one (.p (.fn fi_fullerlaw13_few [] [])))) [(.t 30),(.t 31)])<|.op (some 33) (some (29, false)) (.q (.un .not (.t 32)))<|.nil)<|.nil) 34 (sr [8] [5] (mv 35 9<|mv 8 35<|.nil)<|
.ret)<|
(sr [0,2,3,5,9,10,11,12] [5] (mv 37 0<|ld 38 2 true 5<|mv 39 2<|cl 40 18 [37,38,39]<|mv 36 40<|xt 41 36 0<|xt 42 36 1<|xt 43 36 2<|mv 10 41<|mv 11 42<|mv 12 43<|.nil)<|
(ib [0,2,3,5,9,10,11,45] [5] (mv 44 12<|bc 45 .neq 44 0<|.nil) 45 (sr [8] [5] (mv 46 9<|mv 47 46<|.sc 51 47 true 50 none (.op (some 48) (some (47, true)) (.q (.mov (.t 10)))<|.op (some 49) (some (47, true)) (.q (.len (.t 48)))<|.op (some 50) (some (47, true)) (.q (.bin .eql (.t 49) (ic 0)))<|.nil)<|mv 52 51<|.sc 57 52 true 56 none (.op (some 53) (some (52, true)) (.q (.mov (.t 11)))<|.op (some 54) (some (52, true)) (.q (.mov (.t 0)))<|.op (some 55) (some (52, true)) (.q (.len (.t 54)))<|.op (some 56) (some (52, true)) (.q (.bin .lss (.t 53) (.t 55)))<|.nil)<|mv 8 57<|.nil)<|
.ret)<|
(sr [0,2,3,5,9,10,11,13,15] [5] (mv 59 0<|cl 60 19 [59]<|mv 58 60<|xt 61 58 0<|xt 62 58 1<|xt 63 58 2<|mv 13 61<|mv 14 62<|mv 15 63<|.nil)<|
(sr [0,2,5,9,10,11,13,15,16] [5] (mv 64 3<|qq 65 (.conv .i64 (.t 64))<|mv 66 0<|le 67 66<|qq 68 (.mm true (ic 1) (.t 67))<|bt 69 .rem 65 68<|qq 70 (.bin .add (ic 1) (.t 69))<|mv 16 70<|.nil)<|
(ib [0,2,5,9,10,11,13,16,92] [5] (mv 71 15<|bc 72 .neq 71 0<|mv 73 72<|.sc 79 73 false 78 none (.op (some 74) (some (73, false)) (.q (.mov (.t 13)))<|.op (some 75) (some (73, false)) (.q (.len (.t 74)))<|.op (some 76) (some (73, false)) (.q (.mov (.t 0)))<|.op (some 77) (some (73, false)) (.q (.len (.t 76)))<|.op (some 78) (some (73, false)) (.q (.bin .neq (.t 75) (.t 77)))<|.nil)<|mv 80 79<|.sc 86 80 false 85 none (.op (some 81) (some (80, false)) (.q (.mov (.t 10)))<|.op (some 82) (some (80, false)) (.q (.len (.t 81)))<|.op (some 83) (some (80, false)) (.q (.mov (.t 0)))<|.op (some 84) (some (80, false)) (.q (.len (.t 83)))<|.op (some 85) (some (80, false)) (.q (.bin .neq (.t 82) (.t 84)))<|.nil)<|mv 87 86<|.sc 92 87 false 91 none (.op (some 88) (some (87, false)) (.q (.mov (.t 16)))<|.op (some 89) (some (87, false)) (.q (.mov (.t 0)))<|.op (some 90) (some (87, false)) (.q (.len (.t 89)))<|.op (some 91) (some (87, false)) (.q (.bin .gtr (.t 88) (.t 90)))<|.nil)<|.nil) 92 (sr [8] [5] (qq 8 (.mov (.c (.one (.p (.bool false)))))<|.nil)<|
.ret)<|
(.seq (.region (some [[], [0], [], [0, 1, 2], [0, 1, 2, 3], [], [], [], [7], [7, 8], [8, 9], [9], []]) (mv 94 0<|mv 95 16<|qq 96 (.slc 3 (.t 94) none (some (.t 95)) none)<|ld 97 2 true 5<|mv 98 2<|cl 99 18 [96,97,98]<|mv 93 99<|xt 100 93 0<|xt 101 93 1<|xt 102 93 2<|mv 17 100<|mv 18 101<|mv 19 102<|.nil) [0,2,5,9,10,11,13,16,17,19] [5])<|
(ib [0,2,5,9,10,11,13,16,118] [5] (mv 103 19<|bc 104 .neq 103 0<|mv 105 104<|.sc 110 105 false 109 none (.op (some 106) (some (105, false)) (.q (.mov (.t 17)))<|.op (some 107) (some (105, false)) (.q (.len (.t 106)))<|.op (some 108) (some (105, false)) (.q (.mov (.t 16)))<|.op (some 109) (some (105, false)) (.q (.bin .neq (.t 107) (.t 108)))<|.nil)<|mv 111 110<|.sc 118 111 false 117 none (.op (some 112) (some (111, false)) (.q (.mov (.t 17)))<|.op (some 113) (some (111, false)) (.q (.mov (.t 10)))<|.op (some 114) (some (111, false)) (.q (.mov (.t 16)))<|.op (some 115) (some (111, false)) (.q (.slc 2 (.t 113) none (some (.t 114)) none))<|.op (some 116) (some (111, false)) (.call (.c (.one (.p (.fn fi_fullerref09_Same [] [])))) [(.t 112),(.t 115)])<|.op (some 117) (some (111, false)) (.q (.un .not (.t 116)))<|.nil)<|.nil) 118 (sr [8] [5] (qq 8 (.mov (.c (.one (.p (.bool false)))))<|.nil)<|
.ret)<|
(.seq (sr [0,2,5,9,10,11,13,16,20] [5] (mc 20 0<|.nil)<|
(.block 0 (.loop (.seq (sr [0,2,5,9,10,11,13,16,20,122] [5] (mv 119 20<|mv 120 0<|le 121 120<|bt 122 .lss 119 121<|.nil)<|
(cd 122 .skip (.exit 0)))<|
(.seq (.block 1 (.seq (.region (some [[], [0], [], [], [], [0, 1, 2, 3, 4], [0, 1, 2, 3, 4, 5], [0, 1, 2, 3, 4], [0, 1, 2, 3, 4], [], []]) (mv 125 10<|mv 126 20<|ia 127 2 125 126<|fa 128 0 127<|ld 129 1 false 128<|mv 130 13<|mv 131 20<|ia 132 1 130 131<|ld 133 1 false 132<|cl 134 21 [129,133]<|qq 135 (.un .not (.t 134))<|.nil) [0,2,5,9,10,11,13,16,20,135] [5])<|
(cd 135 (sr [8] [5] (qq 8 (.mov (.c (.one (.p (.bool false)))))<|.nil)<|
.ret) .skip)))<|
(rg [0,2,5,9,10,11,13,16,20] [5]<|mv 123 20<|bc 124 .add 123 1<|mv 20 124<|.nil))))))<|
(sr [0,2,5,9,10,11,16,21] [5] (qq 21 (.mov (.c (.one .nils)))<|.nil)<|
(.seq (sr [0,2,5,9,10,11,16,21,22] [5] (mc 22 0<|.nil)<|
(.block 2 (.loop (.seq (sr [0,2,5,9,10,11,16,21,22,144] [5] (mv 136 22<|mv 137 0<|mv 138 16<|bc 139 .sub 138 1<|ia 140 3 137 139<|fa 141 1 140<|ld 142 1 false 141<|le 143 142<|bt 144 .lss 136 143<|.nil)<|
(cd 144 .skip (.exit 2)))<|
(.seq (.block 3 (rg [0,2,5,9,10,11,16,21,22] [5,160,161]<|mv 147 21<|mv 148 10<|mv 149 0<|mv 150 16<|bc 151 .sub 150 1<|ia 152 3 149 151<|fa 153 1 152<|ld 154 1 false 153<|mv 155 22<|ia 156 1 154 155<|ld 157 1 false 156<|ia 158 2 148 157<|ld 159 2 true 158<|nn 160 (.lit 2 1 [(.sl []),(.sl [])] [(0, (.t 159))])<|sd 161 (.app 2 48 (.t 147) (.t 160))<|mv 21 161<|.nil))<|
(rg [0,2,5,9,10,11,16,21,22] [5,160,161]<|mv 145 22<|bc 146 .add 145 1<|mv 22 146<|.nil))))))<|
(.seq (.region (some [[], [0], [0], [], [], [0, 1, 2, 3, 4], [0, 1, 2, 3, 4, 5], [0, 1, 2, 3, 4, 5, 6], [], [], [], [10], [0, 1, 2, 3, 4, 5, 6, 7, 8, 9, 10, 11], [11], []]) (mv 163 0<|mv 164 16<|bc 165 .sub 164 1<|ia 166 3 163 165<|ld 167 3 true 166<|mv 168 21<|ld 169 2 true 5<|mv 170 2<|cl 171 22 [167,168,169,170]<|mv 162 171<|xt 172 162 0<|xt 173 162 1<|al 23 [.nils,.nils]<|st 2 23 172<|mv 24 173<|.nil) [9,10,11,16,23,24] [5,23,160,161])<|
(.seq (.region (some [[], [], [], [], [], [], [], [6], [6, 7], [6, 7], [6], [6], [], [], [], [], [], [], []]) (mv 174 9<|mv 175 174<|.sc 178 175 true 177 none (.op (some 176) (some (175, true)) (.q (.mov (.t 24)))<|.op (some 177) (some (175, true)) (.q (.bin .eql (.t 176) (ic 0)))<|.nil)<|mv 179 178<|.sc 187 179 true 186 none (.op (some 180) (some (179, true)) (.q (.load 2 true (.t 23)))<|.op (some 181) (some (179, true)) (.q (.mov (.t 10)))<|.op (some 182) (some (179, true)) (.q (.mov (.t 16)))<|.op (some 183) (some (179, true)) (.q (.bin .sub (.t 182) (ic 1)))<|.op (some 184) (some (179, true)) (.q (.iaddr 2 (.t 181) (.t 183)))<|.op (some 185) (some (179, true)) (.q (.load 2 true (.t 184)))<|.op (some 186) (some (179, true)) (.call (.c (.one (.p (.fn fi_fullerref03_Same [] [])))) [(.t 180),(.t 185)])<|.nil)<|mv 188 187<|.sc 191 188 true 190 none (.op (some 189) (some (188, true)) (.q (.mov (.t 11)))<|.op (some 190) (some (188, true)) (.q (.bin .eql (.t 189) (ic (-1))))<|.nil)<|mv 8 191<|.nil) [8] [5,23,160,161])<|
.ret)))))))))))))))
theorem pure_fullerlaw13_EvalCuts : PureT Tryz.prog fi_fullerlaw13_EvalCuts 192 a_fullerlaw13_EvalCuts [.tmp 8] := pureT_of Tryz.call3 Tryz.func3
def a_fullerlaw13_EvalOther : ACode := (sr [0,2,4] [4] (nn 4 (.box 2 (.t 1))<|qq 6 (.mov (.c (.one (.p (.bool false)))))<|.nil)<|
(sr [0,2,4,7] [4] (cl 17 15 []<|mv 7 17<|.nil)<|
(ib [0,2,4,7,36] [4] (mv 18 0<|cl 19 16 [18]<|qq 20 (.un .not (.t 19))<|mv 21 20<|.sc 26 21 false 25 none (.op (some 22) (some (21, false)) (.q (.load 2 true (.t 4)))<|.op (some 23) (some (21, false)) (.q (.mov (.t 2)))<|.op (some 24) (some (21, false)) (.call (.c (.one (.p (.fn fi_fullerlaw13_few [] [])))) [(.t 22),(.t 23)])<|.op (some 25) (some (21, false)) (.q (.un .not (.t 24)))<|.nil)<|mv 27 26<|.sc 31 27 false 30 none (.op (some 28) (some (27, false)) (.q (.mov (.t 0)))<|.op (some 29) (some (27, false)) (.q (.len (.t 28)))<|.op (some 30) (some (27, false)) (.q (.bin .gtr (.t 29) (ic 20)))<|.nil)<|mv 32 31<|.sc 36 32 false 35 none (.op (some 33) (some (32, false)) (.q (.mov (.t 0)))<|.op (some 34) (some (32, false)) (.q (.len (.t 33)))<|.op (some 35) (some (32, false)) (.q (.bin .eql (.t 34) (ic 0)))<|.nil)<|.nil) 36 (sr [6] [4] (mv 37 7<|mv 6 37<|.nil)<|
.ret)<|
(sr [0,2,4,7,8] [4] (mv 38 0<|le 39 38<|mv 8 39<|.nil)<|
(sr [0,2,4,7,8,9] [4,40,42,47,51,55,57,58] (nn 40 (.lit 3 0 [(.int .i64 0),(.sl []),(.sl [])] [])<|mv 41 0<|sd 42 (.app 3 56 (.t 40) (.t 41))<|mv 43 8<|bc 44 .sub 43 1<|mv 45 8<|bc 46 .sub 45 1<|nn 47 (.lit 1 2 [(.int .i64 0)] [(0, (.t 44)),(1, (.t 46))])<|qq 48 (.build [(.p (.int .i64 0)),.nils,.nils] [(0, 1, (ic 11)),(1, 1, (.t 47))])<|mv 49 8<|bc 50 .sub 49 1<|nn 51 (.lit 1 1 [(.int .i64 0)] [(0, (.t 50))])<|qq 52 (.build [(.p (.int .i64 0)),.nils,.nils] [(0, 1, (ic 20)),(1, 1, (.t 51))])<|mv 53 8<|bc 54 .add 53 1<|nn 55 (.lit 1 1 [(.int .i64 0)] [(0, (.t 54))])<|qq 56 (.build [(.p (.int .i64 0)),.nils,.nils] [(0, 1, (ic 20)),(1, 1, (.t 55))])<|nn 57 (.lit 3 3 [(.int .i64 0),(.sl []),(.sl [])] [(0, (.t 48)),(1, (.t 52)),(2, (.t 56))])<|sd 58 (.app 3 56 (.t 42) (.t 57))<|mv 9 58<|.nil)<|
(sr [2,4,7,8,9,10,12] [4,40,42,47,51,55,57,58] (mv 60 0<|ld 61 2 true 4<|mv 62 2<|cl 63 18 [60,61,62]<|mv 59 63<|xt 64 59 0<|xt 65 59 1<|xt 66 59 2<|mv 10 64<|mv 11 65<|mv 12 66<|.nil)<|
(sr [7,8,10,12,13,15] [4,40,42,47,51,55,57,58] (mv 68 9<|ld 69 2 true 4<|mv 70 2<|cl 71 18 [68,69,70]<|mv 67 71<|xt 72 67 0<|xt 73 67 1<|xt 74 67 2<|mv 13 72<|mv 14 73<|mv 15 74<|.nil)<|
(ib [7,8,10,12,13,15,80] [4,40,42,47,51,55,57,58] (mv 75 12<|bc 76 .neq 75 0<|mv 77 76<|.sc 80 77 false 79 none (.op (some 78) (some (77, false)) (.q (.mov (.t 15)))<|.op (some 79) (some (77, false)) (.q (.bin .neq (.t 78) (ic 0)))<|.nil)<|.nil) 80 (sr [6] [4,40,42,47,51,55,57,58] (mv 81 7<|mv 82 81<|.sc 90 82 true 89 none (.op (some 83) (some (82, true)) (.q (.mov (.t 12)))<|.op (some 84) (some (82, true)) (.q (.bin .eql (.t 83) (ic 0)))<|.op (some 85) (some (82, true)) (.q (.mov (.t 84)))<|.sc 89 85 false 88 (some (82, true)) (.op (some 86) (some (85, false)) (.q (.mov (.t 15)))<|.op (some 87) (some (85, false)) (.q (.mov (.t 12)))<|.op (some 88) (some (85, false)) (.q (.bin .eql (.t 86) (.t 87)))<|.nil)<|.nil)<|mv 6 90<|.nil)<|
.ret)<|
(ib [7,8,10,13,101] [4,40,42,47,51,55,57,58] (mv 91 10<|le 92 91<|mv 93 8<|bt 94 .neq 92 93<|mv 95 94<|.sc 101 95 false 100 none (.op (some 96) (some (95, false)) (.q (.mov (.t 13)))<|.op (some 97) (some (95, false)) (.q (.len (.t 96)))<|.op (some 98) (some (95, false)) (.q (.mov (.t 8)))<|.op (some 99) (some (95, false)) (.q (.bin .add (.t 98) (ic 3)))<|.op (some 100) (some (95, false)) (.q (.bin .neq (.t 97) (.t 99)))<|.nil)<|.nil) 101 (sr [6] [4,40,42,47,51,55,57,58] (qq 6 (.mov (.c (.one (.p (.bool false)))))<|.nil)<|
.ret)<|
(.seq (sr [7,8,10,13,16] [4,40,42,47,51,55,57,58] (mc 16 0<|.nil)<|
(.block 0 (.loop (.seq (sr [7,8,10,13,16,109] [4,40,42,47,51,55,57,58] (mv 102 16<|mv 103 13<|mv 104 8<|ia 105 2 103 104<|fa 106 1 105<|ld 107 1 false 106<|le 108 107<|bt 109 .lss 102 108<|.nil)<|
(cd 109 .skip (.exit 0)))<|
(.seq (.block 1 (sr [7,8,10,13,16,120] [4,40,42,47,51,55,57,58] (mv 112 13<|mv 113 8<|ia 114 2 112 113<|fa 115 1 114<|ld 116 1 false 115<|mv 117 16<|ia 118 1 116 117<|ld 119 1 false 118<|bc 120 .neq 119 0<|.nil)<|
(cd 120 (sr [6] [4,40,42,47,51,55,57,58] (qq 6 (.mov (.c (.one (.p (.bool false)))))<|.nil)<|
.ret) .skip)))<|
(rg [7,8,10,13,16] [4,40,42,47,51,55,57,58]<|mv 110 16<|bc 111 .add 110 1<|mv 16 111<|.nil))))))<|
(.seq (.region (some ([] :: [] :: [] :: [2] :: [2] :: [] :: [] :: [2, 3, 4, 5, 6] :: [2, 3, 4, 5, 6, 7] :: [2, 3, 4, 5, 6, 7] :: [2, 3, 4, 5, 6] :: [2, 3, 4, 5, 6] :: [] :: [] :: [] :: [] :: [15] :: [] :: [] :: [] :: [] :: [15, 16, 17, 18, 19, 20] :: [15, 16, 17, 18, 19, 20, 21] :: [15, 16, 17, 18, 19, 20, 21] :: [15, 16, 17, 18, 19, 20] :: [15, 16, 17, 18, 19, 20] :: [15, 16, 17, 18, 19, 20] :: [15, 16, 17, 18, 19, 20] :: [] :: [] :: [] :: [])) (mv 121 7<|mv 122 121<|.sc 134 122 true 133 none (.op (some 123) (some (122, true)) (.q (.mov (.t 13)))<|.op (some 124) (some (122, true)) (.q (.mov (.t 8)))<|.op (some 125) (some (122, true)) (.q (.bin .add (.t 124) (ic 2)))<|.op (some 126) (some (122, true)) (.q (.iaddr 2 (.t 123) (.t 125)))<|.op (some 127) (some (122, true)) (.q (.load 2 true (.t 126)))<|.op (some 128) (some (122, true)) (.q (.mov (.t 10)))<|.op (some 129) (some (122, true)) (.q (.mov (.t 8)))<|.op (some 130) (some (122, true)) (.q (.bin .sub (.t 129) (ic 1)))<|.op (some 131) (some (122, true)) (.q (.iaddr 2 (.t 128) (.t 130)))<|.op (some 132) (some (122, true)) (.q (.load 2 true (.t 131)))<|.op (some 133) (some (122, true)) (.call (.c (.one (.p (.fn fi_fullerref03_Same [] [])))) [(.t 127),(.t 132)])<|.nil)<|mv 135 134<|.sc 150 135 true 149 none (.op (some 136) (some (135, true)) (.q (.mov (.t 13)))<|.op (some 137) (some (135, true)) (.q (.mov (.t 8)))<|.op (some 138) (some (135, true)) (.q (.iaddr 2 (.t 136) (.t 137)))<|.op (some 139) (some (135, true)) (.q (.faddr 1 (.t 138)))<|.op (some 140) (some (135, true)) (.q (.load 1 false (.t 139)))<|.op (some 141) (some (135, true)) (.q (.len (.t 140)))<|.op (some 142) (some (135, true)) (.q (.mov (.t 10)))<|.op (some 143) (some (135, true)) (.q (.mov (.t 8)))<|.op (some 144) (some (135, true)) (.q (.bin .sub (.t 143) (ic 1)))<|.op (some 145) (some (135, true)) (.q (.iaddr 2 (.t 142) (.t 144)))<|.op (some 146) (some (135, true)) (.q (.faddr 1 (.t 145)))<|.op (some 147) (some (135, true)) (.q (.load 1 false (.t 146)))<|.op (some 148) (some (135, true)) (.q (.len (.t 147)))<|.op (some 149) (some (135, true)) (.q (.bin .eql (.t 141) (.t 148)))<|.nil)<|mv 6 150<|.nil) [6] [4,40,42,47,51,55,57,58])<|
.ret)))))))))))
theorem pure_fullerlaw13_EvalOther : PureT Tryz.prog fi_fullerlaw13_EvalOther 151 a_fullerlaw13_EvalOther [.tmp 6] := pureT_of Tryz.call5 Tryz.func5
end Go.AM

