import Derived.Test.YtphnlpfkenannaaGreatMx5
import Derived.RangeFuncFrom
set_option linter.unusedVariables false
set_option linter.unusedSimpArgs false
namespace Go.AM
open Go.RowKit (Below)

inductive DV where
  | one (v : PV)
  | agg (vs : List PV)
  | tup (xs : List DV)
inductive D1 (A : Nat → Prop) (w : World) : DV → Value → Prop
  | one {v : PV} {x : Value} (h : PRel A w v x) : D1 A w (.one v) x
  | agg {vs : List PV} {xs : List Value} (h : All2 (PRel A w) vs xs) : D1 A w (.agg vs) (.agg ⟨xs⟩)
inductive DRel (A : Nat → Prop) (w : World) : DV → Value → Prop
  | d1 {d : DV} {x : Value} (h : D1 A w d x) : DRel A w d x
  | tup {ds : List DV} {xs : List Value} (h : All2 (D1 A w) ds xs) : DRel A w (.tup ds) (.tuple ⟨xs⟩)
def DV.av1 : DV → AV
  | .one v => .one (.p v)
  | .agg vs => .agg (vs.map .p)
  | .tup _ => .top
def DV.av : DV → AV
  | .one v => .one (.p v)
  | .agg vs => .agg (vs.map .p)
  | .tup xs => .tup (xs.map DV.av1)
theorem D1.v1 {A : Nat → Prop} {τ : Tau} {w : World} {d : DV} {x : Value} (h : D1 A w d x) : V1 A τ w d.av1 x := by
  cases h with
  | one h => exact .one (.c0 (.p _ _ h))
  | agg h => exact .agg (h.mapL fun v x hr => .c0 (.p v x hr))
theorem DRel.av {A : Nat → Prop} {τ : Tau} {w : World} {d : DV} {x : Value} (h : DRel A w d x) : VRel A τ w d.av x := by
  cases h with
  | d1 h => cases h with
    | one h => exact .v1 (.one (.c0 (.p _ _ h)))
    | agg h => exact .v1 (.agg (h.mapL fun v x hr => .c0 (.p v x hr)))
  | tup h => exact .tup (h.mapL fun d x hr => hr.v1)
def Anew (A : Nat → Prop) (w w' : World) : Nat → Prop := fun b => A b ∨ (w.heap.size ≤ b ∧ b < w'.heap.size)
structure PureC (P : Program) (f : FuncId) (ds : List DV) (r : DV) : Prop where
  enters : ∀ args w, (callFunc f args).run P w = .ok (.enter f args) w
  calls : ∀ (A : Nat → Prop) (w : World) (xs : List Value), (∀ b, A b → b < w.heap.size) → All2 (DRel A w) ds xs →
    Calls P f ⟨xs⟩ w fun e w' => ∃ x, e = .returned x ∧ Below w.heap.size w w' ∧ DRel (Anew A w w') w' r x
def toD (n : Nat) : AV → Sto → Option (DV × Sto)
  | .one c, σ => match toP n c σ with
    | some (v, σ1) => some (.one v, σ1)
    | none => none
  | .agg cs, σ => match foldP (toP n) cs σ with
    | some (vs, σ1) => some (.agg vs, σ1)
    | none => none
  | _, _ => none
def toDs (n : Nat) : List AV → Sto → Option (List DV × Sto)
  | [], σ => some ([], σ)
  | v :: vs, σ => match toD n v σ with
    | some (d, σ1) => match toDs n vs σ1 with
      | some (ds, σ2) => some (d :: ds, σ2)
      | none => none
    | none => none
section conv
variable {P : Program} {G : Ground} {a : Act} {w : World} {τ : Tau}
theorem D1.wider {A A' : Nat → Prop} (hA : ∀ b, A b → A' b) {d : DV} {x : Value} (h : D1 A w d x) : D1 A' w d x := by
  cases h with
  | one h => exact .one (h.wider hA)
  | agg h => exact .agg (h.mono fun _ _ hr => hr.wider hA)
theorem DRel.wider {A A' : Nat → Prop} (hA : ∀ b, A b → A' b) {d : DV} {x : Value} (h : DRel A w d x) : DRel A' w d x := by
  cases h with
  | d1 h => exact .d1 (h.wider hA)
  | tup h => exact .tup (h.mono fun _ _ hr => hr.wider hA)
theorem toD_sound {n : Nat} {v : AV} {s : AS} {σ' : Sto} {d : DV} {A : Nat → Prop} (h : SimAt G s a w A τ) (he : toD n v s.σ = some (d, σ')) :
    Frz G a w A τ s σ' (fun A' => ∀ x, VRel A τ w v x → DRel A' w d x) := by
  cases v with
  | one c =>
    simp only [toD] at he
    split at he
    · rename_i v σ1 h1
      cases he
      obtain ⟨A', i, hs, k⟩ := toP_sound n c s _ v A h h1
      exact ⟨A', i, hs, fun x hx => .d1 (.one (k x (one_inv hx)))⟩
    · cases he
  | agg cs =>
    simp only [toD] at he
    split at he
    · rename_i vs σ1 h1
      cases he
      obtain ⟨A', i, hs, k⟩ := foldP_sound (toP_sound n) cs s _ vs A h h1
      refine ⟨A', i, hs, fun x hx => ?_⟩
      cases hx with | v1 hx => cases hx with | agg hx => exact .d1 (.agg (k _ hx))
    · cases he
  | tup => simp [toD] at he
  | top => simp [toD] at he
  | und => simp [toD] at he
theorem toDs_sound {n : Nat} : ∀ (vs : List AV) (s : AS) (σ' : Sto) (ds : List DV) (A : Nat → Prop), SimAt G s a w A τ → toDs n vs s.σ = some (ds, σ') →
    Frz G a w A τ s σ' (fun A' => ∀ xs, All2 (VRel A τ w) vs xs → All2 (DRel A' w) ds xs)
  | [], s, σ', ds, A, h, he => by
    simp only [toDs] at he; cases he
    exact ⟨A, fun _ hb => hb, h, fun xs hx => by cases hx; exact .nil⟩
  | v :: vs, s, σ', ds, A, h, he => by
    simp only [toDs] at he
    split at he
    · rename_i d σ1 h1
      split at he
      · rename_i ds' σ2 h2
        cases he
        obtain ⟨A1, i1, s1, k1⟩ := toD_sound h h1
        obtain ⟨A2, i2, s2, k2⟩ := toDs_sound vs { s with σ := σ1 } _ ds' A1 s1 h2
        refine ⟨A2, fun b hb => i2 b (i1 b hb), s2, fun xs hx => ?_⟩
        cases hx with
        | cons hx ht => exact .cons ((k1 _ hx).wider i2) (k2 _ (ht.mono fun _ _ hc => hc.wider i1))
      · cases he
    · cases he
end conv
inductive AOp where
  | q (q : QOp)
  | n (q : NOp)
  | s (q : SOp)
  | call (f : Opd) (az : List Opd)
  | bad
structure FOp where
  d : Option Nat
  g : Option (Nat × Bool)
  op : AOp
def compA (P : Program) (o : Op) : Option AOp :=
  match compQ P o with
  | some q => some (.q q)
  | none => match compN P o with
    | some q => some (.n q)
    | none => match compS P o with
      | some q => some (.s q)
      | none => match o with
        | .call { callee := .value f, args, .. } => match opd f, opds args.toList with
          | some (.c (.one (.p (.str _)))), _ => some .bad
          | some f, some az => some (.call f az)
          | _, _ => some .bad
        | .call { callee := .invoke r nm, args, .. } => match opd r, opds args.toList with
          | some x, some az => some (.call (.c (.one (.p (.str nm.toByteArray)))) (x :: az))
          | _, _ => some .bad
        | .defer _ => none
        | _ => some .bad
def compG (ops : Array Oper) : Option (Nat × Bool) → Option (Option (Nat × Bool))
  | none => some none
  | some (j, want) => ((ops[j]?).bind (·.dst)).map fun t => some (t, want)
def compF (P : Program) (ops : Array Oper) (o : Oper) : Option FOp :=
  (compA P o.op).bind fun op => (compG ops o.guard).map fun g => ⟨o.dst, g, op⟩
def putd (d : Option Nat) (v : AV) (s : AS) : AS :=
  match d with
  | some t => { s with env := (t, v) :: s.env }
  | none => s
def CallR (P : Program) (f : Opd) (az : List Opd) (e : Env) (σ σ' : Sto) (r : DV) : Prop :=
  ∃ c id first caps σ1 ds, get e f = .one c ∧ toP 6 c σ = some (.fn id first caps, σ1) ∧ toDs 6 (gets e az) σ1 = some (ds, σ') ∧ PureC P id (first.map .one ++ ds ++ caps.map .one) r
def fnOf : AC → Option (FuncId × List AV × List AV)
  | .p (.fn id a b) => some (id, a.map (fun v => .one (.p v)), b.map (fun v => .one (.p v)))
  | .mfn id a b => some (id, a.map .one, b.map .one)
  | _ => none
def CallM (P : Program) (f : Opd) (az : List Opd) (s : AS) (r : AV) (σ1 : Sto) : Prop :=
  ∃ c id first caps σ0 fr, get s.env f = .one c ∧ fnOf c = some (id, first, caps) ∧ (∀ p ∈ σ0, lo s.σ p.1 = p.2) ∧ (∀ p ∈ σ0, p.1 ∈ σ1.map (·.1)) ∧ (∀ d ∈ fr, s.Nr d ∧ lo s.σ d = .none) ∧
    MutC P id (first ++ gets s.env az ++ caps) σ0 r σ1 fr
def recvI : AV → Option (TypeId × DV)
  | .one (.p (.ifc t c)) => some (t, .one c)
  | .one (.p (.ifcA t cs)) => some (t, .agg cs)
  | _ => none
def IMeth (P : Program) (nm : String) (t : TypeId) (id : FuncId) : Prop := ∀ (v : Value) (args : Array Value) (w : World), (callMethod (.iface t v) nm args).run P w = .ok (.enter id (#[v] ++ args)) w
def CallI (P : Program) (f : Opd) (az : List Opd) (e : Env) (σ σ' : Sto) (r : DV) : Prop :=
  ∃ (nm : String) (x : Opd) (az' : List Opd) (t : TypeId) (rv : DV) (id : FuncId) (ds : List DV), f = .c (.one (.p (.str nm.toByteArray))) ∧ az = x :: az' ∧ recvI (get e x) = some (t, rv) ∧ IMeth P nm t id ∧
    toDs 6 (gets e az') σ = some (ds, σ') ∧ PureC P id (rv :: ds) r
theorem call_inv' {P : Program} {o : Oper} {f : Opd} {az : List Opd} (hc : compA P o.op = some (.call f az)) :
    (∃ cl : Call, o.op = .call cl ∧ ∃ fo, cl.callee = .value fo ∧ opd fo = some f ∧ opds cl.args.toList = some az ∧ ∀ s, f ≠ .c (.one (.p (.str s)))) ∨
    (∃ cl : Call, o.op = .call cl ∧ ∃ ro nm x az', cl.callee = .invoke ro nm ∧ opd ro = some x ∧ opds cl.args.toList = some az' ∧ f = .c (.one (.p (.str nm.toByteArray))) ∧ az = x :: az') := by
  unfold compA at hc
  split at hc
  · cases hc
  · split at hc
    · cases hc
    · split at hc
      · cases hc
      · split at hc
        · rename_i fo args argTypes heq
          split at hc
          · cases hc
          · rename_i f' az' hne hf' has'
            cases hc
            exact .inl ⟨_, heq, _, rfl, hf', has', fun s hs => hne s hs⟩
          · cases hc
        · rename_i ro nm args argTypes heq
          split at hc
          · rename_i x' az' hx' has'
            cases hc
            exact .inr ⟨_, heq, _, _, _, _, rfl, hx', has', rfl, rfl⟩
          · cases hc
        · cases hc
        · cases hc
def isTop : PV → Bool
  | .top => true
  | _ => false
def oleB : AO → AO → Bool
  | .arr true s rows, .arr true s' rows' => s == s' && rows.length == rows'.length && rows'.all (fun r => r.length == s && r.all isTop)
  | _, _ => false
theorem isTop_eq {v : PV} (h : isTop v = true) : v = .top := by cases v <;> simp [isTop] at h; rfl
theorem ole_sound {M A : Nat → Prop} {τ : Tau} {w : World} {t : Nat} {ob ob' : AO} (hle : oleB ob ob' = true) (h : ORel M A τ w t ob) : ORel M A τ w t ob' := by
  unfold oleB at hle
  split at hle
  · rename_i s rows s' rows'
    simp only [Bool.and_eq_true, beq_iff_eq, List.all_eq_true] at hle
    obtain ⟨⟨rfl, hl⟩, hall⟩ := hle
    obtain ⟨g0, gl, g⟩ := h
    have hs : ∀ r ∈ rows', r.length = s := fun r hr => (hall r hr).1
    refine ⟨hs, by omega, ?_⟩
    rcases g with ⟨g1, g2⟩ | ⟨b, xs, e, g1, g2, g3, g4, g5⟩
    · left; exact ⟨g1, by rw [g2] at hl; exact List.length_eq_zero_iff.1 hl.symm⟩
    · right
      refine ⟨b, xs, e, g1, g2, by rw [← hl]; exact g3, PAt.of_get fun i v hi => ?_, g5⟩
      have hv : v = .top := by
        obtain ⟨r, hr, hvr⟩ := List.mem_flatten.1 (List.mem_of_getElem? hi)
        exact isTop_eq ((hall r hr).2 v hvr)
      subst hv
      have hlt : i < rows.flatten.length := by
        have := (List.getElem?_eq_some_iff.1 hi).1
        rw [flat_len hs] at this
        rw [flat_len g0, hl]; exact this
      obtain ⟨x, hx, hr⟩ := g4.get i _ (List.getElem?_eq_getElem hlt)
      exact ⟨x, hx, .top x hr.cell1⟩
  · cases hle
theorem SimAt.unput {G : Ground} {s : AS} {a : Act} {w : World} {A : Nat → Prop} {τ : Tau} {u : Nat} {ob : AO} (h : SimAt G { s with σ := (u, ob) :: s.σ } a w A τ) (hle : oleB ob (lo s.σ u) = true) : SimAt G s a w A τ := by
  have hk : ∀ t, (lo s.σ t = .none ↔ lo ((u, ob) :: s.σ) t = .none) ∧ (lo s.σ t).mu = (lo ((u, ob) :: s.σ) t).mu := by
    intro t
    rw [lo_put]
    by_cases ht : t = u
    · subst ht
      rw [if_pos rfl]
      unfold oleB at hle
      split at hle
      · simp [AO.mu, *]
      · cases hle
    · rw [if_neg ht]; exact ⟨Iff.rfl, rfl⟩
  refine ⟨h.below, h.a0, h.a1, h.alt, h.size, h.env, fun t => ?_, fun t t' b h1 h2 hne hm hb => ?_, h.ex, h.marks⟩
  · have := h.obj t
    simp only [lo_put] at this
    by_cases ht : t = u
    · subst ht; rw [if_pos rfl] at this; exact ole_sound hle this
    · rw [if_neg ht] at this; exact this
  · exact h.sep t t' b (fun e => h1 ((hk t).1.2 e)) (fun e => h2 ((hk t').1.2 e)) hne (by rw [← (hk t).2]; exact hm) hb
inductive Step1 (P : Program) (d : Option Nat) : AOp → AS → AV → AS → Prop
  | q {q : QOp} {s : AS} {v : AV} (h : evQ q s.env s.σ = some v) : Step1 P d (.q q) s v s
  | n {q : NOp} {s : AS} {ob : AO} {v : AV} {t : Nat} (ht : d = some t) (hn : lo s.σ t = .none) (hr : s.Nr t) (h : evN q s.env t = some (ob, v)) : Step1 P d (.n q) s v { s with σ := (t, ob) :: s.σ }
  | nF {q : NOp} {s : AS} {k len : Nat} {rows : List (List PV)} {t : Nat} (ht : d = some t) (hn : lo s.σ t = .none) (hr : s.Nr t) (h : evN q s.env t = some (.arr true k rows, .one (.msl t 0 k len none))) (hl : len = rows.length) :
      Step1 P d (.n q) s (.one (.p (.sl rows))) s
  | nG {q : NOp} {s : AS} {k len : Nat} {cap : Option Nat} {rows : List (List PV)} {t : Nat} (ht : d = some t) (hn : lo s.σ t = .none) (hr : s.Nr t) (h : evN q s.env t = some (.arr true k rows, .one (.msl t 0 k len cap))) (hl : len = rows.length) :
      Step1 P d (.n q) s (.one (.p (.sl rows))) { s with σ := (t, .arr false k rows) :: s.σ }
  | s {q : SOp} {s : AS} {ob : AO} {v : AV} {t u k : Nat} (ht : d = some t ∨ d = none) (h : evS q s.env s.σ t = some (u, ob, v, k)) (hk : k = 1 → d = some t ∧ s.Nr t ∧ lo s.σ t = .none) :
      Step1 P d (.s q) s v (newSt k u ob s)
  | sN {q : SOp} {s : AS} {ob : AO} {v : AV} {t u : Nat} (h : evS q s.env s.σ t = some (u, ob, v, 0)) (hle : oleB ob (lo s.σ u) = true) : Step1 P d (.s q) s v s
  | call {f : Opd} {az : List Opd} {s : AS} {σ' : Sto} {r : DV} (h : CallR P f az s.env s.σ σ' r) : Step1 P d (.call f az) s r.av { s with σ := σ' }
  | callI {f : Opd} {az : List Opd} {s : AS} {σ' : Sto} {r : DV} (h : CallI P f az s.env s.σ σ' r) : Step1 P d (.call f az) s r.av { s with σ := σ' }
  | callM {f : Opd} {az : List Opd} {s : AS} {σ1 : Sto} {r : AV} (h : CallM P f az s r σ1) : Step1 P d (.call f az) s r { s with σ := σ1 ++ s.σ }
def gmet (e : Env) : Option (Nat × Bool) → Option Bool
  | none => some true
  | some (t, want) => match lk e t with
    | .one (.p (.bool b)) => some (b == want)
    | .und => some false
    | _ => none
inductive FStep (P : Program) (nt : Nat) : FOp → AS → AS → Prop
  | run {o : FOp} {s s' : AS} {v : AV} (hg : gmet s.env o.g = some true) (hd : ∀ t, o.d = some t → t < nt) (h : Step1 P o.d o.op s v s') : FStep P nt o s (putd o.d v s')
  | skip {o : FOp} {s : AS} (hg : gmet s.env o.g = some false) (hd : ∀ t, o.d = some t → t < nt) : FStep P nt o s (putd o.d .und s)
  | runE {o : FOp} {s s' : AS} {v : AV} {σ2 : Sto} (hg : gmet s.env o.g = some true) (hd : ∀ t, o.d = some t → t < nt) (h : Step1 P o.d o.op s v s') (he : ∀ t, lo σ2 t = lo s'.σ t) : FStep P nt o s (putd o.d v { s' with σ := σ2 })
def SimS (G : Ground) (s : AS) (a : Act) (w : World) : Prop := ∃ A τ, SimAt G s a w A τ
def FOk (F : Fence) : Prop := F = Fence.wide ∨ ∃ l, F = Fence.wide.inRound l
theorem FOk.fn {F : Fence} (h : FOk F) (f : FuncId) : F.fn f := by
  rcases h with rfl | ⟨l, rfl⟩ <;> trivial
theorem FOk.depth {F : Fence} (h : FOk F) : F.depth = none := by
  rcases h with rfl | ⟨l, rfl⟩ <;> rfl
theorem FOk.calls {F : Fence} (h : FOk F) {n : Nat} {P : Program} {f : FuncId} {args : Array Value} {w : World} {R : Ending → World → Prop} (hc : Calls P f args w R) : CallsIn F n P f args w R := by
  rcases h with rfl | ⟨l, rfl⟩
  · exact callsIn_wide.2 hc
  · exact CallsIn.inRound l (callsIn_wide.2 hc)
section wp
variable {P : Program} {G : Ground} {a : Act} {w : World} {F : Fence} {n : Nat}
theorem wpIn_of_run (hF : FOk F) {o : Oper} (hnd : ∀ c, o.op ≠ .defer c) {K : Act → World → Prop} {Q : Exit → Act → World → Prop}
    (h : o.uponIn F n P a K Q ((execOp a.eval o).run P w)) : o.wpIn F n P a w K Q :=
  ⟨fun f _ => hF.fn f, by rw [Oper.semAt_eq _ _ _ hnd]; exact h⟩
theorem compA_nodefer {o : Op} {x : AOp} (h : compA P o = some x) : ∀ c, o ≠ .defer c := by
  rintro c rfl
  simp [compA, compQ, compN, compS] at h
theorem step1_sound (hF : FOk F) {o : Oper} {op : AOp} (hc : compA P o.op = some op) {s s' : AS} {v : AV} (hs : SimS G s a w) (h : Step1 P o.dst op s v s')
    (hd : ∀ t, o.dst = some t → t < G.nt) (hP : G.P = P) {K : Act → World → Prop} {Q : Exit → Act → World → Prop} (hK : ∀ a' w', SimS G (putd o.dst v s') a' w' → K a' w') : o.wpIn F n P a w K Q := by
  have hnd := compA_nodefer hc
  obtain ⟨A, τ, hs⟩ := hs
  -- a value is put
  have fin : ∀ {s' : AS} {a' : Act} {w' : World} {A' : Nat → Prop} {τ' : Tau} {x : Value}, SimAt G s' a w' A' τ' → VRel A' τ' w' v x → (∀ a' w', SimS G (putd o.dst v s') a' w' → K a' w') → K (a.put o.dst x) w' := by
    intro s' a' w' A' τ' x h1 h2 hK
    refine hK _ _ ?_
    cases hdst : o.dst with
    | none => exact ⟨A', τ', h1⟩
    | some t => exact ⟨A', τ', h1.put (hd t hdst) h2⟩
  refine wpIn_of_run hF hnd ?_
  cases h with
  | @q q _ _ he =>
    have hq : compQ P o.op = some q := by
      unfold compA at hc
      split at hc
      · rename_i q' h'; cases hc; exact h'
      · split at hc
        · cases hc
        · split at hc
          · cases hc
          · split at hc
            · split at hc <;> cases hc
            · split at hc <;> cases hc
            · cases hc
            · cases hc
    obtain ⟨x, hx, hv⟩ := compQ_sound hq hs he
    rw [hx]
    exact fin (a' := a) hs hv hK
  | @n q _ ob _ t ht hn hnr he =>
    have hq : compN P o.op = some q := by
      unfold compA at hc
      split at hc
      · cases hc
      · split at hc
        · rename_i q' h'; cases hc; exact h'
        · split at hc
          · cases hc
          · split at hc
            · split at hc <;> cases hc
            · split at hc <;> cases hc
            · cases hc
            · cases hc
    obtain ⟨x, obj, hx, ho, hv⟩ := compN_sound hq hs he hnr hn
    rw [hx]
    exact fin (a' := a) (hs.new hnr hn obj ho) hv hK
  | @nF q _ k len rows t ht hn hnr he hl =>
    have hq : compN P o.op = some q := by
      unfold compA at hc
      split at hc
      · cases hc
      · split at hc
        · rename_i q' h'; cases hc; exact h'
        · split at hc
          · cases hc
          · split at hc
            · split at hc <;> cases hc
            · split at hc <;> cases hc
            · cases hc
            · cases hc
    obtain ⟨x, obj, hx, ho, hv⟩ := compN_sound hq hs he hnr hn
    rw [hx]
    have h1 := hs.new hnr hn obj ho
    obtain ⟨A', i1, h2, kk⟩ := toP_sound 6 (.msl t 0 k len none) { s with σ := (t, .arr true k rows) :: s.σ } ((t, .arr false k rows) :: (t, .arr true k rows) :: s.σ) (.sl rows) A h1 (by
      simp only [toP, lo, if_true]
      simp [hl, List.take_of_length_le])
    have h3 : SimAt G s a (w.alloc obj) A' (tauP τ t w.heap.size) := by
      refine ⟨h2.below, h2.a0, h2.a1, h2.alt, h2.size, h2.env, fun u => ?_, ?_, h2.ex, h2.marks⟩
      · by_cases hu : u = t
        · subst hu; rw [hn]; trivial
        · have := h2.obj u; simp only [lo, if_neg hu] at this; exact this
      · intro u u' b q1 q2 hne hm hb
        have e1 : u ≠ t := fun e => q1 (by rw [e]; exact hn)
        have e2 : u' ≠ t := fun e => q2 (by rw [e]; exact hn)
        exact h2.sep u u' b (by simp only [lo, if_neg e1]; exact q1) (by simp only [lo, if_neg e2]; exact q2) hne (by simp only [lo, if_neg e1]; exact hm) hb
    exact fin (a' := a) h3 (.v1 (.one (.c0 (.p _ _ (kk _ (one_inv hv)))))) hK
  | @nG q _ k len cap rows t ht hn hnr he hl =>
    have hq : compN P o.op = some q := by
      unfold compA at hc
      split at hc
      · cases hc
      · split at hc
        · rename_i q' h'; cases hc; exact h'
        · split at hc
          · cases hc
          · split at hc
            · split at hc <;> cases hc
            · split at hc <;> cases hc
            · cases hc
            · cases hc
    obtain ⟨x, obj, hx, ho, hv⟩ := compN_sound hq hs he hnr hn
    rw [hx]
    have h1 := hs.new hnr hn obj ho
    obtain ⟨A', i1, h2, kk⟩ := toP_sound 6 (.msl t 0 k len cap) { s with σ := (t, .arr true k rows) :: s.σ } ((t, .arr false k rows) :: (t, .arr true k rows) :: s.σ) (.sl rows) A h1 (by
      simp only [toP, lo, if_true]
      simp [hl, List.take_of_length_le])
    have hlo : ∀ u, lo ((t, AO.arr false k rows) :: s.σ) u = lo ((t, AO.arr false k rows) :: (t, AO.arr true k rows) :: s.σ) u := fun u => by
      simp only [lo]; split <;> rfl
    have h3 : SimAt G { s with σ := (t, .arr false k rows) :: s.σ } a (w.alloc obj) A' (tauP τ t w.heap.size) := by
      refine ⟨h2.below, h2.a0, h2.a1, h2.alt, h2.size, h2.env, fun u => ?_, ?_, h2.ex, h2.marks⟩
      · have := h2.obj u; simp only [] at this ⊢; rw [hlo]; exact this
      · intro u u' b q1 q2 hne hm hb
        simp only [] at q1 q2 hm
        rw [hlo] at q1 q2 hm
        exact h2.sep u u' b q1 q2 hne hm hb
    exact fin (a' := a) h3 (.v1 (.one (.c0 (.p _ _ (kk _ (one_inv hv)))))) hK
  | @s q _ ob _ t u k ht he hk =>
    have hq : compS P o.op = some q := by
      unfold compA at hc
      split at hc
      · cases hc
      · split at hc
        · cases hc
        · split at hc
          · rename_i q' h'; cases hc; exact h'
          · split at hc
            · split at hc <;> cases hc
            · split at hc <;> cases hc
            · cases hc
            · cases hc
    obtain ⟨r, w', τ', hr, hcase, hs'⟩ := compS_sound hq hs he (fun h1 => (hk h1).2)
    rw [hr]
    rcases hcase with ⟨rfl, rfl⟩ | ⟨x, rfl, hv⟩
    · exact fin (a' := a) hs' (.v1 .und) hK
    · exact fin (a' := a) hs' hv hK
  | @sN q _ ob _ t u he hle =>
    have hq : compS P o.op = some q := by
      unfold compA at hc
      split at hc
      · cases hc
      · split at hc
        · cases hc
        · split at hc
          · rename_i q' h'; cases hc; exact h'
          · split at hc
            · split at hc <;> cases hc
            · split at hc <;> cases hc
            · cases hc
            · cases hc
    obtain ⟨r, w', τ', hr, hcase, hs'⟩ := compS_sound hq hs he (fun h1 => by cases h1)
    have hs' : SimAt G s a w' A τ' := SimAt.unput hs' hle
    rw [hr]
    rcases hcase with ⟨rfl, rfl⟩ | ⟨x, rfl, hv⟩
    · exact fin (a' := a) hs' (.v1 .und) hK
    · exact fin (a' := a) hs' hv hK
  | @call f az _ σ' r hcall =>
    obtain ⟨cf, id, first, caps, σ1, ds, hf, h1, h2, hpure⟩ := hcall
    have hop : ∃ cl : Call, o.op = .call cl ∧ ∃ fo, cl.callee = .value fo ∧ opd fo = some f ∧ opds cl.args.toList = some az := by
      rcases call_inv' hc with ⟨cl, h1, fo, h2, h3, h4, _⟩ | ⟨_, _, _, _, _, _, _, _, _, rfl, _⟩
      · exact ⟨cl, h1, fo, h2, h3, h4⟩
      · simp only [get] at hf
        cases hf
        simp [toP] at h1
    obtain ⟨cl, hop, fo, hcallee, hfo, has⟩ := hop
    have hfv := opd_sound hs hfo
    rw [hf] at hfv
    have hav := opds_sound hs has
    obtain ⟨A1, i1, s1, k1⟩ := toP_sound 6 cf s σ1 _ A hs h1
    obtain ⟨A2, i2, s2, k2⟩ := toDs_sound (gets s.env az) { s with σ := σ1 } σ' ds A1 s1 h2
    have hfr := k1 _ (one_inv hfv)
    have har := k2 _ (hav.mono fun _ _ hv => hv.wider i1)
    generalize hz : a.eval fo = z at hfr
    cases hfr with
    | fn _ _ _ vf vc hp1 hp2 =>
      have lift : ∀ {vs : List PV} {xs : List Value}, PRels A1 w vs xs → All2 (DRel A2 w) (vs.map .one) xs := fun hp =>
        (PRels.all2.1 hp).mapL fun v x hr => .d1 (.one (hr.wider i2))
      have hall : All2 (DRel A2 w) (first.map .one ++ ds ++ caps.map .one) (vf ++ cl.args.toList.map a.eval ++ vc) := ((lift hp1).append har).append (lift hp2)
      have hcalls := hpure.calls A2 w _ s2.alt hall
      have hrun : (execOp a.eval o).run P w = .ok (.enter id ⟨vf ++ cl.args.toList.map a.eval ++ vc⟩) w := by
        have harr : (⟨vf⟩ : Array Value) ++ cl.args.map a.eval ++ ⟨vc⟩ = ⟨vf ++ cl.args.toList.map a.eval ++ vc⟩ := by
          apply Array.ext'; simp
        simp only [execOp, hop, Sem.run_bind, resolve, hcallee, Deferred.ofValue, hz, Sem.run_pure, Result.andThen_ok, invoke, hpure.enters, harr]
      rw [hrun, Oper.uponIn_enter]
      refine ⟨(fun hd => by rw [hF.depth] at hd; cases hd), hF.calls (hcalls.mono ?_)⟩
      rintro e w' ⟨x, rfl, hb, hr⟩
      have hs3 : SimAt G { s with σ := σ' } a w' (Anew A2 w w') τ :=
        s2.world (WStep.below hb) (fun b hb => .inl hb) (fun b hb => hb) (fun _ hf => hf.elim) (fun _ _ _ _ hf => hf) (WStep.below hb).dfr0
      exact fin (a' := a) hs3 hr.av hK
  | @callI f az _ σ' r hcall =>
    obtain ⟨nm, x, az1, ty, rv, id, ds, hf, haz, hrv, hmeth, h2, hpure⟩ := hcall
    rcases call_inv' hc with ⟨cl, hop, fo, hcallee, hfo, has, hne⟩ | ⟨cl, hop, ro, nm', x', az', hcallee, hro, has, hf', haz'⟩
    · exact absurd hf (hne _)
    have hnm : nm = nm' := by
      rw [hf] at hf'
      injection hf' with q; injection q with q; injection q with q; injection q with q
      exact String.toByteArray_inj.1 q
    subst hnm
    rw [haz] at haz'
    injection haz' with hxx hazz
    subst hxx hazz
    have hrx := opd_sound hs hro
    have hav := opds_sound hs has
    obtain ⟨A2, i2, s2, k2⟩ := toDs_sound (gets s.env az1) s σ' ds A hs h2
    have har := k2 _ hav
    have hz : ∃ v, a.eval ro = .iface ty v ∧ DRel A2 w rv v := by
      generalize a.eval ro = z at hrx
      unfold recvI at hrv
      split at hrv
      · rename_i u c hg
        cases hrv
        rw [hg] at hrx
        cases p_inv hrx with | ifc _ _ y hy => exact ⟨y, rfl, .d1 (.one (PRel.wider i2 hy))⟩
      · rename_i u cs hg
        cases hrv
        rw [hg] at hrx
        cases p_inv hrx with | ifcA _ _ ys hys => exact ⟨_, rfl, .d1 (.agg ((PRels.all2.1 hys).mono fun v x hr => hr.wider i2))⟩
      · cases hrv
    obtain ⟨v, hz, hvr⟩ := hz
    have hall : All2 (DRel A2 w) (rv :: ds) (v :: cl.args.toList.map a.eval) := .cons hvr har
    have hcalls := hpure.calls A2 w _ s2.alt hall
    have hrun : (execOp a.eval o).run P w = .ok (.enter id ⟨v :: cl.args.toList.map a.eval⟩) w := by
      have harr : #[v] ++ (#[a.eval ro] ++ cl.args.map a.eval).extract 1 (#[a.eval ro] ++ cl.args.map a.eval).size = (⟨v :: cl.args.toList.map a.eval⟩ : Array Value) := by
        apply Array.ext'; simp [Array.toList_extract, List.extract, List.take_of_length_le]
      have h0 : (#[a.eval ro] ++ cl.args.map a.eval)[0]? = some (.iface ty v) := by rw [hz, ← Array.getElem?_toList, Array.toList_append]; rfl
      have hm := hmeth v ((#[a.eval ro] ++ cl.args.map a.eval).extract 1 (#[a.eval ro] ++ cl.args.map a.eval).size) w
      rw [harr] at hm
      simp only [execOp, hop, Sem.run_bind, resolve, hcallee, Sem.run_pure, Result.andThen_ok, invoke, h0]
      exact hm
    rw [hrun, Oper.uponIn_enter]
    refine ⟨(fun hd => by rw [hF.depth] at hd; cases hd), hF.calls (hcalls.mono ?_)⟩
    rintro e w' ⟨x, rfl, hb, hr⟩
    have hs3 : SimAt G { s with σ := σ' } a w' (Anew A2 w w') τ :=
      s2.world (WStep.below hb) (fun b hb => .inl hb) (fun b hb => hb) (fun _ hf => hf.elim) (fun _ _ _ _ hf => hf) (WStep.below hb).dfr0
    exact fin (a' := a) hs3 hr.av hK
  | @callM f az _ σ1 r hcall =>
    obtain ⟨cf, id, first, caps, σ0, fr, hf, hfn, hσ, hk, hnr, hmut⟩ := hcall
    have hop : ∃ cl : Call, o.op = .call cl ∧ ∃ fo, cl.callee = .value fo ∧ opd fo = some f ∧ opds cl.args.toList = some az := by
      rcases call_inv' hc with ⟨cl, h1, fo, h2, h3, h4, _⟩ | ⟨_, _, _, _, _, _, _, _, _, rfl, _⟩
      · exact ⟨cl, h1, fo, h2, h3, h4⟩
      · simp only [get] at hf
        cases hf
        simp [fnOf] at hfn
    obtain ⟨cl, hop, fo, hcallee, hfo, has⟩ := hop
    have hfv := opd_sound hs hfo
    rw [hf] at hfv
    have hav := opds_sound hs has
    have hfv := one_inv hfv
    have hz : ∃ vf vc, a.eval fo = .func (.func id) ⟨vf⟩ ⟨vc⟩ ∧ All2 (VRel A τ w) first vf ∧ All2 (VRel A τ w) caps vc := by
      have liftp : ∀ {vs : List PV} {xs : List Value}, PRels A w vs xs → All2 (VRel A τ w) (vs.map fun v => .one (.p v)) xs := fun hp =>
        (PRels.all2.1 hp).mapL fun v x hr => .v1 (.one (.c0 (.p _ _ hr)))
      have liftc : ∀ {vs : List AC} {xs : List Value}, All2 (C0 A τ w) vs xs → All2 (VRel A τ w) (vs.map .one) xs := fun hp =>
        hp.mapL fun v x hr => .v1 (.one (.c0 hr))
      generalize a.eval fo = z at hfv
      cases cf with
      | p v =>
        cases v with
        | fn id' a' b' =>
          simp only [fnOf, Option.some.injEq, Prod.mk.injEq] at hfn
          obtain ⟨rfl, rfl, rfl⟩ := hfn
          cases hfv with
          | c0 h => cases h with
            | p _ _ h => cases h with
              | fn _ _ _ vf vc h1 h2 => exact ⟨vf, vc, rfl, liftp h1, liftp h2⟩
        | _ => simp [fnOf] at hfn
      | mfn id' a' b' =>
        simp only [fnOf, Option.some.injEq, Prod.mk.injEq] at hfn
        obtain ⟨rfl, rfl, rfl⟩ := hfn
        cases hfv with
        | c0 h => cases h
        | mfn _ _ _ vf vc h1 h2 => exact ⟨vf, vc, rfl, liftc h1, liftc h2⟩
      | _ => simp [fnOf] at hfn
    obtain ⟨vf, vc, hz, hp1, hp2⟩ := hz
    have hall : All2 (VRel A τ w) (first ++ gets s.env az ++ caps) (vf ++ cl.args.toList.map a.eval ++ vc) := (hp1.append hav).append hp2
    have hσ' : ∀ t, lo σ0 t = lo s.σ t ∨ lo σ0 t = .none := by
      intro t
      by_cases ht : t ∈ σ0.map (·.1)
      · left
        have key : ∀ {σ0 : Sto}, (∀ p ∈ σ0, lo s.σ p.1 = p.2) → t ∈ σ0.map (·.1) → lo σ0 t = lo s.σ t := by
          intro σ0
          induction σ0 with
          | nil => intro _ h; simp at h
          | cons p σ0 ih =>
            intro h ht
            obtain ⟨j, v⟩ := p
            simp only [lo]
            by_cases hj : t = j
            · subst hj; rw [if_pos rfl]; exact (h (t, v) (by simp)).symm
            · rw [if_neg hj]
              refine ih (fun p hp => h p (by simp [hp])) ?_
              simpa [hj] using ht
        exact key hσ ht
      · exact .inr (lo_none ht)
    subst hP
    have hcalls := callM_run hmut hs hall hσ' (fun t ht => by
      have : t ∈ σ0.map (·.1) := Classical.byContradiction fun hc => ht (lo_none hc)
      obtain ⟨p, hp, rfl⟩ := List.mem_map.1 this
      exact hk p hp) hnr
    have hrun : (execOp a.eval o).run G.P w = .ok (.enter id ⟨vf ++ cl.args.toList.map a.eval ++ vc⟩) w := by
      have harr : (⟨vf⟩ : Array Value) ++ cl.args.map a.eval ++ ⟨vc⟩ = ⟨vf ++ cl.args.toList.map a.eval ++ vc⟩ := by
        apply Array.ext'; simp
      simp only [execOp, hop, Sem.run_bind, resolve, hcallee, Deferred.ofValue, hz, Sem.run_pure, Result.andThen_ok, invoke, hmut.enters, harr]
    rw [hrun, Oper.uponIn_enter]
    refine ⟨(fun hd => by rw [hF.depth] at hd; cases hd), hF.calls (hcalls.mono ?_)⟩
    rintro e w' ⟨x, A', τ', rfl, hs', hr⟩
    exact fin (a' := a) hs' hr hK
theorem gmet_wanted {ops : Array Oper} {o : Oper} {g : Option (Nat × Bool)} (hg : compG ops o.guard = some g) {s : AS} (hs : SimS G s a w) {b : Bool} (h : gmet s.env g = some b) :
    Region.wanted o (yielded ops a.tmps) = b := by
  obtain ⟨A, τ, hs⟩ := hs
  unfold Region.wanted
  cases hgd : o.guard with
  | none =>
    rw [hgd] at hg
    simp only [compG] at hg; cases hg
    simp only [gmet] at h; cases h
    rfl
  | some p =>
    obtain ⟨j, want⟩ := p
    rw [hgd] at hg
    simp only [compG] at hg
    obtain ⟨t, ht, hg⟩ := map_some' hg
    cases hg
    obtain ⟨oj, hoj, hdst⟩ := bind_some' ht
    have hv := hs.env t
    simp only [gmet] at h
    simp only [yielded, hoj, Option.bind_some, hdst]
    split at h
    · rename_i b' hb'
      rw [hb'] at hv
      have := bool_inv hv
      cases h
      have hget : a.tmps[t]? = some (.bool b') ∨ a.tmps.getD t undef = undef := by
        rw [Array.getD_eq_getD_getElem?] at this ⊢
        cases hq : a.tmps[t]? with
        | none => exact .inr rfl
        | some y => rw [hq] at this; exact .inl (by simpa using this)
      rcases hget with hget | hget
      · simp [hget]
      · rw [this] at hget; cases hget
    · rename_i hu
      rw [hu] at hv
      cases h
      have : a.tmps.getD t undef = undef := by
        generalize a.tmps.getD t undef = z at hv
        cases hv with | v1 hv => cases hv; rfl
      cases hq : a.tmps[t]? with
      | none => simp
      | some y =>
        rw [Array.getD_eq_getD_getElem?, hq] at this
        simp only [Option.getD_some] at this
        subst this
        simp [undef]
    · cases h
theorem SimAt.loEq {s : AS} {A : Nat → Prop} {τ : Tau} {σ2 : Sto} (h : SimAt G s a w A τ) (he : ∀ t, lo σ2 t = lo s.σ t) : SimAt G { s with σ := σ2 } a w A τ :=
  ⟨h.below, h.a0, h.a1, h.alt, h.size, h.env, fun t => by show ORel _ _ _ _ t (lo σ2 t); rw [he]; exact h.obj t,
    fun t t' b h1 h2 hne hm hb => h.sep t t' b (by rw [← he]; exact h1) (by rw [← he]; exact h2) hne (by rw [← he]; exact hm) hb, h.ex, h.marks⟩
theorem fstep_sound (hF : FOk F) {ops : Array Oper} {o : Oper} {fo : FOp} (hc : compF P ops o = some fo) {s s' : AS} (hs : SimS G s a w) (h : FStep P G.nt fo s s') (hP : G.P = P)
    {K : Act → World → Prop} {Q : Exit → Act → World → Prop} (hK : ∀ a' w', SimS G s' a' w' → K a' w') {i : Nat} (hi : ops[i]? = some o) : wpOpIn F n P ops Q i K a w := by
  obtain ⟨op, hop, hc⟩ := bind_some' hc
  obtain ⟨g, hg, rfl⟩ := map_some' hc
  unfold wpOpIn
  simp only [hi]
  cases h with
  | run hm hd h1 =>
    rw [gmet_wanted hg hs hm]
    simp only [if_true]
    exact step1_sound hF hop hs h1 hd hP hK
  | @runE s1 v σ2 hm hd h1 he =>
    rw [gmet_wanted hg hs hm]
    simp only [if_true]
    refine step1_sound hF hop hs h1 hd hP fun a' w' hs' => hK a' w' ?_
    obtain ⟨A, τ, hs'⟩ := hs'
    cases hdst : o.dst with
    | none => rw [hdst] at hs'; exact ⟨A, τ, hs'.loEq he⟩
    | some t => rw [hdst] at hs'; exact ⟨A, τ, hs'.loEq (s := { env := (t, v) :: s1.env, σ := s1.σ, ex := s1.ex }) he⟩
  | skip hm hd =>
    rw [gmet_wanted hg hs hm]
    simp only [Bool.false_eq_true, if_false]
    refine ⟨fun f _ => hF.fn f, hK _ _ ?_⟩
    obtain ⟨A, τ, hs⟩ := hs
    cases hdst : o.dst with
    | none => exact ⟨A, τ, hs⟩
    | some t => exact ⟨A, τ, hs.put (hd t hdst) (.v1 .und)⟩
end wp
end Go.AM

namespace Go.AM
open Go.RowKit (Below)

def YieldC (P : Program) (R : Loop) (l : Nat) (vs : List AV) (σ σ' : Sto) (fr : List Nat) (cA : List AV) (cV : List Value) : Prop :=
  ∀ (F : Fence) (n : Nat) (A : Nat → Prop) (τ : Tau) (w : World) (xs : List Value) (ex : List AV) (exs : List Value), FOk F → (∀ b, A b → b < w.heap.size) → All2 (VRel A τ w) vs xs →
    All2 (VRel A τ w) (cA ++ ex) (cV ++ exs) → (∀ d ∈ fr, ∀ v ∈ cA ++ ex, v.has d = false) → (∀ t, ORel (fun _ => True) A τ w t (lo σ t)) → SepS σ τ → w.heap[l]? = some (.loop R) → ¬ A l →
    YieldAt F n P l ⟨xs⟩ w (MPost A τ w σ σ' (pbool true) (cA ++ ex) (cV ++ exs))
theorem YieldC.more {P : Program} {R : Loop} {l : Nat} {vs : List AV} {σ σ' : Sto} {fr : List Nat} {cA : List AV} {cV : List Value} (h : YieldC P R l vs σ σ' fr cA cV) (ex : List AV) (exs : List Value) :
    YieldC P R l vs σ σ' fr (cA ++ ex) (cV ++ exs) := by
  intro F n A τ w xs ex' exs' hF hA hx he hfr ho hs hl hAl
  simp only [List.append_assoc] at he hfr ⊢
  exact h F n A τ w xs (ex ++ ex') (exs ++ exs') hF hA hx he hfr ho hs hl hAl
theorem YieldAt.mono {F : Fence} {m : Nat} {P : Program} {l : Nat} {args : Array Value} {W : World} {R R' : Ending → World → Prop} (h : YieldAt F m P l args W R) (k : ∀ e w, R e w → R' e w) : YieldAt F m P l args W R' := by
  obtain ⟨fn, t, x, y, h1, h2⟩ := h
  exact ⟨fn, t, x, y, h1, h2.mono k⟩
structure YStep (G : Ground) (f : Opd) (az : List Opd) (s : AS) (σ1 : Sto) (R : Loop) (l : Nat) (σ0 : Sto) (fr : List Nat) : Prop where
  fget : get s.env f = .one (.raw (.func (.yield l) #[] #[]))
  recd : G.w0.heap[l]? = some (.loop R)
  ow : ¬ G.ow l
  a0 : ¬ G.A0 l
  sub : ∀ t, lo σ0 t = lo s.σ t ∨ lo σ0 t = .none
  keys : ∀ t, lo σ0 t ≠ .none → t ∈ σ1.map (·.1)
  frok : ∀ d ∈ fr, FrOk s σ1 d
  yield : YieldC G.P R l (gets s.env az) σ0 σ1 fr s.ex G.exv
section
variable {P : Program} {G : Ground} {a : Act} {w : World} {F : Fence} {n : Nat}
theorem raw_inv {A : Nat → Prop} {τ : Tau} {w : World} {x y : Value} (h : VRel A τ w (.one (.raw x)) y) : y = x := by
  have := one_inv h
  cases this with | c0 h => cases h with | raw => rfl
theorem yield_sound (hF : FOk F) {o : Oper} {f : Opd} {az : List Opd} (hc : compA G.P o.op = some (.call f az)) {s : AS} {σ1 : Sto} {R : Loop} {l : Nat} {σ0 : Sto} {fr : List Nat} (hs : SimS G s a w)
    (hy : YStep G f az s σ1 R l σ0 fr) (hd : ∀ t, o.dst = some t → t < G.nt) {K : Act → World → Prop} {Q : Exit → Act → World → Prop}
    (hK : ∀ a' w', SimS G (putd o.dst (pbool true) { s with σ := σ1 ++ s.σ }) a' w' → K a' w') : o.wpIn F n G.P a w K Q := by
  have hnd := compA_nodefer hc
  obtain ⟨A, τ, hs⟩ := hs
  refine wpIn_of_run hF hnd ?_
  obtain ⟨cl, hop, fo, hcallee, hfo, has⟩ : ∃ cl : Call, o.op = .call cl ∧ ∃ fo, cl.callee = .value fo ∧ opd fo = some f ∧ opds cl.args.toList = some az := by
    rcases call_inv' hc with ⟨cl, h1, fo, h2, h3, h4, _⟩ | ⟨_, _, _, _, _, _, _, _, _, rfl, _⟩
    · exact ⟨cl, h1, fo, h2, h3, h4⟩
    · have := hy.fget
      simp only [get] at this
      cases this
  have hfv := opd_sound hs hfo
  rw [hy.fget] at hfv
  have hav := opds_sound hs has
  have hz := raw_inv hfv
  have hlN : l < G.N := heap_lt hy.recd
  have hl : w.heap[l]? = some (.loop R) := (hs.below.block l hlN hy.ow).trans hy.recd
  have hAl : ¬ A l := fun h => by
    rcases hs.a1 l h with h1 | h1 | h1
    · exact hy.a0 h1
    · omega
    · exact hy.ow h1
  have hrun : (execOp a.eval o).run G.P w = (Instr.yield l ⟨cl.args.toList.map a.eval⟩).run G.P w := by
    have harr : (#[] : Array Value) ++ cl.args.map a.eval = ⟨cl.args.toList.map a.eval⟩ := by
      apply Array.ext'; simp
    simp only [execOp, hop, Sem.run_bind, resolve, hcallee, Deferred.ofValue, hz, Sem.run_pure, Result.andThen_ok, invoke, harr]
  have hY := callC_run (C := fun R' => YieldAt F (n - 1) G.P l ⟨cl.args.toList.map a.eval⟩ w R') (r := pbool true) (fr := fr) (fun h k => YieldAt.mono h k)
    (fun ex exs h1 h2 h3 h4 => hy.yield F (n - 1) A τ w _ ex exs hF hs.alt hav h1 h2 h3 h4 hl hAl) hs hy.sub hy.keys hy.frok
  obtain ⟨fn, tmps, x, y, h1, h2⟩ := hY
  rw [hrun, h1, Oper.uponIn_round]
  refine ⟨(fun hd => by rw [hF.depth] at hd; cases hd), h2.mono ?_⟩
  rintro e w' ⟨x, A', τ', rfl, _, hs', hr⟩
  refine hK _ _ ?_
  cases hdst : o.dst with
  | none => exact ⟨A', τ', hs'⟩
  | some t => exact ⟨A', τ', hs'.put (hd t hdst) hr⟩
end
end Go.AM

