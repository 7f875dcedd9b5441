import Derived.Test.YtjefhneggfbjfaaAmX
namespace Go.AM
open Go.RowKit (Below)
set_option linter.unusedSimpArgs false
set_option linter.unusedVariables false

/-! ### a region in its text's order, step by step: all guards are told -/
def SK (G : Ground) (os : List FOp) (K : AS → Prop) (s : AS) : Prop := ∃ S, Steps G.P G os s S ∧ K S

section
variable {G : Ground} {os : List FOp} {K : AS → Prop} {d : Nat} {g : Option (Nat × Bool)} {e : Env} {σ : Sto} {ex : List AV}
theorem S_q {q : QOp} {v : AV} (hd : d < G.nt) (hg : gmet e g = some true) (h : evQ q e σ = some v) (k : SK G os K { env := (d, v) :: e, σ := σ, ex := ex }) : SK G (⟨some d, g, .q q⟩ :: os) K { env := e, σ := σ, ex := ex } :=
  let ⟨S, h', k'⟩ := k; ⟨S, .cons (.run hg (fun t ht => by cases ht; exact hd) (.q h)) h', k'⟩
theorem S_skip {op : AOp} (hd : d < G.nt) (hg : gmet e g = some false) (k : SK G os K { env := (d, .und) :: e, σ := σ, ex := ex }) : SK G (⟨some d, g, op⟩ :: os) K { env := e, σ := σ, ex := ex } :=
  let ⟨S, h', k'⟩ := k; ⟨S, .cons (.skip hg (fun t ht => by cases ht; exact hd)) h', k'⟩
theorem S_skipN {op : AOp} (hg : gmet e g = some false) (k : SK G os K { env := e, σ := σ, ex := ex }) : SK G (⟨none, g, op⟩ :: os) K { env := e, σ := σ, ex := ex } :=
  let ⟨S, h', k'⟩ := k; ⟨S, .cons (.skip hg (fun t ht => by cases ht)) h', k'⟩
theorem S_n {q : NOp} {ob : AO} {v : AV} (hd : d < G.nt) (hg : gmet e g = some true) (hn : lo σ d = .none) (hr : AS.nr d { env := e, σ := σ, ex := ex } = true) (h : evN q e d = some (ob, v))
    (k : SK G os K { env := (d, v) :: e, σ := (d, ob) :: σ, ex := ex }) : SK G (⟨some d, g, .n q⟩ :: os) K { env := e, σ := σ, ex := ex } :=
  let ⟨S, h', k'⟩ := k; ⟨S, .cons (.run hg (fun t ht => by cases ht; exact hd) (.n rfl hn (AS.nr_Nr hr) h)) h', k'⟩
/-- a store -/
theorem S_st {q : SOp} {u : Nat} {ob : AO} {v : AV} (hg : gmet e g = some true) (h : evS q e σ 0 = some (u, ob, v, 0)) (k : SK G os K { env := e, σ := (u, ob) :: σ, ex := ex }) : SK G (⟨none, g, .s q⟩ :: os) K { env := e, σ := σ, ex := ex } :=
  let ⟨S, h', k'⟩ := k; ⟨S, .cons (.run (o := ⟨none, g, .s q⟩) hg (fun t ht => by cases ht) (.s (t := 0) (.inr rfl) h (fun hk => by cases hk))) h', k'⟩
/-- append, to nil -/
theorem S_ap1 {q : SOp} {ob : AO} {v : AV} (hd : d < G.nt) (hg : gmet e g = some true) (h : evS q e σ d = some (d, ob, v, 1)) (hn : lo σ d = .none) (hr : AS.nr d { env := e, σ := σ, ex := ex } = true)
    (k : SK G os K { env := (d, v) :: e, σ := (d, ob) :: σ, ex := ex }) : SK G (⟨some d, g, .s q⟩ :: os) K { env := e, σ := σ, ex := ex } :=
  let ⟨S, h', k'⟩ := k; ⟨S, .cons (.run (o := ⟨some d, g, .s q⟩) hg (fun t ht => by cases ht; exact hd) (.s (.inl rfl) h (fun _ => ⟨rfl, AS.nr_Nr hr, hn⟩))) h', k'⟩
/-- append, to what there is -/
theorem S_ap2 {q : SOp} {u : Nat} {ob : AO} {v : AV} {e1 : Env} {σ1 : Sto} {ex1 : List AV} (hd : d < G.nt) (hg : gmet e g = some true) (h : evS q e σ d = some (u, ob, v, 2)) (hs : AS.scr u { env := e, σ := σ, ex := ex } = { env := e1, σ := σ1, ex := ex1 })
    (k : SK G os K { env := (d, v) :: e1, σ := (u, ob) :: σ1, ex := ex1 }) : SK G (⟨some d, g, .s q⟩ :: os) K { env := e, σ := σ, ex := ex } := by
  obtain ⟨S, h', k'⟩ := k
  refine ⟨S, .cons (.run (o := ⟨some d, g, .s q⟩) hg (fun t ht => by cases ht; exact hd) (.s (.inl rfl) h (fun hk => by cases hk))) ?_, k'⟩
  simp only [newSt, if_true, hs, putd]
  exact h'
theorem S_call {f : Opd} {xs : List Opd} {r : DV} {σ' : Sto} (hd : d < G.nt) (hg : gmet e g = some true) (hc : CallR G.P f xs e σ σ' r) (k : SK G os K { env := (d, r.av) :: e, σ := σ', ex := ex }) :
    SK G (⟨some d, g, .call f xs⟩ :: os) K { env := e, σ := σ, ex := ex } :=
  let ⟨S, h', k'⟩ := k; ⟨S, .cons (.run hg (fun t ht => by cases ht; exact hd) (.call (s := { env := e, σ := σ, ex := ex }) hc)) h', k'⟩
theorem S_callM {f : Opd} {xs : List Opd} {r : AV} {σ1 : Sto} (hd : d < G.nt) (hg : gmet e g = some true) (hc : CallM G.P f xs { env := e, σ := σ, ex := ex } r σ1) (k : SK G os K { env := (d, r) :: e, σ := σ1 ++ σ, ex := ex }) :
    SK G (⟨some d, g, .call f xs⟩ :: os) K { env := e, σ := σ, ex := ex } :=
  let ⟨S, h', k'⟩ := k; ⟨S, .cons (.run hg (fun t ht => by cases ht; exact hd) (.callM (s := { env := e, σ := σ, ex := ex }) hc)) h', k'⟩
theorem S_keep {kp ids : List Nat} {s S : AS} (h : s.keep kp ids = S) : SK G [] (fun s' => s'.keep kp ids = S) s := ⟨s, .nil, h⟩

variable {F : Fence} {n : Nat} {Q : Exit → AS → Prop} {s S : AS}
theorem T_regK (hF : FOk F) {t : TOps} {kp ids : List Nat} (h : SK G t.flat (fun s' => s'.keep kp ids = S) s) (k : Q .normal S) : T G F n (.region none t kp ids) Q s := by
  obtain ⟨S', h1, h2⟩ := h
  refine T_mono (T_steps (Q := fun e s' => e = .normal ∧ s' = S) hF (h1.append (l := t.flat) (m := []) (.weak (h2 ▸ keep_weak G kp ids S') .nil) |> (by simpa using ·)) ⟨rfl, rfl⟩) ?_
  rintro e s' ⟨rfl, rfl⟩
  exact k
theorem T_srK (hF : FOk F) {t : TOps} {kp ids : List Nat} {b : ACode} (h : SK G t.flat (fun s' => s'.keep kp ids = S) s) (k : T G F n b Q S) : T G F n (.seq (.region none t kp ids) b) Q s := T_seq (T_regK hF h ⟨k⟩)
end

theorem Weak.sub {G : Ground} {e : Env} {σ σ' : Sto} {ex : List AV} (h : ∀ p ∈ σ', lo σ p.1 = p.2) : Weak G { env := e, σ := σ, ex := ex } { env := e, σ := σ', ex := ex } :=
  Weak.sto (s := { env := e, σ := σ, ex := ex }) (lo_of_mem h)

/-! the same, the guard first: a step is carried out, or skipped -/
structure SKt (G : Ground) (o : FOp) (os : List FOp) (K : AS → Prop) (s : AS) : Prop where
  of : gmet s.env o.g = some true → SK G (o :: os) K s
structure SKf (G : Ground) (o : FOp) (os : List FOp) (K : AS → Prop) (s : AS) : Prop where
  of : gmet s.env o.g = some false → SK G (o :: os) K s
def SKb (G : Ground) (b : Bool) (o : FOp) (os : List FOp) (K : AS → Prop) (s : AS) : Prop := match b with
  | true => SKt G o os K s
  | false => SKf G o os K s

section
variable {G : Ground} {os : List FOp} {K : AS → Prop} {d : Nat} {g : Option (Nat × Bool)} {e : Env} {σ : Sto} {ex : List AV}
theorem X_g {o : FOp} {b : Bool} {s : AS} (hg : gmet s.env o.g = some b) (k : SKb G b o os K s) : SK G (o :: os) K s := by
  cases b
  · exact SKf.of k hg
  · exact SKt.of k hg
theorem X_g0 {d : Option Nat} {op : AOp} {s : AS} (k : SKb G true ⟨d, none, op⟩ os K s) : SK G (⟨d, none, op⟩ :: os) K s := X_g (o := ⟨d, none, op⟩) rfl k
theorem X_q {q : QOp} {v : AV} (hd : d < G.nt) (h : evQ q e σ = some v) (k : SK G os K { env := (d, v) :: e, σ := σ, ex := ex }) : SKb G true ⟨some d, g, .q q⟩ os K { env := e, σ := σ, ex := ex } :=
  SKt.mk fun hg => S_q hd hg h k
theorem X_skip {op : AOp} (hd : d < G.nt) (k : SK G os K { env := (d, .und) :: e, σ := σ, ex := ex }) : SKb G false ⟨some d, g, op⟩ os K { env := e, σ := σ, ex := ex } :=
  SKf.mk fun hg => S_skip hd hg k
theorem X_skipN {op : AOp} (k : SK G os K { env := e, σ := σ, ex := ex }) : SKb G false ⟨none, g, op⟩ os K { env := e, σ := σ, ex := ex } :=
  SKf.mk fun hg => S_skipN hg k
theorem X_n {q : NOp} {ob : AO} {v : AV} (hd : d < G.nt) (h : evN q e d = some (ob, v))
    (k : (lo σ d = .none ∧ AS.nr d { env := e, σ := σ, ex := ex } = true) ∧ SK G os K { env := (d, v) :: e, σ := (d, ob) :: σ, ex := ex }) : SKb G true ⟨some d, g, .n q⟩ os K { env := e, σ := σ, ex := ex } := SKt.mk fun hg => S_n hd hg k.1.1 k.1.2 h k.2
theorem X_st {q : SOp} {u : Nat} {ob : AO} {v : AV} (h : evS q e σ 0 = some (u, ob, v, 0)) (k : SK G os K { env := e, σ := (u, ob) :: σ, ex := ex }) : SKb G true ⟨none, g, .s q⟩ os K { env := e, σ := σ, ex := ex } :=
  SKt.mk fun hg => S_st hg h k
theorem X_ap1 {q : SOp} {ob : AO} {v : AV} (hd : d < G.nt) (h : evS q e σ d = some (d, ob, v, 1))
    (k : (lo σ d = .none ∧ AS.nr d { env := e, σ := σ, ex := ex } = true) ∧ SK G os K { env := (d, v) :: e, σ := (d, ob) :: σ, ex := ex }) : SKb G true ⟨some d, g, .s q⟩ os K { env := e, σ := σ, ex := ex } := SKt.mk fun hg => S_ap1 hd hg h k.1.1 k.1.2 k.2
theorem X_ap2 {q : SOp} {u : Nat} {ob : AO} {v : AV} {e1 : Env} {σ1 : Sto} {ex1 : List AV} (hd : d < G.nt) (h : evS q e σ d = some (u, ob, v, 2))
    (k : AS.scr u { env := e, σ := σ, ex := ex } = { env := e1, σ := σ1, ex := ex1 } ∧ SK G os K { env := (d, v) :: e1, σ := (u, ob) :: σ1, ex := ex1 }) : SKb G true ⟨some d, g, .s q⟩ os K { env := e, σ := σ, ex := ex } := SKt.mk fun hg => S_ap2 hd hg h k.1 k.2
theorem X_call {f : Opd} {xs : List Opd} {r : DV} {σ' : Sto} (hd : d < G.nt) (hc : CallR G.P f xs e σ σ' r) (k : SK G os K { env := (d, r.av) :: e, σ := σ', ex := ex }) :
    SKb G true ⟨some d, g, .call f xs⟩ os K { env := e, σ := σ, ex := ex } := SKt.mk fun hg => S_call hd hg hc k
theorem X_callM {f : Opd} {xs : List Opd} {r : AV} {σ1 : Sto} (hd : d < G.nt) (hc : CallM G.P f xs { env := e, σ := σ, ex := ex } r σ1) (k : SK G os K { env := (d, r) :: e, σ := σ1 ++ σ, ex := ex }) :
    SKb G true ⟨some d, g, .call f xs⟩ os K { env := e, σ := σ, ex := ex } := SKt.mk fun hg => S_callM hd hg hc k
end

structure RFt (P : Program) (o : FOp) (os : List FOp) (K : AS → Prop) (s : AS) : Prop where
  of : gmet s.env o.g = some true → RunF P (o :: os) K s
structure RFf (P : Program) (o : FOp) (os : List FOp) (K : AS → Prop) (s : AS) : Prop where
  of : gmet s.env o.g = some false → RunF P (o :: os) K s
def RFb (P : Program) (b : Bool) (o : FOp) (os : List FOp) (K : AS → Prop) (s : AS) : Prop := match b with
  | true => RFt P o os K s
  | false => RFf P o os K s
section
variable {P : Program} {os : List FOp} {K : AS → Prop} {d : Nat} {g : Option (Nat × Bool)} {e : Env} {σ : Sto} {ex : List AV}
theorem Y_g {o : FOp} {b : Bool} {s : AS} (hg : gmet s.env o.g = some b) (k : RFb P b o os K s) : RunF P (o :: os) K s := by
  cases b
  · exact RFf.of k hg
  · exact RFt.of k hg
theorem Y_g0 {d : Option Nat} {op : AOp} {s : AS} (k : RFb P true ⟨d, none, op⟩ os K s) : RunF P (⟨d, none, op⟩ :: os) K s := Y_g (o := ⟨d, none, op⟩) rfl k
theorem Y_q {q : QOp} {v : AV} (h : evQ q e σ = some v) (k : RunF P os K { env := (d, v) :: e, σ := σ, ex := ex }) : RFb P true ⟨some d, g, .q q⟩ os K { env := e, σ := σ, ex := ex } := RFt.mk fun hg => RunF_q hg h k
theorem Y_skip {op : AOp} (k : RunF P os K { env := (d, .und) :: e, σ := σ, ex := ex }) : RFb P false ⟨some d, g, op⟩ os K { env := e, σ := σ, ex := ex } := RFf.mk fun hg => RunF_skip hg k
theorem Y_call {f : Opd} {xs : List Opd} {r : DV} (hc : CallR P f xs e σ σ r) (hp : (gets e (f :: xs)).all AVp = true) (k : RunF P os K { env := (d, r.av) :: e, σ := σ, ex := ex }) :
    RFb P true ⟨some d, g, .call f xs⟩ os K { env := e, σ := σ, ex := ex } := RFt.mk fun hg => RunF_call hg hp hc k
end
end Go.AM

