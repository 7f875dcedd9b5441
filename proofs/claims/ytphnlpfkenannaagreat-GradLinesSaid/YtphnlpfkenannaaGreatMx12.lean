import Derived.Test.YtphnlpfkenannaaGreatMx11
import Derived.Test.YtphnlpfkenannaaGreatProg
import Derived.KernelRfl
set_option linter.unusedVariables false
set_option linter.unusedSimpArgs false
namespace Go.AM
open Go.RowKit (Below)

def SK (G : Ground) (os : List FOp) (K : AS → Prop) (s : AS) : Prop := ∃ S, Steps G.P G os s S ∧ K S
section
variable {G : Ground} {os : List FOp} {K : AS → Prop} {d : Nat} {g : Option (Nat × Bool)} {e : Env} {σ : Sto} {ex : List AV}
theorem S_q {q : QOp} {v : AV} (hd : d < G.nt) (hg : gmet e g = some true) (h : evQ q e σ = some v) (k : SK G os K { env := (d, v) :: e, σ := σ, ex := ex }) : SK G (⟨some d, g, .q q⟩ :: os) K { env := e, σ := σ, ex := ex } :=
  let ⟨S, h', k'⟩ := k; ⟨S, .cons (.run hg (fun t ht => by cases ht; exact hd) (.q h)) h', k'⟩
theorem S_skip {op : AOp} (hd : d < G.nt) (hg : gmet e g = some false) (k : SK G os K { env := (d, .und) :: e, σ := σ, ex := ex }) : SK G (⟨some d, g, op⟩ :: os) K { env := e, σ := σ, ex := ex } :=
  let ⟨S, h', k'⟩ := k; ⟨S, .cons (.skip hg (fun t ht => by cases ht; exact hd)) h', k'⟩
theorem S_skipN {op : AOp} (hg : gmet e g = some false) (k : SK G os K { env := e, σ := σ, ex := ex }) : SK G (⟨none, g, op⟩ :: os) K { env := e, σ := σ, ex := ex } :=
  let ⟨S, h', k'⟩ := k; ⟨S, .cons (.skip hg (fun t ht => by cases ht)) h', k'⟩
theorem S_n {q : NOp} {ob : AO} {v : AV} (hd : d < G.nt) (hg : gmet e g = some true) (hn : lo σ d = .none) (hr : AS.nr d { env := e, σ := σ, ex := ex } = true) (h : evN q e d = some (ob, v))
    (k : SK G os K { env := (d, v) :: e, σ := (d, ob) :: σ, ex := ex }) : SK G (⟨some d, g, .n q⟩ :: os) K { env := e, σ := σ, ex := ex } :=
  let ⟨S, h', k'⟩ := k; ⟨S, .cons (.run hg (fun t ht => by cases ht; exact hd) (.n rfl hn (AS.nr_Nr hr) h)) h', k'⟩
theorem S_nF {q : NOp} {k len : Nat} {rows : List (List PV)} (hd : d < G.nt) (hg : gmet e g = some true) (hn : lo σ d = .none) (hr : AS.nr d { env := e, σ := σ, ex := ex } = true) (h : evN q e d = some (.arr true k rows, .one (.msl d 0 k len none))) (hl : len = rows.length)
    (kk : SK G os K { env := (d, .one (.p (.sl rows))) :: e, σ := σ, ex := ex }) : SK G (⟨some d, g, .n q⟩ :: os) K { env := e, σ := σ, ex := ex } :=
  let ⟨S, h', k'⟩ := kk; ⟨S, .cons (.run hg (fun t ht => by cases ht; exact hd) (.nF (s := { env := e, σ := σ, ex := ex }) rfl hn (AS.nr_Nr hr) h hl)) h', k'⟩
theorem S_st {q : SOp} {u : Nat} {ob : AO} {v : AV} (hg : gmet e g = some true) (h : evS q e σ 0 = some (u, ob, v, 0)) (k : SK G os K { env := e, σ := (u, ob) :: σ, ex := ex }) : SK G (⟨none, g, .s q⟩ :: os) K { env := e, σ := σ, ex := ex } :=
  let ⟨S, h', k'⟩ := k; ⟨S, .cons (.run (o := ⟨none, g, .s q⟩) hg (fun t ht => by cases ht) (.s (t := 0) (.inr rfl) h (fun hk => by cases hk))) h', k'⟩
theorem S_ap1 {q : SOp} {ob : AO} {v : AV} (hd : d < G.nt) (hg : gmet e g = some true) (h : evS q e σ d = some (d, ob, v, 1)) (hn : lo σ d = .none) (hr : AS.nr d { env := e, σ := σ, ex := ex } = true)
    (k : SK G os K { env := (d, v) :: e, σ := (d, ob) :: σ, ex := ex }) : SK G (⟨some d, g, .s q⟩ :: os) K { env := e, σ := σ, ex := ex } :=
  let ⟨S, h', k'⟩ := k; ⟨S, .cons (.run (o := ⟨some d, g, .s q⟩) hg (fun t ht => by cases ht; exact hd) (.s (.inl rfl) h (fun _ => ⟨rfl, AS.nr_Nr hr, hn⟩))) h', k'⟩
theorem S_ap2 {q : SOp} {u : Nat} {ob : AO} {v : AV} {e1 : Env} {σ1 : Sto} {ex1 : List AV} (hd : d < G.nt) (hg : gmet e g = some true) (h : evS q e σ d = some (u, ob, v, 2)) (hs : AS.scr u { env := e, σ := σ, ex := ex } = { env := e1, σ := σ1, ex := ex1 })
    (k : SK G os K { env := (d, v) :: e1, σ := (u, ob) :: σ1, ex := ex1 }) : SK G (⟨some d, g, .s q⟩ :: os) K { env := e, σ := σ, ex := ex } := by
  obtain ⟨S, h', k'⟩ := k
  refine ⟨S, .cons (.run (o := ⟨some d, g, .s q⟩) hg (fun t ht => by cases ht; exact hd) (.s (.inl rfl) h (fun hk => by cases hk))) ?_, k'⟩
  simp only [newSt, if_true, hs, putd]
  exact h'
theorem S_call {f : Opd} {xs : List Opd} {r : DV} {σ' : Sto} (hd : d < G.nt) (hg : gmet e g = some true) (hc : CallR G.P f xs e σ σ' r) (k : SK G os K { env := (d, r.av) :: e, σ := σ', ex := ex }) :
    SK G (⟨some d, g, .call f xs⟩ :: os) K { env := e, σ := σ, ex := ex } :=
  let ⟨S, h', k'⟩ := k; ⟨S, .cons (.run hg (fun t ht => by cases ht; exact hd) (.call (s := { env := e, σ := σ, ex := ex }) hc)) h', k'⟩
theorem S_callM {f : Opd} {xs : List Opd} {r : AV} {σ1 : Sto} (hd : d < G.nt) (hg : gmet e g = some true) (hc : CallM G.P f xs { env := e, σ := σ, ex := ex } r σ1) (k : SK G os K { env := (d, r) :: e, σ := σ1 ++ σ, ex := ex }) :
    SK G (⟨some d, g, .call f xs⟩ :: os) K { env := e, σ := σ, ex := ex } :=
  let ⟨S, h', k'⟩ := k; ⟨S, .cons (.run hg (fun t ht => by cases ht; exact hd) (.callM (s := { env := e, σ := σ, ex := ex }) hc)) h', k'⟩
theorem S_callI {f : Opd} {xs : List Opd} {r : DV} {σ' : Sto} (hd : d < G.nt) (hg : gmet e g = some true) (hc : CallI G.P f xs e σ σ' r) (k : SK G os K { env := (d, r.av) :: e, σ := σ', ex := ex }) :
    SK G (⟨some d, g, .call f xs⟩ :: os) K { env := e, σ := σ, ex := ex } :=
  let ⟨S, h', k'⟩ := k; ⟨S, .cons (.run hg (fun t ht => by cases ht; exact hd) (.callI (s := { env := e, σ := σ, ex := ex }) hc)) h', k'⟩
theorem S_keep {kp ids : List Nat} {s S : AS} (h : s.keep kp ids = S) : SK G [] (fun s' => s'.keep kp ids = S) s := ⟨s, .nil, h⟩
variable {F : Fence} {n : Nat} {Q : Exit → AS → Prop} {s S : AS}
theorem T_regK (hF : FOk F) {t : TOps} {kp ids : List Nat} (h : SK G t.flat (fun s' => s'.keep kp ids = S) s) (k : Q .normal S) : T G F n (.region none t kp ids) Q s := by
  obtain ⟨S', h1, h2⟩ := h
  refine T_mono (T_steps (Q := fun e s' => e = .normal ∧ s' = S) hF (h1.append (l := t.flat) (m := []) (.weak (h2 ▸ keep_weak G kp ids S') .nil) |> (by simpa using ·)) ⟨rfl, rfl⟩) ?_
  rintro e s' ⟨rfl, rfl⟩
  exact k
theorem T_srK (hF : FOk F) {t : TOps} {kp ids : List Nat} {b : ACode} (h : SK G t.flat (fun s' => s'.keep kp ids = S) s) (k : T G F n b Q S) : T G F n (.seq (.region none t kp ids) b) Q s := T_seq (T_regK hF h ⟨k⟩)
end
theorem Weak.sub {G : Ground} {e : Env} {σ σ' : Sto} {ex : List AV} (h : ∀ p ∈ σ', lo σ p.1 = p.2) : Weak G { env := e, σ := σ, ex := ex } { env := e, σ := σ', ex := ex } :=
  Weak.sto (s := { env := e, σ := σ, ex := ex }) (lo_of_mem h)
structure SKt (G : Ground) (o : FOp) (os : List FOp) (K : AS → Prop) (s : AS) : Prop where
  of : gmet s.env o.g = some true → SK G (o :: os) K s
structure SKf (G : Ground) (o : FOp) (os : List FOp) (K : AS → Prop) (s : AS) : Prop where
  of : gmet s.env o.g = some false → SK G (o :: os) K s
def SKb (G : Ground) (b : Bool) (o : FOp) (os : List FOp) (K : AS → Prop) (s : AS) : Prop := match b with
  | true => SKt G o os K s
  | false => SKf G o os K s
section
variable {G : Ground} {os : List FOp} {K : AS → Prop} {d : Nat} {g : Option (Nat × Bool)} {e : Env} {σ : Sto} {ex : List AV}
theorem X_g {o : FOp} {b : Bool} {s : AS} (hg : gmet s.env o.g = some b) (k : SKb G b o os K s) : SK G (o :: os) K s := by
  cases b
  · exact SKf.of k hg
  · exact SKt.of k hg
theorem X_g0 {d : Option Nat} {op : AOp} {s : AS} (k : SKb G true ⟨d, none, op⟩ os K s) : SK G (⟨d, none, op⟩ :: os) K s := X_g (o := ⟨d, none, op⟩) rfl k
theorem X_q {q : QOp} {v : AV} (hd : d < G.nt) (h : evQ q e σ = some v) (k : SK G os K { env := (d, v) :: e, σ := σ, ex := ex }) : SKb G true ⟨some d, g, .q q⟩ os K { env := e, σ := σ, ex := ex } :=
  SKt.mk fun hg => S_q hd hg h k
theorem X_skip {op : AOp} (hd : d < G.nt) (k : SK G os K { env := (d, .und) :: e, σ := σ, ex := ex }) : SKb G false ⟨some d, g, op⟩ os K { env := e, σ := σ, ex := ex } :=
  SKf.mk fun hg => S_skip hd hg k
theorem X_skipN {op : AOp} (k : SK G os K { env := e, σ := σ, ex := ex }) : SKb G false ⟨none, g, op⟩ os K { env := e, σ := σ, ex := ex } :=
  SKf.mk fun hg => S_skipN hg k
theorem X_n {q : NOp} {ob : AO} {v : AV} (hd : d < G.nt) (h : evN q e d = some (ob, v))
    (k : (lo σ d = .none ∧ AS.nr d { env := e, σ := σ, ex := ex } = true) ∧ SK G os K { env := (d, v) :: e, σ := (d, ob) :: σ, ex := ex }) : SKb G true ⟨some d, g, .n q⟩ os K { env := e, σ := σ, ex := ex } := SKt.mk fun hg => S_n hd hg k.1.1 k.1.2 h k.2
theorem X_nF {q : NOp} {k len : Nat} {rows : List (List PV)} (hd : d < G.nt) (h : evN q e d = some (.arr true k rows, .one (.msl d 0 k len none))) (hl : len = rows.length)
    (kk : (lo σ d = .none ∧ AS.nr d { env := e, σ := σ, ex := ex } = true) ∧ SK G os K { env := (d, .one (.p (.sl rows))) :: e, σ := σ, ex := ex }) : SKb G true ⟨some d, g, .n q⟩ os K { env := e, σ := σ, ex := ex } := SKt.mk fun hg => S_nF hd hg kk.1.1 kk.1.2 h hl kk.2
theorem X_st {q : SOp} {u : Nat} {ob : AO} {v : AV} (h : evS q e σ 0 = some (u, ob, v, 0)) (k : SK G os K { env := e, σ := (u, ob) :: σ, ex := ex }) : SKb G true ⟨none, g, .s q⟩ os K { env := e, σ := σ, ex := ex } :=
  SKt.mk fun hg => S_st hg h k
theorem X_ap1 {q : SOp} {ob : AO} {v : AV} (hd : d < G.nt) (h : evS q e σ d = some (d, ob, v, 1))
    (k : (lo σ d = .none ∧ AS.nr d { env := e, σ := σ, ex := ex } = true) ∧ SK G os K { env := (d, v) :: e, σ := (d, ob) :: σ, ex := ex }) : SKb G true ⟨some d, g, .s q⟩ os K { env := e, σ := σ, ex := ex } := SKt.mk fun hg => S_ap1 hd hg h k.1.1 k.1.2 k.2
theorem X_ap2 {q : SOp} {u : Nat} {ob : AO} {v : AV} {e1 : Env} {σ1 : Sto} {ex1 : List AV} (hd : d < G.nt) (h : evS q e σ d = some (u, ob, v, 2))
    (k : AS.scr u { env := e, σ := σ, ex := ex } = { env := e1, σ := σ1, ex := ex1 } ∧ SK G os K { env := (d, v) :: e1, σ := (u, ob) :: σ1, ex := ex1 }) : SKb G true ⟨some d, g, .s q⟩ os K { env := e, σ := σ, ex := ex } := SKt.mk fun hg => S_ap2 hd hg h k.1 k.2
theorem X_call {f : Opd} {xs : List Opd} {r : DV} {σ' : Sto} (hd : d < G.nt) (hc : CallR G.P f xs e σ σ' r) (k : SK G os K { env := (d, r.av) :: e, σ := σ', ex := ex }) :
    SKb G true ⟨some d, g, .call f xs⟩ os K { env := e, σ := σ, ex := ex } := SKt.mk fun hg => S_call hd hg hc k
theorem X_callI {f : Opd} {xs : List Opd} {r : DV} {σ' : Sto} (hd : d < G.nt) (hc : CallI G.P f xs e σ σ' r) (k : SK G os K { env := (d, r.av) :: e, σ := σ', ex := ex }) :
    SKb G true ⟨some d, g, .call f xs⟩ os K { env := e, σ := σ, ex := ex } := SKt.mk fun hg => S_callI hd hg hc k
theorem X_callM {f : Opd} {xs : List Opd} {r : AV} {σ1 : Sto} (hd : d < G.nt) (hc : CallM G.P f xs { env := e, σ := σ, ex := ex } r σ1) (k : SK G os K { env := (d, r) :: e, σ := σ1 ++ σ, ex := ex }) :
    SKb G true ⟨some d, g, .call f xs⟩ os K { env := e, σ := σ, ex := ex } := SKt.mk fun hg => S_callM hd hg hc k
end
structure RFt (P : Program) (o : FOp) (os : List FOp) (K : AS → Prop) (s : AS) : Prop where
  of : gmet s.env o.g = some true → RunF P (o :: os) K s
structure RFf (P : Program) (o : FOp) (os : List FOp) (K : AS → Prop) (s : AS) : Prop where
  of : gmet s.env o.g = some false → RunF P (o :: os) K s
def RFb (P : Program) (b : Bool) (o : FOp) (os : List FOp) (K : AS → Prop) (s : AS) : Prop := match b with
  | true => RFt P o os K s
  | false => RFf P o os K s
section
variable {P : Program} {os : List FOp} {K : AS → Prop} {d : Nat} {g : Option (Nat × Bool)} {e : Env} {σ : Sto} {ex : List AV}
theorem Y_g {o : FOp} {b : Bool} {s : AS} (hg : gmet s.env o.g = some b) (k : RFb P b o os K s) : RunF P (o :: os) K s := by
  cases b
  · exact RFf.of k hg
  · exact RFt.of k hg
theorem Y_g0 {d : Option Nat} {op : AOp} {s : AS} (k : RFb P true ⟨d, none, op⟩ os K s) : RunF P (⟨d, none, op⟩ :: os) K s := Y_g (o := ⟨d, none, op⟩) rfl k
theorem Y_q {q : QOp} {v : AV} (h : evQ q e σ = some v) (k : RunF P os K { env := (d, v) :: e, σ := σ, ex := ex }) : RFb P true ⟨some d, g, .q q⟩ os K { env := e, σ := σ, ex := ex } := RFt.mk fun hg => RunF_q hg h k
theorem Y_skip {op : AOp} (k : RunF P os K { env := (d, .und) :: e, σ := σ, ex := ex }) : RFb P false ⟨some d, g, op⟩ os K { env := e, σ := σ, ex := ex } := RFf.mk fun hg => RunF_skip hg k
theorem Y_call {f : Opd} {xs : List Opd} {r : DV} (hc : CallR P f xs e σ σ r) (hp : (gets e (f :: xs)).all AVp = true) (k : RunF P os K { env := (d, r.av) :: e, σ := σ, ex := ex }) :
    RFb P true ⟨some d, g, .call f xs⟩ os K { env := e, σ := σ, ex := ex } := RFt.mk fun hg => RunF_call hg hp hc k
end
end Go.AM

namespace Go.AM
attribute [go_sem] Run RunI evQ evN evS evBinV evBin evNil isNilK isNilC isNeq ldP ldC ldO get gets acs pvs C0ok parts asCells fillC srcOf srcZ partsP setRows putd newSt AS.keep AS.keepE pint pbool List.map List.length lk lo initE DV.av DV.av1 TOps.dsts if_true if_false ite_true ite_false Option.getD Option.toList List.cons_append List.nil_append List.append_nil decide_true decide_false Bool.not_true Bool.not_false cond_true cond_false List.length_map List.getElem?_map Option.map Int.toNat_natCast Int.natCast_nonneg Int.ofNat_lt true_and and_true List.take List.drop Bool.false_eq_true List.getElem?_cons_zero List.getElem?_cons_succ Nat.add_zero Nat.zero_add Bool.and_true Bool.true_and Bool.or_false Bool.false_or Bool.and_false Bool.or_true Bool.true_or Bool.false_and AS.scr AV.scr AC.scr AO.scr AS.nr List.all_cons List.all_nil AV.has AV.has.hasV AC.has AC.has.hasL AO.nr decide_eq_true_eq false_and and_false List.set List.replicate ne_eq not_true not_false_eq_true Nat.zero_mul Int.mul_one List.length_set Option.bind Nat.zero_le max1 max2 max3 max4 max5 max6 max7 max8 Nat.le_refl List.length_append List.length_cons List.length_nil List.length_replicate ddS restS List.filter_cons List.filter_nil List.contains_cons List.contains_nil beq_self_eq_true initV bne_self_eq_false false_implies true_implies imp_self implies_true
attribute [go_sem] RunD TOps.flat okPair okN okInd okCl okFr rdOf AV.id1 FOp.us usG AOp.opds QOp.opds NOp.opds SOp.opds Opd.us FP.scO gmet AVp ACp dtOf dobOf It.o It.f List.flatMap_cons List.flatMap_nil Option.isNone List.filter List.filterMap Option.some_beq_some Option.some_beq_none Option.none_beq_some Option.map_none Option.map_some Bool.or_self Bool.and_self List.filterMap_cons List.filterMap_nil Option.isNone_none Option.isNone_some RunF
attribute [go_sem] bndI roomOf slcC findE entV entriesOf putM carryN chunk isTop oleB Int.cast_ofNat_Int Int.natCast_zero Int.natCast_one TOps.flat Nat.sub_zero Nat.sub_self List.flatten_cons List.flatten_nil true_or or_true Option.some.injEq
end Go.AM

namespace Go.AM
section
variable {G : Ground} {F : Fence} {n : Nat} {Q : Exit → AS → Prop} {s : AS}
theorem callM_mk {P : Program} {f : Opd} {az : List Opd} {s : AS} {r : AV} {σ1 σ0 : Sto} {c : AC} {id : FuncId} {first caps : List AV} {fr : List Nat} (h1 : get s.env f = .one c) (h2 : fnOf c = some (id, first, caps))
    (h6 : MutC P id (first ++ gets s.env az ++ caps) σ0 r σ1 fr) (h3 : ∀ p ∈ σ0, lo s.σ p.1 = p.2) (h4 : ∀ p ∈ σ0, p.1 ∈ σ1.map (·.1)) (h5 : ∀ d ∈ fr, s.nr d = true ∧ lo s.σ d = .none) : CallM P f az s r σ1 :=
  ⟨c, id, first, caps, σ0, fr, h1, h2, h3, h4, fun d hd => ⟨AS.nr_Nr (h5 d hd).1, (h5 d hd).2⟩, h6⟩
theorem S_st1 {os : List FOp} {K : AS → Prop} {d : Nat} {g : Option (Nat × Bool)} {e : Env} {σ : Sto} {ex : List AV} {q : SOp} {u : Nat} {ob : AO} {v : AV} (hd : d < G.nt) (hg : gmet e g = some true) (h : evS q e σ d = some (u, ob, v, 0)) (k : SK G os K { env := (d, v) :: e, σ := (u, ob) :: σ, ex := ex }) :
    SK G (⟨some d, g, .s q⟩ :: os) K { env := e, σ := σ, ex := ex } :=
  let ⟨S, h', k'⟩ := k; ⟨S, .cons (.run (o := ⟨some d, g, .s q⟩) hg (fun t ht => by cases ht; exact hd) (.s (t := d) (.inl rfl) h (fun hk => by cases hk))) h', k'⟩
theorem X_st1 {os : List FOp} {K : AS → Prop} {d : Nat} {g : Option (Nat × Bool)} {e : Env} {σ : Sto} {ex : List AV} {q : SOp} {u : Nat} {ob : AO} {v : AV} (hd : d < G.nt) (h : evS q e σ d = some (u, ob, v, 0)) (k : SK G os K { env := (d, v) :: e, σ := (u, ob) :: σ, ex := ex }) :
    SKb G true ⟨some d, g, .s q⟩ os K { env := e, σ := σ, ex := ex } := SKt.mk fun hg => S_st1 hd hg h k
structure SKs (G : Ground) (os : List FOp) (K : AS → Prop) (d : Nat) (e : Env) (σ : Sto) (ex : List AV) (k u : Nat) (ob : AO) (v : AV) : Prop where
  of : match k with
    | 0 => SK G os K { env := (d, v) :: e, σ := (u, ob) :: σ, ex := ex }
    | 1 => u = d ∧ (lo σ d = .none ∧ AS.nr d { env := e, σ := σ, ex := ex } = true) ∧ SK G os K { env := (d, v) :: e, σ := (d, ob) :: σ, ex := ex }
    | 2 => ∃ e1 σ1 ex1, AS.scr u { env := e, σ := σ, ex := ex } = { env := e1, σ := σ1, ex := ex1 } ∧ SK G os K { env := (d, v) :: e1, σ := (u, ob) :: σ1, ex := ex1 }
    | _ => False
section
variable {G : Ground} {os : List FOp} {K : AS → Prop} {d u : Nat} {g : Option (Nat × Bool)} {e : Env} {σ : Sto} {ex : List AV} {ob : AO} {v : AV}
theorem SKs0 (h : SK G os K { env := (d, v) :: e, σ := (u, ob) :: σ, ex := ex }) : SKs G os K d e σ ex 0 u ob v := ⟨h⟩
theorem SKs1 (h : (lo σ d = .none ∧ AS.nr d { env := e, σ := σ, ex := ex } = true) ∧ SK G os K { env := (d, v) :: e, σ := (d, ob) :: σ, ex := ex }) : SKs G os K d e σ ex 1 d ob v := ⟨⟨rfl, h⟩⟩
theorem SKs2 {e1 : Env} {σ1 : Sto} {ex1 : List AV} (h : AS.scr u { env := e, σ := σ, ex := ex } = { env := e1, σ := σ1, ex := ex1 } ∧ SK G os K { env := (d, v) :: e1, σ := (u, ob) :: σ1, ex := ex1 }) : SKs G os K d e σ ex 2 u ob v := ⟨⟨_, _, _, h⟩⟩
theorem X_s {q : SOp} {k : Nat} (hd : d < G.nt) (h : evS q e σ d = some (u, ob, v, k)) (hk : SKs G os K d e σ ex k u ob v) : SKb G true ⟨some d, g, .s q⟩ os K { env := e, σ := σ, ex := ex } := by
  obtain ⟨hk⟩ := hk
  match k, hk with
  | 0, hk => exact X_st1 hd h hk
  | 1, hk => obtain ⟨rfl, hk⟩ := hk; exact X_ap1 hd h hk
  | 2, hk => obtain ⟨e1, σ1, ex1, hk⟩ := hk; exact X_ap2 hd h hk
  | k + 3, hk => exact hk.elim
end
def RunE (P : Program) (s0 : AS) : Nat → List (List Nat) → List FOp → List It → (AS → Prop) → AS → Prop
  | _, [], [], _, K, s => K s
  | i, un :: uns, o :: os, acc, K, s =>
    match gmet s.env o.g with
    | some false => acc.all (fun t => okPair un t (i, o, { v := .und })) = true ∧ RunE P s0 (i + 1) uns os ((i, o, { v := .und }) :: acc) K (putd o.d .und s)
    | some true => match o.op with
      | .q q => match evQ q s.env s.σ with
        | some v => acc.all (fun t => okPair un t (i, o, { v := v, rd := rdOf (.q q) s.env })) = true ∧ RunE P s0 (i + 1) uns os ((i, o, { v := v, rd := rdOf (.q q) s.env }) :: acc) K (putd o.d v s)
        | none => False
      | .s q => match evS q s.env s.σ (o.d.getD 0) with
        | some (u, ob, v, k) => (k = 0 ∧ oleB ob (lo s.σ u) = true) ∧ acc.all (fun t => okPair un t (i, o, { v := v, rd := u :: rdOf (.s q) s.env })) = true ∧
            RunE P s0 (i + 1) uns os ((i, o, { v := v, rd := u :: rdOf (.s q) s.env }) :: acc) K (putd o.d v s)
        | none => False
      | _ => False
    | none => False
  | _, _, _, _, _, _ => False
def findL : ACode → Nat → Option ACode
  | .seq a b, l => match findL a l with
    | some r => some (.seq r b)
    | none => findL b l
  | .label l', l => if l' == l then some .skip else none
  | _, _ => none
theorem findL_sound {P : Program} {nt l : Nat} : ∀ {c : ACode} {cc : Code}, compC P cc = some c.erase → c.ok nt = true →
    match findL c l with
    | some r => ∃ rc, findLabel cc l = some rc ∧ compC P rc = some r.erase ∧ r.ok nt = true
    | none => findLabel cc l = none := by
  intro c
  induction c with
  | seq a b iha ihb =>
    intro cc hc hok
    obtain ⟨ca, cb, rfl, h1, h2⟩ := inv_seq hc
    simp only [ACode.ok, Bool.and_eq_true] at hok
    have ka := iha h1 hok.1
    have kb := ihb h2 hok.2
    simp only [findL, findLabel]
    cases hf : findL a l with
    | some r =>
      rw [hf] at ka
      obtain ⟨rc, q1, q2, q3⟩ := ka
      refine ⟨.seq rc cb, by rw [q1], ?_, by simp [ACode.ok, q3, hok.2]⟩
      simp only [compC, q2, h2, ACode.erase]; rfl
    | none =>
      rw [hf] at ka
      simp only at ka
      simp only [ka]
      exact kb
  | label l' =>
    intro cc hc hok
    have := inv_label hc
    subst this
    simp only [findL, findLabel]
    split
    · rename_i r hr
      split at hr
      · cases hr; rename_i hl; exact ⟨.skip, by rw [if_pos hl], rfl, rfl⟩
      · cases hr
    · rename_i hr
      split at hr
      · cases hr
      · rename_i hl; rw [if_neg hl]
  | skip => intro cc hc _; have := inv_skip hc; subst this; rfl
  | region un t k i =>
    intro cc hc _
    simp only [ACode.erase] at hc
    obtain ⟨id, ops, d, l0, rfl, _⟩ := inv_region0 hc
    rfl
  | cond c x y _ _ => intro cc hc _; obtain ⟨_, _, _, rfl, _⟩ := inv_cond hc; rfl
  | block i c _ => intro cc hc _; obtain ⟨_, rfl, _⟩ := inv_block hc; rfl
  | loop c _ => intro cc hc _; obtain ⟨_, rfl, _⟩ := inv_loop hc; rfl
  | scope c _ => intro cc hc _; obtain ⟨_, rfl, _⟩ := inv_scope hc; rfl
  | exit i => intro cc hc _; have := inv_exit hc; subst this; rfl
  | goto i => intro cc hc _; have := inv_goto hc; subst this; rfl
  | ret => intro cc hc _; have := inv_ret hc; subst this; rfl
  | range f ps x y _ _ => intro cc hc _; obtain ⟨_, _, _, _, rfl, _⟩ := inv_range hc; rfl
structure jmp (G : Ground) (n l : Nat) (rest : ACode) (Q : Exit → AS → Prop) (e : Exit) (s : AS) : Prop where
  of : match e with
    | .goto l' => l' = l ∧ T G Fence.wide n rest (noGo Q) s
    | e => Q e s
theorem T_scopeJ (l : Nat) {c rest : ACode} (hf : findL c l = some rest) (h : T G Fence.wide n c (jmp G n l rest Q) s) : T G Fence.wide n (.scope c) Q s := by
  refine ⟨fun code hc hok a w hs => ?_⟩
  obtain ⟨cc, rfl, hc'⟩ := inv_scope hc
  have hok' : c.ok G.nt = true := hok
  have hfs := findL_sound (l := l) hc' hok'
  rw [hf] at hfs
  obtain ⟨rc, q1, q2, q3⟩ := hfs
  refine wpIn_wide.2 (wp_scope_jumps l (fun a w => ∃ s', SimS G s' a w ∧ T G Fence.wide n rest (noGo Q) s') (fun _ _ => 0) q1 (wpIn_wide.1 (wpIn_mono (h.of cc hc' hok' a w hs) ?_)) ?_)
  · rintro e a w ⟨s', hq, hs'⟩
    obtain ⟨hq⟩ := hq
    cases e with
    | goto l' => exact ⟨hq.1, s', hs', hq.2⟩
    | _ => exact ⟨s', hq, hs'⟩
  · rintro a w ⟨s', hs', hT⟩
    refine wpIn_wide.1 (wpIn_mono (hT.of rc q2 q3 a w hs') ?_)
    rintro e a w ⟨s', hq, hs'⟩
    obtain ⟨hq⟩ := hq
    cases e <;> first | exact hq.elim | exact ⟨s', hq, hs'⟩
variable {l id : Nat} {rest : ACode}
theorem jmp_normal (h : Q .normal s) : jmp G n l rest Q .normal s := ⟨h⟩
theorem jmp_ret (h : Q .ret s) : jmp G n l rest Q .ret s := ⟨h⟩
theorem jmp_exit (h : Q (.exit id) s) : jmp G n l rest Q (.exit id) s := ⟨h⟩
theorem jmp_goto (h : T G Fence.wide n rest (noGo Q) s) : jmp G n l rest Q (.goto l) s := ⟨rfl, h⟩
end
end Go.AM
namespace Go.AM
attribute [go_sem] RunE
end Go.AM

namespace Go.AM
open Go
section
variable (d : Nat)
abbrev mv (s : Nat) (r : TOps) : TOps := .op (some d) none (.q (.mov (.t s))) r
abbrev ic (n : Int) : Opd := .c (.one (.p (.int .i64 n)))
abbrev qq (q : QOp) (r : TOps) : TOps := .op (some d) none (.q q) r
abbrev nn (q : NOp) (r : TOps) : TOps := .op (some d) none (.n q) r
abbrev ss (q : SOp) (r : TOps) : TOps := .op none none (.s q) r
abbrev sd (q : SOp) (r : TOps) : TOps := .op (some d) none (.s q) r
end
section
variable (d : Nat)
abbrev mc (n : Int) (r : TOps) : TOps := .op (some d) none (.q (.mov (.c (.one (.p (.int .i64 n)))))) r
abbrev xt (s n : Nat) (r : TOps) : TOps := .op (some d) none (.q (.extr (.t s) n)) r
abbrev bt (o : BinOp) (x y : Nat) (r : TOps) : TOps := .op (some d) none (.q (.bin o (.t x) (.t y))) r
abbrev bc (o : BinOp) (x : Nat) (n : Int) (r : TOps) : TOps := .op (some d) none (.q (.bin o (.t x) (.c (.one (.p (.int .i64 n)))))) r
abbrev ld (n : Nat) (g : Bool) (x : Nat) (r : TOps) : TOps := .op (some d) none (.q (.load n g (.t x))) r
abbrev fa (n x : Nat) (r : TOps) : TOps := .op (some d) none (.q (.faddr n (.t x))) r
abbrev ia (n x y : Nat) (r : TOps) : TOps := .op (some d) none (.q (.iaddr n (.t x) (.t y))) r
abbrev le (x : Nat) (r : TOps) : TOps := .op (some d) none (.q (.len (.t x))) r
abbrev al (z : List AC) (r : TOps) : TOps := .op (some d) none (.n (.alloc z)) r
abbrev cl (f : FuncId) (xs : List Nat) (r : TOps) : TOps := .op (some d) none (.call (.c (.one (.p (.fn f [] [])))) (xs.map .t)) r
end
abbrev st (n a x : Nat) (r : TOps) : TOps := .op none none (.s (.store n (.t a) (.t x))) r
abbrev rg (k i : List Nat) (t : TOps) : ACode := .region none t k i
abbrev sr (k i : List Nat) (t : TOps) (b : ACode) : ACode := .seq (.region none t k i) b
abbrev cd (c : Nat) (a b : ACode) : ACode := .cond (.t c) a b
abbrev ib (k i : List Nat) (t : TOps) (c : Nat) (a b : ACode) : ACode := .seq (.seq (.region none t k i) (.cond (.t c) a .skip)) b
def PureT (P : Program) (f : FuncId) (nt : Nat) (ac : ACode) (rv : List RV) : Prop :=
  ∀ {ds : List DV} {r : DV}, ds.length ≤ nt → (∀ (G : Ground), G.P = P → G.nt = nt → T G Fence.wide 0 ac (Ends rv r) { env := initE 0 ds, σ := [] }) → PureC P f ds r
def MutT (P : Program) (f : FuncId) (nt : Nat) (ac : ACode) (rv : List RV) : Prop :=
  ∀ {vs : List AV} {σ σ' : Sto} {r : AV} {fr : List Nat}, vs.length ≤ nt → (∀ (G : Ground) (ex : List AV), G.P = P → G.nt = nt → (∀ d ∈ fr, ex.all (fun v => !v.has d) = true) → T G Fence.wide 0 ac (EndsM rv r σ' ex) { env := initV 0 vs, σ := σ, ex := ex }) → MutC P f vs σ r σ' fr
theorem body_is {fn : Func} (h : fn.body.isSome = true) : fn.body = some (fn.body.getD .skip) := by
  cases e : fn.body with
  | none => rw [e] at h; cases h
  | some c => rfl
section
variable {P : Program} {f : FuncId} {fn : Func} {nt : Nat} {ac : ACode} {rv : List RV}
theorem pureT_of (henter : ∀ args w, (callFunc f args).run P w = .ok (.enter f args) w) (hf : P.funcs[f]? = some fn) (hb : fn.body.isSome = true := by kernel_rfl) (hc : compC P (fn.body.getD .skip) = some ac.erase := by kernel_rfl)
    (hok : ac.ok nt = true := by kernel_rfl) (hr : compRV P fn.results.toList = some rv := by kernel_rfl) (hnt : fn.ntmps = nt := by kernel_rfl) : PureT P f nt ac rv := by
  subst hnt
  exact fun hn h => pureC_of henter hf (body_is hb) hc hok hr hn h
theorem mutT_of (henter : ∀ args w, (callFunc f args).run P w = .ok (.enter f args) w) (hf : P.funcs[f]? = some fn) (hb : fn.body.isSome = true := by kernel_rfl) (hc : compC P (fn.body.getD .skip) = some ac.erase := by kernel_rfl)
    (hok : ac.ok nt = true := by kernel_rfl) (hr : compRV P fn.results.toList = some rv := by kernel_rfl) (hnt : fn.ntmps = nt := by kernel_rfl) : MutT P f nt ac rv := by
  subst hnt
  exact fun hn h => mutC_of henter hf (body_is hb) hc hok hr hn h
end
end Go.AM

namespace Go.AM
open Go Go.Proofs
set_option maxRecDepth 100000
abbrev fi_fullerlaw15_GradLines : Nat := 11
abbrev fi_fullerlaw15_GradNone : Nat := 14
abbrev fi_fullerref10_Few : Nat := 16
abbrev fi_eval_All : Nat := 18
abbrev fi_infer_Shapes : Nat := 19
abbrev fi_fullerref02_Same : Nat := 21
abbrev fi_eval_Node : Nat := 22
abbrev fi_graph_Check : Nat := 24
abbrev fi_fullerref09_Few : Nat := 26
abbrev fi_fullerref03_Few : Nat := 27
abbrev fi_vjp_Back : Nat := 28
abbrev fi_tensor_Full : Nat := 30
abbrev fi_tensor_Check : Nat := 31
abbrev fi_fullerlaw15_awake : Nat := 36
abbrev fi_grad_All : Nat := 37
abbrev fi_fullerlaw15_line : Nat := 38
abbrev fi_fix_Mul : Nat := 39
abbrev fi_fullerlaw15_few : Nat := 40
abbrev fi_infer_Node : Nat := 41
abbrev fi_eval_given : Nat := 42
abbrev fi_eval_rules : Nat := 43
abbrev fi_graph_kinds : Nat := 44
abbrev fi_graph_Check_1 : Nat := 45
abbrev fi_graph_well : Nat := 46
abbrev fi_slices_ContainsFunc_int_int : Nat := 47
abbrev fi_graph_name : Nat := 48
abbrev fi_slices_Equal_int_int : Nat := 49
abbrev fi_vjp_rules : Nat := 50
abbrev fi_shape_Check : Nat := 55
abbrev fi_slices_Clone_int_int : Nat := 56
abbrev fi_slices_Repeat_int_int : Nat := 57
abbrev fi_shape_Size : Nat := 58
abbrev fi_grad_All_1 : Nat := 63
abbrev fi_grad_sums_add : Nat := 64
abbrev fi_graph_Live : Nat := 65
abbrev fi_math_bits_Mul64 : Nat := 66
abbrev fi_fix_size : Nat := 67
abbrev fi_fix_wide_signed : Nat := 68
abbrev fi_fix_apart : Nat := 69
abbrev fi_graph_Arity : Nat := 70
abbrev fi_infer_Node_1 : Nat := 71
abbrev fi_slices_ContainsFunc_LL_int_int : Nat := 72
abbrev fi_infer_rules : Nat := 73
abbrev fi_eval_rules_1 : Nat := 74
abbrev fi_eval_of_api_Tensor : Nat := 75
abbrev fi_matmul_Mul : Nat := 76
abbrev fi_eval_rules_2 : Nat := 77
abbrev fi_move_Reshape : Nat := 78
abbrev fi_eval_rules_3 : Nat := 79
abbrev fi_move_Turn : Nat := 80
abbrev fi_eval_rules_4 : Nat := 81
abbrev fi_move_Slice : Nat := 82
abbrev fi_eval_rules_5 : Nat := 83
abbrev fi_move_Join : Nat := 84
abbrev fi_eval_side : Nat := 85
abbrev fi_reduce_Sum : Nat := 86
abbrev fi_reduce_Mean : Nat := 87
abbrev fi_reduce_Max : Nat := 88
abbrev fi_eval_two : Nat := 89
abbrev fi_eval_one : Nat := 90
abbrev fi_slices_IndexFunc_int_int : Nat := 91
abbrev fi_vjp_same : Nat := 92
abbrev fi_vjp_rules_1 : Nat := 93
abbrev fi_vjp_call_folded : Nat := 94
abbrev fi_vjp_by : Nat := 96
abbrev fi_vjp_rules_2 : Nat := 97
abbrev fi_vjp_call_two : Nat := 98
abbrev fi_vjp_rules_3 : Nat := 99
abbrev fi_vjp_relu : Nat := 100
abbrev fi_vjp_slopes : Nat := 101
abbrev fi_vjp_roots : Nat := 102
abbrev fi_vjp_rules_4 : Nat := 103
abbrev fi_vjp_call_keep : Nat := 104
abbrev fi_vjp_rules_5 : Nat := 106
abbrev fi_vjp_rules_6 : Nat := 108
abbrev fi_vjp_rules_7 : Nat := 109
abbrev fi_vjp_rules_8 : Nat := 110
abbrev fi_vjp_rules_9 : Nat := 113
abbrev fi_vjp_rules_10 : Nat := 114
abbrev fi_vjp_rules_11 : Nat := 115
abbrev fi_vjp_middle : Nat := 117
abbrev fi_vjp_most : Nat := 118
abbrev fi_math_bits_Mul : Nat := 141
abbrev fi_elem_Two : Nat := 144
abbrev fi_slices_Reverse_int_int : Nat := 145
abbrev fi_fix_wide_signed_1 : Nat := 146
abbrev fi_slices_IndexFunc_LL_int_int : Nat := 148
abbrev fi_infer_rules_1 : Nat := 149
abbrev fi_infer_rules_2 : Nat := 150
abbrev fi_infer_rules_3 : Nat := 151
abbrev fi_infer_rules_4 : Nat := 152
abbrev fi_infer_rules_5 : Nat := 153
abbrev fi_infer_rules_6 : Nat := 154
abbrev fi_infer_both : Nat := 155
abbrev fi_infer_first : Nat := 156
abbrev fi_infer_sided : Nat := 157
abbrev fi_infer_part : Nat := 158
abbrev fi_infer_behind : Nat := 159
abbrev fi_infer_together : Nat := 160
abbrev fi_matmul_may : Nat := 161
abbrev fi_matmul_Mul_1 : Nat := 162
abbrev fi_matmul_Mul_2 : Nat := 163
abbrev fi_fix_Add : Nat := 164
abbrev fi_move_made : Nat := 165
abbrev fi_move_turned_int : Nat := 166
abbrev fi_move_Turn_1 : Nat := 167
abbrev fi_tensor_At : Nat := 168
abbrev fi_move_sided : Nat := 169
abbrev fi_move_Slice_1 : Nat := 170
abbrev fi_move_shifted : Nat := 171
abbrev fi_move_Join_1 : Nat := 172
abbrev fi_eval_side_1 : Nat := 173
abbrev fi_reduce_together : Nat := 174
abbrev fi_reduce_done : Nat := 175
abbrev fi_reduce_none : Nat := 176
abbrev fi_reduce_share : Nat := 177
abbrev fi_reduce_most : Nat := 178
abbrev fi_reduce_same : Nat := 179
abbrev fi_eval_two_1 : Nat := 180
abbrev fi_eval_one_1 : Nat := 181
abbrev fi_elem_One : Nat := 182
abbrev fi_vjp_same_1 : Nat := 183
abbrev fi_tensor_Fold : Nat := 184
abbrev fi_vjp_by_1 : Nat := 185
abbrev fi_math_bits_Len64 : Nat := 227
abbrev fi_elem_kinds : Nat := 228
abbrev fi_shape_Join : Nat := 229
abbrev fi_tensor_Spread : Nat := 230
abbrev fi_elem_each : Nat := 231
abbrev fi_elem_Two_1 : Nat := 232
abbrev fi_infer_sided_1 : Nat := 233
abbrev fi_slices_Delete_int_int : Nat := 234
abbrev fi_fix_told : Nat := 235
abbrev fi_move_indices : Nat := 236
abbrev fi_shape_Place : Nat := 237
abbrev fi_reduce_lanes : Nat := 238
abbrev fi_reduce_lane_at : Nat := 239
abbrev fi_fix_Div : Nat := 240
abbrev fi_elem_One_1 : Nat := 241
abbrev fi_shape_Fits : Nat := 242
abbrev fi_tensor_from : Nat := 243
abbrev fi_fix_shifted : Nat := 244
abbrev fi_elem_kinds_1 : Nat := 264
abbrev fi_fix_Sub : Nat := 265
abbrev fi_fix_Neg : Nat := 266
abbrev fi_fix_Pow : Nat := 267
abbrev fi_fix_Sqrt : Nat := 268
abbrev fi_shape_side : Nat := 269
abbrev fi_move_indices_1 : Nat := 270
abbrev fi_shape_Index : Nat := 271
abbrev fi_math_bits_Div64 : Nat := 272
abbrev fi_tensor_from_1 : Nat := 273
abbrev fi_math_bits_LeadingZeros64 : Nat := 282
end Go.AM

namespace Go.AM
open Go Go.Proofs
set_option maxRecDepth 100000
def a_fullerlaw15_GradLines : ACode := (sr [0,1,2] [] (qq 6 (.mov (.c (.one (.p (.bool false)))))<|.nil)<|
(sr [0,1,2,7] [] (cl 13 36 []<|mv 7 13<|.nil)<|
(sr [1,2,7,8] [] (mv 14 0<|qq 15 (.bin .rem (.t 14) (.c (.one (.p (.int .u8 20)))))<|qq 16 (.conv .i64 (.t 15))<|mv 8 16<|.nil)<|
(ib [1,2,7,8,30] [] (mv 17 1<|bc 18 .lss 17 (-1125899906842624)<|mv 19 18<|.sc 22 19 false 21 none (.op (some 20) (some (19, false)) (.q (.mov (.t 1)))<|.op (some 21) (some (19, false)) (.q (.bin .gtr (.t 20) (ic 1125899906842624)))<|.nil)<|mv 23 22<|.sc 26 23 false 25 none (.op (some 24) (some (23, false)) (.q (.mov (.t 2)))<|.op (some 25) (some (23, false)) (.q (.bin .lss (.t 24) (ic (-1125899906842624))))<|.nil)<|mv 27 26<|.sc 30 27 false 29 none (.op (some 28) (some (27, false)) (.q (.mov (.t 2)))<|.op (some 29) (some (27, false)) (.q (.bin .gtr (.t 28) (ic 1125899906842624)))<|.nil)<|.nil) 30 (sr [6] [] (mv 31 7<|mv 6 31<|.nil)<|
.ret)<|
(sr [1,2,7,8,9,10,12] [38,40] (mv 33 8<|mv 34 2<|cl 35 38 [33,34]<|qq 36 (.build [.nils,.nils] [])<|mv 37 1<|nn 38 (.lit 1 1 [(.int .i64 0)] [(0, (.t 37))])<|qq 39 (.build [.nils,.nils] [(1, 1, (.t 38))])<|nn 40 (.lit 2 1 [(.sl []),(.sl [])] [(0, (.t 39))])<|cl 41 37 [35,36,40]<|mv 32 41<|xt 42 32 0<|xt 43 32 1<|xt 44 32 2<|xt 45 32 3<|mv 9 42<|mv 10 43<|mv 11 44<|mv 12 45<|.nil)<|
(ib [1,2,7,8,9,10,52] [38,40] (mv 46 12<|bc 47 .neq 46 0<|mv 48 47<|.sc 52 48 false 51 none (.op (some 49) (some (48, false)) (.q (.mov (.t 9)))<|.op (some 50) (some (48, false)) (.q (.len (.t 49)))<|.op (some 51) (some (48, false)) (.q (.bin .neq (.t 50) (ic 8)))<|.nil)<|.nil) 52 (sr [6] [38,40] (qq 6 (.mov (.c (.one (.p (.bool false)))))<|.nil)<|
.ret)<|
(sr [6] [38,40,61] (mv 53 7<|mv 54 53<|.sc 63 54 true 62 none (.op (some 55) (some (54, true)) (.q (.mov (.t 9)))<|.op (some 56) (some (54, true)) (.q (.iaddr 2 (.t 55) (ic 0)))<|.op (some 57) (some (54, true)) (.q (.faddr 1 (.t 56)))<|.op (some 58) (some (54, true)) (.q (.load 1 false (.t 57)))<|.op (some 59) (some (54, true)) (.q (.mov (.t 8)))<|.op (some 60) (some (54, true)) (.q (.bin .mul (.t 59) (ic 4294967296)))<|.op (some 61) (some (54, true)) (.n (.lit 1 1 [(.int .i64 0)] [(0, (.t 60))]))<|.op (some 62) (some (54, true)) (.call (.c (.one (.p (.fn fi_fullerref02_Same [] [])))) [(.t 58),(.t 61)])<|.nil)<|mv 64 63<|.sc 72 64 true 71 none (.op (some 65) (some (64, true)) (.q (.mov (.t 10)))<|.op (some 66) (some (64, true)) (.q (.mov (.t 8)))<|.op (some 67) (some (64, true)) (.q (.mov (.t 1)))<|.op (some 68) (some (64, true)) (.q (.bin .mul (.t 66) (.t 67)))<|.op (some 69) (some (64, true)) (.q (.mov (.t 2)))<|.op (some 70) (some (64, true)) (.q (.bin .add (.t 68) (.t 69)))<|.op (some 71) (some (64, true)) (.q (.bin .eql (.t 65) (.t 70)))<|.nil)<|mv 6 72<|.nil)<|
.ret)))))))
theorem pure_fullerlaw15_GradLines : PureT Tryz.prog fi_fullerlaw15_GradLines 73 a_fullerlaw15_GradLines [.tmp 6] := pureT_of Tryz.call11 Tryz.func11
end Go.AM

