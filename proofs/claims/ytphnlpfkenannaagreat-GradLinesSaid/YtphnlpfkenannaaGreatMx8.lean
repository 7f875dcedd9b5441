import Derived.Test.YtphnlpfkenannaaGreatMx7
import Derived.Scope
set_option linter.unusedVariables false
set_option linter.unusedSimpArgs false
namespace Go.AM
open Go.RowKit (Below)

theorem run_sound {P : Program} {G : Ground} : ∀ {t : TOps} {K : AS → Prop} {s : AS}, t.ok none [] = true → t.lt G.nt = true → Run P t K s → ∃ s', Steps P G t.flat s s' ∧ K s' := by
  suffices H : ∀ (t : TOps) (U : List Nat) (K : AS → Prop) (s : AS), t.ok none U = true → t.lt G.nt = true → Run P t K s → ∃ s', Steps P G t.flat s s' ∧ K s' from fun {t} {K} {s} h1 h2 h3 => H t [] K s h1 h2 h3
  intro t
  induction t with
  | nil => intro U K s _ _ h; exact ⟨s, .nil, h⟩
  | op d g o rest ih =>
    intro U K s hok hlt hr
    simp only [TOps.ok, Bool.and_eq_true, beq_iff_eq] at hok
    obtain ⟨⟨hg, _⟩, hrest⟩ := hok
    subst hg
    have hlt1 : ∀ t, d = some t → t < G.nt := by
      intro t ht; subst ht
      simp only [TOps.lt, TOps.dsts, Option.toList, List.all_append, Bool.and_eq_true, List.all_cons, List.all_nil, decide_eq_true_eq] at hlt
      exact hlt.1.1
    have hlt2 : rest.lt G.nt = true := by
      simp only [TOps.lt, TOps.dsts, List.all_append, Bool.and_eq_true] at hlt ⊢
      exact hlt.2
    have go : ∀ (v : AV) (s1 : AS), Step1 P d o s v s1 → Run P rest K (putd d v s1) → ∃ s', Steps P G (TOps.op d none o rest).flat s s' ∧ K s' := by
      intro v s1 h1 h2
      obtain ⟨s', a1, a2⟩ := ih _ K _ hrest hlt2 h2
      exact ⟨s', .cons (.run (o := ⟨d, none, o⟩) rfl hlt1 h1) a1, a2⟩
    cases o with
    | bad => simp only [Run] at hr
    | q q =>
      simp only [Run] at hr
      split at hr
      · rename_i v hv; exact go v s (.q hv) hr
      · exact hr.elim
    | n q =>
      simp only [Run] at hr
      split at hr
      · rename_i t
        split at hr
        · rename_i hno
          split at hr
          · rename_i hnr
            split at hr
            · rename_i ob v hv
              exact go v _ (.n rfl hno (AS.nr_Nr hnr) hv) hr
            · exact hr.elim
          · exact hr.elim
        · exact hr.elim
      · exact hr.elim
    | s q =>
      simp only [Run] at hr
      split at hr
      · rename_i u ob v k hv
        obtain ⟨h1, hr⟩ := hr
        refine go v _ (.s (t := d.getD 0) ?_ hv (fun hk => ?_)) hr
        · cases d with
          | none => exact .inr rfl
          | some t => exact .inl rfl
        · obtain ⟨e1, e2, e3⟩ := h1 hk
          subst e1
          exact ⟨rfl, AS.nr_Nr e2, e3⟩
      · exact hr.elim
    | call f az =>
      simp only [Run] at hr
      rcases hr with ⟨r, σ', hc, hr⟩ | ⟨v, σ1, hc, hr⟩
      · exact go r.av _ (.call hc) hr
      · exact go v _ (.callM hc) hr
  | sc d c want last g inner rest _ ih =>
    intro U K s hok hlt hr
    simp only [TOps.ok, Bool.and_eq_true, beq_iff_eq, bne_iff_ne, ne_eq, Bool.not_eq_true', List.contains_eq_mem, decide_eq_true_eq, decide_eq_false_iff_not] at hok
    obtain ⟨⟨⟨⟨⟨hg', _⟩, hic2⟩, hinner⟩, hlast⟩, hrest⟩ := hok
    subst hg'
    have hlti : inner.lt G.nt = true := by
      simp only [TOps.lt, TOps.dsts, List.all_append, Bool.and_eq_true, List.all_cons] at hlt ⊢
      exact hlt.1
    have hltd : d < G.nt := by
      simp only [TOps.lt, TOps.dsts, List.all_append, Bool.and_eq_true, List.all_cons, decide_eq_true_eq] at hlt
      exact hlt.2.1
    have hltr : rest.lt G.nt = true := by
      simp only [TOps.lt, TOps.dsts, List.all_append, Bool.and_eq_true, List.all_cons] at hlt ⊢
      exact hlt.2.2
    simp only [Run] at hr
    obtain ⟨b, x, hb, hin, hr⟩ := hr
    obtain ⟨s1, hst, hde⟩ := sc_sound (P := P) (G := G) (inner := inner) (s := s) (d := d) (c := c) (want := want) (last := last) (g := none) hinner hlti hltd hic2 hlast hb hin
      (fun e' _ => rfl)
      (fun K' hr' => runI_sound (P := P) (G := G) (t := inner) (s := s) c want hinner hlti (by rw [hb]; exact congrArg pbool hr'.1) hr'.2)
    obtain ⟨s', h1, h2⟩ := ih _ K _ hrest hltr hr
    exact ⟨s', (hst.append (.weak hde h1)) |> (by simpa [TOps.flat] using ·), h2⟩
def compR (P : Program) (ops : Array Oper) : List Oper → Option (List FOp)
  | [] => some []
  | o :: os => (compF P ops o).bind fun x => (compR P ops os).map (x :: ·)
theorem steps_ops {G : Ground} {F : Fence} {n : Nat} (hF : FOk F) {ops : Array Oper} {Q : Exit → Act → World → Prop} {l : List FOp} {s s' : AS} (h : Steps G.P G l s s') :
    ∀ (k : Nat) (os : List Oper), compR G.P ops os = some l → (∀ i o, os[i]? = some o → ops[k + i]? = some o) → (∀ a w, SimS G s' a w → Q .normal a w) →
    ∀ a w, SimS G s a w → wpOpsIn F n G.P ops Q (List.range' k l.length) a w := by
  induction h with
  | nil =>
    intro k os hc ho hQ a w hs
    exact hQ a w hs
  | @cons fo l s s1 s2 hst _ ih =>
    intro k os hc ho hQ a w hs
    cases os with
    | nil => simp [compR] at hc
    | cons o os =>
      simp only [compR] at hc
      obtain ⟨x, hx, hc⟩ := bind_some' hc
      obtain ⟨l', hl', hc⟩ := map_some' hc
      cases hc
      simp only [List.length_cons, List.range'_succ, wpOpsIn_cons]
      have h0 := ho 0 o rfl
      refine fstep_sound hF hx hs hst rfl (fun a' w' hs' => ?_) (by simpa using h0)
      exact ih (k + 1) os hl' (fun i o' hi => by have := ho (i + 1) o' (by simpa using hi); rwa [show k + 1 + i = k + (i + 1) from by omega]) hQ a' w' hs'
  | weak hw _ ih =>
    intro k os hc ho hQ a w hs
    exact ih k os hc ho hQ a w (hw a w hs)
  | @yld d f az l s s2 σ0 σ1 R lp fr hd hy _ ih =>
    intro k os hc ho hQ a w hs
    cases os with
    | nil => simp [compR] at hc
    | cons o os =>
      simp only [compR] at hc
      obtain ⟨x, hx, hc⟩ := bind_some' hc
      obtain ⟨l', hl', hc⟩ := map_some' hc
      cases hc
      simp only [List.length_cons, List.range'_succ, wpOpsIn_cons]
      have h0 := ho 0 o rfl
      unfold compF at hx
      obtain ⟨op, hop, hx⟩ := bind_some' hx
      obtain ⟨g, hg, hx⟩ := map_some' hx
      simp only [FOp.mk.injEq] at hx
      obtain ⟨rfl, rfl, rfl⟩ := hx
      have hwant : Region.wanted o (yielded ops a.tmps) = true := gmet_wanted hg hs rfl
      unfold wpOpIn
      simp only [show ops[k]? = some o from by simpa using h0, hwant, if_true]
      refine yield_sound hF hop hs hy hd fun a' w' hs' => ?_
      exact ih (k + 1) os hl' (fun i o' hi => by have := ho (i + 1) o' (by simpa using hi); rwa [show k + 1 + i = k + (i + 1) from by omega]) hQ a' w' hs'
theorem compR_len {P : Program} {ops : Array Oper} : ∀ {os : List Oper} {l : List FOp}, compR P ops os = some l → l.length = os.length
  | [], l, h => by simp [compR] at h; subst h; rfl
  | o :: os, l, h => by
    simp only [compR] at h
    obtain ⟨x, hx, h⟩ := bind_some' h
    obtain ⟨l', hl', h⟩ := map_some' h
    cases h
    simp [compR_len hl']
inductive ACode where
  | skip
  | region (un : Option (List (List Nat))) (ops : TOps) (keep ids : List Nat)
  | seq (a b : ACode)
  | cond (c : Opd) (x y : ACode)
  | block (id : Nat) (c : ACode)
  | loop (c : ACode)
  | exit (id : Nat)
  | label (l : Nat)
  | goto (l : Nat)
  | scope (c : ACode)
  | ret
  | range (f : Opd) (ps : List Nat) (x y : ACode)
def flatT : List FOp → TOps
  | [] => .nil
  | o :: os => .op o.d o.g o.op (flatT os)
theorem flatT_inj : ∀ {a b : List FOp}, flatT a = flatT b → a = b
  | [], [], _ => rfl
  | [], _ :: _, h => by simp [flatT] at h
  | _ :: _, [], h => by simp [flatT] at h
  | x :: a, y :: b, h => by
    simp only [flatT, TOps.op.injEq] at h
    obtain ⟨h1, h2, h3, h4⟩ := h
    rw [flatT_inj h4]
    cases x; cases y; simp only at h1 h2 h3; subst h1 h2 h3; rfl
def ACode.erase : ACode → ACode
  | .region d t _ _ => .region d (flatT t.flat) [] []
  | .seq a b => .seq a.erase b.erase
  | .cond c x y => .cond c x.erase y.erase
  | .block i c => .block i c.erase
  | .loop c => .loop c.erase
  | .scope c => .scope c.erase
  | .range f ps x y => .range f ps x.erase y.erase
  | c => c
def ACode.ok (nt : Nat) : ACode → Bool
  | .region _ t _ _ => t.ok none [] && t.lt nt
  | .seq a b => a.ok nt && b.ok nt
  | .cond _ x y => x.ok nt && y.ok nt
  | .block _ c => c.ok nt
  | .loop c => c.ok nt
  | .scope c => c.ok nt
  | .range _ _ x y => x.ok nt && y.ok nt
  | _ => true
def preGo : List Oper → List Nat → List Nat
  | [], acc => acc
  | o :: os, acc => preGo os (acc ++ [o.after.toList.foldl (fun s e => if Region.binds .any e then s ||| 2 ^ e.on ||| acc.getD e.on 0 else s) 0])
def preOf (ops : Array Oper) : List Nat := preGo ops.toList []
def unOf (n : Nat) (pre : List Nat) : List (List Nat) := (List.range n).map fun i => (List.range i).filter fun j => !(pre.getD i 0).testBit j
def preOk (ops : Array Oper) (pre : List Nat) : Bool :=
  (List.range ops.size).all fun i => match ops[i]? with
    | some o => o.after.toList.all (fun e => !Region.binds .any e || decide (e.on < i)) &&
      (List.range i).all fun j => !(pre.getD i 0).testBit j || o.after.toList.any fun e => Region.binds .any e && (e.on == j || (decide (j < e.on) && (pre.getD e.on 0).testBit j))
    | none => false
def unD (ops : Array Oper) (d : Bool) : Option (Option (List (List Nat))) := if d then (if preOk ops (preOf ops) then some (some (unOf ops.size (preOf ops))) else none) else some none
def compC (P : Program) : Code → Option ACode
  | .skip => some .skip
  | .region _ ops d => (compR P ops ops.toList).bind fun l => (unD ops d).map fun un => .region un (flatT l) [] []
  | .seq a b => (compC P a).bind fun a => (compC P b).map fun b => .seq a b
  | .cond c x y => (opd c).bind fun c => (compC P x).bind fun x => (compC P y).map fun y => .cond c x y
  | .block i c => (compC P c).map (.block i)
  | .loop c => (compC P c).map .loop
  | .exit i => some (.exit i)
  | .label l => some (.label l)
  | .goto l => some (.goto l)
  | .scope c => (compC P c).map .scope
  | .ret => some .ret
  | .rangeFunc f ps x y => (opd f).bind fun f => (compC P x).bind fun x => (compC P y).map fun y => .range f ps.toList x y
  | .refuse _ => none
def ddS : Nat → Sto → Sto
  | 0, _ => []
  | _ + 1, [] => []
  | n + 1, p :: r => p :: ddS n (r.filter fun q => q.1 != p.1)
def restS (ids : List Nat) (σ : Sto) : Sto := σ.filter fun p => !ids.contains p.1
def AS.keep (k ids : List Nat) (s : AS) : AS := { s with env := k.map fun i => (i, lk s.env i), σ := (ids.map fun i => (i, lo s.σ i)) ++ ddS (restS ids s.σ).length (restS ids s.σ) }
theorem lo_filter {f : Nat → Bool} (σ : Sto) (t : Nat) : lo (σ.filter fun p => f p.1) t = if f t then lo σ t else .none := by
  induction σ with
  | nil => simp [lo]
  | cons p r ih =>
    obtain ⟨j, v⟩ := p
    simp only [List.filter_cons]
    split
    · rename_i hj
      simp only [lo]
      by_cases h : t = j
      · subst h; simp [hj]
      · rw [if_neg h, if_neg h, ih]
    · rename_i hj
      rw [ih]
      simp only [lo]
      by_cases h : t = j
      · subst h; simp [hj]
      · rw [if_neg h]
theorem lo_dd : ∀ (n : Nat) (σ : Sto) (t : Nat), lo (ddS n σ) t = lo σ t ∨ lo (ddS n σ) t = .none
  | 0, σ, t => .inr rfl
  | _ + 1, [], t => .inl rfl
  | n + 1, (j, v) :: r, t => by
    simp only [ddS, lo]
    by_cases h : t = j
    · left; rw [if_pos h, if_pos h]
    · rw [if_neg h, if_neg h]
      rcases lo_dd n (r.filter fun q => q.1 != j) t with e | e
      · left
        rw [e, lo_filter (f := fun q => q != j)]
        simp [h]
      · exact .inr e
theorem keep_weak (G : Ground) (k ids : List Nat) (s : AS) : Weak G s (s.keep k ids) := by
  have h1 : Weak G s { s with env := k.map fun i => (i, lk s.env i) } := by
    refine Weak.env fun i => ?_
    induction k with
    | nil => exact .inr rfl
    | cons j k ih =>
      simp only [List.map_cons, lk_put]
      by_cases h : i = j
      · left; rw [if_pos h, h]
      · rw [if_neg h]; exact ih
  refine h1.trans (Weak.sto fun i => ?_)
  show lo ((ids.map fun i => (i, lo s.σ i)) ++ ddS _ _) i = lo s.σ i ∨ _
  clear h1
  rw [lo_app]
  have hm : ∀ (l : List Nat), lo (l.map fun i => (i, lo s.σ i)) i = lo s.σ i ∨ lo (l.map fun i => (i, lo s.σ i)) i = .none := by
    intro l
    induction l with
    | nil => exact .inr rfl
    | cons j k ih =>
      simp only [List.map_cons, lo_put]
      by_cases h : i = j
      · left; rw [if_pos h, h]
      · rw [if_neg h]; exact ih
  split
  · exact hm ids
  · rcases lo_dd (restS ids s.σ).length (restS ids s.σ) i with e | e
    · rw [e]
      unfold restS
      rw [lo_filter (f := fun q => !ids.contains q)]
      split
      · exact .inl rfl
      · exact .inr rfl
    · exact .inr e
structure T (G : Ground) (F : Fence) (n : Nat) (ac : ACode) (Q : Exit → AS → Prop) (s : AS) : Prop where
  of : ∀ code, compC G.P code = some ac.erase → ac.ok G.nt = true → ∀ a w, SimS G s a w → code.wpIn F n G.P (fun e a w => ∃ s', Q e s' ∧ SimS G s' a w) a w
section inv
variable {P : Program} {code : Code}
theorem inv_skip (h : compC P code = some .skip) : code = .skip := by
  cases code <;> simp [compC, Option.bind_eq_some_iff, Option.map_eq_some_iff] at h ⊢
theorem inv_region0 {un : Option (List (List Nat))} {t : TOps} (h : compC P code = some (.region un t [] [])) : ∃ id ops d l, code = .region id ops d ∧ compR P ops ops.toList = some l ∧ t = flatT l ∧ unD ops d = some un := by
  cases code <;> simp [compC, Option.bind_eq_some_iff, Option.map_eq_some_iff] at h
  obtain ⟨l, h1, u, h2, h3, h4⟩ := h
  exact ⟨_, _, _, l, rfl, h1, h4.symm, by rw [h2, h3]⟩
theorem inv_region {t : TOps} (h : compC P code = some (.region none t [] [])) : ∃ id ops l, code = .region id ops false ∧ compR P ops ops.toList = some l ∧ t = flatT l := by
  obtain ⟨id, ops, d, l, rfl, h1, h2, h3⟩ := inv_region0 h
  unfold unD at h3
  split at h3
  · split at h3 <;> simp at h3
  · rename_i hd
    have hd : d = false := by simpa using hd
    subst hd
    exact ⟨_, _, l, rfl, h1, h2⟩
theorem inv_regionD {un : List (List Nat)} {t : TOps} (h : compC P code = some (.region (some un) t [] [])) : ∃ id ops l, code = .region id ops true ∧ compR P ops ops.toList = some l ∧ t = flatT l ∧ preOk ops (preOf ops) = true ∧ un = unOf ops.size (preOf ops) := by
  obtain ⟨id, ops, d, l, rfl, h1, h2, h3⟩ := inv_region0 h
  unfold unD at h3
  split at h3
  · rename_i hd
    split at h3
    · rename_i hp
      simp at h3
      subst hd
      exact ⟨_, _, l, rfl, h1, h2, hp, h3.symm⟩
    · simp at h3
  · simp at h3
theorem inv_seq {a b : ACode} (h : compC P code = some (.seq a b)) : ∃ ca cb, code = .seq ca cb ∧ compC P ca = some a ∧ compC P cb = some b := by
  cases code <;> simp [compC, Option.bind_eq_some_iff, Option.map_eq_some_iff] at h
  exact ⟨_, _, rfl, h⟩
theorem inv_cond {c : Opd} {a b : ACode} (h : compC P code = some (.cond c a b)) : ∃ co ca cb, code = .cond co ca cb ∧ opd co = some c ∧ compC P ca = some a ∧ compC P cb = some b := by
  cases code <;> simp [compC, Option.bind_eq_some_iff, Option.map_eq_some_iff] at h
  obtain ⟨x, h1, y, h2, z, h3, rfl, rfl, rfl⟩ := h
  exact ⟨_, _, _, rfl, h1, h2, h3⟩
theorem inv_block {i : Nat} {a : ACode} (h : compC P code = some (.block i a)) : ∃ ca, code = .block i ca ∧ compC P ca = some a := by
  cases code <;> simp [compC, Option.bind_eq_some_iff, Option.map_eq_some_iff] at h
  obtain ⟨h1, h2⟩ := h
  exact ⟨_, by rw [h2], h1⟩
theorem inv_loop {a : ACode} (h : compC P code = some (.loop a)) : ∃ ca, code = .loop ca ∧ compC P ca = some a := by
  cases code <;> simp [compC, Option.bind_eq_some_iff, Option.map_eq_some_iff] at h
  exact ⟨_, rfl, h⟩
theorem inv_scope {a : ACode} (h : compC P code = some (.scope a)) : ∃ ca, code = .scope ca ∧ compC P ca = some a := by
  cases code <;> simp [compC, Option.bind_eq_some_iff, Option.map_eq_some_iff] at h
  exact ⟨_, rfl, h⟩
theorem inv_exit {i : Nat} (h : compC P code = some (.exit i)) : code = .exit i := by
  cases code <;> simp [compC, Option.bind_eq_some_iff, Option.map_eq_some_iff] at h ⊢
  exact h
theorem inv_label {i : Nat} (h : compC P code = some (.label i)) : code = .label i := by
  cases code <;> simp [compC, Option.bind_eq_some_iff, Option.map_eq_some_iff] at h ⊢
  exact h
theorem inv_goto {i : Nat} (h : compC P code = some (.goto i)) : code = .goto i := by
  cases code <;> simp [compC, Option.bind_eq_some_iff, Option.map_eq_some_iff] at h ⊢
  exact h
theorem inv_ret (h : compC P code = some .ret) : code = .ret := by
  cases code <;> simp [compC, Option.bind_eq_some_iff, Option.map_eq_some_iff] at h ⊢
end inv
section rules
variable {G : Ground} {F : Fence} {n : Nat} {Q : Exit → AS → Prop} {s : AS}
theorem T_weak {s' : AS} {c : ACode} (h : Weak G s s') (k : T G F n c Q s') : T G F n c Q s := ⟨fun code hc hok a w hs => k.of code hc hok a w (h a w hs)⟩
theorem T_mono {c : ACode} {Q' : Exit → AS → Prop} (h : T G F n c Q s) (hq : ∀ e s', Q e s' → Q' e s') : T G F n c Q' s :=
  ⟨fun code hc hok a w hs => wpIn_mono (h.of code hc hok a w hs) fun e a w ⟨s', q, k⟩ => ⟨s', hq e s' q, k⟩⟩
theorem T_skip (h : Q .normal s) : T G F n .skip Q s := by
  refine ⟨fun code hc => ?_⟩
  intro _ a w hs
  cases inv_skip hc
  exact wpIn_skip ⟨s, h, hs⟩
structure Then (G : Ground) (F : Fence) (n : Nat) (b : ACode) (Q : Exit → AS → Prop) (e : Exit) (s : AS) : Prop where
  of : match e with
    | .normal => T G F n b Q s
    | e => Q e s
theorem T_seq {a b : ACode} (h : T G F n a (Then G F n b Q) s) : T G F n (.seq a b) Q s := by
  refine ⟨fun code hc => ?_⟩
  intro hok x w hs
  obtain ⟨ca, cb, rfl, ha, hb⟩ := inv_seq hc
  simp only [ACode.ok, Bool.and_eq_true] at hok
  refine wpIn_seq (wpIn_mono (h.of ca ha hok.1 x w hs) ?_)
  rintro e a w ⟨s', hq, hs'⟩
  obtain ⟨hq⟩ := hq
  cases e <;> first | exact hq.of cb hb hok.2 a w hs' | exact ⟨s', hq, hs'⟩
theorem T_cond {c : Opd} {x y : ACode} {b : Bool} (hc : get s.env c = pbool b) (hx : b = true → T G F n x Q s) (hy : b = false → T G F n y Q s) : T G F n (.cond c x y) Q s := by
  refine ⟨fun code hcode => ?_⟩
  intro hok a w hs
  obtain ⟨co, cx, cy, rfl, hz, hx', hy'⟩ := inv_cond hcode
  simp only [ACode.ok, Bool.and_eq_true] at hok
  obtain ⟨A, τ, hs1⟩ := hs
  have hv := opd_sound hs1 hz
  rw [hc] at hv
  have hv := bool_inv hv
  cases b with
  | true => exact wpIn_cond hv (by simpa using (hx rfl).of cx hx' hok.1 a w ⟨A, τ, hs1⟩)
  | false => exact wpIn_cond hv (by simpa using (hy rfl).of cy hy' hok.2 a w ⟨A, τ, hs1⟩)
structure inB (id : Nat) (Q : Exit → AS → Prop) (e : Exit) (s : AS) : Prop where
  of : match e with
    | .exit id' => if id' = id then Q .normal s else Q (.exit id') s
    | e => Q e s
theorem T_block {id : Nat} {c : ACode} (h : T G F n c (inB id Q) s) : T G F n (.block id c) Q s := by
  refine ⟨fun code hc => ?_⟩
  intro hok x w hs
  obtain ⟨cc, rfl, hc'⟩ := inv_block hc
  refine wpIn_block (wpIn_mono (h.of cc hc' hok x w hs) ?_)
  rintro e a w ⟨s', hq, hs'⟩
  obtain ⟨hq⟩ := hq
  cases e <;> simp only [Exit.inBlock] at hq ⊢ <;> first | exact ⟨s', hq, hs'⟩ | (split at hq <;> rename_i h1 <;> simp only [h1, if_true, if_false] <;> exact ⟨s', hq, hs'⟩)
theorem T_exit {id : Nat} (h : Q (.exit id) s) : T G F n (.exit id) Q s := by
  refine ⟨fun code hc => ?_⟩
  intro _ a w hs
  cases inv_exit hc
  exact wpIn_exit ⟨s, h, hs⟩
theorem T_label {l : Nat} (h : Q .normal s) : T G F n (.label l) Q s := by
  refine ⟨fun code hc => ?_⟩
  intro _ a w hs
  cases inv_label hc
  exact wpIn_label ⟨s, h, hs⟩
theorem T_goto {l : Nat} (h : Q (.goto l) s) : T G F n (.goto l) Q s := by
  refine ⟨fun code hc => ?_⟩
  intro _ a w hs
  cases inv_goto hc
  exact wpIn_goto ⟨s, h, hs⟩
theorem T_ret (h : Q .ret s) : T G F n .ret Q s := by
  refine ⟨fun code hc => ?_⟩
  intro _ a w hs
  cases inv_ret hc
  exact wpIn_ret ⟨s, h, hs⟩
theorem T_region (hF : FOk F) {t : TOps} {k ids : List Nat} (h : Run G.P t (fun s' => Q .normal (s'.keep k ids)) s) : T G F n (.region none t k ids) Q s := by
  refine ⟨fun code hc => ?_⟩
  intro hok a w hs
  obtain ⟨id, ops, l, rfl, hz, hfl⟩ := inv_region hc
  have hl := flatT_inj hfl
  subst hl
  simp only [ACode.ok, Bool.and_eq_true] at hok
  obtain ⟨s', hst, hq⟩ := run_sound (G := G) hok.1 hok.2 h
  refine wpIn_region ?_
  have := steps_ops (F := F) (n := n) (Q := fun e a w => ∃ s', Q e s' ∧ SimS G s' a w) hF hst 0 ops.toList hz (fun i o hi => by simpa using hi) (fun a w hs' => ⟨_, hq, keep_weak G k ids s' a w hs'⟩) a w hs
  rw [compR_len hz] at this
  simpa [List.range_eq_range'] using this
theorem T_loop {ι : Type} {c : ACode} (S : ι → AS) (Inv : ι → Prop) (μ : ι → Nat) (i0 : ι) (hi : Inv i0) (h0 : Weak G s (S i0))
    (round : ∀ i, Inv i → T G F n c (fun e s' => match e with | .normal => ∃ j, Inv j ∧ μ j < μ i ∧ Weak G s' (S j) | e => Q e s') (S i)) : T G F n (.loop c) Q s := by
  refine ⟨fun code hc => ?_⟩
  intro hok x w hs
  obtain ⟨cc, rfl, hc'⟩ := inv_loop hc
  let W : Act → World → Nat → Prop := fun a w m => ∃ i, Inv i ∧ μ i = m ∧ SimS G (S i) a w
  have least : ∀ a w, (∃ m, W a w m) → ∃ m, W a w m ∧ ∀ k, W a w k → m ≤ k := by
    intro a w ⟨m, hm⟩
    induction m using Nat.strongRecOn with
    | _ m ih =>
      by_cases hex : ∃ k, k < m ∧ W a w k
      · obtain ⟨k, hk, hw⟩ := hex
        exact ih k hk hw
      · exact ⟨m, hm, fun k hk => Nat.le_of_not_lt fun hlt => hex ⟨k, hlt, hk⟩⟩
  have hμ : ∃ μ' : Act → World → Nat, ∀ a w, (∃ m, W a w m) → W a w (μ' a w) ∧ ∀ k, W a w k → μ' a w ≤ k := by
    have : ∀ p : Act × World, ∃ m : Nat, (∃ m, W p.1 p.2 m) → W p.1 p.2 m ∧ ∀ k, W p.1 p.2 k → m ≤ k := by
      intro p
      by_cases hex : ∃ m, W p.1 p.2 m
      · obtain ⟨m, hm⟩ := least p.1 p.2 hex
        exact ⟨m, fun _ => hm⟩
      · exact ⟨0, fun h => absurd h hex⟩
    exact ⟨fun a w => Classical.choose (this (a, w)), fun a w => Classical.choose_spec (this (a, w))⟩
  obtain ⟨μ', hμ⟩ := hμ
  refine wpIn_loop (fun a w => ∃ m, W a w m) μ' ⟨_, i0, hi, rfl, h0 x w hs⟩ fun a w hI => ?_
  obtain ⟨⟨i, hinv, hmi, hsi⟩, hmin⟩ := hμ a w hI
  refine wpIn_mono ((round i hinv).of cc hc' hok a w hsi) ?_
  rintro e a' w' ⟨s', hq, hs'⟩
  cases e <;> first
    | (obtain ⟨j, hj, hlt, hw⟩ := hq
       have hWj : W a' w' (μ j) := ⟨j, hj, rfl, hw a' w' hs'⟩
       exact ⟨⟨_, hWj⟩, Nat.lt_of_le_of_lt ((hμ a' w' ⟨_, hWj⟩).2 _ hWj) (by rw [← hmi]; exact hlt)⟩)
    | exact ⟨s', hq, hs'⟩
end rules
inductive RV where
  | tmp (t : Nat)
  | cell (n : Nat) (g : Bool) (t : Nat)
def compRV (P : Program) : List ResultVar → Option (List RV)
  | [] => some []
  | .tmp t :: rs => (compRV P rs).map (.tmp t :: ·)
  | .cell t ty :: rs => (szOf P ty).bind fun n => (aggOf P ty).bind fun g => (compRV P rs).map (.cell n g t :: ·)
def evRV (rs : List RV) (e : Env) (σ : Sto) : Option (List AV) :=
  match rs with
  | [] => some []
  | .tmp t :: rs => (evRV rs e σ).map (lk e t :: ·)
  | .cell n g t :: rs => match evQ (.load n g (.t t)) e σ with
    | some v => (evRV rs e σ).map (v :: ·)
    | none => none
def resD : List DV → DV
  | [d] => d
  | ds => .tup ds
def initE : Nat → List DV → Env
  | _, [] => []
  | i, d :: ds => (i, d.av) :: initE (i + 1) ds
section fn
variable {P : Program} {G : Ground} {s : AS} {a : Act} {w : World} {A : Nat → Prop} {τ : Tau}
def resV (tmps : Array Value) : ResultVar → Sem Value
  | .tmp t => pure (tmps.getD t undef)
  | .cell b t => do loadVar t (← asAddr (tmps.getD b undef))
theorem results_def (fn : Func) (tmps : Array Value) : results fn tmps = (do
    let vs ← fn.results.mapM (resV tmps)
    pure (if h : vs.size = 1 then vs[0] else .tuple vs)) := by
  unfold results
  congr 1
theorem run_results : ∀ {rs : List ResultVar} {rv : List RV} {vs : List AV}, compRV P rs = some rv → SimAt G s a w A τ → evRV rv s.env s.σ = some vs →
    ∃ xs, (rs.mapM (resV a.tmps)).run P w = .ok xs w ∧ All2 (VRel A τ w) vs xs
  | [], rv, vs, hc, h, he => by
    simp only [compRV] at hc; cases hc
    simp only [evRV] at he; cases he
    exact ⟨[], rfl, .nil⟩
  | .tmp t :: rs, rv, vs, hc, h, he => by
    simp only [compRV] at hc
    obtain ⟨rv', h1, rfl⟩ := map_some' hc
    simp only [evRV] at he
    obtain ⟨vs', h2, rfl⟩ := map_some' he
    obtain ⟨xs, h3, h4⟩ := run_results h1 h h2
    refine ⟨a.tmps.getD t undef :: xs, ?_, .cons (h.env t) h4⟩
    simp only [List.mapM_cons, resV, Sem.run_bind, Sem.run_pure, Result.andThen_ok, h3]
  | .cell t ty :: rs, rv, vs, hc, h, he => by
    simp only [compRV] at hc
    obtain ⟨n, hn, hc⟩ := bind_some' hc
    obtain ⟨g, hg, hc⟩ := bind_some' hc
    obtain ⟨rv', h1, rfl⟩ := map_some' hc
    simp only [evRV] at he
    split at he
    · rename_i v hv
      obtain ⟨vs', h2, rfl⟩ := map_some' he
      obtain ⟨xs, h3, h4⟩ := run_results h1 h h2
      have h5 := h.env t
      simp only [evQ] at hv
      have fin : ∀ b off x, a.tmps.getD t undef = .pointer (some ⟨b, off, none⟩) → (loadVar ty ⟨b, off, none⟩).run P w = .ok x w → VRel A τ w v x →
          ∃ xs, ((ResultVar.cell t ty :: rs).mapM (resV a.tmps)).run P w = .ok xs w ∧ All2 (VRel A τ w) (v :: vs') xs := by
        intro b off x e1 hx hr
        refine ⟨x :: xs, ?_, .cons hr h4⟩
        simp only [List.mapM_cons, resV, Sem.run_bind, e1, asAddr, Sem.run_pure, Result.andThen_ok, hx, h3]
      split at hv
      · rename_i cells hcells
        simp only [get] at hcells
        rw [hcells] at h5
        obtain ⟨b, off, e1, hA, hat⟩ := box_inv h5
        obtain ⟨z, hz, hr⟩ := ldP_sound (P := P) (τ := τ) hn hg hat hv
        exact fin b off z e1 hz hr
      · rename_i t' i s' off hp
        simp only [get] at hp
        rw [hp] at h5
        obtain ⟨b, e1, hb⟩ := ptr_inv h5
        obtain ⟨z, hz, hr⟩ := ldO_sound (P := P) hn hg (h.obj t') hb hv
        exact fin b _ z e1 hz hr
      · cases hv
    · cases he
theorem results_run {fn : Func} {rv : List RV} {vs : List AV} (hc : compRV P fn.results.toList = some rv) (h : SimAt G s a w A τ) (he : evRV rv s.env s.σ = some vs) {ds : List DV} {σ' : Sto}
    (hd : toDs 6 vs s.σ = some (ds, σ')) (hk : ∀ d ∈ ds, ∀ xs, d ≠ .tup xs) : ∃ x A', (∀ b, A b → A' b) ∧ (∀ b, A' b → b < w.heap.size) ∧ (∀ b, A' b → G.A0 b ∨ G.M b) ∧ (results fn a.tmps).run P w = .ok x w ∧ DRel A' w (resD ds) x := by
  obtain ⟨xs, h1, h2⟩ := run_results hc h he
  obtain ⟨A', i, hs, k⟩ := toDs_sound vs s σ' ds A h hd
  have h3 := k xs h2
  have hm : (fn.results.mapM (resV a.tmps)).run P w = .ok ⟨xs⟩ w := by
    rw [Array.mapM_eq_mapM_toList]
    simp only [Sem.run_map, h1, Result.andThen_ok]
  have hr : (results fn a.tmps).run P w = .ok (if h : xs.length = 1 then xs[0] else .tuple ⟨xs⟩) w := by
    rw [results_def]
    simp only [Sem.run_bind, hm, Result.andThen_ok, Sem.run_pure]
    rfl
  refine ⟨_, A', i, hs.alt, hs.a1, hr, ?_⟩
  have d1 : ∀ {ds : List DV} {xs : List Value}, (∀ d ∈ ds, ∀ xs, d ≠ .tup xs) → All2 (DRel A' w) ds xs → All2 (D1 A' w) ds xs := by
    intro ds xs hk hh
    refine hh.stepL (p := fun d => ∀ xs, d ≠ .tup xs) hk fun d x hd hr => ?_
    cases hr with
    | d1 h => exact h
    | tup => exact absurd rfl (hd _)
  cases h3 with
  | nil => simp only [resD]; simp; exact .tup .nil
  | cons q1 ht =>
    cases ht with
    | nil => simpa [resD] using q1
    | cons q2 ht2 =>
      simp only [resD]
      simp
      exact .tup (d1 hk (.cons q1 (.cons q2 ht2)))
end fn
def Ends (rv : List RV) (r : DV) : Exit → AS → Prop := fun e s => (e = .normal ∨ e = .ret) ∧ ∃ vs ds σ', evRV rv s.env s.σ = some vs ∧ toDs 6 vs s.σ = some (ds, σ') ∧ (∀ d ∈ ds, ∀ xs, d ≠ .tup xs) ∧ r = resD ds
theorem initE_lk : ∀ (ds : List DV) (i j : Nat), lk (initE i ds) j = if h : i ≤ j ∧ j - i < ds.length then (ds[j - i]'h.2).av else .top
  | [], i, j => by simp [initE, lk]
  | d :: ds, i, j => by
    simp only [initE, lk_put]
    by_cases h : j = i
    · subst h; simp
    · rw [if_neg h, initE_lk ds (i + 1) j]
      by_cases h1 : i + 1 ≤ j
      · have e1 : j - i = (j - (i + 1)) + 1 := by omega
        simp only [e1, List.length_cons, List.getElem_cons_succ]
        by_cases h2 : j - (i + 1) < ds.length
        · rw [dif_pos ⟨h1, h2⟩, dif_pos ⟨by omega, by omega⟩]
        · rw [dif_neg (by omega), dif_neg (by omega)]
      · rw [dif_neg (by omega), dif_neg (by omega)]
theorem SimAt.takeMark {G : Ground} {s : AS} {a : Act} {w : World} {A : Nat → Prop} {τ : Tau} {d : Deferred} {ds : List Deferred} (hd : a.defers = d :: ds) (h : SimAt G s a w A τ) :
    ∃ r w', d.target = .collected r ∧ (Instr.takeDeferred r).run G.P w = .ok [] w' ∧ SimAt G s { a with defers := ds } w' A τ := by
  have hm := h.marks
  rw [hd] at hm
  obtain ⟨⟨r, rfl, hN, hA, hr, hnot⟩, hrest⟩ := hm
  have hw : WStep (· = r) w (w.putObj r (.deferred none)) := by
    refine ⟨rfl, rfl, rfl, by simp [World.putObj], fun b _ hb => World.putObj_heap_other hb, fun b cs e hb => ⟨cs, ?_, rfl⟩⟩
    rw [World.putObj_heap_other (fun e' => by subst e'; rw [hr] at hb; cases hb)]
    exact hb
  have hcells : ∀ t b, lo s.σ t ≠ .none → τ t = some b → b ≠ r := by
    intro t b hne hb e
    subst e
    have := h.obj t
    cases ho : lo s.σ t with
    | none => exact hne ho
    | cells m cs =>
      rw [ho] at this
      obtain ⟨b', _, _, h1, h2, _⟩ := this
      rw [hb] at h1; cases h1; rw [h2] at hr; cases hr
    | arr m s' rows =>
      rw [ho] at this
      obtain ⟨_, _, ⟨h1, _⟩ | ⟨b', _, _, h1, h2, _⟩⟩ := this
      · rw [hb] at h1; cases h1
      · rw [hb] at h1; cases h1; rw [h2] at hr; cases hr
    | map m es =>
      rw [ho] at this
      obtain ⟨b', _, _, h1, h2, _⟩ := this
      rw [hb] at h1; cases h1; rw [h2] at hr; cases hr
  refine ⟨r, w.putObj r (.deferred none), rfl, run_takeDeferred hr, ?_⟩
  have hst : Still A w (w.putObj r (.deferred none)) := hw.still h.alt (fun b hb e => hA (e ▸ hb))
  refine ⟨?_, h.a0, h.a1, fun b hb => by simpa [World.putObj] using h.alt b hb, h.size, fun i => (h.env i).step hw (fun _ hb => hb) hst (fun _ _ => rfl), fun t => ?_, h.sep,
    h.ex.mono fun _ _ hv => hv.step hw (fun _ hb => hb) hst (fun _ _ => rfl), ?_⟩
  · refine ⟨h.below.os, h.below.tape, h.below.output, Nat.le_trans h.below.size hw.size, fun k hk hno => ?_⟩
    rw [World.putObj_heap_other (by omega)]
    exact h.below.block k hk hno
  · exact (h.obj t).step hw (fun _ hb => hb) hst (fun _ hb => .inl hb) (fun b hne hb hlt => hw.same b hlt (hcells t b hne hb)) rfl (fun _ _ => rfl)
  · have key : ∀ ds', Marks G.N A w ds' → (⟨.collected r, #[]⟩ : Deferred) ∉ ds' → Marks G.N A (w.putObj r (.deferred none)) ds' := by
      intro ds'
      induction ds' with
      | nil => intro _ _; trivial
      | cons d' ds' ih =>
        rintro ⟨⟨r', rfl, q1, q2, q3, q4⟩, q5⟩ hn
        simp only [List.mem_cons, not_or] at hn
        exact ⟨⟨r', rfl, q1, q2, by rw [World.putObj_heap_other (fun e => hn.1 (by rw [e]))]; exact q3, q4⟩, ih q5 hn.2⟩
    exact key ds hrest hnot
theorem leaves {G : Ground} {s : AS} {A : Nat → Prop} {τ : Tau} {F : Fence} {n : Nat} {fn : Func} {R : Ending → World → Prop} {tmps : Array Value} :
    ∀ (ds : List Deferred) (w : World), SimAt G s { tmps := tmps, defers := ds } w A τ → (∀ w', SimAt G s { tmps := tmps, defers := [] } w' A τ → ∃ v, (results fn tmps).run G.P w' = .ok v w' ∧ R (.returned v) w') →
    LeavesInM F n G.P fn tmps R ds .returning w
  | [], w, h, k => k w h
  | d :: ds, w, h, k => by
    obtain ⟨r, w', h1, h2, h3⟩ := h.takeMark rfl
    exact ⟨by simp, .inl ⟨r, w', h1, h2, leaves ds w' h3 k⟩⟩
theorem pureC_of {P : Program} {f : FuncId} {fn : Func} {c : Code} {ac : ACode} {rv : List RV} {ds : List DV} {r : DV}
    (henter : ∀ args w, (callFunc f args).run P w = .ok (.enter f args) w) (hf : P.funcs[f]? = some fn) (hb : fn.body = some c) (hc : compC P c = some ac.erase) (hok : ac.ok fn.ntmps = true)
    (hr : compRV P fn.results.toList = some rv) (hn : ds.length ≤ fn.ntmps)
    (h : ∀ (G : Ground), G.P = P → G.nt = fn.ntmps → T G Fence.wide 0 ac (Ends rv r) { env := initE 0 ds, σ := [] }) : PureC P f ds r := by
  refine ⟨henter, fun A w xs hA hxs => ?_⟩
  let G : Ground := { P := P, w0 := w, A0 := A, nt := fn.ntmps }
  have hlen := hxs.length
  have hs : SimAt G { env := initE 0 ds, σ := [] } { tmps := (⟨xs⟩ : Array Value) ++ Array.replicate (fn.ntmps - (⟨xs⟩ : Array Value).size) undef, defers := [] } w A (fun _ => none) := by
    refine ⟨⟨rfl, rfl, rfl, Nat.le_refl _, fun _ _ _ => rfl⟩, fun _ hb => hb, fun _ hb => .inl hb, hA, ?_, fun i => ?_, fun t => trivial, fun t t' b h1 => absurd rfl h1, .nil, trivial⟩
    · simp [G]; omega
    · simp only [initE_lk]
      split
      · rename_i hi
        have hi2 : i < xs.length := by omega
        have hget : ((⟨xs⟩ : Array Value) ++ Array.replicate (fn.ntmps - (⟨xs⟩ : Array Value).size) undef).getD i undef = xs[i] := by
          rw [Array.getD_eq_getD_getElem?, Array.getElem?_append_left (by simpa using hi2)]
          simp [hi2]
        rw [hget]
        obtain ⟨x, hx, hrel⟩ := hxs.get (i - 0) _ (List.getElem?_eq_getElem hi.2)
        have : xs[i] = x := by
          have := (List.getElem?_eq_some_iff.1 hx).2
          simpa using this
        rw [this]; exact hrel.av
      · exact .v1 (.top _)
  refine callsIn_wide.1 (callsIn_of_wp_marks (n := 0) hf hb trivial (wpIn_mono ((h G rfl rfl).of c hc hok _ _ ⟨A, _, hs⟩) ?_))
  rintro e a w' ⟨s', ⟨he, vs, ds', σ', h1, h2, h3, rfl⟩, A1, τ1, hs'⟩
  have fin : LeavesInM Fence.wide 0 G.P fn a.tmps (fun e w' => ∃ x, e = .returned x ∧ Below w.heap.size w w' ∧ DRel (Anew A w w') w' (resD ds') x) a.defers .returning w' := by
    refine leaves (A := A1) (τ := τ1) (s := s') a.defers w' hs' fun w2 hs2 => ?_
    obtain ⟨x, A2, i1, i2, i3, hx, hrel⟩ := results_run (P := P) (a := { tmps := a.tmps, defers := [] }) hr hs2 h1 h2 h3
    exact ⟨x, hx, x, rfl, hs2.below.plain (fun _ hk => hk), hrel.wider fun b hb => (i3 b hb).imp id fun hN => ⟨hN.resolve_right (fun hk => hk), i2 b hb⟩⟩
  rcases he with rfl | rfl <;> exact fin
end Go.AM

namespace Go.AM

mutual
def PV.wf : PV → Prop
  | .sl rows => rows.length ≤ MaxN ∧ wfss rows
  | .fn _ a b => wfs a ∧ wfs b
  | .box cs => wfs cs
  | .map es => wfe es
  | .ifc _ c => c.wf
  | .ifcA _ cs => wfs cs
  | _ => True
def wfs : List PV → Prop
  | [] => True
  | c :: cs => c.wf ∧ wfs cs
def wfss : List (List PV) → Prop
  | [] => True
  | c :: cs => wfs c ∧ wfss cs
def wfe : List (Int × Bool × List PV) → Prop
  | [] => True
  | (_, _, c) :: cs => wfs c ∧ wfe cs
end
theorem wfs_append : ∀ {a b : List PV}, wfs (a ++ b) → wfs a ∧ wfs b
  | [], b, h => ⟨by simp [wfs], h⟩
  | c :: a, b, h => by
    simp only [List.cons_append, wfs] at h ⊢
    obtain ⟨h1, h2⟩ := h
    exact ⟨⟨h1, (wfs_append h2).1⟩, (wfs_append h2).2⟩
theorem wfss_flatten : ∀ {rows : List (List PV)}, wfs rows.flatten → wfss rows
  | [], _ => by simp [wfss]
  | r :: rows, h => by
    simp only [List.flatten_cons] at h
    simp only [wfss]
    exact ⟨(wfs_append h).1, wfss_flatten (wfs_append h).2⟩
def J.wf : J → Prop
  | .p v _ => v.wf
  | .ps vs _ => wfs vs
  | .at_ vs _ _ => wfs vs
  | .en es _ => wfe es
theorem Rel.wf {A : Nat → Prop} {w : World} {j : J} (h : Rel A w j) : j.wf := by
  induction h with
  | sl rows b off cap s hA hs hl hc h ih =>
    simp only [J.wf, PV.wf] at ih ⊢
    exact ⟨hl, wfss_flatten ih⟩
  | _ => simp_all [J.wf, PV.wf, wfs, wfss, wfe]
def AC.wf : AC → Prop
  | .p v => v.wf
  | _ => True
def AV.wf : AV → Prop
  | .one c => c.wf
  | .agg cs => ∀ c ∈ cs, c.wf
  | _ => True
theorem crel_wf {A : Nat → Prop} {τ : Tau} {w : World} {c : AC} {x : Value} (h : CRel A τ w c x) : c.wf := by
  cases c with
  | p v => cases h with
    | c0 h => cases h with
      | p _ _ h => exact Rel.wf (j := .p _ _) h
  | _ => trivial
theorem vrel_wf {A : Nat → Prop} {τ : Tau} {w : World} {v : AV} {x : Value} (h : VRel A τ w v x) : v.wf := by
  cases v with
  | one c => cases h with
    | v1 h => cases h with
      | one h => exact crel_wf h
  | agg cs => cases h with
    | v1 h => cases h with
      | agg h =>
        intro c hc
        obtain ⟨i, hi, rfl⟩ := List.getElem_of_mem hc
        obtain ⟨x, _, hx⟩ := h.get i _ (List.getElem?_eq_getElem hi)
        exact crel_wf hx
  | _ => trivial
section
variable {G : Ground} {F : Fence} {n : Nat} {Q : Exit → AS → Prop} {s : AS}
theorem T_wf (i : Nat) {c : ACode} (h : (lk s.env i).wf → T G F n c Q s) : T G F n c Q s := by
  refine ⟨fun code hc hok a w hs => ?_⟩
  obtain ⟨A, τ, hs1⟩ := hs
  exact (h (vrel_wf (hs1.env i))).of code hc hok a w ⟨A, τ, hs1⟩
structure noGo (Q : Exit → AS → Prop) (e : Exit) (s : AS) : Prop where
  of : match e with
    | .goto _ => False
    | e => Q e s
theorem T_scope {c : ACode} (h : T G Fence.wide n c (noGo Q) s) : T G Fence.wide n (.scope c) Q s := by
  refine ⟨fun code hc hok a w hs => ?_⟩
  obtain ⟨cc, rfl, hc'⟩ := inv_scope hc
  refine wpIn_wide.2 (wp_scope_straight (wpIn_wide.1 (wpIn_mono (h.of cc hc' hok a w hs) ?_)))
  rintro e a w ⟨s', hq, hs'⟩
  obtain ⟨hq⟩ := hq
  cases e <;> first | exact hq.elim | exact ⟨s', hq, hs'⟩
theorem fw : FOk Fence.wide := .inl rfl
theorem run_mono {P : Program} : ∀ {t : TOps} {K K' : AS → Prop} {s : AS}, Run P t K s → (∀ s, K s → K' s) → Run P t K' s
  | .nil, K, K', s, h, k => k s h
  | .op d g (.q q) rest, K, K', s, h, k => by
    simp only [Run] at h ⊢
    split at h
    · rename_i v hv; first | exact run_mono h k | (simp only [hv]; exact run_mono h k)
    · exact h.elim
  | .op d g (.n q) rest, K, K', s, h, k => by
    simp only [Run] at h ⊢
    split at h
    · split at h
      · rename_i hl
        split at h
        · rename_i hn
          split at h
          · rename_i ob v hv
            simp only [hl, hn, if_true, hv]; exact run_mono h k
          · exact h.elim
        · exact h.elim
      · exact h.elim
    · exact h.elim
  | .op d g (.s q) rest, K, K', s, h, k => by
    simp only [Run] at h ⊢
    split at h
    · rename_i u ob v kk hv
      first | exact ⟨h.1, run_mono h.2 k⟩ | (simp only [hv]; exact ⟨h.1, run_mono h.2 k⟩)
    · exact h.elim
  | .op d g (.call f xs) rest, K, K', s, h, k => by
    simp only [Run] at h ⊢
    rcases h with ⟨r, σ', h1, h2⟩ | ⟨v, σ1, h1, h2⟩
    · exact .inl ⟨r, σ', h1, run_mono h2 k⟩
    · exact .inr ⟨v, σ1, h1, run_mono h2 k⟩
  | .sc d c want last g inner rest, K, K', s, h, k => by
    simp only [Run] at h ⊢
    obtain ⟨b, x, h1, h2, h3⟩ := h
    exact ⟨b, x, h1, h2, run_mono h3 k⟩
theorem T_reg (hF : FOk F) {t : TOps} {kp ids : List Nat} {S : AS} (h : Run G.P t (fun s' => s'.keep kp ids = S) s) (k : Q .normal S) : T G F n (.region none t kp ids) Q s :=
  T_region hF (run_mono h fun s' e => by rw [e]; exact k)
theorem T_sr (hF : FOk F) {t : TOps} {kp ids : List Nat} {S : AS} {b : ACode} (h : Run G.P t (fun s' => s'.keep kp ids = S) s) (k : T G F n b Q S) : T G F n (.seq (.region none t kp ids) b) Q s :=
  T_seq (T_reg hF h ⟨k⟩)
section ends
variable {b : ACode} {id id' : Nat}
theorem T_then (h : T G F n b Q s) : Then G F n b Q .normal s := ⟨h⟩
theorem then_exit (h : Q (.exit id) s) : Then G F n b Q (.exit id) s := ⟨h⟩
theorem then_goto (h : Q (.goto id) s) : Then G F n b Q (.goto id) s := ⟨h⟩
theorem then_ret (h : Q .ret s) : Then G F n b Q .ret s := ⟨h⟩
theorem inB_normal (h : Q .normal s) : inB id Q .normal s := ⟨h⟩
theorem inB_ret (h : Q .ret s) : inB id Q .ret s := ⟨h⟩
theorem inB_goto (h : Q (.goto id') s) : inB id Q (.goto id') s := ⟨h⟩
theorem inB_exit (h : Q .normal s) : inB id Q (.exit id) s := ⟨by simp only [if_true]; exact h⟩
theorem inB_exit_ne (hne : (id' == id) = false) (h : Q (.exit id') s) : inB id Q (.exit id') s := by
  have : id' ≠ id := by simpa using hne
  exact ⟨by simp only [this, if_false]; exact h⟩
theorem noGo_normal (h : Q .normal s) : noGo Q .normal s := ⟨h⟩
theorem noGo_ret (h : Q .ret s) : noGo Q .ret s := ⟨h⟩
theorem noGo_exit (h : Q (.exit id) s) : noGo Q (.exit id) s := ⟨h⟩
end ends
def noTup : List DV → Bool
  | [] => true
  | .tup _ :: _ => false
  | _ :: ds => noTup ds
theorem noTup_sound : ∀ {ds : List DV}, noTup ds = true → ∀ d ∈ ds, ∀ xs, d ≠ .tup xs
  | [], _, d, hd, _ => by simp at hd
  | .one v :: ds, h, d, hd, xs => by
    rcases List.mem_cons.1 hd with rfl | hd
    · simp
    · exact noTup_sound (ds := ds) h d hd xs
  | .agg v :: ds, h, d, hd, xs => by
    rcases List.mem_cons.1 hd with rfl | hd
    · simp
    · exact noTup_sound (ds := ds) h d hd xs
  | .tup _ :: _, h, _, _, _ => by simp [noTup] at h
theorem ends_ret {rv : List RV} {r : DV} {s : AS} {vs : List AV} {ds : List DV} {σ' : Sto} (h1 : evRV rv s.env s.σ = some vs) (h2 : toDs 6 vs s.σ = some (ds, σ')) (h3 : noTup ds = true) (h4 : resD ds = r) : Ends rv r .ret s :=
  ⟨.inr rfl, vs, ds, σ', h1, h2, noTup_sound h3, h4.symm⟩
theorem T_condT {c : Opd} {x y : ACode} (hc : get s.env c = pbool true) (hx : T G F n x Q s) : T G F n (.cond c x y) Q s := T_cond hc (fun _ => hx) (fun h => by cases h)
theorem T_condF {c : Opd} {x y : ACode} (hc : get s.env c = pbool false) (hy : T G F n y Q s) : T G F n (.cond c x y) Q s := T_cond hc (fun h => by cases h) (fun _ => hy)
theorem T_condD {c : Opd} {x y : ACode} {p : Prop} [Decidable p] (hc : get s.env c = pbool (decide p)) (hx : p → T G F n x Q s) (hy : ¬ p → T G F n y Q s) : T G F n (.cond c x y) Q s :=
  T_cond hc (fun h => hx (of_decide_eq_true h)) (fun h => hy (of_decide_eq_false h))
theorem nth {α : Type} {s : List α} {i : Nat} (hi : i ≤ s.length) : (∃ x, i < s.length ∧ s[i]? = some x ∧ s.drop i = x :: s.drop (i + 1)) ∨ (i = s.length ∧ s.drop i = []) := by
  by_cases h : i < s.length
  · exact .inl ⟨s[i], h, List.getElem?_eq_getElem h, List.drop_eq_getElem_cons h⟩
  · exact .inr ⟨by omega, List.drop_eq_nil_of_le (by omega)⟩
theorem wrap_in {n : Int} (h0 : -9223372036854775808 ≤ n) (h1 : n < 9223372036854775808) : IntKind.i64.wrap n = n := by
  simp only [IntKind.wrap, IntKind.bits, IntKind.signed]
  simp
  omega
theorem wrap_succ {i m : Nat} (h : i < m) (hm : m ≤ MaxN) : IntKind.i64.wrap ((i : Int) + 1) = ((i + 1 : Nat) : Int) := by
  have : MaxN = 140737488355328 := rfl
  rw [wrap_in (by omega) (by omega)]; rfl
structure Rnd (G : Ground) {α : Type} (m : Nat) (S : Nat → α → AS) (Inv : Nat → α → Prop) (Q : Exit → AS → Prop) (i : Nat) (e : Exit) (s' : AS) : Prop where
  of : match e with
    | .normal => i < m ∧ ∃ b, Inv (i + 1) b ∧ Weak G s' (S (i + 1) b)
    | e => Q e s'
theorem T_for {α : Type} {c : ACode} (m : Nat) (S : Nat → α → AS) (Inv : Nat → α → Prop) (a0 : α) (hi : Inv 0 a0) (h0 : Weak G s (S 0 a0))
    (round : ∀ i a, i ≤ m → Inv i a → T G F n c (Rnd G m S Inv Q i) (S i a)) : T G F n (.loop c) Q s := by
  refine T_loop (fun p : Nat × α => S p.1 p.2) (fun p => p.1 ≤ m ∧ Inv p.1 p.2) (fun p => m - p.1) (0, a0) ⟨Nat.zero_le _, hi⟩ h0 ?_
  rintro ⟨i, a⟩ ⟨h1, h2⟩
  refine T_mono (round i a h1 h2) ?_
  rintro e s' ⟨h⟩
  cases e <;> first
    | (obtain ⟨hlt, b, h3, h4⟩ := h; exact ⟨(i + 1, b), ⟨hlt, h3⟩, by simp only; omega, h4⟩)
    | exact h
section rnd
variable {α : Type} {m : Nat} {S : Nat → α → AS} {Inv : Nat → α → Prop} {i : Nat}
theorem rnd_next (hlt : i < m) (b : α) (hi : Inv (i + 1) b) (hw : Weak G s (S (i + 1) b)) : Rnd G m S Inv Q i .normal s := ⟨hlt, b, hi, hw⟩
theorem rnd_exit {id : Nat} (h : Q (.exit id) s) : Rnd G m S Inv Q i (.exit id) s := ⟨h⟩
theorem rnd_ret (h : Q .ret s) : Rnd G m S Inv Q i .ret s := ⟨h⟩
theorem rnd_goto {id : Nat} (h : Q (.goto id) s) : Rnd G m S Inv Q i (.goto id) s := ⟨h⟩
end rnd
@[simp] theorem wf_one (v : PV) : AV.wf (.one (.p v)) = v.wf := rfl
theorem wf_sl (rows : List (List PV)) : PV.wf (.sl rows) = (rows.length ≤ MaxN ∧ wfss rows) := by simp only [PV.wf]
end
end Go.AM

