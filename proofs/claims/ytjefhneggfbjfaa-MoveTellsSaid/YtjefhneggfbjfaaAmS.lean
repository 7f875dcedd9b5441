import Derived.Test.YtjefhneggfbjfaaAmN
import Derived.Deep.AppendSrc
import Derived.Laws.CopyRow
import Derived.Laws.AppendOwn
namespace Go.AM
open Go.RowKit (Below)
set_option linter.unusedSimpArgs false
set_option linter.unusedVariables false

/-! ### operations that turn an object -/
inductive SOp where
  | store (n : Nat) (a x : Opd)
  | app (s by_ : Nat) (x y : Opd)
  | copy (s : Nat) (x y : Opd)

mutual
def AC.scr (t : Nat) : AC → AC
  | .ptr u i s o => if u = t then .p .top else .ptr u i s o
  | .msl u o s l c => if u = t then .p .top else .msl u o s l c
  | .mmap u => if u = t then .p .top else .mmap u
  | .mfn f a b => if AC.has.hasL t a || AC.has.hasL t b then .p .top else .mfn f a b
  | c => c
end

def AV.scr (t : Nat) : AV → AV
  | .one c => .one (c.scr t)
  | .agg cs => .agg (cs.map (AC.scr t))
  | .tup xs => if AV.has.hasV t xs then .top else .tup xs
  | .top => .top
  | .und => .und

def AO.scr (t : Nat) : AO → AO
  | .cells m cs => .cells m (cs.map (AC.scr t))
  | o => o

def AS.scr (t : Nat) (s : AS) : AS :=
  { env := s.env.map fun p => (p.1, p.2.scr t), σ := s.σ.map fun p => (p.1, p.2.scr t), ex := s.ex.map (AV.scr t) }

theorem AC.scr_has (t : Nat) (c : AC) : (c.scr t).has t = false := by
  cases c <;> simp only [AC.scr] <;> (try split) <;> simp_all [AC.has]

theorem hasL_scr (t : Nat) (cs : List AC) : AC.has.hasL t (cs.map (AC.scr t)) = false := by
  induction cs with
  | nil => rfl
  | cons c cs ih => simp [AC.has.hasL, AC.scr_has, ih]

theorem lk_map (f : AV → AV) (hf : f .top = .top) (e : List (Nat × AV)) (i : Nat) : lk (e.map fun p => (p.1, f p.2)) i = f (lk e i) := by
  induction e with
  | nil => simp [lk, hf]
  | cons p e ih =>
    obtain ⟨j, v⟩ := p
    simp only [List.map_cons, lk]
    split
    · rfl
    · exact ih

theorem lo_map (f : AO → AO) (hf : f .none = .none) (e : List (Nat × AO)) (i : Nat) : lo (e.map fun p => (p.1, f p.2)) i = f (lo e i) := by
  induction e with
  | nil => simp [lo, hf]
  | cons p e ih =>
    obtain ⟨j, v⟩ := p
    simp only [List.map_cons, lo]
    split
    · rfl
    · exact ih

section scr
variable {P : Program} {G : Ground} {s : AS} {a : Act} {w : World} {A : Nat → Prop} {τ : Tau}

theorem CRel.scr (t : Nat) {c : AC} {x : Value} (h : CRel A τ w c x) : CRel A τ w (c.scr t) x := by
  have htop : CRel A τ w (.p .top) x := .c0 (.p _ _ (.top x h.cell1))
  cases c <;> simp only [AC.scr] <;> (try split) <;> first | exact h | exact htop

theorem All2.mapL {α β γ : Type} {R : α → β → Prop} {S : γ → β → Prop} {f : α → γ} {as : List α} {bs : List β} (h : All2 R as bs) (k : ∀ a b, R a b → S (f a) b) : All2 S (as.map f) bs := by
  induction h with
  | nil => exact .nil
  | cons x _ ih => exact .cons (k _ _ x) ih

theorem VRel.scr (t : Nat) {c : AV} {x : Value} (h : VRel A τ w c x) : VRel A τ w (c.scr t) x := by
  cases h with
  | v1 h => cases h with
    | one h => exact .v1 (.one (h.scr t))
    | agg h => exact .v1 (.agg (h.mapL fun _ _ k => k.scr t))
    | top => exact .v1 (.top _)
    | und => exact .v1 .und
  | tup h =>
    simp only [AV.scr]
    split
    · exact .v1 (.top _)
    · exact .tup h

theorem ORel.scr (t : Nat) {M : Nat → Prop} {u : Nat} {o : AO} (h : ORel M A τ w u o) : ORel M A τ w u (o.scr t) := by
  cases o with
  | none => trivial
  | arr => exact h
  | map => exact h
  | cells m cs =>
    obtain ⟨b, xs, e, h1, h2, h3, h4⟩ := h
    refine ⟨b, xs, e, h1, h2, h3.mapL fun _ _ k => k.scr t, ?_⟩
    cases m
    · refine ⟨h4.1, fun c hc => ?_⟩
      obtain ⟨d, hd, rfl⟩ := List.mem_map.1 hc
      obtain ⟨v, rfl⟩ := h4.2 d hd
      exact ⟨v, rfl⟩
    · exact h4

theorem scr_mu (t : Nat) (o : AO) : (o.scr t).mu = o.mu := by cases o <;> rfl
theorem scr_none (t : Nat) (o : AO) : o.scr t = .none ↔ o = .none := by cases o <;> simp [AO.scr]

theorem AV.scr_has (t : Nat) : ∀ (v : AV), (v.scr t).has t = false
  | .one c => AC.scr_has t c
  | .agg cs => hasL_scr t cs
  | .tup xs => by
    simp only [AV.scr]
    split
    · rfl
    · rename_i h; simpa [AV.has] using h
  | .top => rfl
  | .und => rfl

theorem scr_nr (t : Nat) (s : AS) : (s.scr t).nr t = true := by
  simp only [AS.nr, AS.scr, Bool.and_eq_true, List.all_eq_true]
  refine ⟨⟨?_, ?_⟩, ?_⟩
  · intro p hp
    obtain ⟨q, _, rfl⟩ := List.mem_map.1 hp
    simp [AV.scr_has]
  · intro p hp
    obtain ⟨q, _, rfl⟩ := List.mem_map.1 hp
    obtain ⟨i, o⟩ := q
    cases o <;> simp [AO.scr, AO.nr, hasL_scr]
  · intro v hv
    obtain ⟨q, _, rfl⟩ := List.mem_map.1 hv
    simp [AV.scr_has]

/-- every reference to an object is forgotten -/
theorem SimAt.scr (h : SimAt G s a w A τ) (t : Nat) : SimAt G (s.scr t) a w A τ := by
  refine ⟨h.below, h.a0, h.a1, h.alt, h.size, fun i => ?_, fun u => ?_, ?_, ?_, h.marks⟩
  · simp only [AS.scr, lk_map _ (show AV.scr t .top = .top from rfl)]; exact (h.env i).scr t
  · simp only [AS.scr, lo_map _ (show AO.scr t .none = .none from rfl)]; exact (h.obj u).scr t
  · intro u u' b h1 h2 hne hm hb
    simp only [AS.scr, lo_map _ (show AO.scr t .none = .none from rfl), ne_eq, scr_none, scr_mu] at h1 h2 hm
    exact h.sep u u' b h1 h2 hne hm hb
  · exact h.ex.mapL fun _ _ k => k.scr t

/-- a state is what its slots and objects tell -/
theorem SimAt.congr {s' : AS} (h : SimAt G s a w A τ) (he : ∀ i, lk s'.env i = lk s.env i) (ho : ∀ t, lo s'.σ t = lo s.σ t) (hx : s'.ex = s.ex) : SimAt G s' a w A τ :=
  ⟨h.below, h.a0, h.a1, h.alt, h.size, fun i => by rw [he]; exact h.env i, fun t => by rw [ho]; exact h.obj t,
    fun t t' b => by rw [ho, ho]; exact h.sep t t' b, by rw [hx]; exact h.ex, h.marks⟩

/-- an object is forgotten -/
theorem SimAt.drop (h : SimAt G s a w A τ) (t : Nat) : SimAt G { s with σ := (t, .none) :: s.σ } a w A τ := by
  refine ⟨h.below, h.a0, h.a1, h.alt, h.size, h.env, fun u => ?_, ?_, h.ex, h.marks⟩
  · rw [lo_put]
    split
    · trivial
    · exact h.obj u
  · intro u u' b h1 h2 hne hm hb
    simp only [lo_put] at h1 h2 hm
    split at h1
    · exact absurd rfl h1
    · split at h2
      · exact absurd rfl h2
      · rename_i k1 k2
        rw [if_neg k1] at hm
        exact h.sep u u' b h1 h2 hne hm hb

theorem live_lt (h : SimAt G s a w A τ) {t b : Nat} (hl : lo s.σ t ≠ .none) (hb : τ t = some b) : b < w.heap.size := by
  have := h.obj t
  cases ho : lo s.σ t with
  | none => exact absurd ho hl
  | cells m cs =>
    rw [ho] at this
    obtain ⟨b', _, _, h1, h2, _⟩ := this
    rw [hb] at h1; cases h1
    exact heap_lt h2
  | arr m s' rows =>
    rw [ho] at this
    obtain ⟨_, _, ⟨h1, _⟩ | ⟨b', _, _, h1, h2, _⟩⟩ := this
    · rw [hb] at h1; cases h1
    · rw [hb] at h1; cases h1
      exact heap_lt h2
  | map m es =>
    rw [ho] at this
    obtain ⟨b', _, _, h1, h2, _⟩ := this
    rw [hb] at h1; cases h1
    exact heap_lt h2

/-- a mutable object lies in a block of the call's own -/
theorem mut_own (h : SimAt G s a w A τ) {t b : Nat} (hm : (lo s.σ t).mu = true) (hb : τ t = some b) : G.M b ∧ ¬ A b := by
  have := h.obj t
  cases ho : lo s.σ t with
  | none => rw [ho] at hm; cases hm
  | cells m cs =>
    rw [ho] at this hm
    cases (show m = true from hm)
    obtain ⟨b', _, _, h1, h2, _, h4⟩ := this
    rw [hb] at h1; cases h1
    exact h4
  | arr m s' rows =>
    rw [ho] at this hm
    cases (show m = true from hm)
    obtain ⟨_, _, ⟨h1, _⟩ | ⟨b', _, _, h1, h2, _, _, h4⟩⟩ := this
    · rw [hb] at h1; cases h1
    · rw [hb] at h1; cases h1
      exact h4
  | map m es =>
    rw [ho] at this hm
    cases (show m = true from hm)
    obtain ⟨b', _, _, h1, h2, _, h4⟩ := this
    rw [hb] at h1; cases h1
    exact h4

/-- an object is turned in its place -/
theorem SimAt.write (h : SimAt G s a w A τ) {t b : Nat} (hm : (lo s.σ t).mu = true) (hb : τ t = some b) {w' : World} (hw : WStep (· = b) w w') {o : AO}
    (ho : ORel G.M A τ w' t o) : SimAt G { s with σ := (t, o) :: s.σ } a w' A τ := by
  obtain ⟨hN, hA⟩ := mut_own h hm hb
  have hne : lo s.σ t ≠ .none := by intro e; rw [e] at hm; cases hm
  have hst : Still A w w' := hw.still h.alt (fun k hk e => hA (e ▸ hk))
  have hnd : ∀ ds, w.heap[b]? ≠ some (Obj.deferred ds) := by
    intro ds hd
    have := h.obj t
    cases ho : lo s.σ t with
    | none => exact hne ho
    | cells m cs =>
      rw [ho] at this
      obtain ⟨b', _, _, h1, h2, _⟩ := this
      rw [hb] at h1; cases h1; rw [h2] at hd; cases hd
    | arr m s' rows =>
      rw [ho] at this
      obtain ⟨_, _, ⟨h1, _⟩ | ⟨b', _, _, h1, h2, _⟩⟩ := this
      · rw [hb] at h1; cases h1
      · rw [hb] at h1; cases h1; rw [h2] at hd; cases hd
    | map m es =>
      rw [ho] at this
      obtain ⟨b', _, _, h1, h2, _⟩ := this
      rw [hb] at h1; cases h1; rw [h2] at hd; cases hd
  refine ⟨?_, h.a0, h.a1, fun k hk => Nat.lt_of_lt_of_le (h.alt k hk) hw.size, h.size, fun i => (h.env i).step hw (fun _ hk => hk) hst (fun _ _ => rfl), fun u => ?_, ?_,
    h.ex.mono fun _ _ hv => hv.step hw (fun _ hk => hk) hst (fun _ _ => rfl), h.marks.step (hw.dfr fun k hk ds => by subst hk; exact hnd ds) (fun _ hk => .inl hk)⟩
  · refine ⟨hw.os.trans h.below.os, hw.tape.trans h.below.tape, hw.output.trans h.below.output, Nat.le_trans h.below.size hw.size, fun k hk hno => ?_⟩
    rw [hw.same k (Nat.lt_of_lt_of_le hk h.below.size) (fun e => by subst e; rcases hN with h1 | h1 <;> first | omega | exact hno h1)]
    exact h.below.block k hk hno
  · rw [lo_put]
    by_cases hu : u = t
    · subst hu; rw [if_pos rfl]; exact ho
    · rw [if_neg hu]
      refine (h.obj u).step hw (fun _ hk => hk) hst (fun _ hk => .inl hk) (fun k hn hk hlt => hw.same k hlt (fun e => ?_)) rfl (fun _ _ => rfl)
      subst e
      exact h.sep t u k hne hn (Ne.symm hu) hm hb hk
  · intro u u' k h1 h2 hne' hmu hk
    simp only [lo_put] at h1 h2 hmu
    by_cases hu : u = t
    · subst hu
      rw [hb] at hk; cases hk
      rw [if_neg (Ne.symm hne')] at h2
      exact h.sep u u' b hne h2 hne' hm hb
    · rw [if_neg hu] at h1 hmu
      by_cases hu' : u' = t
      · subst hu'
        exact h.sep u u' k h1 hne hne' hmu hk
      · rw [if_neg hu'] at h2
        exact h.sep u u' k h1 h2 hne' hmu hk

/-- where an object lies that nobody refers to, and that is none, does not matter -/
theorem SimAt.retau (h : SimAt G s a w A τ) {d : Nat} (hd : s.Nr d) (hn : lo s.σ d = .none) (x : Option Nat) : SimAt G s a w A (fun t => if t = d then x else τ t) := by
  obtain ⟨hd1, hd2, hd3⟩ := hd
  have hw := WStep.refl w
  have hst : Still A w w := fun _ _ => rfl
  have ev : ∀ v : AV, v.has d = false → ∀ t, v.has t = true → (if t = d then x else τ t) = τ t := fun v hv t ht =>
    if_neg (fun e => by subst e; rw [hv] at ht; cases ht)
  refine ⟨h.below, h.a0, h.a1, h.alt, h.size, fun i => ?_, fun t => ?_, ?_, ?_, h.marks⟩
  · exact (h.env i).step hw (fun _ hb => hb) hst (ev _ (hd1 i))
  · by_cases ht : t = d
    · subst ht; rw [hn]; trivial
    · refine (h.obj t).step hw (fun _ hb => hb) hst (fun b hb => .inl hb) (fun b _ _ hlt => rfl) (if_neg ht) (fun u hu => ?_)
      have hnr := hd2 t
      cases ho : lo s.σ t with
      | cells m cs =>
        rw [ho] at hnr hu
        refine if_neg (fun e => ?_)
        subst e
        simp [AO.nr] at hnr
        simp only at hu
        rw [hnr] at hu; cases hu
      | none => rw [ho] at hu; exact hu.elim
      | arr => rw [ho] at hu; exact hu.elim
      | map => rw [ho] at hu; exact hu.elim
  · intro t t' b h1 h2 hne hm hb
    have ht : t ≠ d := fun e => h1 (e ▸ hn)
    have ht' : t' ≠ d := fun e => h2 (e ▸ hn)
    simp only [if_neg ht, if_neg ht'] at hb ⊢
    exact h.sep t t' b h1 h2 hne hm hb
  · refine h.ex.stepL (p := fun v => v.has d = false) hd3 (fun v y hv hr => hr.step hw (fun _ hb => hb) hst (ev v hv))

/-- an object that has no array -/
theorem SimAt.newNone (h : SimAt G s a w A τ) {d : Nat} (hd : s.Nr d) (hn : lo s.σ d = .none) (m : Bool) (k : Nat) :
    SimAt G { s with σ := (d, .arr m k []) :: s.σ } a w A (fun t => if t = d then none else τ t) := by
  have h0 := h.retau hd hn none
  refine ⟨h0.below, h0.a0, h0.a1, h0.alt, h0.size, h0.env, fun t => ?_, ?_, h0.ex, h0.marks⟩
  · rw [lo_put]
    by_cases ht : t = d
    · subst ht
      rw [if_pos rfl]
      exact ⟨fun r hr => by simp at hr, by simp [MaxN], .inl ⟨if_pos rfl, rfl⟩⟩
    · rw [if_neg ht]; exact h0.obj t
  · intro t t' b h1 h2 hne hm hb
    simp only [lo_put] at h1 h2 hm
    by_cases ht : t = d
    · rw [if_pos ht] at hb; cases hb
    · by_cases ht' : t' = d
      · rw [if_pos ht']; exact fun hh => by cases hh
      · rw [if_neg ht] at h1 hm
        rw [if_neg ht'] at h2
        exact h0.sep t t' b h1 h2 hne hm hb

theorem setRow_step {b : Nat} {cur cs : Array Value} {e : TypeId} (hg : w.heap[b]? = some (.cells cur e (0, 0))) (hs : cs.size = cur.size) : WStep (· = b) w (w.setRow b cs) := by
  refine ⟨rfl, rfl, rfl, by simp [World.setRow], fun k _ hk => setRow_other w b k cs hk, fun k c1 e1 h => ?_⟩
  by_cases hk : k = b
  · subst hk
    rw [hg] at h; cases h
    exact ⟨cs, setRow_heap w k _ cs _ _ hg, hs⟩
  · exact ⟨c1, (setRow_other w b k cs hk).trans h, rfl⟩
end scr

/-- the rows of what is appended, or copied -/
def srcOf (s : Nat) (e : Env) (σ : Sto) (y : Opd) : Option (List (List PV)) :=
  match get e y with
  | .one .nils => some []
  | .one (.p (.sl rows)) => if rows.all (fun r => r.length == s) then some rows else none
  | .one (.msl t o s' len _) => match lo σ t with
    | .arr _ s2 rows => if s' = s ∧ s2 = s ∧ o + len ≤ rows.length then some ((rows.drop o).take len) else none
    | _ => none
  | _ => none

/-- the object that is turned, what becomes of it, and what is told; 1: the object is new; 2: references to it are forgotten -/
def evS (q : SOp) (e : Env) (σ : Sto) (d : Nat) : Option (Nat × AO × AV × Nat) :=
  match q with
  | .store n x y => match get e x, asCells (get e y) with
    | .one (.ptr t i s off), some cs => if cs.length = n then (match lo σ t with
      | .cells true old => if i = 0 ∧ off + n ≤ old.length then some (t, .cells true (old.take off ++ cs ++ old.drop (off + n)), .und, 0) else none
      | .arr true s' rows => if s' = s then (match rows[i]?, pvs cs with
        | some r, some vs => if off + n ≤ r.length then some (t, .arr true s (rows.set i (r.take off ++ vs ++ r.drop (off + n))), .und, 0) else none
        | _, _ => none) else none
      | _ => none) else none
    | _, _ => none
  | .app s by_ x y => match srcOf s e σ y with
    | some new => match get e x with
      | .one .nils => if new.length * by_ ≤ 2 ^ 40 ∧ new.length ≤ 2 ^ 40 then some (d, .arr true s new, .one (.msl d 0 s new.length none), 1) else none
      | .one (.msl t 0 s' len _) => match lo σ t with
        | .arr true s2 rows => if s' = s ∧ s2 = s ∧ len = rows.length ∧ (len + new.length) * by_ ≤ 2 ^ 40 ∧ len + new.length ≤ 2 ^ 40 then
            some (t, .arr true s (rows ++ new), .one (.msl t 0 s (len + new.length) none), 2) else none
        | _ => none
      | _ => none
    | none => none
  | .copy s x y => match srcOf s e σ y, get e x with
    | some new, .one (.msl t o s' len _) => match lo σ t with
      | .arr true s2 rows => if s' = s ∧ s2 = s ∧ o + len ≤ rows.length then
          some (t, .arr true s (rows.take o ++ new.take len ++ rows.drop (o + (new.take len).length)), pint .i64 (min new.length len), 0) else none
      | _ => none
    | _, _ => none

def compS (P : Program) (o : Op) : Option SOp :=
  match o with
  | .store t x y => (szOf P t).bind fun n => (opd x).bind fun x => (opd y).map fun y => .store n x y
  | .call { callee := .builtin .append, args, argTypes } => match args.toList, argTypes.toList with
    | [x, y], [t, t2] => match P.underlying t, P.underlying t2 with
      | some (.slice e), some (.slice _) => (szOf P e).bind fun n => ((P.info? e).map (·.bytes)).bind fun b => (opd x).bind fun x => (opd y).bind fun y =>
          if n ≠ 0 ∧ b ≤ 2 ^ 20 ∧ (((P.info? e).bind (·.zero)).map fun z => z.cells.size) = some n then some (.app n b x y) else none
      | _, _ => none
    | _, _ => none
  | .call { callee := .builtin .copy, args, argTypes } => match args.toList, argTypes.toList with
    | [x, y], [t, t2] => match P.underlying t, P.underlying t2 with
      | some (.slice e), some (.slice _) => (szOf P e).bind fun n => (opd x).bind fun x => (opd y).map fun y => .copy n x y
      | _, _ => none
    | _, _ => none
  | _ => none

def newSt (k t : Nat) (o : AO) (s : AS) : AS := if k = 2 then { s.scr t with σ := (t, o) :: (s.scr t).σ } else { s with σ := (t, o) :: s.σ }

section sound
variable {P : Program} {G : Ground} {s : AS} {a : Act} {w : World} {A : Nat → Prop} {τ : Tau}

/-- what an operation that turns an object must come to -/
def Turns (P : Program) (G : Ground) (a : Act) (w : World) (A : Nat → Prop) (o : Oper) (v : AV) (s' : AS) : Prop :=
  ∃ r w' τ', (execOp a.eval o).run P w = .ok r w' ∧ ((r = .skip ∧ v = .und) ∨ ∃ x, r = .value x ∧ VRel A τ' w' v x) ∧ SimAt G s' a w' A τ'

theorem cells_at {b off : Nat} {xs : Array Value} {e : TypeId} {fz : Nat × Nat} (h : w.heap[b]? = some (.cells xs e fz)) (i : Nat) : w.cell? ⟨b, off + i, none⟩ = xs[off + i]? := by
  simp [World.cell?, h]

theorem run_storeVar {t : TypeId} {n b off : Nat} (hs : szOf P t = some n) {cur : Array Value} {e : TypeId} (hg : w.heap[b]? = some (.cells cur e (0, 0))) {v : Value} (hv : v.cells.size = n)
    (hle : off + n ≤ cur.size) (h1 : ∀ x ∈ v.cells.toList, cell1 x = true) :
    (storeVar t ⟨b, off, none⟩ v).run P w = .ok () (w.setRow b ⟨cur.toList.take off ++ v.cells.toList ++ cur.toList.drop (off + n)⟩) := by
  have := run_storeCells_at P b off e v.cells.toList 0 cur w hg (by simp [hv]; omega) (fun x hx => by have := h1 x hx; cases x <;> first | rfl | (simp [cell1] at this))
  simp only [storeVar, Sem.run_bind, run_sz hs, Result.andThen_ok, hv, ne_eq, not_true_eq_false, if_false]
  simp only [Nat.add_zero, Array.length_toList, hv] at this
  simpa using this

theorem crel_cell1 {cs : List AC} {xs : List Value} (h : All2 (CRel A τ w) cs xs) : ∀ x ∈ xs, cell1 x = true := by
  induction h with
  | nil => intro x hx; simp at hx
  | cons h _ ih =>
    intro x hx
    rcases List.mem_cons.1 hx with rfl | hx
    · exact h.cell1
    · exact ih x hx

theorem run_storeOp {dst : Option Tmp} {t : TypeId} {x y : Operand} {type : TypeId} {pos : String} {after : Array Edge} {guard : Option (Nat × Bool)} {p : Addr} {w' : World}
    (e1 : a.eval x = .pointer (some p)) (hr : (storeVar t p (a.eval y)).run P w = .ok () w') : (execOp a.eval ⟨dst, .store t x y, type, pos, after, guard⟩).run P w = .ok .skip w' := by
  simp only [execOp, Instr.storeAt, Instr.sureAddr, e1, Sem.run_bind, Sem.run_pure, Result.andThen_ok, hr]

theorem store_sound {dst : Option Tmp} {t : TypeId} {x y : Operand} {type : TypeId} {pos : String} {after : Array Edge} {guard : Option (Nat × Bool)} {n : Nat} {x' y' : Opd}
    (hn : szOf P t = some n) (hx : opd x = some x') (hy : opd y = some y') {d u : Nat} {ob : AO} {v : AV} {k : Nat} (h : SimAt G s a w A τ)
    (he : evS (.store n x' y') s.env s.σ d = some (u, ob, v, k)) : Turns P G a w A ⟨dst, .store t x y, type, pos, after, guard⟩ v (newSt k u ob s) := by
  have h1 := opd_sound h hx
  have h2 := opd_sound h hy
  simp only [evS] at he
  split at he
  · rename_i t' i s' off cs hp hcs
    rw [hp] at h1
    obtain ⟨b, e1, hb⟩ := ptr_inv h1
    have hcr := asCells_sound h2 hcs
    split at he
    · rename_i hlen
      have hsz : (a.eval y).cells.size = n := by have := hcr.length; simp only [Array.length_toList] at this; omega
      have ho := h.obj t'
      split at he
      · rename_i old hold
        rw [hold] at ho
        obtain ⟨b', xs, e, g1, g2, g3, g4⟩ := ho
        obtain rfl : b' = b := by rw [hb] at g1; exact (Option.some.inj g1).symm
        split at he
        · rename_i hi
          obtain ⟨rfl, hle⟩ := hi
          cases he
          have hxl : xs.length = old.length := g3.length.symm
          have hrun := run_storeVar (w := w) hn g2 hsz (off := off) (by simp; omega) (crel_cell1 hcr)
          refine ⟨.skip, _, τ, run_storeOp e1 (by rw [Nat.zero_mul, Nat.zero_add]; exact hrun), .inl ⟨rfl, rfl⟩, ?_⟩
          have hw := setRow_step (cs := ⟨xs.take off ++ (a.eval y).cells.toList ++ xs.drop (off + n)⟩) g2 (by simp [hsz]; omega)
          have hst : Still A w (w.setRow b' ⟨xs.take off ++ (a.eval y).cells.toList ++ xs.drop (off + n)⟩) := hw.still h.alt (fun k' hk e' => g4.2 (e' ▸ hk))
          have hup : ∀ c x, CRel A τ w c x → CRel A τ (w.setRow b' ⟨xs.take off ++ (a.eval y).cells.toList ++ xs.drop (off + n)⟩) c x := fun c x hc => hc.step hw (fun _ hk => hk) hst (fun _ _ => rfl)
          exact h.write (by rw [hold]; rfl) hb hw ⟨b', _, e, hb, setRow_heap w b' _ _ _ _ g2, (((g3.mono hup).take off).append (hcr.mono hup)).append ((g3.mono hup).drop (off + n)), g4⟩
        · cases he
      · rename_i s2 rows hold
        rw [hold] at ho
        split at he
        · rename_i hss
          subst hss
          split at he
          · rename_i r vs hr hvs
            obtain ⟨g0, gl, ⟨g1, _⟩ | ⟨b', xs, e, g1, g2, g3, g4, g5⟩⟩ := ho
            · rw [hb] at g1; cases g1
            obtain rfl : b' = b := by rw [hb] at g1; exact (Option.some.inj g1).symm
            split at he
            · rename_i hle
              cases he
              have hri : i < rows.length := (List.getElem?_eq_some_iff.1 hr).1
              have hrl := g0 r (List.mem_of_getElem? hr)
              have hmul : i * s2 + s2 ≤ rows.length * s2 := by
                have := Nat.mul_le_mul_right s2 hri
                rw [Nat.succ_mul] at this; exact this
              have hrun := run_storeVar (w := w) hn g2 hsz (off := i * s2 + off) (by omega) (crel_cell1 hcr)
              refine ⟨.skip, _, τ, run_storeOp e1 hrun, .inl ⟨rfl, rfl⟩, ?_⟩
              generalize hcs2 : (⟨xs.toList.take (i * s2 + off) ++ (a.eval y).cells.toList ++ xs.toList.drop (i * s2 + off + n)⟩ : Array Value) = new
              have hsize : new.size = xs.size := by subst hcs2; simp [hsz]; omega
              have hw := setRow_step (cs := new) g2 hsize
              have hst : Still A w (w.setRow b' new) := hw.still h.alt (fun k' hk e' => g5.2 (e' ▸ hk))
              have hvs2 := pvs_sound hcr hvs
              have hvl : vs.length = n := by have := hvs2.length; simp only [Array.length_toList] at this; omega
              have hnewr : (r.take off ++ vs ++ r.drop (off + n)).length = s2 := by simp; omega
              refine h.write (by rw [hold]; rfl) hb hw ⟨?_, by simpa using gl, .inr ⟨b', new, e, hb, setRow_heap w b' _ _ _ _ g2, by simp; omega, ?_, g5⟩⟩
              · intro q hq
                rcases List.mem_or_eq_of_mem_set hq with h5 | h5
                · exact g0 q h5
                · rw [h5]; exact hnewr
              · refine PAt.of_get fun j pv hj => ?_
                rw [set_flat s2 rows g0 i _ hri] at hj
                have hfl : rows.flatten.length = rows.length * s2 := flat_len g0
                have hT : (rows.flatten.take (i * s2)).length = i * s2 := by rw [List.length_take, hfl]; exact Nat.min_eq_left (by omega)
                have hcell : (w.setRow b' new).cell? ⟨b', 0 + j, none⟩ = new[j]? := by
                  rw [Nat.zero_add]; simp [World.cell?, setRow_heap w b' _ new _ _ g2]
                rw [hcell]
                have old : ∀ (m : Nat) pv, rows.flatten[m]? = some pv → ∃ x, xs[m]? = some x ∧ PRel A (w.setRow b' new) pv x := by
                  intro m pv hm
                  obtain ⟨x, hx, hr'⟩ := g4.get m pv hm
                  refine ⟨x, ?_, hr'.mono (fun _ hk => hk) hst⟩
                  rw [Nat.zero_add] at hx
                  simpa [World.cell?, g2] using hx
                have newv : ∀ (m : Nat) pv, vs[m]? = some pv → ∃ x, (a.eval y).cells.toList[m]? = some x ∧ PRel A (w.setRow b' new) pv x := by
                  intro m pv hm
                  obtain ⟨x, hx, hr'⟩ := hvs2.get m pv hm
                  exact ⟨x, hx, hr'.mono (fun _ hk => hk) hst⟩
                have hrow : ∀ (m : Nat) pv, r[m]? = some pv → rows.flatten[i * s2 + m]? = some pv := fun m pv hm => flatten_get s2 rows g0 i m r pv hr hm
                have hnewget : ∀ j : Nat, new[j]? = (xs.toList.take (i * s2 + off) ++ (a.eval y).cells.toList ++ xs.toList.drop (i * s2 + off + n))[j]? := by
                  intro j; subst hcs2; simp
                rw [hnewget]
                have hxs : xs.toList.length = xs.size := by simp
                have hyl : (a.eval y).cells.toList.length = n := by simp [hsz]
                have hX : (xs.toList.take (i * s2 + off)).length = i * s2 + off := by rw [List.length_take, hxs]; exact Nat.min_eq_left (by omega)
                have hro : (r.take off).length = off := by rw [List.length_take]; exact Nat.min_eq_left (by omega)
                generalize hR : r.take off ++ vs ++ r.drop (off + n) = R at hj hnewr
                by_cases c1 : j < i * s2
                · rw [List.append_assoc, List.getElem?_append_left (by rw [hT]; exact c1)] at hj
                  obtain ⟨x, hx, hr'⟩ := old j pv (take_getElem hj)
                  refine ⟨x, ?_, hr'⟩
                  rw [List.append_assoc, List.getElem?_append_left (by rw [hX]; omega), List.getElem?_take_of_lt (by omega)]
                  simpa using hx
                · by_cases c2 : j < i * s2 + s2
                  · rw [List.append_assoc, List.getElem?_append_right (by rw [hT]; omega), hT, List.getElem?_append_left (by rw [hnewr]; omega)] at hj
                    rw [← hR] at hj
                    by_cases c3 : j - i * s2 < off
                    · rw [List.append_assoc, List.getElem?_append_left (by rw [hro]; exact c3)] at hj
                      have e3 := hrow _ pv (take_getElem hj)
                      rw [show i * s2 + (j - i * s2) = j from by omega] at e3
                      obtain ⟨x, hx, hr'⟩ := old j pv e3
                      refine ⟨x, ?_, hr'⟩
                      rw [List.append_assoc, List.getElem?_append_left (by rw [hX]; omega), List.getElem?_take_of_lt (by omega)]
                      simpa using hx
                    · by_cases c4 : j - i * s2 < off + n
                      · rw [List.append_assoc, List.getElem?_append_right (by rw [hro]; omega), hro, List.getElem?_append_left (by rw [hvl]; omega)] at hj
                        obtain ⟨x, hx, hr'⟩ := newv _ pv hj
                        refine ⟨x, ?_, hr'⟩
                        rw [List.append_assoc, List.getElem?_append_right (by rw [hX]; omega), hX, List.getElem?_append_left (by rw [hyl]; omega), ← hx]
                        congr 1; omega
                      · rw [List.getElem?_append_right (by rw [List.length_append, hro, hvl]; omega), List.length_append, hro, hvl, List.getElem?_drop, show off + n + (j - i * s2 - (off + n)) = j - i * s2 from by omega] at hj
                        have e3 := hrow _ pv hj
                        rw [show i * s2 + (j - i * s2) = j from by omega] at e3
                        obtain ⟨x, hx, hr'⟩ := old j pv e3
                        refine ⟨x, ?_, hr'⟩
                        rw [List.getElem?_append_right (by rw [List.length_append, hX, hyl]; omega), List.length_append, hX, hyl, List.getElem?_drop, show i * s2 + off + n + (j - (i * s2 + off + n)) = j from by omega]
                        simpa using hx
                  · rw [List.getElem?_append_right (by rw [List.length_append, hT, hnewr]; omega), List.length_append, hT, hnewr, List.getElem?_drop, show i * s2 + s2 + (j - (i * s2 + s2)) = j from by omega] at hj
                    obtain ⟨x, hx, hr'⟩ := old j pv hj
                    refine ⟨x, ?_, hr'⟩
                    rw [List.getElem?_append_right (by rw [List.length_append, hX, hyl]; omega), List.length_append, hX, hyl, List.getElem?_drop, show i * s2 + off + n + (j - (i * s2 + off + n)) = j from by omega]
                    simpa using hx
            · cases he
          · cases he
        · cases he
      · cases he
    · cases he
  · cases he

/-- what is appended, as its values -/
theorem src_sound {n : Nat} {t2 e2 : TypeId} (hk : P.underlying t2 = some (.slice e2)) {y : Operand} {y' : Opd} (hy : opd y = some y') {new : List (List PV)} (h : SimAt G s a w A τ)
    (he : srcOf n s.env s.σ y' = some new) :
    ∃ news, All2 (PRel A w) new.flatten news ∧ Src P n t2 (a.eval y) new.length news w ∧ (∀ r ∈ new, r.length = n) ∧ new.length ≤ MaxN ∧
      (∀ u ∈ news, cell1 u = true) ∧ (∃ base c, a.eval y = .slice base new.length c ∧ ∀ k, k ≤ new.length → (Builtin.firstCells n k (a.eval y)).run P w = .ok ⟨news.take (k * n)⟩ w) := by
  have h1 := opd_sound h hy
  have one' : ∀ {vs : List PV} {xs : List Value}, All2 (PRel A w) vs xs → ∀ x ∈ xs, cell1 x = true := by
    intro vs xs hh
    induction hh with
    | nil => intro x hx; simp at hx
    | cons h _ ih =>
      intro x hx
      rcases List.mem_cons.1 hx with rfl | hx
      · exact h.cell1
      · exact ih x hx
  have conv : ∀ x : Value, cell1 x = true → x.oneCell' = true := fun x hx => by cases x <;> first | rfl | (simp [cell1] at hx)
  have some_case : ∀ (b off c : Nat), a.eval y = .slice (some ⟨b, off, none⟩) new.length c → PAt A w new.flatten b off → (∀ r ∈ new, r.length = n) → new.length ≤ MaxN →
      ∃ news, All2 (PRel A w) new.flatten news ∧ Src P n t2 (a.eval y) new.length news w ∧ (∀ r ∈ new, r.length = n) ∧ new.length ≤ MaxN ∧ (∀ u ∈ news, cell1 u = true) ∧
        (∃ base c, a.eval y = .slice base new.length c ∧ ∀ k, k ≤ new.length → (Builtin.firstCells n k (a.eval y)).run P w = .ok ⟨news.take (k * n)⟩ w) := by
    intro b off c e1 hat hs hl
    obtain ⟨news, h2, h3⟩ := hat.cells
    have hnl : news.length = new.length * n := by rw [← h2.length, flat_len hs]
    have hcell : ∀ (j : Nat) u, news[j]? = some u → w.cell? ((⟨b, off, none⟩ : Addr).add j) = some u := fun j u hu => by rw [add_eq]; exact h3 j u hu
    refine ⟨news, h2, ?_, hs, hl, one' h2, ⟨_, _, e1, fun k hk => ?_⟩⟩
    · rw [e1]
      exact Src.ofSlice w hk ⟨b, off, none⟩ new.length c news hnl hcell (fun u hu => conv u (one' h2 u hu))
    · rw [e1]
      have hle : k * n ≤ news.length := by rw [hnl]; exact Nat.mul_le_mul_right n hk
      have := run_loadCellsFrom (P := P) (w := w) ⟨b, off, none⟩ (news.take (k * n)) 0 #[] (fun j x hx => by
        have := hcell j x (take_getElem hx)
        simpa using this)
      rw [List.length_take, Nat.min_eq_left hle] at this
      simpa [Builtin.firstCells, loadCells] using this
  have nil_case : new = [] → (∃ base c, a.eval y = .slice base 0 c) →
      ∃ news, All2 (PRel A w) new.flatten news ∧ Src P n t2 (a.eval y) new.length news w ∧ (∀ r ∈ new, r.length = n) ∧ new.length ≤ MaxN ∧ (∀ u ∈ news, cell1 u = true) ∧
        (∃ base c, a.eval y = .slice base new.length c ∧ ∀ k, k ≤ new.length → (Builtin.firstCells n k (a.eval y)).run P w = .ok ⟨news.take (k * n)⟩ w) := by
    rintro rfl ⟨base, c, e1⟩
    have hf : (Builtin.firstCells n 0 (a.eval y)).run P w = .ok #[] w := by
      rw [e1]; cases base <;> simp [Builtin.firstCells, loadCells, loadCellsFrom]
    refine ⟨[], .nil, ?_, fun r hr => by simp at hr, by simp [MaxN], fun u hu => by simp at hu, ⟨base, c, e1, fun k hk => ?_⟩⟩
    · rw [e1]
      cases base with
      | none => exact Src.ofNil w hk c
      | some p => exact Src.ofSlice w hk p 0 c [] (by simp) (fun j u hu => by simp at hu) (fun u hu => by simp at hu)
    · have : k = 0 := by simpa using hk
      subst this
      simpa using hf
  unfold srcOf at he
  split at he
  · rename_i hg
    rw [hg] at h1
    cases he
    refine nil_case rfl ?_
    generalize hz : a.eval y = z at h1 ⊢
    cases one_inv h1 with | c0 h2 => cases h2; exact ⟨none, 0, rfl⟩
  · rename_i rows hg
    rw [hg] at h1
    split at he
    · rename_i hall
      have he' := Option.some.inj he
      subst he'
      have hs : ∀ r ∈ rows, r.length = n := fun r hr => by simpa using List.all_eq_true.1 hall r hr
      have h2 := p_inv h1
      generalize hz : a.eval y = z at h2
      cases h2 with
      | nil b c => rw [← hz]; exact nil_case rfl ⟨b, c, hz⟩
      | sl _ b off cap s' hA hs' hl hc hat => rw [← hz]; exact some_case b off cap hz hat hs hl
    · cases he
  · rename_i t' o' s' len cap hg
    rw [hg] at h1
    split at he
    · rename_i m s2 rows hold
      split at he
      · rename_i hcond
        obtain ⟨rfl, rfl, hle⟩ := hcond
        cases he
        have ho := h.obj t'
        rw [hold] at ho
        obtain ⟨g0, gl, g⟩ := ho
        have hs : ∀ r ∈ (rows.drop o').take len, r.length = s2 := fun r hr => g0 r (List.mem_of_mem_drop (List.mem_of_mem_take hr))
        have hlen : ((rows.drop o').take len).length = len := by simp; omega
        have h2 := one_inv h1
        generalize hz : a.eval y = z at h2
        cases h2 with | c0 h2 => cases h2 with
          | mslN _ _ _ _ b hτ hc => rw [← hz]; exact nil_case (by simp) ⟨b, 0, hz⟩
          | msl _ _ _ _ b c _ hτ hc hl hr =>
            rcases g with ⟨g1, _⟩ | ⟨b', xs, e, g1, g2, g3, g4, g5⟩
            · rw [hτ] at g1; cases g1
            · rw [hτ] at g1; cases g1
              have hat : PAt A w ((rows.drop o').take len).flatten b (o' * s2) := by
                have e3 : ((rows.drop o').take len).flatten = (rows.flatten.drop (o' * s2)).take (len * s2) := by
                  rw [take_flat s2 (rows.drop o') (fun r hr => g0 r (List.mem_of_mem_drop hr)) len (by simp; omega), drop_flat s2 rows g0 o' (by omega)]
                rw [e3]
                simpa using g4.part (o' * s2) (len * s2)
              rw [← hz]
              rw [← hlen] at hz
              exact some_case b (o' * s2) c hz hat hs (by rw [hlen]; omega)
      · cases he
    · cases he
  · cases he

theorem firstCells_row {n len b c : Nat} {xs : Array Value} {e : TypeId} {fz : Nat × Nat} (hg : w.heap[b]? = some (.cells xs e fz)) (hle : len * n ≤ xs.size) :
    (Builtin.firstCells n len (.slice (some ⟨b, 0, none⟩) len c)).run P w = .ok ⟨xs.toList.take (len * n)⟩ w := by
  have := run_loadCellsFrom (P := P) (w := w) ⟨b, 0, none⟩ (xs.toList.take (len * n)) 0 #[] (fun j x hx => by
    have h2 := take_getElem hx
    rw [add_eq]
    simp only [World.cell?, hg]
    simpa using h2)
  rw [List.length_take, Nat.min_eq_left (by simpa using hle)] at this
  simpa [Builtin.firstCells, loadCells] using this

theorem run_append_room' {t tx ty e : TypeId} {n : Nat} (ht : P.underlying t = some (.slice e)) (hn : szOf P e = some n) {b len cap m : Nat} {x : Value} {news : List Value} (hs : Src P n tx x m news w)
    (hroom : len + m ≤ cap) {cur : Array Value} {e' : TypeId} (hg : w.heap[b]? = some (.cells cur e' (0, 0))) (hfit : (len + m) * n ≤ cur.size) :
    (Builtin.append_ #[t, tx] ty #[.slice (some ⟨b, 0, none⟩) len cap, x]).run P w =
      .ok (.slice (some ⟨b, 0, none⟩) (len + m) cap) (w.setRow b ⟨cur.toList.take (len * n) ++ news ++ cur.toList.drop (len * n + m * n)⟩) := by
  have hnl := hs.newsLen
  have hst := run_storeCells_at P b (len * n) e' news 0 cur w hg (by rw [hnl, Nat.add_mul] at *; omega) hs.one
  simp only [Nat.add_zero, hnl] at hst
  rcases hs.kind with ⟨e'', hk⟩ | hk <;> simp [Builtin.append_, run_und ht, run_und hk, run_sz hn, hs.len, hroom, hs.cells, add_eq, hst]

theorem app_run {dst : Option Tmp} {args : Array Operand} {argTypes : Array TypeId} {x y : Operand} {t t2 : TypeId} {type : TypeId} {pos : String} {after : Array Edge} {guard : Option (Nat × Bool)}
    (ha : args.toList = [x, y]) (ht : argTypes.toList = [t, t2]) {v : Value} {w' : World} (hr : (Builtin.append_ #[t, t2] type #[a.eval x, a.eval y]).run P w = .ok v w') :
    (execOp a.eval ⟨dst, .call ⟨.builtin .append, args, argTypes⟩, type, pos, after, guard⟩).run P w = .ok (.value v) w' := by
  have h1 : args = #[x, y] := by apply Array.ext'; simpa using ha
  have h2 : argTypes = #[t, t2] := by apply Array.ext'; simpa using ht
  subst h1 h2
  simp [execOp, resolve, invoke, builtin, hr]

theorem drew_step (w : World) : WStep (fun _ => False) w w.drew := WStep.drew w (w.drawn + 1)

theorem app_sound {dst : Option Tmp} {args : Array Operand} {argTypes : Array TypeId} {x y : Operand} {t t2 e e2 : TypeId} {type : TypeId} {pos : String} {after : Array Edge} {guard : Option (Nat × Bool)}
    (ha : args.toList = [x, y]) (ht : argTypes.toList = [t, t2]) (hu : P.underlying t = some (.slice e)) (hu2 : P.underlying t2 = some (.slice e2)) {n : Nat} {i0 : TypeInfo} {z0 : Value}
    (hn : szOf P e = some n) (hi : P.info? e = some i0) (hz : i0.zero = some z0) (hzs : z0.cells.size = n) (hb0 : i0.bytes ≤ 2 ^ 20) (hn0 : n ≠ 0) {x' y' : Opd} (hx : opd x = some x') (hy : opd y = some y')
    {d u : Nat} {ob : AO} {v : AV} {k : Nat} (h : SimAt G s a w A τ) (he : evS (.app n i0.bytes x' y') s.env s.σ d = some (u, ob, v, k)) (hd : k = 1 → s.Nr d ∧ lo s.σ d = .none) :
    Turns P G a w A ⟨dst, .call ⟨.builtin .append, args, argTypes⟩, type, pos, after, guard⟩ v (newSt k u ob s) := by
  have h1 := opd_sound h hx
  simp only [evS] at he
  split at he
  rotate_left
  · cases he
  rename_i new hnew
  obtain ⟨news, hn1, hsrc, hns, hnl, hnc, _⟩ := src_sound (P := P) hu2 hy h hnew
  have hi0s : i0.size = n := by have := hn; simp [szOf, hi] at this; exact this
  have hMax : MaxN = 2 ^ 47 := rfl
  -- a new row behind a draw
  have grow : ∀ (base : Option Addr) (sLen sCap : Nat) (olds : List Value) (rows : List (List PV)), a.eval x = .slice base sLen sCap → (Builtin.firstCells n sLen (.slice base sLen sCap)).run P w.drew = .ok olds.toArray w.drew →
      All2 (PRel A w) rows.flatten olds → (∀ r ∈ rows, r.length = n) → rows.length = sLen → sCap < sLen + new.length → (sLen + new.length) * i0.bytes ≤ 2 ^ 40 → sLen + new.length ≤ 2 ^ 40 →
      ∀ (s1 : AS) (u : Nat), SimAt G s1 a w A τ → s1.Nr u → lo s1.σ u = .none →
      ∃ v w', (Builtin.append_ #[t, t2] type #[a.eval x, a.eval y]).run P w = .ok v w' ∧ VRel A (tauP τ u w.heap.size) w' (.one (.msl u 0 n (sLen + new.length) none)) v ∧
        SimAt G { s1 with σ := (u, .arr true n (rows ++ new)) :: s1.σ } a w' A (tauP τ u w.heap.size) := by
    intro base sLen sCap olds rows e1 hold hor hrs hrl hlt hby hct s1 u hs1 hnr hno
    have hfit : Builtin.nextslicecap (sLen + new.length) sCap * i0.bytes ≤ 281474976710656 := by
      have h5 := nextslicecap_le (need := sLen + new.length) (old := sCap) hlt
      have h6 : Builtin.nextslicecap (sLen + new.length) sCap * i0.bytes ≤ 2 * (sLen + new.length) * i0.bytes := Nat.mul_le_mul_right _ h5
      have h7 : 2 * (sLen + new.length) * i0.bytes = 2 * ((sLen + new.length) * i0.bytes) := by rw [Nat.mul_assoc]
      omega
    have hrun := run_append_grow_src (P := P) w t t2 type e i0 z0 hu hi hz base sLen sCap olds (by rw [hi0s]; exact hold) (a.eval y) new.length news (by rw [hi0s]; exact hsrc) hlt (by omega) hfit
    have hcapge := grownCap_ge w (sLen + new.length) sCap e
    generalize hcap : grownCap w (sLen + new.length) sCap e = cap at hrun hcapge
    generalize hcs : (olds ++ news).toArray ++ Builtin.zeroCells z0.cells (cap - (sLen + new.length)) = cs at hrun
    have hol : olds.length = sLen * n := by rw [← hor.length, flat_len hrs, hrl]
    have hnl2 : news.length = new.length * n := hsrc.newsLen
    have hsz : cs.size = cap * n := by
      subst hcs
      simp only [Array.size_append, List.size_toArray, List.length_append, size_zeroCells, hzs, hol, hnl2, ← Nat.add_mul]
      congr 1; omega
    refine ⟨_, _, by rw [e1]; exact hrun, ?_, ?_⟩
    · have := C0.msl (A := A) (τ := tauP τ u w.heap.size) (w := w.drew.alloc (.cells cs e)) u 0 n (sLen + new.length) w.heap.size cap none (tauP_same _ _ _) (fun q hq => by cases hq) hcapge
        ⟨cs, e, wpush_new w.drew _, by rw [hsz, Nat.zero_add]; exact Nat.le_refl _⟩
      simpa using VRel.v1 (V1.one (CRel.c0 this))
    · have hs2 : SimAt G s1 a w.drew A τ := hs1.world (drew_step w) (fun _ hb => hb) (fun _ hb => .inl hb) (fun _ hf => hf.elim) (fun _ _ _ _ hf => hf) (drew_step w).dfr0
      have hst : Still A w (w.drew.alloc (.cells cs e)) := fun b hb => by
        have hlt := h.alt b hb
        show (w.heap.push _)[b]? = _
        rw [Array.getElem?_push, if_neg (by omega)]
      refine hs2.new hnr hno (.cells cs e) (o := .arr true n (rows ++ new)) ?_
      refine orel_arr (w := w.drew) hs2 (by simp; omega) (fun r hr => ?_) ?_ ?_
      · rcases List.mem_append.1 hr with h5 | h5
        · exact hrs r h5
        · exact hns r h5
      · have hlist : cs.toList.take ((rows ++ new).length * n) = olds ++ news := by
          subst hcs
          simp only [Array.toList_append, List.length_append, hrl]
          rw [List.take_append_of_le_length (by simp [hol, hnl2, ← Nat.add_mul])]
          exact List.take_of_length_le (by simp [hol, hnl2, ← Nat.add_mul])
        rw [hlist, List.flatten_append]
        exact (hor.append hn1).mono fun _ _ hr => hr.mono (fun _ hb => hb) hst
      · rw [hsz, List.length_append, hrl]; exact Nat.mul_le_mul_right n hcapge
  split at he
  · -- onto nil
    rename_i hg
    rw [hg] at h1
    split at he
    · rename_i hcond
      cases he
      obtain ⟨hd1, hd2⟩ := hd rfl
      have e1 : a.eval x = .slice none 0 0 := by
        generalize hz : a.eval x = z at h1
        cases one_inv h1 with | c0 h2 => cases h2; rfl
      simp only [newSt, show ¬ ((1 : Nat) = 2) from by decide, if_false]
      by_cases h0 : new.length = 0
      · have hnew0 : new = [] := List.length_eq_zero_iff.1 h0
        subst hnew0
        refine ⟨.value (.slice none 0 0), w, fun t => if t = d then none else τ t, app_run ha ht ?_, .inr ⟨_, rfl, ?_⟩, h.newNone hd1 hd2 true n⟩
        · have hl := hsrc.len w
          have hcl := hsrc.cells
          simp only [List.length_nil] at hl hcl
          rw [e1]
          rcases hsrc.kind with ⟨e'', hk⟩ | hk <;> simp [Builtin.append_, run_und hu, run_und hk, run_sz hn, hl, hcl]
        · exact .v1 (.one (.c0 (.mslN d 0 n none none (if_pos rfl) (fun q hq => by cases hq))))
      · obtain ⟨v', w', hr, hv, hs⟩ := grow none 0 0 [] [] e1 (by simp [Builtin.firstCells]) .nil (fun r hr => by simp at hr) rfl (by omega) (by simpa using hcond.1) (by simpa using hcond.2) s d h hd1 hd2
        exact ⟨_, w', _, app_run ha ht hr, .inr ⟨_, rfl, by simpa using hv⟩, by simpa using hs⟩
    · cases he
  · rename_i t' s' len cap hg
    rw [hg] at h1
    split at he
    · rename_i s2 rows hold
      split at he
      · rename_i hcond
        obtain ⟨rfl, rfl, hlen, hby, hct⟩ := hcond
        cases he
        simp only [newSt, if_true]
        have hsc := h.scr u
        have ho := h.obj u
        rw [hold] at ho
        obtain ⟨g0, gl, g⟩ := ho
        have hdrop := hsc.drop u
        have hnr : AS.nr u { s.scr u with σ := (u, .none) :: (s.scr u).σ } = true := by
          have := scr_nr u s
          simp only [AS.nr, Bool.and_eq_true, List.all_cons] at this ⊢
          exact ⟨⟨this.1.1, by simp [AO.nr], this.1.2⟩, this.2⟩
        have hnr := AS.nr_Nr hnr
        have hno : lo ((u, AO.none) :: (s.scr u).σ) u = .none := by simp [lo]
        have fix : ∀ {w' : World} {τ' : Tau} {o : AO}, SimAt G { s.scr u with σ := (u, o) :: (u, .none) :: (s.scr u).σ } a w' A τ' → SimAt G { s.scr u with σ := (u, o) :: (s.scr u).σ } a w' A τ' :=
          fun hh => hh.congr (fun _ => rfl) (fun q => by simp only [lo_put]; split <;> rfl) rfl
        have h2 := one_inv h1
        generalize hz2 : a.eval x = z at h2
        cases h2 with | c0 h2 => cases h2 with
          | mslN _ _ _ _ b hτ hc =>
            have hrows : rows = [] := List.length_eq_zero_iff.1 hlen.symm
            subst hrows
            by_cases h0 : new.length = 0
            · have hnew0 : new = [] := List.length_eq_zero_iff.1 h0
              subst hnew0
              refine ⟨.value (.slice b 0 0), w, fun t => if t = u then none else τ t, app_run ha ht ?_, .inr ⟨_, rfl, .v1 (.one (.c0 (.mslN u 0 s2 none b (if_pos rfl) (fun q hq => by cases hq))))⟩, fix (hdrop.newNone hnr hno true s2)⟩
              have hl := hsrc.len w
              have hcl := hsrc.cells
              simp only [List.length_nil] at hl hcl
              rw [hz2]
              have hcl0 : news = [] := by
                have := hn1.length
                simpa using this.symm
              subst hcl0
              rcases hsrc.kind with ⟨e'', hk⟩ | hk <;> cases b <;> simp [Builtin.append_, run_und hu, run_und hk, run_sz hn, hl, hcl, storeCells]
            · obtain ⟨v', w', hr, hv, hs⟩ := grow b 0 0 [] [] hz2 (by cases b <;> simp [Builtin.firstCells, loadCells, loadCellsFrom]) .nil (fun r hr => by simp at hr) rfl (by omega) (by simpa using hby) (by simpa using hct) _ u hdrop hnr hno
              exact ⟨_, w', _, app_run ha ht hr, .inr ⟨_, rfl, by simpa using hv⟩, fix (by simpa using hs)⟩
          | msl _ _ _ _ b c _ hτ hc hl hr =>
            rcases g with ⟨g1, _⟩ | ⟨b', xs, e', g1, g2, g3, g4, g5⟩
            · rw [hτ] at g1; cases g1
            rw [hτ] at g1; cases g1
            rw [Nat.zero_mul] at hz2
            obtain ⟨cs0, e0, hr1, hr2⟩ := hr
            rw [g2] at hr1; cases hr1
            rw [Nat.zero_add] at hr2
            have hfl : rows.flatten.length = rows.length * s2 := flat_len g0
            have hnl2 : news.length = new.length * s2 := hsrc.newsLen
            by_cases hroom : len + new.length ≤ c
            · have hfit : (len + new.length) * s2 ≤ xs.size := Nat.le_trans (Nat.mul_le_mul_right s2 hroom) hr2
              have hrun := run_append_room' (ty := type) hu hn hsrc hroom g2 hfit
              rw [← hz2] at hrun
              have hsizes : len * s2 + new.length * s2 ≤ xs.size := by rw [← Nat.add_mul]; exact hfit
              have hw := setRow_step (cs := ⟨xs.toList.take (len * s2) ++ news ++ xs.toList.drop (len * s2 + new.length * s2)⟩) g2 (by simp [hnl2]; omega)
              have hst : Still A w (w.setRow b ⟨xs.toList.take (len * s2) ++ news ++ xs.toList.drop (len * s2 + new.length * s2)⟩) := hw.still h.alt (fun k' hk e' => g5.2 (e' ▸ hk))
              refine ⟨_, _, τ, app_run ha ht hrun, .inr ⟨_, rfl, ?_⟩, ?_⟩
              · have := C0.msl (A := A) (τ := τ) (w := w.setRow b ⟨xs.toList.take (len * s2) ++ news ++ xs.toList.drop (len * s2 + new.length * s2)⟩) u 0 s2 (len + new.length) b c none hτ (fun q hq => by cases hq) hroom
                  ⟨_, e', setRow_heap w b _ _ _ _ g2, by simp [hnl2]; omega⟩
                simpa using VRel.v1 (V1.one (CRel.c0 this))
              · have hmu : (lo (s.scr u).σ u).mu = true := by
                  simp only [AS.scr, lo_map _ (show AO.scr u .none = .none from rfl), hold]; rfl
                refine hsc.write hmu hτ hw ⟨fun r hr => ?_, by simp; omega, .inr ⟨b, _, e', hτ, setRow_heap w b _ _ _ _ g2, by simp [hnl2, ← hlen, Nat.add_mul]; omega, ?_, g5⟩⟩
                · rcases List.mem_append.1 hr with h5 | h5
                  · exact g0 r h5
                  · exact hns r h5
                · rw [List.flatten_append]
                  have hcellof : ∀ j : Nat, (w.setRow b ⟨xs.toList.take (len * s2) ++ news ++ xs.toList.drop (len * s2 + new.length * s2)⟩).cell? ⟨b, 0 + j, none⟩ = (xs.toList.take (len * s2) ++ news ++ xs.toList.drop (len * s2 + new.length * s2))[j]? := by
                    intro j
                    rw [Nat.zero_add]; simp [World.cell?, setRow_heap w b _ _ _ _ g2]
                  have hX : (xs.toList.take (len * s2)).length = len * s2 := by rw [List.length_take]; exact Nat.min_eq_left (by simp; omega)
                  refine PAt.of_get fun j pv hj => ?_
                  rw [hcellof]
                  by_cases c1 : j < len * s2
                  · rw [List.getElem?_append_left (by rw [hfl, ← hlen]; exact c1)] at hj
                    obtain ⟨x, hx, hr'⟩ := g4.get j pv hj
                    refine ⟨x, ?_, hr'.mono (fun _ hk => hk) hst⟩
                    rw [List.append_assoc, List.getElem?_append_left (by rw [hX]; exact c1), List.getElem?_take_of_lt c1]
                    rw [Nat.zero_add] at hx
                    simpa [World.cell?, g2] using hx
                  · rw [List.getElem?_append_right (by rw [hfl, ← hlen]; omega), hfl, ← hlen] at hj
                    obtain ⟨x, hx, hr'⟩ := hn1.get _ pv hj
                    refine ⟨x, ?_, hr'.mono (fun _ hk => hk) hst⟩
                    have hlt : j - len * s2 < news.length := (List.getElem?_eq_some_iff.1 hx).1
                    rw [List.append_assoc, List.getElem?_append_right (by rw [hX]; omega), hX, List.getElem?_append_left hlt]
                    exact hx
            · obtain ⟨olds, ho1, ho2⟩ := g4.cells
              have hol : olds = xs.toList.take (len * s2) := by
                apply List.ext_getElem?
                intro j
                have hl1 : olds.length = len * s2 := by rw [← ho1.length, hfl, hlen]
                by_cases hj : j < len * s2
                · have hj2 : j < olds.length := by omega
                  have := ho2 j olds[j] (List.getElem?_eq_getElem hj2)
                  rw [List.getElem?_eq_getElem hj2, List.getElem?_take_of_lt hj, ← this]
                  simp [World.cell?, g2]
                · rw [List.getElem?_eq_none (by omega), List.getElem?_eq_none (by rw [List.length_take]; omega)]
              have hfc : (Builtin.firstCells s2 len (.slice (some ⟨b, 0, none⟩) len c)).run P w.drew = .ok olds.toArray w.drew := by
                rw [hol]
                exact firstCells_row (w := w.drew) g2 (by rw [hlen]; exact g3)
              obtain ⟨v', w', hr, hv, hs⟩ := grow (some ⟨b, 0, none⟩) len c olds rows hz2 hfc ho1 g0 hlen.symm (by omega) hby hct _ u hdrop hnr hno
              exact ⟨_, w', _, app_run ha ht hr, .inr ⟨_, rfl, hv⟩, fix hs⟩
      · cases he
    · cases he
  · cases he

theorem copy_run {dst : Option Tmp} {args : Array Operand} {argTypes : Array TypeId} {x y : Operand} {t t2 : TypeId} {type : TypeId} {pos : String} {after : Array Edge} {guard : Option (Nat × Bool)}
    (ha : args.toList = [x, y]) (ht : argTypes.toList = [t, t2]) {v : Value} {w' : World} (hr : (Builtin.copy_ #[t, t2] type #[a.eval x, a.eval y]).run P w = .ok v w') :
    (execOp a.eval ⟨dst, .call ⟨.builtin .copy, args, argTypes⟩, type, pos, after, guard⟩).run P w = .ok (.value v) w' := by
  have h1 : args = #[x, y] := by apply Array.ext'; simpa using ha
  have h2 : argTypes = #[t, t2] := by apply Array.ext'; simpa using ht
  subst h1 h2
  simp [execOp, resolve, invoke, builtin, hr]

theorem copy_sound {dst : Option Tmp} {args : Array Operand} {argTypes : Array TypeId} {x y : Operand} {t t2 e e2 : TypeId} {type : TypeId} {pos : String} {after : Array Edge} {guard : Option (Nat × Bool)}
    (ha : args.toList = [x, y]) (ht : argTypes.toList = [t, t2]) (hu : P.underlying t = some (.slice e)) (hu2 : P.underlying t2 = some (.slice e2)) {n : Nat}
    (hn : szOf P e = some n) {x' y' : Opd} (hx : opd x = some x') (hy : opd y = some y')
    {d u : Nat} {ob : AO} {v : AV} {k : Nat} (h : SimAt G s a w A τ) (he : evS (.copy n x' y') s.env s.σ d = some (u, ob, v, k)) :
    Turns P G a w A ⟨dst, .call ⟨.builtin .copy, args, argTypes⟩, type, pos, after, guard⟩ v (newSt k u ob s) := by
  have h1 := opd_sound h hx
  simp only [evS] at he
  split at he
  · rename_i new t' o' s' len cap hnew hg
    rw [hg] at h1
    obtain ⟨news, hn1, hsrc, hns, hnl, hnc, base, c0, e2, hfirst⟩ := src_sound (P := P) hu2 hy h hnew
    split at he
    · rename_i s2 rows hold
      split at he
      · rename_i hcond
        obtain ⟨rfl, rfl, hle⟩ := hcond
        cases he
        simp only [newSt, show ¬ ((0 : Nat) = 2) from by decide, if_false]
        have ho := h.obj u
        rw [hold] at ho
        obtain ⟨g0, gl, g⟩ := ho
        have hfl : rows.flatten.length = rows.length * s2 := flat_len g0
        have hnl2 : news.length = new.length * s2 := hsrc.newsLen
        have h2 := one_inv h1
        generalize hz2 : a.eval x = z at h2
        cases h2 with | c0 h2 => cases h2 with
          | mslN _ _ _ _ b hτ hc =>
            have hrows : rows = [] := by
              rcases g with ⟨_, g⟩ | ⟨b', xs, e', g1, _⟩
              · exact g
              · rw [hτ] at g1; cases g1
            subst hrows
            have ho0 : o' = 0 := by simpa using hle
            subst ho0
            refine ⟨.value (.int .i64 0), w, τ, copy_run ha ht ?_, .inr ⟨_, rfl, ?_⟩, ?_⟩
            · have h0 := hfirst 0 (Nat.zero_le _)
              have hl := hsrc.len w
              rw [hz2]
              cases b <;> simp [Builtin.copy_, run_und hu, hl, run_sz hn, h0, storeCells, goInt]
            · have e0 : min ((new.length : Nat) : Int) ((0 : Nat) : Int) = 0 := by omega
              rw [e0]; exact pint_rel .i64 0
            · refine h.congr (fun _ => rfl) (fun q => ?_) rfl
              simp only [lo_put]
              split
              · rename_i hq; subst hq; rw [hold]; simp
              · rfl
          | msl _ _ _ _ b c _ hτ hc hl hr =>
            rcases g with ⟨g1, _⟩ | ⟨b', xs, e', g1, g2, g3, g4, g5⟩
            · rw [hτ] at g1; cases g1
            rw [hτ] at g1; cases g1
            have hmin : Nat.min new.length len ≤ new.length := Nat.min_le_left _ _
            have hfc := hfirst (Nat.min new.length len) hmin
            generalize hm : Nat.min new.length len = m at hmin hfc
            have hml : m ≤ len := by rw [← hm]; exact Nat.min_le_right _ _
            have htk : new.take len = new.take m := by
              rw [← hm]
              show new.take len = new.take (min new.length len)
              rw [Nat.min_comm, ← List.take_take, List.take_length]
            have hmlen : (new.take m).length = m := by rw [List.length_take]; exact Nat.min_eq_left hmin
            have hmn : m * s2 ≤ new.length * s2 := Nat.mul_le_mul_right s2 hmin
            have hnews : (news.take (m * s2)).length = m * s2 := by rw [List.length_take, hnl2]; exact Nat.min_eq_left hmn
            have hfit : o' * s2 + m * s2 ≤ rows.length * s2 := by
              rw [← Nat.add_mul]; exact Nat.mul_le_mul_right s2 (by omega)
            have hst0 := run_storeCells_at P b (o' * s2) e' (news.take (m * s2)) 0 xs w g2 (by rw [hnews]; omega) (fun q hq => by
              have := hnc q (List.mem_of_mem_take hq)
              cases q <;> first | rfl | (simp [cell1] at this))
            simp only [Nat.add_zero, hnews] at hst0
            generalize hcs : (xs.toList.take (o' * s2) ++ news.take (m * s2) ++ xs.toList.drop (o' * s2 + m * s2)) = cs at hst0
            have hX : (xs.toList.take (o' * s2)).length = o' * s2 := by rw [List.length_take]; exact Nat.min_eq_left (by simp; omega)
            have hcsl : cs.length = xs.size := by rw [← hcs]; simp only [List.length_append, hX, hnews, List.length_drop, Array.length_toList]; omega
            have hw := setRow_step (cs := cs.toArray) g2 (by simpa using hcsl)
            have hst : Still A w (w.setRow b cs.toArray) := hw.still h.alt (fun k' hk e' => g5.2 (e' ▸ hk))
            refine ⟨.value (.int .i64 m), w.setRow b cs.toArray, τ, copy_run ha ht ?_, .inr ⟨_, rfl, ?_⟩, ?_⟩
            · rw [hz2]
              have hlen := hsrc.len w
              simp only [Builtin.copy_, Sem.run_bind, Result.andThen_ok, List.getElem?_toArray, List.getElem?_cons_zero, List.getElem?_cons_succ, run_und hu, hlen, hm, run_sz hn, hfc, hst0, Sem.run_pure, goInt]
            · have hmm : min ((new.length : Nat) : Int) ((len : Nat) : Int) = (m : Int) := by
                have : min new.length len = m := hm
                omega
              rw [hmm]; exact pint_rel _ _
            · rw [htk, hmlen]
              refine h.write (by rw [hold]; rfl) hτ hw ⟨?_, ?_, .inr ⟨b, _, e', hτ, setRow_heap w b _ _ _ _ g2, ?_, ?_, g5⟩⟩
              · intro r hr
                rcases List.mem_append.1 hr with h5 | h5
                · rcases List.mem_append.1 h5 with h6 | h6
                  · exact g0 r (List.mem_of_mem_take h6)
                  · exact hns r (List.mem_of_mem_take h6)
                · exact g0 r (List.mem_of_mem_drop h5)
              · simp only [List.length_append, List.length_take, List.length_drop]; omega
              · have e9 : (List.take o' rows ++ List.take m new ++ List.drop (o' + m) rows).length = rows.length := by
                  simp only [List.length_append, List.length_take, List.length_drop]; omega
                rw [e9]; simp only [List.size_toArray, hcsl]; exact g3
              · simp only [List.flatten_append]
                rw [take_flat s2 rows g0 o' (by omega), take_flat s2 new hns m hmin, drop_flat s2 rows g0 (o' + m) (by omega), Nat.add_mul]
                have hT : (rows.flatten.take (o' * s2)).length = o' * s2 := by rw [List.length_take, hfl]; exact Nat.min_eq_left (by omega)
                have hTn : (new.flatten.take (m * s2)).length = m * s2 := by rw [List.length_take, flat_len hns]; exact Nat.min_eq_left hmn
                refine PAt.of_get fun j pv hj => ?_
                have hcell : (w.setRow b cs.toArray).cell? ⟨b, 0 + j, none⟩ = cs[j]? := by
                  rw [Nat.zero_add]; simp [World.cell?, setRow_heap w b _ _ _ _ g2]
                rw [hcell]
                have hcsj : ∀ q : Nat, cs[q]? = (xs.toList.take (o' * s2) ++ news.take (m * s2) ++ xs.toList.drop (o' * s2 + m * s2))[q]? := fun q => by rw [hcs]
                rw [hcsj]
                have old : ∀ (m : Nat) pv, rows.flatten[m]? = some pv → ∃ x, xs[m]? = some x ∧ PRel A (w.setRow b cs.toArray) pv x := by
                  intro m pv hm
                  obtain ⟨x, hx, hr'⟩ := g4.get m pv hm
                  refine ⟨x, ?_, hr'.mono (fun _ hk => hk) hst⟩
                  rw [Nat.zero_add] at hx
                  simpa [World.cell?, g2] using hx
                by_cases c1 : j < o' * s2
                · rw [List.append_assoc, List.getElem?_append_left (by rw [hT]; exact c1)] at hj
                  obtain ⟨x, hx, hr'⟩ := old j pv (take_getElem hj)
                  refine ⟨x, ?_, hr'⟩
                  rw [List.append_assoc, List.getElem?_append_left (by rw [hX]; exact c1), List.getElem?_take_of_lt c1]
                  simpa using hx
                · by_cases c2 : j < o' * s2 + m * s2
                  · rw [List.append_assoc, List.getElem?_append_right (by rw [hT]; omega), hT, List.getElem?_append_left (by rw [hTn]; omega)] at hj
                    obtain ⟨x, hx, hr'⟩ := hn1.get _ pv (take_getElem hj)
                    refine ⟨x, ?_, hr'.mono (fun _ hk => hk) hst⟩
                    rw [List.append_assoc, List.getElem?_append_right (by rw [hX]; omega), hX, List.getElem?_append_left (by rw [hnews]; omega), List.getElem?_take_of_lt (by omega)]
                    exact hx
                  · rw [List.getElem?_append_right (by rw [List.length_append, hT, hTn]; omega), List.length_append, hT, hTn, List.getElem?_drop, show o' * s2 + m * s2 + (j - (o' * s2 + m * s2)) = j from by omega] at hj
                    obtain ⟨x, hx, hr'⟩ := old j pv hj
                    refine ⟨x, ?_, hr'⟩
                    rw [List.getElem?_append_right (by rw [List.length_append, hX, hnews]; omega), List.length_append, hX, hnews, List.getElem?_drop, show o' * s2 + m * s2 + (j - (o' * s2 + m * s2)) = j from by omega]
                    simpa using hx
      · cases he
    · cases he
  · cases he

theorem compS_sound {o : Oper} {q : SOp} {d u : Nat} {ob : AO} {v : AV} {k : Nat} (hc : compS P o.op = some q) (h : SimAt G s a w A τ) (he : evS q s.env s.σ d = some (u, ob, v, k))
    (hd : k = 1 → s.Nr d ∧ lo s.σ d = .none) : Turns P G a w A o v (newSt k u ob s) := by
  obtain ⟨dst, op, type, pos, after, guard⟩ := o
  simp only at hc
  cases op <;> simp only [compS] at hc <;> (try (cases hc; done))
  case store t x y =>
    obtain ⟨n, hn, hc⟩ := bind_some' hc
    obtain ⟨x', hx, hc⟩ := bind_some' hc
    obtain ⟨y', hy, rfl⟩ := map_some' hc
    exact store_sound hn hx hy h he
  case call c =>
    obtain ⟨callee, args, argTypes⟩ := c
    cases callee with
    | value f => simp only [compS] at hc; cases hc
    | invoke r m => simp only [compS] at hc; cases hc
    | builtin b =>
      cases b <;> simp only [compS] at hc <;> (try (cases hc; done))
      · split at hc
        · rename_i x y t t2 ha ht
          split at hc
          · rename_i e e2 hu hu2
            obtain ⟨n, hn, hc⟩ := bind_some' hc
            obtain ⟨b, hb, hc⟩ := bind_some' hc
            obtain ⟨x', hx, hc⟩ := bind_some' hc
            obtain ⟨y', hy, hc⟩ := bind_some' hc
            split at hc
            · rename_i hcond
              cases hc
              obtain ⟨i0, hi, rfl⟩ := map_some' hb
              obtain ⟨hn0, hb0, hz⟩ := hcond
              obtain ⟨z0, hz0, hzs⟩ := map_some' hz
              obtain ⟨i1, hi1, hz1⟩ := bind_some' hz0
              rw [hi] at hi1; cases hi1
              exact app_sound ha ht hu hu2 hn hi hz1 hzs hb0 hn0 hx hy h he hd
            · cases hc
          · cases hc
        · cases hc
      · split at hc
        · rename_i x y t t2 ha ht
          split at hc
          · rename_i e e2 hu hu2
            obtain ⟨n, hn, hc⟩ := bind_some' hc
            obtain ⟨x', hx, hc⟩ := bind_some' hc
            obtain ⟨y', hy, rfl⟩ := map_some' hc
            exact copy_sound ha ht hu hu2 hn hx hy h he
          · cases hc
        · cases hc

end sound

end Go.AM

