import Derived.Test.YtphnlpfkenannaaGreatMx3
import Derived.Deep.AppendSrc
import Derived.Laws.CopyRow
import Derived.Laws.AppendOwn
set_option linter.unusedVariables false
set_option linter.unusedSimpArgs false
namespace Go.AM
open Go.RowKit (Below)

inductive SOp where
  | store (n : Nat) (a x : Opd)
  | app (s by_ : Nat) (x y : Opd)
  | copy (s : Nat) (x y : Opd)
  | clr (s : Nat) (z : List PV) (x : Opd)
  | mput (x k v : Opd)
  | storeA (k s : Nat) (x y : Opd)
mutual
def AC.scr (t : Nat) : AC → AC
  | .ptr u i s o => if u = t then .p .top else .ptr u i s o
  | .msl u o s l c => if u = t then .p .top else .msl u o s l c
  | .mmap u => if u = t then .p .top else .mmap u
  | .mfn f a b => if AC.has.hasL t a || AC.has.hasL t b then .p .top else .mfn f a b
  | c => c
end
def AV.scr (t : Nat) : AV → AV
  | .one c => .one (c.scr t)
  | .agg cs => .agg (cs.map (AC.scr t))
  | .tup xs => if AV.has.hasV t xs then .top else .tup xs
  | .top => .top
  | .und => .und
def AO.scr (t : Nat) : AO → AO
  | .cells m cs => .cells m (cs.map (AC.scr t))
  | o => o
def AS.scr (t : Nat) (s : AS) : AS :=
  { env := s.env.map fun p => (p.1, p.2.scr t), σ := s.σ.map fun p => (p.1, p.2.scr t), ex := s.ex.map (AV.scr t) }
theorem AC.scr_has (t : Nat) (c : AC) : (c.scr t).has t = false := by
  cases c <;> simp only [AC.scr] <;> (try split) <;> simp_all [AC.has]
theorem hasL_scr (t : Nat) (cs : List AC) : AC.has.hasL t (cs.map (AC.scr t)) = false := by
  induction cs with
  | nil => rfl
  | cons c cs ih => simp [AC.has.hasL, AC.scr_has, ih]
theorem lk_map (f : AV → AV) (hf : f .top = .top) (e : List (Nat × AV)) (i : Nat) : lk (e.map fun p => (p.1, f p.2)) i = f (lk e i) := by
  induction e with
  | nil => simp [lk, hf]
  | cons p e ih =>
    obtain ⟨j, v⟩ := p
    simp only [List.map_cons, lk]
    split
    · rfl
    · exact ih
theorem lo_map (f : AO → AO) (hf : f .none = .none) (e : List (Nat × AO)) (i : Nat) : lo (e.map fun p => (p.1, f p.2)) i = f (lo e i) := by
  induction e with
  | nil => simp [lo, hf]
  | cons p e ih =>
    obtain ⟨j, v⟩ := p
    simp only [List.map_cons, lo]
    split
    · rfl
    · exact ih
section scr
variable {P : Program} {G : Ground} {s : AS} {a : Act} {w : World} {A : Nat → Prop} {τ : Tau}
theorem CRel.scr (t : Nat) {c : AC} {x : Value} (h : CRel A τ w c x) : CRel A τ w (c.scr t) x := by
  have htop : CRel A τ w (.p .top) x := .c0 (.p _ _ (.top x h.cell1))
  cases c <;> simp only [AC.scr] <;> (try split) <;> first | exact h | exact htop
theorem All2.mapL {α β γ : Type} {R : α → β → Prop} {S : γ → β → Prop} {f : α → γ} {az : List α} {bs : List β} (h : All2 R az bs) (k : ∀ a b, R a b → S (f a) b) : All2 S (az.map f) bs := by
  induction h with
  | nil => exact .nil
  | cons x _ ih => exact .cons (k _ _ x) ih
theorem VRel.scr (t : Nat) {c : AV} {x : Value} (h : VRel A τ w c x) : VRel A τ w (c.scr t) x := by
  cases h with
  | v1 h => cases h with
    | one h => exact .v1 (.one (h.scr t))
    | agg h => exact .v1 (.agg (h.mapL fun _ _ k => k.scr t))
    | top => exact .v1 (.top _)
    | und => exact .v1 .und
  | tup h =>
    simp only [AV.scr]
    split
    · exact .v1 (.top _)
    · exact .tup h
theorem ORel.scr (t : Nat) {M : Nat → Prop} {u : Nat} {o : AO} (h : ORel M A τ w u o) : ORel M A τ w u (o.scr t) := by
  cases o with
  | none => trivial
  | arr => exact h
  | map => exact h
  | cells m cs =>
    obtain ⟨b, xs, e, h1, h2, h3, h4⟩ := h
    refine ⟨b, xs, e, h1, h2, h3.mapL fun _ _ k => k.scr t, ?_⟩
    cases m
    · refine ⟨h4.1, fun c hc => ?_⟩
      obtain ⟨d, hd, rfl⟩ := List.mem_map.1 hc
      obtain ⟨v, rfl⟩ := h4.2 d hd
      exact ⟨v, rfl⟩
    · exact h4
theorem scr_mu (t : Nat) (o : AO) : (o.scr t).mu = o.mu := by cases o <;> rfl
theorem scr_none (t : Nat) (o : AO) : o.scr t = .none ↔ o = .none := by cases o <;> simp [AO.scr]
theorem AV.scr_has (t : Nat) : ∀ (v : AV), (v.scr t).has t = false
  | .one c => AC.scr_has t c
  | .agg cs => hasL_scr t cs
  | .tup xs => by
    simp only [AV.scr]
    split
    · rfl
    · rename_i h; simpa [AV.has] using h
  | .top => rfl
  | .und => rfl
theorem scr_nr (t : Nat) (s : AS) : (s.scr t).nr t = true := by
  simp only [AS.nr, AS.scr, Bool.and_eq_true, List.all_eq_true]
  refine ⟨⟨?_, ?_⟩, ?_⟩
  · intro p hp
    obtain ⟨q, _, rfl⟩ := List.mem_map.1 hp
    simp [AV.scr_has]
  · intro p hp
    obtain ⟨q, _, rfl⟩ := List.mem_map.1 hp
    obtain ⟨i, o⟩ := q
    cases o <;> simp [AO.scr, AO.nr, hasL_scr]
  · intro v hv
    obtain ⟨q, _, rfl⟩ := List.mem_map.1 hv
    simp [AV.scr_has]
theorem SimAt.scr (h : SimAt G s a w A τ) (t : Nat) : SimAt G (s.scr t) a w A τ := by
  refine ⟨h.below, h.a0, h.a1, h.alt, h.size, fun i => ?_, fun u => ?_, ?_, ?_, h.marks⟩
  · simp only [AS.scr, lk_map _ (show AV.scr t .top = .top from rfl)]; exact (h.env i).scr t
  · simp only [AS.scr, lo_map _ (show AO.scr t .none = .none from rfl)]; exact (h.obj u).scr t
  · intro u u' b h1 h2 hne hm hb
    simp only [AS.scr, lo_map _ (show AO.scr t .none = .none from rfl), ne_eq, scr_none, scr_mu] at h1 h2 hm
    exact h.sep u u' b h1 h2 hne hm hb
  · exact h.ex.mapL fun _ _ k => k.scr t
theorem SimAt.congr {s' : AS} (h : SimAt G s a w A τ) (he : ∀ i, lk s'.env i = lk s.env i) (ho : ∀ t, lo s'.σ t = lo s.σ t) (hx : s'.ex = s.ex) : SimAt G s' a w A τ :=
  ⟨h.below, h.a0, h.a1, h.alt, h.size, fun i => by rw [he]; exact h.env i, fun t => by rw [ho]; exact h.obj t,
    fun t t' b => by rw [ho, ho]; exact h.sep t t' b, by rw [hx]; exact h.ex, h.marks⟩
theorem SimAt.drop (h : SimAt G s a w A τ) (t : Nat) : SimAt G { s with σ := (t, .none) :: s.σ } a w A τ := by
  refine ⟨h.below, h.a0, h.a1, h.alt, h.size, h.env, fun u => ?_, ?_, h.ex, h.marks⟩
  · rw [lo_put]
    split
    · trivial
    · exact h.obj u
  · intro u u' b h1 h2 hne hm hb
    simp only [lo_put] at h1 h2 hm
    split at h1
    · exact absurd rfl h1
    · split at h2
      · exact absurd rfl h2
      · rename_i k1 k2
        rw [if_neg k1] at hm
        exact h.sep u u' b h1 h2 hne hm hb
theorem live_lt (h : SimAt G s a w A τ) {t b : Nat} (hl : lo s.σ t ≠ .none) (hb : τ t = some b) : b < w.heap.size := by
  have := h.obj t
  cases ho : lo s.σ t with
  | none => exact absurd ho hl
  | cells m cs =>
    rw [ho] at this
    obtain ⟨b', _, _, h1, h2, _⟩ := this
    rw [hb] at h1; cases h1
    exact heap_lt h2
  | arr m s' rows =>
    rw [ho] at this
    obtain ⟨_, _, ⟨h1, _⟩ | ⟨b', _, _, h1, h2, _⟩⟩ := this
    · rw [hb] at h1; cases h1
    · rw [hb] at h1; cases h1
      exact heap_lt h2
  | map m es =>
    rw [ho] at this
    obtain ⟨b', _, _, h1, h2, _⟩ := this
    rw [hb] at h1; cases h1
    exact heap_lt h2
theorem mut_own (h : SimAt G s a w A τ) {t b : Nat} (hm : (lo s.σ t).mu = true) (hb : τ t = some b) : G.M b ∧ ¬ A b := by
  have := h.obj t
  cases ho : lo s.σ t with
  | none => rw [ho] at hm; cases hm
  | cells m cs =>
    rw [ho] at this hm
    cases (show m = true from hm)
    obtain ⟨b', _, _, h1, h2, _, h4⟩ := this
    rw [hb] at h1; cases h1
    exact h4
  | arr m s' rows =>
    rw [ho] at this hm
    cases (show m = true from hm)
    obtain ⟨_, _, ⟨h1, _⟩ | ⟨b', _, _, h1, h2, _, _, h4⟩⟩ := this
    · rw [hb] at h1; cases h1
    · rw [hb] at h1; cases h1
      exact h4
  | map m es =>
    rw [ho] at this hm
    cases (show m = true from hm)
    obtain ⟨b', _, _, h1, h2, _, h4⟩ := this
    rw [hb] at h1; cases h1
    exact h4
theorem SimAt.write (h : SimAt G s a w A τ) {t b : Nat} (hm : (lo s.σ t).mu = true) (hb : τ t = some b) {w' : World} (hw : WStep (· = b) w w') {o : AO}
    (ho : ORel G.M A τ w' t o) : SimAt G { s with σ := (t, o) :: s.σ } a w' A τ := by
  obtain ⟨hN, hA⟩ := mut_own h hm hb
  have hne : lo s.σ t ≠ .none := by intro e; rw [e] at hm; cases hm
  have hst : Still A w w' := hw.still h.alt (fun k hk e => hA (e ▸ hk))
  have hnd : ∀ ds, w.heap[b]? ≠ some (Obj.deferred ds) := by
    intro ds hd
    have := h.obj t
    cases ho : lo s.σ t with
    | none => exact hne ho
    | cells m cs =>
      rw [ho] at this
      obtain ⟨b', _, _, h1, h2, _⟩ := this
      rw [hb] at h1; cases h1; rw [h2] at hd; cases hd
    | arr m s' rows =>
      rw [ho] at this
      obtain ⟨_, _, ⟨h1, _⟩ | ⟨b', _, _, h1, h2, _⟩⟩ := this
      · rw [hb] at h1; cases h1
      · rw [hb] at h1; cases h1; rw [h2] at hd; cases hd
    | map m es =>
      rw [ho] at this
      obtain ⟨b', _, _, h1, h2, _⟩ := this
      rw [hb] at h1; cases h1; rw [h2] at hd; cases hd
  refine ⟨?_, h.a0, h.a1, fun k hk => Nat.lt_of_lt_of_le (h.alt k hk) hw.size, h.size, fun i => (h.env i).step hw (fun _ hk => hk) hst (fun _ _ => rfl), fun u => ?_, ?_,
    h.ex.mono fun _ _ hv => hv.step hw (fun _ hk => hk) hst (fun _ _ => rfl), h.marks.step (hw.dfr fun k hk ds => by subst hk; exact hnd ds) (fun _ hk => .inl hk)⟩
  · refine ⟨hw.os.trans h.below.os, hw.tape.trans h.below.tape, hw.output.trans h.below.output, Nat.le_trans h.below.size hw.size, fun k hk hno => ?_⟩
    rw [hw.same k (Nat.lt_of_lt_of_le hk h.below.size) (fun e => by subst e; rcases hN with h1 | h1 <;> first | omega | exact hno h1)]
    exact h.below.block k hk hno
  · rw [lo_put]
    by_cases hu : u = t
    · subst hu; rw [if_pos rfl]; exact ho
    · rw [if_neg hu]
      refine (h.obj u).step hw (fun _ hk => hk) hst (fun _ hk => .inl hk) (fun k hn hk hlt => hw.same k hlt (fun e => ?_)) rfl (fun _ _ => rfl)
      subst e
      exact h.sep t u k hne hn (Ne.symm hu) hm hb hk
  · intro u u' k h1 h2 hne' hmu hk
    simp only [lo_put] at h1 h2 hmu
    by_cases hu : u = t
    · subst hu
      rw [hb] at hk; cases hk
      rw [if_neg (Ne.symm hne')] at h2
      exact h.sep u u' b hne h2 hne' hm hb
    · rw [if_neg hu] at h1 hmu
      by_cases hu' : u' = t
      · subst hu'
        exact h.sep u u' k h1 hne hne' hmu hk
      · rw [if_neg hu'] at h2
        exact h.sep u u' k h1 h2 hne' hmu hk
theorem SimAt.retau (h : SimAt G s a w A τ) {d : Nat} (hd : s.Nr d) (hn : lo s.σ d = .none) (x : Option Nat) : SimAt G s a w A (fun t => if t = d then x else τ t) := by
  obtain ⟨hd1, hd2, hd3⟩ := hd
  have hw := WStep.refl w
  have hst : Still A w w := fun _ _ => rfl
  have ev : ∀ v : AV, v.has d = false → ∀ t, v.has t = true → (if t = d then x else τ t) = τ t := fun v hv t ht =>
    if_neg (fun e => by subst e; rw [hv] at ht; cases ht)
  refine ⟨h.below, h.a0, h.a1, h.alt, h.size, fun i => ?_, fun t => ?_, ?_, ?_, h.marks⟩
  · exact (h.env i).step hw (fun _ hb => hb) hst (ev _ (hd1 i))
  · by_cases ht : t = d
    · subst ht; rw [hn]; trivial
    · refine (h.obj t).step hw (fun _ hb => hb) hst (fun b hb => .inl hb) (fun b _ _ hlt => rfl) (if_neg ht) (fun u hu => ?_)
      have hnr := hd2 t
      cases ho : lo s.σ t with
      | cells m cs =>
        rw [ho] at hnr hu
        refine if_neg (fun e => ?_)
        subst e
        simp [AO.nr] at hnr
        simp only at hu
        rw [hnr] at hu; cases hu
      | none => rw [ho] at hu; exact hu.elim
      | arr => rw [ho] at hu; exact hu.elim
      | map => rw [ho] at hu; exact hu.elim
  · intro t t' b h1 h2 hne hm hb
    have ht : t ≠ d := fun e => h1 (e ▸ hn)
    have ht' : t' ≠ d := fun e => h2 (e ▸ hn)
    simp only [if_neg ht, if_neg ht'] at hb ⊢
    exact h.sep t t' b h1 h2 hne hm hb
  · refine h.ex.stepL (p := fun v => v.has d = false) hd3 (fun v y hv hr => hr.step hw (fun _ hb => hb) hst (ev v hv))
theorem SimAt.newNone (h : SimAt G s a w A τ) {d : Nat} (hd : s.Nr d) (hn : lo s.σ d = .none) (m : Bool) (k : Nat) :
    SimAt G { s with σ := (d, .arr m k []) :: s.σ } a w A (fun t => if t = d then none else τ t) := by
  have h0 := h.retau hd hn none
  refine ⟨h0.below, h0.a0, h0.a1, h0.alt, h0.size, h0.env, fun t => ?_, ?_, h0.ex, h0.marks⟩
  · rw [lo_put]
    by_cases ht : t = d
    · subst ht
      rw [if_pos rfl]
      exact ⟨fun r hr => by simp at hr, by simp [MaxN], .inl ⟨if_pos rfl, rfl⟩⟩
    · rw [if_neg ht]; exact h0.obj t
  · intro t t' b h1 h2 hne hm hb
    simp only [lo_put] at h1 h2 hm
    by_cases ht : t = d
    · rw [if_pos ht] at hb; cases hb
    · by_cases ht' : t' = d
      · rw [if_pos ht']; exact fun hh => by cases hh
      · rw [if_neg ht] at h1 hm
        rw [if_neg ht'] at h2
        exact h0.sep t t' b h1 h2 hne hm hb
theorem setRow_step {b : Nat} {cur cs : Array Value} {e : TypeId} (hg : w.heap[b]? = some (.cells cur e (0, 0))) (hs : cs.size = cur.size) : WStep (· = b) w (w.setRow b cs) := by
  refine ⟨rfl, rfl, rfl, by simp [World.setRow], fun k _ hk => setRow_other w b k cs hk, fun k c1 e1 h => ?_⟩
  by_cases hk : k = b
  · subst hk
    rw [hg] at h; cases h
    exact ⟨cs, setRow_heap w k _ cs _ _ hg, hs⟩
  · exact ⟨c1, (setRow_other w b k cs hk).trans h, rfl⟩
end scr
def srcOf (s : Nat) (e : Env) (σ : Sto) (y : Opd) : Option (List (List PV)) :=
  match get e y with
  | .one .nils => some []
  | .one (.p (.sl rows)) => if rows.all (fun r => r.length == s) then some rows else none
  | .one (.msl t o s' len _) => match lo σ t with
    | .arr _ s2 rows => if s' = s ∧ s2 = s ∧ o + len ≤ rows.length then some ((rows.drop o).take len) else none
    | _ => none
  | _ => none
def isZ64 : List PV → Bool
  | [.int .i64 n] => n == 0
  | _ => false
def srcZ (s by_ : Nat) (e : Env) (σ : Sto) (y : Opd) : Option (List (List PV)) :=
  if by_ < 1073741824 then srcOf s e σ y else match get e y with
  | .one (.p (.int .i64 m)) => if s = 1 ∧ 0 ≤ m ∧ m ≤ 1000000 then some (List.replicate m.toNat [.int .i64 0]) else none
  | _ => none
def putM (n : Int) (r : Bool × List PV) : List (Int × Bool × List PV) → List (Int × Bool × List PV)
  | [] => [(n, r)]
  | p :: es => if p.1 = n then (n, r) :: es else p :: putM n r es
def evS (q : SOp) (e : Env) (σ : Sto) (d : Nat) : Option (Nat × AO × AV × Nat) :=
  match q with
  | .store n x y => match get e x, asCells (get e y) with
    | .one (.ptr t i s off), some cs => if cs.length = n then (match lo σ t with
      | .cells true old => if i = 0 ∧ off + n ≤ old.length then some (t, .cells true (old.take off ++ cs ++ old.drop (off + n)), .und, 0) else none
      | .arr true s' rows => if s' = s then (match rows[i]?, pvs cs with
        | some r, some vs => if off + n ≤ r.length then some (t, .arr true s (rows.set i (r.take off ++ vs ++ r.drop (off + n))), .und, 0) else none
        | _, _ => none) else none
      | _ => none) else none
    | _, _ => none
  | .app s by_ x y => match srcZ s by_ e σ y with
    | some new => match get e x with
      | .one .nils => if new.length * by_ ≤ 2 ^ 40 ∧ new.length ≤ 2 ^ 40 then some (d, .arr true s new, .one (.msl d 0 s new.length none), 1) else none
      | .one (.msl t o s' len cap) => match lo σ t with
        | .arr m s2 rows => if s' = s ∧ s2 = s then
            (if cap = none ∧ o = 0 ∧ len = rows.length then
              (if m = true ∧ (len + new.length) * by_ ≤ 2 ^ 40 ∧ len + new.length ≤ 2 ^ 40 then some (t, .arr true s (rows ++ new), .one (.msl t 0 s (len + new.length) none), 2) else none)
            else if o + len ≤ rows.length then
              (if len + new.length ≤ roomOf σ t o s len cap then
                (if m = true ∧ o + len + new.length ≤ MaxN then some (t, .arr true s (rows.take (o + len) ++ new ++ rows.drop (o + len + new.length)), .one (.msl t o s (len + new.length) cap), 0) else none)
              else match cap with
                | some _ => if (len + new.length) * by_ ≤ 2 ^ 40 ∧ len + new.length ≤ 2 ^ 40 then some (d, .arr true s ((rows.drop o).take len ++ new), .one (.msl d 0 s (len + new.length) none), 1) else none
                | none => none)
            else none) else none
        | _ => none
      | _ => none
    | none => none
  | .copy s x y => match get e x with
    | .one (.msl t o s' len _) => match lo σ t with
      | .arr true s2 rows => if s' = s ∧ s2 = s then (match srcOf s e σ y with
        | some new => if o + len ≤ rows.length then some (t, .arr true s (rows.take o ++ new.take len ++ rows.drop (o + (new.take len).length)), pint .i64 (min new.length len), 0)
          else if o ≤ rows.length ∧ o + len ≤ MaxN then some (t, .arr true s (rows.take o ++ new.take len ++ rows.drop (o + (new.take len).length)), pint .i64 (min new.length len), 0)
          else none
        | none => match get e y with
          | .one (.msl t2 o2 s3 len2 _) => match lo σ t2 with
            | .arr _ s4 rows2 => if s3 = s ∧ s4 = s ∧ len ≤ len2 ∧ o2 + len ≤ rows2.length ∧ o ≤ rows.length ∧ o + len ≤ MaxN then
                some (t, .arr true s (rows.take o ++ (rows2.drop o2).take len ++ rows.drop (o + ((rows2.drop o2).take len).length)), pint .i64 len, 0) else none
            | _ => none
          | _ => none) else none
      | _ => none
    | _ => none
  | .storeA k s x y => match get e x, (asCells (get e y)).bind pvs with
    | .one (.ptr t 0 s' 0), some vs => match lo σ t with
      | .arr true s2 rows => if s' = s ∧ s2 = s ∧ rows.length = k ∧ vs.length = k * s then some (t, .arr true s (chunk s k vs), .und, 0) else none
      | _ => none
    | _, _ => none
  | .clr s z x => match get e x with
    | .one (.msl t o s' len _) => match lo σ t with
      | .arr true s2 rows => if s' = s ∧ s2 = s ∧ o + len ≤ rows.length then some (t, .arr true s (rows.take o ++ List.replicate len z ++ rows.drop (o + (List.replicate len z).length)), .tup [], 0) else none
      | _ => none
    | _ => none
  | .mput x k v => match get e x, get e k with
    | .one (.mmap t), .one (.p (.int .i64 n)) => match lo σ t, (asCells (get e v)).bind pvs with
      | .map true es, some cs => match get e v with
        | .agg _ => some (t, .map true (putM n (true, cs) es), .und, 0)
        | _ => some (t, .map true (putM n (false, cs) es), .und, 0)
      | _, _ => none
    | _, _ => none
def compS (P : Program) (o : Op) : Option SOp :=
  match o with
  | .store t x y => match P.underlying t with
    | some (.array k el) => (szOf P el).bind fun s => (szOf P t).bind fun n => (opd x).bind fun x => (opd y).bind fun y => if n = k * s ∧ n ≠ s then some (.storeA k s x y) else some (.store n x y)
    | _ => (szOf P t).bind fun n => (opd x).bind fun x => (opd y).map fun y => .store n x y
  | .call { callee := .builtin .append, args, argTypes } => match args.toList, argTypes.toList with
    | [x, y], [t, t2] => match P.underlying t, P.underlying t2 with
      | some (.slice e), some (.slice _) => (szOf P e).bind fun n => ((P.info? e).map (·.bytes)).bind fun b => (opd x).bind fun x => (opd y).bind fun y =>
          if n ≠ 0 ∧ b ≤ 2 ^ 20 ∧ (((P.info? e).bind (·.zero)).map fun z => z.cells.size) = some n then some (.app n b x y) else none
      | some (.slice e), some (.int .i64) => (szOf P e).bind fun n => ((P.info? e).map (·.bytes)).bind fun b => (zeroP P e).bind fun z => (opd x).bind fun x => (opd y).bind fun y =>
          if n = 1 ∧ b ≤ 2 ^ 20 ∧ isZ64 z = true ∧ (((P.info? e).bind (·.zero)).map fun z => z.cells.size) = some n then some (.app n (b + 1073741824) x y) else none
      | _, _ => none
    | _, _ => none
  | .call { callee := .builtin .copy, args, argTypes } => match args.toList, argTypes.toList with
    | [x, y], [t, t2] => match P.underlying t, P.underlying t2 with
      | some (.slice e), some (.slice _) => (szOf P e).bind fun n => (opd x).bind fun x => (opd y).map fun y => .copy n x y
      | _, _ => none
    | _, _ => none
  | .call { callee := .builtin .clear, args, argTypes } => match args.toList, argTypes.toList with
    | [x], [t] => match P.underlying t with
      | some (.slice e) => (szOf P e).bind fun n => (zeroP P e).bind fun z => (opd x).bind fun x => if z.length = n then some (.clr n z x) else none
      | _ => none
    | _, _ => none
  | .mapUpdate t m k v | .insert t m k v => match P.underlying t with
    | some (.map kt _) => match P.underlying kt with
      | some (.int _) => (opd m).bind fun m => (opd k).bind fun k => (opd v).map fun v => .mput m k v
      | _ => none
    | _ => none
  | _ => none
def newSt (k t : Nat) (o : AO) (s : AS) : AS := if k = 2 then { s.scr t with σ := (t, o) :: (s.scr t).σ } else { s with σ := (t, o) :: s.σ }
section sound
variable {P : Program} {G : Ground} {s : AS} {a : Act} {w : World} {A : Nat → Prop} {τ : Tau}
def Turns (P : Program) (G : Ground) (a : Act) (w : World) (A : Nat → Prop) (o : Oper) (v : AV) (s' : AS) : Prop :=
  ∃ r w' τ', (execOp a.eval o).run P w = .ok r w' ∧ ((r = .skip ∧ v = .und) ∨ ∃ x, r = .value x ∧ VRel A τ' w' v x) ∧ SimAt G s' a w' A τ'
theorem run_storeVar {t : TypeId} {n b off : Nat} (hs : szOf P t = some n) {cur : Array Value} {e : TypeId} (hg : w.heap[b]? = some (.cells cur e (0, 0))) {v : Value} (hv : v.cells.size = n)
    (hle : off + n ≤ cur.size) (h1 : ∀ x ∈ v.cells.toList, cell1 x = true) :
    (storeVar t ⟨b, off, none⟩ v).run P w = .ok () (w.setRow b ⟨cur.toList.take off ++ v.cells.toList ++ cur.toList.drop (off + n)⟩) := by
  have := run_storeCells_at P b off e v.cells.toList 0 cur w hg (by simp [hv]; omega) (fun x hx => by have := h1 x hx; cases x <;> first | rfl | (simp [cell1] at this))
  simp only [storeVar, Sem.run_bind, run_sz hs, Result.andThen_ok, hv, ne_eq, not_true_eq_false, if_false]
  simp only [Nat.add_zero, Array.length_toList, hv] at this
  simpa using this
theorem prels_cell1 {vs : List PV} {xs : List Value} (h : All2 (PRel A w) vs xs) : ∀ x ∈ xs, cell1 x = true := by
  induction h with
  | nil => intro x hx; simp at hx
  | cons h _ ih =>
    intro x hx
    rcases List.mem_cons.1 hx with rfl | hx
    · exact h.cell1
    · exact ih x hx
theorem crel_cell1 {cs : List AC} {xs : List Value} (h : All2 (CRel A τ w) cs xs) : ∀ x ∈ xs, cell1 x = true := by
  induction h with
  | nil => intro x hx; simp at hx
  | cons h _ ih =>
    intro x hx
    rcases List.mem_cons.1 hx with rfl | hx
    · exact h.cell1
    · exact ih x hx
theorem run_storeOp {dst : Option Tmp} {t : TypeId} {x y : Operand} {type : TypeId} {pos : String} {after : Array Edge} {guard : Option (Nat × Bool)} {p : Addr} {w' : World}
    (e1 : a.eval x = .pointer (some p)) (hr : (storeVar t p (a.eval y)).run P w = .ok () w') : (execOp a.eval ⟨dst, .store t x y, type, pos, after, guard⟩).run P w = .ok .skip w' := by
  simp only [execOp, Instr.storeAt, Instr.sureAddr, e1, Sem.run_bind, Sem.run_pure, Result.andThen_ok, hr]
theorem store_sound {dst : Option Tmp} {t : TypeId} {x y : Operand} {type : TypeId} {pos : String} {after : Array Edge} {guard : Option (Nat × Bool)} {n : Nat} {x' y' : Opd}
    (hn : szOf P t = some n) (hx : opd x = some x') (hy : opd y = some y') {d u : Nat} {ob : AO} {v : AV} {k : Nat} (h : SimAt G s a w A τ)
    (he : evS (.store n x' y') s.env s.σ d = some (u, ob, v, k)) : Turns P G a w A ⟨dst, .store t x y, type, pos, after, guard⟩ v (newSt k u ob s) := by
  have h1 := opd_sound h hx
  have h2 := opd_sound h hy
  simp only [evS] at he
  split at he
  · rename_i t' i s' off cs hp hcs
    rw [hp] at h1
    obtain ⟨b, e1, hb⟩ := ptr_inv h1
    have hcr := asCells_sound h2 hcs
    split at he
    · rename_i hlen
      have hsz : (a.eval y).cells.size = n := by have := hcr.length; simp only [Array.length_toList] at this; omega
      have ho := h.obj t'
      split at he
      · rename_i old hold
        rw [hold] at ho
        obtain ⟨b', xs, e, g1, g2, g3, g4⟩ := ho
        obtain rfl : b' = b := by rw [hb] at g1; exact (Option.some.inj g1).symm
        split at he
        · rename_i hi
          obtain ⟨rfl, hle⟩ := hi
          cases he
          have hxl : xs.length = old.length := g3.length.symm
          have hrun := run_storeVar (w := w) hn g2 hsz (off := off) (by simp; omega) (crel_cell1 hcr)
          refine ⟨.skip, _, τ, run_storeOp e1 (by rw [Nat.zero_mul, Nat.zero_add]; exact hrun), .inl ⟨rfl, rfl⟩, ?_⟩
          have hw := setRow_step (cs := ⟨xs.take off ++ (a.eval y).cells.toList ++ xs.drop (off + n)⟩) g2 (by simp [hsz]; omega)
          have hst : Still A w (w.setRow b' ⟨xs.take off ++ (a.eval y).cells.toList ++ xs.drop (off + n)⟩) := hw.still h.alt (fun k' hk e' => g4.2 (e' ▸ hk))
          have hup : ∀ c x, CRel A τ w c x → CRel A τ (w.setRow b' ⟨xs.take off ++ (a.eval y).cells.toList ++ xs.drop (off + n)⟩) c x := fun c x hc => hc.step hw (fun _ hk => hk) hst (fun _ _ => rfl)
          exact h.write (by rw [hold]; rfl) hb hw ⟨b', _, e, hb, setRow_heap w b' _ _ _ _ g2, (((g3.mono hup).take off).append (hcr.mono hup)).append ((g3.mono hup).drop (off + n)), g4⟩
        · cases he
      · rename_i s2 rows hold
        rw [hold] at ho
        split at he
        · rename_i hss
          subst hss
          split at he
          · rename_i r vs hr hvs
            obtain ⟨g0, gl, ⟨g1, _⟩ | ⟨b', xs, e, g1, g2, g3, g4, g5⟩⟩ := ho
            · rw [hb] at g1; cases g1
            obtain rfl : b' = b := by rw [hb] at g1; exact (Option.some.inj g1).symm
            split at he
            · rename_i hle
              cases he
              have hri : i < rows.length := (List.getElem?_eq_some_iff.1 hr).1
              have hrl := g0 r (List.mem_of_getElem? hr)
              have hmul : i * s2 + s2 ≤ rows.length * s2 := by
                have := Nat.mul_le_mul_right s2 hri
                rw [Nat.succ_mul] at this; exact this
              have hrun := run_storeVar (w := w) hn g2 hsz (off := i * s2 + off) (by omega) (crel_cell1 hcr)
              refine ⟨.skip, _, τ, run_storeOp e1 hrun, .inl ⟨rfl, rfl⟩, ?_⟩
              generalize hcs2 : (⟨xs.toList.take (i * s2 + off) ++ (a.eval y).cells.toList ++ xs.toList.drop (i * s2 + off + n)⟩ : Array Value) = new
              have hsize : new.size = xs.size := by subst hcs2; simp [hsz]; omega
              have hw := setRow_step (cs := new) g2 hsize
              have hst : Still A w (w.setRow b' new) := hw.still h.alt (fun k' hk e' => g5.2 (e' ▸ hk))
              have hvs2 := pvs_sound hcr hvs
              have hvl : vs.length = n := by have := hvs2.length; simp only [Array.length_toList] at this; omega
              have hnewr : (r.take off ++ vs ++ r.drop (off + n)).length = s2 := by simp; omega
              refine h.write (by rw [hold]; rfl) hb hw ⟨?_, by simpa using gl, .inr ⟨b', new, e, hb, setRow_heap w b' _ _ _ _ g2, by simp; omega, ?_, g5⟩⟩
              · intro q hq
                rcases List.mem_or_eq_of_mem_set hq with h5 | h5
                · exact g0 q h5
                · rw [h5]; exact hnewr
              · refine PAt.of_get fun j pv hj => ?_
                rw [set_flat s2 rows g0 i _ hri] at hj
                have hfl : rows.flatten.length = rows.length * s2 := flat_len g0
                have hT : (rows.flatten.take (i * s2)).length = i * s2 := by rw [List.length_take, hfl]; exact Nat.min_eq_left (by omega)
                have hcell : (w.setRow b' new).cell? ⟨b', 0 + j, none⟩ = new[j]? := by
                  rw [Nat.zero_add]; simp [World.cell?, setRow_heap w b' _ new _ _ g2]
                rw [hcell]
                have old : ∀ (m : Nat) pv, rows.flatten[m]? = some pv → ∃ x, xs[m]? = some x ∧ PRel A (w.setRow b' new) pv x := by
                  intro m pv hm
                  obtain ⟨x, hx, hr'⟩ := g4.get m pv hm
                  refine ⟨x, ?_, hr'.mono (fun _ hk => hk) hst⟩
                  rw [Nat.zero_add] at hx
                  simpa [World.cell?, g2] using hx
                have newv : ∀ (m : Nat) pv, vs[m]? = some pv → ∃ x, (a.eval y).cells.toList[m]? = some x ∧ PRel A (w.setRow b' new) pv x := by
                  intro m pv hm
                  obtain ⟨x, hx, hr'⟩ := hvs2.get m pv hm
                  exact ⟨x, hx, hr'.mono (fun _ hk => hk) hst⟩
                have hrow : ∀ (m : Nat) pv, r[m]? = some pv → rows.flatten[i * s2 + m]? = some pv := fun m pv hm => flatten_get s2 rows g0 i m r pv hr hm
                have hnewget : ∀ j : Nat, new[j]? = (xs.toList.take (i * s2 + off) ++ (a.eval y).cells.toList ++ xs.toList.drop (i * s2 + off + n))[j]? := by
                  intro j; subst hcs2; simp
                rw [hnewget]
                have hxs : xs.toList.length = xs.size := by simp
                have hyl : (a.eval y).cells.toList.length = n := by simp [hsz]
                have hX : (xs.toList.take (i * s2 + off)).length = i * s2 + off := by rw [List.length_take, hxs]; exact Nat.min_eq_left (by omega)
                have hro : (r.take off).length = off := by rw [List.length_take]; exact Nat.min_eq_left (by omega)
                generalize hR : r.take off ++ vs ++ r.drop (off + n) = R at hj hnewr
                by_cases c1 : j < i * s2
                · rw [List.append_assoc, List.getElem?_append_left (by rw [hT]; exact c1)] at hj
                  obtain ⟨x, hx, hr'⟩ := old j pv (take_getElem hj)
                  refine ⟨x, ?_, hr'⟩
                  rw [List.append_assoc, List.getElem?_append_left (by rw [hX]; omega), List.getElem?_take_of_lt (by omega)]
                  simpa using hx
                · by_cases c2 : j < i * s2 + s2
                  · rw [List.append_assoc, List.getElem?_append_right (by rw [hT]; omega), hT, List.getElem?_append_left (by rw [hnewr]; omega)] at hj
                    rw [← hR] at hj
                    by_cases c3 : j - i * s2 < off
                    · rw [List.append_assoc, List.getElem?_append_left (by rw [hro]; exact c3)] at hj
                      have e3 := hrow _ pv (take_getElem hj)
                      rw [show i * s2 + (j - i * s2) = j from by omega] at e3
                      obtain ⟨x, hx, hr'⟩ := old j pv e3
                      refine ⟨x, ?_, hr'⟩
                      rw [List.append_assoc, List.getElem?_append_left (by rw [hX]; omega), List.getElem?_take_of_lt (by omega)]
                      simpa using hx
                    · by_cases c4 : j - i * s2 < off + n
                      · rw [List.append_assoc, List.getElem?_append_right (by rw [hro]; omega), hro, List.getElem?_append_left (by rw [hvl]; omega)] at hj
                        obtain ⟨x, hx, hr'⟩ := newv _ pv hj
                        refine ⟨x, ?_, hr'⟩
                        rw [List.append_assoc, List.getElem?_append_right (by rw [hX]; omega), hX, List.getElem?_append_left (by rw [hyl]; omega), ← hx]
                        congr 1; omega
                      · rw [List.getElem?_append_right (by rw [List.length_append, hro, hvl]; omega), List.length_append, hro, hvl, List.getElem?_drop, show off + n + (j - i * s2 - (off + n)) = j - i * s2 from by omega] at hj
                        have e3 := hrow _ pv hj
                        rw [show i * s2 + (j - i * s2) = j from by omega] at e3
                        obtain ⟨x, hx, hr'⟩ := old j pv e3
                        refine ⟨x, ?_, hr'⟩
                        rw [List.getElem?_append_right (by rw [List.length_append, hX, hyl]; omega), List.length_append, hX, hyl, List.getElem?_drop, show i * s2 + off + n + (j - (i * s2 + off + n)) = j from by omega]
                        simpa using hx
                  · rw [List.getElem?_append_right (by rw [List.length_append, hT, hnewr]; omega), List.length_append, hT, hnewr, List.getElem?_drop, show i * s2 + s2 + (j - (i * s2 + s2)) = j from by omega] at hj
                    obtain ⟨x, hx, hr'⟩ := old j pv hj
                    refine ⟨x, ?_, hr'⟩
                    rw [List.getElem?_append_right (by rw [List.length_append, hX, hyl]; omega), List.length_append, hX, hyl, List.getElem?_drop, show i * s2 + off + n + (j - (i * s2 + off + n)) = j from by omega]
                    simpa using hx
            · cases he
          · cases he
        · cases he
      · cases he
    · cases he
  · cases he
theorem src_sound {n : Nat} {t2 e2 : TypeId} (hk : P.underlying t2 = some (.slice e2)) {y : Operand} {y' : Opd} (hy : opd y = some y') {new : List (List PV)} (h : SimAt G s a w A τ)
    (he : srcOf n s.env s.σ y' = some new) :
    ∃ news, All2 (PRel A w) new.flatten news ∧ Src P n t2 (a.eval y) new.length news w ∧ (∀ r ∈ new, r.length = n) ∧ new.length ≤ MaxN ∧
      (∀ u ∈ news, cell1 u = true) ∧ (∃ base c, a.eval y = .slice base new.length c ∧ ∀ k, k ≤ new.length → (Builtin.firstCells n k (a.eval y)).run P w = .ok ⟨news.take (k * n)⟩ w) := by
  have h1 := opd_sound h hy
  have one' : ∀ {vs : List PV} {xs : List Value}, All2 (PRel A w) vs xs → ∀ x ∈ xs, cell1 x = true := by
    intro vs xs hh
    induction hh with
    | nil => intro x hx; simp at hx
    | cons h _ ih =>
      intro x hx
      rcases List.mem_cons.1 hx with rfl | hx
      · exact h.cell1
      · exact ih x hx
  have conv : ∀ x : Value, cell1 x = true → x.oneCell' = true := fun x hx => by cases x <;> first | rfl | (simp [cell1] at hx)
  have some_case : ∀ (b off c : Nat), a.eval y = .slice (some ⟨b, off, none⟩) new.length c → PAt A w new.flatten b off → (∀ r ∈ new, r.length = n) → new.length ≤ MaxN →
      ∃ news, All2 (PRel A w) new.flatten news ∧ Src P n t2 (a.eval y) new.length news w ∧ (∀ r ∈ new, r.length = n) ∧ new.length ≤ MaxN ∧ (∀ u ∈ news, cell1 u = true) ∧
        (∃ base c, a.eval y = .slice base new.length c ∧ ∀ k, k ≤ new.length → (Builtin.firstCells n k (a.eval y)).run P w = .ok ⟨news.take (k * n)⟩ w) := by
    intro b off c e1 hat hs hl
    obtain ⟨news, h2, h3⟩ := hat.cells
    have hnl : news.length = new.length * n := by rw [← h2.length, flat_len hs]
    have hcell : ∀ (j : Nat) u, news[j]? = some u → w.cell? ((⟨b, off, none⟩ : Addr).add j) = some u := fun j u hu => by rw [add_eq]; exact h3 j u hu
    refine ⟨news, h2, ?_, hs, hl, one' h2, ⟨_, _, e1, fun k hk => ?_⟩⟩
    · rw [e1]
      exact Src.ofSlice w hk ⟨b, off, none⟩ new.length c news hnl hcell (fun u hu => conv u (one' h2 u hu))
    · rw [e1]
      have hle : k * n ≤ news.length := by rw [hnl]; exact Nat.mul_le_mul_right n hk
      have := run_loadCellsFrom (P := P) (w := w) ⟨b, off, none⟩ (news.take (k * n)) 0 #[] (fun j x hx => by
        have := hcell j x (take_getElem hx)
        simpa using this)
      rw [List.length_take, Nat.min_eq_left hle] at this
      simpa [Builtin.firstCells, loadCells] using this
  have nil_case : new = [] → (∃ base c, a.eval y = .slice base 0 c) →
      ∃ news, All2 (PRel A w) new.flatten news ∧ Src P n t2 (a.eval y) new.length news w ∧ (∀ r ∈ new, r.length = n) ∧ new.length ≤ MaxN ∧ (∀ u ∈ news, cell1 u = true) ∧
        (∃ base c, a.eval y = .slice base new.length c ∧ ∀ k, k ≤ new.length → (Builtin.firstCells n k (a.eval y)).run P w = .ok ⟨news.take (k * n)⟩ w) := by
    rintro rfl ⟨base, c, e1⟩
    have hf : (Builtin.firstCells n 0 (a.eval y)).run P w = .ok #[] w := by
      rw [e1]; cases base <;> simp [Builtin.firstCells, loadCells, loadCellsFrom]
    refine ⟨[], .nil, ?_, fun r hr => by simp at hr, by simp [MaxN], fun u hu => by simp at hu, ⟨base, c, e1, fun k hk => ?_⟩⟩
    · rw [e1]
      cases base with
      | none => exact Src.ofNil w hk c
      | some p => exact Src.ofSlice w hk p 0 c [] (by simp) (fun j u hu => by simp at hu) (fun u hu => by simp at hu)
    · have : k = 0 := by simpa using hk
      subst this
      simpa using hf
  unfold srcOf at he
  split at he
  · rename_i hg
    rw [hg] at h1
    cases he
    refine nil_case rfl ?_
    generalize hz : a.eval y = z at h1 ⊢
    cases one_inv h1 with | c0 h2 => cases h2; exact ⟨none, 0, rfl⟩
  · rename_i rows hg
    rw [hg] at h1
    split at he
    · rename_i hall
      have he' := Option.some.inj he
      subst he'
      have hs : ∀ r ∈ rows, r.length = n := fun r hr => by simpa using List.all_eq_true.1 hall r hr
      have h2 := p_inv h1
      generalize hz : a.eval y = z at h2
      cases h2 with
      | nil b c => rw [← hz]; exact nil_case rfl ⟨b, c, hz⟩
      | sl _ b off cap s' hA hs' hl hc hat => rw [← hz]; exact some_case b off cap hz hat hs hl
    · cases he
  · rename_i t' o' s' len cap hg
    rw [hg] at h1
    split at he
    · rename_i m s2 rows hold
      split at he
      · rename_i hcond
        obtain ⟨rfl, rfl, hle⟩ := hcond
        cases he
        have ho := h.obj t'
        rw [hold] at ho
        obtain ⟨g0, gl, g⟩ := ho
        have hs : ∀ r ∈ (rows.drop o').take len, r.length = s2 := fun r hr => g0 r (List.mem_of_mem_drop (List.mem_of_mem_take hr))
        have hlen : ((rows.drop o').take len).length = len := by simp; omega
        have h2 := one_inv h1
        generalize hz : a.eval y = z at h2
        cases h2 with | c0 h2 => cases h2 with
          | mslN _ _ _ _ b hτ hc => rw [← hz]; exact nil_case (by simp) ⟨b, 0, hz⟩
          | msl _ _ _ _ b c _ hτ hc hl hr =>
            rcases g with ⟨g1, _⟩ | ⟨b', xs, e, g1, g2, g3, g4, g5⟩
            · rw [hτ] at g1; cases g1
            · rw [hτ] at g1; cases g1
              have hat : PAt A w ((rows.drop o').take len).flatten b (o' * s2) := by
                have e3 : ((rows.drop o').take len).flatten = (rows.flatten.drop (o' * s2)).take (len * s2) := by
                  rw [take_flat s2 (rows.drop o') (fun r hr => g0 r (List.mem_of_mem_drop hr)) len (by simp; omega), drop_flat s2 rows g0 o' (by omega)]
                rw [e3]
                simpa using g4.part (o' * s2) (len * s2)
              rw [← hz]
              rw [← hlen] at hz
              exact some_case b (o' * s2) c hz hat hs (by rw [hlen]; omega)
      · cases he
    · cases he
  · cases he
theorem firstCells_row {n len b c : Nat} {xs : Array Value} {e : TypeId} {fz : Nat × Nat} (hg : w.heap[b]? = some (.cells xs e fz)) (hle : len * n ≤ xs.size) :
    (Builtin.firstCells n len (.slice (some ⟨b, 0, none⟩) len c)).run P w = .ok ⟨xs.toList.take (len * n)⟩ w := by
  have := run_loadCellsFrom (P := P) (w := w) ⟨b, 0, none⟩ (xs.toList.take (len * n)) 0 #[] (fun j x hx => by
    have h2 := take_getElem hx
    rw [add_eq]
    simp only [World.cell?, hg]
    simpa using h2)
  rw [List.length_take, Nat.min_eq_left (by simpa using hle)] at this
  simpa [Builtin.firstCells, loadCells] using this
theorem SimAt.lay (h : SimAt G s a w A τ) {u n p b : Nat} {rows new : List (List PV)} {news : List Value} {xs : Array Value} {e' : TypeId} (hold : lo s.σ u = .arr true n rows) (hτ : τ u = some b)
    (g2 : w.heap[b]? = some (.cells xs e' (0, 0))) (hns : ∀ r ∈ new, r.length = n) (hn1 : All2 (PRel A w) new.flatten news) (hp : p ≤ rows.length) (hM : p + new.length ≤ MaxN)
    (hfit : (p + new.length) * n ≤ xs.size) :
    SimAt G { s with σ := (u, .arr true n (rows.take p ++ new ++ rows.drop (p + new.length))) :: s.σ } a (w.setRow b (xs.toList.take (p * n) ++ news ++ xs.toList.drop (p * n + new.length * n)).toArray) A τ := by
  have ho := h.obj u
  rw [hold] at ho
  obtain ⟨g0, gl, g⟩ := ho
  rcases g with ⟨g1, _⟩ | ⟨b', xs', e'', g1, g2', g3, g4, g5⟩
  · rw [hτ] at g1; cases g1
  rw [hτ] at g1; cases g1
  rw [g2] at g2'; cases g2'
  have hfl : rows.flatten.length = rows.length * n := flat_len g0
  have hnl2 : news.length = new.length * n := by rw [← hn1.length, flat_len hns]
  have hpn : p * n ≤ rows.length * n := Nat.mul_le_mul_right n hp
  have hfit2 : p * n + new.length * n ≤ xs.size := by rw [← Nat.add_mul]; exact hfit
  generalize hcs : (xs.toList.take (p * n) ++ news ++ xs.toList.drop (p * n + new.length * n)) = cs
  have hX : (xs.toList.take (p * n)).length = p * n := by rw [List.length_take]; exact Nat.min_eq_left (by simp; omega)
  have hcsl : cs.length = xs.size := by rw [← hcs]; simp only [List.length_append, hX, hnl2, List.length_drop, Array.length_toList]; omega
  have hw := setRow_step (cs := cs.toArray) g2 (by simpa using hcsl)
  have hst : Still A w (w.setRow b cs.toArray) := hw.still h.alt (fun k' hk e' => g5.2 (e' ▸ hk))
  refine h.write (by rw [hold]; rfl) hτ hw ⟨?_, ?_, .inr ⟨b, _, e', hτ, setRow_heap w b _ _ _ _ g2, ?_, ?_, g5⟩⟩
  · intro r hr
    rcases List.mem_append.1 hr with h5 | h5
    · rcases List.mem_append.1 h5 with h6 | h6
      · exact g0 r (List.mem_of_mem_take h6)
      · exact hns r h6
    · exact g0 r (List.mem_of_mem_drop h5)
  · simp only [List.length_append, List.length_take, List.length_drop]; omega
  · have e9 : (List.take p rows ++ new ++ List.drop (p + new.length) rows).length = max rows.length (p + new.length) := by
      simp only [List.length_append, List.length_take, List.length_drop]; omega
    rw [e9]
    simp only [List.size_toArray, hcsl]
    by_cases hc : rows.length ≤ p + new.length
    · rw [Nat.max_eq_right hc]; exact hfit
    · rw [Nat.max_eq_left (by omega)]; exact g3
  · simp only [List.flatten_append]
    have ed : (rows.drop (p + new.length)).flatten = rows.flatten.drop (p * n + new.length * n) := by
      by_cases hc : p + new.length ≤ rows.length
      · rw [drop_flat n rows g0 _ hc, Nat.add_mul]
      · rw [List.drop_of_length_le (by omega)]
        have : rows.length * n ≤ (p + new.length) * n := Nat.mul_le_mul_right n (by omega)
        rw [List.drop_of_length_le (by rw [hfl, ← Nat.add_mul]; exact this)]
        rfl
    rw [take_flat n rows g0 p hp, ed]
    have hT : (rows.flatten.take (p * n)).length = p * n := by rw [List.length_take, hfl]; exact Nat.min_eq_left hpn
    have hTn : new.flatten.length = new.length * n := flat_len hns
    refine PAt.of_get fun j pv hj => ?_
    have hcell : (w.setRow b cs.toArray).cell? ⟨b, 0 + j, none⟩ = cs[j]? := by
      rw [Nat.zero_add]; simp [World.cell?, setRow_heap w b _ _ _ _ g2]
    rw [hcell]
    have hcsj : ∀ q : Nat, cs[q]? = (xs.toList.take (p * n) ++ news ++ xs.toList.drop (p * n + new.length * n))[q]? := fun q => by rw [hcs]
    rw [hcsj]
    have old : ∀ (m : Nat) pv, rows.flatten[m]? = some pv → ∃ x, xs[m]? = some x ∧ PRel A (w.setRow b cs.toArray) pv x := by
      intro m pv hm
      obtain ⟨x, hx, hr'⟩ := g4.get m pv hm
      refine ⟨x, ?_, hr'.mono (fun _ hk => hk) hst⟩
      rw [Nat.zero_add] at hx
      simpa [World.cell?, g2] using hx
    by_cases c1 : j < p * n
    · rw [List.append_assoc, List.getElem?_append_left (by rw [hT]; exact c1)] at hj
      obtain ⟨x, hx, hr'⟩ := old j pv (take_getElem hj)
      refine ⟨x, ?_, hr'⟩
      rw [List.append_assoc, List.getElem?_append_left (by rw [hX]; exact c1), List.getElem?_take_of_lt c1]
      simpa using hx
    · by_cases c2 : j < p * n + new.length * n
      · rw [List.append_assoc, List.getElem?_append_right (by rw [hT]; omega), hT, List.getElem?_append_left (by rw [hTn]; omega)] at hj
        obtain ⟨x, hx, hr'⟩ := hn1.get _ pv hj
        refine ⟨x, ?_, hr'.mono (fun _ hk => hk) hst⟩
        rw [List.append_assoc, List.getElem?_append_right (by rw [hX]; omega), hX, List.getElem?_append_left (by rw [hnl2]; omega)]
        exact hx
      · rw [List.getElem?_append_right (by rw [List.length_append, hT, hTn]; omega), List.length_append, hT, hTn, List.getElem?_drop, show p * n + new.length * n + (j - (p * n + new.length * n)) = j from by omega] at hj
        obtain ⟨x, hx, hr'⟩ := old j pv hj
        refine ⟨x, ?_, hr'⟩
        rw [List.getElem?_append_right (by rw [List.length_append, hX, hnl2]; omega), List.length_append, hX, hnl2, List.getElem?_drop, show p * n + new.length * n + (j - (p * n + new.length * n)) = j from by omega]
        simpa using hx
theorem run_append_roomAt {t tx ty e : TypeId} {n : Nat} (ht : P.underlying t = some (.slice e)) (hn : szOf P e = some n) {b off len cap m : Nat} {x : Value} {news : List Value} (hs : Src P n tx x m news w)
    (hroom : len + m ≤ cap) {cur : Array Value} {e' : TypeId} (hg : w.heap[b]? = some (.cells cur e' (0, 0))) (hfit : off + (len + m) * n ≤ cur.size) :
    (Builtin.append_ #[t, tx] ty #[.slice (some ⟨b, off, none⟩) len cap, x]).run P w =
      .ok (.slice (some ⟨b, off, none⟩) (len + m) cap) (w.setRow b ⟨cur.toList.take (off + len * n) ++ news ++ cur.toList.drop (off + len * n + m * n)⟩) := by
  have hnl := hs.newsLen
  have hst := run_storeCells_at P b (off + len * n) e' news 0 cur w hg (by rw [hnl, Nat.add_mul] at *; omega) hs.one
  simp only [Nat.add_zero, hnl] at hst
  rcases hs.kind with ⟨e'', hk⟩ | hk <;> simp [Builtin.append_, run_und ht, run_und hk, run_sz hn, hs.len, hroom, hs.cells, add_eq, hst]
theorem firstCells_at {n o len b c : Nat} {xs : Array Value} {e : TypeId} {fz : Nat × Nat} (hg : w.heap[b]? = some (.cells xs e fz)) (hle : o * n + len * n ≤ xs.size) :
    (Builtin.firstCells n len (.slice (some ⟨b, o * n, none⟩) len c)).run P w = .ok ⟨(xs.toList.drop (o * n)).take (len * n)⟩ w := by
  have := run_loadCellsFrom (P := P) (w := w) ⟨b, o * n, none⟩ ((xs.toList.drop (o * n)).take (len * n)) 0 #[] (fun j x hx => by
    have h2 := take_getElem hx
    rw [List.getElem?_drop] at h2
    rw [add_eq]
    simp only [World.cell?, hg]
    simpa using h2)
  rw [List.length_take, Nat.min_eq_left (by simp; omega)] at this
  simpa [Builtin.firstCells, loadCells] using this
theorem app_run {dst : Option Tmp} {args : Array Operand} {argTypes : Array TypeId} {x y : Operand} {t t2 : TypeId} {type : TypeId} {pos : String} {after : Array Edge} {guard : Option (Nat × Bool)}
    (ha : args.toList = [x, y]) (ht : argTypes.toList = [t, t2]) {v : Value} {w' : World} (hr : (Builtin.append_ #[t, t2] type #[a.eval x, a.eval y]).run P w = .ok v w') :
    (execOp a.eval ⟨dst, .call ⟨.builtin .append, args, argTypes⟩, type, pos, after, guard⟩).run P w = .ok (.value v) w' := by
  have h1 : args = #[x, y] := by apply Array.ext'; simpa using ha
  have h2 : argTypes = #[t, t2] := by apply Array.ext'; simpa using ht
  subst h1 h2
  simp [execOp, resolve, invoke, builtin, hr]
theorem drew_step (w : World) : WStep (fun _ => False) w w.drew := WStep.drew w (w.drawn + 1)
structure AppSrc (P : Program) (e : TypeId) (n : Nat) (i0 : TypeInfo) (z0 : Value) (t2 : TypeId) (x : Value) (m : Nat) (news : List Value) (w : World) : Prop where
  newsLen : news.length = m * n
  zero : ∀ {t ty : TypeId}, P.underlying t = some (.slice e) → m = 0 → ∀ b : Option Addr, (Builtin.append_ #[t, t2] ty #[.slice b 0 0, x]).run P w = .ok (.slice b 0 0) w
  roomAt : ∀ {t ty : TypeId}, P.underlying t = some (.slice e) → ∀ {b off len cap : Nat}, len + m ≤ cap → ∀ {cur : Array Value} {e' : TypeId}, w.heap[b]? = some (.cells cur e' (0, 0)) → off + (len + m) * n ≤ cur.size →
    (Builtin.append_ #[t, t2] ty #[.slice (some ⟨b, off, none⟩) len cap, x]).run P w =
      .ok (.slice (some ⟨b, off, none⟩) (len + m) cap) (w.setRow b ⟨cur.toList.take (off + len * n) ++ news ++ cur.toList.drop (off + len * n + m * n)⟩)
  grow : ∀ {t ty : TypeId}, P.underlying t = some (.slice e) → ∀ (base : Option Addr) (sLen sCap : Nat) (olds : List Value), (Builtin.firstCells n sLen (.slice base sLen sCap)).run P w.drew = .ok olds.toArray w.drew →
    sCap < sLen + m → ((sLen + m : Nat) : Int) ≤ 9223372036854775807 → Builtin.nextslicecap (sLen + m) sCap * i0.bytes ≤ 281474976710656 →
    (Builtin.append_ #[t, t2] ty #[.slice base sLen sCap, x]).run P w =
      .ok (.slice (some ⟨w.heap.size, 0, none⟩) (sLen + m) (grownCap w (sLen + m) sCap e))
        (w.drew.alloc (.cells ((olds ++ news).toArray ++ Builtin.zeroCells z0.cells (grownCap w (sLen + m) sCap e - (sLen + m))) e))
theorem AppSrc.room {e : TypeId} {n : Nat} {i0 : TypeInfo} {z0 : Value} {t2 : TypeId} {x : Value} {m : Nat} {news : List Value} (h : AppSrc P e n i0 z0 t2 x m news w) {t ty : TypeId} (ht : P.underlying t = some (.slice e))
    {b len cap : Nat} (hroom : len + m ≤ cap) {cur : Array Value} {e' : TypeId} (hg : w.heap[b]? = some (.cells cur e' (0, 0))) (hfit : (len + m) * n ≤ cur.size) :
    (Builtin.append_ #[t, t2] ty #[.slice (some ⟨b, 0, none⟩) len cap, x]).run P w =
      .ok (.slice (some ⟨b, 0, none⟩) (len + m) cap) (w.setRow b ⟨cur.toList.take (len * n) ++ news ++ cur.toList.drop (len * n + m * n)⟩) := by
  have := h.roomAt (ty := ty) ht (off := 0) hroom hg (by rw [Nat.zero_add]; exact hfit)
  simpa only [Nat.zero_add] using this
theorem AppSrc.ofSrc {e : TypeId} {n : Nat} {i0 : TypeInfo} {z0 : Value} (hn : szOf P e = some n) (hi : P.info? e = some i0) (hz : i0.zero = some z0) {t2 : TypeId} {x : Value} {m : Nat} {news : List Value} (hs : Src P n t2 x m news w) :
    AppSrc P e n i0 z0 t2 x m news w := by
  have hi0s : i0.size = n := by have := hn; simp [szOf, hi] at this; exact this
  refine ⟨hs.newsLen, fun {t ty} hu h0 b => ?_, fun {t ty} hu {b off len cap} hroom {cur e'} hg hfit => run_append_roomAt hu hn hs hroom hg hfit, fun {t ty} hu base sLen sCap olds hold h1 h2 h3 => ?_⟩
  · subst h0
    have hl := hs.len w
    have hcl := hs.cells
    have hcl0 : news = [] := List.length_eq_zero_iff.1 (by simpa using hs.newsLen)
    subst hcl0
    rcases hs.kind with ⟨e'', hk⟩ | hk <;> cases b <;> simp [Builtin.append_, run_und hu, run_und hk, run_sz hn, hl, hcl, storeCells]
  · exact run_append_grow_src (P := P) w t t2 ty e i0 z0 hu hi hz base sLen sCap olds (by rw [hi0s]; exact hold) x m news (by rw [hi0s]; exact hs) h1 h2 h3
theorem AppSrc.ofInt {e : TypeId} {i0 : TypeInfo} {z0 : Value} (hn : szOf P e = some 1) (hi : P.info? e = some i0) (hz : i0.zero = some z0) (hzs : z0.cells.size = 1) (hb : i0.bytes ≤ 2 ^ 20) {t2 : TypeId} (hk : P.underlying t2 = some (.int .i64))
    {k : Int} (h0 : 0 ≤ k) (h1 : k ≤ 1000000) (hc1 : ∀ u ∈ z0.cells.toList, cell1 u = true) :
    AppSrc P e 1 i0 z0 t2 (.int .i64 k) k.toNat (List.replicate k.toNat z0.cells.toList).flatten w := by
  obtain ⟨m, rfl⟩ : ∃ m : Nat, k = m := ⟨k.toNat, by omega⟩
  simp only [Int.toNat_natCast]
  have hwr : IntKind.i64.wrap (m : Int) = m := wrap_small (by omega) (by omega)
  have hzl : z0.cells.toList.length = 1 := by simpa using hzs
  have hnews : (List.replicate m z0.cells.toList).flatten.length = m * 1 := by
    simp [hzs]
  have hzc : (Builtin.zeroCells z0.cells m).toList = (List.replicate m z0.cells.toList).flatten := by
    have := range_rep z0.cells.toList m
    simp only [Builtin.zeroCells]
    simp only [Array.toArray_toList, Array.length_toList] at this
    rw [this]
  have hzc2 : Builtin.zeroCells z0.cells m = (List.replicate m z0.cells.toList).flatten.toArray := by
    apply Array.ext'; rw [hzc]
  have hzrun : ∀ w' : World, (zeroValue e).run P w' = .ok z0 w' := fun w' => by simp [zeroValue, run_ti hi, hz]
  have hbig : ¬ (281474976710656 < (m : Int) * (i0.bytes : Int)) := by
    have h2 : m * i0.bytes ≤ 1000000 * 2 ^ 20 := Nat.mul_le_mul (by omega) hb
    have h3 : (m : Int) * (i0.bytes : Int) = ((m * i0.bytes : Nat) : Int) := by simp
    rw [h3]; omega
  have hneg : ¬ ((m : Int) < 0) := by omega
  have hw0 : IntKind.i64.wrap 0 = 0 := wrap_small (by omega) (by omega)
  refine ⟨hnews, fun {t ty} hu hm b => ?_, fun {t ty} hu {b off len cap} hroom {cur e'} hg hfit => ?_, fun {t ty} hu base sLen sCap olds hold h1 h2 h3 => ?_⟩
  · subst hm
    cases b <;> simp [Builtin.append_, run_und hu, run_und hk, run_sz hn, asInt, asIntOf, run_ti hi, hwr, hw0, storeCells]
  · have hst := run_storeCells_at P b (off + len * 1) e' (List.replicate m z0.cells.toList).flatten 0 cur w hg (by rw [hnews, Nat.add_mul] at *; omega) (fun q hq => by
      have hc2 : cell1 q = true := by
        obtain ⟨l, hl, hq⟩ := List.mem_flatten.1 hq
        rw [(List.mem_replicate.1 hl).2] at hq
        exact hc1 q hq
      cases q <;> first | rfl | (simp [cell1] at hc2))
    simp only [Nat.add_zero, hnews, Nat.mul_one] at hst
    by_cases hm : m = 0
    · subst hm
      simp only [Nat.add_zero] at hroom
      simp at hst
      simp [Builtin.append_, run_und hu, run_und hk, run_sz hn, asInt, asIntOf, run_ti hi, hwr, hw0, hroom, add_eq, hst]
    · simp [Builtin.append_, run_und hu, run_und hk, run_sz hn, asInt, asIntOf, run_ti hi, hwr, hw0, hroom, hbig, hneg, hm, hzrun, hzc2, add_eq, hst]
  · have hn' : ¬ (sLen + m ≤ sCap) := by omega
    have h63' : ¬ (9223372036854775807 < ((sLen : Int) + (m : Int))) := by omega
    have h48' : ¬ (281474976710656 < Builtin.nextslicecap (sLen + m) sCap * i0.bytes) := by omega
    by_cases hm : m = 0
    · subst hm
      have hn2 : ¬ sLen ≤ sCap := hn'
      have h632 : ¬ 9223372036854775807 < (sLen : Int) := by omega
      have h482 : ¬ 281474976710656 < Builtin.nextslicecap sLen sCap * i0.bytes := h48'
      simp [Builtin.append_, run_und hu, run_und hk, run_sz hn, asInt, asIntOf, run_ti hi, hwr, hw0, hn2, h632, h482, Question.forced, hzrun, hold, newRow, grownCap]
    · simp [Builtin.append_, run_und hu, run_und hk, run_sz hn, asInt, asIntOf, run_ti hi, hwr, hw0, hn', h63', h48', hbig, hneg, hm, hzrun, hzc2, Question.forced, hold, newRow, grownCap]
      congr 2
      apply Array.ext'
      simp [List.append_assoc]
theorem src_int {n by_ : Nat} {e t2 : TypeId} {i0 : TypeInfo} {z0 : Value} (hn : szOf P e = some n) (hi : P.info? e = some i0) (hz : i0.zero = some z0) (hb : i0.bytes ≤ 2 ^ 20) (hk : P.underlying t2 = some (.int .i64))
    {z : List PV} (hzp : zeroP P e = some z) (hzz : isZ64 z = true) (hby : 1073741824 ≤ by_)
    {y : Operand} {y' : Opd} (hy : opd y = some y') {new : List (List PV)} (h : SimAt G s a w A τ) (he : srcZ n by_ s.env s.σ y' = some new) :
    ∃ news, All2 (PRel A w) new.flatten news ∧ AppSrc P e n i0 z0 t2 (a.eval y) new.length news w ∧ (∀ r ∈ new, r.length = n) ∧ new.length ≤ MaxN := by
  have h1 := opd_sound h hy
  unfold srcZ at he
  rw [if_neg (by omega)] at he
  split at he
  · rename_i m hg
    rw [hg] at h1
    split at he
    · rename_i hc
      obtain ⟨rfl, h0, hm⟩ := hc
      cases he
      have e1 : a.eval y = .int .i64 m := by
        generalize hq : a.eval y = q at h1
        have := p_inv h1
        cases this; rfl
      rw [e1]
      have hzz' : z = [.int .i64 0] := by
        unfold isZ64 at hzz
        split at hzz
        · have := eq_of_beq hzz; subst this; rfl
        · cases hzz
      subst hzz'
      obtain ⟨zv, ⟨i, hi', hz'⟩, hrel⟩ := zeroP_sound' (P := P) hzp
      rw [hi] at hi'; cases hi'
      rw [hz] at hz'; cases hz'
      obtain ⟨_, hrel⟩ := hrel w w A
      have hl : z0.cells.size = 1 := by have := hrel.length; simpa using this.symm
      refine ⟨_, rep_flat hrel m.toNat, ?_, ?_, ?_⟩
      · rw [List.length_replicate]
        exact AppSrc.ofInt hn hi hz hl hb hk h0 hm (prels_cell1 hrel)
      · intro r hr; rw [(List.mem_replicate.1 hr).2]; rfl
      · rw [List.length_replicate]; simp only [MaxN]; omega
    · cases he
  · cases he
theorem app_sound {dst : Option Tmp} {args : Array Operand} {argTypes : Array TypeId} {x y : Operand} {t t2 e : TypeId} {type : TypeId} {pos : String} {after : Array Edge} {guard : Option (Nat × Bool)}
    (ha : args.toList = [x, y]) (ht : argTypes.toList = [t, t2]) (hu : P.underlying t = some (.slice e)) {n : Nat} {i0 : TypeInfo} {z0 : Value}
    (hzs : z0.cells.size = n) {by_ : Nat} (hb1 : i0.bytes ≤ by_) (hn0 : n ≠ 0) {x' y' : Opd} (hx : opd x = some x')
    {d u : Nat} {ob : AO} {v : AV} {k : Nat} (h : SimAt G s a w A τ)
    (hyy : ∀ new, srcZ n by_ s.env s.σ y' = some new → ∃ news, All2 (PRel A w) new.flatten news ∧ AppSrc P e n i0 z0 t2 (a.eval y) new.length news w ∧ (∀ r ∈ new, r.length = n) ∧ new.length ≤ MaxN)
    (he : evS (.app n by_ x' y') s.env s.σ d = some (u, ob, v, k)) (hd : k = 1 → s.Nr d ∧ lo s.σ d = .none) :
    Turns P G a w A ⟨dst, .call ⟨.builtin .append, args, argTypes⟩, type, pos, after, guard⟩ v (newSt k u ob s) := by
  have h1 := opd_sound h hx
  simp only [evS] at he
  split at he
  rotate_left
  · cases he
  rename_i new hnew
  obtain ⟨news, hn1, hsrc, hns, hnl⟩ := hyy new hnew
  have hle0 : ∀ q : Nat, q * by_ ≤ 2 ^ 40 → q * i0.bytes ≤ 2 ^ 40 := fun q hq => Nat.le_trans (Nat.mul_le_mul_left q hb1) hq
  have hMax : MaxN = 2 ^ 47 := rfl
  -- a new row behind a draw
  have grow : ∀ (base : Option Addr) (sLen sCap : Nat) (olds : List Value) (rows : List (List PV)), a.eval x = .slice base sLen sCap → (Builtin.firstCells n sLen (.slice base sLen sCap)).run P w.drew = .ok olds.toArray w.drew →
      All2 (PRel A w) rows.flatten olds → (∀ r ∈ rows, r.length = n) → rows.length = sLen → sCap < sLen + new.length → (sLen + new.length) * i0.bytes ≤ 2 ^ 40 → sLen + new.length ≤ 2 ^ 40 →
      ∀ (s1 : AS) (u : Nat), SimAt G s1 a w A τ → s1.Nr u → lo s1.σ u = .none →
      ∃ v w', (Builtin.append_ #[t, t2] type #[a.eval x, a.eval y]).run P w = .ok v w' ∧ VRel A (tauP τ u w.heap.size) w' (.one (.msl u 0 n (sLen + new.length) none)) v ∧
        SimAt G { s1 with σ := (u, .arr true n (rows ++ new)) :: s1.σ } a w' A (tauP τ u w.heap.size) := by
    intro base sLen sCap olds rows e1 hold hor hrs hrl hlt hby hct s1 u hs1 hnr hno
    have hfit : Builtin.nextslicecap (sLen + new.length) sCap * i0.bytes ≤ 281474976710656 := by
      have h5 := nextslicecap_le (need := sLen + new.length) (old := sCap) hlt
      have h6 : Builtin.nextslicecap (sLen + new.length) sCap * i0.bytes ≤ 2 * (sLen + new.length) * i0.bytes := Nat.mul_le_mul_right _ h5
      have h7 : 2 * (sLen + new.length) * i0.bytes = 2 * ((sLen + new.length) * i0.bytes) := by rw [Nat.mul_assoc]
      omega
    have hrun := hsrc.grow (ty := type) hu base sLen sCap olds hold hlt (by omega) hfit
    have hcapge := grownCap_ge w (sLen + new.length) sCap e
    generalize hcap : grownCap w (sLen + new.length) sCap e = cap at hrun hcapge
    generalize hcs : (olds ++ news).toArray ++ Builtin.zeroCells z0.cells (cap - (sLen + new.length)) = cs at hrun
    have hol : olds.length = sLen * n := by rw [← hor.length, flat_len hrs, hrl]
    have hnl2 : news.length = new.length * n := hsrc.newsLen
    have hsz : cs.size = cap * n := by
      subst hcs
      simp only [Array.size_append, List.size_toArray, List.length_append, size_zeroCells, hzs, hol, hnl2, ← Nat.add_mul]
      congr 1; omega
    refine ⟨_, _, by rw [e1]; exact hrun, ?_, ?_⟩
    · have := C0.msl (A := A) (τ := tauP τ u w.heap.size) (w := w.drew.alloc (.cells cs e)) u 0 n (sLen + new.length) w.heap.size cap none (tauP_same _ _ _) (fun q hq => by cases hq) hcapge
        ⟨cs, e, wpush_new w.drew _, by rw [hsz, Nat.zero_add]; exact Nat.le_refl _, fun _ => by rw [hsz, Nat.zero_add]⟩
      simpa using VRel.v1 (V1.one (CRel.c0 this))
    · have hs2 : SimAt G s1 a w.drew A τ := hs1.world (drew_step w) (fun _ hb => hb) (fun _ hb => .inl hb) (fun _ hf => hf.elim) (fun _ _ _ _ hf => hf) (drew_step w).dfr0
      have hst : Still A w (w.drew.alloc (.cells cs e)) := fun b hb => by
        have hlt := h.alt b hb
        show (w.heap.push _)[b]? = _
        rw [Array.getElem?_push, if_neg (by omega)]
      refine hs2.new hnr hno (.cells cs e) (o := .arr true n (rows ++ new)) ?_
      refine orel_arr (w := w.drew) hs2 (by simp; omega) (fun r hr => ?_) ?_ ?_
      · rcases List.mem_append.1 hr with h5 | h5
        · exact hrs r h5
        · exact hns r h5
      · have hlist : cs.toList.take ((rows ++ new).length * n) = olds ++ news := by
          subst hcs
          simp only [Array.toList_append, List.length_append, hrl]
          rw [List.take_append_of_le_length (by simp [hol, hnl2, ← Nat.add_mul])]
          exact List.take_of_length_le (by simp [hol, hnl2, ← Nat.add_mul])
        rw [hlist, List.flatten_append]
        exact (hor.append hn1).mono fun _ _ hr => hr.mono (fun _ hb => hb) hst
      · rw [hsz, List.length_append, hrl]; exact Nat.mul_le_mul_right n hcapge
  split at he
  · -- onto nil
    rename_i hg
    rw [hg] at h1
    split at he
    · rename_i hcond
      cases he
      obtain ⟨hd1, hd2⟩ := hd rfl
      have e1 : a.eval x = .slice none 0 0 := by
        generalize hz : a.eval x = z at h1
        cases one_inv h1 with | c0 h2 => cases h2; rfl
      simp only [newSt, show ¬ ((1 : Nat) = 2) from by decide, if_false]
      by_cases h0 : new.length = 0
      · have hnew0 : new = [] := List.length_eq_zero_iff.1 h0
        subst hnew0
        refine ⟨.value (.slice none 0 0), w, fun t => if t = d then none else τ t, app_run ha ht ?_, .inr ⟨_, rfl, ?_⟩, h.newNone hd1 hd2 true n⟩
        · rw [e1]; exact hsrc.zero hu rfl none
        · exact .v1 (.one (.c0 (.mslN d 0 n none none (if_pos rfl) (fun q hq => by cases hq))))
      · obtain ⟨v', w', hr, hv, hs⟩ := grow none 0 0 [] [] e1 (by simp [Builtin.firstCells]) .nil (fun r hr => by simp at hr) rfl (by omega) (by simpa using hle0 _ hcond.1) (by simpa using hcond.2) s d h hd1 hd2
        exact ⟨_, w', _, app_run ha ht hr, .inr ⟨_, rfl, by simpa using hv⟩, by simpa using hs⟩
    · cases he
  · rename_i t' o' s' len cap hg
    rw [hg] at h1
    split at he
    · rename_i mu s2 rows hold
      split at he
      · rename_i hcond
        obtain ⟨rfl, rfl⟩ := hcond
        split at he
        · rename_i hA
          obtain ⟨rfl, rfl, hlen⟩ := hA
          split at he
          · rename_i hB
            obtain ⟨rfl, hby, hct⟩ := hB
            cases he
            simp only [newSt, if_true]
            have hsc := h.scr u
            have ho := h.obj u
            rw [hold] at ho
            obtain ⟨g0, gl, g⟩ := ho
            have hdrop := hsc.drop u
            have hnr : AS.nr u { s.scr u with σ := (u, .none) :: (s.scr u).σ } = true := by
              have := scr_nr u s
              simp only [AS.nr, Bool.and_eq_true, List.all_cons] at this ⊢
              exact ⟨⟨this.1.1, by simp [AO.nr], this.1.2⟩, this.2⟩
            have hnr := AS.nr_Nr hnr
            have hno : lo ((u, AO.none) :: (s.scr u).σ) u = .none := by simp [lo]
            have fix : ∀ {w' : World} {τ' : Tau} {o : AO}, SimAt G { s.scr u with σ := (u, o) :: (u, .none) :: (s.scr u).σ } a w' A τ' → SimAt G { s.scr u with σ := (u, o) :: (s.scr u).σ } a w' A τ' :=
              fun hh => hh.congr (fun _ => rfl) (fun q => by simp only [lo_put]; split <;> rfl) rfl
            have h2 := one_inv h1
            generalize hz2 : a.eval x = z at h2
            cases h2 with | c0 h2 => cases h2 with
              | mslN _ _ _ _ b hτ hc =>
                have hrows : rows = [] := List.length_eq_zero_iff.1 hlen.symm
                subst hrows
                by_cases h0 : new.length = 0
                · have hnew0 : new = [] := List.length_eq_zero_iff.1 h0
                  subst hnew0
                  refine ⟨.value (.slice b 0 0), w, fun t => if t = u then none else τ t, app_run ha ht ?_, .inr ⟨_, rfl, .v1 (.one (.c0 (.mslN u 0 s2 none b (if_pos rfl) (fun q hq => by cases hq))))⟩, fix (hdrop.newNone hnr hno true s2)⟩
                  rw [hz2]; exact hsrc.zero hu rfl b
                · obtain ⟨v', w', hr, hv, hs⟩ := grow b 0 0 [] [] hz2 (by cases b <;> simp [Builtin.firstCells, loadCells, loadCellsFrom]) .nil (fun r hr => by simp at hr) rfl (by omega) (by simpa using hle0 _ hby) (by simpa using hct) _ u hdrop hnr hno
                  exact ⟨_, w', _, app_run ha ht hr, .inr ⟨_, rfl, by simpa using hv⟩, fix (by simpa using hs)⟩
              | msl _ _ _ _ b c _ hτ hc hl hr =>
                rcases g with ⟨g1, _⟩ | ⟨b', xs, e', g1, g2, g3, g4, g5⟩
                · rw [hτ] at g1; cases g1
                rw [hτ] at g1; cases g1
                rw [Nat.zero_mul] at hz2
                obtain ⟨cs0, e0, hr1, hr2, hr3⟩ := hr
                rw [g2] at hr1; cases hr1
                rw [Nat.zero_add] at hr2 hr3
                have hfl : rows.flatten.length = rows.length * s2 := flat_len g0
                have hnl2 : news.length = new.length * s2 := hsrc.newsLen
                by_cases hroom : len + new.length ≤ c
                · have hfit : (len + new.length) * s2 ≤ xs.size := Nat.le_trans (Nat.mul_le_mul_right s2 hroom) hr2
                  have hrun := hsrc.room (ty := type) hu hroom g2 hfit
                  rw [← hz2] at hrun
                  have hsizes : len * s2 + new.length * s2 ≤ xs.size := by rw [← Nat.add_mul]; exact hfit
                  have hw := setRow_step (cs := ⟨xs.toList.take (len * s2) ++ news ++ xs.toList.drop (len * s2 + new.length * s2)⟩) g2 (by simp [hnl2]; omega)
                  have hst : Still A w (w.setRow b ⟨xs.toList.take (len * s2) ++ news ++ xs.toList.drop (len * s2 + new.length * s2)⟩) := hw.still h.alt (fun k' hk e' => g5.2 (e' ▸ hk))
                  refine ⟨_, _, τ, app_run ha ht hrun, .inr ⟨_, rfl, ?_⟩, ?_⟩
                  · have := C0.msl (A := A) (τ := τ) (w := w.setRow b ⟨xs.toList.take (len * s2) ++ news ++ xs.toList.drop (len * s2 + new.length * s2)⟩) u 0 s2 (len + new.length) b c none hτ (fun q hq => by cases hq) hroom
                      ⟨_, e', setRow_heap w b _ _ _ _ g2, by simp [hnl2]; omega, fun _ => by have := hr3 rfl; simp [hnl2]; omega⟩
                    simpa using VRel.v1 (V1.one (CRel.c0 this))
                  · have hmu : (lo (s.scr u).σ u).mu = true := by
                      simp only [AS.scr, lo_map _ (show AO.scr u .none = .none from rfl), hold]; rfl
                    refine hsc.write hmu hτ hw ⟨fun r hr => ?_, by simp; omega, .inr ⟨b, _, e', hτ, setRow_heap w b _ _ _ _ g2, by simp [hnl2, ← hlen, Nat.add_mul]; omega, ?_, g5⟩⟩
                    · rcases List.mem_append.1 hr with h5 | h5
                      · exact g0 r h5
                      · exact hns r h5
                    · rw [List.flatten_append]
                      have hcellof : ∀ j : Nat, (w.setRow b ⟨xs.toList.take (len * s2) ++ news ++ xs.toList.drop (len * s2 + new.length * s2)⟩).cell? ⟨b, 0 + j, none⟩ = (xs.toList.take (len * s2) ++ news ++ xs.toList.drop (len * s2 + new.length * s2))[j]? := by
                        intro j
                        rw [Nat.zero_add]; simp [World.cell?, setRow_heap w b _ _ _ _ g2]
                      have hX : (xs.toList.take (len * s2)).length = len * s2 := by rw [List.length_take]; exact Nat.min_eq_left (by simp; omega)
                      refine PAt.of_get fun j pv hj => ?_
                      rw [hcellof]
                      by_cases c1 : j < len * s2
                      · rw [List.getElem?_append_left (by rw [hfl, ← hlen]; exact c1)] at hj
                        obtain ⟨x, hx, hr'⟩ := g4.get j pv hj
                        refine ⟨x, ?_, hr'.mono (fun _ hk => hk) hst⟩
                        rw [List.append_assoc, List.getElem?_append_left (by rw [hX]; exact c1), List.getElem?_take_of_lt c1]
                        rw [Nat.zero_add] at hx
                        simpa [World.cell?, g2] using hx
                      · rw [List.getElem?_append_right (by rw [hfl, ← hlen]; omega), hfl, ← hlen] at hj
                        obtain ⟨x, hx, hr'⟩ := hn1.get _ pv hj
                        refine ⟨x, ?_, hr'.mono (fun _ hk => hk) hst⟩
                        have hlt : j - len * s2 < news.length := (List.getElem?_eq_some_iff.1 hx).1
                        rw [List.append_assoc, List.getElem?_append_right (by rw [hX]; omega), hX, List.getElem?_append_left hlt]
                        exact hx
                · obtain ⟨olds, ho1, ho2⟩ := g4.cells
                  have hol : olds = xs.toList.take (len * s2) := by
                    apply List.ext_getElem?
                    intro j
                    have hl1 : olds.length = len * s2 := by rw [← ho1.length, hfl, hlen]
                    by_cases hj : j < len * s2
                    · have hj2 : j < olds.length := by omega
                      have := ho2 j olds[j] (List.getElem?_eq_getElem hj2)
                      rw [List.getElem?_eq_getElem hj2, List.getElem?_take_of_lt hj, ← this]
                      simp [World.cell?, g2]
                    · rw [List.getElem?_eq_none (by omega), List.getElem?_eq_none (by rw [List.length_take]; omega)]
                  have hfc : (Builtin.firstCells s2 len (.slice (some ⟨b, 0, none⟩) len c)).run P w.drew = .ok olds.toArray w.drew := by
                    rw [hol]
                    exact firstCells_row (w := w.drew) g2 (by rw [hlen]; exact g3)
                  obtain ⟨v', w', hr, hv, hs⟩ := grow (some ⟨b, 0, none⟩) len c olds rows hz2 hfc ho1 g0 hlen.symm (by omega) (hle0 _ hby) hct _ u hdrop hnr hno
                  exact ⟨_, w', _, app_run ha ht hr, .inr ⟨_, rfl, hv⟩, fix hs⟩
          · cases he
        · split at he
          · rename_i hle
            have h2 := one_inv h1
            have ho := h.obj t'
            rw [hold] at ho
            obtain ⟨g0, gl, g⟩ := ho
            split at he
            · rename_i hroom0
              split at he
              · rename_i hB
                obtain ⟨rfl, hM⟩ := hB
                cases he
                simp only [newSt, show ¬ ((0 : Nat) = 2) from by decide, if_false]
                have ex : ∃ base c, a.eval x = .slice base len c := by
                  generalize hz : a.eval x = z at h2
                  cases h2 with | c0 h3 => cases h3 with
                    | mslN => exact ⟨_, _, rfl⟩
                    | msl => exact ⟨_, _, rfl⟩
                obtain ⟨base, c, ex⟩ := ex
                rw [ex] at h2
                have hroom1 := room_le h h2
                cases h2 with | c0 h2 => cases h2 with
                  | mslN _ _ _ _ b hτ hc =>
                    have hrows : rows = [] := by
                      rcases g with ⟨_, g⟩ | ⟨b', xs, e', g1, _⟩
                      · exact g
                      · rw [hτ] at g1; cases g1
                    subst hrows
                    have h0 : new = [] := List.length_eq_zero_iff.1 (by omega)
                    subst h0
                    refine ⟨.value (.slice base 0 0), w, τ, app_run ha ht ?_, .inr ⟨_, rfl, .v1 (.one (.c0 (.mslN u o' s2 cap base hτ hc)))⟩, ?_⟩
                    · rw [ex]; exact hsrc.zero hu rfl base
                    · refine h.congr (fun _ => rfl) (fun q => ?_) rfl
                      simp only [lo_put]
                      split
                      · rename_i hq; subst hq; rw [hold]; simp
                      · rfl
                  | msl _ _ _ _ b _ _ hτ hc hl hr =>
                    rcases g with ⟨g1, _⟩ | ⟨b', xs, e', g1, g2, g3, g4, g5⟩
                    · rw [hτ] at g1; cases g1
                    rw [hτ] at g1; cases g1
                    obtain ⟨cs0, e0, hr1, hr2, hr3⟩ := hr
                    rw [g2] at hr1; cases hr1
                    have hfit : (o' + len + new.length) * s2 ≤ xs.size := Nat.le_trans (Nat.mul_le_mul_right s2 (by omega)) hr2
                    have hrun := hsrc.roomAt (ty := type) hu (off := o' * s2) (len := len) (cap := c) (by omega) g2 (by rw [← Nat.add_mul, ← Nat.add_assoc]; exact hfit)
                    rw [← ex, ← Nat.add_mul] at hrun
                    have hnl2 : news.length = new.length * s2 := hsrc.newsLen
                    have key := h.lay (p := o' + len) hold hτ g2 hns hn1 hle hM hfit
                    refine ⟨_, _, τ, app_run ha ht hrun, .inr ⟨_, rfl, ?_⟩, key⟩
                    have hsz : ((xs.toList.take ((o' + len) * s2) ++ news ++ xs.toList.drop ((o' + len) * s2 + new.length * s2)).toArray).size = xs.size := by
                      have : (o' + len) * s2 + new.length * s2 ≤ xs.size := by rw [← Nat.add_mul]; exact hfit
                      simp [hnl2]; omega
                    exact .v1 (.one (.c0 (.msl u o' s2 (len + new.length) b c cap hτ hc (by omega)
                      ⟨_, e', setRow_heap w b _ _ _ _ g2, by rw [hsz]; exact hr2, fun hq => by rw [hsz]; exact hr3 hq⟩)))
              · cases he
            · rename_i hroom0
              split at he
              · split at he
                · rename_i hB
                  obtain ⟨hby, hct⟩ := hB
                  cases he
                  obtain ⟨hd1, hd2⟩ := hd rfl
                  simp only [newSt, show ¬ ((1 : Nat) = 2) from by decide, if_false]
                  simp only [roomOf] at hroom0
                  have g0' : ∀ r ∈ (rows.drop o').take len, r.length = s2 := fun r hr => g0 r (List.mem_of_mem_drop (List.mem_of_mem_take hr))
                  have hrl : ((rows.drop o').take len).length = len := by simp; omega
                  generalize hz : a.eval x = z at h2
                  cases h2 with | c0 h2 => cases h2 with
                    | mslN _ _ _ _ b hτ hc =>
                      have := hc _ rfl
                      subst this
                      have e0 : (rows.drop o').take 0 = [] := by simp
                      rw [e0]
                      obtain ⟨v', w', hr, hv, hs⟩ := grow b 0 0 [] [] hz (by cases b <;> simp [Builtin.firstCells, loadCells, loadCellsFrom]) .nil (fun r hr => by simp at hr) rfl (by omega) (hle0 _ hby) hct s d h hd1 hd2
                      exact ⟨_, w', _, app_run ha ht hr, .inr ⟨_, rfl, hv⟩, hs⟩
                    | msl _ _ _ _ b c _ hτ hc hl hr =>
                      have := hc _ rfl
                      subst this
                      rcases g with ⟨g1, _⟩ | ⟨b', xs, e', g1, g2, g3, g4, g5⟩
                      · rw [hτ] at g1; cases g1
                      rw [hτ] at g1; cases g1
                      have hsz : o' * s2 + len * s2 ≤ xs.size := by
                        rw [← Nat.add_mul]; exact Nat.le_trans (Nat.mul_le_mul_right s2 hle) g3
                      have hat : PAt A w ((rows.drop o').take len).flatten b (o' * s2) := by
                        have e3 : ((rows.drop o').take len).flatten = (rows.flatten.drop (o' * s2)).take (len * s2) := by
                          rw [take_flat s2 (rows.drop o') (fun r hr => g0 r (List.mem_of_mem_drop hr)) len (by simp; omega), drop_flat s2 rows g0 o' (by omega)]
                        rw [e3]
                        simpa using g4.part (o' * s2) (len * s2)
                      obtain ⟨olds, ho1, ho2⟩ := hat.cells
                      have hol : olds = (xs.toList.drop (o' * s2)).take (len * s2) := by
                        apply List.ext_getElem?
                        intro j
                        have hl1 : olds.length = len * s2 := by rw [← ho1.length, flat_len g0', hrl]
                        by_cases hj : j < len * s2
                        · have hj2 : j < olds.length := by omega
                          have := ho2 j olds[j] (List.getElem?_eq_getElem hj2)
                          rw [List.getElem?_eq_getElem hj2, List.getElem?_take_of_lt hj, List.getElem?_drop, ← this]
                          simp [World.cell?, g2]
                        · rw [List.getElem?_eq_none (by omega), List.getElem?_eq_none (by rw [List.length_take]; omega)]
                      have hfc : (Builtin.firstCells s2 len (.slice (some ⟨b, o' * s2, none⟩) len c)).run P w.drew = .ok olds.toArray w.drew := by
                        rw [hol]
                        exact firstCells_at (w := w.drew) g2 hsz
                      obtain ⟨v', w', hr, hv, hs⟩ := grow (some ⟨b, o' * s2, none⟩) len c olds ((rows.drop o').take len) hz hfc ho1 g0' hrl (by omega) (hle0 _ hby) hct s d h hd1 hd2
                      exact ⟨_, w', _, app_run ha ht hr, .inr ⟨_, rfl, hv⟩, hs⟩
                · cases he
              · cases he
          · cases he
      · cases he
    · cases he
  · cases he
theorem copy_run {dst : Option Tmp} {args : Array Operand} {argTypes : Array TypeId} {x y : Operand} {t t2 : TypeId} {type : TypeId} {pos : String} {after : Array Edge} {guard : Option (Nat × Bool)}
    (ha : args.toList = [x, y]) (ht : argTypes.toList = [t, t2]) {v : Value} {w' : World} (hr : (Builtin.copy_ #[t, t2] type #[a.eval x, a.eval y]).run P w = .ok v w') :
    (execOp a.eval ⟨dst, .call ⟨.builtin .copy, args, argTypes⟩, type, pos, after, guard⟩).run P w = .ok (.value v) w' := by
  have h1 : args = #[x, y] := by apply Array.ext'; simpa using ha
  have h2 : argTypes = #[t, t2] := by apply Array.ext'; simpa using ht
  subst h1 h2
  simp [execOp, resolve, invoke, builtin, hr]
theorem copy_sound {dst : Option Tmp} {args : Array Operand} {argTypes : Array TypeId} {x y : Operand} {t t2 e e2 : TypeId} {type : TypeId} {pos : String} {after : Array Edge} {guard : Option (Nat × Bool)}
    (ha : args.toList = [x, y]) (ht : argTypes.toList = [t, t2]) (hu : P.underlying t = some (.slice e)) (hu2 : P.underlying t2 = some (.slice e2)) {n : Nat}
    (hn : szOf P e = some n) {x' y' : Opd} (hx : opd x = some x') (hy : opd y = some y')
    {d u : Nat} {ob : AO} {v : AV} {k : Nat} (h : SimAt G s a w A τ) (he : evS (.copy n x' y') s.env s.σ d = some (u, ob, v, k)) :
    Turns P G a w A ⟨dst, .call ⟨.builtin .copy, args, argTypes⟩, type, pos, after, guard⟩ v (newSt k u ob s) := by
  have h1 := opd_sound h hx
  simp only [evS] at he
  split at he
  · rename_i t' o' s' len cap hg
    rw [hg] at h1
    split at he
    · rename_i s2 rows hold
      split at he
      · rename_i hcond
        obtain ⟨rfl, rfl⟩ := hcond
        have ho := h.obj t'
        rw [hold] at ho
        obtain ⟨g0, gl, g⟩ := ho
        have h2 := one_inv h1
        -- what is copied: m rows
        have core : ∀ (new : List (List PV)) (news : List Value) (sl m : Nat), (∀ r ∈ new, r.length = s2) → All2 (PRel A w) new.flatten news → (∀ q ∈ news, cell1 q = true) → new.length = m → m = Nat.min sl len →
            (∀ w' : World, (Builtin.lenOf (a.eval y)).run P w' = .ok sl w') → (Builtin.firstCells s2 m (a.eval y)).run P w = .ok ⟨news⟩ w → o' ≤ rows.length → o' + m ≤ MaxN →
            Turns P G a w A ⟨dst, .call ⟨.builtin .copy, args, argTypes⟩, type, pos, after, guard⟩ (pint .i64 m) (newSt 0 t' (.arr true s2 (rows.take o' ++ new ++ rows.drop (o' + new.length))) s) := by
          intro new news sl m hns hn1 hnc hnl hm hlen hfc hor hM
          subst hnl
          simp only [newSt, show ¬ ((0 : Nat) = 2) from by decide, if_false]
          generalize hz2 : a.eval x = z at h2
          cases h2 with | c0 h2 => cases h2 with
            | mslN _ _ _ _ b hτ hc =>
              have hrows : rows = [] := by
                rcases g with ⟨_, g⟩ | ⟨b', xs, e', g1, _⟩
                · exact g
                · rw [hτ] at g1; cases g1
              subst hrows
              have hn0 : new = [] := List.length_eq_zero_iff.1 (by have : Nat.min sl 0 = 0 := Nat.min_zero sl; omega)
              subst hn0
              have hnews : news = [] := by have := hn1.length; simpa using this.symm
              subst hnews
              have ho0 : o' = 0 := by simpa using hor
              subst ho0
              refine ⟨.value (.int .i64 0), w, τ, copy_run ha ht ?_, .inr ⟨_, rfl, pint_rel _ _⟩, ?_⟩
              · rw [hz2]
                have hl := hlen w
                simp only [List.length_nil] at hfc
                cases b <;> simp [Builtin.copy_, run_und hu, hl, run_sz hn, hfc, storeCells, goInt]
              · refine h.congr (fun _ => rfl) (fun q => ?_) rfl
                simp only [lo_put]
                split
                · rename_i hq; subst hq; rw [hold]; simp
                · rfl
            | msl _ _ _ _ b c _ hτ hc hl hr =>
              rcases g with ⟨g1, _⟩ | ⟨b', xs, e', g1, g2, g3, g4, g5⟩
              · rw [hτ] at g1; cases g1
              rw [hτ] at g1; cases g1
              obtain ⟨cs0, e0, hr1, hr2, hr3⟩ := hr
              rw [g2] at hr1; cases hr1
              have hml : new.length ≤ len := by rw [hm]; exact Nat.min_le_right _ _
              have hfit : (o' + new.length) * s2 ≤ xs.size := Nat.le_trans (Nat.mul_le_mul_right s2 (by omega)) hr2
              have hnl2 : news.length = new.length * s2 := by rw [← hn1.length, flat_len hns]
              have hst0 := run_storeCells_at P b (o' * s2) e' news 0 xs w g2 (by rw [hnl2, Nat.add_zero, ← Nat.add_mul]; exact hfit) (fun q hq => by
                have := hnc q hq
                cases q <;> first | rfl | (simp [cell1] at this))
              simp only [Nat.add_zero, hnl2] at hst0
              have key := h.lay (p := o') hold hτ g2 hns hn1 hor hM hfit
              refine ⟨.value (.int .i64 new.length), _, τ, copy_run ha ht ?_, .inr ⟨_, rfl, pint_rel _ _⟩, key⟩
              rw [hz2]
              have hl := hlen w
              simp only [Builtin.copy_, Sem.run_bind, Result.andThen_ok, List.getElem?_toArray, List.getElem?_cons_zero, List.getElem?_cons_succ, run_und hu, hl, ← hm, run_sz hn, hfc, hst0, Sem.run_pure, goInt]
        split at he
        · rename_i new hnew
          obtain ⟨news, hn1, hsrc, hns, hnl, hnc, base, c0, e2, hfirst⟩ := src_sound (P := P) hu2 hy h hnew
          have fin : o' ≤ rows.length → o' + len ≤ MaxN ∨ o' + len ≤ rows.length →
              Turns P G a w A ⟨dst, .call ⟨.builtin .copy, args, argTypes⟩, type, pos, after, guard⟩ (pint .i64 (min new.length len)) (newSt 0 t' (.arr true s2 (rows.take o' ++ new.take len ++ rows.drop (o' + (new.take len).length))) s) := by
            intro q1 q2
            have hm : (new.take len).length = Nat.min new.length len := by rw [List.length_take]; exact Nat.min_comm _ _
            have hmle : Nat.min new.length len ≤ new.length := Nat.min_le_left _ _
            have hmle2 : Nat.min new.length len ≤ len := Nat.min_le_right _ _
            have htk : new.take len = new.take (Nat.min new.length len) := by
              show new.take len = new.take (min new.length len)
              rw [Nat.min_comm, ← List.take_take, List.take_length]
            have := core (new.take len) (news.take (Nat.min new.length len * s2)) new.length _ (fun r hr => hns r (List.mem_of_mem_take hr)) (by
              rw [htk, take_flat s2 new hns _ hmle]; exact hn1.take _) (fun q hq => hnc q (List.mem_of_mem_take hq)) hm rfl (fun w' => hsrc.len w') (hfirst _ hmle) q1 (by omega)
            have e9 : ((Nat.min new.length len : Nat) : Int) = min (new.length : Int) (len : Int) := by
              show ((min new.length len : Nat) : Int) = _
              omega
            rw [e9] at this
            exact this
          split at he
          · rename_i hle
            cases he
            exact fin (by omega) (.inr hle)
          · split at he
            · rename_i hb
              cases he
              exact fin hb.1 (.inl hb.2)
            · cases he
        · split at he
          · rename_i t2' o2 s3 len2 cap2 hg2
            have hy1 := opd_sound h hy
            rw [hg2] at hy1
            split at he
            · rename_i mu2 s4 rows2 hold2
              split at he
              · rename_i hb
                obtain ⟨rfl, rfl, b1, b2, b3, b4⟩ := hb
                cases he
                have hy2 := one_inv hy1
                have ho2 := h.obj t2'
                rw [hold2] at ho2
                obtain ⟨q0, ql, q⟩ := ho2
                have hrl : ((rows2.drop o2).take len).length = len := by simp; omega
                have hns : ∀ r ∈ (rows2.drop o2).take len, r.length = s4 := fun r hr => q0 r (List.mem_of_mem_drop (List.mem_of_mem_take hr))
                generalize hz : a.eval y = z at hy2
                cases hy2 with | c0 hy2 => cases hy2 with
                  | mslN _ _ _ _ b hτ hc =>
                    have hl0 : len = 0 := by omega
                    subst hl0
                    have e0 : (rows2.drop o2).take 0 = [] := by simp
                    rw [e0]
                    exact core [] [] 0 0 (fun r hr => by simp at hr) .nil (fun r hr => by simp at hr) rfl rfl (fun w' => by rw [hz]; rfl) (by rw [hz]; cases b <;> simp [Builtin.firstCells, loadCells, loadCellsFrom]) b3 (by omega)
                  | msl _ _ _ _ b c _ hτ hc hl hr =>
                    rcases q with ⟨q1, _⟩ | ⟨b', xs, e', q1, q2, q3, q4, q5⟩
                    · rw [hτ] at q1; cases q1
                    rw [hτ] at q1; cases q1
                    have hat : PAt A w ((rows2.drop o2).take len).flatten b (o2 * s4) := by
                      have e3 : ((rows2.drop o2).take len).flatten = (rows2.flatten.drop (o2 * s4)).take (len * s4) := by
                        rw [take_flat s4 (rows2.drop o2) (fun r hr => q0 r (List.mem_of_mem_drop hr)) len (by simp; omega), drop_flat s4 rows2 q0 o2 (by omega)]
                      rw [e3]
                      simpa using q4.part (o2 * s4) (len * s4)
                    obtain ⟨news, hn1, hn2⟩ := hat.cells
                    have hnl : news.length = len * s4 := by rw [← hn1.length, flat_len hns, hrl]
                    have hfc : (Builtin.firstCells s4 len (a.eval y)).run P w = .ok ⟨news⟩ w := by
                      rw [hz]
                      have := run_loadCellsFrom (P := P) (w := w) ⟨b, o2 * s4, none⟩ news 0 #[] (fun j x hx => by
                        rw [add_eq, Nat.zero_add]; exact hn2 j x hx)
                      rw [hnl] at this
                      simpa [Builtin.firstCells, loadCells] using this
                    have hc1 : ∀ q ∈ news, cell1 q = true := prels_cell1 hn1
                    exact core _ news len2 len hns hn1 hc1 hrl (by show len = min len2 len; omega) (fun w' => by rw [hz]; rfl) hfc b3 b4
              · cases he
            · cases he
          · cases he
      · cases he
    · cases he
  · cases he
theorem clr_sound {dst : Option Tmp} {args : Array Operand} {argTypes : Array TypeId} {x : Operand} {t e : TypeId} {type : TypeId} {pos : String} {after : Array Edge} {guard : Option (Nat × Bool)}
    (ha : args.toList = [x]) (ht : argTypes.toList = [t]) (hu : P.underlying t = some (.slice e)) {n : Nat}
    (hn : szOf P e = some n) {z : List PV} (hz : zeroP P e = some z) (hzl : z.length = n) {x' : Opd} (hx : opd x = some x')
    {d u : Nat} {ob : AO} {v : AV} {k : Nat} (h : SimAt G s a w A τ) (he : evS (.clr n z x') s.env s.σ d = some (u, ob, v, k)) :
    Turns P G a w A ⟨dst, .call ⟨.builtin .clear, args, argTypes⟩, type, pos, after, guard⟩ v (newSt k u ob s) := by
  have h1 := opd_sound h hx
  have hargs : args = #[x] := by apply Array.ext'; simpa using ha
  have htys : argTypes = #[t] := by apply Array.ext'; simpa using ht
  subst hargs htys
  have run : ∀ {w' : World}, (Builtin.clear_ #[t] type #[a.eval x]).run P w = .ok (.tuple #[]) w' → (execOp a.eval ⟨dst, .call ⟨.builtin .clear, #[x], #[t]⟩, type, pos, after, guard⟩).run P w = .ok (.value (.tuple #[])) w' := by
    intro w' hr
    simp [execOp, resolve, invoke, builtin, hr]
  have htup : VRel A τ w (.tup []) (.tuple #[]) := .tup .nil
  simp only [evS] at he
  split at he
  · rename_i t' o' s' len cap hg
    rw [hg] at h1
    split at he
    · rename_i s2 rows hold
      split at he
      · rename_i hcond
        obtain ⟨rfl, rfl, hle⟩ := hcond
        cases he
        simp only [newSt, show ¬ ((0 : Nat) = 2) from by decide, if_false]
        have ho := h.obj u
        rw [hold] at ho
        obtain ⟨g0, gl, g⟩ := ho
        have h2 := one_inv h1
        have same : len = 0 → SimAt G { s with σ := (u, .arr true s2 (rows.take o' ++ List.replicate len z ++ rows.drop (o' + (List.replicate len z).length))) :: s.σ } a w A τ := by
          intro h0
          subst h0
          refine h.congr (fun _ => rfl) (fun q => ?_) rfl
          simp only [lo_put]
          split
          · rename_i hq; subst hq; rw [hold]; simp
          · rfl
        generalize hz2 : a.eval x = zv at h2
        cases h2 with | c0 h2 => cases h2 with
          | mslN _ _ _ _ b hτ hc =>
            refine ⟨.value (.tuple #[]), w, τ, run ?_, .inr ⟨_, rfl, htup⟩, same rfl⟩
            rw [hz2]; cases b <;> simp [Builtin.clear_, run_und hu]
          | msl _ _ _ _ b c _ hτ hc hl hr =>
            by_cases h0 : len = 0
            · refine ⟨.value (.tuple #[]), w, τ, run ?_, .inr ⟨_, rfl, htup⟩, same h0⟩
              subst h0
              rw [hz2]; simp [Builtin.clear_, run_und hu]
            · rcases g with ⟨g1, _⟩ | ⟨b', xs, e', g1, g2, g3, g4, g5⟩
              · rw [hτ] at g1; cases g1
              rw [hτ] at g1; cases g1
              obtain ⟨zv, hzv, hrel⟩ := zeroP_sound' (P := P) hz
              obtain ⟨hzr, hrel⟩ := hrel w w A
              have hvl : zv.cells.toList.length = s2 := by rw [← hrel.length]; exact hzl
              have hns : ∀ r ∈ List.replicate len z, r.length = s2 := rep_len hzl len
              have hn1 : All2 (PRel A w) (List.replicate len z).flatten (List.replicate len zv.cells.toList).flatten := rep_flat hrel len
              have hfit : (o' + (List.replicate len z).length) * s2 ≤ xs.size := by
                rw [List.length_replicate]; exact Nat.le_trans (Nat.mul_le_mul_right s2 hle) g3
              have hzc : (Builtin.zeroCells zv.cells len).toList = (List.replicate len zv.cells.toList).flatten := by
                have := range_rep zv.cells.toList len
                simp only [Builtin.zeroCells]
                simp only [Array.toArray_toList, Array.length_toList] at this
                rw [this]
              have hnews : (List.replicate len zv.cells.toList).flatten.length = len * s2 := by
                rw [← hn1.length, flat_len hns, List.length_replicate]
              have hst0 := run_storeCells_at P b (o' * s2) e' (List.replicate len zv.cells.toList).flatten 0 xs w g2 (by rw [hnews, Nat.add_zero, ← Nat.add_mul]; simpa using hfit) (fun q hq => by
                have hc1 : cell1 q = true := prels_cell1 hn1 q hq
                cases q <;> first | rfl | (simp [cell1] at hc1))
              have key := h.lay (p := o') hold hτ g2 hns hn1 (by omega) (by rw [List.length_replicate]; omega) hfit
              simp only [Nat.add_zero, hnews] at hst0
              simp only [List.length_replicate] at key ⊢
              refine ⟨.value (.tuple #[]), _, τ, run ?_, .inr ⟨_, rfl, .tup .nil⟩, key⟩
              rw [hz2]
              obtain ⟨len, rfl⟩ : ∃ k, len = k + 1 := ⟨len - 1, by omega⟩
              simp [Builtin.clear_, run_und hu, hzr, hzc, hst0]
      · cases he
    · cases he
  · cases he
theorem storeA_sound {dst : Option Tmp} {t : TypeId} {x y : Operand} {type : TypeId} {pos : String} {after : Array Edge} {guard : Option (Nat × Bool)} {n kk s0 : Nat} {x' y' : Opd}
    (hn : szOf P t = some n) (hnk : n = kk * s0) (hx : opd x = some x') (hy : opd y = some y') {d u : Nat} {ob : AO} {v : AV} {k : Nat} (h : SimAt G s a w A τ)
    (he : evS (.storeA kk s0 x' y') s.env s.σ d = some (u, ob, v, k)) : Turns P G a w A ⟨dst, .store t x y, type, pos, after, guard⟩ v (newSt k u ob s) := by
  have h1 := opd_sound h hx
  have h2 := opd_sound h hy
  simp only [evS] at he
  split at he
  · rename_i t' s' vs hg hvs
    rw [hg] at h1
    obtain ⟨cs0, ha1, ha2⟩ := bind_some' hvs
    have hc := asCells_sound h2 ha1
    have hp := pvs_sound hc ha2
    split at he
    · rename_i s2 rows hold
      split at he
      · rename_i hcond
        obtain ⟨rfl, rfl, rfl, hvl⟩ := hcond
        cases he
        simp only [newSt, show ¬ ((0 : Nat) = 2) from by decide, if_false]
        obtain ⟨b, ex, hτ⟩ := ptr_inv h1
        simp only [Nat.zero_mul, Nat.add_zero] at ex
        have ho := h.obj u
        rw [hold] at ho
        obtain ⟨g0, gl, ⟨g1, _⟩ | ⟨b', xs, e', g1, g2, g3, g4, g5⟩⟩ := ho
        · rw [hτ] at g1; cases g1
        rw [hτ] at g1; cases g1
        have hck := chunk_len s2 rows.length vs (by rw [hvl]; exact Nat.le_refl _)
        obtain ⟨k1, k2, k3⟩ := hck
        have k3' : (chunk s2 rows.length vs).flatten = vs := by rw [k3, ← hvl, List.take_length]
        have key := h.lay (p := 0) (new := chunk s2 rows.length vs) (news := (a.eval y).cells.toList) hold hτ g2 k1 (by rw [k3']; exact hp) (Nat.zero_le _) (by rw [k2]; omega) (by rw [k2, Nat.zero_add]; exact g3)
        have hcl : (a.eval y).cells.toList.length = rows.length * s2 := by rw [← hp.length, hvl]
        have hrun := run_storeVar (P := P) (w := w) (b := b) (off := 0) hn g2 (v := a.eval y) (by rw [hnk]; simpa using hcl) (by rw [hnk, Nat.zero_add]; exact g3) (fun q hq => prels_cell1 hp q hq)
        simp only [k2, List.take_zero, List.nil_append, Nat.zero_add, Nat.zero_mul, List.drop_length, List.append_nil] at key
        simp only [List.take_zero, List.nil_append, Nat.zero_add, hnk] at hrun
        refine ⟨.skip, _, τ, ?_, .inl ⟨rfl, rfl⟩, key⟩
        simp only [execOp, Instr.storeAt, ex, Instr.sureAddr, Sem.run_bind, Sem.run_pure, Result.andThen_ok, hrun]
      · cases he
    · cases he
  · cases he
theorem putM_sound {es : List (Int × Bool × List PV)} {xs : List MapEntry} (h : Rel A w (.en es xs)) (n : Int) (bt : Bool) (cs : List PV) (val : Value) (hv : ∀ k born, Rel A w (.en [(k, bt, cs)] [⟨.int .i64 k, val, born⟩])) (clock : Nat) : ∀ (i : Nat),
    match Instr.findNow (.int .i64) (.int .i64 n) xs i with
    | some (some (j, _)) => i ≤ j ∧ (∃ m, xs[j - i]? = some m ∧ m.key = .int .i64 n) ∧ Rel A w (.en (putM n (bt, cs) es) (xs.modify (j - i) fun e => { e with key := .int .i64 n, val := val }))
    | some none => Rel A w (.en (putM n (bt, cs) es) (xs ++ [⟨.int .i64 n, val, clock⟩]))
    | none => False := by
  have consE : ∀ {k : Int} {b' : Bool} {cs' : List PV} {m : MapEntry} {es' : List (Int × Bool × List PV)} {xs' : List MapEntry}, Rel A w (.en [(k, b', cs')] [m]) → Rel A w (.en es' xs') → Rel A w (.en ((k, b', cs') :: es') (m :: xs')) := by
    intro k b' cs' m es' xs' h1 h2
    cases h1 with
    | enOne _ _ x born _ _ h t => exact .enOne _ _ x born _ _ h h2
    | enAgg _ _ vs born _ _ h t => exact .enAgg _ _ vs born _ _ h h2
  induction es generalizing xs with
  | nil =>
    intro i; cases h
    simp only [Instr.findNow, putM, List.nil_append]
    exact hv n clock
  | cons p es ih =>
    intro i
    have step : ∀ (k : Int) (b' : Bool) (cs' : List PV) (m : MapEntry) (xs' : List MapEntry), p = (k, b', cs') → m.key = .int .i64 k → Rel A w (.en [(k, b', cs')] [m]) → Rel A w (.en es xs') →
        match Instr.findNow (.int .i64) (.int .i64 n) (m :: xs') i with
        | some (some (j, _)) => i ≤ j ∧ (∃ m', (m :: xs')[j - i]? = some m' ∧ m'.key = .int .i64 n) ∧ Rel A w (.en (putM n (bt, cs) (p :: es)) ((m :: xs').modify (j - i) fun e => { e with key := .int .i64 n, val := val }))
        | some none => Rel A w (.en (putM n (bt, cs) (p :: es)) ((m :: xs') ++ [⟨.int .i64 n, val, clock⟩]))
        | none => False := by
      rintro k b' cs' m xs' rfl hk h1 ht
      simp only [Instr.findNow, hk, Instr.sameNow, if_true, putM]
      by_cases hkn : k = n
      · subst hkn
        simp only [beq_self_eq_true, if_true, Nat.sub_self]
        refine ⟨Nat.le_refl _, ⟨m, rfl, hk⟩, ?_⟩
        have := consE (hv k m.born) ht
        simpa using this
      · have hk2 : (n == k) = false := by simpa using fun e => hkn e.symm
        simp only [hk2, if_neg hkn]
        have := ih ht (i + 1)
        generalize Instr.findNow (.int .i64) (.int .i64 n) xs' (i + 1) = r at this
        match r with
        | none => exact this
        | some none => exact consE h1 this
        | some (some (j, x)) =>
          simp only at this ⊢
          obtain ⟨q1, ⟨m', q2, q3⟩, q4⟩ := this
          obtain ⟨d, rfl⟩ : ∃ d, j = i + 1 + d := ⟨j - (i + 1), by omega⟩
          rw [show i + 1 + d - (i + 1) = d from by omega] at q2 q4
          rw [show i + 1 + d - i = d + 1 from by omega]
          exact ⟨by omega, ⟨m', by simpa using q2, q3⟩, by simpa using consE h1 q4⟩
    cases h with
    | enOne k c x born es xs h t => exact step k false [c] _ xs rfl rfl (.enOne k c x born [] [] h .enNil) t
    | enAgg k cs vs born es xs h t => exact step k true cs _ xs rfl rfl (.enAgg k cs vs born [] [] h .enNil) t
theorem mput_sound {o : Op} {dst : Option Tmp} {t : TypeId} {m k v : Operand} {kt et : TypeId} {ik : IntKind} {type : TypeId} {pos : String} {after : Array Edge} {guard : Option (Nat × Bool)}
    (hop : o = .mapUpdate t m k v ∨ o = .insert t m k v) (hu : P.underlying t = some (.map kt et)) (hk : P.underlying kt = some (.int ik)) {m' k' v' : Opd} (hm : opd m = some m') (hk' : opd k = some k') (hv : opd v = some v')
    {d u : Nat} {ob : AO} {av : AV} {q : Nat} (h : SimAt G s a w A τ) (he : evS (.mput m' k' v') s.env s.σ d = some (u, ob, av, q)) :
    Turns P G a w A ⟨dst, o, type, pos, after, guard⟩ av (newSt q u ob s) := by
  have h1 := opd_sound h hm
  have h2 := opd_sound h hk'
  have h3 := opd_sound h hv
  simp only [evS] at he
  split at he
  · rename_i t' n hg1 hg2
    rw [hg1] at h1; rw [hg2] at h2
    have e2 := int_inv h2
    split at he
    · rename_i es cs hold hcs
      obtain ⟨acs0, ha1, ha2⟩ := bind_some' hcs
      have hc := asCells_sound h3 ha1
      have hp := pvs_sound hc ha2
      have fin : ∀ bt, (∀ (w' : World), Still A w w' → ∀ k born, Rel A w' (.en [(k, bt, cs)] [⟨.int .i64 k, a.eval v, born⟩])) →
          Turns P G a w A ⟨dst, o, type, pos, after, guard⟩ .und (newSt 0 t' (.map true (putM n (bt, cs) es)) s) := by
        intro bt hval
        simp only [newSt, show ¬ ((0 : Nat) = 2) from by decide, if_false]
        have h4 := one_inv h1
        generalize hz : a.eval m = z at h4
        cases h4 with | c0 h4 => cases h4 with | mmap _ b hτ =>
          have ho := h.obj t'
          rw [hold] at ho
          obtain ⟨b', ces, clock, g1, g2, g3, g4⟩ := ho
          rw [hτ] at g1; cases g1
          have hobj : (getObj b).run P w = .ok (.map ces clock) w := by simp [getObj, Sem.run, g2]
          have hck : (Instr.checkKey false 10000 kt (.int .i64 n)).run P w = .ok () w := by
            have : ∀ d, (Instr.checkKey false (d + 1) kt (.int .i64 n)).run P w = .ok () w := by
              intro d; simp [Instr.checkKey, run_und hk]
            exact this 9999
          have hnow : ∀ i : Nat, Instr.findNow (.int ik) (.int .i64 n) ces.toList i = Instr.findNow (.int .i64) (.int .i64 n) ces.toList i := by
            generalize ces.toList = l
            induction l with
            | nil => intro i; rfl
            | cons m l ih => intro i; cases hm : m.key <;> simp [Instr.findNow, Instr.sameNow, ih, hm]
          have wr : ∀ (ces' : Array MapEntry) (c' : Nat), (∀ w' : World, Still A w w' → Rel A w' (.en (putM n (bt, cs) es) ces'.toList)) → (Instr.mapUpdate t (.map (some b)) (.int .i64 n) (a.eval v)).run P w = .ok () (w.putObj b (.map ces' c')) →
              ∃ r w' τ', (execOp a.eval ⟨dst, o, type, pos, after, guard⟩).run P w = .ok r w' ∧ ((r = .skip ∧ (AV.und : AV) = .und) ∨ ∃ x, r = .value x ∧ VRel A τ' w' .und x) ∧ SimAt G { s with σ := (t', .map true (putM n (bt, cs) es)) :: s.σ } a w' A τ' := by
            intro ces' c' hrel hrun
            have hwm : WStep (· = b) w (w.putObj b (.map ces' c')) := by
              refine ⟨rfl, rfl, rfl, by simp [World.putObj], fun q _ hq => World.putObj_heap_other hq, fun q cs e hq => ⟨cs, ?_, rfl⟩⟩
              rw [World.putObj_heap_other (fun e' => by subst e'; rw [g2] at hq; cases hq)]
              exact hq
            have hst : Still A w (w.putObj b (.map ces' c')) := hwm.still h.alt (fun q hq e => g4.2 (e ▸ hq))
            refine ⟨.skip, _, τ, ?_, .inl ⟨rfl, rfl⟩, h.write (by rw [hold]; rfl) hτ hwm ⟨b, ces', c', hτ, ?_, hrel _ hst, g4⟩⟩
            · rcases hop with rfl | rfl <;> simp [execOp, hz, e2, hrun]
            · simp [World.putObj, heap_lt g2]
          have key := fun (w' : World) (hst : Still A w w') => putM_sound (A := A) (w := w') (es := es) (xs := ces.toList) (g3.mono (fun _ hb => hb) hst) n bt cs (a.eval v) (hval w' hst) clock 0
          have hfind : ∀ r, Instr.findNow (.int .i64) (.int .i64 n) ces.toList 0 = some r → (Instr.findKey kt (.int .i64 n) ces.toList).run P w = .ok r w := by
            intro r hr
            simp only [Instr.findKey, Sem.run_bind, run_und hk, Result.andThen_ok, hnow, hr, Sem.run_pure]
          cases hf : Instr.findNow (.int .i64) (.int .i64 n) ces.toList 0 with
          | none => have := key w (fun _ _ => rfl); rw [hf] at this; exact this.elim
          | some r =>
            have hfk := hfind r hf
            cases r with
            | none =>
              refine wr (ces.push ⟨.int .i64 n, a.eval v, clock⟩) (clock + 1) (fun w' hst => ?_) ?_
              · have := key w' hst
                rw [hf] at this
                simpa using this
              · simp [Instr.mapUpdate, run_und hu, hobj, hck, hfk, setObj, Sem.run, g2, World.putObj]
            | some jx =>
              obtain ⟨j, x⟩ := jx
              have h0 := key w (fun _ _ => rfl)
              rw [hf] at h0
              obtain ⟨_, ⟨m0, hm0, hmk⟩, _⟩ := h0
              rw [Nat.sub_zero] at hm0
              have hm0' : ces[j]? = some m0 := by rw [← Array.getElem?_toList]; exact hm0
              have hstay : (Instr.keyThatStays (.int .i64 n) (.int .i64 n)).run P w = .ok (.int .i64 n) w := by
                have : ∀ d, Instr.sameBits d (.int .i64 n) (.int .i64 n) = true := by intro d; cases d <;> simp [Instr.sameBits]
                simp [Instr.keyThatStays, this]
              refine wr (ces.modify j fun e => { e with key := .int .i64 n, val := a.eval v }) clock (fun w' hst => ?_) ?_
              · have := key w' hst
                rw [hf] at this
                simpa using this.2.2
              · simp [Instr.mapUpdate, run_und hu, hobj, hck, hfk, hm0', hmk, hstay, setObj, Sem.run, g2, World.putObj]
      split at he
      · rename_i cs' hv'
        cases he
        refine fin true fun w' hst k born => ?_
        rw [hv'] at h3 ha1
        cases ha1
        cases h3 with | v1 h3 =>
          generalize hz : a.eval v = z at h3 hp
          cases h3 with | agg h3 => exact .enAgg k cs _ born [] [] (PRels.all2.2 (hp.mono fun _ _ hr => hr.mono (fun _ hb => hb) hst)) .enNil
      · rename_i hno
        cases he
        refine fin false fun w' hst k born => ?_
        cases hv' : get s.env v' with
        | agg cs' => exact absurd hv' (hno cs')
        | one c =>
          rw [hv'] at ha1 h3
          cases ha1
          have h5 := one_inv h3
          have h6 := h5.cell1
          generalize hz : a.eval v = z at hp h6
          have hzc : z.cells.toList = [z] := by cases z <;> first | rfl | (simp [cell1] at h6)
          rw [hzc] at hp
          cases hp with | cons hp ht => cases ht; exact .enOne k _ z born [] [] (hp.mono (fun _ hb => hb) hst) .enNil
        | tup => rw [hv'] at ha1; cases ha1
        | top => rw [hv'] at ha1; cases ha1
        | und => rw [hv'] at ha1; cases ha1
    · cases he
  · cases he
theorem compS_sound {o : Oper} {q : SOp} {d u : Nat} {ob : AO} {v : AV} {k : Nat} (hc : compS P o.op = some q) (h : SimAt G s a w A τ) (he : evS q s.env s.σ d = some (u, ob, v, k))
    (hd : k = 1 → s.Nr d ∧ lo s.σ d = .none) : Turns P G a w A o v (newSt k u ob s) := by
  obtain ⟨dst, op, type, pos, after, guard⟩ := o
  simp only at hc
  cases op <;> simp only [compS] at hc <;> (try (cases hc; done))
  case store t x y =>
    split at hc
    · rename_i kk el hu
      obtain ⟨s0, hs0, hc⟩ := bind_some' hc
      obtain ⟨n, hn, hc⟩ := bind_some' hc
      obtain ⟨x', hx, hc⟩ := bind_some' hc
      obtain ⟨y', hy, hc⟩ := bind_some' hc
      split at hc
      · rename_i hnk
        cases hc
        exact storeA_sound hn hnk.1 hx hy h he
      · cases hc
        exact store_sound hn hx hy h he
    · obtain ⟨n, hn, hc⟩ := bind_some' hc
      obtain ⟨x', hx, hc⟩ := bind_some' hc
      obtain ⟨y', hy, rfl⟩ := map_some' hc
      exact store_sound hn hx hy h he
  case call c =>
    obtain ⟨callee, args, argTypes⟩ := c
    cases callee with
    | value f => simp only [compS] at hc; cases hc
    | invoke r m => simp only [compS] at hc; cases hc
    | builtin b =>
      cases b <;> simp only [compS] at hc <;> (try (cases hc; done))
      case append =>
        split at hc
        · rename_i x y t t2 ha ht
          split at hc
          · rename_i e e2 hu hu2
            obtain ⟨n, hn, hc⟩ := bind_some' hc
            obtain ⟨b, hb, hc⟩ := bind_some' hc
            obtain ⟨x', hx, hc⟩ := bind_some' hc
            obtain ⟨y', hy, hc⟩ := bind_some' hc
            split at hc
            · rename_i hcond
              cases hc
              obtain ⟨i0, hi, rfl⟩ := map_some' hb
              obtain ⟨hn0, hb0, hz⟩ := hcond
              obtain ⟨z0, hz0, hzs⟩ := map_some' hz
              obtain ⟨i1, hi1, hz1⟩ := bind_some' hz0
              rw [hi] at hi1; cases hi1
              refine app_sound (y := y) ha ht hu hzs (Nat.le_refl _) hn0 hx h (fun new hnew => ?_) he hd
              unfold srcZ at hnew
              rw [if_pos (by omega)] at hnew
              obtain ⟨news, hn1, hsrc, hns, hnl, _⟩ := src_sound (P := P) hu2 hy h hnew
              exact ⟨news, hn1, AppSrc.ofSrc hn hi hz1 hsrc, hns, hnl⟩
            · cases hc
          · rename_i e hu hu2
            obtain ⟨n, hn, hc⟩ := bind_some' hc
            obtain ⟨b, hb, hc⟩ := bind_some' hc
            obtain ⟨z, hzp, hc⟩ := bind_some' hc
            obtain ⟨x', hx, hc⟩ := bind_some' hc
            obtain ⟨y', hy, hc⟩ := bind_some' hc
            split at hc
            · rename_i hcond
              cases hc
              obtain ⟨i0, hi, rfl⟩ := map_some' hb
              obtain ⟨hn0, hb0, hzz, hz⟩ := hcond
              obtain ⟨z0, hz0, hzs⟩ := map_some' hz
              obtain ⟨i1, hi1, hz1⟩ := bind_some' hz0
              rw [hi] at hi1; cases hi1
              exact app_sound (y := y) ha ht hu hzs (by omega) (by omega) hx h (fun new hnew => src_int hn hi hz1 hb0 hu2 hzp hzz (by omega) hy h hnew) he hd
            · cases hc
          · cases hc
        · cases hc
      case clear =>
        split at hc
        · rename_i x t ha ht
          split at hc
          · rename_i e hu
            obtain ⟨n, hn, hc⟩ := bind_some' hc
            obtain ⟨z, hz, hc⟩ := bind_some' hc
            obtain ⟨x', hx, hc⟩ := bind_some' hc
            split at hc
            · rename_i hzl
              cases hc
              exact clr_sound ha ht hu hn hz hzl hx h he
            · cases hc
          · cases hc
        · cases hc
      case copy =>
        split at hc
        · rename_i x y t t2 ha ht
          split at hc
          · rename_i e e2 hu hu2
            obtain ⟨n, hn, hc⟩ := bind_some' hc
            obtain ⟨x', hx, hc⟩ := bind_some' hc
            obtain ⟨y', hy, rfl⟩ := map_some' hc
            exact copy_sound ha ht hu hu2 hn hx hy h he
          · cases hc
        · cases hc
  case mapUpdate t m k v =>
    split at hc
    · rename_i kt et hu
      split at hc
      · rename_i ik hk
        obtain ⟨m', hm, hc⟩ := bind_some' hc
        obtain ⟨k', hk', hc⟩ := bind_some' hc
        obtain ⟨v', hv, rfl⟩ := map_some' hc
        exact mput_sound (.inl rfl) hu hk hm hk' hv h he
      · cases hc
    · cases hc
  case insert t m k v =>
    split at hc
    · rename_i kt et hu
      split at hc
      · rename_i ik hk
        obtain ⟨m', hm, hc⟩ := bind_some' hc
        obtain ⟨k', hk', hc⟩ := bind_some' hc
        obtain ⟨v', hv, rfl⟩ := map_some' hc
        exact mput_sound (.inr rfl) hu hk hm hk' hv h he
      · cases hc
    · cases hc
end sound
end Go.AM

