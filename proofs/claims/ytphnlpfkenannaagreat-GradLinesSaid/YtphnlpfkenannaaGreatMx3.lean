import Derived.Test.YtphnlpfkenannaaGreatMx2
import Derived.IntWalk
set_option linter.unusedVariables false
set_option linter.unusedSimpArgs false
namespace Go.AM
open Go.RowKit (Below)

inductive NOp where
  | alloc (z : List AC)
  | allocA (s : Nat) (rows : List (List PV))
  | box (n : Nat) (x : Opd)
  | lit (s len : Nat) (z : List PV) (ps : List (Nat × Opd))
  | mkS (s by_ : Nat) (z : List PV) (len cap : Opd)
  | mkM
  | boxA (s n : Nat) (x : Opd)
def chunk (s : Nat) : Nat → List PV → List (List PV)
  | 0, _ => []
  | n + 1, zs => zs.take s :: chunk s n (zs.drop s)
def setRows (rows : List (List PV)) : List (Nat × List PV) → List (List PV)
  | [] => rows
  | (i, r) :: ps => setRows (rows.set i r) ps
def partsP (e : Env) (s len : Nat) : List (Nat × Opd) → Option (List (Nat × List PV))
  | [] => some []
  | (i, x) :: ps => match (asCells (get e x)).bind pvs with
    | some r => if r.length = s ∧ i < len then (partsP e s len ps).map ((i, r) :: ·) else none
    | none => none
def evN (q : NOp) (e : Env) (d : Nat) : Option (AO × AV) :=
  match q with
  | .alloc z => some (.cells true z, .one (.ptr d 0 z.length 0))
  | .allocA s rows => if rows.length ≤ MaxN then some (.arr true s rows, .one (.ptr d 0 s 0)) else none
  | .box n x => match asCells (get e x) with
    | some cs => if cs.length = n then some (.cells true cs, .one (.ptr d 0 n 0)) else none
    | none => none
  | .lit s len z ps => match partsP e s len ps with
    | some l => if len ≤ MaxN then some (.arr true s (setRows (List.replicate len z) l), .one (.msl d 0 s len none)) else none
    | none => none
  | .mkS s by_ z len cap => match get e len, get e cap with
    | .one (.p (.int .i64 l)), .one (.p (.int .i64 c)) => if 0 ≤ l ∧ l ≤ c ∧ c ≤ MaxN ∧ c * by_ ≤ MaxN then
        some (.arr true s (List.replicate l.toNat z), .one (.msl d 0 s l.toNat (some c.toNat))) else none
    | _, _ => none
  | .mkM => some (.map true [], .one (.mmap d))
  | .boxA s n x => match (asCells (get e x)).bind pvs with
    | some zs => if n * s = zs.length ∧ n ≤ MaxN then some (.arr true s (chunk s n zs), .one (.ptr d 0 s 0)) else none
    | none => none
def AO.nr (d : Nat) : AO → Bool
  | .cells _ cs => !AC.has.hasL d cs
  | _ => true
def AS.nr (d : Nat) (s : AS) : Bool := s.env.all (fun p => !p.2.has d) && s.σ.all (fun p => p.2.nr d) && s.ex.all (fun v => !v.has d)
theorem lk_all {e : List (Nat × AV)} {q : AV → Bool} (h : e.all (fun p => q p.2) = true) (ht : q .top = true) (i : Nat) : q (lk e i) = true := by
  induction e with
  | nil => exact ht
  | cons p e ih =>
    simp only [List.all_cons, Bool.and_eq_true] at h
    obtain ⟨j, v⟩ := p
    simp only [lk]
    split
    · exact h.1
    · exact ih h.2
theorem lo_all {e : List (Nat × AO)} {q : AO → Bool} (h : e.all (fun p => q p.2) = true) (ht : q .none = true) (i : Nat) : q (lo e i) = true := by
  induction e with
  | nil => exact ht
  | cons p e ih =>
    simp only [List.all_cons, Bool.and_eq_true] at h
    obtain ⟨j, v⟩ := p
    simp only [lo]
    split
    · exact h.1
    · exact ih h.2
structure AS.Nr (d : Nat) (s : AS) : Prop where
  env : ∀ i, (lk s.env i).has d = false
  obj : ∀ t, (lo s.σ t).nr d = true
  ex : ∀ v ∈ s.ex, v.has d = false
theorem AS.nr_Nr {d : Nat} {s : AS} (hd : s.nr d = true) : s.Nr d := by
  simp only [AS.nr, Bool.and_eq_true] at hd
  obtain ⟨⟨hd1, hd2⟩, hd3⟩ := hd
  exact ⟨fun i => by simpa using lk_all (q := fun v => !v.has d) hd1 rfl i, fun t => lo_all (q := AO.nr d) hd2 rfl t, fun v hv => by simpa using List.all_eq_true.1 hd3 v hv⟩
theorem SimAt.new {G : Ground} {s : AS} {a : Act} {w : World} {A : Nat → Prop} {τ : Tau} (h : SimAt G s a w A τ) {d : Nat} (hd : s.Nr d) (hn : lo s.σ d = .none)
    (ob : Obj) {o : AO} (hob : ORel G.M A (fun t => if t = d then some w.heap.size else τ t) { w with heap := w.heap.push ob } d o) :
    SimAt G { s with σ := (d, o) :: s.σ } a { w with heap := w.heap.push ob } A (fun t => if t = d then some w.heap.size else τ t) := by
  obtain ⟨hd1, hd2, hd3⟩ := hd
  have hw := WStep.push w ob
  have hst : Still A w { w with heap := w.heap.push ob } := hw.still h.alt (fun _ _ hf => hf)
  have hτ : ∀ u, u ≠ d → (if u = d then some w.heap.size else τ u) = τ u := fun u hu => if_neg hu
  have ev : ∀ v : AV, v.has d = false → ∀ t, v.has t = true → (if t = d then some w.heap.size else τ t) = τ t := fun v hv t ht =>
    hτ t (fun e => by subst e; rw [hv] at ht; cases ht)
  have live : ∀ t b, lo s.σ t ≠ .none → τ t = some b → b < w.heap.size := by
    intro t b hl hb
    have := h.obj t
    cases ho : lo s.σ t with
    | none => exact absurd ho hl
    | cells m cs =>
      rw [ho] at this
      obtain ⟨b', _, _, h1, h2, _⟩ := this
      rw [hb] at h1; cases h1
      exact heap_lt h2
    | arr m s' rows =>
      rw [ho] at this
      obtain ⟨_, _, ⟨h1, _⟩ | ⟨b', _, _, h1, h2, _⟩⟩ := this
      · rw [hb] at h1; cases h1
      · rw [hb] at h1; cases h1
        exact heap_lt h2
    | map m es =>
      rw [ho] at this
      obtain ⟨b', _, _, h1, h2, _⟩ := this
      rw [hb] at h1; cases h1
      exact heap_lt h2
  refine ⟨?_, h.a0, h.a1, fun b hb => Nat.lt_of_lt_of_le (h.alt b hb) hw.size, h.size, fun i => ?_, fun t => ?_, ?_, ?_, h.marks.step hw.dfr0 (fun b hb => .inl hb)⟩
  · refine ⟨h.below.os, h.below.tape, h.below.output, Nat.le_trans h.below.size hw.size, fun k hk hno => ?_⟩
    rw [hw.same k (Nat.lt_of_lt_of_le hk h.below.size) (fun hf => hf)]
    exact h.below.block k hk hno
  · exact (h.env i).step hw (fun _ hb => hb) hst (ev _ (hd1 i))
  · rw [lo_put]
    by_cases ht : t = d
    · subst ht; simpa using hob
    · rw [if_neg ht]
      refine (h.obj t).step hw (fun _ hb => hb) hst (fun b hb => .inl hb) (fun b _ _ hlt => hw.same b hlt (fun hf => hf)) (hτ t ht) (fun u hu => ?_)
      have hnr := hd2 t
      cases ho : lo s.σ t with
      | cells m cs =>
        rw [ho] at hnr hu
        refine hτ u (fun e => ?_)
        subst e
        simp [AO.nr] at hnr
        simp only at hu
        rw [hnr] at hu; cases hu
      | none => rw [ho] at hu; exact hu.elim
      | arr => rw [ho] at hu; exact hu.elim
      | map => rw [ho] at hu; exact hu.elim
  · intro t t' b h1 h2 hne hm hb
    simp only [lo_put] at h1 h2 hm
    by_cases ht : t = d
    · subst ht
      simp only [if_true] at hb
      have ht' : ¬ t' = t := fun e => hne e.symm
      rw [if_neg ht'] at h2
      simp only [if_neg ht']
      intro hb'
      have := live t' b h2 hb'
      cases hb
      omega
    · rw [if_neg ht] at h1 hm
      simp only [if_neg ht] at hb
      by_cases ht' : t' = d
      · subst ht'
        simp only [if_true]
        intro hb'
        have := live t b h1 hb
        cases hb'
        omega
      · rw [if_neg ht'] at h2
        simp only [if_neg ht']
        exact h.sep t t' b h1 h2 hne hm hb
  · refine h.ex.stepL (p := fun v => v.has d = false) hd3 (fun v x hv hr => hr.step hw (fun _ hb => hb) hst (ev v hv))
def zeroP (P : Program) (e : TypeId) : Option (List PV) := ((P.info? e).bind (·.zero)).bind fun z => (constACs z.cells.toList).bind pvs
def partsO (P : Program) : List (Nat × Operand) → Option (List (Nat × Opd))
  | [] => some []
  | (i, x) :: ps => (opd x).bind fun y => (partsO P ps).map ((i, y) :: ·)
def compN (P : Program) (o : Op) : Option NOp :=
  match o with
  | .alloc e => match P.underlying e with
    | some (.array len el) => (szOf P el).bind fun n => (zeroP P e).bind fun z => if len * n = z.length then some (.allocA n (chunk n len z)) else none
    | some _ => ((P.info? e).bind (·.zero)).bind fun z => (constACs z.cells.toList).map .alloc
    | none => none
  | .box e x => match P.underlying e with
    | some (.array len el) => (szOf P el).bind fun n => (opd x).map fun x => .boxA n len x
    | some _ => (szOf P e).bind fun n => (opd x).map fun x => .box n x
    | none => none
  | .buildSlice t len ps => match P.underlying t with
    | some (.slice e) => (szOf P e).bind fun n => (zeroP P e).bind fun z => if len * n ≤ 2 ^ 24 ∧ z.length = n ∧ n ≠ 0 then (partsO P ps.toList).map fun ps => .lit n len z ps else none
    | _ => none
  | .makeSlice t l c => match P.underlying t with
    | some (.slice e) => (szOf P e).bind fun n => (zeroP P e).bind fun z => if z.length = n ∧ n ≠ 0 then ((P.info? e).map (·.bytes)).bind fun b => (opd l).bind fun l => (opd c).map fun c => .mkS n b z l c else none
    | _ => none
  | .makeMap _ none => some .mkM
  | _ => none
theorem chunk_len (s : Nat) : ∀ (n : Nat) (zs : List PV), n * s ≤ zs.length → (∀ r ∈ chunk s n zs, r.length = s) ∧ (chunk s n zs).length = n ∧ (chunk s n zs).flatten = zs.take (n * s)
  | 0, zs, _ => by simp [chunk]
  | n + 1, zs, h => by
    have h1 : s + n * s ≤ zs.length := by rw [Nat.succ_mul] at h; omega
    obtain ⟨i1, i2, i3⟩ := chunk_len s n (zs.drop s) (by simp; omega)
    refine ⟨?_, by simp [chunk, i2], ?_⟩
    · intro r hr
      simp only [chunk, List.mem_cons] at hr
      rcases hr with rfl | hr
      · simp; omega
      · exact i1 r hr
    · simp only [chunk, List.flatten_cons, i3]
      rw [Nat.succ_mul, Nat.add_comm (n * s) s, List.take_add]
theorem new_cell (w : World) (xs : Array Value) (e : TypeId) (i : Nat) : ({ w with heap := w.heap.push (.cells xs e) } : World).cell? ⟨w.heap.size, i, none⟩ = xs[i]? := by
  simp [World.cell?]
theorem pat_of_all2 {w : World} {A : Nat → Prop} {vs : List PV} {xs : List Value} {b off : Nat} (h : All2 (PRel A w) vs xs) (hc : ∀ (i : Nat) x, xs[i]? = some x → w.cell? ⟨b, off + i, none⟩ = some x) : PAt A w vs b off :=
  PAt.of_get fun i v hi => by
    obtain ⟨x, hx, hr⟩ := h.get i v hi
    exact ⟨x, hc i x hx, hr⟩
theorem rep_flat {α β : Type} {R : α → β → Prop} {z : List α} {zs : List β} (h : All2 R z zs) : ∀ (n : Nat), All2 R (List.replicate n z).flatten (List.replicate n zs).flatten
  | 0 => .nil
  | n + 1 => by simpa [List.replicate_succ] using h.append (rep_flat h n)
theorem rep_get {β : Type} (zs : List β) (hz : zs ≠ []) : ∀ (n i : Nat), i < n * zs.length → (List.replicate n zs).flatten[i]? = zs[i % zs.length]?
  | 0, i, h => by simp at h
  | n + 1, i, h => by
    simp only [List.replicate_succ, List.flatten_cons]
    by_cases hi : i < zs.length
    · rw [List.getElem?_append_left hi, Nat.mod_eq_of_lt hi]
    · rw [List.getElem?_append_right (by omega), rep_get zs hz n _ (by rw [Nat.add_mul, Nat.one_mul] at h; omega)]
      congr 1
      exact (Nat.mod_eq_sub_mod (by omega)).symm
theorem range_rep (zs : List Value) (n : Nat) : ((Array.range (n * zs.length)).map fun i => (⟨zs⟩ : Array Value)[i % (⟨zs⟩ : Array Value).size]!) = ⟨(List.replicate n zs).flatten⟩ := by
  apply Array.ext'
  apply List.ext_getElem?
  intro i
  by_cases hz : zs = []
  · subst hz; simp
  · have hpos : 0 < zs.length := List.length_pos_iff.2 hz
    by_cases hi : i < n * zs.length
    · have hmod : i % zs.length < zs.length := Nat.mod_lt _ hpos
      simp only [Array.toList_map, List.getElem?_map]
      rw [rep_get zs hz n i hi]
      simp [hi, hmod]
    · have hl : (List.replicate n zs).flatten.length = n * zs.length := by simp
      rw [List.getElem?_eq_none (by simp; omega), List.getElem?_eq_none (by rw [hl]; omega)]
section sound
variable {P : Program} {G : Ground} {s : AS} {a : Act} {w : World} {A : Nat → Prop} {τ : Tau}
def tauP (τ : Tau) (d b : Nat) : Tau := fun t => if t = d then some b else τ t
theorem tauP_same (τ : Tau) (d b : Nat) : tauP τ d b d = some b := if_pos rfl
abbrev wpush (w : World) (o : Obj) : World := w.alloc o
theorem wpush_new (w : World) (o : Obj) : (wpush w o).heap[w.heap.size]? = some o := World.alloc_heap_new w o
theorem SimAt.fresh (h : SimAt G s a w A τ) : G.M w.heap.size ∧ ¬ A w.heap.size :=
  ⟨.inl h.below.size, fun hA => by have := h.alt _ hA; omega⟩
theorem SimAt.new0 (h : SimAt G s a w A τ) {d : Nat} (hd : s.Nr d) (hn : lo s.σ d = .none) (ob : Obj) :
    SimAt G { s with σ := (d, .none) :: s.σ } a (wpush w ob) A (tauP τ d w.heap.size) := h.new hd hn ob (o := .none) trivial
theorem orel_cells {d : Nat} {cs : List AC} {xs : Array Value} {e : TypeId} (h : SimAt G s a w A τ) (hcs : All2 (CRel A (tauP τ d w.heap.size) (wpush w (.cells xs e))) cs xs.toList) :
    ORel G.M A (tauP τ d w.heap.size) (wpush w (.cells xs e)) d (.cells true cs) :=
  ⟨w.heap.size, xs.toList, e, tauP_same _ _ _, wpush_new _ _, hcs, h.fresh⟩
theorem orel_arr {d : Nat} {m : Nat} {rows : List (List PV)} {xs : Array Value} {e : TypeId} (h : SimAt G s a w A τ) (hl : rows.length ≤ MaxN) (hm : ∀ r ∈ rows, r.length = m)
    (hcs : All2 (PRel A (wpush w (.cells xs e))) rows.flatten (xs.toList.take (rows.length * m))) (hsz : rows.length * m ≤ xs.size) :
    ORel G.M A (tauP τ d w.heap.size) (wpush w (.cells xs e)) d (.arr true m rows) := by
  refine ⟨hm, hl, .inr ⟨w.heap.size, xs, e, tauP_same _ _ _, wpush_new _ _, hsz, ?_, h.fresh⟩⟩
  refine pat_of_all2 hcs fun i x hx => ?_
  have := take_getElem hx
  rw [Nat.zero_add]
  exact (new_cell w xs e i).trans (by simpa using this)
theorem partsP_sound (h : SimAt G s a w A τ) {n len : Nat} : ∀ {ps : List (Nat × Operand)} {ps' : List (Nat × Opd)} {l : List (Nat × List PV)}, partsO P ps = some ps' → partsP s.env n len ps' = some l →
    All2 (fun (p : Nat × List PV) (q : Nat × Value) => p.1 = q.1 ∧ p.2.length = n ∧ p.1 < len ∧ All2 (PRel A w) p.2 q.2.cells.toList) l (ps.map fun p => (p.1, a.eval p.2))
  | [], ps', l, hp, hl => by
    simp [partsO] at hp; subst hp; simp [partsP] at hl; subst hl; exact .nil
  | (i, x) :: ps, ps', l, hp, hl => by
    simp only [partsO] at hp
    obtain ⟨y, hy, hp⟩ := bind_some' hp
    obtain ⟨ps2, hp2, rfl⟩ := map_some' hp
    simp only [partsP] at hl
    split at hl
    · rename_i r hr
      split at hl
      · rename_i hb
        obtain ⟨l2, hl2, rfl⟩ := map_some' hl
        obtain ⟨cs, hcs, hpv⟩ := bind_some' hr
        exact .cons ⟨rfl, hb.1, hb.2, pvs_sound (asCells_sound (opd_sound h hy) hcs) hpv⟩ (partsP_sound h hp2 hl2)
      · cases hl
    · cases hl
theorem flat_len {α : Type} {n : Nat} : ∀ {rows : List (List α)}, (∀ r ∈ rows, r.length = n) → rows.flatten.length = rows.length * n
  | [], _ => by simp
  | r :: rows, h => by
    simp only [List.flatten_cons, List.length_append, h r (by simp), flat_len (rows := rows) (fun q hq => h q (by simp [hq])), List.length_cons, Nat.add_mul, Nat.one_mul]
    omega
theorem set_flat {α : Type} (n : Nat) (rows : List (List α)) (hs : ∀ r ∈ rows, r.length = n) (i : Nat) (r : List α) (hi : i < rows.length) :
    (rows.set i r).flatten = rows.flatten.take (i * n) ++ r ++ rows.flatten.drop (i * n + n) := by
  rw [List.set_eq_take_append_cons_drop, if_pos hi]
  simp only [List.flatten_append, List.flatten_cons]
  rw [take_flat n rows hs i (by omega), drop_flat n rows hs (i + 1) (by omega), Nat.add_mul, Nat.one_mul, List.append_assoc]
theorem fillRows {R : PV → Value → Prop} {n len : Nat} : ∀ {l : List (Nat × List PV)} {qs : List (Nat × Value)} {rows : List (List PV)} {xs : List Value},
    All2 (fun (p : Nat × List PV) (q : Nat × Value) => p.1 = q.1 ∧ p.2.length = n ∧ p.1 < len ∧ All2 R p.2 q.2.cells.toList) l qs → rows.length = len → (∀ r ∈ rows, r.length = n) → All2 R rows.flatten xs →
    ∃ ys, Instr.fill (fun i => some (i * n, n)) ⟨xs⟩ qs = some ⟨ys⟩ ∧ All2 R (setRows rows l).flatten ys ∧ (∀ r ∈ setRows rows l, r.length = n) ∧ (setRows rows l).length = len
  | [], [], rows, xs, _, hlen, hr, hz => ⟨xs, rfl, hz, hr, hlen⟩
  | p :: l, q :: qs, rows, xs, .cons ⟨h1, h2, h3, h4⟩ ht, hlen, hr, hz => by
    obtain ⟨pi, pr⟩ := p
    obtain ⟨qi, qv⟩ := q
    simp only at h1 h2 h3 h4
    subst h1
    have hflat : rows.flatten.length = len * n := by rw [flat_len hr, hlen]
    have hlz := hz.length
    have hle : pi * n + n ≤ len * n := by
      have : (pi + 1) * n ≤ len * n := Nat.mul_le_mul_right n h3
      rw [Nat.add_mul, Nat.one_mul] at this; exact this
    have hsz : qv.cells.size = n := by have := h4.length; simp at this; omega
    have hset := set_flat n rows hr pi pr (by omega)
    obtain ⟨ys, hy1, hy2, hy3, hy4⟩ := fillRows (R := R) (n := n) (len := len) (rows := rows.set pi pr) (xs := xs.take (pi * n) ++ qv.cells.toList ++ xs.drop (pi * n + n)) ht (by simpa using hlen)
      (fun r hq => by
        rcases List.mem_or_eq_of_mem_set hq with h5 | h5
        · exact hr r h5
        · rw [h5]; exact h2)
      (by rw [hset]; exact ((hz.take _).append h4).append (hz.drop _))
    refine ⟨ys, ?_, hy2, hy3, hy4⟩
    simp only [Instr.fill]
    rw [if_neg (by simp [hsz]; omega)]
    rw [← hy1]
    have hf := fold_fill (pi * n) qv.cells.toList xs (by simp [hsz]; omega)
    simp only [Array.toArray_toList, Array.length_toList, hsz] at hf
    rw [← hf]
theorem rep_len {n : Nat} {z : List PV} (hz : z.length = n) (m : Nat) : ∀ r ∈ List.replicate m z, r.length = n := by
  intro r hr; rw [(List.mem_replicate.1 hr).2]; exact hz
theorem zeroP_sound' {e : TypeId} {z : List PV} (h : zeroP P e = some z) :
    ∃ v : Value, (∃ i, P.info? e = some i ∧ i.zero = some v) ∧ ∀ (w w' : World) (A : Nat → Prop), (zeroValue e).run P w = .ok v w ∧ All2 (PRel A w') z v.cells.toList := by
  obtain ⟨v, hv, h⟩ := bind_some' h
  obtain ⟨i, hi, hz⟩ := bind_some' hv
  obtain ⟨cs, hcs, hp⟩ := bind_some' h
  exact ⟨v, ⟨i, hi, hz⟩, fun w w' A => ⟨by simp [zeroValue, run_ti hi, hz], pvs_sound (τ := fun _ => none) (constACs_sound hcs) hp⟩⟩
theorem wrap_small {n : Int} (h0 : -9223372036854775808 ≤ n) (h1 : n ≤ 9223372036854775807) : IntKind.i64.wrap n = n := IntWalk.i64_in n ⟨h0, h1⟩
theorem newv {dst : Option Tmp} {e : TypeId} {type : TypeId} {pos : String} {after : Array Edge} {guard : Option (Nat × Bool)} {v : Value} (hv : (zeroValue e).run P w = .ok v w) :
    (execOp a.eval ⟨dst, .alloc e, type, pos, after, guard⟩).run P w = .ok (.value (.pointer (some ⟨w.heap.size, 0, none⟩))) (wpush w (.cells v.cells e)) := by
  simp only [execOp, Instr.alloc, Sem.run_bind, hv, Result.andThen_ok]
  simp [newVar, newRow, newObj, Sem.run]
theorem compN_sound {o : Oper} {q : NOp} {v : AV} {ob : AO} {d : Nat} (hc : compN P o.op = some q) (h : SimAt G s a w A τ) (he : evN q s.env d = some (ob, v))
    (hd : s.Nr d) (hn : lo s.σ d = .none) :
    ∃ x obj, (execOp a.eval o).run P w = .ok (.value x) (wpush w obj) ∧ ORel G.M A (tauP τ d w.heap.size) (wpush w obj) d ob ∧ VRel A (tauP τ d w.heap.size) (wpush w obj) v x := by
  obtain ⟨dst, op, type, pos, after, guard⟩ := o
  simp only at hc
  have ptr : ∀ obj n, VRel A (tauP τ d w.heap.size) (wpush w obj) (.one (.ptr d 0 n 0)) (.pointer (some ⟨w.heap.size, 0, none⟩)) := fun obj n => by
    have := C0.ptr (A := A) (w := wpush w obj) d 0 n 0 w.heap.size (tauP_same τ d _)
    simpa using VRel.v1 (V1.one (CRel.c0 this))
  cases op <;> simp only [compN] at hc <;> (try (cases hc; done))
  case alloc e =>
    split at hc
    · rename_i len el hu
      obtain ⟨n, hn', hc⟩ := bind_some' hc
      obtain ⟨z, hz, hc⟩ := bind_some' hc
      split at hc
      · rename_i hlen
        cases hc
        simp only [evN] at he
        split at he
        · rename_i hmax
          cases he
          obtain ⟨i1, i2, i3⟩ := chunk_len n len z (by omega)
          rw [i2] at hmax
          obtain ⟨v, hv, hrel⟩ := zeroP_sound' (P := P) hz
          obtain ⟨hv', hrel⟩ := hrel w (wpush w (.cells v.cells e)) A
          refine ⟨_, .cells v.cells e, newv hv', ?_, ptr _ _⟩
          refine orel_arr h (by omega) i1 ?_ ?_
          · rw [i3, List.take_of_length_le (by omega), List.take_of_length_le (by rw [← hrel.length, i2]; omega)]
            exact hrel
          · have := hrel.length; simp only [Array.length_toList] at this; rw [i2]; omega
        · cases he
      · cases hc
    · rename_i d0 hna hu
      obtain ⟨z, hz, hc⟩ := bind_some' hc
      obtain ⟨i, hi, hz⟩ := bind_some' hz
      obtain ⟨cs, hcs, rfl⟩ := map_some' hc
      simp only [evN] at he
      cases he
      exact ⟨_, .cells z.cells e, newv (by simp [zeroValue, run_ti hi, hz]), orel_cells h (constACs_sound hcs), ptr _ _⟩
    · cases hc
  case box e x =>
    have boxv : ∀ y, a.eval x = y → (execOp a.eval ⟨dst, .box e x, type, pos, after, guard⟩).run P w = .ok (.value (.pointer (some ⟨w.heap.size, 0, none⟩))) (wpush w (.cells y.cells e)) := by
      rintro y rfl
      simp [execOp, Instr.box, newVar, newRow, newObj, Sem.run]
    split at hc
    · rename_i len el hu
      obtain ⟨n, hn', hc⟩ := bind_some' hc
      obtain ⟨y, hy, rfl⟩ := map_some' hc
      simp only [evN] at he
      split at he
      · rename_i zs hzs
        split at he
        · rename_i hb
          cases he
          obtain ⟨cs, hcs, hpv⟩ := bind_some' hzs
          have h0 := h.new0 hd hn (.cells (a.eval x).cells e)
          have hrel := pvs_sound (asCells_sound (opd_sound h0 hy) hcs) hpv
          obtain ⟨i1, i2, i3⟩ := chunk_len n len zs (by omega)
          refine ⟨_, .cells (a.eval x).cells e, boxv _ rfl, ?_, ptr _ _⟩
          refine orel_arr h (by omega) i1 ?_ ?_
          · rw [i3, List.take_of_length_le (by omega), List.take_of_length_le (by rw [← hrel.length, i2]; omega)]
            exact hrel
          · have := hrel.length; simp only [Array.length_toList] at this; rw [i2]; omega
        · cases he
      · cases he
    · rename_i d0 hna hu
      obtain ⟨n, hn', hc⟩ := bind_some' hc
      obtain ⟨y, hy, rfl⟩ := map_some' hc
      simp only [evN] at he
      split at he
      · rename_i cs hcs
        split at he
        · cases he
          have h0 := h.new0 hd hn (.cells (a.eval x).cells e)
          exact ⟨_, .cells (a.eval x).cells e, boxv _ rfl, orel_cells h (asCells_sound (opd_sound h0 hy) hcs), ptr _ _⟩
        · cases he
      · cases he
    · cases hc
  case buildSlice t len ps =>
    split at hc
    · rename_i e hu
      obtain ⟨n, hn', hc⟩ := bind_some' hc
      obtain ⟨z, hz, hc⟩ := bind_some' hc
      split at hc
      · rename_i hb
        obtain ⟨hb1, hb2, hb3⟩ := hb
        obtain ⟨ps', hps, rfl⟩ := map_some' hc
        simp only [evN] at he
        split at he
        · rename_i l hl
          split at he
          · rename_i hmax
            cases he
            obtain ⟨v, hv, hrel⟩ := zeroP_sound' (P := P) hz
            obtain ⟨hv', hrel0⟩ := hrel w w A
            have hparts := partsP_sound h hps hl
            have hvs : v.cells.toList.length = n := by rw [← hrel0.length]; exact hb2
            obtain ⟨ys, hy1, hy2, hy3, hy4⟩ := fillRows (R := PRel A w) (n := n) (len := len) (rows := List.replicate len z) (xs := (List.replicate len v.cells.toList).flatten) hparts (by simp) (rep_len hb2 len) (rep_flat hrel0 len)
            have hst : Still A w (wpush w (.cells ⟨ys⟩ e)) := (WStep.push w _).still h.alt (fun _ _ hf => hf)
            refine ⟨.slice (some ⟨w.heap.size, 0 * n, none⟩) len len, .cells ⟨ys⟩ e, ?_, ?_, ?_⟩
            rotate_left
            · refine orel_arr h (by omega) hy3 ?_ ?_
              · have hy2' : All2 (PRel A (wpush w (.cells ⟨ys⟩ e))) (setRows (List.replicate len z) l).flatten ys := hy2.mono fun _ _ hr => hr.mono (fun _ hb => hb) hst
                rw [List.take_of_length_le (by rw [← hy2.length, flat_len hy3]; exact Nat.le_refl _)]
                exact hy2'
              · have := hy2.length; rw [flat_len hy3] at this; simp; omega
            · have := C0.msl (A := A) (τ := tauP τ d w.heap.size) (w := wpush w (.cells ⟨ys⟩ e)) d 0 n len w.heap.size len none (tauP_same _ _ _) (fun k hk => by cases hk) (Nat.le_refl _)
                ⟨⟨ys⟩, e, wpush_new _ _, by have := hy2.length; rw [flat_len hy3, hy4] at this; simp; omega, fun _ => by have := hy2.length; rw [flat_len hy3, hy4] at this; simp; omega⟩
              exact .v1 (.one (.c0 this))
            · simp only [Nat.zero_mul]
              have hrange : (Array.range (len * n)).map (fun i => v.cells[i % v.cells.size]!) = ⟨(List.replicate len v.cells.toList).flatten⟩ := by
                have := range_rep v.cells.toList len
                rw [hvs] at this
                exact this
              have hps2 : (ps.map fun (i, x) => (i, a.eval x)).toList = ps.toList.map fun p => (p.1, a.eval p.2) := by simp
              have hsz : ¬ len * n > 2 ^ 24 := by omega
              simp only [execOp, Instr.buildSlice, Sem.run_bind, run_und hu, Result.andThen_ok, run_sz hn', if_neg hsz, Sem.run_pure, hps2]
              by_cases h0 : len * n = 0
              · have hlen0 : len = 0 := by
                  rcases Nat.mul_eq_zero.1 h0 with h1 | h1
                  · exact h1
                  · exact absurd h1 hb3
                subst hlen0
                simp only [Nat.zero_mul, if_true, Sem.run_bind, Sem.run_pure, Result.andThen_ok]
                simp only [List.replicate_zero, List.flatten_nil] at hy1
                have e0 : (Array.range 0).map (fun i => (#[] : Array Value)[i % (#[] : Array Value).size]!) = ⟨[]⟩ := by simp
                rw [e0, hy1]
                simp [newRow, newObj, Sem.run]
              · simp only [if_neg h0, Sem.run_bind, hv', Result.andThen_ok, Sem.run_pure]
                rw [hrange, hy1]
                simp [newRow, newObj, Sem.run]
          · cases he
        · cases he
      · cases hc
    · cases hc
  case makeMap t r =>
    cases r with
    | some r => simp only [compN] at hc; cases hc
    | none =>
      cases hc
      simp only [evN] at he
      cases he
      refine ⟨_, .map #[] 0, by simp [execOp, Instr.makeMap, newObj, Sem.run]; rfl, ⟨w.heap.size, #[], 0, tauP_same _ _ _, wpush_new _ _, .enNil, h.fresh⟩, ?_⟩
      exact .v1 (.one (.c0 (.mmap d w.heap.size (tauP_same _ _ _))))
  case makeSlice t l c =>
    split at hc
    · rename_i e hu
      obtain ⟨n, hn', hc⟩ := bind_some' hc
      obtain ⟨z, hz, hc⟩ := bind_some' hc
      split at hc
      · rename_i hb
        obtain ⟨hb1, hb2⟩ := hb
        obtain ⟨by_, hby, hc⟩ := bind_some' hc
        obtain ⟨i0, hi0, rfl⟩ := map_some' hby
        obtain ⟨l', hl', hc⟩ := bind_some' hc
        obtain ⟨c', hc', rfl⟩ := map_some' hc
        have h1 := opd_sound h hl'
        have h2 := opd_sound h hc'
        simp only [evN] at he
        split at he
        · rename_i lv cv hlv hcv
          rw [hlv] at h1; rw [hcv] at h2
          have e1 := int_inv h1
          have e2 := int_inv h2
          split at he
          · rename_i hbd
            obtain ⟨hb3, hb4, hb5, hb6⟩ := hbd
            cases he
            obtain ⟨v, hv, hrel⟩ := zeroP_sound' (P := P) hz
            obtain ⟨hv', hrel0⟩ := hrel w w A
            have hvs : v.cells.toList.length = n := by rw [← hrel0.length]; exact hb1
            have hMax : MaxN = 2 ^ 47 := rfl
            have wl : IntKind.i64.wrap lv = lv := wrap_small (by omega) (by omega)
            have wc : IntKind.i64.wrap cv = cv := wrap_small (by omega) (by omega)
            let ys := (List.replicate cv.toNat v.cells.toList).flatten
            have hlc : lv.toNat ≤ cv.toNat := by omega
            have hysl : ys.length = cv.toNat * n := by simp [ys, hvs]
            have hst : Still A w (wpush w (.cells ⟨ys⟩ e)) := (WStep.push w _).still h.alt (fun _ _ hf => hf)
            refine ⟨.slice (some ⟨w.heap.size, 0 * n, none⟩) lv.toNat cv.toNat, .cells ⟨ys⟩ e, ?_, ?_, ?_⟩
            rotate_left
            · refine orel_arr h (by simp; omega) (rep_len hb1 _) ?_ ?_
              · have hy := rep_flat (hrel0.mono fun _ _ hr => hr.mono (A' := A) (fun _ hb => hb) hst) lv.toNat
                have e3 : ys.take (lv.toNat * n) = (List.replicate lv.toNat v.cells.toList).flatten := by
                  rw [← take_flat n (List.replicate cv.toNat v.cells.toList) (fun r hr => by rw [(List.mem_replicate.1 hr).2]; exact hvs) lv.toNat (by simpa using hlc), List.take_replicate, Nat.min_eq_left hlc]
                simp only [List.length_replicate]
                rw [e3]; exact hy
              · simp only [List.length_replicate]
                show lv.toNat * n ≤ ys.length
                rw [hysl]; exact Nat.mul_le_mul_right n hlc
            · have := C0.msl (A := A) (τ := tauP τ d w.heap.size) (w := wpush w (.cells ⟨ys⟩ e)) d 0 n lv.toNat w.heap.size cv.toNat (some cv.toNat) (tauP_same _ _ _) (fun k hk => by cases hk; rfl) hlc
                ⟨⟨ys⟩, e, wpush_new _ _, by show (0 + cv.toNat) * n ≤ ys.length; rw [hysl, Nat.zero_add]; exact Nat.le_refl _, fun hq => by cases hq⟩
              exact .v1 (.one (.c0 this))
            · simp only [Nat.zero_mul]
              have hrange : (Array.range (cv.toNat * n)).map (fun i => v.cells[i % v.cells.size]!) = ⟨ys⟩ := by
                have := range_rep v.cells.toList cv.toNat
                rw [hvs] at this
                exact this
              have tl : ∀ m : Int, 0 ≤ m → m ≤ cv → (decide (m < 0) || decide ((i0.bytes : Int) * m > 2 ^ 48)) = false := by
                intro m hm0 hm1
                have : (i0.bytes : Int) * m ≤ cv * i0.bytes := by rw [Int.mul_comm]; exact Int.mul_le_mul_of_nonneg_right hm1 (by omega)
                simp; constructor <;> omega
              have hroom : ¬ cv.toNat * i0.bytes > roomBytes := by
                have : ((cv.toNat * i0.bytes : Nat) : Int) ≤ 2 ^ 47 := by rw [Int.natCast_mul, Int.toNat_of_nonneg (by omega)]; omega
                unfold roomBytes; omega
              simp only [execOp, Instr.makeSlice, Sem.run_bind, run_und hu, Result.andThen_ok, run_sz hn', run_ti hi0, Sem.run_pure, e1, e2, asInt, asIntOf, wl, wc, tl cv (by omega) (by omega)]
              have hcond : (false || decide (lv < 0) || decide (lv > cv)) = false := by simp; constructor <;> omega
              simp only [hcond, Bool.false_eq_true, if_false, Sem.run_bind, askRoom, if_neg hroom, Sem.run_pure, Result.andThen_ok, run_sz hn']
              by_cases h0 : cv.toNat * n = 0
              · have hc0 : cv.toNat = 0 := by
                  rcases Nat.mul_eq_zero.1 h0 with h1 | h1
                  · exact h1
                  · exact absurd h1 hb2
                have hys0 : ys = [] := by simp [ys, hc0]
                have hl0 : lv.toNat = 0 := by omega
                rw [hys0, hl0, hc0]
                simp only [Nat.zero_mul, if_true, Sem.run_bind, Sem.run_pure, Result.andThen_ok]
                simp [newRow, newObj, Sem.run]
                rw [show Array.map (fun (_ : Nat) => (default : Value)) (Array.range 0) = ⟨[]⟩ from by apply Array.ext'; simp]
              · simp only [if_neg h0, Sem.run_bind, hv', Result.andThen_ok, Sem.run_pure]
                rw [hrange]
                simp [newRow, newObj, Sem.run]
          · cases he
        · cases he
      · cases hc
    · cases hc
end sound
end Go.AM

