import Derived.Test.YtjefhneggfbjfaaAmQS
namespace Go.AM
set_option linter.unusedSimpArgs false
open Go.RowKit (Below)

variable {P : Program} {G : Ground} {s : AS} {a : Act} {w : World} {A : Nat → Prop} {τ : Tau}

/-- what a quiet operation must come to -/
def Gives (P : Program) (a : Act) (w : World) (A : Nat → Prop) (τ : Tau) (o : Oper) (v : AV) : Prop :=
  ∃ x, (execOp a.eval o).run P w = .ok (.value x) w ∧ VRel A τ w v x

theorem bind_some' {α β : Type} {x : Option α} {f : α → Option β} {b : β} (h : x.bind f = some b) : ∃ a, x = some a ∧ f a = some b := by
  cases x with
  | none => simp at h
  | some a => exact ⟨a, rfl, h⟩

theorem map_some' {α β : Type} {x : Option α} {f : α → β} {b : β} (h : x.map f = some b) : ∃ a, x = some a ∧ f a = b := by
  cases x with
  | none => simp at h
  | some a => exact ⟨a, rfl, by simpa using h⟩

theorem ints_sound {op : BinOp} {k : IntKind} {m n : Int} {v : AV} (he : evBin op k m n = some v) (hop : op ≠ .shl ∧ op ≠ .shr) (t : TypeId) :
    ∃ x, (binOp op t (.int k m) (.int k n)).run P w = .ok x w ∧ VRel A τ w v x := by
  cases op <;> simp only [evBin] at he <;>
    first
      | (cases he; first
          | exact ⟨_, rfl, pbool_rel _⟩
          | exact ⟨_, rfl, pint_rel _ _⟩
          | (refine ⟨_, ?_, pint_rel _ _⟩; simp [binOp, Op.intArith, Op.intBits]; done)
          | (refine ⟨_, ?_, pbool_rel _⟩; simp [binOp, Op.intCmp]; done))
      | (split at he
         · cases he
         · rename_i hz
           cases he
           refine ⟨_, ?_, pint_rel _ _⟩
           simp [binOp, Op.intDiv, hz])
      | (exact absurd rfl hop.1)
      | (exact absurd rfl hop.2)
      | cases he

theorem bin_sound {op : BinOp} {x y : AV} {u v : Value} {r : AV} (hx : VRel A τ w x u) (hy : VRel A τ w y v)
    (he : evBinV op x y = some r) (t : TypeId) :
    (∀ us, u ≠ .agg us) ∧ u ≠ .nilIface ∧ ∃ z, (binOp op t u v).run P w = .ok z w ∧ VRel A τ w r z := by
  unfold evBinV at he
  split at he
  · have h1 := int_inv hx
    have h2 := int_inv hy
    subst h1 h2
    split at he
    · cases he
    · rename_i hn
      cases he
      refine ⟨(fun _ h => by cases h), (fun h => by cases h), _, ?_, pint_rel _ _⟩
      simp [binOp, Op.shift, hn]
  · have h1 := int_inv hx
    have h2 := int_inv hy
    subst h1 h2
    split at he
    · cases he
    · rename_i hn
      cases he
      refine ⟨(fun _ h => by cases h), (fun h => by cases h), _, ?_, pint_rel _ _⟩
      simp [binOp, Op.shift, hn]
  · rename_i hop1 hop2
    have h1 := int_inv hx
    have h2 := int_inv hy
    subst h1 h2
    split at he
    · rename_i hk
      subst hk
      refine ⟨(fun _ h => by cases h), (fun h => by cases h), ?_⟩
      refine ints_sound he ⟨fun h => ?_, fun h => ?_⟩ t
      · exact hop1 h
      · exact hop2 h
    · cases he
  · cases he

theorem acs_sound {vs : List AV} {xs : List Value} (h : All2 (VRel A τ w) vs xs) : ∀ {cs : List AC}, acs vs = some cs → All2 (CRel A τ w) cs xs := by
  induction h with
  | nil => intro cs hc; simp [acs] at hc; subst hc; exact .nil
  | @cons v x vs xs hv _ ih =>
    intro cs hc
    cases v with
    | one c =>
      simp only [acs] at hc
      obtain ⟨cs', h1, rfl⟩ := map_some' hc
      exact .cons (one_inv hv) (ih h1)
    | agg => simp [acs] at hc
    | tup => simp [acs] at hc
    | top => simp [acs] at hc
    | und => simp [acs] at hc

theorem pvs_sound {cs : List AC} {xs : List Value} (h : All2 (CRel A τ w) cs xs) : ∀ {vs : List PV}, pvs cs = some vs → All2 (PRel A w) vs xs := by
  induction h with
  | nil => intro vs hc; simp [pvs] at hc; subst hc; exact .nil
  | @cons c x cs xs hv _ ih =>
    intro vs hc
    cases c <;> simp only [pvs] at hc <;> (try (cases hc; done))
    obtain ⟨vs', h1, rfl⟩ := map_some' hc
    exact .cons (p_inv (.v1 (.one hv))) (ih h1)

theorem c0s_sound {cs : List AC} {xs : List Value} (h : All2 (CRel A τ w) cs xs) (hok : ∀ c ∈ cs, C0ok c = true) : All2 (C0 A τ w) cs xs :=
  h.stepL hok fun c _ hc hr => by
    cases hr with
    | c0 h => exact h
    | mfn => simp [C0ok] at hc

theorem asCells_sound {v : AV} {x : Value} {cs : List AC} (h : VRel A τ w v x) (hc : asCells v = some cs) : All2 (CRel A τ w) cs x.cells.toList := by
  cases v with
  | one c =>
    cases hc
    have := one_inv h
    have h1 := this.cell1
    cases x <;> first | (simp [cell1] at h1; done) | exact .cons this .nil
  | agg cs' =>
    cases hc
    cases h with | v1 h => cases h with | agg h => exact h
  | tup => cases hc
  | top => cases hc
  | und => cases hc

theorem foldl_cells : ∀ (vs : List Value) (pre post mid : List Value), mid.length = vs.length →
    ((vs.zipIdx pre.length).foldl (fun (cs : Array Value) (p : Value × Nat) => cs.setIfInBounds p.2 p.1) ⟨pre ++ mid ++ post⟩) = ⟨pre ++ vs ++ post⟩
  | [], pre, post, mid, h => by
    have : mid = [] := List.length_eq_zero_iff.1 h
    subst this; simp
  | v :: vs, pre, post, mid, h => by
    obtain ⟨m, mid', rfl⟩ : ∃ m mid', mid = m :: mid' := by
      cases mid with
      | nil => simp at h
      | cons m mid' => exact ⟨m, mid', rfl⟩
    simp only [List.zipIdx_cons, List.foldl_cons]
    have e1 : (⟨pre ++ (m :: mid') ++ post⟩ : Array Value).setIfInBounds pre.length v = ⟨(pre ++ [v]) ++ mid' ++ post⟩ := by
      apply Array.ext'
      simp
    rw [e1]
    have := foldl_cells vs (pre ++ [v]) post mid' (by simpa using h)
    simp only [List.length_append, List.length_cons, List.length_nil, Nat.zero_add] at this
    rw [this]
    simp

theorem fold_fill (off : Nat) (vs : List Value) (cells : List Value) (h : off + vs.length ≤ cells.length) :
    ((Array.zipIdx ⟨vs⟩).foldl (fun (cs : Array Value) (p : Value × Nat) => cs.setIfInBounds (off + p.2) p.1) ⟨cells⟩) = ⟨cells.take off ++ vs ++ cells.drop (off + vs.length)⟩ := by
  have hsplit : cells = cells.take off ++ ((cells.drop off).take vs.length) ++ cells.drop (off + vs.length) := by
    rw [List.append_assoc, ← List.drop_drop, List.take_append_drop, List.take_append_drop]
  have h1 := foldl_cells vs (cells.take off) (cells.drop (off + vs.length)) ((cells.drop off).take vs.length) (by simp; omega)
  rw [← hsplit] at h1
  have hlen : (cells.take off).length = off := by simp; omega
  rw [hlen] at h1
  rw [← h1]
  rw [show (Array.zipIdx (⟨vs⟩ : Array Value)) = ⟨vs.zipIdx⟩ from by simp]
  rw [List.foldl_toArray' _ _ _ (by simp)]
  have : ∀ (l : List Value) (k : Nat) (init : Array Value), (l.zipIdx k).foldl (fun (cs : Array Value) (p : Value × Nat) => cs.setIfInBounds (off + p.2) p.1) init =
      (l.zipIdx (off + k)).foldl (fun (cs : Array Value) (p : Value × Nat) => cs.setIfInBounds p.2 p.1) init := by
    intro l
    induction l with
    | nil => intro k init; rfl
    | cons x l ih => intro k init; simp only [List.zipIdx_cons, List.foldl_cons]; exact ih (k + 1) _
  have := this vs 0 ⟨cells⟩
  simpa using this

theorem fill_sound {place : Nat → Option (Nat × Nat)} : ∀ {l : List (Nat × List AC)} {qs : List (Nat × Value)} {z : List AC} {xs : List Value},
    All2 (fun (p : Nat × List AC) (q : Nat × Value) => place q.1 = some (p.1, p.2.length) ∧ All2 (CRel A τ w) p.2 q.2.cells.toList) l qs → All2 (CRel A τ w) z xs →
    (∀ p ∈ l, p.1 + p.2.length ≤ z.length) → ∃ ys, Instr.fill place ⟨xs⟩ qs = some ⟨ys⟩ ∧ All2 (CRel A τ w) (fillC z l) ys
  | [], [], z, xs, _, hz, _ => ⟨xs, rfl, hz⟩
  | p :: l, q :: qs, z, xs, .cons ⟨h1, h2⟩ ht, hz, hb => by
    have hlen := h2.length
    have hlz := hz.length
    have hb0 := hb p (by simp)
    obtain ⟨ys, hy1, hy2⟩ := fill_sound (place := place) (z := z.take p.1 ++ p.2 ++ z.drop (p.1 + p.2.length)) (xs := xs.take p.1 ++ q.2.cells.toList ++ xs.drop (p.1 + p.2.length)) ht
      (((hz.take _).append h2).append (hz.drop _)) (fun r hr => by
        have := hb r (by simp [hr])
        simp; omega)
    refine ⟨ys, ?_, hy2⟩
    obtain ⟨qi, qv⟩ := q
    simp only [Instr.fill, h1]
    have hsz : qv.cells.size = p.2.length := by simpa using hlen.symm
    have hsz2 : qv.cells.size ≤ xs.length := by omega
    rw [if_neg (by simp [hsz]; omega)]
    rw [← hy1]
    have hf := fold_fill p.1 qv.cells.toList xs (by simp [hsz]; omega)
    simp only [Array.toArray_toList, Array.length_toList, hsz] at hf
    rw [← hf]

theorem parts_sound (h : SimAt G s a w A τ) {fs : Array Field} : ∀ {ps : List (Nat × Operand)} {ps' : List (Nat × Nat × Opd)} {l : List (Nat × List AC)}, places P fs ps = some ps' → parts s.env ps' = some l →
    All2 (fun (p : Nat × List AC) (q : Nat × Value) => ((fs[q.1]?).bind fun f => (szOf P f.type).map fun n => (f.offset, n)) = some (p.1, p.2.length) ∧ All2 (CRel A τ w) p.2 q.2.cells.toList) l (ps.map fun p => (p.1, a.eval p.2))
  | [], ps', l, hp, hl => by
    simp [places] at hp; subst hp; simp [parts] at hl; subst hl; exact .nil
  | (i, x) :: ps, ps', l, hp, hl => by
    simp only [places] at hp
    obtain ⟨f, hf, hp⟩ := bind_some' hp
    obtain ⟨n, hn, hp⟩ := bind_some' hp
    obtain ⟨y, hy, hp⟩ := bind_some' hp
    obtain ⟨ps2, hp2, rfl⟩ := map_some' hp
    simp only [parts] at hl
    split at hl
    · rename_i cs hcs
      split at hl
      · rename_i hlen
        obtain ⟨l2, hl2, rfl⟩ := map_some' hl
        refine .cons ⟨?_, ?_⟩ (parts_sound h hp2 hl2)
        · simp [hf, hn, hlen]
        · exact asCells_sound (opd_sound h hy) hcs
      · cases hl
    · cases hl

theorem run_mapM_places : ∀ (fs : List Field), (∀ f ∈ fs, (szOf P f.type).isSome = true) →
    (fs.mapM (fun f => do pure (f.offset, ← sizeOf f.type)) : Sem (List (Nat × Nat))).run P w = .ok (fs.map fun f => (f.offset, (szOf P f.type).getD 0)) w
  | [], _ => by simp
  | f :: fs, h => by
    obtain ⟨n, hn⟩ := Option.isSome_iff_exists.1 (h f (by simp))
    have ih := run_mapM_places fs (fun g hg => h g (by simp [hg]))
    simp only [List.mapM_cons, Sem.run_bind, run_sz hn, Result.andThen_ok, Sem.run_pure, ih]
    simp [hn]

theorem build_struct (h : SimAt G s a w A τ) {fs : Array Field} (hfs : fs.all (fun f => (szOf P f.type).isSome) = true) {ps : Array (Nat × Operand)} {ps' : List (Nat × Nat × Opd)} {l : List (Nat × List AC)}
    (hp : places P fs ps.toList = some ps') (hl : parts s.env ps' = some l) {z : Array Value} {z' : List AC} (hz : All2 (CRel A τ w) z' z.toList) (hb : ∀ p ∈ l, p.1 + p.2.length ≤ z'.length) :
    ∃ xs, (do
      let places ← fs.mapM fun f => do pure (f.offset, ← sizeOf f.type)
      let some cells := Instr.fill (places[·]?) z (ps.map fun (i, x) => (i, a.eval x)).toList | stuck "build: no such field, or a part of the wrong size"
      pure (Value.agg cells) : Sem Value).run P w = .ok (.agg ⟨xs⟩) w ∧ All2 (CRel A τ w) (fillC z' l) xs := by
  have hall : ∀ f ∈ fs.toList, (szOf P f.type).isSome = true := fun f hf => by
    have := Array.all_eq_true'.1 hfs f (Array.mem_toList_iff.1 hf)
    exact this
  have hmap : (fs.mapM (fun f => do pure (f.offset, ← sizeOf f.type)) : Sem (Array (Nat × Nat))).run P w = .ok ⟨fs.toList.map fun f => (f.offset, (szOf P f.type).getD 0)⟩ w := by
    have := run_mapM_places (P := P) (w := w) fs.toList hall
    rw [Array.mapM_eq_mapM_toList]
    simp only [Sem.run_map, this, Result.andThen_ok]
  have hparts := parts_sound (P := P) h hp hl
  obtain ⟨ys, hy1, hy2⟩ := fill_sound (A := A) (τ := τ) (w := w) (place := fun i => (⟨fs.toList.map fun f => (f.offset, (szOf P f.type).getD 0)⟩ : Array (Nat × Nat))[i]?) (z := z') (xs := z.toList)
    (hparts.mono (fun p q hpq => ⟨by
      obtain ⟨h1, _⟩ := hpq
      obtain ⟨f, hf, h1⟩ := bind_some' h1
      obtain ⟨n, hn, h1⟩ := map_some' h1
      simp only [List.getElem?_toArray, List.getElem?_map, Array.getElem?_toList, hf, Option.map_some, hn, Option.getD_some]
      exact congrArg some h1, hpq.2⟩)) hz hb
  refine ⟨ys, ?_, hy2⟩
  simp only [Sem.run_bind, hmap, Result.andThen_ok]
  have e : (ps.map fun (i, x) => (i, a.eval x)).toList = ps.toList.map fun p => (p.1, a.eval p.2) := by simp
  rw [e]
  simp only [Array.toArray_toList] at hy1
  rw [hy1]
  rfl

theorem partsA_sound (h : SimAt G s a w A τ) {n : Nat} : ∀ {ps : List (Nat × Operand)} {ps' : List (Nat × Nat × Opd)} {l : List (Nat × List AC)}, placesA n ps = some ps' → parts s.env ps' = some l →
    All2 (fun (p : Nat × List AC) (q : Nat × Value) => some (q.1 * n, n) = some (p.1, p.2.length) ∧ All2 (CRel A τ w) p.2 q.2.cells.toList) l (ps.map fun p => (p.1, a.eval p.2))
  | [], ps', l, hp, hl => by
    simp [placesA] at hp; subst hp; simp [parts] at hl; subst hl; exact .nil
  | (i, x) :: ps, ps', l, hp, hl => by
    simp only [placesA] at hp
    obtain ⟨y, hy, hp⟩ := bind_some' hp
    obtain ⟨ps2, hp2, rfl⟩ := map_some' hp
    simp only [parts] at hl
    split at hl
    · rename_i cs hcs
      split at hl
      · rename_i hlen
        obtain ⟨l2, hl2, rfl⟩ := map_some' hl
        refine .cons ⟨?_, ?_⟩ (partsA_sound h hp2 hl2)
        · simp [hlen]
        · exact asCells_sound (opd_sound h hy) hcs
      · cases hl
    · cases hl

theorem build_array (h : SimAt G s a w A τ) {n : Nat} {ps : Array (Nat × Operand)} {ps' : List (Nat × Nat × Opd)} {l : List (Nat × List AC)}
    (hp : placesA n ps.toList = some ps') (hl : parts s.env ps' = some l) {z : Array Value} {z' : List AC} (hz : All2 (CRel A τ w) z' z.toList) (hb : ∀ p ∈ l, p.1 + p.2.length ≤ z'.length) :
    ∃ xs, (do
      let some cells := Instr.fill (fun i => some (i * n, n)) z (ps.map fun (i, x) => (i, a.eval x)).toList | stuck "build: a part of the wrong size"
      pure (Value.agg cells) : Sem Value).run P w = .ok (.agg ⟨xs⟩) w ∧ All2 (CRel A τ w) (fillC z' l) xs := by
  have hparts := partsA_sound h hp hl
  obtain ⟨ys, hy1, hy2⟩ := fill_sound (A := A) (τ := τ) (w := w) (place := fun i => some (i * n, n)) (z := z') (xs := z.toList) hparts hz hb
  refine ⟨ys, ?_, hy2⟩
  have e : (ps.map fun (i, x) => (i, a.eval x)).toList = ps.toList.map fun p => (p.1, a.eval p.2) := by simp
  rw [e]
  simp only [Array.toArray_toList] at hy1
  rw [hy1]
  rfl

theorem compQ_sound {o : Oper} {q : QOp} {v : AV} (hc : compQ P o.op = some q) (h : SimAt G s a w A τ) (he : evQ q s.env s.σ = some v) : Gives P a w A τ o v := by
  obtain ⟨dst, op, type, pos, after, guard⟩ := o
  simp only at hc
  unfold Gives
  cases op <;> simp only [compQ] at hc <;> (try (cases hc; done))
  case move x =>
    obtain ⟨x', hx, rfl⟩ := map_some' hc
    simp only [evQ] at he; cases he
    exact ⟨_, rfl, opd_sound h hx⟩
  case assign x =>
    obtain ⟨x', hx, rfl⟩ := map_some' hc
    simp only [evQ] at he; cases he
    exact ⟨_, rfl, opd_sound h hx⟩
  case pick c x y =>
    obtain ⟨c', hc', hc⟩ := bind_some' hc
    obtain ⟨x', hx, hc⟩ := bind_some' hc
    obtain ⟨y', hy, rfl⟩ := map_some' hc
    have h1 := opd_sound h hc'
    simp only [evQ] at he
    split at he
    · rename_i t ht
      rw [ht] at h1
      have := bool_inv h1
      cases he
      refine ⟨if t then a.eval x else a.eval y, ?_, ?_⟩
      · simp [execOp, this, asBool]
      · cases t
        · exact opd_sound h hy
        · exact opd_sound h hx
    · cases he
  case load t x =>
    obtain ⟨n, hn, hc⟩ := bind_some' hc
    obtain ⟨g, hg, hc⟩ := bind_some' hc
    obtain ⟨x', hx, rfl⟩ := map_some' hc
    have h1 := opd_sound h hx
    simp only [evQ] at he
    split at he
    · rename_i cells hcells
      rw [hcells] at h1
      obtain ⟨b, off, e1, hA, hat⟩ := box_inv h1
      obtain ⟨z, hz, hv⟩ := ldP_sound (P := P) (τ := τ) hn hg hat he
      exact ⟨z, by simp [execOp, Instr.loadAt, Instr.sureAddr, e1, hz], hv⟩
    · rename_i t' i s' off hp
      rw [hp] at h1
      obtain ⟨b, e1, hb⟩ := ptr_inv h1
      obtain ⟨z, hz, hv⟩ := ldO_sound (P := P) hn hg (h.obj t') hb he
      exact ⟨z, by simp [execOp, Instr.loadAt, Instr.sureAddr, e1, hz], hv⟩
    · cases he
  case nilCheck x =>
    obtain ⟨x', hx, rfl⟩ := map_some' hc
    have h1 := opd_sound h hx
    simp only [evQ] at he
    split at he
    · rename_i c hc'
      rw [hc'] at h1
      split at he
      · rename_i hn
        cases he
        refine ⟨_, ?_, h1⟩
        rcases nil_sound (one_inv h1) hn with ⟨h2, _⟩ | ⟨_, ⟨a', l, k, e⟩ | ⟨f, u, v, e⟩ | ⟨t, v, e⟩ | ⟨a', e⟩⟩
        · cases h2
        all_goals (simp only [execOp, e]; rfl)
      · cases he
    · cases he
  case binOp op xt x y yt =>
    obtain ⟨x', hx, hc⟩ := bind_some' hc
    obtain ⟨y', hy, hc⟩ := bind_some' hc
    have h1 := opd_sound h hx
    have h2 := opd_sound h hy
    have plain : ∀ q', q = q' → q' = .bin op x' y' → ∃ z, (execOp a.eval ⟨dst, .binOp op xt x y yt, type, pos, after, guard⟩).run P w = .ok (.value z) w ∧ VRel A τ w v z := by
      rintro _ rfl rfl
      simp only [evQ] at he
      obtain ⟨e1, e2, z, hz, hv⟩ := bin_sound (P := P) h1 h2 he xt
      refine ⟨z, ?_, hv⟩
      simp only [execOp, Sem.run_bind, guard_plain e1 (fun h => absurd h e2), Result.andThen_ok, hz, Sem.run_pure]
    have eqs : op = .eql ∨ op = .neq → (match P.underlying xt with
      | some (.int _) => some (.bin op x' y')
      | some .bool => some (.eqB (isNeq op) x' y')
      | some (.slice _) => some (.eqN 0 (isNeq op) x' y')
      | some (.func _ _ _) => some (.eqN 1 (isNeq op) x' y')
      | some (.interface _) => if isConstO x || isConstO y then some (.eqN 2 (isNeq op) x' y') else none
      | _ => none) = some q → ∃ z, (execOp a.eval ⟨dst, .binOp op xt x y yt, type, pos, after, guard⟩).run P w = .ok (.value z) w ∧ VRel A τ w v z := by
      intro hop hq
      have nilcase : ∀ d kd, P.underlying xt = some d → kdOf d = some kd → (kd = 2 → (isConstO x || isConstO y) = true) →
          q = .eqN kd (isNeq op) x' y' → ∃ z, (execOp a.eval ⟨dst, .binOp op xt x y yt, type, pos, after, guard⟩).run P w = .ok (.value z) w ∧ VRel A τ w v z := by
        intro d kd hd hkd hkind hq
        subst hq
        simp only [evQ] at he
        split at he
        · rename_i c e hc1 hc2
          rw [hc1] at h1; rw [hc2] at h2
          have k1 := one_inv h1
          have k2 := one_inv h2
          have main : ∀ a' b', isNilK kd c = some a' → isNilK kd e = some b' → (a' = true ∨ b' = true) → v = pbool (if isNeq op then !(a' == b') else a' == b') →
              ∃ z, (execOp a.eval ⟨dst, .binOp op xt x y yt, type, pos, after, guard⟩).run P w = .ok (.value z) w ∧ VRel A τ w v z := by
            intro a' b' e1 e2 hab hv
            subst hv
            have hrun := nil_run hd hkd k1 k2 e1 e2 hab 9999
            have hg : (eqGuard op xt x y (a.eval x) (a.eval y)).run P w = .ok () w := by
              have n1 := nilK_sound k1 e1
              refine guard_plain (fun us h => ?_) (fun h _ => ?_)
              · rw [h] at n1; simp at n1
              · rw [h] at n1
                simp at n1
                have := hkind n1.1
                simp only [isConstO] at this
                exact this
            refine ⟨_, ?_, pbool_rel _⟩
            have hb : ∀ r, (Op.equal xt (a.eval x) (a.eval y)).run P w = .ok r w → (binOp op xt (a.eval x) (a.eval y)).run P w = .ok (.bool (if isNeq op then !r else r)) w := by
              intro r hr
              have n1 := nilK_sound k1 e1
              have n2 := nilK_sound k2 e2
              rcases hop with rfl | rfl <;> simp only [isNeq] <;>
                rcases n1 with ⟨_, ⟨_, e⟩ | ⟨_, _, _, _, e⟩⟩ | ⟨_, ⟨_, e⟩ | ⟨_, _, _, _, e⟩⟩ | ⟨_, ⟨_, e⟩ | ⟨_, _, _, e⟩⟩ <;> rw [e] at hr ⊢ <;>
                rcases n2 with ⟨_, ⟨_, e⟩ | ⟨_, _, _, _, e⟩⟩ | ⟨_, ⟨_, e⟩ | ⟨_, _, _, _, e⟩⟩ | ⟨_, ⟨_, e⟩ | ⟨_, _, _, e⟩⟩ <;> rw [e] at hr ⊢ <;>
                simp [binOp, hr]
            simp only [execOp, Sem.run_bind, hg, Result.andThen_ok, hb _ hrun, Sem.run_pure]
          unfold evNil at he
          split at he
          · rename_i a' e1 e2
            cases he
            exact main a' true e1 e2 (.inr rfl) (by simp)
          · rename_i b' _ e1 e2
            cases he
            exact main true b' e1 e2 (.inl rfl) (by simp)
          · cases he
        · cases he
      split at hq
      · exact plain _ rfl (Option.some.inj hq).symm
      · rename_i hu
        cases hq
        simp only [evQ] at he
        split at he
        · rename_i b1 b2 hb1 hb2
          rw [hb1] at h1; rw [hb2] at h2
          have e1 := bool_inv h1
          have e2 := bool_inv h2
          cases he
          refine ⟨_, ?_, pbool_rel _⟩
          have hg : (eqGuard op xt x y (a.eval x) (a.eval y)).run P w = .ok () w := guard_plain (by rw [e1]; intro us h; cases h) (by rw [e1]; intro h; cases h)
          rcases hop with rfl | rfl
          · simp only [execOp, Sem.run_bind, Result.andThen_ok, e1, e2, binOp, run_eqB hu, Sem.run_pure]; rw [e1, e2] at hg; simp [hg, isNeq]
          · simp only [execOp, Sem.run_bind, Result.andThen_ok, e1, e2, binOp, run_eqB hu, Sem.run_pure]; rw [e1, e2] at hg; simp [hg, isNeq]
        · cases he
      · rename_i e hu
        exact nilcase _ 0 hu rfl (fun h => by cases h) (Option.some.inj hq).symm
      · rename_i hu
        exact nilcase _ 1 hu rfl (fun h => by cases h) (Option.some.inj hq).symm
      · rename_i hu
        split at hq
        · rename_i hcst
          exact nilcase _ 2 hu rfl (fun _ => hcst) (Option.some.inj hq).symm
        · cases hq
      · cases hq
    cases op <;> first
      | exact eqs (.inl rfl) hc
      | exact eqs (.inr rfl) hc
      | exact plain _ rfl (Option.some.inj hc).symm
  case unOp op t x =>
    obtain ⟨x', hx, rfl⟩ := map_some' hc
    have h1 := opd_sound h hx
    simp only [evQ] at he
    split at he
    · rename_i b hb
      rw [hb] at h1
      have e1 := bool_inv h1
      cases he
      exact ⟨_, by simp [execOp, e1, Op.unary], pbool_rel _⟩
    · rename_i k n hb
      rw [hb] at h1
      have e1 := int_inv h1
      cases he
      exact ⟨_, by simp [execOp, e1, Op.unary, Op.intArith], pint_rel _ _⟩
    · cases he
  case convert src dst' x =>
    split at hc
    · rename_i k0 k hs hd
      obtain ⟨x', hx, rfl⟩ := map_some' hc
      have h1 := opd_sound h hx
      simp only [evQ] at he
      split at he
      · rename_i k' n hb
        rw [hb] at h1
        have e1 := int_inv h1
        cases he
        exact ⟨_, by simp [execOp, e1, convert, run_und hs, run_und hd, Conv.intToInt], pint_rel _ _⟩
      · cases he
    · cases hc
  case makeFunc fn first caps =>
    cases fn <;> simp only [compQ] at hc <;> (try (cases hc; done))
    rename_i f
    obtain ⟨u, hu, hc⟩ := bind_some' hc
    obtain ⟨v', hv, rfl⟩ := map_some' hc
    have h1 := opds_sound h hu
    have h2 := opds_sound h hv
    simp only [evQ] at he
    split at he
    · rename_i c1 c2 g1 g2
      split at he
      · rename_i hok
        have k1 := acs_sound h1 g1
        have k2 := acs_sound h2 g2
        have hok1 : ∀ c ∈ c1, C0ok c = true := fun c hc => List.all_eq_true.1 hok c (by simp [hc])
        have hok2 : ∀ c ∈ c2, C0ok c = true := fun c hc => List.all_eq_true.1 hok c (by simp [hc])
        have run : (execOp a.eval ⟨dst, .makeFunc (.func f) first caps, type, pos, after, guard⟩).run P w = .ok (.value (.func (.func f) ⟨first.toList.map a.eval⟩ ⟨caps.toList.map a.eval⟩)) w := by
          have e1 : first.map a.eval = ⟨first.toList.map a.eval⟩ := by apply Array.ext'; simp
          have e2 : caps.map a.eval = ⟨caps.toList.map a.eval⟩ := by apply Array.ext'; simp
          simp only [execOp, Instr.makeFunc, Sem.run_bind, Sem.run_pure, Result.andThen_ok, e1, e2]
        split at he
        · rename_i p1 p2 q1 q2
          cases he
          exact ⟨_, run, .v1 (.one (.c0 (.p _ _ (.fn f _ _ _ _ (PRels.all2.2 (pvs_sound k1 q1)) (PRels.all2.2 (pvs_sound k2 q2))))))⟩
        · cases he
          exact ⟨_, run, .v1 (.one (.mfn f _ _ _ _ (c0s_sound k1 hok1) (c0s_sound k2 hok2)))⟩
      · cases he
    · cases he
  case build t ps =>
    split at hc
    · rename_i fs z hu hz
      obtain ⟨z', hz', hc⟩ := bind_some' hc
      split at hc
      · rename_i hfs
        obtain ⟨ps', hps, rfl⟩ := map_some' hc
        simp only [evQ] at he
        split at he
        · rename_i l hl
          split at he
          · rename_i hall
            cases he
            obtain ⟨i, hi, hz2⟩ : ∃ i, P.info? t = some i ∧ i.zero = some z := bind_some' hz
            obtain ⟨xs, hx1, hx2⟩ := build_struct h hfs hps hl (z := z.cells) (constACs_sound hz') (fun p hp => by simpa using List.all_eq_true.1 hall p hp)
            refine ⟨_, ?_, .v1 (.agg hx2)⟩
            simp only [Sem.run_bind] at hx1
            simp only [execOp, Instr.build, Sem.run_bind, run_und hu, Result.andThen_ok, zeroValue, run_ti hi, hz2, Sem.run_pure]
            exact congrArg (fun r : Result Value => r.andThen fun a w' => Result.ok (Next.value a) w') hx1
          · cases he
        · cases he
      · cases hc
    · rename_i len e z hu hz
      obtain ⟨z', hz', hc⟩ := bind_some' hc
      obtain ⟨n, hn, hc⟩ := bind_some' hc
      obtain ⟨ps', hps, rfl⟩ := map_some' hc
      simp only [evQ] at he
      split at he
      · rename_i l hl
        split at he
        · rename_i hall
          cases he
          obtain ⟨i, hi, hz2⟩ : ∃ i, P.info? t = some i ∧ i.zero = some z := bind_some' hz
          obtain ⟨xs, hx1, hx2⟩ := build_array h hps hl (z := z.cells) (constACs_sound hz') (fun p hp => by simpa using List.all_eq_true.1 hall p hp)
          refine ⟨_, ?_, .v1 (.agg hx2)⟩
          simp only [execOp, Instr.build, Sem.run_bind, run_und hu, Result.andThen_ok, zeroValue, run_ti hi, hz2, Sem.run_pure, run_sz hn]
          exact congrArg (fun r : Result Value => r.andThen fun a w' => Result.ok (Next.value a) w') hx1
        · cases he
      · cases he
    · cases hc
  case fieldAddr t x f =>
    split at hc
    · rename_i fs hu
      obtain ⟨fl, hf, hc⟩ := bind_some' hc
      obtain ⟨n, hn, hc⟩ := bind_some' hc
      split at hc
      · cases hc
      · rename_i hn0
        obtain ⟨x', hx, rfl⟩ := map_some' hc
        have h1 := opd_sound h hx
        simp only [evQ] at he
        have run : ∀ b off, a.eval x = .pointer (some ⟨b, off, none⟩) →
            (execOp a.eval ⟨dst, .fieldAddr t x f, type, pos, after, guard⟩).run P w = .ok (.value (.pointer (some ⟨b, off + fl.offset, none⟩))) w := by
          intro b off e1
          simp [execOp, Instr.fieldAt, run_und hu, hf, e1, Instr.sureAddr, fieldPlace, run_sz hn, hn0, add_eq]
        split at he
        · rename_i cells hb
          rw [hb] at h1
          obtain ⟨b, off, e1, hA, hat⟩ := box_inv h1
          cases he
          exact ⟨_, run b off e1, boxrel hA (hat.dropAt _)⟩
        · rename_i t' i s' o' hb
          rw [hb] at h1
          obtain ⟨b, e1, hb'⟩ := ptr_inv h1
          cases he
          refine ⟨_, run b _ e1, ?_⟩
          have := C0.ptr (A := A) (w := w) t' i s' (o' + fl.offset) b hb'
          rw [← Nat.add_assoc] at this
          exact .v1 (.one (.c0 this))
        · cases he
    · cases hc
  case indexAddr t x i =>
    split at hc
    · rename_i e hu
      obtain ⟨n, hn, hc⟩ := bind_some' hc
      obtain ⟨x', hx, hc⟩ := bind_some' hc
      obtain ⟨i', hi, rfl⟩ := map_some' hc
      have h1 := opd_sound h hx
      have h2 := opd_sound h hi
      simp only [evQ] at he
      split at he
      · rename_i rows k m hr hm
        rw [hr] at h1; rw [hm] at h2
        have e2 := int_inv h2
        split at he
        · rename_i hb
          split at he
          · rename_i r hr'
            split at he
            · rename_i hl
              cases he
              have h3 := p_inv h1
              generalize hz : a.eval x = z at h3
              cases h3 with
              | nil => simp at hb; omega
              | sl _ b off cap s' hA hs hl' hcap hat =>
                obtain rfl : s' = n := (hs r (List.mem_of_getElem? hr')).symm.trans hl
                refine ⟨_, ?_, boxrel hA (row_at hs hr' hat)⟩
                simp [execOp, Instr.indexAt, e2, hz, asIntOf, run_und hu, hb.1, hb.2, run_sz hn, add_eq]
            · cases he
          · cases he
        · cases he
      · rename_i t' o' s' len cap k m hr hm
        rw [hr] at h1; rw [hm] at h2
        have e2 := int_inv h2
        split at he
        · rename_i hb
          obtain ⟨rfl, hb1, hb2⟩ := hb
          cases he
          cases one_inv h1 with
          | c0 h3 =>
            generalize hz : a.eval x = z at h3
            cases h3 with
            | mslN => simp at hb2; omega
            | msl _ _ _ _ b c _ hτ hc' hlen hroom =>
              refine ⟨.pointer (some ⟨b, (o' + m.toNat) * s' + 0, none⟩), ?_, .v1 (.one (.c0 (.ptr _ _ _ _ b hτ)))⟩
              simp [execOp, Instr.indexAt, e2, hz, asIntOf, run_und hu, hb1, hb2, run_sz hn, add_eq, Nat.add_mul]
        · cases he
      · cases he
    · rename_i len e hu
      obtain ⟨n, hn, hc⟩ := bind_some' hc
      obtain ⟨x', hx, hc⟩ := bind_some' hc
      obtain ⟨i', hi, rfl⟩ := map_some' hc
      have h1 := opd_sound h hx
      have h2 := opd_sound h hi
      simp only [evQ] at he
      have run : ∀ b off m k, a.eval x = .pointer (some ⟨b, off, none⟩) → a.eval i = .int k m → 0 ≤ m → m < (len : Int) →
          (execOp a.eval ⟨dst, .indexAddr t x i, type, pos, after, guard⟩).run P w = .ok (.value (.pointer (some ⟨b, off + m.toNat * n, none⟩))) w := by
        intro b off m k e1 e2 g1 g2
        have ht : (match TypeDesc.array len e with | .array _ _ => true | _ => false) = true := rfl
        simp [execOp, Instr.indexAt, e2, e1, asIntOf, run_und hu, Instr.sureAddr, g1, g2, run_sz hn, add_eq]
      split at he
      · rename_i t' s' k m hr hm
        rw [hr] at h1; rw [hm] at h2
        have e2 := int_inv h2
        obtain ⟨b, e1, hb'⟩ := ptr_inv h1
        split at he
        · rename_i hb
          obtain ⟨rfl, hb1, hb2⟩ := hb
          cases he
          refine ⟨_, run b _ m k e1 e2 hb1 hb2, ?_⟩
          have := C0.ptr (A := A) (w := w) t' m.toNat s' 0 b hb'
          simpa using VRel.v1 (V1.one (CRel.c0 this))
        · cases he
      · rename_i cells k m hr hm
        rw [hr] at h1; rw [hm] at h2
        have e2 := int_inv h2
        obtain ⟨b, off, e1, hA, hat⟩ := box_inv h1
        split at he
        · rename_i hb
          obtain ⟨hb1, hb2⟩ := hb
          cases he
          exact ⟨_, run b _ m k e1 e2 hb1 hb2, boxrel hA (hat.dropAt _)⟩
        · cases he
      · cases he
    · cases hc
  case extract t i =>
    obtain ⟨x', hx, rfl⟩ := map_some' hc
    have h1 := opd_sound h hx
    simp only [evQ] at he
    split at he
    · rename_i vs hb
      rw [hb] at h1
      generalize hz : a.eval t = z at h1
      cases h1 with
      | v1 h => cases h
      | tup h2 =>
        obtain ⟨y, hy, hr⟩ := h2.get i v he
        exact ⟨y, by simp [execOp, hz, Instr.extract, hy], .v1 hr⟩
    · cases he
  case call c =>
    obtain ⟨callee, args, argTypes⟩ := c
    cases callee with
    | value f => simp only [compQ] at hc; cases hc
    | invoke r m => simp only [compQ] at hc; cases hc
    | builtin b =>
      cases b <;> simp only [compQ] at hc <;> (try (cases hc; done))
      split at hc
      · rename_i x e hargs hu
        obtain ⟨x', hx, rfl⟩ := map_some' hc
        have h1 := opd_sound h hx
        obtain ⟨t0, ht0, hu⟩ := bind_some' hu
        have hargs' : args = #[x] := by
          apply Array.ext'; simpa using hargs
        subst hargs'
        have run : ∀ base n cap, a.eval x = .slice base n cap → (execOp a.eval ⟨dst, .call ⟨.builtin .len, #[x], argTypes⟩, type, pos, after, guard⟩).run P w = .ok (.value (.int .i64 n)) w := by
          intro base n cap e1
          simp [execOp, resolve, invoke, builtin, Builtin.len_, ht0, run_und hu, e1, goInt]
        simp only [evQ] at he
        split at he
        · rename_i rows hr
          rw [hr] at h1
          cases he
          have h3 := p_inv h1
          generalize hz : a.eval x = z at h3
          cases h3 with
          | nil a' cap => exact ⟨_, run _ _ _ hz, pint_rel _ _⟩
          | sl _ b off cap s' hA hs hl hcap hat => exact ⟨_, run _ _ _ hz, pint_rel _ _⟩
        · rename_i hr
          rw [hr] at h1
          cases he
          have h3 := one_inv h1
          generalize hz : a.eval x = z at h3
          cases h3 with | c0 h3 => cases h3; exact ⟨_, run _ _ _ hz, pint_rel _ _⟩
        · rename_i t' o' s' len cap hr
          rw [hr] at h1
          cases he
          have h3 := one_inv h1
          generalize hz : a.eval x = z at h3
          cases h3 with | c0 h3 => cases h3 with
            | mslN => exact ⟨_, run _ _ _ hz, pint_rel _ _⟩
            | msl => exact ⟨_, run _ _ _ hz, pint_rel _ _⟩
        · cases he
      · cases hc

end Go.AM

