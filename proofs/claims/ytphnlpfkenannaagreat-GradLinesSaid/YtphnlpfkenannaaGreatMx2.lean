import Derived.Test.YtphnlpfkenannaaGreatMx1
import Derived.Laws.Externs
import Derived.Lib.Overlaps
set_option linter.unusedVariables false
set_option linter.unusedSimpArgs false
namespace Go.AM
open Go.RowKit (Below)
variable {P : Program} {G : Ground} {s : AS} {a : Act} {w : World} {A : Nat → Prop} {τ : Tau}
def Gives (P : Program) (a : Act) (w : World) (A : Nat → Prop) (τ : Tau) (o : Oper) (v : AV) : Prop :=
  ∃ x, (execOp a.eval o).run P w = .ok (.value x) w ∧ VRel A τ w v x
theorem bind_some' {α β : Type} {x : Option α} {f : α → Option β} {b : β} (h : x.bind f = some b) : ∃ a, x = some a ∧ f a = some b := by
  cases x with
  | none => simp at h
  | some a => exact ⟨a, rfl, h⟩
theorem map_some' {α β : Type} {x : Option α} {f : α → β} {b : β} (h : x.map f = some b) : ∃ a, x = some a ∧ f a = b := by
  cases x with
  | none => simp at h
  | some a => exact ⟨a, rfl, by simpa using h⟩
theorem ints_sound {op : BinOp} {k : IntKind} {m n : Int} {v : AV} (he : evBin op k m n = some v) (hop : op ≠ .shl ∧ op ≠ .shr) (t : TypeId) :
    ∃ x, (binOp op t (.int k m) (.int k n)).run P w = .ok x w ∧ VRel A τ w v x := by
  cases op <;> simp only [evBin] at he <;>
    first
      | (cases he; first
          | exact ⟨_, rfl, pbool_rel _⟩
          | exact ⟨_, rfl, pint_rel _ _⟩
          | (refine ⟨_, ?_, pint_rel _ _⟩; simp [binOp, Op.intArith, Op.intBits, andZ, orZ, xorZ]; done)
          | (refine ⟨_, ?_, pbool_rel _⟩; simp [binOp, Op.intCmp]; done))
      | (split at he
         · cases he
         · rename_i hz
           cases he
           refine ⟨_, ?_, pint_rel _ _⟩
           simp [binOp, Op.intDiv, hz])
      | (exact absurd rfl hop.1)
      | (exact absurd rfl hop.2)
      | cases he
theorem bin_sound {op : BinOp} {x y : AV} {u v : Value} {r : AV} (hx : VRel A τ w x u) (hy : VRel A τ w y v)
    (he : evBinV op x y = some r) (t : TypeId) :
    (∀ us, u ≠ .agg us) ∧ u ≠ .nilIface ∧ ∃ z, (binOp op t u v).run P w = .ok z w ∧ VRel A τ w r z := by
  unfold evBinV at he
  split at he
  · have h1 := int_inv hx
    have h2 := int_inv hy
    subst h1 h2
    split at he
    · cases he
    · rename_i hn
      cases he
      refine ⟨(fun _ h => by cases h), (fun h => by cases h), _, ?_, pint_rel _ _⟩
      simp [binOp, Op.shift, hn, shlZ, shrZ]
  · have h1 := int_inv hx
    have h2 := int_inv hy
    subst h1 h2
    split at he
    · cases he
    · rename_i hn
      cases he
      refine ⟨(fun _ h => by cases h), (fun h => by cases h), _, ?_, pint_rel _ _⟩
      simp [binOp, Op.shift, hn, shlZ, shrZ]
  · rename_i hop1 hop2
    have h1 := int_inv hx
    have h2 := int_inv hy
    subst h1 h2
    split at he
    · rename_i hk
      subst hk
      refine ⟨(fun _ h => by cases h), (fun h => by cases h), ?_⟩
      refine ints_sound he ⟨fun h => ?_, fun h => ?_⟩ t
      · exact hop1 h
      · exact hop2 h
    · cases he
  · cases he
theorem acs_sound {vs : List AV} {xs : List Value} (h : All2 (VRel A τ w) vs xs) : ∀ {cs : List AC}, acs vs = some cs → All2 (CRel A τ w) cs xs := by
  induction h with
  | nil => intro cs hc; simp [acs] at hc; subst hc; exact .nil
  | @cons v x vs xs hv _ ih =>
    intro cs hc
    cases v with
    | one c =>
      simp only [acs] at hc
      obtain ⟨cs', h1, rfl⟩ := map_some' hc
      exact .cons (one_inv hv) (ih h1)
    | agg => simp [acs] at hc
    | tup => simp [acs] at hc
    | top => simp [acs] at hc
    | und => simp [acs] at hc
theorem pvs_sound {cs : List AC} {xs : List Value} (h : All2 (CRel A τ w) cs xs) : ∀ {vs : List PV}, pvs cs = some vs → All2 (PRel A w) vs xs := by
  induction h with
  | nil => intro vs hc; simp [pvs] at hc; subst hc; exact .nil
  | @cons c x cs xs hv _ ih =>
    intro vs hc
    cases c <;> simp only [pvs] at hc <;> (try (cases hc; done))
    · obtain ⟨vs', h1, rfl⟩ := map_some' hc
      exact .cons (p_inv (.v1 (.one hv))) (ih h1)
    · obtain ⟨vs', h1, rfl⟩ := map_some' hc
      refine .cons ?_ (ih h1)
      cases hv with | c0 hv => cases hv; exact .nil none 0
theorem c0s_sound {cs : List AC} {xs : List Value} (h : All2 (CRel A τ w) cs xs) (hok : ∀ c ∈ cs, C0ok c = true) : All2 (C0 A τ w) cs xs :=
  h.stepL hok fun c _ hc hr => by
    cases hr with
    | c0 h => exact h
    | mfn => simp [C0ok] at hc
theorem asCells_sound {v : AV} {x : Value} {cs : List AC} (h : VRel A τ w v x) (hc : asCells v = some cs) : All2 (CRel A τ w) cs x.cells.toList := by
  cases v with
  | one c =>
    cases hc
    have := one_inv h
    have h1 := this.cell1
    cases x <;> first | (simp [cell1] at h1; done) | exact .cons this .nil
  | agg cs' =>
    cases hc
    cases h with | v1 h => cases h with | agg h => exact h
  | tup => cases hc
  | top => cases hc
  | und => cases hc
theorem foldl_cells : ∀ (vs : List Value) (pre post mid : List Value), mid.length = vs.length →
    ((vs.zipIdx pre.length).foldl (fun (cs : Array Value) (p : Value × Nat) => cs.setIfInBounds p.2 p.1) ⟨pre ++ mid ++ post⟩) = ⟨pre ++ vs ++ post⟩
  | [], pre, post, mid, h => by
    have : mid = [] := List.length_eq_zero_iff.1 h
    subst this; simp
  | v :: vs, pre, post, mid, h => by
    obtain ⟨m, mid', rfl⟩ : ∃ m mid', mid = m :: mid' := by
      cases mid with
      | nil => simp at h
      | cons m mid' => exact ⟨m, mid', rfl⟩
    simp only [List.zipIdx_cons, List.foldl_cons]
    have e1 : (⟨pre ++ (m :: mid') ++ post⟩ : Array Value).setIfInBounds pre.length v = ⟨(pre ++ [v]) ++ mid' ++ post⟩ := by
      apply Array.ext'
      simp
    rw [e1]
    have := foldl_cells vs (pre ++ [v]) post mid' (by simpa using h)
    simp only [List.length_append, List.length_cons, List.length_nil, Nat.zero_add] at this
    rw [this]
    simp
theorem fold_fill (off : Nat) (vs : List Value) (cells : List Value) (h : off + vs.length ≤ cells.length) :
    ((Array.zipIdx ⟨vs⟩).foldl (fun (cs : Array Value) (p : Value × Nat) => cs.setIfInBounds (off + p.2) p.1) ⟨cells⟩) = ⟨cells.take off ++ vs ++ cells.drop (off + vs.length)⟩ := by
  have hsplit : cells = cells.take off ++ ((cells.drop off).take vs.length) ++ cells.drop (off + vs.length) := by
    rw [List.append_assoc, ← List.drop_drop, List.take_append_drop, List.take_append_drop]
  have h1 := foldl_cells vs (cells.take off) (cells.drop (off + vs.length)) ((cells.drop off).take vs.length) (by simp; omega)
  rw [← hsplit] at h1
  have hlen : (cells.take off).length = off := by simp; omega
  rw [hlen] at h1
  rw [← h1]
  rw [show (Array.zipIdx (⟨vs⟩ : Array Value)) = ⟨vs.zipIdx⟩ from by simp]
  rw [List.foldl_toArray' _ _ _ (by simp)]
  have : ∀ (l : List Value) (k : Nat) (init : Array Value), (l.zipIdx k).foldl (fun (cs : Array Value) (p : Value × Nat) => cs.setIfInBounds (off + p.2) p.1) init =
      (l.zipIdx (off + k)).foldl (fun (cs : Array Value) (p : Value × Nat) => cs.setIfInBounds p.2 p.1) init := by
    intro l
    induction l with
    | nil => intro k init; rfl
    | cons x l ih => intro k init; simp only [List.zipIdx_cons, List.foldl_cons]; exact ih (k + 1) _
  have := this vs 0 ⟨cells⟩
  simpa using this
theorem fill_sound {place : Nat → Option (Nat × Nat)} : ∀ {l : List (Nat × List AC)} {qs : List (Nat × Value)} {z : List AC} {xs : List Value},
    All2 (fun (p : Nat × List AC) (q : Nat × Value) => place q.1 = some (p.1, p.2.length) ∧ All2 (CRel A τ w) p.2 q.2.cells.toList) l qs → All2 (CRel A τ w) z xs →
    (∀ p ∈ l, p.1 + p.2.length ≤ z.length) → ∃ ys, Instr.fill place ⟨xs⟩ qs = some ⟨ys⟩ ∧ All2 (CRel A τ w) (fillC z l) ys
  | [], [], z, xs, _, hz, _ => ⟨xs, rfl, hz⟩
  | p :: l, q :: qs, z, xs, .cons ⟨h1, h2⟩ ht, hz, hb => by
    have hlen := h2.length
    have hlz := hz.length
    have hb0 := hb p (by simp)
    obtain ⟨ys, hy1, hy2⟩ := fill_sound (place := place) (z := z.take p.1 ++ p.2 ++ z.drop (p.1 + p.2.length)) (xs := xs.take p.1 ++ q.2.cells.toList ++ xs.drop (p.1 + p.2.length)) ht
      (((hz.take _).append h2).append (hz.drop _)) (fun r hr => by
        have := hb r (by simp [hr])
        simp; omega)
    refine ⟨ys, ?_, hy2⟩
    obtain ⟨qi, qv⟩ := q
    simp only [Instr.fill, h1]
    have hsz : qv.cells.size = p.2.length := by simpa using hlen.symm
    have hsz2 : qv.cells.size ≤ xs.length := by omega
    rw [if_neg (by simp [hsz]; omega)]
    rw [← hy1]
    have hf := fold_fill p.1 qv.cells.toList xs (by simp [hsz]; omega)
    simp only [Array.toArray_toList, Array.length_toList, hsz] at hf
    rw [← hf]
theorem parts_sound (h : SimAt G s a w A τ) {fs : Array Field} : ∀ {ps : List (Nat × Operand)} {ps' : List (Nat × Nat × Opd)} {l : List (Nat × List AC)}, places P fs ps = some ps' → parts s.env ps' = some l →
    All2 (fun (p : Nat × List AC) (q : Nat × Value) => ((fs[q.1]?).bind fun f => (szOf P f.type).map fun n => (f.offset, n)) = some (p.1, p.2.length) ∧ All2 (CRel A τ w) p.2 q.2.cells.toList) l (ps.map fun p => (p.1, a.eval p.2))
  | [], ps', l, hp, hl => by
    simp [places] at hp; subst hp; simp [parts] at hl; subst hl; exact .nil
  | (i, x) :: ps, ps', l, hp, hl => by
    simp only [places] at hp
    obtain ⟨f, hf, hp⟩ := bind_some' hp
    obtain ⟨n, hn, hp⟩ := bind_some' hp
    obtain ⟨y, hy, hp⟩ := bind_some' hp
    obtain ⟨ps2, hp2, rfl⟩ := map_some' hp
    simp only [parts] at hl
    split at hl
    · rename_i cs hcs
      split at hl
      · rename_i hlen
        obtain ⟨l2, hl2, rfl⟩ := map_some' hl
        refine .cons ⟨?_, ?_⟩ (parts_sound h hp2 hl2)
        · simp [hf, hn, hlen]
        · exact asCells_sound (opd_sound h hy) hcs
      · cases hl
    · cases hl
theorem run_mapM_places : ∀ (fs : List Field), (∀ f ∈ fs, (szOf P f.type).isSome = true) →
    (fs.mapM (fun f => do pure (f.offset, ← sizeOf f.type)) : Sem (List (Nat × Nat))).run P w = .ok (fs.map fun f => (f.offset, (szOf P f.type).getD 0)) w
  | [], _ => by simp
  | f :: fs, h => by
    obtain ⟨n, hn⟩ := Option.isSome_iff_exists.1 (h f (by simp))
    have ih := run_mapM_places fs (fun g hg => h g (by simp [hg]))
    simp only [List.mapM_cons, Sem.run_bind, run_sz hn, Result.andThen_ok, Sem.run_pure, ih]
    simp [hn]
theorem build_struct (h : SimAt G s a w A τ) {fs : Array Field} (hfs : fs.all (fun f => (szOf P f.type).isSome) = true) {ps : Array (Nat × Operand)} {ps' : List (Nat × Nat × Opd)} {l : List (Nat × List AC)}
    (hp : places P fs ps.toList = some ps') (hl : parts s.env ps' = some l) {z : Array Value} {z' : List AC} (hz : All2 (CRel A τ w) z' z.toList) (hb : ∀ p ∈ l, p.1 + p.2.length ≤ z'.length) :
    ∃ xs, (do
      let places ← fs.mapM fun f => do pure (f.offset, ← sizeOf f.type)
      let some cells := Instr.fill (places[·]?) z (ps.map fun (i, x) => (i, a.eval x)).toList | stuck "build: no such field, or a part of the wrong size"
      pure (Value.agg cells) : Sem Value).run P w = .ok (.agg ⟨xs⟩) w ∧ All2 (CRel A τ w) (fillC z' l) xs := by
  have hall : ∀ f ∈ fs.toList, (szOf P f.type).isSome = true := fun f hf => by
    have := Array.all_eq_true'.1 hfs f (Array.mem_toList_iff.1 hf)
    exact this
  have hmap : (fs.mapM (fun f => do pure (f.offset, ← sizeOf f.type)) : Sem (Array (Nat × Nat))).run P w = .ok ⟨fs.toList.map fun f => (f.offset, (szOf P f.type).getD 0)⟩ w := by
    have := run_mapM_places (P := P) (w := w) fs.toList hall
    rw [Array.mapM_eq_mapM_toList]
    simp only [Sem.run_map, this, Result.andThen_ok]
  have hparts := parts_sound (P := P) h hp hl
  obtain ⟨ys, hy1, hy2⟩ := fill_sound (A := A) (τ := τ) (w := w) (place := fun i => (⟨fs.toList.map fun f => (f.offset, (szOf P f.type).getD 0)⟩ : Array (Nat × Nat))[i]?) (z := z') (xs := z.toList)
    (hparts.mono (fun p q hpq => ⟨by
      obtain ⟨h1, _⟩ := hpq
      obtain ⟨f, hf, h1⟩ := bind_some' h1
      obtain ⟨n, hn, h1⟩ := map_some' h1
      simp only [List.getElem?_toArray, List.getElem?_map, Array.getElem?_toList, hf, Option.map_some, hn, Option.getD_some]
      exact congrArg some h1, hpq.2⟩)) hz hb
  refine ⟨ys, ?_, hy2⟩
  simp only [Sem.run_bind, hmap, Result.andThen_ok]
  have e : (ps.map fun (i, x) => (i, a.eval x)).toList = ps.toList.map fun p => (p.1, a.eval p.2) := by simp
  rw [e]
  simp only [Array.toArray_toList] at hy1
  rw [hy1]
  rfl
theorem partsA_sound (h : SimAt G s a w A τ) {n : Nat} : ∀ {ps : List (Nat × Operand)} {ps' : List (Nat × Nat × Opd)} {l : List (Nat × List AC)}, placesA n ps = some ps' → parts s.env ps' = some l →
    All2 (fun (p : Nat × List AC) (q : Nat × Value) => some (q.1 * n, n) = some (p.1, p.2.length) ∧ All2 (CRel A τ w) p.2 q.2.cells.toList) l (ps.map fun p => (p.1, a.eval p.2))
  | [], ps', l, hp, hl => by
    simp [placesA] at hp; subst hp; simp [parts] at hl; subst hl; exact .nil
  | (i, x) :: ps, ps', l, hp, hl => by
    simp only [placesA] at hp
    obtain ⟨y, hy, hp⟩ := bind_some' hp
    obtain ⟨ps2, hp2, rfl⟩ := map_some' hp
    simp only [parts] at hl
    split at hl
    · rename_i cs hcs
      split at hl
      · rename_i hlen
        obtain ⟨l2, hl2, rfl⟩ := map_some' hl
        refine .cons ⟨?_, ?_⟩ (partsA_sound h hp2 hl2)
        · simp [hlen]
        · exact asCells_sound (opd_sound h hy) hcs
      · cases hl
    · cases hl
theorem build_array (h : SimAt G s a w A τ) {n : Nat} {ps : Array (Nat × Operand)} {ps' : List (Nat × Nat × Opd)} {l : List (Nat × List AC)}
    (hp : placesA n ps.toList = some ps') (hl : parts s.env ps' = some l) {z : Array Value} {z' : List AC} (hz : All2 (CRel A τ w) z' z.toList) (hb : ∀ p ∈ l, p.1 + p.2.length ≤ z'.length) :
    ∃ xs, (do
      let some cells := Instr.fill (fun i => some (i * n, n)) z (ps.map fun (i, x) => (i, a.eval x)).toList | stuck "build: a part of the wrong size"
      pure (Value.agg cells) : Sem Value).run P w = .ok (.agg ⟨xs⟩) w ∧ All2 (CRel A τ w) (fillC z' l) xs := by
  have hparts := partsA_sound h hp hl
  obtain ⟨ys, hy1, hy2⟩ := fill_sound (A := A) (τ := τ) (w := w) (place := fun i => some (i * n, n)) (z := z') (xs := z.toList) hparts hz hb
  refine ⟨ys, ?_, hy2⟩
  have e : (ps.map fun (i, x) => (i, a.eval x)).toList = ps.toList.map fun p => (p.1, a.eval p.2) := by simp
  rw [e]
  simp only [Array.toArray_toList] at hy1
  rw [hy1]
  rfl
theorem take_flat {α : Type} (n : Nat) : ∀ (rows : List (List α)), (∀ r ∈ rows, r.length = n) → ∀ (i : Nat), i ≤ rows.length → (rows.take i).flatten = rows.flatten.take (i * n)
  | rows, _, 0, _ => by simp
  | [], _, i + 1, h => by simp at h
  | r0 :: rows, hs, i + 1, h => by
    have h0 := hs r0 (by simp)
    have ih := take_flat n rows (fun q hq => hs q (by simp [hq])) i (by simpa using h)
    have e1 : (i + 1) * n = r0.length + i * n := by rw [Nat.add_mul, Nat.one_mul, h0]; omega
    simp only [List.take_succ_cons, List.flatten_cons, ih, e1, List.take_length_add_append]
theorem drop_flat {α : Type} (n : Nat) : ∀ (rows : List (List α)), (∀ r ∈ rows, r.length = n) → ∀ (i : Nat), i ≤ rows.length → (rows.drop i).flatten = rows.flatten.drop (i * n)
  | rows, _, 0, _ => by simp
  | [], _, i + 1, h => by simp at h
  | r0 :: rows, hs, i + 1, h => by
    have h0 := hs r0 (by simp)
    have ih := drop_flat n rows (fun q hq => hs q (by simp [hq])) i (by simpa using h)
    have e1 : (i + 1) * n = r0.length + i * n := by rw [Nat.add_mul, Nat.one_mul, h0]; omega
    simp only [List.drop_succ_cons, List.flatten_cons, ih, e1, List.drop_length_add_append]
theorem All2.mapL' {α β γ : Type} {R : α → β → Prop} {S : γ → β → Prop} {f : α → γ} {az : List α} {bs : List β} (h : All2 R az bs) (k : ∀ a b, R a b → S (f a) b) : All2 S (az.map f) bs := by
  induction h with
  | nil => exact .nil
  | cons h _ ih => exact .cons (k _ _ h) ih
def Bd (v : Option Value) (d n : Int) : Prop := (v = none ∧ n = d) ∨ ∃ k, v = some (.int k n)
theorem bnd_sound (h : SimAt G s a w A τ) {o : Option Operand} {x : Option Opd} (ho : opdO o = some x) {d n : Int} (hb : bndI s.env d x = some n) : Bd (o.map a.eval) d n ∧ (x.isSome = o.isSome) := by
  cases o with
  | none =>
    simp only [opdO] at ho; cases ho
    simp only [bndI] at hb; cases hb
    exact ⟨.inl ⟨rfl, rfl⟩, rfl⟩
  | some o =>
    simp only [opdO] at ho
    obtain ⟨y, hy, rfl⟩ := map_some' ho
    have h1 := opd_sound h hy
    simp only [bndI] at hb
    split at hb
    · rename_i k m hg
      rw [hg] at h1
      cases hb
      exact ⟨.inr ⟨k, by rw [Option.map_some, int_inv h1]⟩, rfl⟩
    · cases hb
theorem run_bound {x : Value} {k : IntKind} {n : Int} {y : Nat} {c : BoundsCode} (hx : x = .int k n) (h0 : 0 ≤ n) (h1 : n ≤ y) : (Instr.sliceBound x y c).run P w = .ok n.toNat w := by
  subst hx
  simp [Instr.sliceBound, asIntOf, h0, h1]
theorem run_bounds {b : Bool} {len cap : Nat} {lo hi mx : Option Value} {l h m : Int} (hl : Bd lo 0 l) (hh : Bd hi len h) (hm : Bd mx cap m) (hn : hi = none → mx = none)
    (h0 : 0 ≤ l) (h1 : l ≤ h) (h2 : h ≤ m) (h3 : m ≤ cap) : (Instr.sliceBounds b len cap lo hi mx).run P w = .ok (l.toNat, h.toNat, m.toNat) w := by
  rcases hm with ⟨rfl, rfl⟩ | ⟨km, rfl⟩
  · rcases hh with ⟨rfl, rfl⟩ | ⟨kh, rfl⟩
    · rcases hl with ⟨rfl, rfl⟩ | ⟨kl, rfl⟩
      · simp [Instr.sliceBounds]
      · simp [Instr.sliceBounds, run_bound (P := P) (w := w) (x := .int kl l) rfl h0 h1]
    · have e1 : ∀ c, (Instr.sliceBound (.int kh h) cap c).run P w = .ok h.toNat w := fun c => run_bound rfl (by omega) (by omega)
      rcases hl with ⟨rfl, rfl⟩ | ⟨kl, rfl⟩
      · simp [Instr.sliceBounds, e1]
      · have e2 : ∀ c, (Instr.sliceBound (.int kl l) h.toNat c).run P w = .ok l.toNat w := fun c => run_bound rfl (by omega) (by omega)
        simp [Instr.sliceBounds, e1, e2]
  · have e0 : ∀ c, (Instr.sliceBound (.int km m) cap c).run P w = .ok m.toNat w := fun c => run_bound rfl (by omega) (by omega)
    rcases hh with ⟨rfl, rfl⟩ | ⟨kh, rfl⟩
    · cases hn rfl
    · have e1 : ∀ c, (Instr.sliceBound (.int kh h) m.toNat c).run P w = .ok h.toNat w := fun c => run_bound rfl (by omega) (by omega)
      rcases hl with ⟨rfl, rfl⟩ | ⟨kl, rfl⟩
      · simp [Instr.sliceBounds, e0, e1]
      · have e2 : ∀ c, (Instr.sliceBound (.int kl l) h.toNat c).run P w = .ok l.toNat w := fun c => run_bound rfl (by omega) (by omega)
        simp [Instr.sliceBounds, e0, e1, e2]
theorem run_slice {t e : TypeId} (hu : P.underlying t = some (.slice e)) {n : Nat} (hn : szOf P e = some n) {base : Option Addr} {len cap : Nat} {lo hi mx : Option Value} {l h m : Int}
    (hl : Bd lo 0 l) (hh : Bd hi len h) (hm : Bd mx cap m) (hno : hi = none → mx = none) (h0 : 0 ≤ l) (h1 : l ≤ h) (h2 : h ≤ m) (h3 : m ≤ cap) :
    (Instr.sliceAt t (.slice base len cap) lo hi mx).run P w = .ok (.slice (if m.toNat = l.toNat then base else base.map (·.add (l.toNat * n))) (h.toNat - l.toNat) (m.toNat - l.toNat)) w := by
  have := run_bounds (P := P) (w := w) (b := true) hl hh hm hno h0 h1 h2 h3
  simp only [Instr.sliceAt, Instr.slice, Sem.run_bind, run_und hu, Result.andThen_ok, this, run_sz hn, Sem.run_pure]
theorem run_sliceA {t e : TypeId} {k : Nat} (hu : P.underlying t = some (.array k e)) {n : Nat} (hn : szOf P e = some n) {ad : Addr} {lo hi mx : Option Value} {l h m : Int}
    (hl : Bd lo 0 l) (hh : Bd hi k h) (hm : Bd mx k m) (hno : hi = none → mx = none) (h0 : 0 ≤ l) (h1 : l ≤ h) (h2 : h ≤ m) (h3 : m ≤ k) :
    (Instr.sliceAt t (.pointer (some ad)) lo hi mx).run P w = .ok (.slice (some (if m.toNat = l.toNat then ad else ad.add (l.toNat * n))) (h.toNat - l.toNat) (m.toNat - l.toNat)) w := by
  have := run_bounds (P := P) (w := w) (b := false) hl hh hm hno h0 h1 h2 h3
  simp only [Instr.sliceAt, Sem.run_bind, run_und hu, Result.andThen_ok, this, run_sz hn, Sem.run_pure, Instr.sureAddr]
theorem room_le (h : SimAt G s a w A τ) {t o n len : Nat} {cap : Option Nat} {base : Option Addr} {c : Nat} (hr : CRel A τ w (.msl t o n len cap) (.slice base len c)) : roomOf s.σ t o n len cap ≤ c := by
  cases hr with | c0 hr => cases hr with
    | mslN _ _ _ _ b hτ hc =>
      cases cap with
      | some k => have := hc k rfl; simp [roomOf, this]
      | none =>
        simp only [roomOf]
        split
        · rename_i m s2 rows hold
          have ho := h.obj t
          rw [hold] at ho
          obtain ⟨_, _, ⟨_, rfl⟩ | ⟨b', xs, e, g1, _⟩⟩ := ho
          · split <;> simp
          · rw [hτ] at g1; cases g1
        · simp
    | msl _ _ _ _ b _ _ hτ hc hl hr =>
      obtain ⟨cs, e, h1, h2, h3⟩ := hr
      cases cap with
      | some k => have := hc k rfl; simp [roomOf, this]
      | none =>
        have h4 := h3 rfl
        simp only [roomOf]
        split
        · rename_i m s2 rows hold
          split
          · rename_i hs
            obtain ⟨rfl, hs0⟩ := hs
            have ho := h.obj t
            rw [hold] at ho
            obtain ⟨_, _, ⟨g, _⟩ | ⟨b', xs, e', g1, g2, g3, _⟩⟩ := ho
            · rw [hτ] at g; cases g
            · rw [hτ] at g1; cases g1
              rw [h1] at g2; cases g2
              have h5 : rows.length * s2 ≤ (o + c) * s2 := by omega
              have h6 := Nat.le_of_mul_le_mul_right h5 (Nat.pos_of_ne_zero hs0)
              omega
          · exact hl
        · exact hl
theorem slcC_sound (h : SimAt G s a w A τ) {t o n len : Nat} {cap : Option Nat} {base : Option Addr} {c : Nat} (hr : CRel A τ w (.msl t o n len cap) (.slice base len c)) {l h' m : Nat} {mo : Option Nat}
    (hm : (mo = none ∧ m = c) ∨ mo = some m) (h1 : l ≤ h') (h2 : h' ≤ m) (h3 : m ≤ c) :
    CRel A τ w (slcC t o n l h' cap mo) (.slice (if m = l then base else base.map (·.add (l * n))) (h' - l) (m - l)) := by
  have nilr : ∀ (b : Option Addr) k, CRel A τ w (.p (.sl [])) (.slice b 0 k) := fun b k => .c0 (.p _ _ (.nil b k))
  cases hr with | c0 hr => cases hr with
    | mslN _ _ _ _ b hτ hc =>
      have hm0 : m = 0 := by omega
      have hl0 : l = 0 := by omega
      have hh0 : h' = 0 := by omega
      subst hm0 hl0 hh0
      rcases hm with ⟨rfl, _⟩ | rfl
      · simp only [slcC, if_true, Nat.sub_self]
        exact .c0 (.mslN t o n cap base hτ hc)
      · simp only [slcC, if_true, Nat.sub_self]
        exact .c0 (.mslN t o n (some 0) base hτ (fun k hk => by cases hk; rfl))
    | msl _ _ _ _ b _ _ hτ hc hl hr =>
      obtain ⟨cs, e, r1, r2, r3⟩ := hr
      have hoc : ∀ k, k ≤ c → (o + k) * n ≤ cs.size := fun k hk => Nat.le_trans (Nat.mul_le_mul_right n (by omega)) r2
      have zero : CRel A τ w (.msl t o n 0 (some 0)) (.slice (some ⟨b, o * n, none⟩) 0 0) :=
        .c0 (.msl t o n 0 b 0 (some 0) hτ (fun k hk => by cases hk; rfl) (Nat.le_refl 0) ⟨cs, e, r1, hoc 0 (Nat.zero_le _), fun hk => by cases hk⟩)
      have part : ∀ (k : Nat) (cp : Option Nat), l + k ≤ c → h' - l ≤ k → (∀ q, cp = some q → k = q) → (cp = none → l + k = c ∧ cap = none) →
          CRel A τ w (.msl t (o + l) n (h' - l) cp) (.slice (some ((⟨b, o * n, none⟩ : Addr).add (l * n))) (h' - l) k) := by
        intro k cp hk hhk hq hnone
        rw [add_eq, ← Nat.add_mul]
        refine .c0 (.msl t (o + l) n (h' - l) b k cp hτ hq hhk ⟨cs, e, r1, by rw [Nat.add_assoc]; exact hoc _ hk, fun hk' => ?_⟩)
        obtain ⟨e1, e2⟩ := hnone hk'
        rw [Nat.add_assoc, e1]; exact r3 e2
      rcases hm with ⟨rfl, rfl⟩ | rfl
      · simp only [slcC]
        split
        · rename_i hl0
          subst hl0
          simp only [Nat.sub_zero]
          have : (if m = 0 then some (⟨b, o * n, none⟩ : Addr) else (some (⟨b, o * n, none⟩ : Addr)).map (·.add (0 * n))) = some ⟨b, o * n, none⟩ := by
            split
            · rfl
            · rw [Nat.zero_mul, Option.map_some, add_eq]; rfl
          rw [this]
          exact .c0 (.msl t o n h' b m cap hτ hc h2 ⟨cs, e, r1, r2, r3⟩)
        · rename_i hl0
          split
          · rename_i hlt
            rw [if_neg (by omega)]
            refine part (m - l) _ (by omega) (by omega) (fun q hq => ?_) (fun hn => ⟨by omega, by cases cap with | none => rfl | some k => cases hn⟩)
            cases cap with
            | none => cases hq
            | some k => have := hc k rfl; simp only [Option.map_some, Option.some.injEq] at hq; omega
          · have hlh : h' = l := by omega
            subst hlh
            cases cap with
            | none => simp only [Nat.sub_self]; exact nilr _ _
            | some k =>
              obtain rfl := hc k rfl
              simp only
              split
              · rename_i hk; rw [if_pos hk.symm, Nat.sub_self]; subst hk; rw [Nat.sub_self]; exact zero
              · rename_i hk
                rw [if_neg (fun e => hk e.symm)]
                have := part (m - h') (some (m - h')) (by omega) (by omega) (fun q hq => by cases hq; rfl) (fun hn => by cases hn)
                simpa using this
      · simp only [slcC]
        split
        · rename_i hlm
          subst hlm
          have hlh : h' = l := by omega
          subst hlh
          rw [if_pos rfl, Nat.sub_self]; exact zero
        · rename_i hlm
          rw [if_neg (fun e => hlm e.symm)]
          exact part (m - l) (some (m - l)) (by omega) (by omega) (fun q hq => by cases hq; rfl) (fun hn => by cases hn)
theorem slc_pure {rows : List (List PV)} {base : Option Addr} {len c n : Nat} (hr : PRel A w (.sl rows) (.slice base len c)) (hall : rows.all (fun r => r.length == n) = true) {l h' m : Nat} (h1 : l ≤ h') (h2 : h' ≤ m) (h3 : h' ≤ rows.length) :
    PRel A w (.sl ((rows.drop l).take (h' - l))) (.slice (if m = l then base else base.map (·.add (l * n))) (h' - l) (m - l)) := by
  have hs : ∀ r ∈ rows, r.length = n := fun r hr => by simpa using List.all_eq_true.1 hall r hr
  have hlen : ((rows.drop l).take (h' - l)).length = h' - l := by simp; omega
  by_cases h0 : h' - l = 0
  · have : (rows.drop l).take (h' - l) = [] := by rw [h0]; rfl
    rw [this, h0]
    exact .nil _ _
  · cases hr with
    | nil => simp at h3; omega
    | sl _ b off cap s' hA hs' hl hc hat =>
      rw [if_neg (by omega), Option.map_some, add_eq]
      have hat2 : PAt A w ((rows.drop l).take (h' - l)).flatten b (off + l * n) := by
        have h4 := PAt.part hat (l * n) ((h' - l) * n)
        have e : ((rows.drop l).take (h' - l)).flatten = (rows.flatten.drop (l * n)).take ((h' - l) * n) := by
          rw [take_flat n (rows.drop l) (fun r hr => hs r (List.mem_of_mem_drop hr)) (h' - l) (by simp; omega), drop_flat n rows hs l (by omega)]
        rw [e]
        exact h4
      have := Rel.sl (A := A) (w := w) ((rows.drop l).take (h' - l)) b (off + l * n) (m - l) n hA (fun r hr => hs r (List.mem_of_mem_drop (List.mem_of_mem_take hr))) (by rw [hlen]; omega) (by rw [hlen]; omega) hat2
      rw [hlen] at this
      exact this
theorem findE_sound {es : List (Int × Bool × List PV)} {xs : List MapEntry} (h : Rel A w (.en es xs)) (n : Int) : ∀ (i : Nat),
    match findE n es with
    | some r => ∃ j x, Instr.findNow (.int .i64) (.int .i64 n) xs i = some (some (j, x)) ∧ ∀ v, entV r = some v → VRel A τ w v x ∧ V1 A τ w v x
    | none => Instr.findNow (.int .i64) (.int .i64 n) xs i = some none := by
  induction es generalizing xs with
  | nil => intro i; cases h; simp [findE, Instr.findNow]
  | cons p es ih =>
    intro i
    cases h with
    | enOne k c x born es xs h t =>
      simp only [findE]
      by_cases hk : k = n
      · subst hk
        simp only [if_true]
        refine ⟨i, x, by simp [Instr.findNow, Instr.sameNow], fun v hv => ?_⟩
        simp only [entV] at hv; cases hv
        have : V1 A τ w (.one (.p c)) x := .one (.c0 (.p _ _ h))
        exact ⟨.v1 this, this⟩
      · rw [if_neg hk]
        have hk2 : (n == k) = false := by simpa using fun e => hk e.symm
        have := ih t (i + 1)
        simpa [Instr.findNow, Instr.sameNow, hk2] using this
    | enAgg k cs vs born es xs h t =>
      simp only [findE]
      by_cases hk : k = n
      · subst hk
        simp only [if_true]
        refine ⟨i, .agg ⟨vs⟩, by simp [Instr.findNow, Instr.sameNow], fun v hv => ?_⟩
        simp only [entV] at hv; cases hv
        have : V1 A τ w (.agg (cs.map .p)) (.agg ⟨vs⟩) := .agg ((PRels.all2.1 h).mapL' fun v x hr => .c0 (.p v x hr))
        exact ⟨.v1 this, this⟩
      · rw [if_neg hk]
        have hk2 : (n == k) = false := by simpa using fun e => hk e.symm
        have := ih t (i + 1)
        simpa [Instr.findNow, Instr.sameNow, hk2] using this
def ovlB (n : Nat) (a b : Option Addr) (la lb : Nat) : Sem Value := do
  match a, b with
  | some a, some b =>
    if la = 0 ∨ lb = 0 ∨ n = 0 then pure (Value.bool false)
    else if a.block != b.block && (← frozen a) && (← frozen b) then unsupported .addressObserved
    else do
      if a.block != b.block then do
        noView a; noView b
        if ← mayBeOne a b then return Value.bool ((← choose (.extern "sameAddr.stringBytes" 2)) == 1)
      pure (Value.bool (a.block == b.block && a.off < b.off + lb * n && b.off < a.off + la * n))
  | _, _ => pure (Value.bool false)
theorem run_ovl {params results : Array TypeId} {t0 e : TypeId} {n : Nat} (hp0 : params[0]? = some t0) (hu : P.underlying t0 = some (.slice e)) (hsz : szOf P e = some n) (a b : Option Addr) (la ca lb cb : Nat) :
    (Extern.SlicesOverlaps.overlaps params results #[.slice a la ca, .slice b lb cb]).run P w = (ovlB n a b la lb).run P w := by
  change Sem.run P (α := Value) (do
    let some t := params[0]? | stuck "slices.overlaps: no parameter types"
    let .slice elem ← underlying t | stuck "slices.overlaps: slice type expected"
    let size ← sizeOf elem
    ovlB size a b la lb) w = _
  simp only [hp0, Sem.run_bind, run_und hu, Result.andThen_ok, run_sz hsz]
theorem entries_sound (h : SimAt G s a w A τ) {x : Opd} {v : Value} (h1 : VRel A τ w (get s.env x) v) {es : List (Int × Bool × List PV)} (hes : entriesOf s.env s.σ x = some es) :
    ∃ b ces clock, v = .map (some b) ∧ w.heap[b]? = some (.map ces clock) ∧ Rel A w (.en es ces.toList) := by
  unfold entriesOf at hes
  split at hes
  · rename_i es' hr
    rw [hr] at h1
    cases hes
    cases p_inv h1 with
    | map _ b ces clock hA hb hen => exact ⟨b, ces, clock, rfl, hb, hen⟩
  · rename_i t' hr
    rw [hr] at h1
    split at hes
    · rename_i mu es' hold
      cases hes
      cases one_inv h1 with | c0 h3 => cases h3 with | mmap _ b hτ =>
        have ho := h.obj t'
        rw [hold] at ho
        obtain ⟨b', ces, clock, g1, g2, g3, _⟩ := ho
        rw [hτ] at g1; cases g1
        exact ⟨b, ces, clock, rfl, g2, g3⟩
    · cases hes
  · cases hes
theorem en_len {es : List (Int × Bool × List PV)} {xs : List MapEntry} (h : Rel A w (.en es xs)) : xs.length = es.length := by
  induction es generalizing xs with
  | nil => cases h; rfl
  | cons p es ih =>
    cases h with
    | enOne k c x born es xs h t => simp [ih t]
    | enAgg k cs vs born es xs h t => simp [ih t]
theorem compQ_sound {o : Oper} {q : QOp} {v : AV} (hc : compQ P o.op = some q) (h : SimAt G s a w A τ) (he : evQ q s.env s.σ = some v) : Gives P a w A τ o v := by
  obtain ⟨dst, op, type, pos, after, guard⟩ := o
  simp only at hc
  unfold Gives
  cases op <;> simp only [compQ] at hc <;> (try (cases hc; done))
  case move x =>
    obtain ⟨x', hx, rfl⟩ := map_some' hc
    simp only [evQ] at he; cases he
    exact ⟨_, rfl, opd_sound h hx⟩
  case assign x =>
    obtain ⟨x', hx, rfl⟩ := map_some' hc
    simp only [evQ] at he; cases he
    exact ⟨_, rfl, opd_sound h hx⟩
  case pick c x y =>
    obtain ⟨c', hc', hc⟩ := bind_some' hc
    obtain ⟨x', hx, hc⟩ := bind_some' hc
    obtain ⟨y', hy, rfl⟩ := map_some' hc
    have h1 := opd_sound h hc'
    simp only [evQ] at he
    split at he
    · rename_i t ht
      rw [ht] at h1
      have := bool_inv h1
      cases he
      refine ⟨if t then a.eval x else a.eval y, ?_, ?_⟩
      · simp [execOp, this, asBool]
      · cases t
        · exact opd_sound h hy
        · exact opd_sound h hx
    · cases he
  case load t x =>
    obtain ⟨n, hn, hc⟩ := bind_some' hc
    obtain ⟨g, hg, hc⟩ := bind_some' hc
    obtain ⟨x', hx, rfl⟩ := map_some' hc
    have h1 := opd_sound h hx
    simp only [evQ] at he
    split at he
    · rename_i cells hcells
      rw [hcells] at h1
      obtain ⟨b, off, e1, hA, hat⟩ := box_inv h1
      obtain ⟨z, hz, hv⟩ := ldP_sound (P := P) (τ := τ) hn hg hat he
      exact ⟨z, by simp [execOp, Instr.loadAt, Instr.sureAddr, e1, hz], hv⟩
    · rename_i t' i s' off hp
      rw [hp] at h1
      obtain ⟨b, e1, hb⟩ := ptr_inv h1
      obtain ⟨z, hz, hv⟩ := ldO_sound (P := P) hn hg (h.obj t') hb he
      exact ⟨z, by simp [execOp, Instr.loadAt, Instr.sureAddr, e1, hz], hv⟩
    · cases he
  case nilCheck x =>
    obtain ⟨x', hx, rfl⟩ := map_some' hc
    have h1 := opd_sound h hx
    simp only [evQ] at he
    split at he
    · rename_i c hc'
      rw [hc'] at h1
      split at he
      · rename_i hn
        cases he
        refine ⟨_, ?_, h1⟩
        rcases nil_sound (one_inv h1) hn with ⟨h2, _⟩ | ⟨_, ⟨a', l, k, e⟩ | ⟨f, u, v, e⟩ | ⟨t, v, e⟩ | ⟨a', e⟩⟩
        · cases h2
        all_goals (simp only [execOp, e]; rfl)
      · cases he
    · cases he
  case binOp op xt x y yt =>
    obtain ⟨x', hx, hc⟩ := bind_some' hc
    obtain ⟨y', hy, hc⟩ := bind_some' hc
    have h1 := opd_sound h hx
    have h2 := opd_sound h hy
    have plain : ∀ q', q = q' → q' = .bin op x' y' → ∃ z, (execOp a.eval ⟨dst, .binOp op xt x y yt, type, pos, after, guard⟩).run P w = .ok (.value z) w ∧ VRel A τ w v z := by
      rintro _ rfl rfl
      simp only [evQ] at he
      obtain ⟨e1, e2, z, hz, hv⟩ := bin_sound (P := P) h1 h2 he xt
      refine ⟨z, ?_, hv⟩
      simp only [execOp, Sem.run_bind, guard_plain e1 (fun h => absurd h e2), Result.andThen_ok, hz, Sem.run_pure]
    have eqs : op = .eql ∨ op = .neq → (match P.underlying xt with
      | some (.int _) => some (.bin op x' y')
      | some .bool => some (.eqB (isNeq op) x' y')
      | some (.slice _) => some (.eqN 0 (isNeq op) x' y')
      | some (.func _ _ _) => some (.eqN 1 (isNeq op) x' y')
      | some (.interface _) => if isConstO x || isConstO y then some (.eqN 2 (isNeq op) x' y') else none
      | _ => none) = some q → ∃ z, (execOp a.eval ⟨dst, .binOp op xt x y yt, type, pos, after, guard⟩).run P w = .ok (.value z) w ∧ VRel A τ w v z := by
      intro hop hq
      have nilcase : ∀ d kd, P.underlying xt = some d → kdOf d = some kd → (kd = 2 → (isConstO x || isConstO y) = true) →
          q = .eqN kd (isNeq op) x' y' → ∃ z, (execOp a.eval ⟨dst, .binOp op xt x y yt, type, pos, after, guard⟩).run P w = .ok (.value z) w ∧ VRel A τ w v z := by
        intro d kd hd hkd hkind hq
        subst hq
        simp only [evQ] at he
        split at he
        · rename_i c e hc1 hc2
          rw [hc1] at h1; rw [hc2] at h2
          have k1 := one_inv h1
          have k2 := one_inv h2
          have main : ∀ a' b', isNilK kd c = some a' → isNilK kd e = some b' → (a' = true ∨ b' = true) → v = pbool (if isNeq op then !(a' == b') else a' == b') →
              ∃ z, (execOp a.eval ⟨dst, .binOp op xt x y yt, type, pos, after, guard⟩).run P w = .ok (.value z) w ∧ VRel A τ w v z := by
            intro a' b' e1 e2 hab hv
            subst hv
            have hrun := nil_run hd hkd k1 k2 e1 e2 hab 9999
            have hg : (eqGuard op xt x y (a.eval x) (a.eval y)).run P w = .ok () w := by
              have n1 := nilK_sound k1 e1
              refine guard_plain (fun us h => ?_) (fun h _ => ?_)
              · rw [h] at n1; simp at n1
              · rw [h] at n1
                simp at n1
                have := hkind n1.1
                simp only [isConstO] at this
                exact this
            refine ⟨_, ?_, pbool_rel _⟩
            have hb : ∀ r, (Op.equal xt (a.eval x) (a.eval y)).run P w = .ok r w → (binOp op xt (a.eval x) (a.eval y)).run P w = .ok (.bool (if isNeq op then !r else r)) w := by
              intro r hr
              have n1 := nilK_sound k1 e1
              have n2 := nilK_sound k2 e2
              rcases hop with rfl | rfl <;> simp only [isNeq] <;>
                rcases n1 with ⟨_, ⟨_, e⟩ | ⟨_, _, _, _, e⟩⟩ | ⟨_, ⟨_, e⟩ | ⟨_, _, _, _, e⟩⟩ | ⟨_, ⟨_, e⟩ | ⟨_, _, _, e⟩⟩ <;> rw [e] at hr ⊢ <;>
                rcases n2 with ⟨_, ⟨_, e⟩ | ⟨_, _, _, _, e⟩⟩ | ⟨_, ⟨_, e⟩ | ⟨_, _, _, _, e⟩⟩ | ⟨_, ⟨_, e⟩ | ⟨_, _, _, e⟩⟩ <;> rw [e] at hr ⊢ <;>
                simp [binOp, hr]
            simp only [execOp, Sem.run_bind, hg, Result.andThen_ok, hb _ hrun, Sem.run_pure]
          unfold evNil at he
          split at he
          · rename_i a' e1 e2
            cases he
            exact main a' true e1 e2 (.inr rfl) (by simp)
          · rename_i b' _ e1 e2
            cases he
            exact main true b' e1 e2 (.inl rfl) (by simp)
          · cases he
        · cases he
      split at hq
      · exact plain _ rfl (Option.some.inj hq).symm
      · rename_i hu
        cases hq
        simp only [evQ] at he
        split at he
        · rename_i b1 b2 hb1 hb2
          rw [hb1] at h1; rw [hb2] at h2
          have e1 := bool_inv h1
          have e2 := bool_inv h2
          cases he
          refine ⟨_, ?_, pbool_rel _⟩
          have hg : (eqGuard op xt x y (a.eval x) (a.eval y)).run P w = .ok () w := guard_plain (by rw [e1]; intro us h; cases h) (by rw [e1]; intro h; cases h)
          rcases hop with rfl | rfl
          · simp only [execOp, Sem.run_bind, Result.andThen_ok, e1, e2, binOp, run_eqB hu, Sem.run_pure]; rw [e1, e2] at hg; simp [hg, isNeq]
          · simp only [execOp, Sem.run_bind, Result.andThen_ok, e1, e2, binOp, run_eqB hu, Sem.run_pure]; rw [e1, e2] at hg; simp [hg, isNeq]
        · cases he
      · rename_i e hu
        exact nilcase _ 0 hu rfl (fun h => by cases h) (Option.some.inj hq).symm
      · rename_i hu
        exact nilcase _ 1 hu rfl (fun h => by cases h) (Option.some.inj hq).symm
      · rename_i hu
        split at hq
        · rename_i hcst
          exact nilcase _ 2 hu rfl (fun _ => hcst) (Option.some.inj hq).symm
        · cases hq
      · cases hq
    cases op <;> first
      | exact eqs (.inl rfl) hc
      | exact eqs (.inr rfl) hc
      | exact plain _ rfl (Option.some.inj hc).symm
  case makeInterface t x =>
    split at hc
    · cases hc
    · rename_i dsc hni hu
      obtain ⟨x', hx, rfl⟩ := map_some' hc
      have h1 := opd_sound h hx
      have hrun : ∀ y : Value, (Instr.makeInterface t y).run P w = .ok (.iface t y) w := fun y => by
        unfold Instr.makeInterface
        cases dsc <;> first | (simp only [Sem.run_bind, run_und hu, Result.andThen_ok]; rfl) | exact absurd rfl (hni _)
      simp only [evQ] at he
      split at he
      · rename_i c hg
        rw [hg] at h1
        cases he
        exact ⟨_, by simp only [execOp, Sem.run_bind, hrun, Result.andThen_ok, Sem.run_pure], .v1 (.one (.c0 (.p _ _ (.ifc t c _ (p_inv h1)))))⟩
      · rename_i cs hg
        rw [hg] at h1
        obtain ⟨vs, hvs, rfl⟩ := map_some' he
        generalize hz : a.eval x = z at h1
        cases h1 with | v1 h1 => cases h1 with | agg h2 =>
          exact ⟨_, by simp only [execOp, Sem.run_bind, hz, hrun, Result.andThen_ok, Sem.run_pure], .v1 (.one (.c0 (.p _ _ (.ifcA t vs _ (PRels.all2.2 (pvs_sound h2 hvs))))))⟩
      · cases he
    · cases hc
  case typeAssert x xt t ok =>
    split at hc
    · cases hc
    · rename_i dsc hni hu
      obtain ⟨z, hz, hc⟩ := bind_some' hc
      obtain ⟨x', hx, rfl⟩ := map_some' hc
      obtain ⟨zv, hzv, hz⟩ := bind_some' hz
      obtain ⟨i0, hi0, hzv⟩ := bind_some' hzv
      have h1 := opd_sound h hx
      have hzr : VRel A τ w z zv := constAV_sound hz
      have hzr1 : V1 A τ w z zv := by
        cases hzr with
        | v1 h => exact h
        | tup h => simp [constAV, constAC] at hz
      have hb : ∀ b : Bool, V1 A τ w (pbool b) (.bool b) := fun b => .one (.c0 (.p _ _ (.bool b)))
      have hzt : VRel A τ w (.tup [z, pbool false]) (.tuple #[zv, .bool false]) := .tup (.cons hzr1 (.cons (hb false) .nil))
      have hnil : (Instr.typeAssert .nilIface xt t true).run P w = .ok (.tuple #[zv, .bool false]) w := by
        unfold Instr.typeAssert
        cases dsc <;> first | (simp [run_und hu, zeroValue, run_ti hi0, hzv]; done) | exact absurd rfl (hni _)
      have hif : ∀ (u : TypeId) (v : Value), (Instr.typeAssert (.iface u v) xt t ok).run P w = if u = t then .ok (if ok then .tuple #[v, .bool true] else v) w else (if ok then .ok (.tuple #[zv, .bool false]) w else (Instr.typeAssert (.iface u v) xt t ok).run P w) := fun u v => by
        by_cases hut : u = t
        · rw [if_pos hut]
          unfold Instr.typeAssert
          cases dsc <;> first | (cases ok <;> simp [run_und hu, hut]; done) | exact absurd rfl (hni _)
        · rw [if_neg hut]
          cases ok
          · rfl
          · unfold Instr.typeAssert
            cases dsc <;> first | (simp [run_und hu, hut, zeroValue, run_ti hi0, hzv]; done) | exact absurd rfl (hni _)
      simp only [evQ] at he
      split at he
      · rename_i hg
        rw [hg] at h1
        split at he
        · rename_i hok
          subst hok
          cases he
          generalize hzz : a.eval x = zz at h1
          cases p_inv h1
          exact ⟨_, by simp only [execOp, Sem.run_bind, hzz, hnil, Result.andThen_ok, Sem.run_pure], hzt⟩
        · cases he
      · rename_i u c hg
        rw [hg] at h1
        generalize hzz : a.eval x = zz at h1
        cases p_inv h1 with | ifc _ _ y hy =>
          have hr := hif u y
          split at he
          · rename_i hut
            cases he
            rw [if_pos hut] at hr
            refine ⟨if ok then .tuple #[y, .bool true] else y, by simp only [execOp, Sem.run_bind, hzz, hr, Result.andThen_ok, Sem.run_pure], ?_⟩
            cases ok
            · exact .v1 (.one (.c0 (.p _ _ hy)))
            · exact .tup (.cons (.one (.c0 (.p _ _ hy))) (.cons (hb true) .nil))
          · rename_i hut
            rw [if_neg hut] at hr
            split at he
            · rename_i hok
              subst hok
              cases he
              rw [if_pos rfl] at hr
              exact ⟨_, by simp only [execOp, Sem.run_bind, hzz, hr, Result.andThen_ok, Sem.run_pure], hzt⟩
            · cases he
      · rename_i u cs hg
        rw [hg] at h1
        generalize hzz : a.eval x = zz at h1
        cases p_inv h1 with | ifcA _ _ ys hys =>
          have hr := hif u (.agg ⟨ys⟩)
          have hagg : V1 A τ w (.agg (cs.map .p)) (.agg ⟨ys⟩) := .agg ((PRels.all2.1 hys).mapL' fun v x hr => .c0 (.p _ _ hr))
          split at he
          · rename_i hut
            cases he
            rw [if_pos hut] at hr
            refine ⟨if ok then .tuple #[.agg ⟨ys⟩, .bool true] else .agg ⟨ys⟩, by simp only [execOp, Sem.run_bind, hzz, hr, Result.andThen_ok, Sem.run_pure], ?_⟩
            cases ok
            · exact .v1 hagg
            · exact .tup (.cons hagg (.cons (hb true) .nil))
          · rename_i hut
            rw [if_neg hut] at hr
            split at he
            · rename_i hok
              subst hok
              cases he
              rw [if_pos rfl] at hr
              exact ⟨_, by simp only [execOp, Sem.run_bind, hzz, hr, Result.andThen_ok, Sem.run_pure], hzt⟩
            · cases he
      · cases he
    · cases hc
  case unOp op t x =>
    obtain ⟨x', hx, rfl⟩ := map_some' hc
    have h1 := opd_sound h hx
    simp only [evQ] at he
    split at he
    · rename_i b hb
      rw [hb] at h1
      have e1 := bool_inv h1
      cases he
      exact ⟨_, by simp [execOp, e1, Op.unary], pbool_rel _⟩
    · rename_i k n hb
      rw [hb] at h1
      have e1 := int_inv h1
      cases he
      exact ⟨_, by simp [execOp, e1, Op.unary, Op.intArith], pint_rel _ _⟩
    · cases he
  case convert src dst' x =>
    split at hc
    · rename_i k0 k hs hd
      obtain ⟨x', hx, rfl⟩ := map_some' hc
      have h1 := opd_sound h hx
      simp only [evQ] at he
      split at he
      · rename_i k' n hb
        rw [hb] at h1
        have e1 := int_inv h1
        cases he
        exact ⟨_, by simp [execOp, e1, convert, run_und hs, run_und hd, Conv.intToInt], pint_rel _ _⟩
      · cases he
    · cases hc
  case makeFunc fn first caps =>
    cases fn <;> simp only [compQ] at hc <;> (try (cases hc; done))
    rename_i f
    obtain ⟨u, hu, hc⟩ := bind_some' hc
    obtain ⟨v', hv, rfl⟩ := map_some' hc
    have h1 := opds_sound h hu
    have h2 := opds_sound h hv
    simp only [evQ] at he
    split at he
    · rename_i c1 c2 g1 g2
      split at he
      · rename_i hok
        have k1 := acs_sound h1 g1
        have k2 := acs_sound h2 g2
        have hok1 : ∀ c ∈ c1, C0ok c = true := fun c hc => List.all_eq_true.1 hok c (by simp [hc])
        have hok2 : ∀ c ∈ c2, C0ok c = true := fun c hc => List.all_eq_true.1 hok c (by simp [hc])
        have run : (execOp a.eval ⟨dst, .makeFunc (.func f) first caps, type, pos, after, guard⟩).run P w = .ok (.value (.func (.func f) ⟨first.toList.map a.eval⟩ ⟨caps.toList.map a.eval⟩)) w := by
          have e1 : first.map a.eval = ⟨first.toList.map a.eval⟩ := by apply Array.ext'; simp
          have e2 : caps.map a.eval = ⟨caps.toList.map a.eval⟩ := by apply Array.ext'; simp
          simp only [execOp, Instr.makeFunc, Sem.run_bind, Sem.run_pure, Result.andThen_ok, e1, e2]
        split at he
        · rename_i p1 p2 q1 q2
          cases he
          exact ⟨_, run, .v1 (.one (.c0 (.p _ _ (.fn f _ _ _ _ (PRels.all2.2 (pvs_sound k1 q1)) (PRels.all2.2 (pvs_sound k2 q2))))))⟩
        · cases he
          exact ⟨_, run, .v1 (.one (.mfn f _ _ _ _ (c0s_sound k1 hok1) (c0s_sound k2 hok2)))⟩
      · cases he
    · cases he
  case build t ps =>
    split at hc
    · rename_i fs z hu hz
      obtain ⟨z', hz', hc⟩ := bind_some' hc
      split at hc
      · rename_i hfs
        obtain ⟨ps', hps, rfl⟩ := map_some' hc
        simp only [evQ] at he
        split at he
        · rename_i l hl
          split at he
          · rename_i hall
            cases he
            obtain ⟨i, hi, hz2⟩ : ∃ i, P.info? t = some i ∧ i.zero = some z := bind_some' hz
            obtain ⟨xs, hx1, hx2⟩ := build_struct h hfs hps hl (z := z.cells) (constACs_sound hz') (fun p hp => by simpa using List.all_eq_true.1 hall p hp)
            refine ⟨_, ?_, .v1 (.agg hx2)⟩
            simp only [Sem.run_bind] at hx1
            simp only [execOp, Instr.build, Sem.run_bind, run_und hu, Result.andThen_ok, zeroValue, run_ti hi, hz2, Sem.run_pure]
            exact congrArg (fun r : Result Value => r.andThen fun a w' => Result.ok (Next.value a) w') hx1
          · cases he
        · cases he
      · cases hc
    · rename_i len e z hu hz
      obtain ⟨z', hz', hc⟩ := bind_some' hc
      obtain ⟨n, hn, hc⟩ := bind_some' hc
      obtain ⟨ps', hps, rfl⟩ := map_some' hc
      simp only [evQ] at he
      split at he
      · rename_i l hl
        split at he
        · rename_i hall
          cases he
          obtain ⟨i, hi, hz2⟩ : ∃ i, P.info? t = some i ∧ i.zero = some z := bind_some' hz
          obtain ⟨xs, hx1, hx2⟩ := build_array h hps hl (z := z.cells) (constACs_sound hz') (fun p hp => by simpa using List.all_eq_true.1 hall p hp)
          refine ⟨_, ?_, .v1 (.agg hx2)⟩
          simp only [execOp, Instr.build, Sem.run_bind, run_und hu, Result.andThen_ok, zeroValue, run_ti hi, hz2, Sem.run_pure, run_sz hn]
          exact congrArg (fun r : Result Value => r.andThen fun a w' => Result.ok (Next.value a) w') hx1
        · cases he
      · cases he
    · cases hc
  case fieldAddr t x f =>
    split at hc
    · rename_i fs hu
      obtain ⟨fl, hf, hc⟩ := bind_some' hc
      obtain ⟨n, hn, hc⟩ := bind_some' hc
      split at hc
      · cases hc
      · rename_i hn0
        obtain ⟨x', hx, rfl⟩ := map_some' hc
        have h1 := opd_sound h hx
        simp only [evQ] at he
        have run : ∀ b off, a.eval x = .pointer (some ⟨b, off, none⟩) →
            (execOp a.eval ⟨dst, .fieldAddr t x f, type, pos, after, guard⟩).run P w = .ok (.value (.pointer (some ⟨b, off + fl.offset, none⟩))) w := by
          intro b off e1
          simp [execOp, Instr.fieldAt, run_und hu, hf, e1, Instr.sureAddr, fieldPlace, run_sz hn, hn0, add_eq]
        split at he
        · rename_i cells hb
          rw [hb] at h1
          obtain ⟨b, off, e1, hA, hat⟩ := box_inv h1
          cases he
          exact ⟨_, run b off e1, boxrel hA (hat.dropAt _)⟩
        · rename_i t' i s' o' hb
          rw [hb] at h1
          obtain ⟨b, e1, hb'⟩ := ptr_inv h1
          cases he
          refine ⟨_, run b _ e1, ?_⟩
          have := C0.ptr (A := A) (w := w) t' i s' (o' + fl.offset) b hb'
          rw [← Nat.add_assoc] at this
          exact .v1 (.one (.c0 this))
        · cases he
    · cases hc
  case indexAddr t x i =>
    split at hc
    · rename_i e hu
      obtain ⟨n, hn, hc⟩ := bind_some' hc
      obtain ⟨x', hx, hc⟩ := bind_some' hc
      obtain ⟨i', hi, rfl⟩ := map_some' hc
      have h1 := opd_sound h hx
      have h2 := opd_sound h hi
      simp only [evQ] at he
      split at he
      · rename_i rows k m hr hm
        rw [hr] at h1; rw [hm] at h2
        have e2 := int_inv h2
        split at he
        · rename_i hb
          split at he
          · rename_i r hr'
            split at he
            · rename_i hl
              cases he
              have h3 := p_inv h1
              generalize hz : a.eval x = z at h3
              cases h3 with
              | nil => simp at hb; omega
              | sl _ b off cap s' hA hs hl' hcap hat =>
                obtain rfl : s' = n := (hs r (List.mem_of_getElem? hr')).symm.trans hl
                refine ⟨_, ?_, boxrel hA (row_at hs hr' hat)⟩
                simp [execOp, Instr.indexAt, e2, hz, asIntOf, run_und hu, hb.1, hb.2, run_sz hn, add_eq]
            · cases he
          · cases he
        · cases he
      · rename_i t' o' s' len cap k m hr hm
        rw [hr] at h1; rw [hm] at h2
        have e2 := int_inv h2
        split at he
        · rename_i hb
          obtain ⟨rfl, hb1, hb2⟩ := hb
          cases he
          cases one_inv h1 with
          | c0 h3 =>
            generalize hz : a.eval x = z at h3
            cases h3 with
            | mslN => simp at hb2; omega
            | msl _ _ _ _ b c _ hτ hc' hlen hroom =>
              refine ⟨.pointer (some ⟨b, (o' + m.toNat) * s' + 0, none⟩), ?_, .v1 (.one (.c0 (.ptr _ _ _ _ b hτ)))⟩
              simp [execOp, Instr.indexAt, e2, hz, asIntOf, run_und hu, hb1, hb2, run_sz hn, add_eq, Nat.add_mul]
        · cases he
      · cases he
    · rename_i len e hu
      obtain ⟨n, hn, hc⟩ := bind_some' hc
      obtain ⟨x', hx, hc⟩ := bind_some' hc
      obtain ⟨i', hi, rfl⟩ := map_some' hc
      have h1 := opd_sound h hx
      have h2 := opd_sound h hi
      simp only [evQ] at he
      have run : ∀ b off m k, a.eval x = .pointer (some ⟨b, off, none⟩) → a.eval i = .int k m → 0 ≤ m → m < (len : Int) →
          (execOp a.eval ⟨dst, .indexAddr t x i, type, pos, after, guard⟩).run P w = .ok (.value (.pointer (some ⟨b, off + m.toNat * n, none⟩))) w := by
        intro b off m k e1 e2 g1 g2
        have ht : (match TypeDesc.array len e with | .array _ _ => true | _ => false) = true := rfl
        simp [execOp, Instr.indexAt, e2, e1, asIntOf, run_und hu, Instr.sureAddr, g1, g2, run_sz hn, add_eq]
      split at he
      · rename_i t' s' k m hr hm
        rw [hr] at h1; rw [hm] at h2
        have e2 := int_inv h2
        obtain ⟨b, e1, hb'⟩ := ptr_inv h1
        split at he
        · rename_i hb
          obtain ⟨rfl, hb1, hb2⟩ := hb
          cases he
          refine ⟨_, run b _ m k e1 e2 hb1 hb2, ?_⟩
          have := C0.ptr (A := A) (w := w) t' m.toNat s' 0 b hb'
          simpa using VRel.v1 (V1.one (CRel.c0 this))
        · cases he
      · rename_i cells k m hr hm
        rw [hr] at h1; rw [hm] at h2
        have e2 := int_inv h2
        obtain ⟨b, off, e1, hA, hat⟩ := box_inv h1
        split at he
        · rename_i hb
          obtain ⟨hb1, hb2⟩ := hb
          cases he
          exact ⟨_, run b _ m k e1 e2 hb1 hb2, boxrel hA (hat.dropAt _)⟩
        · cases he
      · cases he
    · cases hc
  case extract t i =>
    obtain ⟨x', hx, rfl⟩ := map_some' hc
    have h1 := opd_sound h hx
    simp only [evQ] at he
    split at he
    · rename_i vs hb
      rw [hb] at h1
      generalize hz : a.eval t = z at h1
      cases h1 with
      | v1 h => cases h
      | tup h2 =>
        obtain ⟨y, hy, hr⟩ := h2.get i v he
        exact ⟨y, by simp [execOp, hz, Instr.extract, hy], .v1 hr⟩
    · cases he
  case slice t x l hi m =>
    split at hc
    · cases hc
    · rename_i hms
      have hno : hi = none → m = none := by
        intro e; subst e
        cases m with
        | none => rfl
        | some m => simp at hms
      have fin : ∀ {l' h' m' : Option Opd} {d1 d2 d3 : Int} {lv hv mv : Int}, opdO l = some l' → opdO hi = some h' → opdO m = some m' →
          bndI s.env d1 l' = some lv → bndI s.env d2 h' = some hv → bndI s.env d3 m' = some mv → Bd (l.map a.eval) d1 lv ∧ Bd (hi.map a.eval) d2 hv ∧ Bd (m.map a.eval) d3 mv ∧ (hi.map a.eval = none → m.map a.eval = none) :=
        fun k1 k2 k3 b1 b2 b3 => ⟨(bnd_sound h k1 b1).1, (bnd_sound h k2 b2).1, (bnd_sound h k3 b3).1, fun e => by
          cases hi with
          | none => rw [hno rfl]; rfl
          | some => cases e⟩
      split at hc
      · rename_i e hu
        obtain ⟨n, hn, hc⟩ := bind_some' hc
        obtain ⟨x', hx, hc⟩ := bind_some' hc
        obtain ⟨l', hl, hc⟩ := bind_some' hc
        obtain ⟨h', hh, hc⟩ := bind_some' hc
        obtain ⟨m', hm, rfl⟩ := map_some' hc
        have h1 := opd_sound h hx
        simp only [evQ] at he
        split at he
        · rename_i rows hr
          rw [hr] at h1
          split at he
          · rename_i lv hv mv b1 b2 b3
            split at he
            · rename_i hb
              obtain ⟨c1, c2, c3, c4, c5⟩ := hb
              cases he
              have h3 := p_inv h1
              obtain ⟨g1, g2, g3, g4⟩ := fin hl hh hm b1 b2 b3
              have hcap : ∃ base cap, a.eval x = .slice base rows.length cap ∧ rows.length ≤ cap := by
                generalize hz : a.eval x = z at h3
                cases h3 with
                | nil a' cap => exact ⟨_, _, rfl, Nat.zero_le _⟩
                | sl _ b off cap s' hA hs hl hcap hat => exact ⟨_, _, rfl, hcap⟩
              obtain ⟨base, cap, ex, hcap⟩ := hcap
              rw [ex] at h3
              rcases g3 with ⟨e0, e1⟩ | ⟨km, e0⟩
              · have run := run_slice (P := P) (w := w) hu hn (base := base) (cap := cap) g1 g2 (.inl ⟨e0, rfl⟩) g4 c1 c2 (by omega) (Int.le_refl _)
                refine ⟨_, by simp only [execOp, ex, Sem.run_bind, run, Result.andThen_ok, Sem.run_pure]; rfl, .v1 (.one (.c0 (.p _ _ ?_)))⟩
                exact slc_pure h3 c5 (by omega) (by omega) (by omega)
              · have run := run_slice (P := P) (w := w) hu hn (base := base) (cap := cap) g1 g2 (.inr ⟨km, e0⟩) g4 c1 c2 c3 (by omega)
                refine ⟨_, by simp only [execOp, ex, Sem.run_bind, run, Result.andThen_ok, Sem.run_pure]; rfl, .v1 (.one (.c0 (.p _ _ ?_)))⟩
                exact slc_pure h3 c5 (by omega) (by omega) (by omega)
            · cases he
          · cases he
        · rename_i hr
          rw [hr] at h1
          split at he
          · rename_i lv hv mv b1 b2 b3
            split at he
            · rename_i hb
              obtain ⟨rfl, rfl, rfl⟩ := hb
              cases he
              obtain ⟨g1, g2, g3, g4⟩ := fin hl hh hm b1 b2 b3
              have ex : a.eval x = .slice none 0 0 := by
                have h3 := one_inv h1
                generalize hz : a.eval x = z at h3
                cases h3 with | c0 h3 => cases h3; rfl
              have run := run_slice (P := P) (w := w) hu hn (base := none) (len := 0) (cap := 0) g1 g2 g3 g4 (Int.le_refl _) (Int.le_refl _) (Int.le_refl _) (Int.le_refl _)
              exact ⟨_, by simp only [execOp, ex, Sem.run_bind, run, Result.andThen_ok, Sem.run_pure]; rfl, .v1 (.one (.c0 .nils))⟩
            · cases he
          · cases he
        · rename_i t' o' s' len cap hr
          rw [hr] at h1
          split at he
          · rename_i lv hv mv b1 b2 b3
            split at he
            · rename_i hb
              obtain ⟨rfl, c1, c2, c3, c4⟩ := hb
              cases he
              have h3 := one_inv h1
              obtain ⟨g1, g2, g3, g4⟩ := fin hl hh hm b1 b2 b3
              have hm2 := (bnd_sound h hm b3).2
              have ex : ∃ base c, a.eval x = .slice base len c := by
                generalize hz : a.eval x = z at h3
                cases h3 with | c0 h3 => cases h3 with
                  | mslN => exact ⟨_, _, rfl⟩
                  | msl => exact ⟨_, _, rfl⟩
              obtain ⟨base, c, ex⟩ := ex
              rw [ex] at h3
              have hroom := room_le h h3
              rcases g3 with ⟨e0, e1⟩ | ⟨km, e0⟩
              · have hmn : m' = none := by
                  cases m with
                  | none => cases m' with | none => rfl | some => simp at hm2
                  | some => simp at e0
                subst hmn
                have run := run_slice (P := P) (w := w) hu hn (base := base) (cap := c) g1 g2 (.inl ⟨e0, rfl⟩) g4 c1 c2 (by omega) (Int.le_refl _)
                refine ⟨_, by simp only [execOp, ex, Sem.run_bind, run, Result.andThen_ok, Sem.run_pure]; rfl, .v1 (.one ?_)⟩
                exact slcC_sound h h3 (m := (c : Int).toNat) (.inl ⟨rfl, by omega⟩) (by omega) (by omega) (by omega)
              · have hmn : m'.map (fun _ => mv.toNat) = some mv.toNat := by
                  cases m with
                  | none => simp at e0
                  | some => cases m' with | none => simp at hm2 | some => rfl
                rw [hmn]
                have run := run_slice (P := P) (w := w) hu hn (base := base) (cap := c) g1 g2 (.inr ⟨km, e0⟩) g4 c1 c2 c3 (by omega)
                refine ⟨_, by simp only [execOp, ex, Sem.run_bind, run, Result.andThen_ok, Sem.run_pure]; rfl, .v1 (.one ?_)⟩
                exact slcC_sound h h3 (.inr rfl) (by omega) (by omega) (by omega)
            · cases he
          · cases he
        · cases he
      · rename_i k e hu
        obtain ⟨n, hn, hc⟩ := bind_some' hc
        obtain ⟨x', hx, hc⟩ := bind_some' hc
        obtain ⟨l', hl, hc⟩ := bind_some' hc
        obtain ⟨h', hh, hc⟩ := bind_some' hc
        obtain ⟨m', hm, rfl⟩ := map_some' hc
        have h1 := opd_sound h hx
        simp only [evQ] at he
        split at he
        · rename_i t' s' hr
          rw [hr] at h1
          split at he
          · rename_i mu s2 rows lv hv mv hold b1 b2 b3
            split at he
            · rename_i hb
              obtain ⟨rfl, rfl, hrl, c1, c2, c3, c4⟩ := hb
              cases he
              obtain ⟨g1, g2, g3, g4⟩ := fin hl hh hm b1 b2 b3
              obtain ⟨b, ex, hb'⟩ := ptr_inv h1
              simp only [Nat.zero_mul, Nat.add_zero] at ex
              have run := run_sliceA (P := P) (w := w) hu hn (ad := ⟨b, 0, none⟩) g1 g2 g3 g4 c1 c2 c3 c4
              have ho := h.obj t'
              rw [hold] at ho
              obtain ⟨_, _, ⟨g, _⟩ | ⟨b', xs, e', q1, q2, q3, _⟩⟩ := ho
              · rw [hb'] at g; cases g
              rw [hb'] at q1; cases q1
              have hfull : CRel A τ w (.msl t' 0 s2 k (some k)) (.slice (some ⟨b, 0, none⟩) k k) := by
                have := C0.msl (A := A) (w := w) t' 0 s2 k b k (some k) hb' (fun q hq => by cases hq; rfl) (Nat.le_refl _) ⟨xs, e', q2, by rw [Nat.zero_add, ← hrl]; exact q3, fun hq => by cases hq⟩
                rw [Nat.zero_mul] at this
                exact .c0 this
              have key := slcC_sound h hfull (l := lv.toNat) (h' := hv.toNat) (m := mv.toNat) (mo := some mv.toNat) (.inr rfl) (by omega) (by omega) (by omega)
              refine ⟨_, by simp only [execOp, ex, Sem.run_bind, run, Result.andThen_ok, Sem.run_pure]; rfl, .v1 (.one ?_)⟩
              have e3 : slcC t' 0 s2 lv.toNat hv.toNat none (some mv.toNat) = slcC t' 0 s2 lv.toNat hv.toNat (some k) (some mv.toNat) := rfl
              rw [e3]
              have e4 : (some (if mv.toNat = lv.toNat then (⟨b, 0, none⟩ : Addr) else (⟨b, 0, none⟩ : Addr).add (lv.toNat * s2))) = (if mv.toNat = lv.toNat then some (⟨b, 0, none⟩ : Addr) else (some (⟨b, 0, none⟩ : Addr)).map (·.add (lv.toNat * s2))) := by
                split <;> rfl
              rw [e4]
              exact key
            · cases he
          · cases he
        · cases he
      · cases hc
  case index t x i =>
    split at hc
    · rename_i hu
      obtain ⟨x', hx, hc⟩ := bind_some' hc
      obtain ⟨i', hi, rfl⟩ := map_some' hc
      have h1 := opd_sound h hx
      have h2 := opd_sound h hi
      simp only [evQ] at he
      split at he
      · rename_i str k n hs hn
        rw [hs] at h1; rw [hn] at h2
        have e2 := int_inv h2
        have e1 : a.eval x = .string str := by
          have := p_inv h1
          generalize hz : a.eval x = z at this
          cases this; rfl
        split at he
        · rename_i h0
          split at he
          · rename_i b hb
            cases he
            refine ⟨_, ?_, pint_rel _ _⟩
            simp [execOp, Instr.index, e1, e2, asIntOf, run_und hu, h0, hb]
          · cases he
        · cases he
      · cases he
    · cases hc
  case lookup t x k ok =>
    split at hc
    · rename_i kt et hu
      split at hc
      · rename_i ik hk
        obtain ⟨z, hz, hc⟩ := bind_some' hc
        obtain ⟨x', hx, hc⟩ := bind_some' hc
        obtain ⟨k', hk', rfl⟩ := map_some' hc
        obtain ⟨zv, hzv, hz⟩ := bind_some' hz
        obtain ⟨i0, hi0, hzv⟩ := bind_some' hzv
        have h1 := opd_sound h hx
        have h2 := opd_sound h hk'
        have hzr : VRel A τ w z zv := constAV_sound hz
        have hzr1 : V1 A τ w z zv := by
          cases hzr with
          | v1 h => exact h
          | tup h =>
            simp [constAV, constAC] at hz
        simp only [evQ] at he
        split at he
        · rename_i es n hes hn
          rw [hn] at h2
          have e2 := int_inv h2
          have ents := entries_sound h h1 hes
          obtain ⟨b, ces, clock, ex, hb, hen⟩ := ents
          have hik : ik = .i64 ∨ ik ≠ .i64 := by cases ik <;> simp
          have hck : ∀ e, (Instr.checkKey e 10000 kt (.int .i64 n)).run P w = .ok () w := by
            intro e
            have : ∀ d, (Instr.checkKey e (d + 1) kt (.int .i64 n)).run P w = .ok () w := by
              intro d; simp [Instr.checkKey, run_und hk]
            exact this 9999
          have hobj : (getObj b).run P w = .ok (.map ces clock) w := by simp [getObj, Sem.run, hb]
          have hfind := findE_sound (τ := τ) hen n 0
          have hnow : ∀ i : Nat, Instr.findNow (.int ik) (.int .i64 n) ces.toList i = Instr.findNow (.int .i64) (.int .i64 n) ces.toList i := by
            generalize ces.toList = l
            induction l with
            | nil => intro i; rfl
            | cons m l ih => intro i; cases hm : m.key <;> simp [Instr.findNow, Instr.sameNow, ih, hm]
          split at he
          · rename_i v' b' hv
            cases he
            cases hf : findE n es with
            | some r =>
              simp only [hf] at hv hfind
              obtain ⟨vv, hvv, hv⟩ := map_some' hv
              cases hv
              obtain ⟨j, xv, hj, hrel⟩ := hfind
              obtain ⟨r1, r2⟩ := hrel _ hvv
              refine ⟨if ok then .tuple #[xv, .bool true] else xv, ?_, ?_⟩
              · simp only [execOp, Instr.lookup, ex, e2, Sem.run_bind, run_und hu, Result.andThen_ok, hobj, Sem.run_pure, hck, Instr.findKey, run_und hk, hnow, hj]
              · cases ok
                · exact r1
                · exact .tup (.cons r2 (.cons (.one (.c0 (.p _ _ (.bool true)))) .nil))
            | none =>
              simp only [hf] at hv hfind
              cases hv
              refine ⟨if ok then .tuple #[zv, .bool false] else zv, ?_, ?_⟩
              · simp only [execOp, Instr.lookup, ex, e2, Sem.run_bind, run_und hu, Result.andThen_ok, hobj, Sem.run_pure, hck, Instr.findKey, run_und hk, hnow, hfind, zeroValue, run_ti hi0, hzv]
              · cases ok
                · exact hzr
                · exact .tup (.cons hzr1 (.cons (.one (.c0 (.p _ _ (.bool false)))) .nil))
          · cases he
        · cases he
      · cases hc
    · cases hc
  case call c =>
    obtain ⟨callee, args, argTypes⟩ := c
    cases callee with
    | value f =>
      cases f <;> simp only [compQ] at hc <;> (try (cases hc; done))
      rename_i f
      have ext : ∀ (i : Nat), extOf P f = some i → ∃ fn, P.funcs[f]? = some fn ∧ fn.body.isNone = true ∧
          ((i = 0 ∧ fn.origin = "" ∧ fn.name = "math/bits.Add64") ∨ (i = 1 ∧ fn.origin = "" ∧ fn.name = "math/bits.Sub64") ∨ (i = 2 ∧ fn.origin = "slices.overlaps" ∧ fn.name = "slices.overlaps[int]")) := by
        intro i hi
        unfold extOf at hi
        split at hi
        · rename_i fn hfn
          split at hi
          · rename_i hb
            refine ⟨fn, hfn, hb, ?_⟩
            split at hi
            · rename_i hc; cases hi; exact .inl ⟨rfl, hc⟩
            · split at hi
              · rename_i hc; cases hi; exact .inr (.inl ⟨rfl, hc⟩)
              · split at hi
                · rename_i hc; cases hi; exact .inr (.inr ⟨rfl, hc⟩)
                · cases hi
          · cases hi
        · cases hi
      have run : ∀ {vs : List Operand} {v : Value}, args.toList = vs → (callFunc f ⟨vs.map a.eval⟩).run P w = .ok (.value v) w →
          (execOp a.eval ⟨dst, .call ⟨.value (.func f), args, argTypes⟩, type, pos, after, guard⟩).run P w = .ok (.value v) w := by
        intro vs v hvs hr
        have e1 : args.map a.eval = ⟨vs.map a.eval⟩ := by apply Array.ext'; simp [← hvs]
        have e2 : a.eval (.func f) = .func (.func f) #[] #[] := rfl
        have e3 : (#[] : Array Value) ++ (⟨vs.map a.eval⟩ : Array Value) ++ #[] = ⟨vs.map a.eval⟩ := by simp
        simp only [execOp, resolve, Deferred.ofValue, e2, Sem.run_bind, Sem.run_pure, Result.andThen_ok, invoke, e1, e3, hr]
      split at hc
      · rename_i x y c hi hargs
        obtain ⟨x', hx, hc⟩ := bind_some' hc
        obtain ⟨y', hy, hc⟩ := bind_some' hc
        obtain ⟨c', hcc, rfl⟩ := map_some' hc
        obtain ⟨fn, hfn, hb, hk⟩ := ext 0 hi
        rcases hk with ⟨_, ho, hname⟩ | ⟨h0, _⟩ | ⟨h0, _⟩
        rotate_left
        · cases h0
        · cases h0
        have h1 := opd_sound h hx
        have h2 := opd_sound h hy
        have h3 := opd_sound h hcc
        simp only [evQ] at he
        split at he
        · rename_i k1 m1 k2 m2 k3 m3 g1 g2 g3
          rw [g1] at h1; rw [g2] at h2; rw [g3] at h3
          split at he
          · rename_i hle
            cases he
            have hcf : (callFunc f #[.int k1 m1, .int k2 m2, .int k3 m3]).run P w = .ok (.value (.tuple #[.int .u64 (carryN false m1.toNat m2.toNat m3.toNat).1, .int .u64 (carryN false m1.toNat m2.toNat m3.toNat).2])) w := by
              rw [run_callFunc_extern hfn (by rw [hname]; rfl) hb (by simp only [Extern.findNext, hname, ho]; kernel_rfl) (e := add64Entry) (by simp only [Extern.find, hname, ho]; kernel_rfl)]
              have key : (add64Entry #[.int k1 m1, .int k2 m2, .int k3 m3]).run P w = .ok (.tuple #[.int .u64 (carryN false m1.toNat m2.toNat m3.toNat).1, .int .u64 (carryN false m1.toNat m2.toNat m3.toNat).2]) w := by
                rcases hle with rfl | rfl <;> rfl
              rw [key]; rfl
            exact ⟨_, run hargs (by simp only [List.map, int_inv h1, int_inv h2, int_inv h3]; exact hcf), .tup (.cons (.one (.c0 (.p _ _ (.int _ _)))) (.cons (.one (.c0 (.p _ _ (.int _ _)))) .nil))⟩
          · cases he
        · cases he
      · rename_i x y c hi hargs
        obtain ⟨x', hx, hc⟩ := bind_some' hc
        obtain ⟨y', hy, hc⟩ := bind_some' hc
        obtain ⟨c', hcc, rfl⟩ := map_some' hc
        obtain ⟨fn, hfn, hb, hk⟩ := ext 1 hi
        rcases hk with ⟨h0, _⟩ | ⟨_, ho, hname⟩ | ⟨h0, _⟩
        · cases h0
        rotate_left
        · cases h0
        have h1 := opd_sound h hx
        have h2 := opd_sound h hy
        have h3 := opd_sound h hcc
        simp only [evQ] at he
        split at he
        · rename_i k1 m1 k2 m2 k3 m3 g1 g2 g3
          rw [g1] at h1; rw [g2] at h2; rw [g3] at h3
          split at he
          · rename_i hle
            cases he
            have hcf : (callFunc f #[.int k1 m1, .int k2 m2, .int k3 m3]).run P w = .ok (.value (.tuple #[.int .u64 (carryN true m1.toNat m2.toNat m3.toNat).1, .int .u64 (carryN true m1.toNat m2.toNat m3.toNat).2])) w := by
              rw [run_callFunc_extern hfn (by rw [hname]; rfl) hb (by simp only [Extern.findNext, hname, ho]; kernel_rfl) (e := (Extern.MathBitsCarry.rows.get ⟨1, by decide⟩).2) (by simp only [Extern.find, hname, ho]; kernel_rfl)]
              have key : ((Extern.MathBitsCarry.rows.get ⟨1, by decide⟩).2 #[.int k1 m1, .int k2 m2, .int k3 m3]).run P w = .ok (.tuple #[.int .u64 (carryN true m1.toNat m2.toNat m3.toNat).1, .int .u64 (carryN true m1.toNat m2.toNat m3.toNat).2]) w := by
                rcases hle with rfl | rfl <;> rfl
              rw [key]; rfl
            exact ⟨_, run hargs (by simp only [List.map, int_inv h1, int_inv h2, int_inv h3]; exact hcf), .tup (.cons (.one (.c0 (.p _ _ (.int _ _)))) (.cons (.one (.c0 (.p _ _ (.int _ _)))) .nil))⟩
          · cases he
        · cases he
      · rename_i x y hi hargs
        obtain ⟨n, hn, hc⟩ := bind_some' hc
        obtain ⟨x', hx, hc⟩ := bind_some' hc
        obtain ⟨y', hy, rfl⟩ := map_some' hc
        obtain ⟨fn, hfn, hb, hk⟩ := ext 2 hi
        rcases hk with ⟨h0, _⟩ | ⟨h0, _⟩ | ⟨_, ho, hname⟩
        · cases h0
        · cases h0
        have h1 := opd_sound h hx
        have h2 := opd_sound h hy
        have hpar : ∃ t ts e, fn.params.toList = t :: ts ∧ P.underlying t = some (.slice e) ∧ szOf P e = some n := by
          unfold parSz at hn
          rw [hfn] at hn
          simp only at hn
          split at hn
          · rename_i t ts hts
            split at hn
            · rename_i e hu; exact ⟨t, ts, e, hts, hu, hn⟩
            · cases hn
          · cases hn
        obtain ⟨t0, ts0, e0, hts, hu, hsz⟩ := hpar
        simp only [evQ] at he
        split at he
        · rename_i t o1 s1 la c1 u o2 s2 lb c2 g1 g2
          rw [g1] at h1; rw [g2] at h2
          split at he
          · rename_i q1 rows1 m2 q2 rows2 hold1 hold2
            split at he
            · rename_i hcond
              obtain ⟨htu, rfl, rfl, hs0⟩ := hcond
              cases he
              have hent : Extern.find fn = some (Extern.SlicesOverlaps.overlaps fn.params fn.resultTypes) := by
                simp only [Extern.find, hname, ho]
                have e1 : Extern.allGenericRows.lookup "slices.overlaps[int]" = none := by kernel_rfl
                have e2 : Extern.allTypedRows.lookup "slices.overlaps[int]" = none := by kernel_rfl
                have e3 : Extern.allRows.lookup "slices.overlaps[int]" = none := by kernel_rfl
                have e4 : Extern.allGenericRows.lookup "slices.overlaps" = none := by kernel_rfl
                have e5 : Extern.allTypedRows.lookup "slices.overlaps" = some Extern.SlicesOverlaps.overlaps := by kernel_rfl
                rw [e1, e2, e3, e4, e5]
                rfl
              have goal : (Extern.SlicesOverlaps.overlaps fn.params fn.resultTypes #[a.eval x, a.eval y]).run P w = .ok (.bool false) w := by
                have hp0 : fn.params[0]? = some t0 := by rw [← Array.getElem?_toList, hts]; rfl
                have easy : ∀ (a b : Option Addr) (la ca lb cb : Nat), la = 0 ∨ lb = 0 → (Extern.SlicesOverlaps.overlaps fn.params fn.resultTypes #[.slice a la ca, .slice b lb cb]).run P w = .ok (.bool false) w := by
                  intro a b la ca lb cb h0
                  have h0' : la = 0 ∨ lb = 0 ∨ s2 = 0 := by omega
                  rw [run_ovl hp0 hu hsz]
                  cases a <;> cases b <;> simp [ovlB, h0']
                have c1 := one_inv h1
                have c2 := one_inv h2
                generalize a.eval x = xv at c1
                generalize a.eval y = yv at c2
                cases c1 with | c0 c1 => cases c1 with
                  | mslN => cases c2 with | c0 c2 => cases c2 with
                    | mslN => exact easy _ _ _ _ _ _ (.inl rfl)
                    | msl => exact easy _ _ _ _ _ _ (.inl rfl)
                  | msl _ _ _ _ b1 k1 _ hτ1 hc1 hl1 hr1 => cases c2 with | c0 c2 => cases c2 with
                    | mslN => exact easy _ _ _ _ _ _ (.inr rfl)
                    | msl _ _ _ _ b2 k2 _ hτ2 hc2 hl2 hr2 =>
                      by_cases h0 : la = 0 ∨ lb = 0
                      · exact easy _ _ _ _ _ _ h0
                      · have hne : b1 ≠ b2 := fun e => h.sep t u b1 (by rw [hold1]; simp) (by rw [hold2]; simp) htu (by rw [hold1]; rfl) hτ1 (by rw [e]; exact hτ2)
                        obtain ⟨cs1, e1, r1, r2, _⟩ := hr1
                        obtain ⟨cs2, e2, r3, r4, _⟩ := hr2
                        have hnb : (b1 != b2) = true := by simpa using hne
                        have hnb' : (b1 == b2) = false := by simpa using hne
                        have hk : ∃ k, cs2.size = k + 1 := by
                          have : 1 * s2 ≤ (o2 + k2) * s2 := Nat.mul_le_mul_right s2 (by omega)
                          exact ⟨cs2.size - 1, by omega⟩
                        obtain ⟨k, hk⟩ := hk
                        have h00 : ¬ (la = 0 ∨ lb = 0 ∨ s2 = 0) := by omega
                        rw [run_ovl hp0 hu hsz]
                        simp [ovlB, h00, hnb, hnb', frozen, noView, viewAt, mayBeOne, stringish, shape, Sem.run, World.shape?, World.frozen?, r1, r3, hk]
              refine ⟨.bool false, run hargs ?_, pbool_rel _⟩
              rw [run_callFunc_extern hfn (by rw [hname]; rfl) hb (by simp only [Extern.findNext, hname, ho]; kernel_rfl) hent]
              simp only [List.map]
              rw [goal]; rfl
            · cases he
          · cases he
        · cases he
      · cases hc
    | invoke r m => simp only [compQ] at hc; cases hc
    | builtin b =>
      cases b <;> simp only [compQ] at hc <;> (try (cases hc; done))
      case cap =>
        split at hc
        · rename_i x e hargs hu
          obtain ⟨x', hx, rfl⟩ := map_some' hc
          have h1 := opd_sound h hx
          obtain ⟨t0, ht0, hu⟩ := bind_some' hu
          have hargs' : args = #[x] := by
            apply Array.ext'; simpa using hargs
          subst hargs'
          have run : ∀ base n cap, a.eval x = .slice base n cap → (execOp a.eval ⟨dst, .call ⟨.builtin .cap, #[x], argTypes⟩, type, pos, after, guard⟩).run P w = .ok (.value (.int .i64 cap)) w := by
            intro base n cap e1
            simp [execOp, resolve, invoke, builtin, Builtin.cap_, ht0, run_und hu, e1, goInt]
          simp only [evQ] at he
          split at he
          · rename_i t' o' s' len cap hr
            rw [hr] at h1
            cases he
            have h3 := one_inv h1
            generalize hz : a.eval x = z at h3
            cases h3 with | c0 h3 => cases h3 with
              | mslN _ _ _ _ b hτ hc' =>
                have := hc' cap rfl
                subst this
                exact ⟨_, run _ _ _ hz, pint_rel _ _⟩
              | msl _ _ _ _ b c _ hτ hc' hl hroom =>
                have := hc' cap rfl
                subst this
                exact ⟨_, run _ _ _ hz, pint_rel _ _⟩
          · rename_i hr
            rw [hr] at h1
            cases he
            have h3 := one_inv h1
            generalize hz : a.eval x = z at h3
            cases h3 with | c0 h3 => cases h3; exact ⟨_, run _ _ _ hz, pint_rel _ _⟩
          · cases he
        · cases hc
      case max =>
        split at hc
        · rename_i x y hargs
          obtain ⟨x', hx, hc⟩ := bind_some' hc
          obtain ⟨y', hy, rfl⟩ := map_some' hc
          have h1 := opd_sound h hx
          have h2 := opd_sound h hy
          have hargs' : args = #[x, y] := by
            apply Array.ext'; simpa using hargs
          subst hargs'
          simp only [evQ] at he
          split at he
          · rename_i k m k' n hm hn
            rw [hm] at h1; rw [hn] at h2
            have e1 := int_inv h1
            have e2 := int_inv h2
            cases he
            refine ⟨_, ?_, pint_rel _ _⟩
            have hmx : (if n > m then n else m) = max m n := by omega
            simp [execOp, resolve, invoke, builtin, Builtin.max_, Builtin.max2, e1, e2]
            exact hmx
          · cases he
        · cases hc
      case min =>
        split at hc
        · rename_i x y hargs
          obtain ⟨x', hx, hc⟩ := bind_some' hc
          obtain ⟨y', hy, rfl⟩ := map_some' hc
          have h1 := opd_sound h hx
          have h2 := opd_sound h hy
          have hargs' : args = #[x, y] := by
            apply Array.ext'; simpa using hargs
          subst hargs'
          simp only [evQ] at he
          split at he
          · rename_i k m k' n hm hn
            rw [hm] at h1; rw [hn] at h2
            have e1 := int_inv h1
            have e2 := int_inv h2
            cases he
            refine ⟨_, ?_, pint_rel _ _⟩
            have hmx : (if n < m then n else m) = min m n := by omega
            simp [execOp, resolve, invoke, builtin, Builtin.min_, Builtin.min2, e1, e2]
            exact hmx
          · cases he
        · cases hc
      case len =>
        have run : ∀ x z n, args.toList = [x] → a.eval x = z → (Builtin.len_ argTypes type #[z]).run P w = .ok (.int .i64 n) w → (execOp a.eval ⟨dst, .call ⟨.builtin .len, args, argTypes⟩, type, pos, after, guard⟩).run P w = .ok (.value (.int .i64 n)) w := by
          intro x z n e0 e1 e2
          have hargs' : args = #[x] := by
            apply Array.ext'; simpa using e0
          subst hargs'
          simp [execOp, resolve, invoke, builtin, e1, e2]
        split at hc
        · rename_i x e hargs hu
          obtain ⟨x', hx, rfl⟩ := map_some' hc
          have h1 := opd_sound h hx
          obtain ⟨t0, ht0, hu⟩ := bind_some' hu
          have lenS : ∀ base n cap, (Builtin.len_ argTypes type #[.slice base n cap]).run P w = .ok (.int .i64 n) w := by
            intro base n cap
            simp [Builtin.len_, ht0, run_und hu, goInt]
          simp only [evQ] at he
          split at he
          · rename_i rows hr
            rw [hr] at h1
            cases he
            have h3 := p_inv h1
            generalize hz : a.eval x = z at h3
            cases h3 with
            | nil a' cap => exact ⟨_, run x _ _ hargs hz (lenS _ _ _), pint_rel _ _⟩
            | sl _ b off cap s' hA hs hl hcap hat => exact ⟨_, run x _ _ hargs hz (lenS _ _ _), pint_rel _ _⟩
          · rename_i hr
            rw [hr] at h1
            cases he
            have h3 := one_inv h1
            generalize hz : a.eval x = z at h3
            cases h3 with | c0 h3 => cases h3; exact ⟨_, run x _ _ hargs hz (lenS _ _ _), pint_rel _ _⟩
          · rename_i t' o' s' len cap hr
            rw [hr] at h1
            cases he
            have h3 := one_inv h1
            generalize hz : a.eval x = z at h3
            cases h3 with | c0 h3 => cases h3 with
              | mslN => exact ⟨_, run x _ _ hargs hz (lenS _ _ _), pint_rel _ _⟩
              | msl => exact ⟨_, run x _ _ hargs hz (lenS _ _ _), pint_rel _ _⟩
          · cases he
        · rename_i x k e hargs hu
          obtain ⟨x', hx, rfl⟩ := map_some' hc
          have h1 := opd_sound h hx
          obtain ⟨t0, ht0, hu⟩ := bind_some' hu
          simp only [evQ] at he
          split at he
          · rename_i es hes
            cases he
            obtain ⟨b, ces, clock, ex, hb, hen⟩ := entries_sound h h1 hes
            have lenM : (Builtin.len_ argTypes type #[.map (some b)]).run P w = .ok (.int .i64 ces.size) w := by
              have hobj : (getObj b).run P w = .ok (.map ces clock) w := by simp [getObj, Sem.run, hb]
              simp [Builtin.len_, ht0, run_und hu, goInt, hobj]
            have hl := en_len hen
            simp only [Array.length_toList] at hl
            rw [hl] at lenM
            exact ⟨_, run x _ _ hargs ex lenM, pint_rel _ _⟩
          · cases he
        · rename_i x hargs hu
          obtain ⟨x', hx, rfl⟩ := map_some' hc
          have h1 := opd_sound h hx
          obtain ⟨t0, ht0, hu⟩ := bind_some' hu
          simp only [evQ] at he
          split at he
          · rename_i str hr
            rw [hr] at h1
            cases he
            have h3 := p_inv h1
            generalize hz : a.eval x = z at h3
            cases h3 with
            | str _ =>
              refine ⟨_, run x _ _ hargs hz ?_, pint_rel _ _⟩
              simp [Builtin.len_, ht0, run_und hu, goInt]
          · cases he
        · cases hc
end Go.AM

