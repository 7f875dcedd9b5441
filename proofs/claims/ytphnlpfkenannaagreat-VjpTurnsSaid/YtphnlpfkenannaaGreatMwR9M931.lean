import Derived.Test.YtphnlpfkenannaaGreatMwR9M930
import Derived.ProofKit
import Derived.HandedShaped
import Derived.ChangeArms
import Derived.DataReads
import Derived.Test.YtphnlpfkenannaaGreatRows
set_option linter.unusedVariables false
set_option linter.unusedSimpArgs false
namespace Go.AM
open Go.RowKit (Below)

mutual
inductive Conf (P : Program) : TypeId → List PV → Prop
  | bool {t : TypeId} (b : Bool) (ht : P.underlying t = some .bool) : Conf P t [.bool b]
  | int {t : TypeId} {k : IntKind} (n : Int) (ht : P.underlying t = some (.int k)) (hw : (Lit.int k n).wf = true) : Conf P t [.int k n]
  | str {t : TypeId} (s : ByteArray) (ht : P.underlying t = some .string) : Conf P t [.str s]
  | sl {t e : TypeId} (rows : List (List PV)) (ht : P.underlying t = some (.slice e)) (h : ∀ r ∈ rows, Conf P e r) : Conf P t [.sl rows]
  | st {t : TypeId} {fs : Array Field} (parts : List (List PV)) (ht : P.underlying t = some (.struct fs)) (h : ConfAll P (fs.toList.map (·.type)) parts) : Conf P t parts.flatten
inductive ConfAll (P : Program) : List TypeId → List (List PV) → Prop
  | nil : ConfAll P [] []
  | cons {t : TypeId} {ts : List TypeId} {r : List PV} {rs : List (List PV)} (h : Conf P t r) (hs : ConfAll P ts rs) : ConfAll P (t :: ts) (r :: rs)
end
def contig (P : Program) : Nat → List Field → Nat → Bool
  | off, [], n => off == n
  | off, f :: fs, n => f.offset == off && contig P (off + P.cellsOf f.type) fs n
def okTy (P : Program) : Nat → TypeId → Bool
  | 0, _ => false
  | m + 1, t => match P.underlying t with
    | some .bool => P.cellsOf t == 1
    | some (.int _) => P.cellsOf t == 1
    | some .string => P.cellsOf t == 1
    | some (.slice e) => P.cellsOf t == 1 && decide (1 ≤ P.cellsOf e) && decide (1 ≤ P.bytesOf e) && okTy P m e
    | some (.struct fs) => contig P 0 fs.toList (P.cellsOf t) && fs.toList.all fun f => okTy P m f.type
    | _ => false
theorem flat_at {A : Nat → Prop} {w : World} {b c : Nat} : ∀ {rows : List (List PV)} {off : Nat}, (∀ r ∈ rows, r.length = c) → (∀ i r, rows[i]? = some r → PAt A w r b (off + i * c)) → PAt A w rows.flatten b off
  | [], off, _, _ => .atNil b off
  | r :: rows, off, h1, h2 => by
    simp only [List.flatten_cons]
    refine PAt.append (by simpa using h2 0 r rfl) ?_
    refine flat_at (fun r hr => h1 r (by simp [hr])) fun i r' hi => ?_
    have := h2 (i + 1) r' (by simpa using hi)
    rw [h1 r (by simp)]
    rwa [show off + (i + 1) * c = off + c + i * c from by rw [Nat.add_mul]; omega] at this
section
variable {H : Type} {enc : TypeId × Value → H} {P : Program} {w : World}
def inHeap (w : World) (b : Nat) : Prop := b < w.heap.size
theorem cell_lt {a : Addr} {v : Value} (h : w.cell? a = some v) : a.block < w.heap.size ∧ a.spot = none ∧ w.cell? ⟨a.block, a.off, none⟩ = some v := by
  unfold World.cell? at h ⊢
  split at h
  · rename_i c e z hb
    split at h
    · cases h
    · rename_i hs
      have : a.spot = none := by cases hz : a.spot <;> simp_all
      exact ⟨heap_lt hb, this, by simp [hb, h]⟩
  · cases h
theorem weights_mem {e : TypeId} {l : List (DataW H)} {n : Nat} (h : (DataW.weightsAll P e l).all (· ≤ n) = true) : ∀ d ∈ l, (d.weights P e).all (· ≤ n) = true := by
  induction l with
  | nil => intro d hd; simp at hd
  | cons x l ih =>
    simp only [DataW.weightsAll, List.all_append, Bool.and_eq_true] at h
    intro d hd
    rcases List.mem_cons.1 hd with rfl | hd
    · exact h.1
    · exact ih h.2 d hd
theorem reads_fields {total n : Nat} {cs : List Value} (hlen : cs.length = total) (ih : ∀ (t : TypeId), okTy P n t = true → ∀ (m : Nat) (cs : List Value) (d : DataW H) (ps : List MemPlace),
      DataW.trod enc P w 0 (fun _ => true) true m t cs = some (d, ps) → (d.weights P t).all (· ≤ reachBytes) = true → ∃ vs, Conf P t vs ∧ vs.length = P.cellsOf t ∧ PRels (inHeap w) w vs cs) {m : Nat} :
    ∀ (fs : List Field) (off : Nat) (xs : List (DataW H × List MemPlace)), contig P off fs total = true → (fs.all fun f => okTy P n f.type) = true → xs.length = fs.length →
      (∀ (i : Nat) (f : Field), fs[i]? = some f → DataW.trod enc P w 0 (fun _ => true) true m f.type ((cs.drop f.offset).take (P.cellsOf f.type)) = xs[i]?) →
      (DataW.weightsEach P (fs.map (·.type)) (xs.map (·.1))).all (· ≤ reachBytes) = true → off ≤ total →
      ∃ parts, ConfAll P (fs.map (·.type)) parts ∧ parts.flatten.length = total - off ∧ PRels (inHeap w) w parts.flatten (cs.drop off)
  | [], off, xs, h1, _, _, _, _, hle => by
    simp only [contig, beq_iff_eq] at h1
    subst h1
    exact ⟨[], .nil, by simp, by rw [List.drop_eq_nil_of_le (by omega)]; exact .psNil⟩
  | f :: fs, off, xs, h1, h2, h3, h4, h5, hle => by
    simp only [contig, Bool.and_eq_true, beq_iff_eq] at h1
    simp only [List.all_cons, Bool.and_eq_true] at h2
    obtain ⟨ho, h1⟩ := h1
    cases xs with
    | nil => simp at h3
    | cons x xs =>
      have e0 := h4 0 f rfl
      rw [ho] at e0
      simp only [List.getElem?_cons_zero] at e0
      simp only [List.map_cons, DataW.weightsEach, List.all_append, Bool.and_eq_true] at h5
      obtain ⟨vs, c1, c2, c3⟩ := ih f.type h2.1 m _ x.1 x.2 e0 h5.1
      have hlen2 := (PRels.all2.1 c3).length
      have hle2 : off + P.cellsOf f.type ≤ total := by
        rw [c2, List.length_take, List.length_drop] at hlen2
        omega
      obtain ⟨parts, p1, p2, p3⟩ := reads_fields hlen ih fs (off + P.cellsOf f.type) xs h1 h2.2 (by simpa using h3) (fun i f' hi => by simpa using h4 (i + 1) f' (by simpa using hi)) h5.2 hle2
      refine ⟨vs :: parts, .cons c1 p1, by simp only [List.flatten_cons, List.length_append, p2, c2]; omega, ?_⟩
      simp only [List.flatten_cons]
      have := PRels.all2.2 ((PRels.all2.1 c3).append (PRels.all2.1 p3))
      rwa [← List.drop_drop, List.take_append_drop] at this
theorem rows_of {α : Type} {Q : Nat → α → Prop} : ∀ (n : Nat), (∀ i, i < n → ∃ r, Q i r) → ∃ rows : List α, rows.length = n ∧ ∀ i r, rows[i]? = some r → Q i r
  | 0, _ => ⟨[], rfl, fun i r h => by simp at h⟩
  | n + 1, h => by
    obtain ⟨rows, h1, h2⟩ := rows_of n fun i hi => h i (by omega)
    obtain ⟨r, hr⟩ := h n (by omega)
    refine ⟨rows ++ [r], by simp [h1], fun i x hx => ?_⟩
    by_cases hi : i < n
    · rw [List.getElem?_append_left (by omega)] at hx; exact h2 i x hx
    · rw [List.getElem?_append_right (by omega)] at hx
      have : i = n := by
        by_cases e : i = n
        · exact e
        · rw [List.getElem?_eq_none (by simp; omega)] at hx; cases hx
      subst this
      rw [show i - rows.length = 0 from by omega] at hx
      simp at hx; subst hx; exact hr
theorem add_none (b off k : Nat) : (⟨b, off, none⟩ : Addr).add k = ⟨b, off + k, none⟩ := by
  unfold Addr.add
  split
  · rename_i h; subst h; rfl
  · rfl
theorem reads : ∀ (n : Nat) (t : TypeId), okTy P n t = true → ∀ (m : Nat) (cs : List Value) (d : DataW H) (ps : List MemPlace),
    DataW.trod enc P w 0 (fun _ => true) true m t cs = some (d, ps) → (d.weights P t).all (· ≤ reachBytes) = true → ∃ vs, Conf P t vs ∧ vs.length = P.cellsOf t ∧ PRels (inHeap w) w vs cs
  | 0, t, h => by simp [okTy] at h
  | n + 1, t, h => by
    intro m cs d ps hd hw
    unfold okTy at h
    split at h
    · rename_i ht
      obtain ⟨b, rfl, hx⟩ := DataW.trod_bool ht hd
      exact ⟨[.bool b], .bool b ht, by simpa using (beq_iff_eq.1 h).symm, .psCons _ _ _ _ (.bool b) .psNil⟩
    · rename_i k ht
      obtain ⟨z, rfl, hx, hwf⟩ := DataW.trod_int ht hd
      exact ⟨[.int k z], .int z ht hwf, by simpa using (beq_iff_eq.1 h).symm, .psCons _ _ _ _ (.int k z) .psNil⟩
    · rename_i ht
      obtain ⟨z, rfl, hx, _⟩ := DataW.trod_string ht hd
      exact ⟨[.str z], .str z ht, by simpa using (beq_iff_eq.1 h).symm, .psCons _ _ _ _ (.str z) .psNil⟩
    · rename_i e ht
      simp only [Bool.and_eq_true, beq_iff_eq, decide_eq_true_eq] at h
      obtain ⟨⟨⟨h1, h2⟩, h3⟩, h4⟩ := h
      rcases DataW.trod_slice ht hd with ⟨rfl, hx⟩ | ⟨a, len, cap, elems, rest, m', _, rfl, hx, _, hlc, hcm, hel, hget, hsp, _⟩
      · exact ⟨[.sl []], .sl [] ht (by simp), by simp [h1], .psCons _ _ _ _ (.nil none 0) .psNil⟩
      · obtain ⟨hrl, _⟩ := hsp rfl
        simp only [Prod.mk.injEq] at hx
        obtain ⟨rfl, _⟩ := hx
        simp only [DataW.weights, ht, List.all_cons, List.all_append, Bool.and_eq_true, decide_eq_true_eq, List.length_map] at hw
        obtain ⟨hw1, hw2, _⟩ := hw
        have hcap : cap ≤ reachBytes := by
          have : (elems.length + rest.length) * 1 ≤ (elems.length + rest.length) * P.bytesOf e := Nat.mul_le_mul_left _ h3
          omega
        have each : ∀ i, i < len → ∃ r, Conf P e r ∧ r.length = P.cellsOf e ∧ ∃ cs', w.cells? 0 (a.add (i * P.cellsOf e)) (P.cellsOf e) = some cs' ∧ PRels (inHeap w) w r cs' := by
          intro i hi
          have hi2 : i < elems.length := by omega
          have := hget i hi
          rw [List.getElem?_eq_getElem hi2] at this
          obtain ⟨cs', q1, q2⟩ := Option.bind_eq_some_iff.1 this
          obtain ⟨vs, r1, r2, r3⟩ := reads n e h4 m' cs' _ _ q2 (weights_mem hw2 _ (List.mem_map_of_mem (List.getElem_mem hi2)))
          exact ⟨vs, r1, r2, cs', q1, r3⟩
        obtain ⟨rows, hrows, hrow⟩ := rows_of len each
        have hconf : ∀ r ∈ rows, Conf P e r ∧ r.length = P.cellsOf e := by
          intro r hr
          obtain ⟨i, hi⟩ := List.getElem?_of_mem hr
          exact ⟨(hrow i r hi).1, (hrow i r hi).2.1⟩
        refine ⟨[.sl rows], .sl rows ht fun r hr => (hconf r hr).1, by simp [h1], .psCons _ _ _ _ ?_ .psNil⟩
        by_cases h0 : len = 0
        · subst h0
          have : rows = [] := List.length_eq_zero_iff.1 hrows
          subst this
          exact .nil (some a) cap
        · obtain ⟨_, _, _, cs', q1, q2⟩ := each 0 (by omega)
          obtain ⟨_, q3, q4⟩ := World.cells?_some q1
          have q5 := q4 0 (by omega)
          rw [List.getElem?_eq_getElem (by omega)] at q5
          have e1 : (a.add (0 * P.cellsOf e)).add 0 = a := by simp [Addr.add]
          rw [e1] at q5
          obtain ⟨z1, z2, _⟩ := cell_lt q5
          obtain ⟨b, off, spot⟩ := a
          simp only at z1 z2
          subst z2
          have hM : reachBytes ≤ MaxN := by decide
          have := Rel.sl (A := inHeap w) (w := w) rows b off cap (P.cellsOf e) z1 (fun r hr => (hconf r hr).2) (by omega) (by omega) (flat_at (fun r hr => (hconf r hr).2) fun i r hi => by
            obtain ⟨_, s2, cs', s3, s4⟩ := hrow i r hi
            obtain ⟨_, s5, s6⟩ := World.cells?_some s3
            refine PAt.of_get fun j v hj => ?_
            obtain ⟨x, hx, hr⟩ := (PRels.all2.1 s4).get j v hj
            refine ⟨x, ?_, hr⟩
            have := s6 j (by have := (List.getElem?_eq_some_iff.1 hj).1; omega)
            rw [add_none, add_none, hx] at this
            exact this)
          rw [hrows] at this
          exact this
    · rename_i fs ht
      simp only [Bool.and_eq_true] at h
      obtain ⟨xs, m', _, hx, hl, hxl, hf⟩ := DataW.trod_struct ht hd
      simp only [Prod.mk.injEq] at hx
      obtain ⟨rfl, _⟩ := hx
      simp only [DataW.weights, ht] at hw
      obtain ⟨parts, p1, p2, p3⟩ := reads_fields (m := m') hl (reads n) fs.toList 0 xs h.1 h.2 (by simpa using hxl) (fun i f hi => hf i f (by simpa using hi)) hw (Nat.zero_le _)
      exact ⟨parts.flatten, .st parts ht p1, by simpa using p2, by simpa using p3⟩
    · cases h
end
def ArgOk (P : Program) (t : TypeId) (d : DV) : Prop :=
  match P.underlying t with
  | some (.struct _) => ∃ vs, d = .agg vs ∧ Conf P t vs
  | _ => ∃ v, d = .one v ∧ Conf P t [v]
theorem arg_reads {H : Type} {enc : TypeId × Value → H} {P : Program} {w : World} {base n : Nat} {t : TypeId} {v : Value} {d : DataW H} {ps : List MemPlace} (ht : okTy P n t = true) (hv : Value.okWide P w .any base t v)
    (hd : DataW.Trod enc P w 0 (fun _ => true) true t v d ps) (hw : (d.weights P t).all (· ≤ reachBytes) = true) : ∃ x, ArgOk P t x ∧ DRel (inHeap w) w x v := by
  obtain ⟨m, hd⟩ := hd
  obtain ⟨vs, h1, h2, h3⟩ := reads n t ht m _ d ps hd hw
  have one : (∀ xs, v ≠ .agg xs) → P.cellsOf t = 1 → ∃ c, vs = [c] ∧ DRel (inHeap w) w (.one c) v := by
    intro hn hc
    have hcell : v.cells.toList = [v] := by cases v <;> first | rfl | exact absurd rfl (hn _)
    rw [hcell] at h3
    cases h3 with
    | psCons c _ cs _ h t =>
      cases t
      exact ⟨c, rfl, .d1 (.one h)⟩
  cases n with
  | zero => simp [okTy] at ht
  | succ n =>
  unfold okTy at ht
  unfold ArgOk
  unfold Value.okWide at hv
  split at ht
  · rename_i hu
    simp only [hu] at hv ⊢
    obtain ⟨c, rfl, hr⟩ := one (fun xs e => by subst e; simp [Cell.okWide, Cell.ok, hu] at hv) (by simpa using ht)
    exact ⟨_, ⟨c, rfl, h1⟩, hr⟩
  · rename_i k hu
    simp only [hu] at hv ⊢
    obtain ⟨c, rfl, hr⟩ := one (fun xs e => by subst e; simp [Cell.okWide, Cell.ok, hu] at hv) (by simpa using ht)
    exact ⟨_, ⟨c, rfl, h1⟩, hr⟩
  · rename_i hu
    simp only [hu] at hv ⊢
    obtain ⟨c, rfl, hr⟩ := one (fun xs e => by subst e; simp [Cell.okWide, Cell.ok, hu] at hv) (by simpa using ht)
    exact ⟨_, ⟨c, rfl, h1⟩, hr⟩
  · rename_i e hu
    simp only [hu] at hv ⊢
    simp only [Bool.and_eq_true, beq_iff_eq] at ht
    obtain ⟨c, rfl, hr⟩ := one (fun xs e => by subst e; simp [Cell.okWide, Cell.ok, hu] at hv) ht.1.1.1
    exact ⟨_, ⟨c, rfl, h1⟩, hr⟩
  · rename_i fs hu
    simp only [hu] at hv ⊢
    obtain ⟨cs, rfl, _, _⟩ := hv
    exact ⟨_, ⟨vs, rfl, h1⟩, .d1 (.agg (PRels.all2.1 h3))⟩
  · cases ht
theorem args_read {H : Type} {enc : TypeId × Value → H} {P : Program} {w : World} {base n : Nat} : ∀ {ts : List TypeId} {vs : List Value} {ds : List (DataW H)} {ps : List MemPlace}, (ts.all fun t => okTy P n t) = true →
    (∀ (j : Nat) t v, ts[j]? = some t → vs[j]? = some v → Value.okWide P w .any base t v) → DataW.TrodAll enc P w 0 (fun _ => true) true ts vs ds ps → (DataW.weightsEach P ts ds).all (· ≤ reachBytes) = true →
    ∃ xs, All2 (ArgOk P) ts xs ∧ All2 (DRel (inHeap w) w) xs vs
  | [], vs, ds, ps, _, _, h, _ => by
    cases vs <;> cases ds <;> simp [DataW.TrodAll] at h
    exact ⟨[], .nil, .nil⟩
  | t :: ts, vs, ds, ps, ht, hv, h, hw => by
    obtain ⟨v, vs', d, ds', p, q, rfl, rfl, rfl, h1, h2⟩ := Go.ChangeShapes.trodAll_cons h
    simp only [List.all_cons, Bool.and_eq_true] at ht
    simp only [DataW.weightsEach, List.all_append, Bool.and_eq_true] at hw
    obtain ⟨x, a1, a2⟩ := arg_reads ht.1 (hv 0 t v rfl rfl) h1 hw.1
    obtain ⟨xs, b1, b2⟩ := args_read ht.2 (fun j t v h3 h4 => hv (j + 1) t v (by simpa using h3) (by simpa using h4)) h2 hw.2
    exact ⟨x :: xs, .cons a1 b1, .cons a2 b2⟩
theorem args_carry {H : Type} {enc : TypeId × Value → H} {P : Program} (hl : laidOutB P = true) {W W' : World} {sp : Nat → Bool} : ∀ {ts : List TypeId} {vs : List Value} {ds : List (DataW H)} {ps : List MemPlace},
    (ts.all fun t => P.readableRec t && decide (t < P.types.size)) = true → DataW.TrodAll enc P W 0 (fun _ => true) true ts vs ds ps → (∀ p ∈ ps, W.sameAt W' p) → (∀ p ∈ ps, sp p.block = true) → DataW.TrodAll enc P W' 0 sp true ts vs ds ps
  | [], vs, ds, ps, _, h, _, _ => by cases vs <;> cases ds <;> simp [DataW.TrodAll] at h ⊢; exact h
  | t :: ts, vs, ds, ps, ht, h, h1, h2 => by
    obtain ⟨v, vs', d, ds', p, q, rfl, rfl, rfl, h3, h4⟩ := Go.ChangeShapes.trodAll_cons h
    simp only [List.all_cons, Bool.and_eq_true, decide_eq_true_eq] at ht
    exact ⟨p, q, Go.WideElems.Trod_stays hl ht.1.1 ht.1.2 h3 (fun x hx => h1 x (by simp [hx])) (fun x hx => h2 x (by simp [hx])), args_carry hl ht.2 h4 (fun x hx => h1 x (by simp [hx])) (fun x hx => h2 x (by simp [hx])), rfl⟩
theorem law_lifted {C : Checked} {os : Os} {f : FuncId} {fn : Func} {spec : ChangeSpec} {conds : List PathCond} {H : Type} {enc : TypeId × Value → H} {tb : TypeId} (n : Nat)
    (own : ownKnob C.prog.godebug = none) (started : os.Started) (noInit : C.prog.inits.idxOf? f = none) (hfn : C.prog.funcs[f]? = some fn)
    (witness : ∃ (w : World) (tape : Tape) (i : Input), w.os = os ∧ (w.forCall tape i).Shaped C.prog ∧ i.vars = [] ∧ Input.okWide C.prog (w.forCall tape i) .any w.heap.size f i ∧
      spec.pre6 enc C.prog fn conds false (w.forCall tape i).memory i.args ∧ ({} : Assume).holds C.prog (lone (Frame.enter C.prog f i.args .normal) [] (w.forCall tape i)))
    (hl : laidOutB C.prog = true) (hts : (fn.params.toList.all fun t => okTy C.prog n t) = true) (hrd : (fn.params.toList.all fun t => C.prog.readableRec t && decide (t < C.prog.types.size)) = true)
    (hvars : spec.vars = []) (hres : fn.resultTypes = #[tb]) (hb : C.prog.underlying tb = some .bool)
    (hspec : ∀ ds : List (DataW H), ds.length = fn.params.size → spec.fn H ds = { results := [.lit (.bool true)], args := ds })
    (law : ∀ xs, All2 (ArgOk C.prog) fn.params.toList xs → PureC C.prog f xs (.one (.bool true))) :
    ReturnsInHanded {} C os f .any (spec.pre6 enc C.prog fn conds false) (spec.post enc C.prog fn false true false false) := by
  refine returnsInHanded_of_change_shaped own started noInit hfn witness ?_
  intro W base args ds gs before hval hW _ hwt _ _
  obtain ⟨p, q, hA, hV, rfl, hfz, hnd⟩ := id hW
  rw [hvars] at hV
  have hgs : gs = [] ∧ q = [] := by
    cases gs with
    | nil => simp only [DataW.TrodVars] at hV; exact ⟨rfl, hV⟩
    | cons _ _ => exact hV.elim
  obtain ⟨rfl, rfl⟩ := hgs
  have hvt : spec.plain.varTypes C.prog = [] := by
    simp [DataSpec.varTypes, ChangeSpec.plain, hvars]
  rw [hvt, List.append_nil, List.append_nil] at hwt
  obtain ⟨xs, h1, h2⟩ := args_read hts (fun j t v h3 h4 => hval j t v (by simpa using h3) (by simpa using h4)) hA hwt
  have hlen : ds.length = fn.params.size := by
    have key : ∀ {ts : List TypeId} {vs : List Value} {ds : List (DataW H)} {ps : List MemPlace}, DataW.TrodAll enc C.prog W 0 (fun _ => true) true ts vs ds ps → ds.length = ts.length := by
      intro ts
      induction ts with
      | nil => intro vs ds ps h; cases vs <;> cases ds <;> simp [DataW.TrodAll] at h ⊢
      | cons t ts ih =>
        intro vs ds ps h
        obtain ⟨_, _, _, _, _, _, rfl, rfl, _, _, h4⟩ := Go.ChangeShapes.trodAll_cons h
        simp [ih h4]
    simpa using key hA
  have hsp := hspec ds hlen
  have hcall := (law xs h1).calls (inHeap W) W args.toList (fun _ hb => hb) h2
  refine Calls.mono (by simpa using hcall) ?_
  rintro e W' ⟨x, rfl, hbel, hr⟩
  have hx : x = .bool true := by
    cases hr with | d1 h => cases h with | one h => cases h; rfl
  subst hx
  refine ⟨_, rfl, ds, [], p ++ [], [], p, [], hW, ?_, ?_, ?_, hbel.frame _, fun h => by cases h⟩
  · rw [List.append_nil, hsp, hres]
    exact Go.ChangeShapes.trodAll_mk1 (Go.RowKit.shut_bool hb true)
  · rw [List.append_nil, hsp]
    exact args_carry hl hrd hA (fun x hx => hbel.same (hW.lt x (by simpa using hx))) (fun x hx => by simpa using hW.lt x (by simpa using hx))
  · rw [List.append_nil, hsp, hvars]
    rfl
end Go.AM

namespace Go.AM
open Go Go.Proofs Go.Proofs.YtphnlpfkenannaaGreat
set_option maxRecDepth 100000

theorem wf_i64 {n : Int} (h : (Lit.int .i64 n).wf = true) : -9223372036854775808 ≤ n ∧ n < 9223372036854775808 := by
  simp only [Lit.wf, IntKind.has, IntKind.min, IntKind.max, IntKind.bits, IntKind.signed] at h
  simp at h
  omega
theorem conf_int {v : List PV} (h : Conf Tryz.prog 3 v) : ∃ n : Int, v = [.int .i64 n] ∧ -9223372036854775808 ≤ n ∧ n < 9223372036854775808 := by
  have hu := Tryz.underlying3
  cases h with
  | bool b ht => rw [hu] at ht; cases ht
  | int n ht hw => rw [hu] at ht; cases ht; exact ⟨n, rfl, wf_i64 hw⟩
  | str s ht => rw [hu] at ht; cases ht
  | sl rows ht h => rw [hu] at ht; cases ht
  | st parts ht h => rw [hu] at ht; cases ht
def i64s (s : List Int) : Prop := ∀ n ∈ s, -9223372036854775808 ≤ n ∧ n < 9223372036854775808
theorem conf_rows : ∀ {rows : List (List PV)}, (∀ r ∈ rows, Conf Tryz.prog 3 r) → ∃ s : List Int, rows = rI s ∧ i64s s
  | [], _ => ⟨[], rfl, fun n hn => by simp at hn⟩
  | r :: rows, h => by
    obtain ⟨n, rfl, hn⟩ := conf_int (h r (by simp))
    obtain ⟨s, rfl, hs⟩ := conf_rows (rows := rows) fun r hr => h r (by simp [hr])
    exact ⟨n :: s, rfl, fun m hm => by
      rcases List.mem_cons.1 hm with rfl | hm
      · exact hn
      · exact hs m hm⟩
theorem conf_ints {v : List PV} (h : Conf Tryz.prog 23 v) : ∃ s : List Int, v = [eI s] ∧ i64s s := by
  have hu := Tryz.underlying23
  cases h with
  | bool b ht => rw [hu] at ht; cases ht
  | int n ht hw => rw [hu] at ht; cases ht
  | str s ht => rw [hu] at ht; cases ht
  | sl rows ht h =>
    rw [hu] at ht; cases ht
    obtain ⟨s, rfl, hs⟩ := conf_rows h
    exact ⟨s, rfl, hs⟩
  | st parts ht h => rw [hu] at ht; cases ht
theorem conf_T {v : List PV} (h : Conf Tryz.prog 25 v) : ∃ s d : List Int, v = [eI s, eI d] ∧ i64s s ∧ i64s d := by
  have hu := Tryz.underlying25
  cases h with
  | bool b ht => rw [hu] at ht; cases ht
  | int n ht hw => rw [hu] at ht; cases ht
  | str s ht => rw [hu] at ht; cases ht
  | sl rows ht h => rw [hu] at ht; cases ht
  | st parts ht h =>
    rw [hu] at ht; cases ht
    cases h with | cons h1 h => cases h with | cons h2 h => cases h with | nil =>
      obtain ⟨s, rfl, hs⟩ := conf_ints h1
      obtain ⟨d, rfl, hd⟩ := conf_ints h2
      exact ⟨s, d, rfl, hs, hd⟩
theorem arg_T {d : DV} (h : ArgOk Tryz.prog 25 d) : ∃ s e : List Int, d = dT s e ∧ i64s s ∧ i64s e := by
  unfold ArgOk at h
  rw [Tryz.underlying25] at h
  obtain ⟨vs, rfl, h⟩ := h
  obtain ⟨s, e, rfl, hs, he⟩ := conf_T h
  exact ⟨s, e, rfl, hs, he⟩
theorem arg_N {d : DV} (h : ArgOk Tryz.prog 3 d) : ∃ n : Int, d = dN n ∧ -9223372036854775808 ≤ n ∧ n < 9223372036854775808 := by
  unfold ArgOk at h
  rw [Tryz.underlying3] at h
  obtain ⟨v, rfl, h⟩ := h
  obtain ⟨s, e, hs⟩ := conf_int h
  cases e
  exact ⟨s, rfl, hs⟩
theorem own : ownKnob Tryz.prog.godebug = none := by kernel_rfl
theorem laidOut : laidOutB Tryz.prog = true := by kernel_rfl
theorem wf_u8 {n : Int} (h : (Lit.int .u8 n).wf = true) : 0 ≤ n ∧ n < 256 := by
  simp only [Lit.wf, IntKind.has, IntKind.min, IntKind.max, IntKind.bits, IntKind.signed] at h
  simp at h
  omega
theorem arg_U {d : DV} (h : ArgOk Tryz.prog 5 d) : ∃ n : Nat, d = .one (.int .u8 n) ∧ n < 256 := by
  have hu := Tryz.underlying5
  unfold ArgOk at h
  rw [hu] at h
  obtain ⟨v, rfl, h⟩ := h
  generalize hv : [v] = l at h
  cases h with
  | bool b ht => rw [hu] at ht; cases ht
  | int n ht hw =>
    rw [hu] at ht; cases ht; cases hv
    have := wf_u8 hw
    obtain ⟨m, rfl⟩ := Int.eq_ofNat_of_zero_le this.1
    exact ⟨m, rfl, by omega⟩
  | str s ht => rw [hu] at ht; cases ht
  | sl rows ht h => rw [hu] at ht; cases ht
  | st parts ht h => rw [hu] at ht; cases ht
end Go.AM

