import Derived.Test.YtbbjlecedaamcaaMs1
set_option linter.unusedVariables false
set_option linter.unusedSimpArgs false
namespace Go.AM
open Go.RowKit (Below)
section runs
variable {P : Program} {w : World}
theorem run_und {t : TypeId} {d : TypeDesc} (h : P.underlying t = some d) : (underlying t).run P w = .ok d w := run_underlying h w
theorem run_ti {t : TypeId} {i : TypeInfo} (h : P.info? t = some i) : (typeInfo t).run P w = .ok i w := by
  simp [typeInfo, program, Sem.run, h]
theorem run_sz {t : TypeId} {n : Nat} (h : szOf P t = some n) : (sizeOf t).run P w = .ok n w := by
  unfold szOf at h
  cases hi : P.info? t with
  | none => simp [hi] at h
  | some i => simp [hi] at h; subst h; simp [sizeOf, run_ti hi]
theorem run_agg {t : TypeId} {g : Bool} (h : aggOf P t = some g) : (isAgg t).run P w = .ok g w := by
  unfold aggOf at h
  cases hd : P.underlying t with
  | none => simp [hd] at h
  | some d =>
    simp [hd] at h; subst h
    simp [isAgg, run_und hd]
    cases d <;> rfl
theorem run_loadCellsFrom (a : Addr) : ∀ (xs : List Value) (i : Nat) (acc : Array Value), (∀ j x, xs[j]? = some x → w.cell? (a.add (i + j)) = some x) →
    (loadCellsFrom a i xs.length acc).run P w = .ok (acc ++ ⟨xs⟩) w
  | [], i, acc, _ => by simp [loadCellsFrom]
  | x :: xs, i, acc, h => by
    have h0 := h 0 x rfl
    simp only [Nat.add_zero] at h0
    have ih := run_loadCellsFrom a xs (i + 1) (acc.push x) (fun j y hy => by
      have := h (j + 1) y (by simpa using hy)
      rwa [show i + 1 + j = i + (j + 1) from by omega])
    simp only [List.length_cons, loadCellsFrom, Sem.run_bind, run_load, h0, Result.andThen_ok, ih]
    congr 1
    apply Array.ext'
    simp
theorem add_eq (b off n : Nat) : (⟨b, off, none⟩ : Addr).add n = ⟨b, off + n, none⟩ := by
  unfold Addr.add
  by_cases h : n = 0
  · simp [h]
  · simp [h]
theorem run_loadVarAgg {t : TypeId} {n b off : Nat} (hs : szOf P t = some n) (hg : aggOf P t = some true) {xs : List Value} (hl : xs.length = n)
    (h : ∀ j x, xs[j]? = some x → w.cell? ⟨b, off + j, none⟩ = some x) : (loadVar t ⟨b, off, none⟩).run P w = .ok (.agg ⟨xs⟩) w := by
  subst hl
  have hh := run_loadCellsFrom (P := P) (w := w) ⟨b, off, none⟩ xs 0 #[] (fun j x hx => by rw [add_eq]; simpa using h j x hx)
  simp only [loadVar, Sem.run_bind, run_agg hg, Result.andThen_ok, run_sz hs, loadCells, if_true]
  rw [hh]
  simp
theorem run_loadVarOne {t : TypeId} {b off : Nat} (hg : aggOf P t = some false) {x : Value}
    (h : w.cell? ⟨b, off, none⟩ = some x) : (loadVar t ⟨b, off, none⟩).run P w = .ok x w := by
  simp [loadVar, run_agg hg, h]
end runs
theorem PAt.cells {A : Nat → Prop} {w : World} : ∀ {vs : List PV} {b off : Nat}, PAt A w vs b off → ∃ xs, All2 (PRel A w) vs xs ∧ ∀ j x, xs[j]? = some x → w.cell? ⟨b, off + j, none⟩ = some x
  | [], _, _, _ => ⟨[], .nil, fun j x h => by simp at h⟩
  | _ :: _, b, off, .atCons c cs _ _ x hx h t => by
    obtain ⟨xs, h1, h2⟩ := PAt.cells t
    refine ⟨x :: xs, .cons h h1, fun j y hy => ?_⟩
    cases j with
    | zero => simp at hy; subst hy; exact hx
    | succ j =>
      rw [← h2 j y (by simpa using hy)]; congr 2; omega
theorem take_getElem {α : Type} {l : List α} {n i : Nat} {a : α} (h : (l.take n)[i]? = some a) : l[i]? = some a := by
  rw [List.getElem?_take] at h; split at h
  · exact h
  · simp at h
section load
variable {P : Program} {w : World} {A : Nat → Prop} {τ : Tau}
theorem ldP_sound {t : TypeId} {n b off : Nat} {g : Bool} {cells : List PV} {v : AV} (hs : szOf P t = some n) (hg : aggOf P t = some g) (h : PAt A w cells b off)
    (he : ldP n g cells = some v) : ∃ x, (loadVar t ⟨b, off, none⟩).run P w = .ok x w ∧ VRel A τ w v x := by
  obtain ⟨xs, h1, h2⟩ := h.cells
  unfold ldP at he
  cases g with
  | true =>
    simp only [if_true] at he
    split at he
    · rename_i hn
      cases he
      refine ⟨.agg ⟨xs.take n⟩, run_loadVarAgg hs hg (by simp [h1.length] at hn ⊢; omega) (fun j x hx => h2 j x (take_getElem hx)), .v1 (.agg ?_)⟩
      have := h1.take n
      clear h2 hn h
      generalize cells.take n = cs at this ⊢
      generalize xs.take n = ys at this ⊢
      induction this with
      | nil => exact .nil
      | cons h _ ih => exact .cons (.c0 (.p _ _ h)) ih
    · cases he
  | false =>
    simp only [Bool.false_eq_true, if_false] at he
    split at he
    · rename_i c cs
      cases he
      cases h1 with
      | cons hc _ => exact ⟨_, run_loadVarOne hg (by simpa using h2 0 _ rfl), .v1 (.one (.c0 (.p _ _ hc)))⟩
    · cases he
theorem ldC_sound {t : TypeId} {n b off : Nat} {g : Bool} {cells : List AC} {v : AV} {xs : List Value} (hs : szOf P t = some n) (hg : aggOf P t = some g)
    (h1 : All2 (CRel A τ w) cells xs) (h2 : ∀ (j : Nat) x, xs[j]? = some x → w.cell? ⟨b, off + j, none⟩ = some x)
    (he : ldC n g cells = some v) : ∃ x, (loadVar t ⟨b, off, none⟩).run P w = .ok x w ∧ VRel A τ w v x := by
  unfold ldC at he
  cases g with
  | true =>
    simp only [if_true] at he
    split at he
    · rename_i hn
      cases he
      exact ⟨.agg ⟨xs.take n⟩, run_loadVarAgg hs hg (by simp [h1.length] at hn ⊢; omega) (fun j x hx => h2 j x (take_getElem hx)), .v1 (.agg (h1.take n))⟩
    · cases he
  | false =>
    simp only [Bool.false_eq_true, if_false] at he
    split at he
    · rename_i c cs
      cases he
      cases h1 with
      | cons hc _ => exact ⟨_, run_loadVarOne hg (by simpa using h2 0 _ rfl), .v1 (.one hc)⟩
    · cases he
theorem flatten_get {α : Type} (s : Nat) : ∀ (rows : List (List α)), (∀ r ∈ rows, r.length = s) → ∀ (i j : Nat) (r : List α) (x : α), rows[i]? = some r → r[j]? = some x → rows.flatten[i * s + j]? = some x
  | [], _, i, _, _, _, hi, _ => by simp at hi
  | r0 :: rows, hs, i, j, r, x, hi, hj => by
    have h0 := hs r0 (by simp)
    have hjs : j < r.length := (List.getElem?_eq_some_iff.1 hj).1
    cases i with
    | zero =>
      simp at hi; subst hi
      simp only [List.flatten_cons, Nat.zero_mul, Nat.zero_add]
      rw [List.getElem?_append_left hjs]; exact hj
    | succ i =>
      have hi' : rows[i]? = some r := by simpa using hi
      have ih := flatten_get s rows (fun r hr => hs r (by simp [hr])) i j r x hi' hj
      simp only [List.flatten_cons]
      rw [List.getElem?_append_right (by rw [h0, Nat.succ_mul]; omega), h0, ← ih]
      congr 1
      rw [Nat.succ_mul]; omega
theorem row_at {s i b off : Nat} {rows : List (List PV)} {r : List PV} (hs : ∀ r ∈ rows, r.length = s) (hi : rows[i]? = some r) (h : PAt A w rows.flatten b off) :
    PAt A w r b (off + i * s) := by
  refine PAt.of_get fun j v hj => ?_
  obtain ⟨x, hx, hr⟩ := h.get _ v (flatten_get s rows hs i j r v hi hj)
  exact ⟨x, by rw [← hx]; congr 2; omega, hr⟩
theorem PAt.dropAt {vs : List PV} {b off : Nat} (h : PAt A w vs b off) (m : Nat) : PAt A w (vs.drop m) b (off + m) := by
  refine PAt.of_get fun i v hi => ?_
  rw [List.getElem?_drop] at hi
  obtain ⟨x, hx, hr⟩ := h.get _ v hi
  exact ⟨x, by rw [← hx]; congr 2; omega, hr⟩
theorem ldO_sound {M : Nat → Prop} {t' b : Nat} {t : TypeId} {n i s off : Nat} {g : Bool} {o : AO} {v : AV} (hs : szOf P t = some n) (hg : aggOf P t = some g) (h : ORel M A τ w t' o)
    (hb : τ t' = some b) (he : ldO n g i s off o = some v) : ∃ x, (loadVar t ⟨b, i * s + off, none⟩).run P w = .ok x w ∧ VRel A τ w v x := by
  cases o with
  | none => simp [ldO] at he
  | map m es => simp [ldO] at he
  | cells m cs =>
    obtain ⟨b', xs, e, h1, h2, h3, h4⟩ := h
    obtain rfl : b' = b := by rw [hb] at h1; exact (Option.some.inj h1).symm
    simp only [ldO] at he
    split at he
    · rename_i hi
      subst hi
      refine ldC_sound hs hg (h3.drop off) (fun j x hx => ?_) he
      rw [List.getElem?_drop] at hx
      simp only [World.cell?, h2]
      simpa using hx
    · cases he
  | arr m s' rows =>
    obtain ⟨h0, hl, h⟩ := h
    rcases h with ⟨h1, _⟩ | ⟨b', xs, e, h1, h2, h3, h4, h5⟩
    · rw [hb] at h1; cases h1
    obtain rfl : b' = b := by rw [hb] at h1; exact (Option.some.inj h1).symm
    simp only [ldO] at he
    split at he
    · rename_i hss
      subst hss
      split at he
      · rename_i hc
        simp only [Bool.and_eq_true, beq_iff_eq, bne_iff_ne, ne_eq] at hc
        obtain ⟨⟨⟨hg1, hi⟩, ho⟩, _⟩ := hc
        subst hi ho
        split at he
        · exact ldP_sound hs hg (by simpa using h4) he
        · cases he
      · split at he
        · rename_i r hr
          have := (row_at h0 hr h4).dropAt off
          exact ldP_sound hs hg (by simpa using this) he
        · cases he
    · cases he
end load
section sound
variable {P : Program} {G : Ground} {s : AS} {a : Act} {w : World} {A : Nat → Prop} {τ : Tau}
theorem one_inv {c : AC} {x : Value} (h : VRel A τ w (.one c) x) : CRel A τ w c x := by
  cases h with
  | v1 h => cases h with | one h => exact h
theorem p_inv {v : PV} {x : Value} (h : VRel A τ w (.one (.p v)) x) : PRel A w v x := by
  cases one_inv h with
  | c0 h => cases h with | p _ _ h => exact h
theorem int_inv {k : IntKind} {n : Int} {x : Value} (h : VRel A τ w (.one (.p (.int k n))) x) : x = .int k n := by
  cases p_inv h; rfl
theorem bool_inv {b : Bool} {x : Value} (h : VRel A τ w (.one (.p (.bool b))) x) : x = .bool b := by
  cases p_inv h; rfl
theorem box_inv {cells : List PV} {x : Value} (h : VRel A τ w (.one (.p (.box cells))) x) : ∃ b off, x = .pointer (some ⟨b, off, none⟩) ∧ A b ∧ PAt A w cells b off := by
  cases p_inv h with
  | box _ b off hA h1 => exact ⟨b, off, rfl, hA, h1⟩
theorem ptr_inv {t i s off : Nat} {x : Value} (h : VRel A τ w (.one (.ptr t i s off)) x) : ∃ b, x = .pointer (some ⟨b, i * s + off, none⟩) ∧ τ t = some b := by
  cases one_inv h with
  | c0 h1 => cases h1 with | ptr _ _ _ _ b h2 => exact ⟨b, rfl, h2⟩
theorem pint_rel (k : IntKind) (n : Int) : VRel A τ w (pint k n) (.int k n) := .v1 (.one (.c0 (.p _ _ (.int k n))))
theorem pbool_rel (b : Bool) : VRel A τ w (pbool b) (.bool b) := .v1 (.one (.c0 (.p _ _ (.bool b))))
theorem boxrel {cells : List PV} {b off : Nat} (hA : A b) (h : PAt A w cells b off) : VRel A τ w (.one (.p (.box cells))) (.pointer (some ⟨b, off, none⟩)) :=
  .v1 (.one (.c0 (.p _ _ (.box _ _ _ hA h))))
theorem nil_sound {c : AC} {x : Value} {b : Bool} (h : CRel A τ w c x) (he : isNilC c = some b) :
    (b = true ∧ (x = .slice none 0 0 ∨ x = .nilFunc ∨ x = .nilIface ∨ x = .pointer none)) ∨
    (b = false ∧ ((∃ a l k, x = .slice (some a) l k) ∨ (∃ f u v, x = .func (.func f) u v) ∨ (∃ t v, x = .iface t v) ∨ (∃ a, x = .pointer (some a)))) := by
  unfold isNilC at he
  split at he
  · cases he; left; refine ⟨rfl, ?_⟩; cases h with | c0 h => cases h; exact .inl rfl
  · cases he; left; refine ⟨rfl, ?_⟩; cases h with | c0 h => cases h with | p _ _ h => cases h; exact .inr (.inl rfl)
  · cases he; left; refine ⟨rfl, ?_⟩; cases h with | c0 h => cases h with | p _ _ h => cases h; exact .inr (.inr (.inl rfl))
  · cases he; left; refine ⟨rfl, ?_⟩; cases h with | c0 h => cases h with | p _ _ h => cases h; exact .inr (.inr (.inr rfl))
  · cases he; right; refine ⟨rfl, ?_⟩; cases h with | c0 h => cases h with | p _ _ h => cases h; exact .inr (.inl ⟨_, _, _, rfl⟩)
  · cases he; right; refine ⟨rfl, ?_⟩; cases h with | c0 h => cases h | mfn => exact .inr (.inl ⟨_, _, _, rfl⟩)
  · cases he; right; refine ⟨rfl, ?_⟩; cases h with | c0 h => cases h with | p _ _ h => cases h; exact .inr (.inr (.inl ⟨_, _, rfl⟩))
  · cases he; right; refine ⟨rfl, ?_⟩; cases h with | c0 h => cases h with | p _ _ h => cases h; exact .inr (.inr (.inl ⟨_, _, rfl⟩))
  · cases he; right; refine ⟨rfl, ?_⟩; cases h with | c0 h => cases h with | p _ _ h => cases h; exact .inr (.inr (.inr ⟨_, rfl⟩))
  · cases he; right; refine ⟨rfl, ?_⟩; cases h with | c0 h => cases h; exact .inr (.inr (.inr ⟨_, rfl⟩))
  · rename_i rows
    split at he
    · cases he
    · rename_i hne
      cases he; right; refine ⟨rfl, ?_⟩
      cases h with | c0 h => cases h with | p _ _ h => cases h with
        | nil => simp at hne
        | sl => exact .inl ⟨_, _, _, rfl⟩
  · split at he
    · cases he
    · rename_i hne
      cases he; right; refine ⟨rfl, ?_⟩
      cases h with | c0 h => cases h with
        | mslN => simp at hne
        | msl => exact .inl ⟨_, _, _, rfl⟩
  · cases he
theorem run_eqB' (d : Nat) {t : TypeId} (hu : P.underlying t = some .bool) (a b : Bool) : (Op.equalIn (d + 1) t (.bool a) (.bool b)).run P w = .ok (a == b) w := by
  simp only [Op.equalIn, Sem.run_bind, run_und hu, Result.andThen_ok, Sem.run_pure]
theorem run_eqB {t : TypeId} (hu : P.underlying t = some .bool) (a b : Bool) : (Op.equal t (.bool a) (.bool b)).run P w = .ok (a == b) w := run_eqB' 9999 hu a b
theorem guard_plain {op : BinOp} {t : TypeId} {x y : Operand} {u v : Value} (h : ∀ us, u ≠ .agg us)
    (h2 : u = .nilIface → v = .nilIface → ((match x with | .const _ => true | _ => false) || (match y with | .const _ => true | _ => false)) = true) :
    (eqGuard op t x y u v).run P w = .ok () w := by
  unfold eqGuard
  cases op <;> first
    | rfl
    | (cases u <;> first
        | rfl
        | exact absurd rfl (h _)
        | (cases v <;> first
            | rfl
            | (have h3 := h2 rfl rfl
               cases x <;> cases y <;> first | rfl | (simp at h3))))
theorem nilK_sound {kd : Nat} {c : AC} {x : Value} {b : Bool} (h : CRel A τ w c x) (he : isNilK kd c = some b) :
    (kd = 0 ∧ ((b = true ∧ x = .slice none 0 0) ∨ (b = false ∧ ∃ a l k, x = .slice (some a) l k))) ∨
    (kd = 1 ∧ ((b = true ∧ x = .nilFunc) ∨ (b = false ∧ ∃ f u v, x = .func f u v))) ∨
    (kd = 2 ∧ ((b = true ∧ x = .nilIface) ∨ (b = false ∧ ∃ t v, x = .iface t v))) := by
  unfold isNilK at he
  split at he
  · cases he; left; refine ⟨rfl, .inl ⟨rfl, ?_⟩⟩; cases h with | c0 h => cases h; rfl
  · rename_i rows
    split at he
    · cases he
    · rename_i hne
      cases he; left; refine ⟨rfl, .inr ⟨rfl, ?_⟩⟩
      cases h with | c0 h => cases h with | p _ _ h => cases h with
        | nil => simp at hne
        | sl => exact ⟨_, _, _, rfl⟩
  · split at he
    · cases he
    · rename_i hne
      cases he; left; refine ⟨rfl, .inr ⟨rfl, ?_⟩⟩
      cases h with | c0 h => cases h with
        | mslN => simp at hne
        | msl => exact ⟨_, _, _, rfl⟩
  · cases he; right; left; refine ⟨rfl, .inl ⟨rfl, ?_⟩⟩; cases h with | c0 h => cases h with | p _ _ h => cases h; rfl
  · cases he; right; left; refine ⟨rfl, .inr ⟨rfl, ?_⟩⟩; cases h with | c0 h => cases h with | p _ _ h => cases h; exact ⟨_, _, _, rfl⟩
  · cases he; right; left; refine ⟨rfl, .inr ⟨rfl, ?_⟩⟩; cases h with | c0 h => cases h | mfn => exact ⟨_, _, _, rfl⟩
  · cases he; right; right; refine ⟨rfl, .inl ⟨rfl, ?_⟩⟩; cases h with | c0 h => cases h with | p _ _ h => cases h; rfl
  · cases he; right; right; refine ⟨rfl, .inr ⟨rfl, ?_⟩⟩; cases h with | c0 h => cases h with | p _ _ h => cases h; exact ⟨_, _, rfl⟩
  · cases he; right; right; refine ⟨rfl, .inr ⟨rfl, ?_⟩⟩; cases h with | c0 h => cases h with | p _ _ h => cases h; exact ⟨_, _, rfl⟩
  · cases he
def kdOf : TypeDesc → Option Nat
  | .slice _ => some 0
  | .func _ _ _ => some 1
  | .interface _ => some 2
  | _ => none
theorem nil_run {t : TypeId} {d : TypeDesc} (hu : P.underlying t = some d) {kd : Nat} (hk : kdOf d = some kd) {c e : AC} {x y : Value} {a' b' : Bool} (h1 : CRel A τ w c x) (h2 : CRel A τ w e y)
    (e1 : isNilK kd c = some a') (e2 : isNilK kd e = some b') (hab : a' = true ∨ b' = true) (n : Nat) :
    (Op.equalIn (n + 1) t x y).run P w = .ok (a' == b') w := by
  have k1 := nilK_sound h1 e1
  have k2 := nilK_sound h2 e2
  clear h1 h2 e1 e2
  cases d <;> simp only [kdOf] at hk <;> cases hk
  · rcases k1 with ⟨_, h⟩ | ⟨h0, _⟩ | ⟨h0, _⟩
    · rcases k2 with ⟨_, h'⟩ | ⟨h0, _⟩ | ⟨h0, _⟩
      · rcases h with ⟨rfl, rfl⟩ | ⟨rfl, u1, u2, u3, rfl⟩ <;> rcases h' with ⟨rfl, rfl⟩ | ⟨rfl, v1, v2, v3, rfl⟩ <;> first | (simp [Op.equalIn, run_und hu]; done) | (simp at hab)
      · cases h0
      · cases h0
    · cases h0
    · cases h0
  · rcases k1 with ⟨h0, _⟩ | ⟨_, h⟩ | ⟨h0, _⟩
    · cases h0
    · rcases k2 with ⟨h0, _⟩ | ⟨_, h'⟩ | ⟨h0, _⟩
      · cases h0
      · rcases h with ⟨rfl, rfl⟩ | ⟨rfl, u1, u2, u3, rfl⟩ <;> rcases h' with ⟨rfl, rfl⟩ | ⟨rfl, v1, v2, v3, rfl⟩ <;> first | (simp [Op.equalIn, run_und hu]; done) | (simp at hab)
      · cases h0
    · cases h0
  · rcases k1 with ⟨h0, _⟩ | ⟨h0, _⟩ | ⟨_, h⟩
    · cases h0
    · cases h0
    · rcases k2 with ⟨h0, _⟩ | ⟨h0, _⟩ | ⟨_, h'⟩
      · cases h0
      · cases h0
      · rcases h with ⟨rfl, rfl⟩ | ⟨rfl, u1, u2, rfl⟩ <;> rcases h' with ⟨rfl, rfl⟩ | ⟨rfl, v1, v2, rfl⟩ <;> first | (simp [Op.equalIn, run_und hu]; done) | (simp at hab)
end sound
end Go.AM

