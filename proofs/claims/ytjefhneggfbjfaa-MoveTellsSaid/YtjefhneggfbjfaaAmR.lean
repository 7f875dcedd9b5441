import Derived.Test.YtjefhneggfbjfaaAmH
namespace Go.AM
set_option linter.unusedSimpArgs false
set_option linter.unusedVariables false

mutual
/-- no list in it is longer than any memory -/
def PV.wf : PV → Prop
  | .sl rows => rows.length ≤ MaxN ∧ wfss rows
  | .fn _ a b => wfs a ∧ wfs b
  | .box cs => wfs cs
  | .map es => wfe es
  | .ifc _ c => c.wf
  | .ifcA _ cs => wfs cs
  | _ => True
def wfs : List PV → Prop
  | [] => True
  | c :: cs => c.wf ∧ wfs cs
def wfss : List (List PV) → Prop
  | [] => True
  | c :: cs => wfs c ∧ wfss cs
def wfe : List (Int × Bool × List PV) → Prop
  | [] => True
  | (_, _, c) :: cs => wfs c ∧ wfe cs
end

theorem wfs_append : ∀ {a b : List PV}, wfs (a ++ b) → wfs a ∧ wfs b
  | [], b, h => ⟨by simp [wfs], h⟩
  | c :: a, b, h => by
    simp only [List.cons_append, wfs] at h ⊢
    obtain ⟨h1, h2⟩ := h
    exact ⟨⟨h1, (wfs_append h2).1⟩, (wfs_append h2).2⟩

theorem wfss_flatten : ∀ {rows : List (List PV)}, wfs rows.flatten → wfss rows
  | [], _ => by simp [wfss]
  | r :: rows, h => by
    simp only [List.flatten_cons] at h
    simp only [wfss]
    exact ⟨(wfs_append h).1, wfss_flatten (wfs_append h).2⟩

def J.wf : J → Prop
  | .p v _ => v.wf
  | .ps vs _ => wfs vs
  | .at_ vs _ _ => wfs vs
  | .en es _ => wfe es

theorem Rel.wf {A : Nat → Prop} {w : World} {j : J} (h : Rel A w j) : j.wf := by
  induction h with
  | sl rows b off cap s hA hs hl hc h ih =>
    simp only [J.wf, PV.wf] at ih ⊢
    exact ⟨hl, wfss_flatten ih⟩
  | _ => simp_all [J.wf, PV.wf, wfs, wfss, wfe]

theorem wfs_iff : ∀ {cs : List PV}, wfs cs ↔ ∀ c ∈ cs, c.wf
  | [] => by simp [wfs]
  | c :: cs => by simp [wfs, wfs_iff (cs := cs)]

def AC.wf : AC → Prop
  | .p v => v.wf
  | _ => True

def AV.wf : AV → Prop
  | .one c => c.wf
  | .agg cs => ∀ c ∈ cs, c.wf
  | _ => True

theorem crel_wf {A : Nat → Prop} {τ : Tau} {w : World} {c : AC} {x : Value} (h : CRel A τ w c x) : c.wf := by
  cases c with
  | p v => cases h with
    | c0 h => cases h with
      | p _ _ h => exact Rel.wf (j := .p _ _) h
  | _ => trivial

theorem vrel_wf {A : Nat → Prop} {τ : Tau} {w : World} {v : AV} {x : Value} (h : VRel A τ w v x) : v.wf := by
  cases v with
  | one c => cases h with
    | v1 h => cases h with
      | one h => exact crel_wf h
  | agg cs => cases h with
    | v1 h => cases h with
      | agg h =>
        intro c hc
        obtain ⟨i, hi, rfl⟩ := List.getElem_of_mem hc
        obtain ⟨x, _, hx⟩ := h.get i _ (List.getElem?_eq_getElem hi)
        exact crel_wf hx
  | _ => trivial

section
variable {G : Ground} {F : Fence} {n : Nat} {Q : Exit → AS → Prop} {s : AS}
/-- what is in a slot is no longer than any memory -/
theorem T_wf (i : Nat) {c : ACode} (h : (lk s.env i).wf → T G F n c Q s) : T G F n c Q s := by
  refine ⟨fun code hc hok a w hs => ?_⟩
  obtain ⟨A, τ, hs1⟩ := hs
  exact (h (vrel_wf (hs1.env i))).of code hc hok a w ⟨A, τ, hs1⟩

structure noGo (Q : Exit → AS → Prop) (e : Exit) (s : AS) : Prop where
  of : match e with
    | .goto _ => False
    | e => Q e s

theorem T_scope {c : ACode} (h : T G Fence.wide n c (noGo Q) s) : T G Fence.wide n (.scope c) Q s := by
  refine ⟨fun code hc hok a w hs => ?_⟩
  obtain ⟨cc, rfl, hc'⟩ := inv_scope hc
  refine wpIn_wide.2 (wp_scope_straight (wpIn_wide.1 (wpIn_mono (h.of cc hc' hok a w hs) ?_)))
  rintro e a w ⟨s', hq, hs'⟩
  obtain ⟨hq⟩ := hq
  cases e <;> first | exact hq.elim | exact ⟨s', hq, hs'⟩

theorem fw : FOk Fence.wide := .inl rfl

theorem run_mono {P : Program} : ∀ {t : TOps} {K K' : AS → Prop} {s : AS}, Run P t K s → (∀ s, K s → K' s) → Run P t K' s
  | .nil, K, K', s, h, k => k s h
  | .op d g (.q q) rest, K, K', s, h, k => by
    simp only [Run] at h ⊢
    split at h
    · rename_i v hv; first | exact run_mono h k | (simp only [hv]; exact run_mono h k)
    · exact h.elim
  | .op d g (.n q) rest, K, K', s, h, k => by
    simp only [Run] at h ⊢
    split at h
    · split at h
      · rename_i hl
        split at h
        · rename_i hn
          split at h
          · rename_i ob v hv
            simp only [hl, hn, if_true, hv]; exact run_mono h k
          · exact h.elim
        · exact h.elim
      · exact h.elim
    · exact h.elim
  | .op d g (.s q) rest, K, K', s, h, k => by
    simp only [Run] at h ⊢
    split at h
    · rename_i u ob v kk hv
      first | exact ⟨h.1, run_mono h.2 k⟩ | (simp only [hv]; exact ⟨h.1, run_mono h.2 k⟩)
    · exact h.elim
  | .op d g (.call f xs) rest, K, K', s, h, k => by
    simp only [Run] at h ⊢
    rcases h with ⟨r, σ', h1, h2⟩ | ⟨v, σ1, h1, h2⟩
    · exact .inl ⟨r, σ', h1, run_mono h2 k⟩
    · exact .inr ⟨v, σ1, h1, run_mono h2 k⟩
  | .sc d c want last g inner rest, K, K', s, h, k => by
    simp only [Run] at h ⊢
    obtain ⟨b, x, h1, h2, h3⟩ := h
    exact ⟨b, x, h1, h2, run_mono h3 k⟩

theorem T_reg (hF : FOk F) {t : TOps} {kp ids : List Nat} {S : AS} (h : Run G.P t (fun s' => s'.keep kp ids = S) s) (k : Q .normal S) : T G F n (.region none t kp ids) Q s :=
  T_region hF (run_mono h fun s' e => by rw [e]; exact k)

theorem T_sr (hF : FOk F) {t : TOps} {kp ids : List Nat} {S : AS} {b : ACode} (h : Run G.P t (fun s' => s'.keep kp ids = S) s) (k : T G F n b Q S) : T G F n (.seq (.region none t kp ids) b) Q s :=
  T_seq (T_reg hF h ⟨k⟩)

/-! ends of parts -/
section ends
variable {b : ACode} {id id' : Nat}
theorem T_then (h : T G F n b Q s) : Then G F n b Q .normal s := ⟨h⟩
theorem then_exit (h : Q (.exit id) s) : Then G F n b Q (.exit id) s := ⟨h⟩
theorem then_goto (h : Q (.goto id) s) : Then G F n b Q (.goto id) s := ⟨h⟩
theorem then_ret (h : Q .ret s) : Then G F n b Q .ret s := ⟨h⟩
theorem inB_normal (h : Q .normal s) : inB id Q .normal s := ⟨h⟩
theorem inB_ret (h : Q .ret s) : inB id Q .ret s := ⟨h⟩
theorem inB_goto (h : Q (.goto id') s) : inB id Q (.goto id') s := ⟨h⟩
theorem inB_exit (h : Q .normal s) : inB id Q (.exit id) s := ⟨by simp only [if_true]; exact h⟩
theorem inB_exit_ne (hne : (id' == id) = false) (h : Q (.exit id') s) : inB id Q (.exit id') s := by
  have : id' ≠ id := by simpa using hne
  exact ⟨by simp only [this, if_false]; exact h⟩
theorem noGo_normal (h : Q .normal s) : noGo Q .normal s := ⟨h⟩
theorem noGo_ret (h : Q .ret s) : noGo Q .ret s := ⟨h⟩
theorem noGo_exit (h : Q (.exit id) s) : noGo Q (.exit id) s := ⟨h⟩
end ends

def noTup : List DV → Bool
  | [] => true
  | .tup _ :: _ => false
  | _ :: ds => noTup ds

theorem noTup_sound : ∀ {ds : List DV}, noTup ds = true → ∀ d ∈ ds, ∀ xs, d ≠ .tup xs
  | [], _, d, hd, _ => by simp at hd
  | .one v :: ds, h, d, hd, xs => by
    rcases List.mem_cons.1 hd with rfl | hd
    · simp
    · exact noTup_sound (ds := ds) h d hd xs
  | .agg v :: ds, h, d, hd, xs => by
    rcases List.mem_cons.1 hd with rfl | hd
    · simp
    · exact noTup_sound (ds := ds) h d hd xs
  | .tup _ :: _, h, _, _, _ => by simp [noTup] at h

theorem ends_ret {rv : List RV} {r : DV} {s : AS} {vs : List AV} {ds : List DV} {σ' : Sto} (h1 : evRV rv s.env s.σ = some vs) (h2 : toDs 6 vs s.σ = some (ds, σ')) (h3 : noTup ds = true) (h4 : resD ds = r) : Ends rv r .ret s :=
  ⟨.inr rfl, vs, ds, σ', h1, h2, noTup_sound h3, h4.symm⟩
theorem ends_normal {rv : List RV} {r : DV} {s : AS} {vs : List AV} {ds : List DV} {σ' : Sto} (h1 : evRV rv s.env s.σ = some vs) (h2 : toDs 6 vs s.σ = some (ds, σ')) (h3 : noTup ds = true) (h4 : resD ds = r) : Ends rv r .normal s :=
  ⟨.inl rfl, vs, ds, σ', h1, h2, noTup_sound h3, h4.symm⟩

theorem T_condT {c : Opd} {x y : ACode} (hc : get s.env c = pbool true) (hx : T G F n x Q s) : T G F n (.cond c x y) Q s := T_cond hc (fun _ => hx) (fun h => by cases h)
theorem T_condF {c : Opd} {x y : ACode} (hc : get s.env c = pbool false) (hy : T G F n y Q s) : T G F n (.cond c x y) Q s := T_cond hc (fun h => by cases h) (fun _ => hy)
theorem T_condD {c : Opd} {x y : ACode} {p : Prop} [Decidable p] (hc : get s.env c = pbool (decide p)) (hx : p → T G F n x Q s) (hy : ¬ p → T G F n y Q s) : T G F n (.cond c x y) Q s :=
  T_cond hc (fun h => hx (of_decide_eq_true h)) (fun h => hy (of_decide_eq_false h))

/-- the n-th of a list, and what is left -/
theorem nth {α : Type} {s : List α} {i : Nat} (hi : i ≤ s.length) : (∃ x, i < s.length ∧ s[i]? = some x ∧ s.drop i = x :: s.drop (i + 1)) ∨ (i = s.length ∧ s.drop i = []) := by
  by_cases h : i < s.length
  · exact .inl ⟨s[i], h, List.getElem?_eq_getElem h, List.drop_eq_getElem_cons h⟩
  · exact .inr ⟨by omega, List.drop_eq_nil_of_le (by omega)⟩

theorem wrap_in {n : Int} (h0 : -9223372036854775808 ≤ n) (h1 : n < 9223372036854775808) : IntKind.i64.wrap n = n := by
  simp only [IntKind.wrap, IntKind.bits, IntKind.signed]
  simp
  omega

theorem wrap_succ {i m : Nat} (h : i < m) (hm : m ≤ MaxN) : IntKind.i64.wrap ((i : Int) + 1) = ((i + 1 : Nat) : Int) := by
  have : MaxN = 140737488355328 := rfl
  rw [wrap_in (by omega) (by omega)]; rfl

/-- a loop that counts: what holds behind a round -/
structure Rnd (G : Ground) {α : Type} (m : Nat) (S : Nat → α → AS) (Inv : Nat → α → Prop) (Q : Exit → AS → Prop) (i : Nat) (e : Exit) (s' : AS) : Prop where
  of : match e with
    | .normal => i < m ∧ ∃ b, Inv (i + 1) b ∧ Weak G s' (S (i + 1) b)
    | e => Q e s'

theorem T_for {α : Type} {c : ACode} (m : Nat) (S : Nat → α → AS) (Inv : Nat → α → Prop) (a0 : α) (hi : Inv 0 a0) (h0 : Weak G s (S 0 a0))
    (round : ∀ i a, i ≤ m → Inv i a → T G F n c (Rnd G m S Inv Q i) (S i a)) : T G F n (.loop c) Q s := by
  refine T_loop (fun p : Nat × α => S p.1 p.2) (fun p => p.1 ≤ m ∧ Inv p.1 p.2) (fun p => m - p.1) (0, a0) ⟨Nat.zero_le _, hi⟩ h0 ?_
  rintro ⟨i, a⟩ ⟨h1, h2⟩
  refine T_mono (round i a h1 h2) ?_
  rintro e s' ⟨h⟩
  cases e <;> first
    | (obtain ⟨hlt, b, h3, h4⟩ := h; exact ⟨(i + 1, b), ⟨hlt, h3⟩, by simp only; omega, h4⟩)
    | exact h

section rnd
variable {α : Type} {m : Nat} {S : Nat → α → AS} {Inv : Nat → α → Prop} {i : Nat}
theorem rnd_next (hlt : i < m) (b : α) (hi : Inv (i + 1) b) (hw : Weak G s (S (i + 1) b)) : Rnd G m S Inv Q i .normal s := ⟨hlt, b, hi, hw⟩
theorem rnd_exit {id : Nat} (h : Q (.exit id) s) : Rnd G m S Inv Q i (.exit id) s := ⟨h⟩
theorem rnd_ret (h : Q .ret s) : Rnd G m S Inv Q i .ret s := ⟨h⟩
theorem rnd_goto {id : Nat} (h : Q (.goto id) s) : Rnd G m S Inv Q i (.goto id) s := ⟨h⟩
end rnd

@[simp] theorem wf_one (v : PV) : AV.wf (.one (.p v)) = v.wf := rfl
theorem wf_sl (rows : List (List PV)) : PV.wf (.sl rows) = (rows.length ≤ MaxN ∧ wfss rows) := by simp only [PV.wf]
theorem pbool_inj {a b : Bool} : pbool a = pbool b ↔ a = b := by simp [pbool]
end
end Go.AM

