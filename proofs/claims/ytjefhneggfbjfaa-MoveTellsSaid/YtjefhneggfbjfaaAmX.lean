import Derived.Test.YtjefhneggfbjfaaAmY
namespace Go.AM
open Go.RowKit (Below)
set_option linter.unusedSimpArgs false
set_option linter.unusedVariables false

/-! ### drawn regions that leave all objects alone: what hangs on what is told by the text -/
def quietOp : AOp → Bool
  | .q _ | .call _ _ => true
  | _ => false
def okT (oj oi : FOp) : Bool := (match oj.d with | some d => !oi.us.contains d && oi.d != some d | none => true) && (match oi.d with | some d => !oj.us.contains d | none => true)

def quietG : Nat → List (List Nat) → List FOp → List (Nat × FOp) → Bool
  | _, [], [], _ => true
  | i, un :: uns, o :: os, acc => quietOp o.op && acc.all (fun a => !un.contains a.1 || okT a.2 o) && quietG (i + 1) uns os ((i, o) :: acc)
  | _, _, _, _ => false

def RunF (P : Program) : List FOp → (AS → Prop) → AS → Prop
  | [], K, s => K s
  | o :: os, K, s => match gmet s.env o.g with
    | some false => RunF P os K (putd o.d .und s)
    | some true => match o.op with
      | .q q => match evQ q s.env s.σ with
        | some v => RunF P os K (putd o.d v s)
        | none => False
      | .call f xs => (gets s.env (f :: xs)).all AVp = true ∧ ∃ r, CallR P f xs s.env s.σ s.σ r ∧ RunF P os K (putd o.d r.av s)
      | _ => False
    | none => False

theorem runF_D {P : Program} {s0 : AS} {K : AS → Prop} : ∀ (os : List FOp) (uns : List (List Nat)) (i : Nat) (acc : List It) (s : AS), (∀ t ∈ acc, t.f.wr = none ∧ t.f.nw = false) →
    quietG i uns os (acc.map fun t => (t.1, t.o)) = true → RunF P os K s → RunD P s0 i uns os acc K s
  | [], [], i, acc, s, ha, hq, h => by simp only [RunF] at h; simp only [RunD]; exact h
  | [], _ :: _, i, acc, s, ha, hq, h => by simp [quietG] at hq
  | _ :: _, [], i, acc, s, ha, hq, h => by simp [quietG] at hq
  | o :: os, un :: uns, i, acc, s, ha, hq, h => by
    simp only [quietG, Bool.and_eq_true, List.all_map] at hq
    obtain ⟨⟨h1, h2⟩, h3⟩ := hq
    have pair : ∀ (v : AV) (rd : List Nat), acc.all (fun t => okPair un t (i, o, { v := v, rd := rd })) = true := by
      intro v rd
      rw [List.all_eq_true] at h2 ⊢
      intro t ht
      obtain ⟨q1, q2⟩ := ha t ht
      have := h2 t ht
      simp only [Function.comp, Bool.or_eq_true] at this
      unfold okPair
      have e1 : okN t.f ({ v := v, rd := rd } : FP) = true := rfl
      have e2 : okN ({ v := v, rd := rd } : FP) t.f = true := by unfold okN; rw [q2]; rfl
      show (okN t.f ({ v := v, rd := rd } : FP) && (!un.contains t.1 || (okN ({ v := v, rd := rd } : FP) t.f && okInd t.o t.f o { v := v, rd := rd }))) = true
      rw [e1, e2, Bool.true_and, Bool.true_and]
      rcases this with h | h
      · rw [h]; rfl
      · have : okInd t.o t.f o { v := v, rd := rd } = true := by
          unfold okT at h
          simp only [Bool.and_eq_true] at h
          have hsc : t.f.scO = none := by unfold FP.scO; rw [q1]; split <;> rfl
          unfold okInd okCl
          rw [q1, hsc]
          simp only [Bool.and_true]
          rw [show (({ v := v, rd := rd } : FP).scO) = none from rfl]
          simp only [Bool.and_true, Bool.and_eq_true]
          exact ⟨h, rfl⟩
        rw [this]; simp
    have next : ∀ (v : AV) (rd : List Nat) (s' : AS), RunF P os K s' → RunD P s0 (i + 1) uns os ((i, o, { v := v, rd := rd }) :: acc) K s' := by
      intro v rd s' hr
      refine runF_D os uns (i + 1) _ s' (fun t ht => ?_) (by simpa [It.o] using h3) hr
      rcases List.mem_cons.1 ht with rfl | ht
      · exact ⟨rfl, rfl⟩
      · exact ha t ht
    simp only [RunF] at h
    simp only [RunD]
    split at h
    · rename_i hg
      try simp only [hg]
      exact ⟨pair _ _, next _ _ _ h⟩
    · rename_i hg
      try simp only [hg]
      split at h
      · rename_i q ho
        split at h
        · rename_i v hv
          try simp only [ho, hv]
          exact ⟨pair _ _, next _ _ _ h⟩
        · exact h.elim
      · rename_i f xs ho
        try simp only [ho]
        obtain ⟨q1, r, q2, q3⟩ := h
        exact ⟨q1, r, q2, pair _ _, next _ _ _ q3⟩
      · exact h.elim
    · exact h.elim

section
variable {G : Ground} {F : Fence} {n : Nat} {Q : Exit → AS → Prop} {s : AS}
theorem T_drF (hF : FOk F) {un : List (List Nat)} {t : TOps} {kp ids : List Nat} {S : AS} (hm : G.P.follows .mixedOrders = true) (hq : quietG 0 un t.flat [] = true) (h : RunF G.P t.flat (fun s' => s'.keep kp ids = S) s) (k : Q .normal S) :
    T G F n (.region (some un) t kp ids) Q s := T_dr hF hm (runF_D _ _ _ [] _ (fun t ht => by simp at ht) hq h) k
theorem T_sdF (hF : FOk F) {un : List (List Nat)} {t : TOps} {kp ids : List Nat} {S : AS} {b : ACode} (hm : G.P.follows .mixedOrders = true) (hq : quietG 0 un t.flat [] = true) (h : RunF G.P t.flat (fun s' => s'.keep kp ids = S) s) (k : T G F n b Q S) :
    T G F n (.seq (.region (some un) t kp ids) b) Q s := T_seq (T_drF hF hm hq h ⟨k⟩)
end

section
variable {P : Program} {os : List FOp} {K : AS → Prop} {d : Nat} {g : Option (Nat × Bool)} {e : Env} {σ : Sto} {ex : List AV}
theorem RunF_q {q : QOp} {v : AV} (hg : gmet e g = some true) (h : evQ q e σ = some v) (k : RunF P os K { env := (d, v) :: e, σ := σ, ex := ex }) : RunF P (⟨some d, g, .q q⟩ :: os) K { env := e, σ := σ, ex := ex } := by
  simp only [RunF, hg, h]; exact k
theorem RunF_skip {op : AOp} (hg : gmet e g = some false) (k : RunF P os K { env := (d, .und) :: e, σ := σ, ex := ex }) : RunF P (⟨some d, g, op⟩ :: os) K { env := e, σ := σ, ex := ex } := by
  simp only [RunF, hg]; exact k
theorem RunF_call {f : Opd} {xs : List Opd} {r : DV} (hg : gmet e g = some true) (hp : (gets e (f :: xs)).all AVp = true) (hc : CallR P f xs e σ σ r) (k : RunF P os K { env := (d, r.av) :: e, σ := σ, ex := ex }) :
    RunF P (⟨some d, g, .call f xs⟩ :: os) K { env := e, σ := σ, ex := ex } := by
  simp only [RunF, hg]; exact ⟨hp, r, hc, k⟩
theorem RunF_nil {S : AS} {kp ids : List Nat} (h : AS.keep kp ids { env := e, σ := σ, ex := ex } = S) : RunF P [] (fun s' => s'.keep kp ids = S) { env := e, σ := σ, ex := ex } := by
  simp only [RunF]; exact h
end
end Go.AM

