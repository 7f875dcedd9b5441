import Derived.Test.YtphnlpfkenannaaGreatMwR9M925
set_option linter.unusedVariables false
set_option linter.unusedSimpArgs false
namespace Go.AM
open Go

def RunN (P : Program) (s0 : AS) : Nat → List (List Nat) → List FOp → List It → (AS → Prop) → AS → Prop
  | _, [], [], _, K, s => K s
  | i, un :: uns, o :: os, acc, K, s =>
    match gmet s.env o.g with
    | some false => acc.all (fun t => okPair un t (i, o, { v := .und })) = true ∧ RunN P s0 (i + 1) uns os ((i, o, { v := .und }) :: acc) K (putd o.d .und s)
    | some true => match o.op with
      | .q q => match evQ q s.env s.σ with
        | some v => acc.all (fun t => okPair un t (i, o, { v := v, rd := rdOf (.q q) s.env })) = true ∧ RunN P s0 (i + 1) uns os ((i, o, { v := v, rd := rdOf (.q q) s.env }) :: acc) K (putd o.d v s)
        | none => False
      | .n q => match o.d with
        | some t => match evN q s.env t with
          | some (ob, v) => (okFr s0 { v := v, wr := some (t, ob), nw := true } && acc.all (fun a => okPair un a (i, o, { v := v, wr := some (t, ob), nw := true }))) = true ∧
              RunN P s0 (i + 1) uns os ((i, o, { v := v, wr := some (t, ob), nw := true }) :: acc) K (putd o.d v { s with σ := (t, ob) :: s.σ })
          | none => False
        | none => False
      | .s q => match evS q s.env s.σ (o.d.getD 0) with
        | some (u, ob, v, k) => (k = 1 → o.d = some u) ∧
            (okFr s0 { v := v, wr := some (u, ob), nw := decide (k = 1), sc := decide (k = 2) } &&
              acc.all (fun a => okPair un a (i, o, { v := v, wr := some (u, ob), nw := decide (k = 1), sc := decide (k = 2), rd := rdOf (.s q) s.env, dt := dtOf s0 acc u, dob := dobOf s0 acc u }))) = true ∧
            RunN P s0 (i + 1) uns os ((i, o, { v := v, wr := some (u, ob), nw := decide (k = 1), sc := decide (k = 2), rd := rdOf (.s q) s.env, dt := dtOf s0 acc u, dob := dobOf s0 acc u }) :: acc) K (putd o.d v (newSt k u ob s))
        | none => False
      | .call f xs => (((gets s.env (f :: xs)).all AVp = true ∧ ∃ r, CallR P f xs s.env s.σ s.σ r ∧ acc.all (fun a => okPair un a (i, o, { v := r.av })) = true ∧
          RunN P s0 (i + 1) uns os ((i, o, { v := r.av }) :: acc) K (putd o.d r.av s))) ∨
          ∃ r t ob, CallN P f xs s.env r t ob ∧ (okFr s0 { v := r, wr := some (t, ob), nw := true } && acc.all (fun a => okPair un a (i, o, { v := r, wr := some (t, ob), nw := true }))) = true ∧
            RunN P s0 (i + 1) uns os ((i, o, { v := r, wr := some (t, ob), nw := true }) :: acc) K (putd o.d r { s with σ := (t, ob) :: s.σ })
      | .bad => False
    | none => False
  | _, _, _, _, _, _ => False
theorem runN_sound {P : Program} {s0 : AS} {U : Nat → List Nat} {K : AS → Prop} : ∀ (os : List FOp) (uns : List (List Nat)) (i : Nat) (acc : List It) (s : AS), (∀ j, j < uns.length → uns.getD j [] = U (i + j)) → (∀ a ∈ acc, a.1 < i) →
    RunN P s0 i uns os acc K s → ∃ R Z, Good P s0 U i os acc R s Z ∧ K Z
  | [], [], i, acc, s, _, _, h => by
    simp only [RunN] at h
    exact ⟨[], s, ⟨rfl, .nil (.refl s), .nil, fun _ _ _ hb => by simp at hb, fun _ hk => by simp at hk⟩, h⟩
  | [], _ :: _, i, acc, s, _, _, h => by simp [RunN] at h
  | _ :: _, [], i, acc, s, _, _, h => by simp [RunN] at h
  | o :: os, un :: uns, i, acc, s, hU, hlt, h => by
    have hun : un = U i := by have := hU 0 (by simp); simpa using this
    have hU' : ∀ j, j < uns.length → uns.getD j [] = U (i + 1 + j) := fun j hj => by
      have := hU (j + 1) (by simpa using hj)
      rw [show i + 1 + j = i + (j + 1) from by omega]
      simpa using this
    have hlt' : ∀ (f : FP), ∀ a ∈ ((i, o, f) :: acc : List It), a.1 < i + 1 := fun f a ha => by
      rcases List.mem_cons.1 ha with rfl | ha
      · simp
      · have := hlt a ha; omega
    have fin : ∀ (f : FP), En P o f s → Fr f s0 → Told s0 acc f → acc.all (fun a => okPair un a (i, o, f)) = true → RunN P s0 (i + 1) uns os ((i, o, f) :: acc) K (stepS o f s) → ∃ R Z, Good P s0 U i (o :: os) acc R s Z ∧ K Z := by
      intro f h1 h2 h3 h4 h5
      obtain ⟨R, Z, hg, hk⟩ := runN_sound os uns (i + 1) _ _ hU' (hlt' f) h5
      exact ⟨(i, o, f) :: R, Z, hg.cons h1 h2 h3 hlt (by rw [← hun]; exact h4), hk⟩
    have noSc : ∀ f : FP, f.wr = none → Told s0 acc f := fun f hf u hu => by
      unfold FP.scO at hu; rw [hf] at hu; cases hs : f.sc <;> rw [hs] at hu <;> cases hu
    have noFr : ∀ f : FP, f.wr = none → Fr f s0 := fun f hf hn u ob hw => by rw [hf] at hw; cases hw
    simp only [RunN] at h
    split at h
    · rename_i hg
      refine fin { v := .und } (.skip hg rfl rfl) (noFr _ rfl) (noSc _ rfl) h.1 ?_
      exact h.2
    · rename_i hg
      split at h
      · rename_i q ho
        split at h
        · rename_i v hv
          exact fin _ (.q hg ho hv (fun t ht => by rw [ho] at ht; exact ht) rfl) (noFr _ rfl) (noSc _ rfl) h.1 h.2
        · exact h.elim
      · rename_i q ho
        split at h
        · rename_i t hd
          split at h
          · rename_i ob v hv
            simp only [Bool.and_eq_true] at h
            exact fin _ (.n hg ho hd hv rfl rfl rfl) (okFr_sound h.1.1) (fun u hu => by simp [FP.scO] at hu) h.1.2 h.2
          · exact h.elim
        · exact h.elim
      · rename_i q ho
        split at h
        · rename_i u ob v k hv
          obtain ⟨h1, h2, h3⟩ := h
          simp only [Bool.and_eq_true] at h2
          refine fin { v := v, wr := some (u, ob), nw := decide (k = 1), sc := decide (k = 2), rd := rdOf (.s q) s.env, dt := dtOf s0 acc u, dob := dobOf s0 acc u } (.s hg ho hv (fun t ht => by rw [ho] at ht; exact ht) rfl (fun hk => ⟨by simp [hk], h1 hk⟩) rfl)
            (okFr_sound (f := { v := v, wr := some (u, ob), nw := decide (k = 1), sc := decide (k = 2) }) h2.1) (fun w hw => ?_) h2.2 ?_
          · unfold FP.scO at hw
            split at hw
            · simp at hw; subst hw; exact ⟨rfl, rfl⟩
            · cases hw
          · have : stepS o { v := v, wr := some (u, ob), nw := decide (k = 1), sc := decide (k = 2), rd := rdOf (.s q) s.env, dt := dtOf s0 acc u, dob := dobOf s0 acc u } s = putd o.d v (newSt k u ob s) := by
              unfold stepS
              simp only
              by_cases hk : k = 2
              · subst hk; rfl
              · simp [newSt, hk]
            rw [this]; exact h3
        · exact h.elim
      · rename_i f xs ho
        rcases h with ⟨h1, r, h2, h3, h4⟩ | ⟨r, t, ob, h2, h3, h4⟩
        · exact fin _ (.call hg ho h1 h2 rfl rfl) (noFr _ rfl) (noSc _ rfl) h3 h4
        · simp only [Bool.and_eq_true] at h3
          exact fin _ (.callN hg ho h2 rfl rfl rfl) (okFr_sound h3.1) (fun u hu => by simp [FP.scO] at hu) h3.2 h4
      · exact h.elim
    · exact h.elim
section
variable {G : Ground} {F : Fence} {n : Nat} {Q : Exit → AS → Prop} {s : AS}
theorem T_drN (hF : FOk F) {un : List (List Nat)} {t : TOps} {kp ids : List Nat} {S : AS} (hm : G.P.follows .mixedOrders = true) (h : RunN G.P s 0 un t.flat [] (fun s' => s'.keep kp ids = S) s) (k : Q .normal S) :
    T G F n (.region (some un) t kp ids) Q s := T_good hF hm fun U hU => by
  obtain ⟨R, Z, h1, h2⟩ := runN_sound (P := G.P) (s0 := s) (U := U) t.flat un 0 [] s hU (fun a ha => by simp at ha) h
  exact ⟨R, Z, h1, h2 ▸ k⟩
end
attribute [go_sem] RunN
end Go.AM

namespace Go.AM
open Go

def frzN (t : Nat) : AO → AV → Option (Nat × List (List PV))
  | .arr true k rows, .one (.msl u 0 k' len _) => if u = t ∧ k' = k ∧ len = rows.length then some (k, rows) else none
  | _, _ => none
theorem frzN_inv {t k : Nat} {ob : AO} {v : AV} {rows : List (List PV)} (h : frzN t ob v = some (k, rows)) : ∃ cap, ob = .arr true k rows ∧ v = .one (.msl t 0 k rows.length cap) := by
  unfold frzN at h
  split at h
  · split at h
    · rename_i hc
      obtain ⟨rfl, rfl, rfl⟩ := hc
      cases h
      exact ⟨_, rfl, rfl⟩
    · cases h
  · cases h
def RunO (P : Program) (s0 : AS) : Nat → List (List Nat) → List FOp → List It → (AS → Prop) → AS → Prop
  | _, [], [], _, K, s => K s
  | i, un :: uns, o :: os, acc, K, s =>
    match gmet s.env o.g with
    | some false => acc.all (fun t => okPair un t (i, o, { v := .und })) = true ∧ RunO P s0 (i + 1) uns os ((i, o, { v := .und }) :: acc) K (putd o.d .und s)
    | some true => match o.op with
      | .q q => match evQ q s.env s.σ with
        | some v => acc.all (fun t => okPair un t (i, o, { v := v, rd := rdOf (.q q) s.env })) = true ∧ RunO P s0 (i + 1) uns os ((i, o, { v := v, rd := rdOf (.q q) s.env }) :: acc) K (putd o.d v s)
        | none => False
      | .n q => match o.d with
        | some t => match evN q s.env t with
          | some (ob, v) => match frzN t ob v with
            | some (k, rows) => (okFr s0 { v := .one (.p (.sl rows)), wr := some (t, .arr false k rows), nw := true } && acc.all (fun a => okPair un a (i, o, { v := .one (.p (.sl rows)), wr := some (t, .arr false k rows), nw := true }))) = true ∧
              RunO P s0 (i + 1) uns os ((i, o, { v := .one (.p (.sl rows)), wr := some (t, .arr false k rows), nw := true }) :: acc) K (putd o.d (.one (.p (.sl rows))) { s with σ := (t, .arr false k rows) :: s.σ })
            | none => (okFr s0 { v := v, wr := some (t, ob), nw := true } && acc.all (fun a => okPair un a (i, o, { v := v, wr := some (t, ob), nw := true }))) = true ∧
              RunO P s0 (i + 1) uns os ((i, o, { v := v, wr := some (t, ob), nw := true }) :: acc) K (putd o.d v { s with σ := (t, ob) :: s.σ })
          | none => False
        | none => False
      | .s q => match evS q s.env s.σ (o.d.getD 0) with
        | some (u, ob, v, k) => (k = 1 → o.d = some u) ∧
            (okFr s0 { v := v, wr := some (u, ob), nw := decide (k = 1), sc := decide (k = 2) } &&
              acc.all (fun a => okPair un a (i, o, { v := v, wr := some (u, ob), nw := decide (k = 1), sc := decide (k = 2), rd := rdOf (.s q) s.env, dt := dtOf s0 acc u, dob := dobOf s0 acc u }))) = true ∧
            RunO P s0 (i + 1) uns os ((i, o, { v := v, wr := some (u, ob), nw := decide (k = 1), sc := decide (k = 2), rd := rdOf (.s q) s.env, dt := dtOf s0 acc u, dob := dobOf s0 acc u }) :: acc) K (putd o.d v (newSt k u ob s))
        | none => False
      | .call f xs => (((gets s.env (f :: xs)).all AVp = true ∧ ∃ r, CallR P f xs s.env s.σ s.σ r ∧ acc.all (fun a => okPair un a (i, o, { v := r.av })) = true ∧
          RunO P s0 (i + 1) uns os ((i, o, { v := r.av }) :: acc) K (putd o.d r.av s))) ∨
          ∃ r t ob, CallN P f xs s.env r t ob ∧ (okFr s0 { v := r, wr := some (t, ob), nw := true } && acc.all (fun a => okPair un a (i, o, { v := r, wr := some (t, ob), nw := true }))) = true ∧
            RunO P s0 (i + 1) uns os ((i, o, { v := r, wr := some (t, ob), nw := true }) :: acc) K (putd o.d r { s with σ := (t, ob) :: s.σ })
      | .bad => False
    | none => False
  | _, _, _, _, _, _ => False
theorem runO_sound {P : Program} {s0 : AS} {U : Nat → List Nat} {K : AS → Prop} : ∀ (os : List FOp) (uns : List (List Nat)) (i : Nat) (acc : List It) (s : AS), (∀ j, j < uns.length → uns.getD j [] = U (i + j)) → (∀ a ∈ acc, a.1 < i) →
    RunO P s0 i uns os acc K s → ∃ R Z, Good P s0 U i os acc R s Z ∧ K Z
  | [], [], i, acc, s, _, _, h => by
    simp only [RunO] at h
    exact ⟨[], s, ⟨rfl, .nil (.refl s), .nil, fun _ _ _ hb => by simp at hb, fun _ hk => by simp at hk⟩, h⟩
  | [], _ :: _, i, acc, s, _, _, h => by simp [RunO] at h
  | _ :: _, [], i, acc, s, _, _, h => by simp [RunO] at h
  | o :: os, un :: uns, i, acc, s, hU, hlt, h => by
    have hun : un = U i := by have := hU 0 (by simp); simpa using this
    have hU' : ∀ j, j < uns.length → uns.getD j [] = U (i + 1 + j) := fun j hj => by
      have := hU (j + 1) (by simpa using hj)
      rw [show i + 1 + j = i + (j + 1) from by omega]
      simpa using this
    have hlt' : ∀ (f : FP), ∀ a ∈ ((i, o, f) :: acc : List It), a.1 < i + 1 := fun f a ha => by
      rcases List.mem_cons.1 ha with rfl | ha
      · simp
      · have := hlt a ha; omega
    have fin : ∀ (f : FP), En P o f s → Fr f s0 → Told s0 acc f → acc.all (fun a => okPair un a (i, o, f)) = true → RunO P s0 (i + 1) uns os ((i, o, f) :: acc) K (stepS o f s) → ∃ R Z, Good P s0 U i (o :: os) acc R s Z ∧ K Z := by
      intro f h1 h2 h3 h4 h5
      obtain ⟨R, Z, hg, hk⟩ := runO_sound os uns (i + 1) _ _ hU' (hlt' f) h5
      exact ⟨(i, o, f) :: R, Z, hg.cons h1 h2 h3 hlt (by rw [← hun]; exact h4), hk⟩
    have noSc : ∀ f : FP, f.wr = none → Told s0 acc f := fun f hf u hu => by
      unfold FP.scO at hu; rw [hf] at hu; cases hs : f.sc <;> rw [hs] at hu <;> cases hu
    have noFr : ∀ f : FP, f.wr = none → Fr f s0 := fun f hf hn u ob hw => by rw [hf] at hw; cases hw
    simp only [RunO] at h
    split at h
    · rename_i hg
      refine fin { v := .und } (.skip hg rfl rfl) (noFr _ rfl) (noSc _ rfl) h.1 ?_
      exact h.2
    · rename_i hg
      split at h
      · rename_i q ho
        split at h
        · rename_i v hv
          exact fin _ (.q hg ho hv (fun t ht => by rw [ho] at ht; exact ht) rfl) (noFr _ rfl) (noSc _ rfl) h.1 h.2
        · exact h.elim
      · rename_i q ho
        split at h
        · rename_i t hd
          split at h
          · rename_i ob v hv
            split at h
            · rename_i k rows hfz
              simp only [Bool.and_eq_true] at h
              obtain ⟨cap, rfl, rfl⟩ := frzN_inv hfz
              exact fin _ (.nG hg ho hd hv rfl rfl rfl rfl) (okFr_sound h.1.1) (fun u hu => by simp [FP.scO] at hu) h.1.2 h.2
            · simp only [Bool.and_eq_true] at h
              exact fin _ (.n hg ho hd hv rfl rfl rfl) (okFr_sound h.1.1) (fun u hu => by simp [FP.scO] at hu) h.1.2 h.2
          · exact h.elim
        · exact h.elim
      · rename_i q ho
        split at h
        · rename_i u ob v k hv
          obtain ⟨h1, h2, h3⟩ := h
          simp only [Bool.and_eq_true] at h2
          refine fin { v := v, wr := some (u, ob), nw := decide (k = 1), sc := decide (k = 2), rd := rdOf (.s q) s.env, dt := dtOf s0 acc u, dob := dobOf s0 acc u } (.s hg ho hv (fun t ht => by rw [ho] at ht; exact ht) rfl (fun hk => ⟨by simp [hk], h1 hk⟩) rfl)
            (okFr_sound (f := { v := v, wr := some (u, ob), nw := decide (k = 1), sc := decide (k = 2) }) h2.1) (fun w hw => ?_) h2.2 ?_
          · unfold FP.scO at hw
            split at hw
            · simp at hw; subst hw; exact ⟨rfl, rfl⟩
            · cases hw
          · have : stepS o { v := v, wr := some (u, ob), nw := decide (k = 1), sc := decide (k = 2), rd := rdOf (.s q) s.env, dt := dtOf s0 acc u, dob := dobOf s0 acc u } s = putd o.d v (newSt k u ob s) := by
              unfold stepS
              simp only
              by_cases hk : k = 2
              · subst hk; rfl
              · simp [newSt, hk]
            rw [this]; exact h3
        · exact h.elim
      · rename_i f xs ho
        rcases h with ⟨h1, r, h2, h3, h4⟩ | ⟨r, t, ob, h2, h3, h4⟩
        · exact fin _ (.call hg ho h1 h2 rfl rfl) (noFr _ rfl) (noSc _ rfl) h3 h4
        · simp only [Bool.and_eq_true] at h3
          exact fin _ (.callN hg ho h2 rfl rfl rfl) (okFr_sound h3.1) (fun u hu => by simp [FP.scO] at hu) h3.2 h4
      · exact h.elim
    · exact h.elim
section
variable {G : Ground} {F : Fence} {n : Nat} {Q : Exit → AS → Prop} {s : AS}
theorem T_drO (hF : FOk F) {un : List (List Nat)} {t : TOps} {kp ids : List Nat} {S : AS} (hm : G.P.follows .mixedOrders = true) (h : RunO G.P s 0 un t.flat [] (fun s' => s'.keep kp ids = S) s) (k : Q .normal S) :
    T G F n (.region (some un) t kp ids) Q s := T_good hF hm fun U hU => by
  obtain ⟨R, Z, h1, h2⟩ := runO_sound (P := G.P) (s0 := s) (U := U) t.flat un 0 [] s hU (fun a ha => by simp at ha) h
  exact ⟨R, Z, h1, h2 ▸ k⟩
end
attribute [go_sem] RunO frzN
end Go.AM

namespace Go.AM
open Go

def RunP (P : Program) (s0 : AS) : Nat → List (List Nat) → List FOp → List It → (AS → Prop) → AS → Prop
  | _, [], [], _, K, s => K s
  | i, un :: uns, o :: os, acc, K, s =>
    match gmet s.env o.g with
    | some false => acc.all (fun t => okPair un t (i, o, { v := .und })) = true ∧ RunP P s0 (i + 1) uns os ((i, o, { v := .und }) :: acc) K (putd o.d .und s)
    | some true => match o.op with
      | .q q => match evQ q s.env s.σ with
        | some v => acc.all (fun t => okPair un t (i, o, { v := v, rd := rdOf (.q q) s.env })) = true ∧ RunP P s0 (i + 1) uns os ((i, o, { v := v, rd := rdOf (.q q) s.env }) :: acc) K (putd o.d v s)
        | none => False
      | .n q => match o.d with
        | some t => match evN q s.env t with
          | some (ob, v) => match frzN t ob v with
            | some (k, rows) => (okFr s0 { v := .one (.p (.sl rows)), wr := some (t, .arr false k rows), nw := true } && acc.all (fun a => okPair un a (i, o, { v := .one (.p (.sl rows)), wr := some (t, .arr false k rows), nw := true }))) = true ∧
              RunP P s0 (i + 1) uns os ((i, o, { v := .one (.p (.sl rows)), wr := some (t, .arr false k rows), nw := true }) :: acc) K (putd o.d (.one (.p (.sl rows))) { s with σ := (t, .arr false k rows) :: s.σ })
            | none => (okFr s0 { v := v, wr := some (t, ob), nw := true } && acc.all (fun a => okPair un a (i, o, { v := v, wr := some (t, ob), nw := true }))) = true ∧
              RunP P s0 (i + 1) uns os ((i, o, { v := v, wr := some (t, ob), nw := true }) :: acc) K (putd o.d v { s with σ := (t, ob) :: s.σ })
          | none => False
        | none => False
      | .s q => match evS q s.env s.σ (o.d.getD 0) with
        | some (u, ob, v, k) => (k = 1 → o.d = some u) ∧
            (okFr s0 { v := v, wr := some (u, ob), nw := decide (k = 1), sc := decide (k = 2) } &&
              acc.all (fun a => okPair un a (i, o, { v := v, wr := some (u, ob), nw := decide (k = 1), sc := decide (k = 2), rd := rdOf (.s q) s.env, dt := dtOf s0 acc u, dob := dobOf s0 acc u }))) = true ∧
            RunP P s0 (i + 1) uns os ((i, o, { v := v, wr := some (u, ob), nw := decide (k = 1), sc := decide (k = 2), rd := rdOf (.s q) s.env, dt := dtOf s0 acc u, dob := dobOf s0 acc u }) :: acc) K (putd o.d v (newSt k u ob s))
        | none => False
      | .call f xs => (((gets s.env (f :: xs)).all AVp = true ∧ ∃ r, CallR P f xs s.env s.σ s.σ r ∧ acc.all (fun a => okPair un a (i, o, { v := r.av })) = true ∧
          RunP P s0 (i + 1) uns os ((i, o, { v := r.av }) :: acc) K (putd o.d r.av s))) ∨
          (∃ r t ob, CallN P f xs s.env r t ob ∧ (okFr s0 { v := r, wr := some (t, ob), nw := true } && acc.all (fun a => okPair un a (i, o, { v := r, wr := some (t, ob), nw := true }))) = true ∧
            RunP P s0 (i + 1) uns os ((i, o, { v := r, wr := some (t, ob), nw := true }) :: acc) K (putd o.d r { s with σ := (t, ob) :: s.σ })) ∨
          (∃ r t ob, CallS P f xs s.env r t (lo s.σ t) ob ∧ acc.all (fun a => okPair un a (i, o, { v := r, wr := some (t, ob), rd := [t] })) = true ∧
            RunP P s0 (i + 1) uns os ((i, o, { v := r, wr := some (t, ob), rd := [t] }) :: acc) K (putd o.d r { s with σ := (t, ob) :: s.σ })) ∨
          ∃ r t, CallS P f xs s.env r t (lo s.σ t) (lo s.σ t) ∧ acc.all (fun a => okPair un a (i, o, { v := r, rd := [t] })) = true ∧
            RunP P s0 (i + 1) uns os ((i, o, { v := r, rd := [t] }) :: acc) K (putd o.d r s)
      | .bad => False
    | none => False
  | _, _, _, _, _, _ => False
theorem runP_sound {P : Program} {s0 : AS} {U : Nat → List Nat} {K : AS → Prop} : ∀ (os : List FOp) (uns : List (List Nat)) (i : Nat) (acc : List It) (s : AS), (∀ j, j < uns.length → uns.getD j [] = U (i + j)) → (∀ a ∈ acc, a.1 < i) →
    RunP P s0 i uns os acc K s → ∃ R Z, Good P s0 U i os acc R s Z ∧ K Z
  | [], [], i, acc, s, _, _, h => by
    simp only [RunP] at h
    exact ⟨[], s, ⟨rfl, .nil (.refl s), .nil, fun _ _ _ hb => by simp at hb, fun _ hk => by simp at hk⟩, h⟩
  | [], _ :: _, i, acc, s, _, _, h => by simp [RunP] at h
  | _ :: _, [], i, acc, s, _, _, h => by simp [RunP] at h
  | o :: os, un :: uns, i, acc, s, hU, hlt, h => by
    have hun : un = U i := by have := hU 0 (by simp); simpa using this
    have hU' : ∀ j, j < uns.length → uns.getD j [] = U (i + 1 + j) := fun j hj => by
      have := hU (j + 1) (by simpa using hj)
      rw [show i + 1 + j = i + (j + 1) from by omega]
      simpa using this
    have hlt' : ∀ (f : FP), ∀ a ∈ ((i, o, f) :: acc : List It), a.1 < i + 1 := fun f a ha => by
      rcases List.mem_cons.1 ha with rfl | ha
      · simp
      · have := hlt a ha; omega
    have fin : ∀ (f : FP), En P o f s → Fr f s0 → Told s0 acc f → acc.all (fun a => okPair un a (i, o, f)) = true → RunP P s0 (i + 1) uns os ((i, o, f) :: acc) K (stepS o f s) → ∃ R Z, Good P s0 U i (o :: os) acc R s Z ∧ K Z := by
      intro f h1 h2 h3 h4 h5
      obtain ⟨R, Z, hg, hk⟩ := runP_sound os uns (i + 1) _ _ hU' (hlt' f) h5
      exact ⟨(i, o, f) :: R, Z, hg.cons h1 h2 h3 hlt (by rw [← hun]; exact h4), hk⟩
    have noSc : ∀ f : FP, f.wr = none → Told s0 acc f := fun f hf u hu => by
      unfold FP.scO at hu; rw [hf] at hu; cases hs : f.sc <;> rw [hs] at hu <;> cases hu
    have noFr : ∀ f : FP, f.wr = none → Fr f s0 := fun f hf hn u ob hw => by rw [hf] at hw; cases hw
    simp only [RunP] at h
    split at h
    · rename_i hg
      refine fin { v := .und } (.skip hg rfl rfl) (noFr _ rfl) (noSc _ rfl) h.1 ?_
      exact h.2
    · rename_i hg
      split at h
      · rename_i q ho
        split at h
        · rename_i v hv
          exact fin _ (.q hg ho hv (fun t ht => by rw [ho] at ht; exact ht) rfl) (noFr _ rfl) (noSc _ rfl) h.1 h.2
        · exact h.elim
      · rename_i q ho
        split at h
        · rename_i t hd
          split at h
          · rename_i ob v hv
            split at h
            · rename_i k rows hfz
              simp only [Bool.and_eq_true] at h
              obtain ⟨cap, rfl, rfl⟩ := frzN_inv hfz
              exact fin _ (.nG hg ho hd hv rfl rfl rfl rfl) (okFr_sound h.1.1) (fun u hu => by simp [FP.scO] at hu) h.1.2 h.2
            · simp only [Bool.and_eq_true] at h
              exact fin _ (.n hg ho hd hv rfl rfl rfl) (okFr_sound h.1.1) (fun u hu => by simp [FP.scO] at hu) h.1.2 h.2
          · exact h.elim
        · exact h.elim
      · rename_i q ho
        split at h
        · rename_i u ob v k hv
          obtain ⟨h1, h2, h3⟩ := h
          simp only [Bool.and_eq_true] at h2
          refine fin { v := v, wr := some (u, ob), nw := decide (k = 1), sc := decide (k = 2), rd := rdOf (.s q) s.env, dt := dtOf s0 acc u, dob := dobOf s0 acc u } (.s hg ho hv (fun t ht => by rw [ho] at ht; exact ht) rfl (fun hk => ⟨by simp [hk], h1 hk⟩) rfl)
            (okFr_sound (f := { v := v, wr := some (u, ob), nw := decide (k = 1), sc := decide (k = 2) }) h2.1) (fun w hw => ?_) h2.2 ?_
          · unfold FP.scO at hw
            split at hw
            · simp at hw; subst hw; exact ⟨rfl, rfl⟩
            · cases hw
          · have : stepS o { v := v, wr := some (u, ob), nw := decide (k = 1), sc := decide (k = 2), rd := rdOf (.s q) s.env, dt := dtOf s0 acc u, dob := dobOf s0 acc u } s = putd o.d v (newSt k u ob s) := by
              unfold stepS
              simp only
              by_cases hk : k = 2
              · subst hk; rfl
              · simp [newSt, hk]
            rw [this]; exact h3
        · exact h.elim
      · rename_i f xs ho
        rcases h with ⟨h1, r, h2, h3, h4⟩ | ⟨r, t, ob, h2, h3, h4⟩ | ⟨r, t, ob, h2, h3, h4⟩ | ⟨r, t, h2, h3, h4⟩
        · exact fin _ (.call hg ho h1 h2 rfl rfl) (noFr _ rfl) (noSc _ rfl) h3 h4
        · simp only [Bool.and_eq_true] at h3
          exact fin _ (.callN hg ho h2 rfl rfl rfl) (okFr_sound h3.1) (fun u hu => by simp [FP.scO] at hu) h3.2 h4
        · exact fin _ (.callS hg ho h2 rfl (by simp) rfl rfl rfl) (fun hn => by cases hn) (fun u hu => by simp [FP.scO] at hu) h3 h4
        · exact fin _ (.callK hg ho h2 rfl (by simp) rfl) (noFr _ rfl) (noSc _ rfl) h3 h4
      · exact h.elim
    · exact h.elim
section
variable {G : Ground} {F : Fence} {n : Nat} {Q : Exit → AS → Prop} {s : AS}
theorem T_drP (hF : FOk F) {un : List (List Nat)} {t : TOps} {kp ids : List Nat} {S : AS} (hm : G.P.follows .mixedOrders = true) (h : RunP G.P s 0 un t.flat [] (fun s' => s'.keep kp ids = S) s) (k : Q .normal S) :
    T G F n (.region (some un) t kp ids) Q s := T_good hF hm fun U hU => by
  obtain ⟨R, Z, h1, h2⟩ := runP_sound (P := G.P) (s0 := s) (U := U) t.flat un 0 [] s hU (fun a ha => by simp at ha) h
  exact ⟨R, Z, h1, h2 ▸ k⟩
end
section
variable {P : Program} {s0 s : AS} {i : Nat} {un : List Nat} {uns : List (List Nat)} {os : List FOp} {acc : List It} {K : AS → Prop} {d : Option Nat} {g : Option (Nat × Bool)}
theorem RunP_nil : RunP P s0 i [] [] acc K s = K s := by simp only [RunP]
theorem RunP_q {q : QOp} : RunP P s0 i (un :: uns) (⟨d, g, .q q⟩ :: os) acc K s = match gmet s.env g with
    | some false => acc.all (fun t => okPair un t (i, ⟨d, g, .q q⟩, { v := .und })) = true ∧ RunP P s0 (i + 1) uns os ((i, ⟨d, g, .q q⟩, { v := .und }) :: acc) K (putd d .und s)
    | some true => match evQ q s.env s.σ with
        | some v => acc.all (fun t => okPair un t (i, ⟨d, g, .q q⟩, { v := v, rd := rdOf (.q q) s.env })) = true ∧ RunP P s0 (i + 1) uns os ((i, ⟨d, g, .q q⟩, { v := v, rd := rdOf (.q q) s.env }) :: acc) K (putd d v s)
        | none => False
    | none => False := by simp only [RunP]
theorem RunP_n {q : NOp} {t : Nat} : RunP P s0 i (un :: uns) (⟨some t, g, .n q⟩ :: os) acc K s = match gmet s.env g with
    | some false => acc.all (fun a => okPair un a (i, ⟨some t, g, .n q⟩, { v := .und })) = true ∧ RunP P s0 (i + 1) uns os ((i, ⟨some t, g, .n q⟩, { v := .und }) :: acc) K (putd (some t) .und s)
    | some true => match evN q s.env t with
          | some (ob, v) => match frzN t ob v with
            | some (k, rows) => (okFr s0 { v := .one (.p (.sl rows)), wr := some (t, .arr false k rows), nw := true } && acc.all (fun a => okPair un a (i, ⟨some t, g, .n q⟩, { v := .one (.p (.sl rows)), wr := some (t, .arr false k rows), nw := true }))) = true ∧
              RunP P s0 (i + 1) uns os ((i, ⟨some t, g, .n q⟩, { v := .one (.p (.sl rows)), wr := some (t, .arr false k rows), nw := true }) :: acc) K (putd (some t) (.one (.p (.sl rows))) { s with σ := (t, .arr false k rows) :: s.σ })
            | none => (okFr s0 { v := v, wr := some (t, ob), nw := true } && acc.all (fun a => okPair un a (i, ⟨some t, g, .n q⟩, { v := v, wr := some (t, ob), nw := true }))) = true ∧
              RunP P s0 (i + 1) uns os ((i, ⟨some t, g, .n q⟩, { v := v, wr := some (t, ob), nw := true }) :: acc) K (putd (some t) v { s with σ := (t, ob) :: s.σ })
          | none => False
    | none => False := by simp only [RunP]
theorem RunP_s {q : SOp} : RunP P s0 i (un :: uns) (⟨d, g, .s q⟩ :: os) acc K s = match gmet s.env g with
    | some false => acc.all (fun t => okPair un t (i, ⟨d, g, .s q⟩, { v := .und })) = true ∧ RunP P s0 (i + 1) uns os ((i, ⟨d, g, .s q⟩, { v := .und }) :: acc) K (putd d .und s)
    | some true => match evS q s.env s.σ (d.getD 0) with
        | some (u, ob, v, k) => (k = 1 → d = some u) ∧
            (okFr s0 { v := v, wr := some (u, ob), nw := decide (k = 1), sc := decide (k = 2) } &&
              acc.all (fun a => okPair un a (i, ⟨d, g, .s q⟩, { v := v, wr := some (u, ob), nw := decide (k = 1), sc := decide (k = 2), rd := rdOf (.s q) s.env, dt := dtOf s0 acc u, dob := dobOf s0 acc u }))) = true ∧
            RunP P s0 (i + 1) uns os ((i, ⟨d, g, .s q⟩, { v := v, wr := some (u, ob), nw := decide (k = 1), sc := decide (k = 2), rd := rdOf (.s q) s.env, dt := dtOf s0 acc u, dob := dobOf s0 acc u }) :: acc) K (putd d v (newSt k u ob s))
        | none => False
    | none => False := by simp only [RunP]
variable {f : Opd} {xs : List Opd} {t : Nat} {ob : AO}
theorem RunP_P {r : DV} (hg : gmet s.env g = some true) (hp : (gets s.env (f :: xs)).all AVp = true) (hc : CallR P f xs s.env s.σ s.σ r) (ha : acc.all (fun a => okPair un a (i, ⟨d, g, .call f xs⟩, { v := r.av })) = true)
    (k : RunP P s0 (i + 1) uns os ((i, ⟨d, g, .call f xs⟩, { v := r.av }) :: acc) K (putd d r.av s)) : RunP P s0 i (un :: uns) (⟨d, g, .call f xs⟩ :: os) acc K s := by
  simp only [RunP, hg]; exact .inl ⟨hp, r, hc, ha, k⟩
theorem RunP_N {r : AV} (hg : gmet s.env g = some true) (hc : CallN P f xs s.env r t ob) (ha : (okFr s0 { v := r, wr := some (t, ob), nw := true } && acc.all (fun a => okPair un a (i, ⟨d, g, .call f xs⟩, { v := r, wr := some (t, ob), nw := true }))) = true)
    (k : RunP P s0 (i + 1) uns os ((i, ⟨d, g, .call f xs⟩, { v := r, wr := some (t, ob), nw := true }) :: acc) K (putd d r { s with σ := (t, ob) :: s.σ })) : RunP P s0 i (un :: uns) (⟨d, g, .call f xs⟩ :: os) acc K s := by
  simp only [RunP, hg]; exact .inr (.inl ⟨r, t, ob, hc, ha, k⟩)
theorem RunP_S {r : AV} (hg : gmet s.env g = some true) (hc : CallS P f xs s.env r t (lo s.σ t) ob) (ha : acc.all (fun a => okPair un a (i, ⟨d, g, .call f xs⟩, { v := r, wr := some (t, ob), rd := [t] })) = true)
    (k : RunP P s0 (i + 1) uns os ((i, ⟨d, g, .call f xs⟩, { v := r, wr := some (t, ob), rd := [t] }) :: acc) K (putd d r { s with σ := (t, ob) :: s.σ })) : RunP P s0 i (un :: uns) (⟨d, g, .call f xs⟩ :: os) acc K s := by
  simp only [RunP, hg]; exact .inr (.inr (.inl ⟨r, t, ob, hc, ha, k⟩))
theorem RunP_K {r : AV} (hg : gmet s.env g = some true) (hc : CallS P f xs s.env r t (lo s.σ t) (lo s.σ t)) (ha : acc.all (fun a => okPair un a (i, ⟨d, g, .call f xs⟩, { v := r, rd := [t] })) = true)
    (k : RunP P s0 (i + 1) uns os ((i, ⟨d, g, .call f xs⟩, { v := r, rd := [t] }) :: acc) K (putd d r s)) : RunP P s0 i (un :: uns) (⟨d, g, .call f xs⟩ :: os) acc K s := by
  simp only [RunP, hg]; exact .inr (.inr (.inr ⟨r, t, hc, ha, k⟩))
end
attribute [go_sem] RunP_nil RunP_q RunP_n RunP_s
end Go.AM

namespace Go.AM
open Go Go.Proofs
set_option maxRecDepth 100000
set_option maxHeartbeats 4000000

theorem p_fix_Sub {a b : Int} (ha : I64 a) (hb : I64 b) : PureC Tryz.prog fi_fix_Sub [dN a, dN b] (dNE (fSub a b)) := by
  refine pure_fix_Sub (by simp) fun G hP hn => ?_
  unfold a_fix_Sub
  have hw := w64_eq (a - b)
  unfold I64 at ha hb
  have k1 : I64 (a - b) → fSub a b = (IntKind.i64.wrap (a - b), 0) := fun h => by
    rw [wrap_in h.1 h.2]; exact rng_in h
  have k2 : ¬ I64 (a - b) → fSub a b = (0, 10) := fun h => by
    exact rng_out h
  unfold I64 at k1 k2
  by_cases h1 : a < 0 <;> by_cases h2 : b < 0 <;> by_cases h3 : IntKind.i64.wrap (a - b) < 0
  all_goals
    refine go (aa h1 <| aa h2 h3) @p_fix_told ?_
    exact ends_ret rfl rfl rfl (by
      simp only [resD]
      first
        | (rw [k1 (by split at hw <;> omega)]; done)
        | (rw [k2 (by split at hw <;> omega)]; done)
        | (rw [k1 (by split at hw <;> omega)]; rfl)
        | (rw [k2 (by split at hw <;> omega)]; rfl))
theorem p_fix_Neg {a : Int} (ha : I64 a) : PureC Tryz.prog fi_fix_Neg [dN a] (dNE (fNeg a)) := by
  refine pure_fix_Neg (by simp) fun G hP hn => ?_
  unfold a_fix_Neg
  by_cases h : a = -9223372036854775808
  · subst h
    have w : IntKind.i64.wrap (-(-9223372036854775808)) = -9223372036854775808 := by decide
    have w' : IntKind.i64.wrap (0 - -9223372036854775808) = -9223372036854775808 := by decide
    refine go (aa @w @w') @p_fix_told ?_
    exact ends_ret rfl rfl rfl rfl
  · have e : (a != -9223372036854775808) = true := by simpa using h
    have w' : IntKind.i64.wrap (0 - a) = 0 - a := wrap_in (by unfold I64 at ha; omega) (by unfold I64 at ha; omega)
    have w : IntKind.i64.wrap (-a) = 0 - a := by rw [← Int.zero_sub]; exact w'
    have hf : fNeg a = (0 - a, 0) := rng_in (by unfold I64 at ha ⊢; omega)
    refine go (aa @w <| aa @w' @e) @p_fix_told ?_
    exact ends_ret rfl rfl rfl (by rw [hf]; rfl)
def fRelu (a : Int) : Int × Int := (max a 0, 0)
theorem p_relu (a : Int) : PureC Tryz.prog fi_elem_kinds_1 [dN a] (dNE (fRelu a)) := by
  refine pure_elem_kinds_1 (by simp) fun G hP hn => ?_
  unfold a_elem_kinds_1
  refine go trivial trivial ?_
  exact ends_ret rfl rfl rfl rfl
def kindsM : PV := .map [(10, true, [.nilF, .fn fi_fix_Add [] []]), (11, true, [.nilF, .fn fi_fix_Sub [] []]), (12, true, [.nilF, .fn fi_fix_Mul [] []]), (13, true, [.nilF, .fn fi_fix_Div [] []]),
  (20, true, [.fn fi_fix_Neg [] [], .nilF]), (21, true, [.fn fi_elem_kinds_1 [] [], .nilF]), (22, true, [.fn fi_fix_Pow [] [], .nilF]), (23, true, [.fn fi_fix_Sqrt [] [], .nilF])]
theorem p_elem_kinds : PureC Tryz.prog fi_elem_kinds [] (.one kindsM) := by
  refine pure_elem_kinds (by simp) fun G hP hn => ?_
  unfold a_elem_kinds
  refine go trivial trivial ?_
  exact ends_ret rfl rfl rfl rfl
def eachF (s : List Int) (h : Nat → Int × Int) : (List Int × List Int) × Int :=
  if (coll h (sizeS s).toNat 0 []).2 = 0 then ((s, (coll h (sizeS s).toNat 0 []).1), 0) else bad (coll h (sizeS s).toNat 0 []).2
theorem p_elem_each {f : FuncId} {caps : List PV} {s : List Int} {h : Nat → Int × Int} (hs : s.length ≤ 64) (hf : ∀ p : Nat, p < (sizeS s).toNat → PureC Tryz.prog f ([dN p] ++ caps.map .one) (dNE (h p))) :
    PureC Tryz.prog fi_elem_each [dI s, .one (.fn f [] caps)] (dTE (eachF s h)) := by
  refine pure_elem_each (by simp) fun G hP hn => ?_
  unfold a_elem_each
  have kl := m_slices_Clone s (by omega)
  have ks := p_shape_Size s
  have hz := sizeS_nn s
  refine go trivial (aa kl ks) ?_
  refine T_weak (Weak.nilC 6 100 1 1 rfl rfl rfl rfl) ?_
  refine T_for (sizeS s).toNat (fun i acc => { env := [(1, .one (.p (.fn f [] caps))), (4, .one (.ptr 4 0 2 0)), (6, .one (.ptr 6 0 2 0)), (14, .one (.p (.int .i64 (sizeS s)))), (15, .one (.p (.int .i64 i)))], σ := [(4, .cells true [.nils, .nils]), (6, .cells true [.msl 5 0 1 s.length none, .msl 100 0 1 i none]), (5, .arr true 1 (rI s)), (100, .arr true 1 (rI acc))] })
    (fun i acc => acc.length = i ∧ coll h ((sizeS s).toNat - i) i acc = coll h (sizeS s).toNat 0 []) [] ⟨rfl, rfl⟩ ?_ fun i acc hi hinv => ?_
  · refine Weak.sub fun q hq => ?_
    simp only [List.mem_cons, List.not_mem_nil, or_false] at hq
    rcases hq with rfl | rfl | rfl | rfl <;> rfl
  obtain ⟨hal, hcol⟩ := hinv
  by_cases hlt : i < (sizeS s).toNat
  · have c1 : (i : Int) < sizeS s := by omega
    have w1 : IntKind.i64.wrap ((i : Int) + 1) = ((i + 1 : Nat) : Int) := by rw [wrap_in (by omega) (by omega)]; rfl
    have kf := hf i hlt
    rw [show (sizeS s).toNat - i = ((sizeS s).toNat - (i + 1)) + 1 from by omega] at hcol
    simp only [coll] at hcol
    generalize h i = v at *
    by_cases e : v.2 = 0
    · rw [if_pos e] at hcol
      have e' : (v.2 != 0) = false := by simp [e]
      have c4 : (i + 1) * 8 ≤ 2 ^ 40 := by omega
      have c5 : i + 1 ≤ 2 ^ 40 := by omega
      refine go (aa c1 <| aa w1 <| aa @e' <| aa hal <| aa c4 c5) kf ?_
      refine rnd_next hlt (acc ++ [v.1]) ⟨by simp [hal], hcol⟩ (Weak.sub fun q hq => ?_)
      simp only [List.mem_cons, List.not_mem_nil, or_false] at hq
      rcases hq with rfl | rfl | rfl | rfl
      · rfl
      · rfl
      · rfl
      · simp [lo, rI]
    · rw [if_neg e] at hcol
      have e' : (v.2 != 0) = true := by simp [e]
      have hE : eachF s h = bad v.2 := by unfold eachF; rw [← hcol, if_neg e]
      refine go (aa c1 <| aa w1 @e') kf ?_
      exact ends_ret rfl rfl rfl (by rw [hE]; rfl)
  · have c1 : ¬ (i : Int) < sizeS s := by omega
    have hie : i = (sizeS s).toNat := by omega
    rw [hie, Nat.sub_self] at hcol
    simp only [coll] at hcol
    have hE : eachF s h = ((s, acc), 0) := by unfold eachF; rw [← hcol, if_pos rfl]
    refine go c1 trivial ?_
    exact ends_twoM (t1 := 5) (t2 := 100) (by decide) rfl rfl rfl (by simp) (by simp [hal]) (.inr ⟨_, rfl, rfl⟩) (by rw [hE]; rfl)
theorem p_elem_Two_1 {f : FuncId} {W : Int → Int → Int × Int} {k1 : PV} {s d t e : List Int} {p : Nat} {a b : Int} (ha : d[p]? = some a) (hb : e[p]? = some b) (hW : PureC Tryz.prog f [dN a, dN b] (dNE (W a b))) :
    PureC Tryz.prog fi_elem_Two_1 [dN p, .one (.box [k1, .fn f [] []]), .one (.box [eI s, eI d]), .one (.box [eI t, eI e])] (dNE (W a b)) := by
  refine pure_elem_Two_1 (by simp) fun G hP hn => ?_
  unfold a_elem_Two_1
  have hl := (List.getElem?_eq_some_iff.1 ha).1
  have hl2 := (List.getElem?_eq_some_iff.1 hb).1
  refine go (aa ha <| aa hb <| aa hl hl2) hW ?_
  exact ends_ret rfl rfl rfl rfl
theorem p_elem_One_1 {f : FuncId} {W : Int → Int × Int} {k2 : PV} {s d : List Int} {p : Nat} {a : Int} (ha : d[p]? = some a) (hW : PureC Tryz.prog f [dN a] (dNE (W a))) :
    PureC Tryz.prog fi_elem_One_1 [dN p, .one (.box [.fn f [] [], k2]), .one (.box [eI s, eI d])] (dNE (W a)) := by
  refine pure_elem_One_1 (by simp) fun G hP hn => ?_
  unfold a_elem_One_1
  have hl := (List.getElem?_eq_some_iff.1 ha).1
  refine go (aa ha hl) hW ?_
  exact ends_ret rfl rfl rfl rfl
end Go.AM

namespace Go.AM
open Go Go.Proofs
set_option maxRecDepth 100000
set_option maxHeartbeats 4000000

def twoF (W : Int → Int → Int × Int) (s d t e : List Int) : (List Int × List Int) × Int :=
  if checkT s d = true ∧ checkT t e = true then (if (joinSF s t).2 = 0 then eachF (joinSF s t).1 (fun p => W (gt (spreadD s d (joinSF s t).1) p) (gt (spreadD t e (joinSF s t).1) p)) else bad 20) else bad 30
def oneF (W : Int → Int × Int) (s d : List Int) : (List Int × List Int) × Int := if checkT s d = true then eachF s (fun p => W (gt d p)) else bad 30
theorem gt_some {d : List Int} {p : Nat} (h : p < d.length) : d[p]? = some (gt d p) := by unfold gt; rw [List.getElem?_eq_getElem h]; rfl
theorem spread_I64 {s d g : List Int} (h : I64s d) : I64s (spreadD s d g) := I64s.mk fun x => atF_range h
theorem spread_len {s d g : List Int} (h : ShapeOk g) : (spreadD s d g).length = (sizeS g).toNat := by
  have := mk_len h (fun x => (atF s d (fromX s x)).1)
  have h2 := sizeS_ok h
  unfold spreadD; omega
theorem p_elem_Two' {op : Int} {f : FuncId} {W : Int → Int → Int × Int} (hop : (op = 10 ∧ f = fi_fix_Add) ∨ (op = 11 ∧ f = fi_fix_Sub) ∨ (op = 12 ∧ f = fi_fix_Mul) ∨ (op = 13 ∧ f = fi_fix_Div))
    (s d t e : List Int) (hd : I64s d) (he : I64s e) (hW : ∀ p, p < (sizeS (joinSF s t).1).toNat → PureC Tryz.prog f [dN (gt (spreadD s d (joinSF s t).1) p), dN (gt (spreadD t e (joinSF s t).1) p)] (dNE (W (gt (spreadD s d (joinSF s t).1) p) (gt (spreadD t e (joinSF s t).1) p)))) :
    PureC Tryz.prog fi_elem_Two [dN op, dT s d, dT t e] (dTE (twoF W s d t e)) := by
  refine pure_elem_Two (by simp) fun G hP hn => ?_
  unfold a_elem_Two
  have kk := p_elem_kinds
  unfold kindsM at kk
  have kc1 := p_tensor_Check s d
  have kc2 := p_tensor_Check t e
  have kj := p_shape_Join s t
  have kx := p_tensor_Spread s d (joinSF s t).1
  have ky := p_tensor_Spread t e (joinSF s t).1
  rcases hop with ⟨rfl, rfl⟩ | ⟨rfl, rfl⟩ | ⟨rfl, rfl⟩ | ⟨rfl, rfl⟩
  all_goals
    cases h1 : checkT s d
    · have hf : twoF W s d t e = bad 30 := by unfold twoF; rw [if_neg (by simp [h1])]
      rw [h1] at kc1
      refine go trivial (aa kk kc1) ?_
      exact ends_ret rfl rfl rfl (by rw [hf]; rfl)
    cases h2 : checkT t e
    · have hf : twoF W s d t e = bad 30 := by unfold twoF; rw [if_neg (by simp [h2])]
      rw [h1] at kc1
      rw [h2] at kc2
      refine go trivial (aa kk <| aa kc1 kc2) ?_
      exact ends_ret rfl rfl rfl (by rw [hf]; rfl)
    rw [h1] at kc1
    rw [h2] at kc2
    rcases join_or s t with ⟨r, hj, hr⟩ | ⟨_, hr⟩
    rotate_left
    · have hf : twoF W s d t e = bad 20 := by unfold twoF; rw [if_pos ⟨h1, h2⟩, hr, if_neg (by simp)]
      rw [hr] at kj
      refine go trivial (aa kk <| aa kc1 <| aa kc2 kj) ?_
      exact ends_ret rfl rfl rfl (by rw [hf]; rfl)
    · have hf : twoF W s d t e = eachF r (fun p => W (gt (spreadD s d r) p) (gt (spreadD t e r) p)) := by unfold twoF; rw [if_pos ⟨h1, h2⟩, hr, if_pos rfl]
      rw [hr] at kj kx ky hW
      have hx : spreadF s d r = ((r, spreadD s d r), 0) := by unfold spreadF; rw [if_pos h1, if_pos (fits_of hj.left)]
      have hy : spreadF t e r = ((r, spreadD t e r), 0) := by unfold spreadF; rw [if_pos h2, if_pos (fits_of hj.right)]
      rw [hx] at kx
      rw [hy] at ky
      have lx := spread_len (s := s) (d := d) hj.hr
      have ly := spread_len (s := t) (d := e) hj.hr
      have ix := spread_I64 (s := s) (g := r) hd
      have iy := spread_I64 (s := t) (g := r) he
      generalize spreadD s d r = xd at *
      generalize spreadD t e r = yd at *
      have kE := fun (k1 : PV) (f2 : FuncId) (hW : ∀ p, p < (sizeS r).toNat → PureC Tryz.prog f2 [dN (gt xd p), dN (gt yd p)] (dNE (W (gt xd p) (gt yd p)))) => p_elem_each (f := fi_elem_Two_1) (caps := [.box [k1, .fn f2 [] []], .box [eI r, eI xd], .box [eI r, eI yd]]) (s := r) (h := fun p => W (gt xd p) (gt yd p)) (by have := hj.hr.1; omega)
        (fun p hp => p_elem_Two_1 (gt_some (by omega)) (gt_some (by omega)) (hW p hp))
      refine go trivial (aa kk <| aa kc1 <| aa kc2 <| aa kj <| aa kx <| aa ky (kE _ _ hW)) ?_
      exact ends_ret rfl rfl rfl (by rw [hf]; rfl)
theorem p_elem_Two {op : Int} {f : FuncId} {W : Int → Int → Int × Int} (hop : (op = 10 ∧ f = fi_fix_Add) ∨ (op = 11 ∧ f = fi_fix_Sub) ∨ (op = 12 ∧ f = fi_fix_Mul) ∨ (op = 13 ∧ f = fi_fix_Div))
    (hW : ∀ a b, I64 a → I64 b → PureC Tryz.prog f [dN a, dN b] (dNE (W a b))) (s d t e : List Int) (hd : I64s d) (he : I64s e) : PureC Tryz.prog fi_elem_Two [dN op, dT s d, dT t e] (dTE (twoF W s d t e)) :=
  p_elem_Two' hop s d t e hd he fun p _ => hW _ _ (gt_range (spread_I64 hd) p) (gt_range (spread_I64 he) p)
end Go.AM

namespace Go.AM
open Go Go.Proofs
set_option maxRecDepth 100000
set_option maxHeartbeats 4000000

theorem p_elem_One {op : Int} {f : FuncId} {W : Int → Int × Int} (hop : (op = 20 ∧ f = fi_fix_Neg) ∨ (op = 21 ∧ f = fi_elem_kinds_1) ∨ (op = 22 ∧ f = fi_fix_Pow) ∨ (op = 23 ∧ f = fi_fix_Sqrt))
    (hW : ∀ a, I64 a → PureC Tryz.prog f [dN a] (dNE (W a))) (s d : List Int) (hd : I64s d) : PureC Tryz.prog fi_elem_One [dN op, dT s d] (dTE (oneF W s d)) := by
  refine pure_elem_One (by simp) fun G hP hn => ?_
  unfold a_elem_One
  have kk := p_elem_kinds
  unfold kindsM at kk
  have kc1 := p_tensor_Check s d
  rcases hop with ⟨rfl, rfl⟩ | ⟨rfl, rfl⟩ | ⟨rfl, rfl⟩ | ⟨rfl, rfl⟩
  all_goals
    cases h1 : checkT s d
    · have hf : oneF W s d = bad 30 := by unfold oneF; rw [if_neg (by simp [h1])]
      rw [h1] at kc1
      refine go trivial (aa kk kc1) ?_
      exact ends_ret rfl rfl rfl (by rw [hf]; rfl)
    · rw [h1] at kc1
      have hf : oneF W s d = eachF s (fun p => W (gt d p)) := by unfold oneF; rw [if_pos h1]
      have hc := checkT_iff.1 h1
      have hsz := sizeS_ok hc.1
      have kE := fun (k2 : PV) (f2 : FuncId) (hW : ∀ a, I64 a → PureC Tryz.prog f2 [dN a] (dNE (W a))) => p_elem_each (f := fi_elem_One_1) (caps := [.box [.fn f2 [] [], k2], .box [eI s, eI d]]) (s := s) (h := fun p => W (gt d p)) (by have := hc.1.1; omega)
        (fun p hp => p_elem_One_1 (gt_some (by omega)) (hW _ (gt_range hd p)))
      refine go trivial (aa kk <| aa kc1 (kE _ _ hW)) ?_
      exact ends_ret rfl rfl rfl (by rw [hf]; rfl)
end Go.AM

namespace Go.AM
open Go Go.Proofs
set_option maxRecDepth 100000
set_option maxHeartbeats 4000000

theorem i64s_dec {l : List Int} (h : (l.all fun n => decide (I64 n)) = true) : I64s l := fun n hn => by simpa using List.all_eq_true.1 h n hn
end Go.AM

namespace Go.AM
open Go Go.Proofs
set_option maxRecDepth 100000
set_option maxHeartbeats 4000000

theorem k_Add {s d t e : List Int} (hd : I64s d) (he : I64s e) : PureC Tryz.prog fi_elem_Two [dN 10, dT s d, dT t e] (dTE (twoF fAdd s d t e)) := p_elem_Two (.inl ⟨rfl, rfl⟩) (fun _ _ ha hb => p_fix_Add ha hb) s d t e hd he
theorem k_Sub {s d t e : List Int} (hd : I64s d) (he : I64s e) : PureC Tryz.prog fi_elem_Two [dN 11, dT s d, dT t e] (dTE (twoF fSub s d t e)) := p_elem_Two (.inr (.inl ⟨rfl, rfl⟩)) (fun _ _ ha hb => p_fix_Sub ha hb) s d t e hd he
theorem k_Mul {s d t e : List Int} (hd : I64s d) (he : I64s e) : PureC Tryz.prog fi_elem_Two [dN 12, dT s d, dT t e] (dTE (twoF fMul s d t e)) := p_elem_Two (.inr (.inr (.inl ⟨rfl, rfl⟩))) (fun _ _ ha hb => p_fix_Mul ha hb) s d t e hd he
theorem k_Neg {s d : List Int} (hd : I64s d) : PureC Tryz.prog fi_elem_One [dN 20, dT s d] (dTE (oneF fNeg s d)) := p_elem_One (.inl ⟨rfl, rfl⟩) (fun _ ha => p_fix_Neg ha) s d hd
theorem k_Relu {s d : List Int} (hd : I64s d) : PureC Tryz.prog fi_elem_One [dN 21, dT s d] (dTE (oneF fRelu s d)) := p_elem_One (.inr (.inl ⟨rfl, rfl⟩)) (fun _ _ => p_relu _) s d hd
end Go.AM

namespace Go.AM
open Go Go.Proofs
set_option maxRecDepth 100000
set_option maxHeartbeats 4000000

def val (s d x : List Int) : Int := (atF s d x).1
theorem eachF_ok {s : List Int} {h : Nat → Int × Int} (k : ∀ p, p < (sizeS s).toNat → (h p).2 = 0) : eachF s h = ((s, (List.range (sizeS s).toNat).map fun p => (h p).1), 0) := by
  unfold eachF
  rw [coll_ok (fun p hp => by rw [Nat.zero_add]; exact k p hp)]
  simp
theorem eachF_inv {s : List Int} {h : Nat → Int × Int} (k : (eachF s h).2 = 0) : ∀ p, p < (sizeS s).toNat → (h p).2 = 0 := by
  rcases coll_cases h (sizeS s).toNat with c | ⟨j, hj, c1, c2⟩
  · exact c
  · exfalso
    have := coll_err (f := h) (n := (sizeS s).toNat) (a := 0) (acc := []) hj (fun i hi => by rw [Nat.zero_add]; exact c1 i hi) (by rw [Nat.zero_add]; exact c2)
    rw [Nat.zero_add] at this
    unfold eachF at k
    rw [this, if_neg c2] at k
    exact c2 k
theorem spread_gt {s d r : List Int} (h : ShapeOk r) {p : Nat} (hp : p < (sizeS r).toNat) : gt (spreadD s d r) p = val s d (fromX s (ix r p)) := by
  have hsz := sizeS_ok h
  unfold gt spreadD
  rw [mk_get h _ (by omega)]; rfl
theorem place_of {r x : List Int} (h : ShapeOk r) (hx : InIdx r x) : ∃ p, p < (sizeS r).toNat ∧ ix r ((p : Nat) : Int) = x := by
  have h1 := pl_lt hx
  have hsz := sizeS_ok h
  obtain ⟨p, hp⟩ := Int.eq_ofNat_of_zero_le h1.1
  exact ⟨p, by omega, by rw [← hp]; exact ix_pl0 hx h.2.1⟩
theorem mk_places {r : List Int} (h : ShapeOk r) (g : List Int → Int) : ((List.range (sizeS r).toNat).map fun p => g (ix r ((p : Nat) : Int))) = mk r g := by
  have h64 := sizeS_nn r
  unfold mk
  apply List.map_congr_left
  intro p hp
  have := List.mem_range.1 hp
  rw [idxF_eq h.2.1 (by omega) (by omega)]
theorem two_ok {W : Int → Int → Int × Int} {s d t e r : List Int} (h1 : checkT s d = true) (h2 : checkT t e = true) (hj : JoinOk s t r) (hW : ∀ x, InIdx r x → (W (val s d (fromX s x)) (val t e (fromX t x))).2 = 0) :
    twoF W s d t e = ((r, mk r fun x => (W (val s d (fromX s x)) (val t e (fromX t x))).1), 0) := by
  unfold twoF
  rw [if_pos ⟨h1, h2⟩, hj.eq, if_pos rfl]
  have hh : ∀ p, p < (sizeS r).toNat → W (gt (spreadD s d r) p) (gt (spreadD t e r) p) = W (val s d (fromX s (ix r p))) (val t e (fromX t (ix r p))) := fun p hp => by rw [spread_gt hj.hr hp, spread_gt hj.hr hp]
  rw [eachF_ok (fun p hp => by rw [hh p hp]; exact hW _ (ix_in hj.hr.2.1))]
  congr 2
  rw [← mk_places hj.hr]
  exact List.map_congr_left fun p hp => by rw [hh p (List.mem_range.1 hp)]
theorem two_inv {W : Int → Int → Int × Int} {s d t e : List Int} (h : (twoF W s d t e).2 = 0) : checkT s d = true ∧ checkT t e = true ∧ ∃ r, JoinOk s t r ∧ (∀ x, InIdx r x → (W (val s d (fromX s x)) (val t e (fromX t x))).2 = 0) ∧
    twoF W s d t e = ((r, mk r fun x => (W (val s d (fromX s x)) (val t e (fromX t x))).1), 0) := by
  by_cases hc : checkT s d = true ∧ checkT t e = true
  · refine ⟨hc.1, hc.2, ?_⟩
    rcases join_or s t with ⟨r, hj, hr⟩ | ⟨_, hr⟩
    · have hf : twoF W s d t e = eachF r (fun p => W (gt (spreadD s d r) p) (gt (spreadD t e r) p)) := by unfold twoF; rw [if_pos hc, hr, if_pos rfl]
      rw [hf] at h
      have hk := eachF_inv h
      have hW : ∀ x, InIdx r x → (W (val s d (fromX s x)) (val t e (fromX t x))).2 = 0 := fun x hx => by
        obtain ⟨p, hp, rfl⟩ := place_of hj.hr hx
        have := hk p hp
        rwa [spread_gt hj.hr hp, spread_gt hj.hr hp] at this
      exact ⟨r, hj, hW, two_ok hc.1 hc.2 hj hW⟩
    · unfold twoF at h; rw [if_pos hc, hr, if_neg (by simp)] at h; simp [bad] at h
  · unfold twoF at h; rw [if_neg hc] at h; simp [bad] at h
theorem full_is {s : List Int} (v : Int) (h : checkS s = true) : fullF s v = ((s, List.replicate (sizeS s).toNat v), 0) := by unfold fullF; rw [if_pos h]
theorem sub_self {s d : List Int} (h : checkT s d = true) : twoF fSub s d s d = fullF s 0 := by
  have hs := (checkT_iff.1 h).1
  have hv : ∀ v : Int, fSub v v = (0, 0) := fun v => by unfold fSub; rw [Int.sub_self]; exact rng_in i64_0
  rw [two_ok h h (JoinOk.self hs) (fun x _ => by rw [hv]), full_is 0 (checkS_iff.2 hs)]
  simp only [hv]
  congr 2
  unfold mk
  rw [List.map_const']; simp
end Go.AM

namespace Go.AM
open Go Go.Proofs
set_option maxRecDepth 100000

abbrev Tn := List Int × List Int
def gT (ps : List Tn) (p : Nat) : Tn := (ps[p]?).getD ([], [])
end Go.AM

namespace Go.AM
open Go Go.Proofs

abbrev rTn (ps : List Tn) : List (List PV) := ps.map fun t => [eI t.1, eI t.2]
abbrev dTs (ps : List Tn) : DV := .one (.sl (rTn ps))
theorem gT_some {ps : List Tn} {p : Nat} (h : p < ps.length) : ps[p]? = some (gT ps p) := by unfold gT; rw [List.getElem?_eq_getElem h]; rfl
end Go.AM

namespace Go.AM
open Go Go.Proofs
set_option maxRecDepth 100000
set_option maxHeartbeats 4000000

theorem k_Div {s d t e : List Int} (hd : I64s d) (he : I64s e) : PureC Tryz.prog fi_elem_Two [dN 13, dT s d, dT t e] (dTE (twoF fDiv s d t e)) := p_elem_Two (.inr (.inr (.inr ⟨rfl, rfl⟩))) (fun _ _ ha hb => p_fix_Div ha hb) s d t e hd he
end Go.AM

