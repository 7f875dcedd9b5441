import Derived.Test.YtphnlpfkenannaaGreatMx27
set_option linter.unusedVariables false
set_option linter.unusedSimpArgs false
namespace Go.AM
open Go

def frzN (t : Nat) : AO → AV → Option (Nat × List (List PV))
  | .arr true k rows, .one (.msl u 0 k' len _) => if u = t ∧ k' = k ∧ len = rows.length then some (k, rows) else none
  | _, _ => none
theorem frzN_inv {t k : Nat} {ob : AO} {v : AV} {rows : List (List PV)} (h : frzN t ob v = some (k, rows)) : ∃ cap, ob = .arr true k rows ∧ v = .one (.msl t 0 k rows.length cap) := by
  unfold frzN at h
  split at h
  · split at h
    · rename_i hc
      obtain ⟨rfl, rfl, rfl⟩ := hc
      cases h
      exact ⟨_, rfl, rfl⟩
    · cases h
  · cases h
def RunO (P : Program) (s0 : AS) : Nat → List (List Nat) → List FOp → List It → (AS → Prop) → AS → Prop
  | _, [], [], _, K, s => K s
  | i, un :: uns, o :: os, acc, K, s =>
    match gmet s.env o.g with
    | some false => acc.all (fun t => okPair un t (i, o, { v := .und })) = true ∧ RunO P s0 (i + 1) uns os ((i, o, { v := .und }) :: acc) K (putd o.d .und s)
    | some true => match o.op with
      | .q q => match evQ q s.env s.σ with
        | some v => acc.all (fun t => okPair un t (i, o, { v := v, rd := rdOf (.q q) s.env })) = true ∧ RunO P s0 (i + 1) uns os ((i, o, { v := v, rd := rdOf (.q q) s.env }) :: acc) K (putd o.d v s)
        | none => False
      | .n q => match o.d with
        | some t => match evN q s.env t with
          | some (ob, v) => match frzN t ob v with
            | some (k, rows) => (okFr s0 { v := .one (.p (.sl rows)), wr := some (t, .arr false k rows), nw := true } && acc.all (fun a => okPair un a (i, o, { v := .one (.p (.sl rows)), wr := some (t, .arr false k rows), nw := true }))) = true ∧
              RunO P s0 (i + 1) uns os ((i, o, { v := .one (.p (.sl rows)), wr := some (t, .arr false k rows), nw := true }) :: acc) K (putd o.d (.one (.p (.sl rows))) { s with σ := (t, .arr false k rows) :: s.σ })
            | none => (okFr s0 { v := v, wr := some (t, ob), nw := true } && acc.all (fun a => okPair un a (i, o, { v := v, wr := some (t, ob), nw := true }))) = true ∧
              RunO P s0 (i + 1) uns os ((i, o, { v := v, wr := some (t, ob), nw := true }) :: acc) K (putd o.d v { s with σ := (t, ob) :: s.σ })
          | none => False
        | none => False
      | .s q => match evS q s.env s.σ (o.d.getD 0) with
        | some (u, ob, v, k) => (k = 1 → o.d = some u) ∧
            (okFr s0 { v := v, wr := some (u, ob), nw := decide (k = 1), sc := decide (k = 2) } &&
              acc.all (fun a => okPair un a (i, o, { v := v, wr := some (u, ob), nw := decide (k = 1), sc := decide (k = 2), rd := rdOf (.s q) s.env, dt := dtOf s0 acc u, dob := dobOf s0 acc u }))) = true ∧
            RunO P s0 (i + 1) uns os ((i, o, { v := v, wr := some (u, ob), nw := decide (k = 1), sc := decide (k = 2), rd := rdOf (.s q) s.env, dt := dtOf s0 acc u, dob := dobOf s0 acc u }) :: acc) K (putd o.d v (newSt k u ob s))
        | none => False
      | .call f xs => (((gets s.env (f :: xs)).all AVp = true ∧ ∃ r, CallR P f xs s.env s.σ s.σ r ∧ acc.all (fun a => okPair un a (i, o, { v := r.av })) = true ∧
          RunO P s0 (i + 1) uns os ((i, o, { v := r.av }) :: acc) K (putd o.d r.av s))) ∨
          ∃ r t ob, CallN P f xs s.env r t ob ∧ (okFr s0 { v := r, wr := some (t, ob), nw := true } && acc.all (fun a => okPair un a (i, o, { v := r, wr := some (t, ob), nw := true }))) = true ∧
            RunO P s0 (i + 1) uns os ((i, o, { v := r, wr := some (t, ob), nw := true }) :: acc) K (putd o.d r { s with σ := (t, ob) :: s.σ })
      | .bad => False
    | none => False
  | _, _, _, _, _, _ => False
theorem runO_sound {P : Program} {s0 : AS} {U : Nat → List Nat} {K : AS → Prop} : ∀ (os : List FOp) (uns : List (List Nat)) (i : Nat) (acc : List It) (s : AS), (∀ j, j < uns.length → uns.getD j [] = U (i + j)) → (∀ a ∈ acc, a.1 < i) →
    RunO P s0 i uns os acc K s → ∃ R Z, Good P s0 U i os acc R s Z ∧ K Z
  | [], [], i, acc, s, _, _, h => by
    simp only [RunO] at h
    exact ⟨[], s, ⟨rfl, .nil (.refl s), .nil, fun _ _ _ hb => by simp at hb, fun _ hk => by simp at hk⟩, h⟩
  | [], _ :: _, i, acc, s, _, _, h => by simp [RunO] at h
  | _ :: _, [], i, acc, s, _, _, h => by simp [RunO] at h
  | o :: os, un :: uns, i, acc, s, hU, hlt, h => by
    have hun : un = U i := by have := hU 0 (by simp); simpa using this
    have hU' : ∀ j, j < uns.length → uns.getD j [] = U (i + 1 + j) := fun j hj => by
      have := hU (j + 1) (by simpa using hj)
      rw [show i + 1 + j = i + (j + 1) from by omega]
      simpa using this
    have hlt' : ∀ (f : FP), ∀ a ∈ ((i, o, f) :: acc : List It), a.1 < i + 1 := fun f a ha => by
      rcases List.mem_cons.1 ha with rfl | ha
      · simp
      · have := hlt a ha; omega
    have fin : ∀ (f : FP), En P o f s → Fr f s0 → Told s0 acc f → acc.all (fun a => okPair un a (i, o, f)) = true → RunO P s0 (i + 1) uns os ((i, o, f) :: acc) K (stepS o f s) → ∃ R Z, Good P s0 U i (o :: os) acc R s Z ∧ K Z := by
      intro f h1 h2 h3 h4 h5
      obtain ⟨R, Z, hg, hk⟩ := runO_sound os uns (i + 1) _ _ hU' (hlt' f) h5
      exact ⟨(i, o, f) :: R, Z, hg.cons h1 h2 h3 hlt (by rw [← hun]; exact h4), hk⟩
    have noSc : ∀ f : FP, f.wr = none → Told s0 acc f := fun f hf u hu => by
      unfold FP.scO at hu; rw [hf] at hu; cases hs : f.sc <;> rw [hs] at hu <;> cases hu
    have noFr : ∀ f : FP, f.wr = none → Fr f s0 := fun f hf hn u ob hw => by rw [hf] at hw; cases hw
    simp only [RunO] at h
    split at h
    · rename_i hg
      refine fin { v := .und } (.skip hg rfl rfl) (noFr _ rfl) (noSc _ rfl) h.1 ?_
      exact h.2
    · rename_i hg
      split at h
      · rename_i q ho
        split at h
        · rename_i v hv
          exact fin _ (.q hg ho hv (fun t ht => by rw [ho] at ht; exact ht) rfl) (noFr _ rfl) (noSc _ rfl) h.1 h.2
        · exact h.elim
      · rename_i q ho
        split at h
        · rename_i t hd
          split at h
          · rename_i ob v hv
            split at h
            · rename_i k rows hfz
              simp only [Bool.and_eq_true] at h
              obtain ⟨cap, rfl, rfl⟩ := frzN_inv hfz
              exact fin _ (.nG hg ho hd hv rfl rfl rfl rfl) (okFr_sound h.1.1) (fun u hu => by simp [FP.scO] at hu) h.1.2 h.2
            · simp only [Bool.and_eq_true] at h
              exact fin _ (.n hg ho hd hv rfl rfl rfl) (okFr_sound h.1.1) (fun u hu => by simp [FP.scO] at hu) h.1.2 h.2
          · exact h.elim
        · exact h.elim
      · rename_i q ho
        split at h
        · rename_i u ob v k hv
          obtain ⟨h1, h2, h3⟩ := h
          simp only [Bool.and_eq_true] at h2
          refine fin { v := v, wr := some (u, ob), nw := decide (k = 1), sc := decide (k = 2), rd := rdOf (.s q) s.env, dt := dtOf s0 acc u, dob := dobOf s0 acc u } (.s hg ho hv (fun t ht => by rw [ho] at ht; exact ht) rfl (fun hk => ⟨by simp [hk], h1 hk⟩) rfl)
            (okFr_sound (f := { v := v, wr := some (u, ob), nw := decide (k = 1), sc := decide (k = 2) }) h2.1) (fun w hw => ?_) h2.2 ?_
          · unfold FP.scO at hw
            split at hw
            · simp at hw; subst hw; exact ⟨rfl, rfl⟩
            · cases hw
          · have : stepS o { v := v, wr := some (u, ob), nw := decide (k = 1), sc := decide (k = 2), rd := rdOf (.s q) s.env, dt := dtOf s0 acc u, dob := dobOf s0 acc u } s = putd o.d v (newSt k u ob s) := by
              unfold stepS
              simp only
              by_cases hk : k = 2
              · subst hk; rfl
              · simp [newSt, hk]
            rw [this]; exact h3
        · exact h.elim
      · rename_i f xs ho
        rcases h with ⟨h1, r, h2, h3, h4⟩ | ⟨r, t, ob, h2, h3, h4⟩
        · exact fin _ (.call hg ho h1 h2 rfl rfl) (noFr _ rfl) (noSc _ rfl) h3 h4
        · simp only [Bool.and_eq_true] at h3
          exact fin _ (.callN hg ho h2 rfl rfl rfl) (okFr_sound h3.1) (fun u hu => by simp [FP.scO] at hu) h3.2 h4
      · exact h.elim
    · exact h.elim
section
variable {G : Ground} {F : Fence} {n : Nat} {Q : Exit → AS → Prop} {s : AS}
theorem T_drO (hF : FOk F) {un : List (List Nat)} {t : TOps} {kp ids : List Nat} {S : AS} (hm : G.P.follows .mixedOrders = true) (h : RunO G.P s 0 un t.flat [] (fun s' => s'.keep kp ids = S) s) (k : Q .normal S) :
    T G F n (.region (some un) t kp ids) Q s := T_good hF hm fun U hU => by
  obtain ⟨R, Z, h1, h2⟩ := runO_sound (P := G.P) (s0 := s) (U := U) t.flat un 0 [] s hU (fun a ha => by simp at ha) h
  exact ⟨R, Z, h1, h2 ▸ k⟩
end
attribute [go_sem] RunO frzN
end Go.AM

namespace Go.AM
open Go Go.Proofs
set_option maxRecDepth 100000
set_option maxHeartbeats 8000000

abbrev sdV (f : FuncId) : PV := .fn fi_infer_sided_1 [] [.box [.fn f [] []]]
def rulesL : List (Int × PV) := [(1, .fn fi_infer_rules_1 [] []), (2, .fn fi_infer_rules_2 [] []), (3, .fn fi_infer_rules_3 [] []), (10, .fn fi_infer_both [] []), (11, .fn fi_infer_both [] []), (12, .fn fi_infer_both [] []), (13, .fn fi_infer_both [] []),
  (20, .fn fi_infer_first [] []), (21, .fn fi_infer_first [] []), (22, .fn fi_infer_first [] []), (23, .fn fi_infer_first [] []), (30, .fn fi_infer_rules_6 [] []), (40, .fn fi_infer_rules_4 [] []), (41, .fn fi_infer_rules_5 [] []),
  (42, sdV fi_infer_part), (43, sdV fi_infer_behind), (50, sdV fi_infer_together), (51, sdV fi_infer_together), (52, sdV fi_infer_together)]
def rulesE : List (Int × Bool × List PV) := rulesL.map fun p => (p.1, false, [p.2])
theorem find_rules (op : Int) : findE op rulesE = (lkI op rulesL).map fun v => (false, [v]) := find_map (fun v : PV => (false, [v])) op rulesL
theorem p_infer_sided (f : FuncId) : PureC Tryz.prog fi_infer_sided [.one (.fn f [] [])] (.one (sdV f)) := by
  refine pure_infer_sided (by simp) fun G hP hn => ?_
  refine go trivial trivial ?_
  exact ends_ret rfl rfl rfl rfl
theorem p_infer_rules : PureC Tryz.prog fi_infer_rules [] (.one (.map rulesE)) := by
  refine pure_infer_rules (by simp) fun G hP hn => ?_
  have k1 := p_infer_sided fi_infer_part
  have k2 := p_infer_sided fi_infer_behind
  have k3 := p_infer_sided fi_infer_together
  refine go trivial (aa k1 <| aa k2 k3) ?_
  exact ends_ret rfl rfl rfl rfl
theorem p_infer_sided_1 {f : FuncId} {F : Nat → List Int → List Int × Bool} (a : List Int) (s : List (List Int)) (p : Int) (r : List Int) (ha : a.length ≤ 64) (hf : ∀ n, n < a.length → PureC Tryz.prog f [dSS (a :: s), dN n, dI r] (dSB (F n r))) :
    PureC Tryz.prog fi_infer_sided_1 [dSS (a :: s), dI (p :: r), .one (.box [.fn f [] []])] (dSB (sidedF (a :: s) (p :: r) F)) := by
  refine pure_infer_sided_1 (by simp) fun G hP hn => ?_
  have e0 : hd (p :: r) 0 = p := rfl
  have g0 : gs (a :: s) 0 = a := rfl
  unfold sidedF
  rw [e0, g0]
  by_cases h1 : p < 0
  · rw [if_pos (.inl h1)]
    refine go h1 trivial ?_
    exact ends_ret rfl rfl rfl rfl
  by_cases h2 : p ≥ (a.length : Int)
  · rw [if_pos (.inr h2)]
    refine go (aa h1 h2) trivial ?_
    exact ends_ret rfl rfl rfl rfl
  rw [if_neg (fun h => h.elim h1 h2)]
  obtain ⟨n, rfl⟩ := Int.eq_ofNat_of_zero_le (by omega : 0 ≤ p)
  have kf := hf n (by omega)
  show T _ _ _ _ _ _
  have e3 : (F (n : Int).toNat (List.tail ((n : Int) :: r))) = F n r := rfl
  rw [e3]
  generalize F n r = R at *
  have e1 : (1 : Int) ≤ ((r.length + 1 : Nat) : Int) := by omega
  have t1 : List.take (r.length + 1 - 1) (rI r) = rI r := List.take_of_length_le (by simp)
  have t2 : List.take r.length (rI r) = rI r := List.take_of_length_le (by simp)
  refine go (aa h1 <| aa h2 <| aa e1 <| aa t1 <| aa t2 @all1) kf ?_
  exact ends_ret rfl rfl rfl rfl
theorem well_len {nums : List Int} {k : Int} (hk : k ≤ 3) (h : wellF nums k = true) : nums.length ≤ 4 := by
  unfold wellF at h
  split at h
  · cases nums with
    | nil => simp
    | cons p r =>
      have := check_len (Bool.and_eq_true .. ▸ h).2
      simp; omega
  · split at h
    · have := check_len h; omega
    · have : (nums.length : Int) = k := by simpa using h
      omega
theorem infer_rule {op : Int} {k : Int × Int} {s : List (List Int)} {nums : List Int} (hk : kindF op = some k) (hl : (s.length : Int) = k.1) (hw : wellF nums k.2 = true) (hs : ∀ x ∈ s, x.length ≤ 64) :
    ∃ f caps, lkI op rulesL = some (.fn f [] caps) ∧ PureC Tryz.prog f ([dSS s, dI nums] ++ caps.map .one) (dSB (ruleF op s nums)) := by
  have hc := kind_cases hk
  simp only [List.mem_cons, Prod.mk.injEq, List.not_mem_nil, or_false] at hc
  have hnl : nums.length ≤ 64 := by
    have : k.2 ≤ 3 := by
      rcases hc with ⟨_, rfl⟩ | ⟨_, rfl⟩ | ⟨_, rfl⟩ | ⟨_, rfl⟩ | ⟨_, rfl⟩ | ⟨_, rfl⟩ | ⟨_, rfl⟩ | ⟨_, rfl⟩ | ⟨_, rfl⟩ | ⟨_, rfl⟩ | ⟨_, rfl⟩ | ⟨_, rfl⟩ | ⟨_, rfl⟩ | ⟨_, rfl⟩ | ⟨_, rfl⟩ | ⟨_, rfl⟩ | ⟨_, rfl⟩ | ⟨_, rfl⟩ | ⟨_, rfl⟩ <;> decide
    have := well_len this hw
    omega
  have one : k.1 = 1 → ∃ a, s = [a] ∧ a.length ≤ 64 := fun h => by
    have : s.length = 1 := by omega
    match s, this, hs with
    | [a], _, hs => exact ⟨a, rfl, hs a (by simp)⟩
  have two : k.1 = 2 → ∃ a b, s = [a, b] ∧ a.length ≤ 64 ∧ b.length ≤ 64 := fun h => by
    have : s.length = 2 := by omega
    match s, this, hs with
    | [a, b], _, hs => exact ⟨a, b, rfl, hs a (by simp), hs b (by simp)⟩
  have num : ∀ m : Int, k.2 = m → m ≠ -2 → m ≠ -1 → (nums.length : Int) = m := fun m h h1 h2 => by
    rw [h] at hw; unfold wellF at hw; rw [if_neg h1, if_neg h2] at hw; simpa using hw
  rcases hc with ⟨rfl, rfl⟩ | ⟨rfl, rfl⟩ | ⟨rfl, rfl⟩ | ⟨rfl, rfl⟩ | ⟨rfl, rfl⟩ | ⟨rfl, rfl⟩ | ⟨rfl, rfl⟩ | ⟨rfl, rfl⟩ | ⟨rfl, rfl⟩ | ⟨rfl, rfl⟩ | ⟨rfl, rfl⟩ | ⟨rfl, rfl⟩ | ⟨rfl, rfl⟩ | ⟨rfl, rfl⟩ | ⟨rfl, rfl⟩ | ⟨rfl, rfl⟩ | ⟨rfl, rfl⟩ | ⟨rfl, rfl⟩ | ⟨rfl, rfl⟩
  · exact ⟨_, _, rfl, p_infer_given s nums hnl⟩
  · cases nums with
    | nil => cases hw
    | cons p r => exact ⟨_, _, rfl, p_infer_param s p r (by simp at hnl; omega)⟩
  · exact ⟨_, _, rfl, p_infer_number s nums⟩
  · obtain ⟨a, b, rfl, _, _⟩ := two rfl; exact ⟨_, _, rfl, p_infer_both a b [] nums⟩
  · obtain ⟨a, b, rfl, _, _⟩ := two rfl; exact ⟨_, _, rfl, p_infer_both a b [] nums⟩
  · obtain ⟨a, b, rfl, _, _⟩ := two rfl; exact ⟨_, _, rfl, p_infer_both a b [] nums⟩
  · obtain ⟨a, b, rfl, _, _⟩ := two rfl; exact ⟨_, _, rfl, p_infer_both a b [] nums⟩
  · obtain ⟨a, rfl, ha⟩ := one rfl; exact ⟨_, _, rfl, p_infer_first a [] nums ha⟩
  · obtain ⟨a, rfl, ha⟩ := one rfl; exact ⟨_, _, rfl, p_infer_first a [] nums ha⟩
  · obtain ⟨a, rfl, ha⟩ := one rfl; exact ⟨_, _, rfl, p_infer_first a [] nums ha⟩
  · obtain ⟨a, rfl, ha⟩ := one rfl; exact ⟨_, _, rfl, p_infer_first a [] nums ha⟩
  · obtain ⟨a, b, rfl, ha, hb⟩ := two rfl; exact ⟨_, _, rfl, p_infer_product a b [] nums ha hb⟩
  · obtain ⟨a, rfl, ha⟩ := one rfl; exact ⟨_, _, rfl, p_infer_again a [] nums hnl⟩
  · obtain ⟨a, rfl, ha⟩ := one rfl; exact ⟨_, _, rfl, p_infer_turn a [] nums ha⟩
  · obtain ⟨a, rfl, ha⟩ := one rfl
    have h3 := num 3 rfl (by decide) (by decide)
    obtain ⟨p, f, t, rfl⟩ : ∃ p f t, nums = [p, f, t] := match nums, h3 with | [p, f, t], _ => ⟨p, f, t, rfl⟩
    exact ⟨_, _, rfl, p_infer_sided_1 (F := partF a) a [] p [f, t] ha fun n hn => p_infer_part a [] n f t ha hn⟩
  · obtain ⟨a, b, rfl, ha, hb⟩ := two rfl
    have h3 := num 1 rfl (by decide) (by decide)
    obtain ⟨p, rfl⟩ : ∃ p, nums = [p] := match nums, h3 with | [p], _ => ⟨p, rfl⟩
    exact ⟨_, _, rfl, p_infer_sided_1 (F := fun n _ => behindF a b n) a [b] p [] ha fun n hn => p_infer_behind a b [] n [] ha hn⟩
  all_goals
    obtain ⟨a, rfl, ha⟩ := one rfl
    have h3 := num 1 rfl (by decide) (by decide)
    obtain ⟨p, rfl⟩ : ∃ p, nums = [p] := match nums, h3 with | [p], _ => ⟨p, rfl⟩
    exact ⟨_, _, rfl, p_infer_sided_1 (F := fun n _ => (a.eraseIdx n, true)) a [] p [] ha fun n hn => p_infer_together a [] n [] ha hn⟩
end Go.AM

namespace Go.AM
open Go Go.Proofs

theorem walkG_append : ∀ (a b : List Nd) (i : Nat) (m : Shs), walkG i m (a ++ b) = (walkG i m a).bind fun m' => walkG (i + a.length) m' b
  | [], b, i, m => rfl
  | n :: a, b, i, m => by
    simp only [List.cons_append, walkG]
    cases stepG i m n with
    | none => rfl
    | some m' => simp only []; rw [walkG_append a b (i + 1) m', List.length_cons]; congr 2; funext x; congr 1; omega
theorem shapesL_len : ∀ (l : List Nd) (out : List (List Int)), (shapesL l out).2.2 = 0 → (shapesL l out).1.length = out.length + l.length ∧ (shapesL l out).2.1 = -1 ∧ (shapesL l out).1.take out.length = out
  | [], out, _ => ⟨rfl, rfl, by simp [shapesL]⟩
  | n :: l, out, h => by
    simp only [shapesL] at h ⊢
    split
    · rename_i h1
      rw [if_pos h1] at h
      obtain ⟨q1, q2, q3⟩ := shapesL_len l _ h
      refine ⟨by rw [q1]; simp; omega, q2, ?_⟩
      have := congrArg (List.take out.length) q3
      rw [List.take_take] at this
      simpa using this
    · rename_i h1; rw [if_neg h1] at h; exact absurd h h1
theorem shapesL_append : ∀ (a b : List Nd) (out : List (List Int)), shapesL (a ++ b) out = if (shapesL a out).2.2 = 0 then shapesL b (shapesL a out).1 else shapesL a out
  | [], b, out => by simp [shapesL]
  | n :: a, b, out => by
    simp only [List.cons_append, shapesL]
    split
    · exact shapesL_append a b _
    · rfl
theorem evLst_len (input : Tn) (ps : List Tn) : ∀ (l : List Nd) (out : List Tn), (evLst input ps l out).2.2 = 0 → (evLst input ps l out).1.length = out.length + l.length ∧ (evLst input ps l out).2.1 = -1 ∧ (evLst input ps l out).1.take out.length = out
  | [], out, _ => ⟨rfl, rfl, by simp [evLst]⟩
  | n :: l, out, h => by
    simp only [evLst] at h ⊢
    split
    · rename_i h1
      rw [if_pos h1] at h
      obtain ⟨q1, q2, q3⟩ := evLst_len input ps l _ h
      refine ⟨by rw [q1]; simp; omega, q2, ?_⟩
      have := congrArg (List.take out.length) q3
      rw [List.take_take] at this
      simpa using this
    · rename_i h1; rw [if_neg h1] at h; exact absurd h h1
theorem evLst_append (input : Tn) (ps : List Tn) : ∀ (a b : List Nd) (out : List Tn), evLst input ps (a ++ b) out = if (evLst input ps a out).2.2 = 0 then evLst input ps b (evLst input ps a out).1 else evLst input ps a out
  | [], b, out => by simp [evLst]
  | n :: a, b, out => by
    simp only [List.cons_append, evLst]
    split
    · exact evLst_append input ps a b _
    · rfl
theorem shapesF_ok {l : List Nd} (h : (shapesF l).2.2 = 0) : checkG l = true ∧ shapesF l = shapesL l [] ∧ (shapesF l).1.length = l.length ∧ (shapesF l).2.1 = -1 := by
  unfold shapesF at h ⊢
  by_cases h1 : checkG l = true
  · rw [if_pos h1] at h ⊢
    obtain ⟨q1, q2, _⟩ := shapesL_len l [] h
    exact ⟨h1, rfl, by simpa using q1, q2⟩
  · rw [if_neg h1] at h; simp at h
theorem evAll_ok {l : List Nd} {input : Tn} {ps : List Tn} (h : (evAll l input ps).2.2 = 0) : (shapesF l).2.2 = 0 ∧ evAll l input ps = evLst input ps l [] ∧ (evAll l input ps).1.length = l.length ∧ (evAll l input ps).2.1 = -1 := by
  unfold evAll at h ⊢
  by_cases h1 : (shapesF l).2.2 = 0
  · rw [if_pos h1] at h ⊢
    obtain ⟨q1, q2, _⟩ := evLst_len input ps l [] h
    exact ⟨h1, rfl, by simpa using q1, q2⟩
  · rw [if_neg h1] at h; exact absurd h h1
theorem both_shapes (input : Tn) (ps : List Tn) : ∀ (l : List Nd) (out : List Tn), (evLst input ps l out).2.2 = 0 → shapesL l (out.map (·.1)) = ((evLst input ps l out).1.map (·.1), -1, 0)
  | [], out, _ => rfl
  | n :: l, out, h => by
    simp only [evLst] at h ⊢
    by_cases h1 : (nodeF n (n.args.map fun a => gT out a.toNat) input ps).2 = 0
    · rw [if_pos h1] at h ⊢
      obtain ⟨_, q2, q3⟩ := nodeF_ok h1
      have e : (n.args.map fun a => gT out a.toNat).map (·.1) = n.args.map (gs (out.map (·.1))) := by
        rw [List.map_map]
        refine List.map_congr_left fun a _ => ?_
        have := gs_map out a.toNat
        simp only [gs, Int.toNat_natCast] at this
        exact this.symm
      rw [e] at q2 q3
      simp only [shapesL]
      rw [if_pos q2, ← q3]
      have := both_shapes input ps l _ h
      rw [List.map_append] at this
      exact this
    · rw [if_neg h1] at h; exact absurd h h1
theorem evAll_shapes {l : List Nd} {input : Tn} {ps : List Tn} (h : (evAll l input ps).2.2 = 0) : (shapesF l).1 = (evAll l input ps).1.map (·.1) := by
  obtain ⟨q1, q2, _⟩ := evAll_ok h
  obtain ⟨_, q3, _⟩ := shapesF_ok q1
  rw [q2] at h
  rw [q3, q2]
  have := both_shapes input ps l [] h
  rw [List.map_nil] at this
  rw [this]
theorem walkG_args : ∀ (l : List Nd) (i : Nat) (m m' : Shs), walkG i m l = some m' → ∀ j (hj : j < l.length), (∀ a ∈ l[j].args, 0 ≤ a ∧ a < ((i + j : Nat) : Int)) ∧ ∃ k, kindF l[j].op = some k ∧ (l[j].args.length : Int) = k.1 ∧ wellF l[j].nums k.2 = true
  | [], i, m, m', _, j, hj => absurd hj (Nat.not_lt_zero _)
  | n :: l, i, m, m', h, j, hj => by
    simp only [walkG] at h
    cases hs : stepG i m n with
    | none => rw [hs] at h; simp at h
    | some m2 =>
      rw [hs] at h
      simp only at h
      cases j with
      | zero =>
        unfold stepG at hs
        cases hk : kindF n.op with
        | none => rw [hk] at hs; simp at hs
        | some k =>
          rw [hk] at hs
          simp only at hs
          split at hs
          · rename_i hc
            refine ⟨fun a ha => ?_, k, hk, hc.1, hc.2.1⟩
            have := List.all_eq_true.1 hc.2.2 a ha
            simpa using this
          · cases hs
      | succ j =>
        have := walkG_args l (i + 1) m2 m' h j (by simpa using hj)
        simp only [List.getElem_cons_succ]
        refine ⟨fun a ha => ?_, this.2⟩
        have := this.1 a ha
        omega
theorem checkG_args {l : List Nd} (h : checkG l = true) {j : Nat} (hj : j < l.length) : (∀ a ∈ l[j].args, 0 ≤ a ∧ a < (j : Int)) ∧ ∃ k, kindF l[j].op = some k ∧ (l[j].args.length : Int) = k.1 ∧ wellF l[j].nums k.2 = true := by
  unfold checkG at h
  simp only [Bool.and_eq_true] at h
  cases hw : walkG 0 [] l with
  | none => rw [hw] at h; simp at h
  | some m =>
    have := walkG_args l 0 [] m hw j hj
    rwa [Nat.zero_add] at this
end Go.AM

namespace Go.AM
open Go Go.Proofs
set_option maxRecDepth 100000
set_option maxHeartbeats 8000000

theorem wf_rows {rows : List (List PV)} (h : AV.wf (.one (.p (.sl rows)))) : rows.length ≤ MaxN := by
  rw [wf_one, wf_sl] at h; exact h.1
theorem nd_some {l : List Nd} {i : Nat} (h : i < l.length) : l[i]? = some l[i] := List.getElem?_eq_getElem h
theorem name_nums {n : Nd} {k : Int × Int} (hk : kindF n.op = some k) (hw : wellF n.nums k.2 = true) : n.op = 2 → 0 < n.nums.length := fun h => by
  rw [h] at hk
  have : k = (0, -2) := by have := hk.symm; rw [show kindF 2 = some (0, -2) from rfl] at this; exact Option.some.inj this
  subst this
  unfold wellF at hw
  simp only [if_true] at hw
  cases hn : n.nums with
  | nil => rw [hn] at hw; cases hw
  | cons p r => simp
theorem p_graph_Check (l : List Nd) (hl : l.length ≤ MaxN) (hl2 : ∀ n ∈ l, n.args.length ≤ MaxN) : PureC Tryz.prog fi_graph_Check [dNds l] (dB (checkG l)) := by
  refine pure_graph_Check (by simp) fun G hP hn => ?_
  have hM : MaxN = 140737488355328 := rfl
  have kk := p_graph_kinds
  refine go trivial kk ?_
  refine T_for l.length (fun i (m : Shs) => { env := [(0, .one (.p (.sl (l.map rNd)))), (3, .one (.p (.map kindsE))), (4, .one (.mmap 15)), (16, .one (.p (.sl (l.map rNd)))), (17, .one (.p (.int .i64 l.length))), (18, .one (.p (.int .i64 i)))], σ := [(15, .map true (eM m))] })
    (fun i m => walkG i m (l.drop i) = walkG 0 [] l) [] rfl ?_ fun i m hi hinv => ?_
  · refine Weak.sub fun q hq => ?_
    simp only [List.mem_cons, List.not_mem_nil, or_false] at hq
    subst hq; rfl
  by_cases hlt : i < l.length
  rotate_left
  · have c1 : ¬ (i : Int) < l.length := by omega
    rw [List.drop_of_length_le (by omega)] at hinv
    simp only [walkG] at hinv
    have hr : checkG l = decide (0 < l.length ∧ l.length ≤ 24) := by unfold checkG; rw [← hinv]; rfl
    rw [hr]
    by_cases h0 : 0 < l.length
    · have q0 : (l.length : Int) > 0 := by omega
      by_cases h24 : l.length ≤ 24
      · have q1 : (l.length : Int) ≤ 24 := by omega
        rw [decide_eq_true ⟨h0, h24⟩]
        refine go (aa c1 <| aa q0 q1) trivial ?_
        exact ends_ret rfl rfl rfl rfl
      · have q1 : ¬ (l.length : Int) ≤ 24 := by omega
        rw [decide_eq_false (fun h => h24 h.2)]
        refine go (aa c1 <| aa q0 q1) trivial ?_
        exact ends_ret rfl rfl rfl rfl
    · have q0 : ¬ (l.length : Int) > 0 := by omega
      rw [decide_eq_false (fun h => h0 h.1)]
      refine go (aa c1 q0) trivial ?_
      exact ends_ret rfl rfl rfl rfl
  have c1 : (i : Int) < l.length := by omega
  have w1 : IntKind.i64.wrap ((i : Int) + 1) = ((i + 1 : Nat) : Int) := by rw [wrap_in (by omega) (by omega)]; rfl
  have hx := nd_some hlt
  have ha := hl2 l[i] (List.getElem_mem hlt)
  rw [List.drop_eq_getElem_cons hlt] at hinv
  generalize l[i] = n at *
  simp only [walkG] at hinv
  have stop : stepG i m n = none → checkG l = false := fun h => by unfold checkG; rw [← hinv, h]; rfl
  have hfind := find_kinds n.op
  cases hk : kindF n.op with
  | none =>
    have hs : stepG i m n = none := by unfold stepG; rw [hk]
    rw [stop hs]
    rw [hk, Option.map_none] at hfind
    clear hs stop hk hinv
    obtain ⟨op, args, nums⟩ := n
    simp only at hfind ha
    refine go (aa c1 <| aa hx <| aa hlt hfind) trivial ?_
    exact ends_ret rfl rfl rfl rfl
  | some k =>
  rw [hk, Option.map_some] at hfind
  by_cases h1 : (n.args.length : Int) = k.1
  rotate_left
  · have hs : stepG i m n = none := by unfold stepG; rw [hk]; simp only; rw [if_neg (fun h => h1 h.1)]
    rw [stop hs]
    clear hs stop hk hinv
    obtain ⟨op, args, nums⟩ := n
    obtain ⟨k1, k2⟩ := k
    simp only at hfind ha h1
    have e1 : ((args.length : Int) != k1) = true := by simp [h1]
    refine go (aa c1 <| aa hx <| aa hlt <| aa hfind e1) trivial ?_
    exact ends_ret rfl rfl rfl rfl
  have e1 : ((n.args.length : Int) != k.1) = false := by simp [h1]
  have kw := p_graph_well n k.1 k.2
  cases h2 : wellF n.nums k.2
  · have hs : stepG i m n = none := by unfold stepG; rw [hk]; simp only; rw [if_neg (fun h => by rw [h2] at h; exact absurd h.2.1 (by simp))]
    rw [stop hs]
    rw [h2] at kw
    clear hs stop hk hinv
    obtain ⟨op, args, nums⟩ := n
    obtain ⟨k1, k2⟩ := k
    simp only at hfind ha h1 e1
    refine go (aa c1 <| aa hx <| aa hlt <| aa hfind e1) kw ?_
    exact ends_ret rfl rfl rfl rfl
  rw [h2] at kw
  have kc := p_slices_ContainsFunc (f := fi_graph_Check_1) (caps := [.box [.int .i64 (i : Int)]]) n.args (fun a => !decide (0 ≤ a ∧ a < (i : Int))) ha (fun x _ => p_graph_Check_1 x i)
  have hany : n.args.any (fun a => !decide (0 ≤ a ∧ a < (i : Int))) = !n.args.all (fun a => decide (0 ≤ a ∧ a < (i : Int))) := by rw [List.any_eq_not_all_not]; simp
  rw [hany] at kc
  cases h3 : n.args.all (fun a => decide (0 ≤ a ∧ a < (i : Int)))
  · have hs : stepG i m n = none := by unfold stepG; rw [hk]; simp only; rw [if_neg (fun h => by rw [h3] at h; exact absurd h.2.2 (by simp))]
    rw [stop hs]
    rw [h3] at kc
    clear hs stop hk hinv hany h3
    obtain ⟨op, args, nums⟩ := n
    obtain ⟨k1, k2⟩ := k
    simp only at hfind ha h1 e1
    refine go (aa c1 <| aa hx <| aa hlt <| aa hfind e1) (aa kw kc) ?_
    exact ends_ret rfl rfl rfl rfl
  rw [h3] at kc
  have hstep : stepG i m n = if (nameF n).2 = true then (match lkI (nameF n).1 m with
        | some s => if sameL s n.nums = true then some (putI (nameF n).1 n.nums m) else none
        | none => some (putI (nameF n).1 n.nums m)) else some m := by unfold stepG; rw [hk]; simp only; rw [if_pos ⟨h1, h2, h3⟩]; rfl
  have kn := p_graph_name n (name_nums hk h2)
  clear hany h3 h2 hk
  generalize hnm : nameF n = nm at *
  obtain ⟨at_, named⟩ := nm
  cases named
  · simp only [Bool.false_eq_true, if_false] at hstep
    rw [hstep] at hinv
    obtain ⟨op, args, nums⟩ := n
    obtain ⟨k1, k2⟩ := k
    simp only at hfind ha h1 e1
    refine go (aa c1 <| aa hx <| aa hlt <| aa hfind <| aa e1 w1) (aa kw <| aa kc kn) ?_
    refine rnd_next hlt m hinv (Weak.sub fun q hq => ?_)
    simp only [List.mem_cons, List.not_mem_nil, or_false] at hq
    subst hq; rfl
  simp only [if_true] at hstep
  have hfm := find_eM at_ m
  cases hlk : lkI at_ m with
  | none =>
    rw [hlk] at hstep
    simp only at hstep
    rw [hstep] at hinv
    rw [hlk, Option.map_none] at hfm
    obtain ⟨op, args, nums⟩ := n
    obtain ⟨k1, k2⟩ := k
    simp only at hfind ha h1 e1 hinv
    refine go (aa c1 <| aa hx <| aa hlt <| aa hfind <| aa e1 <| aa w1 hfm) (aa kw <| aa kc kn) ?_
    refine rnd_next hlt (putI at_ nums m) hinv (Weak.sub fun q hq => ?_)
    simp only [List.mem_cons, List.not_mem_nil, or_false] at hq
    subst hq
    show AO.map true (putM at_ (false, [eI nums]) (eM m)) = _
    rw [put_eM]
  | some s =>
    rw [hlk] at hstep
    simp only at hstep
    rw [hlk, Option.map_some] at hfm
    have ke := p_slices_Equal s n.nums
    cases hsm : sameL s n.nums
    · rw [hsm] at hstep ke
      simp only [Bool.false_eq_true, if_false] at hstep
      rw [stop hstep]
      obtain ⟨op, args, nums⟩ := n
      obtain ⟨k1, k2⟩ := k
      simp only at hfind ha h1 e1
      clear hstep stop hinv hnm
      refine go (aa c1 <| aa hx <| aa hlt <| aa hfind <| aa e1 hfm) (aa kw <| aa kc <| aa kn ke) ?_
      exact ends_ret rfl rfl rfl rfl
    · rw [hsm] at hstep ke
      simp only [if_true] at hstep
      rw [hstep] at hinv
      obtain ⟨op, args, nums⟩ := n
      obtain ⟨k1, k2⟩ := k
      simp only at hfind ha h1 e1 hinv
      refine go (aa c1 <| aa hx <| aa hlt <| aa hfind <| aa e1 <| aa w1 hfm) (aa kw <| aa kc <| aa kn ke) ?_
      refine rnd_next hlt (putI at_ nums m) hinv (Weak.sub fun q hq => ?_)
      simp only [List.mem_cons, List.not_mem_nil, or_false] at hq
      subst hq
      show AO.map true (putM at_ (false, [eI nums]) (eM m)) = _
      rw [put_eM]
end Go.AM

namespace Go.AM
open Go Go.Proofs
set_option maxRecDepth 100000
set_option maxHeartbeats 8000000

theorem p_infer_Node_1 (s : List Int) : PureC Tryz.prog fi_infer_Node_1 [dI s] (dB (!checkS s)) := by
  refine pure_infer_Node_1 (by simp) fun G hP hn => ?_
  have kc := p_shape_Check s
  refine go trivial kc ?_
  exact ends_ret rfl rfl rfl rfl
theorem check_alone {op : Int} {nums z : List Int} {k : Int × Int} (hk : kindF op = some k) (hz : (z.length : Int) = k.1) (h0 : ∀ a ∈ z, a = 0) : checkG [⟨3, [], [0]⟩, ⟨op, z, nums⟩] = wellF nums k.2 := by
  have e1 : stepG 0 [] ⟨3, [], [0]⟩ = some [] := rfl
  have e2 : stepG 1 [] ⟨op, z, nums⟩ = if wellF nums k.2 = true then (if (nameF ⟨op, z, nums⟩).2 = true then some [((nameF ⟨op, z, nums⟩).1, nums)] else some []) else none := by
    unfold stepG
    simp only [hk]
    have hall : z.all (fun a => decide (0 ≤ a ∧ a < ((1 : Nat) : Int))) = true := List.all_eq_true.2 fun a ha => by rw [h0 a ha]; rfl
    by_cases hw : wellF nums k.2 = true
    · rw [if_pos ⟨hz, hw, hall⟩, if_pos hw]
      rfl
    · rw [if_neg (fun h => hw h.2.1), if_neg hw]
  unfold checkG
  simp only [walkG, e1, Nat.zero_add, e2]
  cases hw : wellF nums k.2
  · simp
  · simp only [if_true]
    generalize nameF ⟨op, z, nums⟩ = nm
    obtain ⟨x, b⟩ := nm
    cases b <;> rfl
theorem inferF_no {op : Int} {nums : List Int} {s : List (List Int)} (h : inferOk op nums s = false) : inferF op nums s = ([], 20) := by unfold inferF; rw [h]; rfl
theorem arity_of {op : Int} {k : Int × Int} (hk : kindF op = some k) : k.1 = 0 ∨ k.1 = 1 ∨ k.1 = 2 := by
  have hc := kind_cases hk
  simp only [List.mem_cons, Prod.mk.injEq, List.not_mem_nil, or_false] at hc
  rcases hc with ⟨_, rfl⟩ | ⟨_, rfl⟩ | ⟨_, rfl⟩ | ⟨_, rfl⟩ | ⟨_, rfl⟩ | ⟨_, rfl⟩ | ⟨_, rfl⟩ | ⟨_, rfl⟩ | ⟨_, rfl⟩ | ⟨_, rfl⟩ | ⟨_, rfl⟩ | ⟨_, rfl⟩ | ⟨_, rfl⟩ | ⟨_, rfl⟩ | ⟨_, rfl⟩ | ⟨_, rfl⟩ | ⟨_, rfl⟩ | ⟨_, rfl⟩ | ⟨_, rfl⟩ <;> decide
theorem p_infer_Node (n : Nd) (s : List (List Int)) (hs : s.length ≤ MaxN) : PureC Tryz.prog fi_infer_Node [dNd n, dSS s] (.tup [dI (inferF n.op n.nums s).1, dN (inferF n.op n.nums s).2]) := by
  refine pure_infer_Node (by simp) fun G hP hn => ?_
  obtain ⟨op, args, nums⟩ := n
  simp only
  have ka := p_graph_Arity op
  cases hk : kindF op with
  | none =>
    have e : inferF op nums s = ([], 20) := inferF_no (by unfold inferOk; rw [hk])
    have ea : arityF op = -1 := by unfold arityF; rw [hk]
    rw [ea] at ka
    rw [e]
    have e1 : ((s.length : Int) != -1) = true := bne_iff_ne.2 (by omega)
    refine go trivial trivial ?_
    apply T_drO fw (by rw [hP]; rfl)
    · simp only [go_sem, seval, reduceIte, ↓reduceIte, bne, beq_false, beq_true, Bool.not_eq_true, Bool.if_true_right, decide_not, reduceCtorEq, hP, hn]
      refine .inl ⟨_, ⟨_, _, _, _, _, _, rfl, rfl, rfl, ka⟩, ?_⟩
      simp only [go_sem, seval, reduceIte, ↓reduceIte, bne, beq_false, beq_true, Bool.not_eq_true, Bool.if_true_right, decide_not, reduceCtorEq, hP, hn]
      exact rfl
    refine go e1 ka ?_
    exact ends_ret rfl rfl rfl rfl
  | some k =>
  have ea : arityF op = k.1 := by unfold arityF; rw [hk]
  rw [ea] at ka
  obtain ⟨z, hz, h0, hzz⟩ : ∃ z : List Int, (z.length : Int) = k.1 ∧ (∀ a ∈ z, a = 0) ∧ (z = [] ∧ k.1 = 0 ∨ z = [0] ∧ k.1 = 1 ∨ z = [0, 0] ∧ k.1 = 2) := by
    rcases arity_of hk with h | h | h
    · exact ⟨[], by rw [h]; rfl, by simp, .inl ⟨rfl, h⟩⟩
    · exact ⟨[0], by rw [h]; rfl, by simp, .inr (.inl ⟨rfl, h⟩)⟩
    · exact ⟨[0, 0], by rw [h]; rfl, by simp, .inr (.inr ⟨rfl, h⟩)⟩
  have kG := p_graph_Check [⟨3, [], [0]⟩, ⟨op, z, nums⟩] (by show 2 ≤ _; decide) (fun n hn => by
    have hM : MaxN = 140737488355328 := rfl
    have := arity_of hk
    simp only [List.mem_cons, List.not_mem_nil, or_false] at hn
    rcases hn with rfl | rfl
    · exact Nat.zero_le _
    · show z.length ≤ _; omega)
  rw [check_alone hk hz h0] at kG
  have kF := p_slices_ContainsFuncL (f := fi_infer_Node_1) (caps := []) s (fun x => !checkS x) hs (fun x _ => p_infer_Node_1 x)
  have hany : s.any (fun x => !checkS x) = !s.all checkS := by rw [List.any_eq_not_all_not]; simp
  rw [hany] at kF
  have kR := p_infer_rules
  have hfind := find_rules op
  have hI : inferOk op nums s = (decide ((s.length : Int) = k.1) && (wellF nums k.2 && (s.all checkS && (ruleF op s nums).2))) := by unfold inferOk; rw [hk]
  have hF1 : (s.length : Int) ≠ k.1 → inferF op nums s = ([], 20) := fun h => inferF_no (by rw [hI, decide_eq_false h]; rfl)
  have hF2 : (s.length : Int) = k.1 → wellF nums k.2 = false → inferF op nums s = ([], 20) := fun h h2 => inferF_no (by rw [hI, h2, decide_eq_true h]; rfl)
  have hF3 : s.all checkS = false → inferF op nums s = ([], 20) := fun h => inferF_no (by rw [hI, h]; simp)
  have hF4 : (s.length : Int) = k.1 → wellF nums k.2 = true → s.all checkS = true → (∃ f caps, lkI op rulesL = some (.fn f [] caps) ∧ PureC Tryz.prog f ([dSS s, dI nums] ++ caps.map .one) (dSB (ruleF op s nums))) ∧ inferF op nums s = if (ruleF op s nums).2 = true then ((ruleF op s nums).1, 0) else ([], 20) := fun h1 h2 h3 =>
    ⟨infer_rule hk h1 h2 (fun x hx => by have := check_len (List.all_eq_true.1 h3 x hx); omega), by unfold inferF; rw [hI, decide_eq_true h1, h2, h3]; rfl⟩
  clear hI hany hk ea hz h0
  obtain ⟨k1, k2⟩ := k
  simp only at hzz ka kG hF1 hF2 hF4
  generalize inferF op nums s = I at *
  generalize wellF nums k2 = W at *
  generalize s.all checkS = C at *
  have hE : (s.length : Int) = k1 ∨ (s.length : Int) ≠ k1 := Classical.em _
  rcases hzz with ⟨rfl, rfl⟩ | ⟨rfl, rfl⟩ | ⟨rfl, rfl⟩
  all_goals
    refine go trivial trivial ?_
    apply T_drO fw (by rw [hP]; rfl)
    · simp only [go_sem, seval, reduceIte, ↓reduceIte, bne, beq_false, beq_true, Bool.not_eq_true, Bool.if_true_right, decide_not, reduceCtorEq, hP, hn]
      refine .inl ⟨_, ⟨_, _, _, _, _, _, rfl, rfl, rfl, ka⟩, ?_⟩
      simp only [go_sem, seval, reduceIte, ↓reduceIte, bne, beq_false, beq_true, Bool.not_eq_true, Bool.if_true_right, decide_not, reduceCtorEq, hP, hn]
      exact rfl
  all_goals
    rcases hE with h1 | h1
    rotate_left
    · rw [hF1 h1]
      have e1 := bne_iff_ne.2 h1
      clear hF1 hF2 hF3 hF4 kF kG kR hfind
      refine go e1 ka ?_
      exact ends_ret rfl rfl rfl rfl
    have e1 := bne_eq_false_iff_eq.2 h1
    cases W
    · rw [hF2 h1 rfl]
      clear hF1 hF2 hF3 hF4 kF kR hfind
      refine go e1 (aa ka kG) ?_
      exact ends_ret rfl rfl rfl rfl
    cases C
    · rw [hF3 rfl]
      clear hF1 hF2 hF3 hF4 kR hfind
      refine go e1 (aa ka <| aa kG kF) ?_
      exact ends_ret rfl rfl rfl rfl
    obtain ⟨⟨f, caps, hlk, kW⟩, hF⟩ := hF4 h1 rfl rfl
    rw [hlk, Option.map_some] at hfind
    rw [hF]
    clear hF1 hF2 hF3 hF4 hF hlk
    generalize ruleF op s nums = R at *
    obtain ⟨R1, R2⟩ := R
    simp only at kW ⊢
    cases R2
    · refine go (aa e1 hfind) (aa ka <| aa kG <| aa kF <| aa kR kW) ?_
      exact ends_ret rfl rfl rfl rfl
    · refine go (aa e1 hfind) (aa ka <| aa kG <| aa kF <| aa kR kW) ?_
      exact ends_ret rfl rfl rfl rfl
end Go.AM

namespace Go.AM
open Go Go.Proofs
set_option maxRecDepth 100000
set_option maxHeartbeats 8000000

theorem ends_list3 {rv : List RV} {s : AS} {t k len : Nat} {cap : Option Nat} {m : Bool} {rows : List (List PV)} {v w : PV} (h1 : evRV rv s.env s.σ = some [.one (.msl t 0 k len cap), .one (.p v), .one (.p w)]) (h2 : lo s.σ t = .arr m k rows) (hl : len = rows.length) :
    Ends rv (.tup [.one (.sl rows), .one v, .one w]) .ret s :=
  ends_ret (ds := [.one (.sl rows), .one v, .one w]) (σ' := if m then (t, .arr false k rows) :: s.σ else s.σ) h1 (by
    have e1 := toD_list (n := 5) (cap := cap) h2 hl
    simp only [toDs, toD, e1]; rfl) rfl rfl
theorem gs_get {s : List (List Int)} {m : Nat} (h : m < s.length) : s[m]? = some (gs s m) := by unfold gs; rw [Int.toNat_natCast, List.getElem?_eq_getElem h]; rfl
theorem arity_le {n : Nd} {k : Int × Int} (hk : kindF n.op = some k) (h : (n.args.length : Int) = k.1) : n.args.length ≤ 2 := by
  have := arity_of hk; omega
theorem checkG_len {l : List Nd} (h : checkG l = true) : l.length ≤ 24 := by
  unfold checkG at h
  simp only [Bool.and_eq_true, decide_eq_true_eq] at h
  exact h.2.2
theorem p_infer_Shapes (l : List Nd) (hl : l.length ≤ MaxN) (hl2 : ∀ n ∈ l, n.args.length ≤ MaxN) : PureC Tryz.prog fi_infer_Shapes [dNds l] (.tup [dSS (shapesF l).1, dN (shapesF l).2.1, dN (shapesF l).2.2]) := by
  refine pure_infer_Shapes (by simp) fun G hP hn => ?_
  have hM : MaxN = 140737488355328 := rfl
  have kc := p_graph_Check l hl hl2
  unfold shapesF
  cases hc : checkG l
  · rw [hc] at kc
    rw [if_neg (by simp)]
    refine go trivial kc ?_
    exact ends_ret rfl rfl rfl rfl
  rw [hc] at kc
  rw [if_pos rfl]
  have hargs := fun (j : Nat) (hj : j < l.length) => checkG_args hc hj
  have h24 := checkG_len hc
  refine go trivial kc ?_
  refine T_nils 2 100 1 rfl rfl rfl ?_
  refine T_for l.length (fun i (out : List (List Int)) => { env := [(2, .one (.msl 100 0 1 i none)), (3, .one (.p (.int .i64 (-1)))), (4, .one (.p (.int .i64 0))), (15, .one (.p (.sl (l.map rNd)))), (16, .one (.p (.int .i64 l.length))), (17, .one (.p (.int .i64 i)))], σ := [(100, .arr true 1 (rS out))] })
    (fun i out => out.length = i ∧ shapesL (l.drop i) out = shapesL l []) [] ⟨rfl, rfl⟩ ?_ fun i out hi hinv => ?_
  · refine (Weak.pick [2, 3, 4, 15, 16, 17]).trans (Weak.sub fun q hq => ?_)
    simp only [List.mem_cons, List.not_mem_nil, or_false] at hq
    rcases hq with rfl <;> rfl
  obtain ⟨hol, hinv⟩ := hinv
  by_cases hlt : i < l.length
  rotate_left
  · have c1 : ¬ (i : Int) < l.length := by omega
    rw [List.drop_of_length_le (by omega)] at hinv
    simp only [shapesL] at hinv
    rw [← hinv]
    refine go c1 trivial ?_
    exact ends_list3 rfl rfl (by simp [hol])
  have c1 : (i : Int) < l.length := by omega
  have w1 : IntKind.i64.wrap ((i : Int) + 1) = ((i + 1 : Nat) : Int) := by rw [wrap_in (by omega) (by omega)]; rfl
  have hx := nd_some hlt
  obtain ⟨hb, k, hk, hkl, _⟩ := hargs i hlt
  have h2 := arity_le hk hkl
  rw [List.drop_eq_getElem_cons hlt] at hinv
  generalize l[i] = n at *
  obtain ⟨op, args, nums⟩ := n
  simp only [shapesL] at hinv
  simp only at hb h2
  clear hk hkl kc hc hargs
  refine go (aa c1 <| aa hx hlt) trivial ?_
  refine T_nils 7 101 1 rfl rfl rfl ?_
  refine T_for args.length (fun j (acc : List (List Int)) => { env := [(2, .one (.msl 100 0 1 i none)), (3, .one (.p (.int .i64 (-1)))), (4, .one (.p (.int .i64 0))), (5, .one (.p (.int .i64 i))), (6, .one (.ptr 6 0 3 0)), (7, .one (.msl 101 0 1 j none)), (15, .one (.p (.sl (l.map rNd)))), (16, .one (.p (.int .i64 l.length))), (17, .one (.p (.int .i64 i))), (23, .one (.p (eI args))), (24, .one (.p (.int .i64 args.length))), (25, .one (.p (.int .i64 j)))], σ := [(100, .arr true 1 (rS out)), (6, .cells true [.p (.int .i64 op), .p (eI args), .p (eI nums)]), (101, .arr true 1 (rS acc))] })
    (fun j acc => acc = (args.take j).map (gs out)) [] (by simp) ?_ fun j acc hj hacc => ?_
  · refine (Weak.pick [2, 3, 4, 5, 6, 7, 15, 16, 17, 23, 24, 25]).trans (Weak.sub fun q hq => ?_)
    simp only [List.mem_cons, List.not_mem_nil, or_false] at hq
    rcases hq with rfl | rfl | rfl <;> rfl
  have hal : acc.length = j := by rw [hacc, List.length_map, List.length_take]; omega
  by_cases hlj : j < args.length
  · have d1 : (j : Int) < args.length := by omega
    have v1 : IntKind.i64.wrap ((j : Int) + 1) = ((j + 1 : Nat) : Int) := by rw [wrap_in (by omega) (by omega)]; rfl
    have ha := hb args[j] (List.getElem_mem hlj)
    obtain ⟨m, hm⟩ := Int.eq_ofNat_of_zero_le ha.1
    have hy : args[j]? = some (m : Int) := by rw [List.getElem?_eq_getElem hlj, hm]
    have hmi : m < i := by omega
    have d2 : (m : Int) < i := by omega
    have hg := gs_get (s := out) (m := m) (by omega)
    have hn1 : acc ++ [gs out m] = (args.take (j + 1)).map (gs out) := by rw [List.take_add_one, hy, List.map_append, hacc]; rfl
    have c4 : (j + 1) * 24 ≤ 2 ^ 40 := by omega
    have c5 : j + 1 ≤ 2 ^ 40 := by omega
    have hmo : m < out.length := by omega
    generalize gs out m = z at *
    refine go (aa d1 <| aa v1 <| aa hlj <| aa hy <| aa hmi <| aa d2 <| aa hg <| aa hmo <| aa hal <| aa c4 c5) trivial ?_
    refine rnd_next hlj (acc ++ [z]) hn1 (Weak.sub fun q hq => ?_)
    simp only [List.mem_cons, List.not_mem_nil, or_false] at hq
    rcases hq with rfl | rfl | rfl
    · rfl
    · rfl
    · simp [lo, rS]
  obtain rfl : j = args.length := by omega
  rw [List.take_length] at hacc
  have d1 : ¬ (args.length : Int) < args.length := by omega
  have kN := p_infer_Node ⟨op, args, nums⟩ acc (by omega)
  simp only at kN
  rw [← hacc] at hinv
  refine T_weak (Weak.freeze (i := 7) rfl (toD_list (n := 5) rfl (by simp [hal]))) ?_
  simp only [lo, Nat.reduceEqDiff, if_true, if_false, if_pos]
  generalize inferF op nums acc = R at *
  obtain ⟨R1, R2⟩ := R
  simp only at kN hinv
  by_cases he : R2 = 0
  · subst he
    rw [if_pos rfl] at hinv
    have c4 : (i + 1) * 24 ≤ 2 ^ 40 := by omega
    have c5 : i + 1 ≤ 2 ^ 40 := by omega
    refine go (aa d1 <| aa w1 <| aa hol <| aa c4 c5) kN ?_
    refine rnd_next hlt (out ++ [R1]) ⟨by simp [hol], hinv⟩ (Weak.sub fun q hq => ?_)
    simp only [List.mem_cons, List.not_mem_nil, or_false] at hq
    rcases hq with rfl
    simp [lo, rS]
  · rw [if_neg he] at hinv
    have e1 : (R2 != 0) = true := by simp [he]
    rw [← hinv, hol]
    refine go (aa d1 e1) kN ?_
    exact ends_ret rfl rfl rfl rfl
end Go.AM

