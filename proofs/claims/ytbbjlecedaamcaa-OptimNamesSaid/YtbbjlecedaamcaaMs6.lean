import Derived.Test.YtbbjlecedaamcaaMs5
import Derived.OrdersIn
import Derived.RangeFuncCalls
set_option linter.unusedVariables false
set_option linter.unusedSimpArgs false
namespace Go.AM
open Go.RowKit (Below)

def foldP (f : AC → Sto → Option (PV × Sto)) : List AC → Sto → Option (List PV × Sto)
  | [], σ => some ([], σ)
  | c :: cs, σ => match f c σ with
    | some (v, σ1) => match foldP f cs σ1 with
      | some (vs, σ2) => some (v :: vs, σ2)
      | none => none
    | none => none
def toP : Nat → AC → Sto → Option (PV × Sto)
  | 0, _, _ => none
  | n + 1, c, σ => match c with
    | .p v => some (v, σ)
    | .nils => some (.sl [], σ)
    | .msl t o s len _ => match lo σ t with
      | .arr m s' rows => if s' = s ∧ o + len ≤ rows.length then some (.sl ((rows.drop o).take len), if m then (t, .arr false s rows) :: σ else σ) else none
      | _ => none
    | .ptr t i s off => match lo σ t with
      | .cells m cs => if i = 0 then (match foldP (toP n) cs σ with
        | some (vs, σ1) => (match lo σ1 t with
          | .cells m1 cs1 => some (.box (vs.drop off), if m1 then (t, .cells false (vs.map .p)) :: σ1 else σ1)
          | _ => none)
        | none => none) else none
      | .arr m s' rows => if s' = s then (match rows[i]? with
        | some _ => some (.box (rows.flatten.drop (i * s + off)), if m then (t, .arr false s rows) :: σ else σ)
        | none => none) else none
      | _ => none
    | .mmap t => match lo σ t with
      | .map m es => some (.map es, if m then (t, .map false es) :: σ else σ)
      | _ => none
    | .mfn f first caps => match foldP (toP n) first σ with
      | some (us, σ1) => match foldP (toP n) caps σ1 with
        | some (vs, σ2) => some (.fn f us vs, σ2)
        | none => none
      | none => none
    | .raw _ => none
section frz
variable {P : Program} {G : Ground} {s : AS} {a : Act} {w : World} {A : Nat → Prop} {τ : Tau}
theorem C0.wider {A' : Nat → Prop} (hA : ∀ b, A b → A' b) {c : AC} {x : Value} (h : C0 A τ w c x) : C0 A' τ w c x :=
  h.step (WStep.refl w) hA (fun _ _ => rfl) (fun _ _ => rfl)
theorem CRel.wider {A' : Nat → Prop} (hA : ∀ b, A b → A' b) {c : AC} {x : Value} (h : CRel A τ w c x) : CRel A' τ w c x :=
  h.step (WStep.refl w) hA (fun _ _ => rfl) (fun _ _ => rfl)
theorem VRel.wider {A' : Nat → Prop} (hA : ∀ b, A b → A' b) {c : AV} {x : Value} (h : VRel A τ w c x) : VRel A' τ w c x :=
  h.step (WStep.refl w) hA (fun _ _ => rfl) (fun _ _ => rfl)
theorem PRel.wider {A' : Nat → Prop} (hA : ∀ b, A b → A' b) {c : PV} {x : Value} (h : PRel A w c x) : PRel A' w c x := h.mono hA (fun _ _ => rfl)
theorem SimAt.freeze (h : SimAt G s a w A τ) {t b : Nat} (hne : lo s.σ t ≠ .none) (hb : τ t = some b) (hAb : (lo s.σ t).mu = false → A b) (hnd : ∀ ds, w.heap[b]? ≠ some (.deferred ds)) {o' : AO}
    (hmu : o'.mu = false) (ho' : ORel G.M (fun k => A k ∨ k = b) τ w t o') : SimAt G { s with σ := (t, o') :: s.σ } a w (fun k => A k ∨ k = b) τ := by
  have hA : ∀ k, A k → A k ∨ k = b := fun k hk => .inl hk
  have hlt := live_lt h hne hb
  have notb : ∀ u k, lo s.σ u ≠ .none → u ≠ t → (lo s.σ u).mu = true → τ u = some k → ¬ (A k ∨ k = b) := by
    intro u k hu hut hm hk hc
    have hu2 := (mut_own h hm hk).2
    rcases hc with hc | rfl
    · exact hu2 hc
    · exact h.sep u t k hu hne hut hm hk hb
  refine ⟨h.below, fun k hk => .inl (h.a0 k hk), fun k hk => ?_, fun k hk => ?_, h.size, fun i => (h.env i).wider hA, fun u => ?_, ?_, h.ex.mono fun _ _ hv => hv.wider hA, ?_⟩
  · rcases hk with hk | rfl
    · exact h.a1 k hk
    · cases hm : (lo s.σ t).mu with
      | true => exact .inr (mut_own h hm hb).1
      | false => exact h.a1 k (hAb hm)
  · rcases hk with hk | rfl
    · exact h.alt k hk
    · exact hlt
  · rw [lo_put]
    by_cases hu : u = t
    · subst hu; rw [if_pos rfl]; exact ho'
    · rw [if_neg hu]
      have hu0 := h.obj u
      have fixm : ∀ (m : Bool) (k : Nat), (lo s.σ u ≠ .none) → (lo s.σ u).mu = m → τ u = some k → (if m then G.M k ∧ ¬ A k else A k) → (if m then G.M k ∧ ¬ (A k ∨ k = b) else (A k ∨ k = b)) := by
        intro m k h1 h2 h3 h4
        cases m
        · exact .inl h4
        · exact ⟨h4.1, notb u k h1 hu h2 h3⟩
      cases ho : lo s.σ u with
      | none => trivial
      | cells m cs =>
        rw [ho] at hu0
        obtain ⟨k, xs, e, g1, g2, g3, g4⟩ := hu0
        refine ⟨k, xs, e, g1, g2, g3.mono fun _ _ hc => hc.wider hA, ?_⟩
        cases m
        · exact ⟨.inl g4.1, g4.2⟩
        · exact ⟨g4.1, notb u k (by rw [ho]; simp) hu (by rw [ho]; rfl) g1⟩
      | arr m k rows =>
        rw [ho] at hu0
        obtain ⟨g0, gl, g⟩ := hu0
        refine ⟨g0, gl, ?_⟩
        rcases g with g | ⟨k, xs, e, g1, g2, g3, g4, g5⟩
        · exact .inl g
        · exact .inr ⟨k, xs, e, g1, g2, g3, PAt.of_get fun i v hi => by
            obtain ⟨x, hx, hr⟩ := g4.get i v hi
            exact ⟨x, hx, hr.wider hA⟩, fixm m k (by rw [ho]; simp) (by rw [ho]; rfl) g1 g5⟩
      | map m es =>
        rw [ho] at hu0
        obtain ⟨k, ces, cl, g1, g2, g3, g4⟩ := hu0
        exact ⟨k, ces, cl, g1, g2, Rel.mono hA (fun _ _ => rfl) g3, fixm m k (by rw [ho]; simp) (by rw [ho]; rfl) g1 g4⟩
  · intro u u' k h1 h2 hne' hm hk
    simp only [lo_put] at h1 h2 hm
    by_cases hu : u = t
    · subst hu; rw [if_pos rfl, hmu] at hm; cases hm
    · rw [if_neg hu] at h1 hm
      by_cases hu' : u' = t
      · subst hu'; exact h.sep u u' k h1 hne hne' hm hk
      · rw [if_neg hu'] at h2
        exact h.sep u u' k h1 h2 hne' hm hk
  · have : ∀ ds, Marks G.N A w ds → Marks G.N (fun k => A k ∨ k = b) w ds := by
      intro ds
      induction ds with
      | nil => intro _; trivial
      | cons d ds ih =>
        rintro ⟨⟨r, e1, e2, e3, e4, e5⟩, ht⟩
        exact ⟨⟨r, e1, e2, fun hc => hc.elim e3 (fun e => hnd _ (e ▸ e4)), e4, e5⟩, ih ht⟩
    exact this _ h.marks
def Frz (G : Ground) (a : Act) (w : World) (A : Nat → Prop) (τ : Tau) (s : AS) (σ' : Sto) (K : (Nat → Prop) → Prop) : Prop :=
  ∃ A', (∀ b, A b → A' b) ∧ SimAt G { s with σ := σ' } a w A' τ ∧ K A'
theorem foldP_sound {n : Nat} (ih : ∀ (c : AC) (s : AS) (σ' : Sto) (v : PV) (A : Nat → Prop), SimAt G s a w A τ → toP n c s.σ = some (v, σ') → Frz G a w A τ s σ' (fun A' => ∀ x, CRel A τ w c x → PRel A' w v x)) :
    ∀ (cs : List AC) (s : AS) (σ' : Sto) (vs : List PV) (A : Nat → Prop), SimAt G s a w A τ → foldP (toP n) cs s.σ = some (vs, σ') →
      Frz G a w A τ s σ' (fun A' => ∀ xs, All2 (CRel A τ w) cs xs → All2 (PRel A' w) vs xs)
  | [], s, σ', vs, A, h, he => by
    simp only [foldP] at he; cases he
    exact ⟨A, fun _ hb => hb, h, fun xs hx => by cases hx; exact .nil⟩
  | c :: cs, s, σ', vs, A, h, he => by
    simp only [foldP] at he
    split at he
    · rename_i v σ1 h1
      split at he
      · rename_i vs' σ2 h2
        cases he
        obtain ⟨A1, i1, s1, k1⟩ := ih c s σ1 v A h h1
        obtain ⟨A2, i2, s2, k2⟩ := foldP_sound ih cs { s with σ := σ1 } _ vs' A1 s1 h2
        refine ⟨A2, fun b hb => i2 b (i1 b hb), s2, fun xs hx => ?_⟩
        cases hx with
        | cons hx ht => exact .cons ((k1 _ hx).wider i2) (k2 _ (ht.mono fun _ _ hc => hc.wider i1))
      · cases he
    · cases he
theorem toP_sound : ∀ (n : Nat) (c : AC) (s : AS) (σ' : Sto) (v : PV) (A : Nat → Prop), SimAt G s a w A τ → toP n c s.σ = some (v, σ') →
    Frz G a w A τ s σ' (fun A' => ∀ x, CRel A τ w c x → PRel A' w v x)
  | 0, c, s, σ', v, A, h, he => by simp [toP] at he
  | n + 1, c, s, σ', v, A, h, he => by
    have ihf := foldP_sound (G := G) (a := a) (w := w) (τ := τ) (toP_sound n)
    have arrFrz : ∀ (t s2 : Nat) (m : Bool) (rows : List (List PV)), lo s.σ t = .arr m s2 rows → ∃ A', (∀ b, A b → A' b) ∧ SimAt G { s with σ := if m then (t, .arr false s2 rows) :: s.σ else s.σ } a w A' τ ∧ (∀ b, τ t = some b → A' b) := by
      intro t s2 m rows hold
      cases m with
      | false =>
        refine ⟨A, fun _ hb => hb, h, fun b hb => ?_⟩
        have ho := h.obj t
        rw [hold] at ho
        obtain ⟨_, _, ⟨g1, _⟩ | ⟨b', xs, e, g1, g2, g3, g4, g5⟩⟩ := ho
        · rw [hb] at g1; cases g1
        · rw [hb] at g1; cases g1; exact g5
      | true =>
        have ho := h.obj t
        rw [hold] at ho
        obtain ⟨g0, gl, ⟨g1, g2⟩ | ⟨b', xs, e, g1, g2, g3, g4, g5⟩⟩ := ho
        · refine ⟨A, fun _ hb => hb, ?_, fun b hb => by rw [hb] at g1; cases g1⟩
          simp only [if_true]
          refine ⟨h.below, h.a0, h.a1, h.alt, h.size, h.env, fun u => ?_, ?_, h.ex, h.marks⟩
          · rw [lo_put]
            by_cases hu : u = t
            · subst hu; rw [if_pos rfl]; exact ⟨g0, gl, .inl ⟨g1, g2⟩⟩
            · rw [if_neg hu]; exact h.obj u
          · intro u u' k h1 h2 hne' hm hk
            simp only [lo_put] at h1 h2 hm
            by_cases hu : u = t
            · subst hu; rw [if_pos rfl] at hm; cases hm
            · rw [if_neg hu] at h1 hm
              by_cases hu' : u' = t
              · subst hu'; rw [g1]; exact fun hh => by cases hh
              · rw [if_neg hu'] at h2
                exact h.sep u u' k h1 h2 hne' hm hk
        · refine ⟨fun k => A k ∨ k = b', fun k hk => .inl hk, ?_, fun b hb => by rw [hb] at g1; cases g1; exact .inr rfl⟩
          simp only [if_true]
          refine h.freeze (by rw [hold]; simp) g1 (by rw [hold]; intro hh; cases hh) (fun ds hd => by rw [g2] at hd; cases hd) rfl ⟨g0, gl, .inr ⟨b', xs, e, g1, g2, g3, ?_, .inr rfl⟩⟩
          exact PAt.of_get fun i v hi => by
            obtain ⟨x, hx, hr⟩ := g4.get i v hi
            exact ⟨x, hx, hr.wider fun k hk => .inl hk⟩
    simp only [toP] at he
    split at he
    · cases he
      exact ⟨A, fun _ hb => hb, h, fun x hx => p_inv (.v1 (.one hx))⟩
    · cases he
      refine ⟨A, fun _ hb => hb, h, fun x hx => ?_⟩
      cases hx with | c0 hx => cases hx; exact .nil none 0
    · -- a slice
      rename_i t o s2 len cap
      split at he
      · rename_i m s3 rows hold
        split at he
        · rename_i hcond
          obtain ⟨rfl, hle⟩ := hcond
          cases he
          obtain ⟨A', hA, hs, hb⟩ := arrFrz t s3 m rows hold
          refine ⟨A', hA, hs, fun x hx => ?_⟩
          have ho := h.obj t
          rw [hold] at ho
          obtain ⟨g0, gl, g⟩ := ho
          cases hx with | c0 hx => cases hx with
            | mslN => simpa using Rel.nil _ 0
            | msl _ _ _ _ b c _ hτ hc hl hr =>
              rcases g with ⟨g1, _⟩ | ⟨b', xs, e, g1, g2, g3, g4, g5⟩
              · rw [hτ] at g1; cases g1
              · rw [hτ] at g1; cases g1
                have hlen : ((rows.drop o).take len).length = len := by simp; omega
                have hat : PAt A w ((rows.drop o).take len).flatten b (o * s3) := by
                  have e3 : ((rows.drop o).take len).flatten = (rows.flatten.drop (o * s3)).take (len * s3) := by
                    rw [take_flat s3 (rows.drop o) (fun r hr => g0 r (List.mem_of_mem_drop hr)) len (by simp; omega), drop_flat s3 rows g0 o (by omega)]
                  rw [e3]
                  simpa using g4.part (o * s3) (len * s3)
                have hat' : PAt A' w ((rows.drop o).take len).flatten b (o * s3) := PAt.of_get fun i v hi => by
                  obtain ⟨x, hx, hr⟩ := hat.get i v hi
                  exact ⟨x, hx, hr.wider hA⟩
                have := Rel.sl (A := A') (w := w) ((rows.drop o).take len) b (o * s3) c s3 (hb b hτ) (fun r hr => g0 r (List.mem_of_mem_drop (List.mem_of_mem_take hr))) (by rw [hlen]; omega) (by rw [hlen]; exact hl) hat'
                rw [hlen] at this
                exact this
        · cases he
      · cases he
    · -- an address
      rename_i t i s2 off
      split at he
      · rename_i m cs hold
        split at he
        · rename_i hi
          subst hi
          split at he
          · rename_i vs σ1 hf
            split at he
            · rename_i m1 cs1 hold1
              cases he
              obtain ⟨A1, i1, s1, k1⟩ := ihf cs s σ1 vs A h hf
              have ho := h.obj t
              rw [hold] at ho
              obtain ⟨b, xs, e, g1, g2, g3, g4⟩ := ho
              have ho1 := s1.obj t
              simp only [hold1] at ho1
              obtain ⟨b1, xs1, e1', q1, q2, q3, q4⟩ := ho1
              rw [g1] at q1; cases q1
              rw [g2] at q2; cases q2
              have hvs := k1 xs g3
              have fin : ∀ (A2 : Nat → Prop), (∀ k, A1 k → A2 k) → A2 b → ∀ x, CRel A τ w (.ptr t 0 s2 off) x → PRel A2 w (.box (vs.drop off)) x := by
                intro A2 h12 hAb x hx
                cases hx with | c0 hx => cases hx with | ptr _ _ _ _ b' hτ =>
                  rw [g1] at hτ; cases hτ
                  refine .box _ _ _ hAb ?_
                  refine PAt.of_get fun i v hi => ?_
                  rw [List.getElem?_drop] at hi
                  obtain ⟨x, hx, hr⟩ := hvs.get _ v hi
                  refine ⟨x, ?_, hr.wider h12⟩
                  simp only [World.cell?, g2]
                  simp only [Nat.zero_mul, Nat.zero_add]
                  simpa using hx
              cases m1 with
              | false =>
                exact ⟨A1, i1, s1, fin A1 (fun _ hk => hk) q4.1⟩
              | true =>
                refine ⟨fun k => A1 k ∨ k = b, fun k hk => .inl (i1 k hk), ?_, fin _ (fun k hk => .inl hk) (.inr rfl)⟩
                simp only [if_true]
                refine s1.freeze (by simp only [hold1]; simp) g1 (by simp only [hold1]; intro hh; cases hh) (fun ds hd => by rw [g2] at hd; cases hd) rfl ⟨b, xs, e, g1, g2, ?_, .inr rfl, ?_⟩
                · exact hvs.mapL fun v x hr => .c0 (.p v x (hr.wider fun k hk => .inl hk))
                · intro c hc
                  obtain ⟨v, _, rfl⟩ := List.mem_map.1 hc
                  exact ⟨v, rfl⟩
            · cases he
          · cases he
        · cases he
      · rename_i m s3 rows hold
        split at he
        · rename_i hss
          subst hss
          split at he
          · rename_i r hr
            cases he
            obtain ⟨A', hA, hs, hb⟩ := arrFrz t s3 m rows hold
            refine ⟨A', hA, hs, fun x hx => ?_⟩
            have ho := h.obj t
            rw [hold] at ho
            obtain ⟨g0, gl, g⟩ := ho
            cases hx with | c0 hx => cases hx with | ptr _ _ _ _ b hτ =>
              rcases g with ⟨g1, _⟩ | ⟨b', xs, e, g1, g2, g3, g4, g5⟩
              · rw [hτ] at g1; cases g1
              · rw [hτ] at g1; cases g1
                refine .box _ _ _ (hb b hτ) ?_
                have := g4.dropAt (i * s3 + off)
                rw [Nat.zero_add] at this
                exact PAt.of_get fun i v hi => by
                  obtain ⟨x, hx, hr⟩ := this.get i v hi
                  exact ⟨x, hx, hr.wider hA⟩
          · cases he
        · cases he
      · cases he
    · -- a map
      rename_i t
      split at he
      · rename_i m es hold
        cases he
        have ho := h.obj t
        rw [hold] at ho
        obtain ⟨b, ces, cl, g1, g2, g3, g4⟩ := ho
        have fin : ∀ (A2 : Nat → Prop), (∀ k, A k → A2 k) → A2 b → ∀ x, CRel A τ w (.mmap t) x → PRel A2 w (.map es) x := by
          intro A2 h12 hAb x hx
          cases hx with | c0 hx => cases hx with | mmap _ b' hτ =>
            rw [g1] at hτ; cases hτ
            exact .map es b ces cl hAb g2 (Rel.mono h12 (fun _ _ => rfl) g3)
        cases m with
        | false => exact ⟨A, fun _ hk => hk, h, fin A (fun _ hk => hk) g4⟩
        | true =>
          refine ⟨fun k => A k ∨ k = b, fun k hk => .inl hk, ?_, fin _ (fun k hk => .inl hk) (.inr rfl)⟩
          simp only [if_true]
          exact h.freeze (by rw [hold]; simp) g1 (by rw [hold]; intro hh; cases hh) (fun ds hd => by rw [g2] at hd; cases hd) rfl ⟨b, ces, cl, g1, g2, Rel.mono (fun k hk => .inl hk) (fun _ _ => rfl) g3, .inr rfl⟩
      · cases he
    · -- a closure
      rename_i f first caps
      split at he
      · rename_i us σ1 hf1
        split at he
        · rename_i vs σ2 hf2
          cases he
          obtain ⟨A1, i1, s1, k1⟩ := ihf first s σ1 us A h hf1
          obtain ⟨A2, i2, s2, k2⟩ := ihf caps { s with σ := σ1 } _ vs A1 s1 hf2
          refine ⟨A2, fun b hb => i2 b (i1 b hb), s2, fun x hx => ?_⟩
          cases hx with
          | c0 hx => cases hx
          | mfn _ _ _ vf vc h1 h2 =>
            refine .fn f us vs vf vc (PRels.all2.2 ?_) (PRels.all2.2 ?_)
            · exact (k1 vf (h1.mono fun _ _ hc => .c0 hc)).mono fun _ _ hr => hr.wider i2
            · exact k2 vc (h2.mono fun _ _ hc => (CRel.c0 hc).wider i1)
        · cases he
      · cases he
    · cases he
end frz
end Go.AM

