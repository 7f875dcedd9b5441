import Derived.Test.YtphnlpfkenannaaGreatMx4
import Derived.OrdersIn
import Derived.RangeFuncCalls
set_option linter.unusedVariables false
set_option linter.unusedSimpArgs false
namespace Go.AM
open Go.RowKit (Below)

def foldP (f : AC → Sto → Option (PV × Sto)) : List AC → Sto → Option (List PV × Sto)
  | [], σ => some ([], σ)
  | c :: cs, σ => match f c σ with
    | some (v, σ1) => match foldP f cs σ1 with
      | some (vs, σ2) => some (v :: vs, σ2)
      | none => none
    | none => none
def toP : Nat → AC → Sto → Option (PV × Sto)
  | 0, _, _ => none
  | n + 1, c, σ => match c with
    | .p v => some (v, σ)
    | .nils => some (.sl [], σ)
    | .msl t o s len _ => match lo σ t with
      | .arr m s' rows => if s' = s ∧ o + len ≤ rows.length then some (.sl ((rows.drop o).take len), if m then (t, .arr false s rows) :: σ else σ) else none
      | _ => none
    | .ptr t i s off => match lo σ t with
      | .cells m cs => if i = 0 then (match foldP (toP n) cs σ with
        | some (vs, σ1) => (match lo σ1 t with
          | .cells m1 cs1 => some (.box (vs.drop off), if m1 then (t, .cells false (vs.map .p)) :: σ1 else σ1)
          | _ => none)
        | none => none) else none
      | .arr m s' rows => if s' = s then (match rows[i]? with
        | some _ => some (.box (rows.flatten.drop (i * s + off)), if m then (t, .arr false s rows) :: σ else σ)
        | none => none) else none
      | _ => none
    | .mmap t => match lo σ t with
      | .map m es => some (.map es, if m then (t, .map false es) :: σ else σ)
      | _ => none
    | .mfn f first caps => match foldP (toP n) first σ with
      | some (us, σ1) => match foldP (toP n) caps σ1 with
        | some (vs, σ2) => some (.fn f us vs, σ2)
        | none => none
      | none => none
    | .raw _ => none
section frz
variable {P : Program} {G : Ground} {s : AS} {a : Act} {w : World} {A : Nat → Prop} {τ : Tau}
theorem C0.wider {A' : Nat → Prop} (hA : ∀ b, A b → A' b) {c : AC} {x : Value} (h : C0 A τ w c x) : C0 A' τ w c x :=
  h.step (WStep.refl w) hA (fun _ _ => rfl) (fun _ _ => rfl)
theorem CRel.wider {A' : Nat → Prop} (hA : ∀ b, A b → A' b) {c : AC} {x : Value} (h : CRel A τ w c x) : CRel A' τ w c x :=
  h.step (WStep.refl w) hA (fun _ _ => rfl) (fun _ _ => rfl)
theorem VRel.wider {A' : Nat → Prop} (hA : ∀ b, A b → A' b) {c : AV} {x : Value} (h : VRel A τ w c x) : VRel A' τ w c x :=
  h.step (WStep.refl w) hA (fun _ _ => rfl) (fun _ _ => rfl)
theorem PRel.wider {A' : Nat → Prop} (hA : ∀ b, A b → A' b) {c : PV} {x : Value} (h : PRel A w c x) : PRel A' w c x := h.mono hA (fun _ _ => rfl)
theorem SimAt.freeze (h : SimAt G s a w A τ) {t b : Nat} (hne : lo s.σ t ≠ .none) (hb : τ t = some b) (hAb : (lo s.σ t).mu = false → A b) (hnd : ∀ ds, w.heap[b]? ≠ some (.deferred ds)) {o' : AO}
    (hmu : o'.mu = false) (ho' : ORel G.M (fun k => A k ∨ k = b) τ w t o') : SimAt G { s with σ := (t, o') :: s.σ } a w (fun k => A k ∨ k = b) τ := by
  have hA : ∀ k, A k → A k ∨ k = b := fun k hk => .inl hk
  have hlt := live_lt h hne hb
  have notb : ∀ u k, lo s.σ u ≠ .none → u ≠ t → (lo s.σ u).mu = true → τ u = some k → ¬ (A k ∨ k = b) := by
    intro u k hu hut hm hk hc
    have hu2 := (mut_own h hm hk).2
    rcases hc with hc | rfl
    · exact hu2 hc
    · exact h.sep u t k hu hne hut hm hk hb
  refine ⟨h.below, fun k hk => .inl (h.a0 k hk), fun k hk => ?_, fun k hk => ?_, h.size, fun i => (h.env i).wider hA, fun u => ?_, ?_, h.ex.mono fun _ _ hv => hv.wider hA, ?_⟩
  · rcases hk with hk | rfl
    · exact h.a1 k hk
    · cases hm : (lo s.σ t).mu with
      | true => exact .inr (mut_own h hm hb).1
      | false => exact h.a1 k (hAb hm)
  · rcases hk with hk | rfl
    · exact h.alt k hk
    · exact hlt
  · rw [lo_put]
    by_cases hu : u = t
    · subst hu; rw [if_pos rfl]; exact ho'
    · rw [if_neg hu]
      have hu0 := h.obj u
      have fixm : ∀ (m : Bool) (k : Nat), (lo s.σ u ≠ .none) → (lo s.σ u).mu = m → τ u = some k → (if m then G.M k ∧ ¬ A k else A k) → (if m then G.M k ∧ ¬ (A k ∨ k = b) else (A k ∨ k = b)) := by
        intro m k h1 h2 h3 h4
        cases m
        · exact .inl h4
        · exact ⟨h4.1, notb u k h1 hu h2 h3⟩
      cases ho : lo s.σ u with
      | none => trivial
      | cells m cs =>
        rw [ho] at hu0
        obtain ⟨k, xs, e, g1, g2, g3, g4⟩ := hu0
        refine ⟨k, xs, e, g1, g2, g3.mono fun _ _ hc => hc.wider hA, ?_⟩
        cases m
        · exact ⟨.inl g4.1, g4.2⟩
        · exact ⟨g4.1, notb u k (by rw [ho]; simp) hu (by rw [ho]; rfl) g1⟩
      | arr m k rows =>
        rw [ho] at hu0
        obtain ⟨g0, gl, g⟩ := hu0
        refine ⟨g0, gl, ?_⟩
        rcases g with g | ⟨k, xs, e, g1, g2, g3, g4, g5⟩
        · exact .inl g
        · exact .inr ⟨k, xs, e, g1, g2, g3, PAt.of_get fun i v hi => by
            obtain ⟨x, hx, hr⟩ := g4.get i v hi
            exact ⟨x, hx, hr.wider hA⟩, fixm m k (by rw [ho]; simp) (by rw [ho]; rfl) g1 g5⟩
      | map m es =>
        rw [ho] at hu0
        obtain ⟨k, ces, cl, g1, g2, g3, g4⟩ := hu0
        exact ⟨k, ces, cl, g1, g2, Rel.mono hA (fun _ _ => rfl) g3, fixm m k (by rw [ho]; simp) (by rw [ho]; rfl) g1 g4⟩
  · intro u u' k h1 h2 hne' hm hk
    simp only [lo_put] at h1 h2 hm
    by_cases hu : u = t
    · subst hu; rw [if_pos rfl, hmu] at hm; cases hm
    · rw [if_neg hu] at h1 hm
      by_cases hu' : u' = t
      · subst hu'; exact h.sep u u' k h1 hne hne' hm hk
      · rw [if_neg hu'] at h2
        exact h.sep u u' k h1 h2 hne' hm hk
  · have : ∀ ds, Marks G.N A w ds → Marks G.N (fun k => A k ∨ k = b) w ds := by
      intro ds
      induction ds with
      | nil => intro _; trivial
      | cons d ds ih =>
        rintro ⟨⟨r, e1, e2, e3, e4, e5⟩, ht⟩
        exact ⟨⟨r, e1, e2, fun hc => hc.elim e3 (fun e => hnd _ (e ▸ e4)), e4, e5⟩, ih ht⟩
    exact this _ h.marks
def Frz (G : Ground) (a : Act) (w : World) (A : Nat → Prop) (τ : Tau) (s : AS) (σ' : Sto) (K : (Nat → Prop) → Prop) : Prop :=
  ∃ A', (∀ b, A b → A' b) ∧ SimAt G { s with σ := σ' } a w A' τ ∧ K A'
theorem foldP_sound {n : Nat} (ih : ∀ (c : AC) (s : AS) (σ' : Sto) (v : PV) (A : Nat → Prop), SimAt G s a w A τ → toP n c s.σ = some (v, σ') → Frz G a w A τ s σ' (fun A' => ∀ x, CRel A τ w c x → PRel A' w v x)) :
    ∀ (cs : List AC) (s : AS) (σ' : Sto) (vs : List PV) (A : Nat → Prop), SimAt G s a w A τ → foldP (toP n) cs s.σ = some (vs, σ') →
      Frz G a w A τ s σ' (fun A' => ∀ xs, All2 (CRel A τ w) cs xs → All2 (PRel A' w) vs xs)
  | [], s, σ', vs, A, h, he => by
    simp only [foldP] at he; cases he
    exact ⟨A, fun _ hb => hb, h, fun xs hx => by cases hx; exact .nil⟩
  | c :: cs, s, σ', vs, A, h, he => by
    simp only [foldP] at he
    split at he
    · rename_i v σ1 h1
      split at he
      · rename_i vs' σ2 h2
        cases he
        obtain ⟨A1, i1, s1, k1⟩ := ih c s σ1 v A h h1
        obtain ⟨A2, i2, s2, k2⟩ := foldP_sound ih cs { s with σ := σ1 } _ vs' A1 s1 h2
        refine ⟨A2, fun b hb => i2 b (i1 b hb), s2, fun xs hx => ?_⟩
        cases hx with
        | cons hx ht => exact .cons ((k1 _ hx).wider i2) (k2 _ (ht.mono fun _ _ hc => hc.wider i1))
      · cases he
    · cases he
theorem toP_sound : ∀ (n : Nat) (c : AC) (s : AS) (σ' : Sto) (v : PV) (A : Nat → Prop), SimAt G s a w A τ → toP n c s.σ = some (v, σ') →
    Frz G a w A τ s σ' (fun A' => ∀ x, CRel A τ w c x → PRel A' w v x)
  | 0, c, s, σ', v, A, h, he => by simp [toP] at he
  | n + 1, c, s, σ', v, A, h, he => by
    have ihf := foldP_sound (G := G) (a := a) (w := w) (τ := τ) (toP_sound n)
    have arrFrz : ∀ (t s2 : Nat) (m : Bool) (rows : List (List PV)), lo s.σ t = .arr m s2 rows → ∃ A', (∀ b, A b → A' b) ∧ SimAt G { s with σ := if m then (t, .arr false s2 rows) :: s.σ else s.σ } a w A' τ ∧ (∀ b, τ t = some b → A' b) := by
      intro t s2 m rows hold
      cases m with
      | false =>
        refine ⟨A, fun _ hb => hb, h, fun b hb => ?_⟩
        have ho := h.obj t
        rw [hold] at ho
        obtain ⟨_, _, ⟨g1, _⟩ | ⟨b', xs, e, g1, g2, g3, g4, g5⟩⟩ := ho
        · rw [hb] at g1; cases g1
        · rw [hb] at g1; cases g1; exact g5
      | true =>
        have ho := h.obj t
        rw [hold] at ho
        obtain ⟨g0, gl, ⟨g1, g2⟩ | ⟨b', xs, e, g1, g2, g3, g4, g5⟩⟩ := ho
        · refine ⟨A, fun _ hb => hb, ?_, fun b hb => by rw [hb] at g1; cases g1⟩
          simp only [if_true]
          refine ⟨h.below, h.a0, h.a1, h.alt, h.size, h.env, fun u => ?_, ?_, h.ex, h.marks⟩
          · rw [lo_put]
            by_cases hu : u = t
            · subst hu; rw [if_pos rfl]; exact ⟨g0, gl, .inl ⟨g1, g2⟩⟩
            · rw [if_neg hu]; exact h.obj u
          · intro u u' k h1 h2 hne' hm hk
            simp only [lo_put] at h1 h2 hm
            by_cases hu : u = t
            · subst hu; rw [if_pos rfl] at hm; cases hm
            · rw [if_neg hu] at h1 hm
              by_cases hu' : u' = t
              · subst hu'; rw [g1]; exact fun hh => by cases hh
              · rw [if_neg hu'] at h2
                exact h.sep u u' k h1 h2 hne' hm hk
        · refine ⟨fun k => A k ∨ k = b', fun k hk => .inl hk, ?_, fun b hb => by rw [hb] at g1; cases g1; exact .inr rfl⟩
          simp only [if_true]
          refine h.freeze (by rw [hold]; simp) g1 (by rw [hold]; intro hh; cases hh) (fun ds hd => by rw [g2] at hd; cases hd) rfl ⟨g0, gl, .inr ⟨b', xs, e, g1, g2, g3, ?_, .inr rfl⟩⟩
          exact PAt.of_get fun i v hi => by
            obtain ⟨x, hx, hr⟩ := g4.get i v hi
            exact ⟨x, hx, hr.wider fun k hk => .inl hk⟩
    simp only [toP] at he
    split at he
    · cases he
      exact ⟨A, fun _ hb => hb, h, fun x hx => p_inv (.v1 (.one hx))⟩
    · cases he
      refine ⟨A, fun _ hb => hb, h, fun x hx => ?_⟩
      cases hx with | c0 hx => cases hx; exact .nil none 0
    · -- a slice
      rename_i t o s2 len cap
      split at he
      · rename_i m s3 rows hold
        split at he
        · rename_i hcond
          obtain ⟨rfl, hle⟩ := hcond
          cases he
          obtain ⟨A', hA, hs, hb⟩ := arrFrz t s3 m rows hold
          refine ⟨A', hA, hs, fun x hx => ?_⟩
          have ho := h.obj t
          rw [hold] at ho
          obtain ⟨g0, gl, g⟩ := ho
          cases hx with | c0 hx => cases hx with
            | mslN => simpa using Rel.nil _ 0
            | msl _ _ _ _ b c _ hτ hc hl hr =>
              rcases g with ⟨g1, _⟩ | ⟨b', xs, e, g1, g2, g3, g4, g5⟩
              · rw [hτ] at g1; cases g1
              · rw [hτ] at g1; cases g1
                have hlen : ((rows.drop o).take len).length = len := by simp; omega
                have hat : PAt A w ((rows.drop o).take len).flatten b (o * s3) := by
                  have e3 : ((rows.drop o).take len).flatten = (rows.flatten.drop (o * s3)).take (len * s3) := by
                    rw [take_flat s3 (rows.drop o) (fun r hr => g0 r (List.mem_of_mem_drop hr)) len (by simp; omega), drop_flat s3 rows g0 o (by omega)]
                  rw [e3]
                  simpa using g4.part (o * s3) (len * s3)
                have hat' : PAt A' w ((rows.drop o).take len).flatten b (o * s3) := PAt.of_get fun i v hi => by
                  obtain ⟨x, hx, hr⟩ := hat.get i v hi
                  exact ⟨x, hx, hr.wider hA⟩
                have := Rel.sl (A := A') (w := w) ((rows.drop o).take len) b (o * s3) c s3 (hb b hτ) (fun r hr => g0 r (List.mem_of_mem_drop (List.mem_of_mem_take hr))) (by rw [hlen]; omega) (by rw [hlen]; exact hl) hat'
                rw [hlen] at this
                exact this
        · cases he
      · cases he
    · -- an address
      rename_i t i s2 off
      split at he
      · rename_i m cs hold
        split at he
        · rename_i hi
          subst hi
          split at he
          · rename_i vs σ1 hf
            split at he
            · rename_i m1 cs1 hold1
              cases he
              obtain ⟨A1, i1, s1, k1⟩ := ihf cs s σ1 vs A h hf
              have ho := h.obj t
              rw [hold] at ho
              obtain ⟨b, xs, e, g1, g2, g3, g4⟩ := ho
              have ho1 := s1.obj t
              simp only [hold1] at ho1
              obtain ⟨b1, xs1, e1', q1, q2, q3, q4⟩ := ho1
              rw [g1] at q1; cases q1
              rw [g2] at q2; cases q2
              have hvs := k1 xs g3
              have fin : ∀ (A2 : Nat → Prop), (∀ k, A1 k → A2 k) → A2 b → ∀ x, CRel A τ w (.ptr t 0 s2 off) x → PRel A2 w (.box (vs.drop off)) x := by
                intro A2 h12 hAb x hx
                cases hx with | c0 hx => cases hx with | ptr _ _ _ _ b' hτ =>
                  rw [g1] at hτ; cases hτ
                  refine .box _ _ _ hAb ?_
                  refine PAt.of_get fun i v hi => ?_
                  rw [List.getElem?_drop] at hi
                  obtain ⟨x, hx, hr⟩ := hvs.get _ v hi
                  refine ⟨x, ?_, hr.wider h12⟩
                  simp only [World.cell?, g2]
                  simp only [Nat.zero_mul, Nat.zero_add]
                  simpa using hx
              cases m1 with
              | false =>
                exact ⟨A1, i1, s1, fin A1 (fun _ hk => hk) q4.1⟩
              | true =>
                refine ⟨fun k => A1 k ∨ k = b, fun k hk => .inl (i1 k hk), ?_, fin _ (fun k hk => .inl hk) (.inr rfl)⟩
                simp only [if_true]
                refine s1.freeze (by simp only [hold1]; simp) g1 (by simp only [hold1]; intro hh; cases hh) (fun ds hd => by rw [g2] at hd; cases hd) rfl ⟨b, xs, e, g1, g2, ?_, .inr rfl, ?_⟩
                · exact hvs.mapL fun v x hr => .c0 (.p v x (hr.wider fun k hk => .inl hk))
                · intro c hc
                  obtain ⟨v, _, rfl⟩ := List.mem_map.1 hc
                  exact ⟨v, rfl⟩
            · cases he
          · cases he
        · cases he
      · rename_i m s3 rows hold
        split at he
        · rename_i hss
          subst hss
          split at he
          · rename_i r hr
            cases he
            obtain ⟨A', hA, hs, hb⟩ := arrFrz t s3 m rows hold
            refine ⟨A', hA, hs, fun x hx => ?_⟩
            have ho := h.obj t
            rw [hold] at ho
            obtain ⟨g0, gl, g⟩ := ho
            cases hx with | c0 hx => cases hx with | ptr _ _ _ _ b hτ =>
              rcases g with ⟨g1, _⟩ | ⟨b', xs, e, g1, g2, g3, g4, g5⟩
              · rw [hτ] at g1; cases g1
              · rw [hτ] at g1; cases g1
                refine .box _ _ _ (hb b hτ) ?_
                have := g4.dropAt (i * s3 + off)
                rw [Nat.zero_add] at this
                exact PAt.of_get fun i v hi => by
                  obtain ⟨x, hx, hr⟩ := this.get i v hi
                  exact ⟨x, hx, hr.wider hA⟩
          · cases he
        · cases he
      · cases he
    · -- a map
      rename_i t
      split at he
      · rename_i m es hold
        cases he
        have ho := h.obj t
        rw [hold] at ho
        obtain ⟨b, ces, cl, g1, g2, g3, g4⟩ := ho
        have fin : ∀ (A2 : Nat → Prop), (∀ k, A k → A2 k) → A2 b → ∀ x, CRel A τ w (.mmap t) x → PRel A2 w (.map es) x := by
          intro A2 h12 hAb x hx
          cases hx with | c0 hx => cases hx with | mmap _ b' hτ =>
            rw [g1] at hτ; cases hτ
            exact .map es b ces cl hAb g2 (Rel.mono h12 (fun _ _ => rfl) g3)
        cases m with
        | false => exact ⟨A, fun _ hk => hk, h, fin A (fun _ hk => hk) g4⟩
        | true =>
          refine ⟨fun k => A k ∨ k = b, fun k hk => .inl hk, ?_, fin _ (fun k hk => .inl hk) (.inr rfl)⟩
          simp only [if_true]
          exact h.freeze (by rw [hold]; simp) g1 (by rw [hold]; intro hh; cases hh) (fun ds hd => by rw [g2] at hd; cases hd) rfl ⟨b, ces, cl, g1, g2, Rel.mono (fun k hk => .inl hk) (fun _ _ => rfl) g3, .inr rfl⟩
      · cases he
    · -- a closure
      rename_i f first caps
      split at he
      · rename_i us σ1 hf1
        split at he
        · rename_i vs σ2 hf2
          cases he
          obtain ⟨A1, i1, s1, k1⟩ := ihf first s σ1 us A h hf1
          obtain ⟨A2, i2, s2, k2⟩ := ihf caps { s with σ := σ1 } _ vs A1 s1 hf2
          refine ⟨A2, fun b hb => i2 b (i1 b hb), s2, fun x hx => ?_⟩
          cases hx with
          | c0 hx => cases hx
          | mfn _ _ _ vf vc h1 h2 =>
            refine .fn f us vs vf vc (PRels.all2.2 ?_) (PRels.all2.2 ?_)
            · exact (k1 vf (h1.mono fun _ _ hc => .c0 hc)).mono fun _ _ hr => hr.wider i2
            · exact k2 vc (h2.mono fun _ _ hc => (CRel.c0 hc).wider i1)
        · cases he
      · cases he
    · cases he
end frz
end Go.AM

namespace Go.AM
open Go.RowKit (Below)

def owOf (σ : Sto) (τ : Tau) (b : Nat) : Prop := ∃ t, (lo σ t).mu = true ∧ τ t = some b
def SepS (σ : Sto) (τ : Tau) : Prop := ∀ t t' b, lo σ t ≠ .none → lo σ t' ≠ .none → t ≠ t' → (lo σ t).mu = true → τ t = some b → τ t' ≠ some b
structure Frame (A ow : Nat → Prop) (w w' : World) (A' : Nat → Prop) : Prop where
  os : w'.os = w.os
  tape : w'.tape = w.tape
  output : w'.output = w.output
  size : w.heap.size ≤ w'.heap.size
  block : ∀ k, k < w.heap.size → ¬ ow k → w'.heap[k]? = w.heap[k]?
  up : ∀ b, A b → A' b
  new : ∀ b, A' b → A b ∨ ow b ∨ w.heap.size ≤ b
  lt : ∀ b, A' b → b < w'.heap.size
structure MutC (P : Program) (f : FuncId) (vs : List AV) (σ : Sto) (r : AV) (σ' : Sto) (fr : List Nat) : Prop where
  enters : ∀ args w, (callFunc f args).run P w = .ok (.enter f args) w
  calls : ∀ (A : Nat → Prop) (τ : Tau) (w : World) (xs : List Value) (ex : List AV) (exs : List Value), (∀ b, A b → b < w.heap.size) → All2 (VRel A τ w) vs xs → All2 (VRel A τ w) ex exs →
    (∀ d ∈ fr, ∀ v ∈ ex, v.has d = false) → (∀ t, ORel (fun _ => True) A τ w t (lo σ t)) → SepS σ τ →
    Calls P f ⟨xs⟩ w fun e w' => ∃ x A' τ', e = .returned x ∧ Frame A (owOf σ τ) w w' A' ∧ (∀ t, ORel (fun b => w.heap.size ≤ b ∨ owOf σ τ b) A' τ' w' t (lo σ' t)) ∧ SepS σ' τ' ∧
      VRel A' τ' w' r x ∧ All2 (VRel A' τ' w') ex exs
theorem ORel.monoM {M M' : Nat → Prop} {A : Nat → Prop} {τ : Tau} {w : World} {t : Nat} {o : AO} (h : ORel M A τ w t o) (hM : ∀ b, o.mu = true → τ t = some b → M b → M' b) : ORel M' A τ w t o := by
  cases o with
  | none => trivial
  | cells m cs =>
    obtain ⟨b, xs, e, h1, h2, h3, h4⟩ := h
    refine ⟨b, xs, e, h1, h2, h3, ?_⟩
    cases m
    · exact h4
    · exact ⟨hM b rfl h1 h4.1, h4.2⟩
  | arr m s rows =>
    obtain ⟨h0, hl, h⟩ := h
    refine ⟨h0, hl, ?_⟩
    rcases h with h | ⟨b, xs, e, h1, h2, h3, h4, h5⟩
    · exact .inl h
    · refine .inr ⟨b, xs, e, h1, h2, h3, h4, ?_⟩
      cases m
      · exact h5
      · exact ⟨hM b rfl h1 h5.1, h5.2⟩
  | map m es =>
    obtain ⟨b, ces, cl, h1, h2, h3, h4⟩ := h
    refine ⟨b, ces, cl, h1, h2, h3, ?_⟩
    cases m
    · exact h4
    · exact ⟨hM b rfl h1 h4.1, h4.2⟩
theorem All2.split {α β : Type} {R : α → β → Prop} : ∀ {az az' : List α} {bs : List β}, All2 R (az ++ az') bs → ∃ b1 b2, bs = b1 ++ b2 ∧ All2 R az b1 ∧ All2 R az' b2
  | [], az', bs, h => ⟨[], bs, rfl, .nil, h⟩
  | a :: az, az', bs, h => by
    cases h with
    | cons h t =>
      obtain ⟨b1, b2, rfl, h1, h2⟩ := All2.split (az := az) (az' := az') t
      exact ⟨_ :: b1, b2, rfl, .cons h h1, h2⟩
theorem All2.split2 {α β : Type} {R S : α → β → Prop} {az az' : List α} {b1 b2 : List β} (h : All2 R (az ++ az') (b1 ++ b2)) (k : All2 S az b1) : All2 R az b1 ∧ All2 R az' b2 := by
  induction k with
  | nil => exact ⟨.nil, h⟩
  | cons _ _ ih =>
    cases h with
    | cons h t => exact ⟨.cons h (ih t).1, (ih t).2⟩
theorem lo_app (a b : Sto) (t : Nat) : lo (a ++ b) t = if t ∈ a.map (·.1) then lo a t else lo b t := by
  induction a with
  | nil => simp
  | cons p a ih =>
    obtain ⟨j, v⟩ := p
    simp only [List.cons_append, lo, List.map_cons, List.mem_cons]
    by_cases h : t = j
    · simp [h]
    · simp only [h, if_false, false_or, ih]
theorem lo_none {a : Sto} {t : Nat} (h : t ∉ a.map (·.1)) : lo a t = .none := by
  induction a with
  | nil => rfl
  | cons p a ih =>
    obtain ⟨j, v⟩ := p
    simp only [List.map_cons, List.mem_cons, not_or] at h
    simp only [lo, h.1, if_false]
    exact ih h.2
theorem lk_none {a : Env} {t : Nat} (h : t ∉ a.map (·.1)) : lk a t = .top := by
  induction a with
  | nil => rfl
  | cons p a ih =>
    obtain ⟨j, v⟩ := p
    simp only [List.map_cons, List.mem_cons, not_or] at h
    simp only [lk, h.1, if_false]
    exact ih h.2
def witA (τ : Tau) (t : Nat) : AV := match τ t with | some _ => .one (.ptr t 0 0 0) | none => .one (.msl t 0 0 0 (some 0))
def witV (τ : Tau) (t : Nat) : Value := match τ t with | some b => .pointer (some ⟨b, 0, none⟩) | none => .slice none 0 0
theorem wit_rel (A : Nat → Prop) (τ : Tau) (w : World) (t : Nat) : VRel A τ w (witA τ t) (witV τ t) := by
  unfold witA witV
  cases h : τ t with
  | some b =>
    have := C0.ptr (A := A) (w := w) t 0 0 0 b h
    exact .v1 (.one (.c0 (by simpa using this)))
  | none => exact .v1 (.one (.c0 (.mslN t 0 0 (some 0) none h (fun n hn => by cases hn; rfl))))
theorem wit_same {A : Nat → Prop} {τ τ' : Tau} {w : World} {t : Nat} (h : VRel A τ' w (witA τ t) (witV τ t)) : τ' t = τ t := by
  unfold witA witV at h
  cases ht : τ t with
  | some b =>
    rw [ht] at h
    simp only at h
    generalize hx : Value.pointer (some ⟨b, 0, none⟩) = x at h
    cases h with | v1 h => cases h with | one h => cases h with | c0 h => cases h with
      | ptr _ _ _ _ b' h => simp at hx; rw [h, hx]
  | none =>
    rw [ht] at h
    simp only at h
    generalize hx : Value.slice none 0 0 = x at h
    cases h with | v1 h => cases h with | one h => cases h with | c0 h => cases h with
      | mslN _ _ _ _ _ h => exact h
      | msl => cases hx
theorem witA_has {τ : Tau} {t d : Nat} (h : t ≠ d) : (witA τ t).has d = false := by
  unfold witA
  cases τ t <;> simp [AV.has, AC.has, h]
section merge
variable {G : Ground} {s : AS} {a : Act} {w w' : World} {A A' : Nat → Prop} {τ τ' : Tau} {σ0 σ1 : Sto}
theorem ow_mut (h : SimAt G s a w A τ) (hσ : ∀ t, lo σ0 t = lo s.σ t ∨ lo σ0 t = .none) {b : Nat} (hb : owOf σ0 τ b) : ∃ t, lo s.σ t ≠ .none ∧ lo σ0 t ≠ .none ∧ (lo s.σ t).mu = true ∧ τ t = some b := by
  obtain ⟨t, hm, ht⟩ := hb
  rcases hσ t with h1 | h1
  · exact ⟨t, (fun e => by rw [h1, e] at hm; cases hm), (fun e => by rw [e] at hm; cases hm), (by rw [← h1]; exact hm), ht⟩
  · rw [h1] at hm; cases hm
theorem callM_sim (h : SimAt G s a w A τ) (hσ : ∀ t, lo σ0 t = lo s.σ t ∨ lo σ0 t = .none) (hk : ∀ t, lo σ0 t ≠ .none → t ∈ σ1.map (·.1))
    (fr : Frame A (owOf σ0 τ) w w' A') (ho : ∀ t, ORel (fun b => w.heap.size ≤ b ∨ owOf σ0 τ b) A' τ' w' t (lo σ1 t)) (hs : SepS σ1 τ')
    (wit : ∀ t, lo s.σ t ≠ .none → t ∉ σ1.map (·.1) → τ' t = τ t) (henv : ∀ i, VRel A' τ' w' (lk s.env i) (a.tmps.getD i undef)) (hex : All2 (VRel A' τ' w') s.ex G.exv)
    (hcells : ∀ t m cs b xs e, t ∉ σ1.map (·.1) → lo s.σ t = .cells m cs → τ t = some b → w.heap[b]? = some (.cells ⟨xs⟩ e (0, 0)) → All2 (CRel A' τ' w') cs xs) :
    SimAt G { s with σ := σ1 ++ s.σ } a w' A' τ' := by
  have owM : ∀ b, owOf σ0 τ b → G.M b ∧ ¬ A b := fun b hb => by
    obtain ⟨t, _, _, hm, ht⟩ := ow_mut h hσ hb
    exact mut_own h hm ht
  have owlt : ∀ b, owOf σ0 τ b → b < w.heap.size := fun b hb => by
    obtain ⟨t, hn, _, _, ht⟩ := ow_mut h hσ hb
    exact live_lt h hn ht
  have hM : ∀ b, (w.heap.size ≤ b ∨ owOf σ0 τ b) → G.M b := fun b hb => hb.elim (fun h1 => .inl (Nat.le_trans h.below.size h1)) (fun h1 => (owM b h1).1)
  have hst : Still A w w' := fun b hb => fr.block b (h.alt b hb) fun ho => (owM b ho).2 hb
  -- an object that was not handed over
  have other : ∀ t b, lo s.σ t ≠ .none → lo σ0 t = .none → τ t = some b → ¬ owOf σ0 τ b := by
    intro t b hn h0 hb ho
    obtain ⟨t2, hn2, h02, hm2, hb2⟩ := ow_mut h hσ ho
    have hne : t2 ≠ t := fun e => by subst e; exact h02 h0
    exact h.sep t2 t b hn2 hn hne hm2 hb2 hb
  have k0 : ∀ t, t ∉ σ1.map (·.1) → lo σ0 t = .none := fun t ht => Classical.byContradiction fun hc => ht (hk t hc)
  refine ⟨⟨fr.os.trans h.below.os, fr.tape.trans h.below.tape, fr.output.trans h.below.output, Nat.le_trans h.below.size fr.size, fun k hkN hno => ?_⟩, fun b hb => fr.up b (h.a0 b hb), fun b hb => ?_, fr.lt, h.size, henv, fun t => ?_, ?_, hex, ?_⟩
  · rw [fr.block k (Nat.lt_of_lt_of_le hkN h.below.size) fun ho => by rcases (owM k ho).1 with h1 | h1 <;> first | omega | exact hno h1]
    exact h.below.block k hkN hno
  · rcases fr.new b hb with h1 | h1 | h1
    · exact h.a1 b h1
    · exact .inr (owM b h1).1
    · exact .inr (.inl (Nat.le_trans h.below.size h1))
  · simp only [lo_app]
    split
    · exact (ho t).monoM fun b _ _ hb => hM b hb
    · rename_i ht
      have h0 := k0 t ht
      have hobj := h.obj t
      have keepM : ∀ (m : Bool) b, lo s.σ t ≠ .none → τ t = some b → b < w.heap.size → (if m then G.M b ∧ ¬ A b else A b) → (if m then G.M b ∧ ¬ A' b else A' b) := by
        intro m b hn hb hlt hm
        cases m
        · exact fr.up b hm
        · exact ⟨hm.1, fun hc => (fr.new b hc).elim hm.2 fun h2 => h2.elim (other t b hn h0 hb) fun h3 => by omega⟩
      cases hto : lo s.σ t with
      | none => trivial
      | cells m cs =>
        rw [hto] at hobj
        have hn : lo s.σ t ≠ .none := by rw [hto]; simp
        obtain ⟨b, xs, e, h1, h2, h3, h4⟩ := hobj
        have hlt := heap_lt h2
        refine ⟨b, xs, e, (wit t hn ht).trans h1, (fr.block b hlt (other t b hn h0 h1)).trans h2, hcells t m cs b xs e ht hto h1 h2, ?_⟩
        cases m
        · exact ⟨fr.up b h4.1, h4.2⟩
        · exact keepM true b hn h1 hlt h4
      | arr m k rows =>
        rw [hto] at hobj
        have hn : lo s.σ t ≠ .none := by rw [hto]; simp
        obtain ⟨g0, gl, g⟩ := hobj
        refine ⟨g0, gl, ?_⟩
        rcases g with ⟨g1, g2⟩ | ⟨b, xs, e, h1, h2, h3, h4, h5⟩
        · exact .inl ⟨(wit t hn ht).trans g1, g2⟩
        · have hlt := heap_lt h2
          have hsame := fr.block b hlt (other t b hn h0 h1)
          refine .inr ⟨b, xs, e, (wit t hn ht).trans h1, hsame.trans h2, h3, PAt.of_get fun i v hi => ?_, keepM m b hn h1 hlt h5⟩
          obtain ⟨x, hx, hr⟩ := h4.get i v hi
          exact ⟨x, by simpa only [World.cell?, hsame] using hx, hr.mono fr.up hst⟩
      | map m es =>
        rw [hto] at hobj
        have hn : lo s.σ t ≠ .none := by rw [hto]; simp
        obtain ⟨b, ces, cl, h1, h2, h3, h4⟩ := hobj
        have hlt := heap_lt h2
        exact ⟨b, ces, cl, (wit t hn ht).trans h1, (fr.block b hlt (other t b hn h0 h1)).trans h2, Rel.mono fr.up hst h3, keepM m b hn h1 hlt h4⟩
  · intro t t' b hn hn' hne hm hb hb'
    simp only [lo_app] at hn hn' hm
    have blk : ∀ t b, lo σ1 t ≠ .none → τ' t = some b → (w.heap.size ≤ b ∨ owOf σ0 τ b) ∨ A' b := by
      intro t b hn hb
      have := ho t
      cases hto : lo σ1 t with
      | none => exact absurd hto hn
      | cells m cs =>
        rw [hto] at this
        obtain ⟨b', _, _, h1, _, _, h4⟩ := this
        rw [hb] at h1; cases h1
        cases m
        · exact .inr h4.1
        · exact .inl h4.1
      | arr m k rows =>
        rw [hto] at this
        obtain ⟨_, _, ⟨h1, _⟩ | ⟨b', _, _, h1, _, _, _, h5⟩⟩ := this
        · rw [hb] at h1; cases h1
        · rw [hb] at h1; cases h1
          cases m
          · exact .inr h5
          · exact .inl h5.1
      | map m es =>
        rw [hto] at this
        obtain ⟨b', _, _, h1, _, _, h4⟩ := this
        rw [hb] at h1; cases h1
        cases m
        · exact .inr h4
        · exact .inl h4.1
    -- one of those handed over, or new, and another one
    have cross : ∀ t t' b, t ∈ σ1.map (·.1) → t' ∉ σ1.map (·.1) → lo σ1 t ≠ .none → lo s.σ t' ≠ .none → τ' t = some b → τ t' = some b → ((lo σ1 t).mu = true ∨ (lo s.σ t').mu = true) → False := by
      intro t t' b h1 h2 hn hn' hb hb' hmu
      have hlt := live_lt h hn' hb'
      have hno := other t' b hn' (k0 t' h2) hb'
      have key : A' b → (lo s.σ t').mu = true → False := fun hA hm => by
        rcases fr.new b hA with h3 | h3 | h3
        · exact (mut_own h hm hb').2 h3
        · exact hno h3
        · omega
      rcases blk t b hn hb with h3 | h3
      · rcases h3 with h3 | h3
        · omega
        · exact hno h3
      · rcases hmu with hmu | hmu
        · have := ho t
          have own : ¬ A' b := by
            cases hto : lo σ1 t with
            | none => exact absurd hto hn
            | cells m cs =>
              rw [hto] at this hmu
              cases (show m = true from hmu)
              obtain ⟨b', _, _, h1, _, _, h4⟩ := this
              rw [hb] at h1; cases h1
              exact h4.2
            | arr m k rows =>
              rw [hto] at this hmu
              cases (show m = true from hmu)
              obtain ⟨_, _, ⟨h1, _⟩ | ⟨b', _, _, h1, _, _, _, h5⟩⟩ := this
              · rw [hb] at h1; cases h1
              · rw [hb] at h1; cases h1
                exact h5.2
            | map m es =>
              rw [hto] at this hmu
              cases (show m = true from hmu)
              obtain ⟨b', _, _, h1, _, _, h4⟩ := this
              rw [hb] at h1; cases h1
              exact h4.2
          exact own h3
        · exact key h3 hmu
    by_cases h1 : t ∈ σ1.map (·.1)
    · rw [if_pos h1] at hn hm
      by_cases h2 : t' ∈ σ1.map (·.1)
      · rw [if_pos h2] at hn'
        exact hs t t' b hn hn' hne hm hb hb'
      · rw [if_neg h2] at hn'
        exact cross t t' b h1 h2 hn hn' hb ((wit t' hn' h2).symm.trans hb') (.inl hm)
    · rw [if_neg h1] at hn hm
      by_cases h2 : t' ∈ σ1.map (·.1)
      · rw [if_pos h2] at hn'
        exact cross t' t b h2 h1 hn' hn hb' ((wit t hn h1).symm.trans hb) (.inr hm)
      · rw [if_neg h2] at hn'
        exact h.sep t t' b hn hn' hne hm ((wit t hn h1).symm.trans hb) ((wit t' hn' h2).symm.trans hb')
  · have nodef : ∀ b ds, owOf σ0 τ b → w.heap[b]? ≠ some (Obj.deferred ds) := by
      intro b ds hb hd
      obtain ⟨t, hn, _, _, ht⟩ := ow_mut h hσ hb
      have := h.obj t
      cases hto : lo s.σ t with
      | none => exact hn hto
      | cells m cs =>
        rw [hto] at this
        obtain ⟨b', _, _, h1, h2, _⟩ := this
        rw [ht] at h1; cases h1; rw [h2] at hd; cases hd
      | arr m k rows =>
        rw [hto] at this
        obtain ⟨_, _, ⟨h1, _⟩ | ⟨b', _, _, h1, h2, _⟩⟩ := this
        · rw [ht] at h1; cases h1
        · rw [ht] at h1; cases h1; rw [h2] at hd; cases hd
      | map m es =>
        rw [hto] at this
        obtain ⟨b', _, _, h1, h2, _⟩ := this
        rw [ht] at h1; cases h1; rw [h2] at hd; cases hd
    have : ∀ ds, Marks G.N A w ds → Marks G.N A' w' ds := by
      intro ds
      induction ds with
      | nil => intro _; trivial
      | cons d ds ih =>
        rintro ⟨⟨r, e1, e2, e3, e4, e5⟩, ht⟩
        have hno : ¬ owOf σ0 τ r := fun ho => nodef r _ ho e4
        have hlt := heap_lt e4
        exact ⟨⟨r, e1, e2, fun hc => (fr.new r hc).elim e3 fun h2 => h2.elim hno fun h3 => by omega, (fr.block r hlt hno).trans e4, e5⟩, ih ht⟩
    exact this _ h.marks
end merge
theorem All2.flatMap {α β γ : Type} {R : β → γ → Prop} {f : α → List β} {g : α → List γ} : ∀ {l : List α}, (∀ t ∈ l, All2 R (f t) (g t)) → All2 R (l.flatMap f) (l.flatMap g)
  | [], _ => .nil
  | t :: l, h => by
    simp only [List.flatMap_cons]
    exact (h t (by simp)).append (All2.flatMap fun u hu => h u (by simp [hu]))
theorem All2.flatMap_inv {α β γ : Type} {R S : β → γ → Prop} {f : α → List β} {g : α → List γ} : ∀ {l : List α}, (∀ t ∈ l, All2 S (f t) (g t)) → All2 R (l.flatMap f) (l.flatMap g) → ∀ t ∈ l, All2 R (f t) (g t)
  | [], _, _, t, ht => by simp at ht
  | u :: l, h, k, t, ht => by
    simp only [List.flatMap_cons] at k
    obtain ⟨k1, k2⟩ := k.split2 (h u (by simp))
    rcases List.mem_cons.1 ht with rfl | ht
    · exact k1
    · exact All2.flatMap_inv (fun v hv => h v (by simp [hv])) k2 t ht
theorem All2.map {α β γ : Type} {R : β → γ → Prop} {f : α → β} {g : α → γ} : ∀ {l : List α}, (∀ t ∈ l, R (f t) (g t)) → All2 R (l.map f) (l.map g)
  | [], _ => .nil
  | t :: l, h => .cons (h t (by simp)) (All2.map fun u hu => h u (by simp [hu]))
theorem All2.map_inv {α β γ : Type} {R : β → γ → Prop} {f : α → β} {g : α → γ} : ∀ {l : List α}, All2 R (l.map f) (l.map g) → ∀ t ∈ l, R (f t) (g t)
  | [], _, t, ht => by simp at ht
  | u :: l, k, t, ht => by
    simp only [List.map_cons] at k
    cases k with
    | cons h k =>
      rcases List.mem_cons.1 ht with rfl | ht
      · exact h
      · exact All2.map_inv k t ht
def objs (s : AS) : List Nat := (s.σ.map (·.1)).filter fun t => match lo s.σ t with | .none => false | _ => true
def cellA (s : AS) (t : Nat) : List AV := match lo s.σ t with | .cells _ cs => cs.map .one | _ => []
def cellV (s : AS) (τ : Tau) (w : World) (t : Nat) : List Value :=
  match lo s.σ t, τ t with
  | .cells _ _, some b => match w.heap[b]? with
    | some (.cells xs _ _) => xs.toList
    | _ => []
  | _, _ => []
section run
variable {G : Ground} {s : AS} {a : Act} {w : World} {A : Nat → Prop} {τ : Tau} {σ0 σ1 : Sto}
theorem mem_objs {t : Nat} : t ∈ objs s ↔ lo s.σ t ≠ .none := by
  unfold objs
  rw [List.mem_filter]
  constructor
  · rintro ⟨_, h⟩ e
    rw [e] at h; cases h
  · intro h
    refine ⟨Classical.byContradiction fun hc => h (lo_none hc), ?_⟩
    cases ho : lo s.σ t <;> first | exact absurd ho h | rfl
theorem cell_rel (h : SimAt G s a w A τ) (t : Nat) : All2 (VRel A τ w) (cellA s t) (cellV s τ w t) := by
  have := h.obj t
  unfold cellA cellV
  cases ho : lo s.σ t with
  | cells m cs =>
    rw [ho] at this
    obtain ⟨b, xs, e, h1, h2, h3, _⟩ := this
    rw [h1]
    simp only [h2]
    have : ∀ {cs : List AC} {xs : List Value}, All2 (CRel A τ w) cs xs → All2 (VRel A τ w) (cs.map .one) xs := by
      intro cs xs h
      induction h with
      | nil => exact .nil
      | cons h _ ih => exact .cons (.v1 (.one h)) ih
    exact this h3
  | none => exact .nil
  | arr => exact .nil
  | map => exact .nil
def MPost (A : Nat → Prop) (τ : Tau) (w : World) (σ σ' : Sto) (r : AV) (ex : List AV) (exs : List Value) : Ending → World → Prop := fun e w' =>
  ∃ x A' τ', e = .returned x ∧ Frame A (owOf σ τ) w w' A' ∧ (∀ t, ORel (fun b => w.heap.size ≤ b ∨ owOf σ τ b) A' τ' w' t (lo σ' t)) ∧ SepS σ' τ' ∧
      VRel A' τ' w' r x ∧ All2 (VRel A' τ' w') ex exs
def outs (s : AS) (σ1 : Sto) : List Nat := (objs s).filter fun t => !(σ1.map (·.1)).contains t
theorem mem_outs {t : Nat} : t ∈ outs s σ1 ↔ lo s.σ t ≠ .none ∧ t ∉ σ1.map (·.1) := by
  unfold outs
  rw [List.mem_filter, mem_objs]
  simp
structure FrOk (s : AS) (σ1 : Sto) (d : Nat) : Prop where
  env : ∀ i, (lk s.env i).has d = false
  ex : ∀ v ∈ s.ex, v.has d = false
  obj : ∀ t, t ∉ σ1.map (·.1) → (lo s.σ t).nr d = true
  out : lo s.σ d = .none ∨ d ∈ σ1.map (·.1)
theorem callC_run {C : (Ending → World → Prop) → Prop} (hC : ∀ {R R' : Ending → World → Prop}, C R → (∀ e w, R e w → R' e w) → C R') {r : AV} {fr : List Nat}
    (hcalls : ∀ (ex : List AV) (exs : List Value), All2 (VRel A τ w) (s.ex ++ ex) (G.exv ++ exs) → (∀ d ∈ fr, ∀ v ∈ s.ex ++ ex, v.has d = false) → (∀ t, ORel (fun _ => True) A τ w t (lo σ0 t)) → SepS σ0 τ →
      C (MPost A τ w σ0 σ1 r (s.ex ++ ex) (G.exv ++ exs)))
    (h : SimAt G s a w A τ) (hσ : ∀ t, lo σ0 t = lo s.σ t ∨ lo σ0 t = .none) (hk : ∀ t, lo σ0 t ≠ .none → t ∈ σ1.map (·.1)) (hfr : ∀ d ∈ fr, FrOk s σ1 d) :
    C fun e w' => ∃ x A' τ', e = .returned x ∧ Frame A (owOf σ0 τ) w w' A' ∧ SimAt G { s with σ := σ1 ++ s.σ } a w' A' τ' ∧ VRel A' τ' w' r x := by
  have r1 : All2 (VRel A τ w) (s.env.map fun p => lk s.env p.1) (s.env.map fun p => a.tmps.getD p.1 undef) := All2.map fun p _ => h.env p.1
  have r3 : All2 (VRel A τ w) ((outs s σ1).map (witA τ)) ((outs s σ1).map (witV τ)) := All2.map fun t _ => wit_rel A τ w t
  have r4 : All2 (VRel A τ w) ((outs s σ1).flatMap (cellA s)) ((outs s σ1).flatMap (cellV s τ w)) := All2.flatMap fun t _ => cell_rel h t
  have hex := h.ex.append (r1.append (r3.append r4))
  refine hC (hcalls _ _ hex (fun d hd v hv => ?_) (fun t => ?_) (fun t t' b h1 h2 hne hmu hb => ?_)) ?_
  · have hnr := hfr d hd
    simp only [List.mem_append, List.mem_map, List.mem_flatMap] at hv
    rcases hv with hv | ⟨p, _, rfl⟩ | ⟨t, ht, rfl⟩ | ⟨t, ht, hv⟩
    · exact hnr.ex v hv
    · exact hnr.env p.1
    · have ht := mem_outs.1 ht
      refine witA_has fun e => ?_
      subst e
      rcases hnr.out with h1 | h1
      · exact ht.1 h1
      · exact ht.2 h1
    · have ht := mem_outs.1 ht
      unfold cellA at hv
      have := hnr.obj t ht.2
      cases ho : lo s.σ t with
      | cells m cs =>
        rw [ho] at hv this
        simp only [List.mem_map] at hv
        obtain ⟨c, hc, rfl⟩ := hv
        simp only [AO.nr, Bool.not_eq_true'] at this
        cases hh : c.has d with
        | false => exact hh
        | true => rw [hasL_mem hc hh] at this; cases this
      | none => rw [ho] at hv; simp at hv
      | arr => rw [ho] at hv; simp at hv
      | map => rw [ho] at hv; simp at hv
  · rcases hσ t with h1 | h1
    · rw [h1]; exact (h.obj t).monoM fun _ _ _ _ => trivial
    · rw [h1]; trivial
  · rcases hσ t with e1 | e1
    · rcases hσ t' with e2 | e2
      · rw [e1] at h1 hmu; rw [e2] at h2
        exact h.sep t t' b h1 h2 hne hmu hb
      · exact absurd e2 h2
    · exact absurd e1 h1
  · rintro e w' ⟨x, A', τ', rfl, hfm, hob, hsp, hr, hexx⟩
    obtain ⟨q2, q⟩ := hexx.split2 h.ex
    obtain ⟨q1, q⟩ := q.split2 r1
    obtain ⟨q3, q4⟩ := q.split2 r3
    refine ⟨x, A', τ', rfl, hfm, callM_sim h hσ hk hfm hob hsp (fun t ht h1 => ?_) (fun i => ?_) q2 (fun t m cs b xs e h1 ho hb hh => ?_), hr⟩
    · exact wit_same (All2.map_inv q3 t (mem_outs.2 ⟨ht, h1⟩))
    · by_cases hi : i ∈ s.env.map (·.1)
      · obtain ⟨p, hp, rfl⟩ := List.mem_map.1 hi
        exact All2.map_inv q1 p hp
      · rw [lk_none hi]; exact .v1 (.top _)
    · have := All2.flatMap_inv (fun t _ => cell_rel h t) q4 t (mem_outs.2 ⟨by rw [ho]; simp, h1⟩)
      unfold cellA cellV at this
      rw [ho, hb] at this
      simp only [hh] at this
      have key : ∀ {cs : List AC} {xs : List Value}, All2 (VRel A' τ' w') (cs.map .one) xs → All2 (CRel A' τ' w') cs xs := by
        intro cs
        induction cs with
        | nil => intro xs h; cases h; exact .nil
        | cons c cs ih =>
          intro xs h
          simp only [List.map_cons] at h
          cases h with
          | cons h t => exact .cons (one_inv h) (ih t)
      exact key this
theorem callM_run {f : FuncId} {vs : List AV} {r : AV} {fr : List Nat} {xs : List Value} (hm : MutC G.P f vs σ0 r σ1 fr) (h : SimAt G s a w A τ) (hvs : All2 (VRel A τ w) vs xs)
    (hσ : ∀ t, lo σ0 t = lo s.σ t ∨ lo σ0 t = .none) (hk : ∀ t, lo σ0 t ≠ .none → t ∈ σ1.map (·.1)) (hfr : ∀ d ∈ fr, s.Nr d ∧ lo s.σ d = .none) :
    Calls G.P f ⟨xs⟩ w fun e w' => ∃ x A' τ', e = .returned x ∧ SimAt G { s with σ := σ1 ++ s.σ } a w' A' τ' ∧ VRel A' τ' w' r x :=
  (callC_run (C := fun R => Calls G.P f ⟨xs⟩ w R) (fun h k => h.mono k) (fun ex exs h1 h2 h3 h4 => hm.calls A τ w xs _ _ h.alt hvs h1 h2 h3 h4) h hσ hk
    (fun d hd => ⟨(hfr d hd).1.env, (hfr d hd).1.ex, fun t _ => (hfr d hd).1.obj t, .inl (hfr d hd).2⟩)).mono fun _ _ ⟨x, A', τ', h1, _, h2, h3⟩ => ⟨x, A', τ', h1, h2, h3⟩
end run
end Go.AM

