import Derived.Test.YtjefhneggfbjfaaAmF
import Derived.RangeFuncFrom
namespace Go.AM
open Go.RowKit (Below)
set_option linter.unusedSimpArgs false
set_option linter.unusedVariables false

/-- a round of a loop over a function: of these values, and these objects, it goes on, and makes those of the objects -/
def YieldC (P : Program) (R : Loop) (l : Nat) (vs : List AV) (σ σ' : Sto) (fr : List Nat) (cA : List AV) (cV : List Value) : Prop :=
  ∀ (F : Fence) (n : Nat) (A : Nat → Prop) (τ : Tau) (w : World) (xs : List Value) (ex : List AV) (exs : List Value), FOk F → (∀ b, A b → b < w.heap.size) → All2 (VRel A τ w) vs xs →
    All2 (VRel A τ w) (cA ++ ex) (cV ++ exs) → (∀ d ∈ fr, ∀ v ∈ cA ++ ex, v.has d = false) → (∀ t, ORel (fun _ => True) A τ w t (lo σ t)) → SepS σ τ → w.heap[l]? = some (.loop R) → ¬ A l →
    YieldAt F n P l ⟨xs⟩ w (MPost A τ w σ σ' (pbool true) (cA ++ ex) (cV ++ exs))

theorem YieldC.more {P : Program} {R : Loop} {l : Nat} {vs : List AV} {σ σ' : Sto} {fr : List Nat} {cA : List AV} {cV : List Value} (h : YieldC P R l vs σ σ' fr cA cV) (ex : List AV) (exs : List Value) :
    YieldC P R l vs σ σ' fr (cA ++ ex) (cV ++ exs) := by
  intro F n A τ w xs ex' exs' hF hA hx he hfr ho hs hl hAl
  simp only [List.append_assoc] at he hfr ⊢
  exact h F n A τ w xs (ex ++ ex') (exs ++ exs') hF hA hx he hfr ho hs hl hAl

theorem YieldAt.mono {F : Fence} {m : Nat} {P : Program} {l : Nat} {args : Array Value} {W : World} {R R' : Ending → World → Prop} (h : YieldAt F m P l args W R) (k : ∀ e w, R e w → R' e w) : YieldAt F m P l args W R' := by
  obtain ⟨fn, t, x, y, h1, h2⟩ := h
  exact ⟨fn, t, x, y, h1, h2.mono k⟩

/-- a call of what goes on with a loop over a function -/
structure YStep (G : Ground) (f : Opd) (as : List Opd) (s : AS) (σ1 : Sto) (R : Loop) (l : Nat) (σ0 : Sto) (fr : List Nat) : Prop where
  fget : get s.env f = .one (.raw (.func (.yield l) #[] #[]))
  recd : G.w0.heap[l]? = some (.loop R)
  ow : ¬ G.ow l
  a0 : ¬ G.A0 l
  sub : ∀ t, lo σ0 t = lo s.σ t ∨ lo σ0 t = .none
  keys : ∀ t, lo σ0 t ≠ .none → t ∈ σ1.map (·.1)
  frok : ∀ d ∈ fr, FrOk s σ1 d
  yield : YieldC G.P R l (gets s.env as) σ0 σ1 fr s.ex G.exv

section
variable {P : Program} {G : Ground} {a : Act} {w : World} {F : Fence} {n : Nat}

theorem call_inv {o : Oper} {f : Opd} {as : List Opd} (hc : compA P o.op = some (.call f as)) : ∃ cl : Call, o.op = .call cl ∧ ∃ fo, cl.callee = .value fo ∧ opd fo = some f ∧ opds cl.args.toList = some as := by
  unfold compA at hc
  split at hc
  · cases hc
  · split at hc
    · cases hc
    · split at hc
      · cases hc
      · split at hc
        · rename_i fo args argTypes heq
          obtain ⟨f', hf', hc⟩ := bind_some' hc
          obtain ⟨as', has', hc⟩ := map_some' hc
          cases hc
          exact ⟨_, heq, _, rfl, hf', has'⟩
        · cases hc

theorem raw_inv {A : Nat → Prop} {τ : Tau} {w : World} {x y : Value} (h : VRel A τ w (.one (.raw x)) y) : y = x := by
  have := one_inv h
  cases this with | c0 h => cases h with | raw => rfl

theorem yield_sound (hF : FOk F) {o : Oper} {f : Opd} {as : List Opd} (hc : compA G.P o.op = some (.call f as)) {s : AS} {σ1 : Sto} {R : Loop} {l : Nat} {σ0 : Sto} {fr : List Nat} (hs : SimS G s a w)
    (hy : YStep G f as s σ1 R l σ0 fr) (hd : ∀ t, o.dst = some t → t < G.nt) {K : Act → World → Prop} {Q : Exit → Act → World → Prop}
    (hK : ∀ a' w', SimS G (putd o.dst (pbool true) { s with σ := σ1 ++ s.σ }) a' w' → K a' w') : o.wpIn F n G.P a w K Q := by
  have hnd := compA_nodefer hc
  obtain ⟨A, τ, hs⟩ := hs
  refine wpIn_of_run hF hnd ?_
  obtain ⟨cl, hop, fo, hcallee, hfo, has⟩ := call_inv hc
  have hfv := opd_sound hs hfo
  rw [hy.fget] at hfv
  have hav := opds_sound hs has
  have hz := raw_inv hfv
  have hlN : l < G.N := heap_lt hy.recd
  have hl : w.heap[l]? = some (.loop R) := (hs.below.block l hlN hy.ow).trans hy.recd
  have hAl : ¬ A l := fun h => by
    rcases hs.a1 l h with h1 | h1 | h1
    · exact hy.a0 h1
    · omega
    · exact hy.ow h1
  have hrun : (execOp a.eval o).run G.P w = (Instr.yield l ⟨cl.args.toList.map a.eval⟩).run G.P w := by
    have harr : (#[] : Array Value) ++ cl.args.map a.eval = ⟨cl.args.toList.map a.eval⟩ := by
      apply Array.ext'; simp
    simp only [execOp, hop, Sem.run_bind, resolve, hcallee, Deferred.ofValue, hz, Sem.run_pure, Result.andThen_ok, invoke, harr]
  have hY := callC_run (C := fun R' => YieldAt F (n - 1) G.P l ⟨cl.args.toList.map a.eval⟩ w R') (r := pbool true) (fr := fr) (fun h k => YieldAt.mono h k)
    (fun ex exs h1 h2 h3 h4 => hy.yield F (n - 1) A τ w _ ex exs hF hs.alt hav h1 h2 h3 h4 hl hAl) hs hy.sub hy.keys hy.frok
  obtain ⟨fn, tmps, x, y, h1, h2⟩ := hY
  rw [hrun, h1, Oper.uponIn_round]
  refine ⟨(fun hd => by rw [hF.depth] at hd; cases hd), h2.mono ?_⟩
  rintro e w' ⟨x, A', τ', rfl, _, hs', hr⟩
  refine hK _ _ ?_
  cases hdst : o.dst with
  | none => exact ⟨A', τ', hs'⟩
  | some t => exact ⟨A', τ', hs'.put (hd t hdst) hr⟩
end
end Go.AM

