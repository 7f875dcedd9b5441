import Derived.Test.YtphnlpfkenannaaGreatMx31
import Derived.ProofKit
import Derived.HandedShaped
import Derived.ChangeArms
import Derived.DataReads
import Derived.Test.YtphnlpfkenannaaGreatRows
set_option linter.unusedVariables false
set_option linter.unusedSimpArgs false
namespace Go.AM
open Go Go.Proofs
set_option maxRecDepth 100000
set_option maxHeartbeats 16000000

theorem MutC.ofPure {P : Program} {f : FuncId} {vs : List AV} {σ σ' : Sto} {ds : List DV} {r : DV} (h : PureC P f ds r) (hd : toDs 6 vs σ = some (ds, σ')) : MutC P f vs σ r.av σ' [] := by
  refine ⟨h.enters, fun A τ w xs ex exs hA hxs hex hfr hob hsp => ?_⟩
  let G : Ground := { P := P, w0 := w, A0 := A, nt := 0, exv := exs, ow := owOf σ τ }
  have hs : SimAt G { env := [], σ := σ, ex := ex } { tmps := #[], defers := [] } w A τ :=
    ⟨⟨rfl, rfl, rfl, Nat.le_refl _, fun _ _ _ => rfl⟩, fun _ hb => hb, fun _ hb => .inl hb, hA, rfl, fun i => .v1 (.top _), fun t => (hob t).monoM fun b hm hb _ => .inr ⟨t, hm, hb⟩, hsp, hex, trivial⟩
  obtain ⟨A2, i2, s2, k2⟩ := toDs_sound vs { env := [], σ := σ, ex := ex } σ' ds A hs hd
  refine (h.calls A2 w xs s2.alt (k2 _ hxs)).mono ?_
  rintro e w' ⟨x, rfl, hb, hr⟩
  have hs3 : SimAt G { env := [], σ := σ', ex := ex } { tmps := #[], defers := [] } w' (Anew A2 w w') τ :=
    s2.world (WStep.below hb) (fun b hb => .inl hb) (fun b hb => hb) (fun _ hf => hf.elim) (fun _ _ _ _ hf => hf) (WStep.below hb).dfr0
  exact ⟨x, _, τ, rfl, ⟨hs3.below.os, hs3.below.tape, hs3.below.output, hs3.below.size, hs3.below.block, hs3.a0, fun b hb => (hs3.a1 b hb).imp id fun hM => hM.symm, hs3.alt⟩, fun t => hs3.obj t, hs3.sep, hr.av, hs3.ex⟩
theorem p_few15 (l : List Nd) (input : Tn) (ps : List Tn) (hl0 : l.length ≤ MaxN) (hl : ps.length ≤ MaxN) : PureC Tryz.prog fi_fullerlaw15_few [dNds l, dT input.1 input.2, dTs ps] (dB (fewN l && (fewT input.1 input.2 && fewTs 10 ps))) := by
  refine pure_fullerlaw15_few (by simp) fun G hP hn => ?_
  have k0 := p_ref10_Few l hl0
  have k1 := p_ref03_Few input.1 input.2
  have k2 := p_ref09_Few ps 10 hl
  cases h0 : fewN l
  · rw [h0] at k0
    refine go trivial k0 ?_
    exact ends_ret rfl rfl rfl rfl
  rw [h0] at k0
  cases h : fewT input.1 input.2
  · rw [h] at k1
    refine go trivial (aa k0 k1) ?_
    exact ends_ret rfl rfl rfl rfl
  · rw [h] at k1
    refine go trivial (aa k0 <| aa k1 k2) ?_
    exact ends_ret rfl rfl rfl rfl
def gL : List Nd := [⟨2, [], [1]⟩, ⟨12, [0, 0], []⟩]
def gP : List Tn := [([], []), ([], [12884901888])]
def gV : List Tn := [([], [12884901888]), ([], [38654705664])]
theorem ga1 : evAll gL ([], []) gP = (gV, -1, 0) := by decide +kernel
theorem ga2 : evAll [] ([], []) gP = ([], -1, 100) := by decide +kernel
theorem ga3 : evAll [⟨1, [], [2]⟩] ([2], [1, 2]) [] = ([([2], [1, 2])], -1, 0) := by decide +kernel
theorem ga4 : twoF fMul [] [4294967296] [] [12884901888] = (([], [12884901888]), 0) := by decide +kernel
theorem ga5 : twoF fAdd [] [12884901888] [] [12884901888] = (([], [25769803776]), 0) := by decide +kernel
theorem ga6' : backP ⟨12, [0, 0], []⟩ [([], [12884901888]), ([], [12884901888])] ([], [38654705664]) ([], [4294967296]) [(([], [12884901888]), 0), (([], [12884901888]), 0)] = ([([], [12884901888]), ([], [12884901888])], 0) := by decide +kernel
theorem ga7 : outL gV [(1, ([], [25769803776]))] gL 0 (List.replicate 8 ([], [])) = [([], []), ([], [25769803776]), ([], []), ([], []), ([], []), ([], []), ([], []), ([], [])] := by decide +kernel
theorem ga8 : liveF gL = [0, 1] := by decide +kernel
def gH : Nat → Ts := fun k => if k = 0 then [(1, ([], [4294967296]))] else [(1, ([], [4294967296])), (0, ([], [25769803776]))]
def gHs : Nat → Ts := fun k => if k = 0 then [(1, ([], [4294967296]))] else if k = 1 then [(1, ([], [4294967296])), (0, ([], [12884901888]))] else [(1, ([], [4294967296])), (0, ([], [25769803776]))]
def gD : Nat → Ts := fun k => if k ≤ 1 then [] else [(1, ([], [25769803776]))]
theorem k_awake : PureC Tryz.prog fi_grad_All [dNds gL, dT [] [], dTs gP] (dG [([], []), ([], [25769803776]), ([], []), ([], []), ([], []), ([], []), ([], []), ([], [])] 38654705664 (-1) 0) := by
  have iP : ∀ x ∈ gP, I64s x.2 := fun x hx => by
    simp only [gP, List.mem_cons, List.not_mem_nil, or_false] at hx
    rcases hx with rfl | rfl
    · exact I64s.nil
    · exact i64s_dec (by decide)
  have kA : PureC Tryz.prog fi_eval_All [dNds gL, dT [] [], dTs gP] _ := p_eval_All gL ([], []) gP (by decide) (by decide) (by decide) I64s.nil iP (fun n hn => by
    simp only [gL, List.mem_cons, List.not_mem_nil, or_false] at hn
    rcases hn with rfl | rfl
    · exact i64s_dec (by decide)
    · exact I64s.nil)
  rw [ga1] at kA
  have i1 : I64s [4294967296] := i64s_dec (by decide)
  have i3 : I64s [12884901888] := i64s_dec (by decide)
  have f1 : PureC Tryz.prog fi_tensor_Fold [dT [] [12884901888], dI []] (dTE (([], [12884901888]), 0)) := by
    have := p_tensor_Fold (s := []) (d := [12884901888]) (g := []) (by decide +kernel) (by decide +kernel) i3 (by unfold FoldOk; decide +kernel)
    rw [show foldD [] [12884901888] [] = [12884901888] from by decide +kernel] at this
    exact this
  have tm : PureC Tryz.prog fi_elem_Two [dN 12, dT [] [4294967296], dT [] [12884901888]] (dTE (([], [12884901888]), 0)) := by have := k_Mul (s := []) (t := []) i1 i3; rw [ga4] at this; exact this
  have ta : PureC Tryz.prog fi_elem_Two [dN 10, dT [] [12884901888], dT [] [12884901888]] (dTE (([], [25769803776]), 0)) := by have := k_Add (s := []) (t := []) i3 i3; rw [ga5] at this; exact this
  have kB : PureC Tryz.prog fi_vjp_Back [dNd ⟨12, [0, 0], []⟩, dTs [([], [12884901888]), ([], [12884901888])], dT [] [38654705664], dT [] [4294967296]] _ := p_vjp_Back ⟨12, [0, 0], []⟩ [([], [12884901888]), ([], [12884901888])] ([], [38654705664]) ([], [4294967296]) [vbV 12 1 0, vbV 12 0 1] [(([], [12884901888]), 0), (([], [12884901888]), 0)] (by decide) rfl (by decide) rfl (fun _ k hk => by
    have : k = 0 ∨ k = 1 := by simp at hk; omega
    rcases this with rfl | rfl
    · exact ⟨_, _, rfl, m_by (t := [([], [12884901888]), ([], [12884901888])]) (g := ([], [4294967296])) (x := ([], [12884901888])) (w := 1) (k := 0) (by decide) (by decide) tm f1⟩
    · exact ⟨_, _, rfl, m_by (t := [([], [12884901888]), ([], [12884901888])]) (g := ([], [4294967296])) (x := ([], [12884901888])) (w := 0) (k := 1) (by decide) (by decide) tm f1⟩)
  rw [ga6'] at kB
  have := p_grad_All_ok (l := gL) (input := ([], [])) (ps := gP) (V := gV) (x := 38654705664) (lv := [1, 0]) (H := gH) (D := gD) kA (by decide) (by decide) rfl (by decide +kernel) rfl (by decide +kernel) (by decide +kernel) ga8 (by decide) (by decide +kernel) rfl (fun k hk => by
    have : k = 0 ∨ k = 1 := by simp at hk; omega
    rcases this with rfl | rfl
    · exact m_downN (l := gL) (V := gV) (H := gH 0) (D := gD 0) (i := 1) (L := [([], [12884901888]), ([], [12884901888])]) (Hs := gHs) rfl (by decide) (w := ([], [4294967296])) rfl (by decide) (by decide) (by decide) kB (by decide) rfl (fun k hk => by
        have : k = 0 ∨ k = 1 := by simp at hk; omega
        rcases this with rfl | rfl
        · exact ⟨([], [12884901888]), rfl, .inl ⟨rfl, rfl⟩⟩
        · exact ⟨([], [25769803776]), rfl, .inr ⟨([], [12884901888]), rfl, ta⟩⟩)
    · exact m_downP (l := gL) (V := gV) (H := gH 1) (D := gD 1) (i := 0) (args := []) (nums := []) (p := 1) (w := ([], [25769803776])) rfl rfl ⟨([], [25769803776]), rfl, .inl ⟨rfl, rfl⟩⟩)
  rw [show gD ([1, 0] : List Nat).length = [(1, ([], [25769803776]))] from rfl, ga7] at this
  exact this
theorem p_awake15 : PureC Tryz.prog fi_fullerlaw15_awake [] (dB true) := by
  refine pure_fullerlaw15_awake (by simp) fun G hP hn => ?_
  have k1 := k_awake
  have k2 : PureC Tryz.prog fi_grad_All [dNds [], dT [] [], dTs gP] (dG [] 0 (-1) 100) := by
    have kA : PureC Tryz.prog fi_eval_All [dNds [], dT [] [], dTs gP] _ := p_eval_All [] ([], []) gP (by decide) (by decide) (by decide) I64s.nil (fun x hx => by
      simp only [gP, List.mem_cons, List.not_mem_nil, or_false] at hx
      rcases hx with rfl | rfl
      · exact I64s.nil
      · exact i64s_dec (by decide)) (fun n hn => absurd hn List.not_mem_nil)
    rw [ga2] at kA
    exact p_grad_All_err (input := ([], [])) kA (by decide)
  have k3 : PureC Tryz.prog fi_grad_All [dNds [⟨1, [], [2]⟩], dT [2] [1, 2], dTs []] (dG [] 0 0 150) := by
    have kA : PureC Tryz.prog fi_eval_All [dNds [⟨1, [], [2]⟩], dT [2] [1, 2], dTs []] _ := p_eval_All [⟨1, [], [2]⟩] ([2], [1, 2]) [] (by decide) (by decide) (by decide) (i64s_dec (by decide)) (fun x hx => absurd hx List.not_mem_nil) (fun n hn => by rw [List.mem_singleton.1 hn]; exact i64s_dec (by decide))
    rw [ga3] at kA
    exact p_grad_All_loss (input := ([2], [1, 2])) (V := [([2], [1, 2])]) kA (by decide) (by decide) rfl (by decide)
  have j1 := c_same' [25769803776]
  refine goL trivial trivial ?_
  exact ends_ret rfl rfl rfl rfl
end Go.AM

namespace Go.AM
open Go Go.Proofs
set_option maxRecDepth 100000
set_option maxHeartbeats 16000000

abbrev cN (n : Int) : Nd := ⟨3, [], [n]⟩
theorem checkG_const {l : List Nd} (n : Int) (h : l.length ≤ 23) : checkG (l ++ [cN n]) = (decide (l = []) || checkG l) := by
  unfold checkG
  rw [walkG_append]
  cases hw : walkG 0 [] l with
  | none =>
    have : l ≠ [] := fun e => by subst e; cases hw
    simp [this]
  | some m =>
    have e1 : walkG (0 + l.length) m [cN n] = some m := rfl
    simp only [Option.bind, e1, Option.isSome_some, Bool.true_and, List.length_append, List.length_cons, List.length_nil]
    by_cases h0 : l = []
    · subst h0; rfl
    · have : 0 < l.length := List.length_pos_iff.2 h0
      rw [decide_eq_true (by omega), decide_eq_false h0, decide_eq_true (by omega)]; rfl
theorem infer_const (n : Int) : inferF 3 [n] [] = ([], 0) := by
  have h : inferOk 3 [n] [] = true := rfl
  unfold inferF; rw [if_pos h]; rfl
theorem node_const (n : Int) (i : Tn) (p : List Tn) : nodeF (cN n) [] i p = (([], [n]), 0) := by
  have h1 : nodeF (cN n) [] i p = fullF [] n := by
    unfold nodeF
    rw [if_pos (by show ([] : List Tn).all (fun x => checkT x.1 x.2) = true; rfl), if_pos (by show (inferF 3 [n] []).2 = 0; rw [infer_const]), if_neg (by show ¬ (3 : Int) = 1; decide), if_neg (by show ¬ (3 : Int) = 2; decide), if_pos (by show (3 : Int) = 3; rfl)]
    rfl
  rw [h1, full_is _ (by decide)]; rfl
theorem evAll_const {l : List Nd} {i : Tn} {p : List Tn} (n : Int) (h : l.length ≤ 23) :
    ((l = [] ∨ (evAll l i p).2.2 = 0) → evAll (l ++ [cN n]) i p = ((evAll l i p).1 ++ [([], [n])], -1, 0)) ∧ (l ≠ [] → (evAll l i p).2.2 ≠ 0 → (evAll (l ++ [cN n]) i p).2.2 = (evAll l i p).2.2) := by
  have hc := checkG_const n h
  by_cases h0 : l = []
  · subst h0
    refine ⟨fun _ => ?_, fun h => absurd rfl h⟩
    have hS : shapesF ([] ++ [cN n]) = ([[]], -1, 0) := by
      unfold shapesF; rw [hc]; simp only [List.nil_append, shapesL, List.map_nil, infer_const]; rfl
    have hE : evAll [] i p = ([], -1, 100) := rfl
    have hE2 : evAll ([] ++ [cN n]) i p = ([([], [n])], -1, 0) := by
      unfold evAll
      rw [hS]
      simp only [List.nil_append, evLst, List.map_nil, node_const]; rfl
    rw [hE2, hE]; rfl
  rw [decide_eq_false h0, Bool.false_or] at hc
  unfold evAll shapesF
  rw [hc]
  cases hk : checkG l
  · simp only [Bool.false_eq_true, if_false]
    exact ⟨fun h => absurd h (by simp [h0]), fun _ _ => rfl⟩
  simp only [if_true]
  rw [shapesL_append, evLst_append]
  by_cases hz : (shapesL l []).2.2 = 0
  rotate_left
  · rw [if_neg hz, if_neg hz, if_neg hz]
    exact ⟨fun h => absurd h (by simp [h0, hz]), fun _ _ => rfl⟩
  have hz2 : (shapesL [cN n] (shapesL l []).1).2.2 = 0 := by
    simp only [shapesL, List.map_nil, infer_const]; rfl
  rw [if_pos hz, if_pos hz, if_pos hz2]
  by_cases hy : (evLst i p l []).2.2 = 0
  · refine ⟨fun _ => ?_, fun _ h => absurd hy h⟩
    rw [if_pos hy]
    simp only [evLst, List.map_nil, node_const]; rfl
  · rw [if_neg hy]
    exact ⟨fun h => absurd h (by simp [h0, hy]), fun _ _ => rfl⟩
theorem live_skip (l : List Nd) (N : Nat) (out : List Int) : ∀ r, r ≤ N → liveK l r [((N : Int), true)] out = out.reverse
  | 0, _ => rfl
  | r + 1, h => by
    simp only [liveK]
    have : lkI (r : Int) [((N : Int), true)] = none := by simp only [lkI]; rw [if_neg (by omega)]
    rw [this, if_neg (by simp)]
    exact live_skip l N out r (by omega)
theorem live_const {l : List Nd} {n : Int} (hc : checkG (l ++ [cN n]) = true) : liveF (l ++ [cN n]) = [(l.length : Int)] := by
  unfold liveF
  rw [if_pos hc]
  have e : (l ++ [cN n]).length = l.length + 1 := by simp
  rw [e]
  have e2 : (((l.length + 1 : Nat) : Int) - 1) = (l.length : Int) := by omega
  rw [e2]
  simp only [liveK]
  have e3 : lkI (l.length : Int) [((l.length : Int), true)] = some true := by simp [lkI]
  rw [e3]
  simp only [Option.getD_some, if_true]
  have e4 : ((l ++ [cN n])[l.length]?).getD ⟨0, [], []⟩ = cN n := by rw [List.getElem?_append_right (Nat.le_refl _), Nat.sub_self]; rfl
  rw [e4]
  show liveK _ l.length [((l.length : Int), true)] ([] ++ [(l.length : Int)]) = _
  rw [live_skip _ _ _ _ (Nat.le_refl _)]; rfl
def Zs (G : List Tn) : Prop := ∀ t ∈ G, (∀ x ∈ t.2, x = 0) ∧ t.2.length ≤ 64
theorem full_zero (s : List Int) : (∀ x ∈ (fullF s 0).1.2, x = 0) ∧ (fullF s 0).1.2.length ≤ 64 := by
  unfold fullF
  split
  · refine ⟨fun x hx => List.eq_of_mem_replicate hx, ?_⟩
    have := sizeS_nn s
    simp only [List.length_replicate]; omega
  · exact ⟨fun x hx => absurd hx List.not_mem_nil, Nat.zero_le _⟩
theorem outL_zero (V : List Tn) : ∀ (l : List Nd) (i : Nat) (acc : List Tn), Zs acc → Zs (outL V [] l i acc) ∧ (outL V [] l i acc).length = acc.length
  | [], _, acc, h => ⟨h, rfl⟩
  | n :: l, i, acc, h => by
    simp only [outL]
    split
    · have := outL_zero V l (i + 1) (acc.set (hd n.nums 0).toNat (fullF (gT V i).1 0).1) (fun t ht => by
        rcases List.mem_or_eq_of_mem_set ht with ht | rfl
        · exact h t ht
        · exact full_zero _)
      rw [List.length_set] at this
      exact this
    · exact outL_zero V l (i + 1) acc h
theorem check_num (n : Int) : checkT [] [n] = true := rfl
theorem k_const {l : List Nd} {input : Tn} {ps : List Tn} (n : Int) (h23 : l.length ≤ 23) (hlA : ∀ n ∈ l, n.args.length ≤ MaxN) (hps : ps.length ≤ MaxN) (hi64 : I64s input.2) (hp64 : ∀ x ∈ ps, I64s x.2) (hn64 : ∀ n ∈ l, I64s n.nums) (hn : I64 n) :
    ∃ G x at_ e, PureC Tryz.prog fi_grad_All [dNds (l ++ [cN n]), dT input.1 input.2, dTs ps] (dG G x at_ e) ∧ ((l = [] ∨ (evAll l input ps).2.2 = 0) → e = 0 ∧ x = n ∧ G.length = 8 ∧ Zs G) ∧ (l ≠ [] → (evAll l input ps).2.2 ≠ 0 → e = (evAll l input ps).2.2) := by
  have hM : MaxN = 140737488355328 := rfl
  have hlen : (l ++ [cN n]).length = l.length + 1 := by simp
  have kA := p_eval_All (l ++ [cN n]) input ps (by omega) (fun m hm => by
    rcases List.mem_append.1 hm with hm | hm
    · exact hlA m hm
    · rw [List.mem_singleton.1 hm]; exact Nat.zero_le _) hps hi64 hp64 (fun m hm => by
    rcases List.mem_append.1 hm with hm | hm
    · exact hn64 m hm
    · rw [List.mem_singleton.1 hm]; intro x hx; rw [List.mem_singleton.1 hx]; exact hn)
  obtain ⟨q1, q2⟩ := evAll_const (l := l) (i := input) (p := ps) n h23
  by_cases hb : l = [] ∨ (evAll l input ps).2.2 = 0
  rotate_left
  · simp only [not_or] at hb
    have he := q2 hb.1 hb.2
    exact ⟨_, _, _, _, p_grad_All_err kA (by rw [he]; exact hb.2), fun h => absurd h (by simp [hb]), fun _ _ => he⟩
  have hE := q1 hb
  have hVl : ((evAll l input ps).1).length = l.length := by
    rcases hb with rfl | hb
    · rfl
    · exact (evAll_ok hb).2.2.1
  rw [hE] at kA
  have hok : (evAll (l ++ [cN n]) input ps).2.2 = 0 := by rw [hE]
  obtain ⟨s1, s2, _, _⟩ := evAll_ok hok
  have hck := (shapesF_ok s1).1
  have hshp := evAll_shapes hok
  have hcs := shapesL_check (l ++ [cN n]) [] rfl (by rw [← (shapesF_ok s1).2.1]; exact s1)
  rw [← (shapesF_ok s1).2.1, hshp, hE] at hcs
  generalize (evAll l input ps).1 = V0 at *
  obtain ⟨V, hV⟩ : ∃ V, V = V0 ++ [(([] : List Int), [n])] := ⟨_, rfl⟩
  rw [← hV] at kA hcs
  have hl1 : V.length = (l ++ [cN n]).length := by rw [hV]; simp [hVl]
  have hgl : gT V l.length = ([], [n]) := by unfold gT; rw [hV, List.getElem?_append_right (by omega), hVl, Nat.sub_self]; rfl
  have e1 : (l ++ [cN n]).length - 1 = l.length := by omega
  have hnd : (l ++ [cN n])[l.length]? = some (cN n) := by rw [List.getElem?_append_right (Nat.le_refl _), Nat.sub_self]; rfl
  have hH0 : oneT V (l ++ [cN n]) = ([], [4294967296]) := by
    show (fullF (gT V ((l ++ [cN n]).length - 1)).1 4294967296).1 = _
    rw [e1, hgl, full_is _ (by show checkS [] = true; rfl)]; rfl
  have kB : PureC Tryz.prog fi_vjp_Back [dNd (cN n), dTs [], dT [] [n], dT [] [4294967296]] (.tup [dTs [], dN 0]) := by
    have := p_vjp_Back (cN n) [] ([], [n]) ([], [4294967296]) [] [] (by decide) rfl (by decide) rfl (fun _ k hk => absurd hk (Nat.not_lt_zero _))
    have hb : backP (cN n) [] ([], [n]) ([], [4294967296]) [] = ([], 0) := by
      unfold backP
      simp only [List.map_nil]
      rw [if_pos (by rw [check_num, check_num]; rfl), infer_const, if_pos rfl, if_pos ⟨rfl, rfl⟩]; rfl
    rw [hb] at this; exact this
  have kG := p_grad_All_ok (l := l ++ [cN n]) (input := input) (ps := ps) (V := V) (x := n) (lv := [l.length]) (H := fun _ => [((((l ++ [cN n]).length - 1 : Nat) : Int), oneT V (l ++ [cN n]))]) (D := fun _ => []) kA (by omega) (by omega) hl1 hck (by rw [e1, hgl]) (by rw [e1, hgl]; rfl) (fun t ht => by
    exact List.all_eq_true.1 hcs t.1 (List.mem_map.2 ⟨t, ht, rfl⟩)) (live_const hck) (by show 1 ≤ 24; decide) rfl rfl (fun k hk => by
    have : k = 0 := by simp at hk; omega
    subst this
    refine m_downN (i := l.length) (L := []) (Hs := fun _ => [((((l ++ [cN n]).length - 1 : Nat) : Int), oneT V (l ++ [cN n]))]) hnd (by decide) (w := ([], [4294967296])) ?_ (fun a ha => absurd ha List.not_mem_nil) (by decide) (by omega) ?_ (by decide) rfl (fun k hk => absurd hk (Nat.not_lt_zero _))
    · rw [hH0]; simp only [lkI]; rw [if_pos (by rw [e1])]
    · rw [hgl]; exact kB)
  obtain ⟨z1, z2⟩ := outL_zero V (l ++ [cN n]) 0 (List.replicate 8 ([], [])) (fun t ht => by rw [List.eq_of_mem_replicate ht]; exact ⟨fun x hx => absurd hx List.not_mem_nil, Nat.zero_le _⟩)
  refine ⟨_, _, _, _, kG, fun _ => ⟨rfl, rfl, by rw [z2]; rfl, z1⟩, fun h1 h2 => ?_⟩
  rcases hb with hb | hb
  · exact absurd hb h1
  · exact absurd hb h2
end Go.AM

namespace Go.AM
open Go.RowKit (Below)

mutual
inductive Conf (P : Program) : TypeId → List PV → Prop
  | bool {t : TypeId} (b : Bool) (ht : P.underlying t = some .bool) : Conf P t [.bool b]
  | int {t : TypeId} {k : IntKind} (n : Int) (ht : P.underlying t = some (.int k)) (hw : (Lit.int k n).wf = true) : Conf P t [.int k n]
  | str {t : TypeId} (s : ByteArray) (ht : P.underlying t = some .string) : Conf P t [.str s]
  | sl {t e : TypeId} (rows : List (List PV)) (ht : P.underlying t = some (.slice e)) (h : ∀ r ∈ rows, Conf P e r) : Conf P t [.sl rows]
  | st {t : TypeId} {fs : Array Field} (parts : List (List PV)) (ht : P.underlying t = some (.struct fs)) (h : ConfAll P (fs.toList.map (·.type)) parts) : Conf P t parts.flatten
inductive ConfAll (P : Program) : List TypeId → List (List PV) → Prop
  | nil : ConfAll P [] []
  | cons {t : TypeId} {ts : List TypeId} {r : List PV} {rs : List (List PV)} (h : Conf P t r) (hs : ConfAll P ts rs) : ConfAll P (t :: ts) (r :: rs)
end
def contig (P : Program) : Nat → List Field → Nat → Bool
  | off, [], n => off == n
  | off, f :: fs, n => f.offset == off && contig P (off + P.cellsOf f.type) fs n
def okTy (P : Program) : Nat → TypeId → Bool
  | 0, _ => false
  | m + 1, t => match P.underlying t with
    | some .bool => P.cellsOf t == 1
    | some (.int _) => P.cellsOf t == 1
    | some .string => P.cellsOf t == 1
    | some (.slice e) => P.cellsOf t == 1 && decide (1 ≤ P.cellsOf e) && decide (1 ≤ P.bytesOf e) && okTy P m e
    | some (.struct fs) => contig P 0 fs.toList (P.cellsOf t) && fs.toList.all fun f => okTy P m f.type
    | _ => false
theorem flat_at {A : Nat → Prop} {w : World} {b c : Nat} : ∀ {rows : List (List PV)} {off : Nat}, (∀ r ∈ rows, r.length = c) → (∀ i r, rows[i]? = some r → PAt A w r b (off + i * c)) → PAt A w rows.flatten b off
  | [], off, _, _ => .atNil b off
  | r :: rows, off, h1, h2 => by
    simp only [List.flatten_cons]
    refine PAt.append (by simpa using h2 0 r rfl) ?_
    refine flat_at (fun r hr => h1 r (by simp [hr])) fun i r' hi => ?_
    have := h2 (i + 1) r' (by simpa using hi)
    rw [h1 r (by simp)]
    rwa [show off + (i + 1) * c = off + c + i * c from by rw [Nat.add_mul]; omega] at this
section
variable {H : Type} {enc : TypeId × Value → H} {P : Program} {w : World}
def inHeap (w : World) (b : Nat) : Prop := b < w.heap.size
theorem cell_lt {a : Addr} {v : Value} (h : w.cell? a = some v) : a.block < w.heap.size ∧ a.spot = none ∧ w.cell? ⟨a.block, a.off, none⟩ = some v := by
  unfold World.cell? at h ⊢
  split at h
  · rename_i c e z hb
    split at h
    · cases h
    · rename_i hs
      have : a.spot = none := by cases hz : a.spot <;> simp_all
      exact ⟨heap_lt hb, this, by simp [hb, h]⟩
  · cases h
theorem weights_mem {e : TypeId} {l : List (DataW H)} {n : Nat} (h : (DataW.weightsAll P e l).all (· ≤ n) = true) : ∀ d ∈ l, (d.weights P e).all (· ≤ n) = true := by
  induction l with
  | nil => intro d hd; simp at hd
  | cons x l ih =>
    simp only [DataW.weightsAll, List.all_append, Bool.and_eq_true] at h
    intro d hd
    rcases List.mem_cons.1 hd with rfl | hd
    · exact h.1
    · exact ih h.2 d hd
theorem reads_fields {total n : Nat} {cs : List Value} (hlen : cs.length = total) (ih : ∀ (t : TypeId), okTy P n t = true → ∀ (m : Nat) (cs : List Value) (d : DataW H) (ps : List MemPlace),
      DataW.trod enc P w 0 (fun _ => true) true m t cs = some (d, ps) → (d.weights P t).all (· ≤ reachBytes) = true → ∃ vs, Conf P t vs ∧ vs.length = P.cellsOf t ∧ PRels (inHeap w) w vs cs) {m : Nat} :
    ∀ (fs : List Field) (off : Nat) (xs : List (DataW H × List MemPlace)), contig P off fs total = true → (fs.all fun f => okTy P n f.type) = true → xs.length = fs.length →
      (∀ (i : Nat) (f : Field), fs[i]? = some f → DataW.trod enc P w 0 (fun _ => true) true m f.type ((cs.drop f.offset).take (P.cellsOf f.type)) = xs[i]?) →
      (DataW.weightsEach P (fs.map (·.type)) (xs.map (·.1))).all (· ≤ reachBytes) = true → off ≤ total →
      ∃ parts, ConfAll P (fs.map (·.type)) parts ∧ parts.flatten.length = total - off ∧ PRels (inHeap w) w parts.flatten (cs.drop off)
  | [], off, xs, h1, _, _, _, _, hle => by
    simp only [contig, beq_iff_eq] at h1
    subst h1
    exact ⟨[], .nil, by simp, by rw [List.drop_eq_nil_of_le (by omega)]; exact .psNil⟩
  | f :: fs, off, xs, h1, h2, h3, h4, h5, hle => by
    simp only [contig, Bool.and_eq_true, beq_iff_eq] at h1
    simp only [List.all_cons, Bool.and_eq_true] at h2
    obtain ⟨ho, h1⟩ := h1
    cases xs with
    | nil => simp at h3
    | cons x xs =>
      have e0 := h4 0 f rfl
      rw [ho] at e0
      simp only [List.getElem?_cons_zero] at e0
      simp only [List.map_cons, DataW.weightsEach, List.all_append, Bool.and_eq_true] at h5
      obtain ⟨vs, c1, c2, c3⟩ := ih f.type h2.1 m _ x.1 x.2 e0 h5.1
      have hlen2 := (PRels.all2.1 c3).length
      have hle2 : off + P.cellsOf f.type ≤ total := by
        rw [c2, List.length_take, List.length_drop] at hlen2
        omega
      obtain ⟨parts, p1, p2, p3⟩ := reads_fields hlen ih fs (off + P.cellsOf f.type) xs h1 h2.2 (by simpa using h3) (fun i f' hi => by simpa using h4 (i + 1) f' (by simpa using hi)) h5.2 hle2
      refine ⟨vs :: parts, .cons c1 p1, by simp only [List.flatten_cons, List.length_append, p2, c2]; omega, ?_⟩
      simp only [List.flatten_cons]
      have := PRels.all2.2 ((PRels.all2.1 c3).append (PRels.all2.1 p3))
      rwa [← List.drop_drop, List.take_append_drop] at this
theorem rows_of {α : Type} {Q : Nat → α → Prop} : ∀ (n : Nat), (∀ i, i < n → ∃ r, Q i r) → ∃ rows : List α, rows.length = n ∧ ∀ i r, rows[i]? = some r → Q i r
  | 0, _ => ⟨[], rfl, fun i r h => by simp at h⟩
  | n + 1, h => by
    obtain ⟨rows, h1, h2⟩ := rows_of n fun i hi => h i (by omega)
    obtain ⟨r, hr⟩ := h n (by omega)
    refine ⟨rows ++ [r], by simp [h1], fun i x hx => ?_⟩
    by_cases hi : i < n
    · rw [List.getElem?_append_left (by omega)] at hx; exact h2 i x hx
    · rw [List.getElem?_append_right (by omega)] at hx
      have : i = n := by
        by_cases e : i = n
        · exact e
        · rw [List.getElem?_eq_none (by simp; omega)] at hx; cases hx
      subst this
      rw [show i - rows.length = 0 from by omega] at hx
      simp at hx; subst hx; exact hr
theorem add_none (b off k : Nat) : (⟨b, off, none⟩ : Addr).add k = ⟨b, off + k, none⟩ := by
  unfold Addr.add
  split
  · rename_i h; subst h; rfl
  · rfl
theorem reads : ∀ (n : Nat) (t : TypeId), okTy P n t = true → ∀ (m : Nat) (cs : List Value) (d : DataW H) (ps : List MemPlace),
    DataW.trod enc P w 0 (fun _ => true) true m t cs = some (d, ps) → (d.weights P t).all (· ≤ reachBytes) = true → ∃ vs, Conf P t vs ∧ vs.length = P.cellsOf t ∧ PRels (inHeap w) w vs cs
  | 0, t, h => by simp [okTy] at h
  | n + 1, t, h => by
    intro m cs d ps hd hw
    unfold okTy at h
    split at h
    · rename_i ht
      obtain ⟨b, rfl, hx⟩ := DataW.trod_bool ht hd
      exact ⟨[.bool b], .bool b ht, by simpa using (beq_iff_eq.1 h).symm, .psCons _ _ _ _ (.bool b) .psNil⟩
    · rename_i k ht
      obtain ⟨z, rfl, hx, hwf⟩ := DataW.trod_int ht hd
      exact ⟨[.int k z], .int z ht hwf, by simpa using (beq_iff_eq.1 h).symm, .psCons _ _ _ _ (.int k z) .psNil⟩
    · rename_i ht
      obtain ⟨z, rfl, hx, _⟩ := DataW.trod_string ht hd
      exact ⟨[.str z], .str z ht, by simpa using (beq_iff_eq.1 h).symm, .psCons _ _ _ _ (.str z) .psNil⟩
    · rename_i e ht
      simp only [Bool.and_eq_true, beq_iff_eq, decide_eq_true_eq] at h
      obtain ⟨⟨⟨h1, h2⟩, h3⟩, h4⟩ := h
      rcases DataW.trod_slice ht hd with ⟨rfl, hx⟩ | ⟨a, len, cap, elems, rest, m', _, rfl, hx, _, hlc, hcm, hel, hget, hsp, _⟩
      · exact ⟨[.sl []], .sl [] ht (by simp), by simp [h1], .psCons _ _ _ _ (.nil none 0) .psNil⟩
      · obtain ⟨hrl, _⟩ := hsp rfl
        simp only [Prod.mk.injEq] at hx
        obtain ⟨rfl, _⟩ := hx
        simp only [DataW.weights, ht, List.all_cons, List.all_append, Bool.and_eq_true, decide_eq_true_eq, List.length_map] at hw
        obtain ⟨hw1, hw2, _⟩ := hw
        have hcap : cap ≤ reachBytes := by
          have : (elems.length + rest.length) * 1 ≤ (elems.length + rest.length) * P.bytesOf e := Nat.mul_le_mul_left _ h3
          omega
        have each : ∀ i, i < len → ∃ r, Conf P e r ∧ r.length = P.cellsOf e ∧ ∃ cs', w.cells? 0 (a.add (i * P.cellsOf e)) (P.cellsOf e) = some cs' ∧ PRels (inHeap w) w r cs' := by
          intro i hi
          have hi2 : i < elems.length := by omega
          have := hget i hi
          rw [List.getElem?_eq_getElem hi2] at this
          obtain ⟨cs', q1, q2⟩ := Option.bind_eq_some_iff.1 this
          obtain ⟨vs, r1, r2, r3⟩ := reads n e h4 m' cs' _ _ q2 (weights_mem hw2 _ (List.mem_map_of_mem (List.getElem_mem hi2)))
          exact ⟨vs, r1, r2, cs', q1, r3⟩
        obtain ⟨rows, hrows, hrow⟩ := rows_of len each
        have hconf : ∀ r ∈ rows, Conf P e r ∧ r.length = P.cellsOf e := by
          intro r hr
          obtain ⟨i, hi⟩ := List.getElem?_of_mem hr
          exact ⟨(hrow i r hi).1, (hrow i r hi).2.1⟩
        refine ⟨[.sl rows], .sl rows ht fun r hr => (hconf r hr).1, by simp [h1], .psCons _ _ _ _ ?_ .psNil⟩
        by_cases h0 : len = 0
        · subst h0
          have : rows = [] := List.length_eq_zero_iff.1 hrows
          subst this
          exact .nil (some a) cap
        · obtain ⟨_, _, _, cs', q1, q2⟩ := each 0 (by omega)
          obtain ⟨_, q3, q4⟩ := World.cells?_some q1
          have q5 := q4 0 (by omega)
          rw [List.getElem?_eq_getElem (by omega)] at q5
          have e1 : (a.add (0 * P.cellsOf e)).add 0 = a := by simp [Addr.add]
          rw [e1] at q5
          obtain ⟨z1, z2, _⟩ := cell_lt q5
          obtain ⟨b, off, spot⟩ := a
          simp only at z1 z2
          subst z2
          have hM : reachBytes ≤ MaxN := by decide
          have := Rel.sl (A := inHeap w) (w := w) rows b off cap (P.cellsOf e) z1 (fun r hr => (hconf r hr).2) (by omega) (by omega) (flat_at (fun r hr => (hconf r hr).2) fun i r hi => by
            obtain ⟨_, s2, cs', s3, s4⟩ := hrow i r hi
            obtain ⟨_, s5, s6⟩ := World.cells?_some s3
            refine PAt.of_get fun j v hj => ?_
            obtain ⟨x, hx, hr⟩ := (PRels.all2.1 s4).get j v hj
            refine ⟨x, ?_, hr⟩
            have := s6 j (by have := (List.getElem?_eq_some_iff.1 hj).1; omega)
            rw [add_none, add_none, hx] at this
            exact this)
          rw [hrows] at this
          exact this
    · rename_i fs ht
      simp only [Bool.and_eq_true] at h
      obtain ⟨xs, m', _, hx, hl, hxl, hf⟩ := DataW.trod_struct ht hd
      simp only [Prod.mk.injEq] at hx
      obtain ⟨rfl, _⟩ := hx
      simp only [DataW.weights, ht] at hw
      obtain ⟨parts, p1, p2, p3⟩ := reads_fields (m := m') hl (reads n) fs.toList 0 xs h.1 h.2 (by simpa using hxl) (fun i f hi => hf i f (by simpa using hi)) hw (Nat.zero_le _)
      exact ⟨parts.flatten, .st parts ht p1, by simpa using p2, by simpa using p3⟩
    · cases h
end
def ArgOk (P : Program) (t : TypeId) (d : DV) : Prop :=
  match P.underlying t with
  | some (.struct _) => ∃ vs, d = .agg vs ∧ Conf P t vs
  | _ => ∃ v, d = .one v ∧ Conf P t [v]
theorem arg_reads {H : Type} {enc : TypeId × Value → H} {P : Program} {w : World} {base n : Nat} {t : TypeId} {v : Value} {d : DataW H} {ps : List MemPlace} (ht : okTy P n t = true) (hv : Value.okWide P w .any base t v)
    (hd : DataW.Trod enc P w 0 (fun _ => true) true t v d ps) (hw : (d.weights P t).all (· ≤ reachBytes) = true) : ∃ x, ArgOk P t x ∧ DRel (inHeap w) w x v := by
  obtain ⟨m, hd⟩ := hd
  obtain ⟨vs, h1, h2, h3⟩ := reads n t ht m _ d ps hd hw
  have one : (∀ xs, v ≠ .agg xs) → P.cellsOf t = 1 → ∃ c, vs = [c] ∧ DRel (inHeap w) w (.one c) v := by
    intro hn hc
    have hcell : v.cells.toList = [v] := by cases v <;> first | rfl | exact absurd rfl (hn _)
    rw [hcell] at h3
    cases h3 with
    | psCons c _ cs _ h t =>
      cases t
      exact ⟨c, rfl, .d1 (.one h)⟩
  cases n with
  | zero => simp [okTy] at ht
  | succ n =>
  unfold okTy at ht
  unfold ArgOk
  unfold Value.okWide at hv
  split at ht
  · rename_i hu
    simp only [hu] at hv ⊢
    obtain ⟨c, rfl, hr⟩ := one (fun xs e => by subst e; simp [Cell.okWide, Cell.ok, hu] at hv) (by simpa using ht)
    exact ⟨_, ⟨c, rfl, h1⟩, hr⟩
  · rename_i k hu
    simp only [hu] at hv ⊢
    obtain ⟨c, rfl, hr⟩ := one (fun xs e => by subst e; simp [Cell.okWide, Cell.ok, hu] at hv) (by simpa using ht)
    exact ⟨_, ⟨c, rfl, h1⟩, hr⟩
  · rename_i hu
    simp only [hu] at hv ⊢
    obtain ⟨c, rfl, hr⟩ := one (fun xs e => by subst e; simp [Cell.okWide, Cell.ok, hu] at hv) (by simpa using ht)
    exact ⟨_, ⟨c, rfl, h1⟩, hr⟩
  · rename_i e hu
    simp only [hu] at hv ⊢
    simp only [Bool.and_eq_true, beq_iff_eq] at ht
    obtain ⟨c, rfl, hr⟩ := one (fun xs e => by subst e; simp [Cell.okWide, Cell.ok, hu] at hv) ht.1.1.1
    exact ⟨_, ⟨c, rfl, h1⟩, hr⟩
  · rename_i fs hu
    simp only [hu] at hv ⊢
    obtain ⟨cs, rfl, _, _⟩ := hv
    exact ⟨_, ⟨vs, rfl, h1⟩, .d1 (.agg (PRels.all2.1 h3))⟩
  · cases ht
theorem args_read {H : Type} {enc : TypeId × Value → H} {P : Program} {w : World} {base n : Nat} : ∀ {ts : List TypeId} {vs : List Value} {ds : List (DataW H)} {ps : List MemPlace}, (ts.all fun t => okTy P n t) = true →
    (∀ (j : Nat) t v, ts[j]? = some t → vs[j]? = some v → Value.okWide P w .any base t v) → DataW.TrodAll enc P w 0 (fun _ => true) true ts vs ds ps → (DataW.weightsEach P ts ds).all (· ≤ reachBytes) = true →
    ∃ xs, All2 (ArgOk P) ts xs ∧ All2 (DRel (inHeap w) w) xs vs
  | [], vs, ds, ps, _, _, h, _ => by
    cases vs <;> cases ds <;> simp [DataW.TrodAll] at h
    exact ⟨[], .nil, .nil⟩
  | t :: ts, vs, ds, ps, ht, hv, h, hw => by
    obtain ⟨v, vs', d, ds', p, q, rfl, rfl, rfl, h1, h2⟩ := Go.ChangeShapes.trodAll_cons h
    simp only [List.all_cons, Bool.and_eq_true] at ht
    simp only [DataW.weightsEach, List.all_append, Bool.and_eq_true] at hw
    obtain ⟨x, a1, a2⟩ := arg_reads ht.1 (hv 0 t v rfl rfl) h1 hw.1
    obtain ⟨xs, b1, b2⟩ := args_read ht.2 (fun j t v h3 h4 => hv (j + 1) t v (by simpa using h3) (by simpa using h4)) h2 hw.2
    exact ⟨x :: xs, .cons a1 b1, .cons a2 b2⟩
theorem args_carry {H : Type} {enc : TypeId × Value → H} {P : Program} (hl : laidOutB P = true) {W W' : World} {sp : Nat → Bool} : ∀ {ts : List TypeId} {vs : List Value} {ds : List (DataW H)} {ps : List MemPlace},
    (ts.all fun t => P.readableRec t && decide (t < P.types.size)) = true → DataW.TrodAll enc P W 0 (fun _ => true) true ts vs ds ps → (∀ p ∈ ps, W.sameAt W' p) → (∀ p ∈ ps, sp p.block = true) → DataW.TrodAll enc P W' 0 sp true ts vs ds ps
  | [], vs, ds, ps, _, h, _, _ => by cases vs <;> cases ds <;> simp [DataW.TrodAll] at h ⊢; exact h
  | t :: ts, vs, ds, ps, ht, h, h1, h2 => by
    obtain ⟨v, vs', d, ds', p, q, rfl, rfl, rfl, h3, h4⟩ := Go.ChangeShapes.trodAll_cons h
    simp only [List.all_cons, Bool.and_eq_true, decide_eq_true_eq] at ht
    exact ⟨p, q, Go.WideElems.Trod_stays hl ht.1.1 ht.1.2 h3 (fun x hx => h1 x (by simp [hx])) (fun x hx => h2 x (by simp [hx])), args_carry hl ht.2 h4 (fun x hx => h1 x (by simp [hx])) (fun x hx => h2 x (by simp [hx])), rfl⟩
theorem law_lifted {C : Checked} {os : Os} {f : FuncId} {fn : Func} {spec : ChangeSpec} {conds : List PathCond} {H : Type} {enc : TypeId × Value → H} {tb : TypeId} (n : Nat)
    (own : ownKnob C.prog.godebug = none) (started : os.Started) (noInit : C.prog.inits.idxOf? f = none) (hfn : C.prog.funcs[f]? = some fn)
    (witness : ∃ (w : World) (tape : Tape) (i : Input), w.os = os ∧ (w.forCall tape i).Shaped C.prog ∧ i.vars = [] ∧ Input.okWide C.prog (w.forCall tape i) .any w.heap.size f i ∧
      spec.pre6 enc C.prog fn conds false (w.forCall tape i).memory i.args ∧ ({} : Assume).holds C.prog (lone (Frame.enter C.prog f i.args .normal) [] (w.forCall tape i)))
    (hl : laidOutB C.prog = true) (hts : (fn.params.toList.all fun t => okTy C.prog n t) = true) (hrd : (fn.params.toList.all fun t => C.prog.readableRec t && decide (t < C.prog.types.size)) = true)
    (hvars : spec.vars = []) (hres : fn.resultTypes = #[tb]) (hb : C.prog.underlying tb = some .bool)
    (hspec : ∀ ds : List (DataW H), ds.length = fn.params.size → spec.fn H ds = { results := [.lit (.bool true)], args := ds })
    (law : ∀ xs, All2 (ArgOk C.prog) fn.params.toList xs → PureC C.prog f xs (.one (.bool true))) :
    ReturnsInHanded {} C os f .any (spec.pre6 enc C.prog fn conds false) (spec.post enc C.prog fn false true false false) := by
  refine returnsInHanded_of_change_shaped own started noInit hfn witness ?_
  intro W base args ds gs before hval hW _ hwt _ _
  obtain ⟨p, q, hA, hV, rfl, hfz, hnd⟩ := id hW
  rw [hvars] at hV
  have hgs : gs = [] ∧ q = [] := by
    cases gs with
    | nil => simp only [DataW.TrodVars] at hV; exact ⟨rfl, hV⟩
    | cons _ _ => exact hV.elim
  obtain ⟨rfl, rfl⟩ := hgs
  have hvt : spec.plain.varTypes C.prog = [] := by
    simp [DataSpec.varTypes, ChangeSpec.plain, hvars]
  rw [hvt, List.append_nil, List.append_nil] at hwt
  obtain ⟨xs, h1, h2⟩ := args_read hts (fun j t v h3 h4 => hval j t v (by simpa using h3) (by simpa using h4)) hA hwt
  have hlen : ds.length = fn.params.size := by
    have key : ∀ {ts : List TypeId} {vs : List Value} {ds : List (DataW H)} {ps : List MemPlace}, DataW.TrodAll enc C.prog W 0 (fun _ => true) true ts vs ds ps → ds.length = ts.length := by
      intro ts
      induction ts with
      | nil => intro vs ds ps h; cases vs <;> cases ds <;> simp [DataW.TrodAll] at h ⊢
      | cons t ts ih =>
        intro vs ds ps h
        obtain ⟨_, _, _, _, _, _, rfl, rfl, _, _, h4⟩ := Go.ChangeShapes.trodAll_cons h
        simp [ih h4]
    simpa using key hA
  have hsp := hspec ds hlen
  have hcall := (law xs h1).calls (inHeap W) W args.toList (fun _ hb => hb) h2
  refine Calls.mono (by simpa using hcall) ?_
  rintro e W' ⟨x, rfl, hbel, hr⟩
  have hx : x = .bool true := by
    cases hr with | d1 h => cases h with | one h => cases h; rfl
  subst hx
  refine ⟨_, rfl, ds, [], p ++ [], [], p, [], hW, ?_, ?_, ?_, hbel.frame _, fun h => by cases h⟩
  · rw [List.append_nil, hsp, hres]
    exact Go.ChangeShapes.trodAll_mk1 (Go.RowKit.shut_bool hb true)
  · rw [List.append_nil, hsp]
    exact args_carry hl hrd hA (fun x hx => hbel.same (hW.lt x (by simpa using hx))) (fun x hx => by simpa using hW.lt x (by simpa using hx))
  · rw [List.append_nil, hsp, hvars]
    rfl
end Go.AM

namespace Go.AM
open Go Go.Proofs Go.Proofs.YtphnlpfkenannaaGreat
set_option maxRecDepth 100000

theorem wf_i64 {n : Int} (h : (Lit.int .i64 n).wf = true) : -9223372036854775808 ≤ n ∧ n < 9223372036854775808 := by
  simp only [Lit.wf, IntKind.has, IntKind.min, IntKind.max, IntKind.bits, IntKind.signed] at h
  simp at h
  omega
theorem conf_int {v : List PV} (h : Conf Tryz.prog 3 v) : ∃ n : Int, v = [.int .i64 n] ∧ -9223372036854775808 ≤ n ∧ n < 9223372036854775808 := by
  have hu := Tryz.underlying3
  cases h with
  | bool b ht => rw [hu] at ht; cases ht
  | int n ht hw => rw [hu] at ht; cases ht; exact ⟨n, rfl, wf_i64 hw⟩
  | str s ht => rw [hu] at ht; cases ht
  | sl rows ht h => rw [hu] at ht; cases ht
  | st parts ht h => rw [hu] at ht; cases ht
def i64s (s : List Int) : Prop := ∀ n ∈ s, -9223372036854775808 ≤ n ∧ n < 9223372036854775808
theorem conf_rows : ∀ {rows : List (List PV)}, (∀ r ∈ rows, Conf Tryz.prog 3 r) → ∃ s : List Int, rows = rI s ∧ i64s s
  | [], _ => ⟨[], rfl, fun n hn => by simp at hn⟩
  | r :: rows, h => by
    obtain ⟨n, rfl, hn⟩ := conf_int (h r (by simp))
    obtain ⟨s, rfl, hs⟩ := conf_rows (rows := rows) fun r hr => h r (by simp [hr])
    exact ⟨n :: s, rfl, fun m hm => by
      rcases List.mem_cons.1 hm with rfl | hm
      · exact hn
      · exact hs m hm⟩
theorem conf_ints {v : List PV} (h : Conf Tryz.prog 23 v) : ∃ s : List Int, v = [eI s] ∧ i64s s := by
  have hu := Tryz.underlying23
  cases h with
  | bool b ht => rw [hu] at ht; cases ht
  | int n ht hw => rw [hu] at ht; cases ht
  | str s ht => rw [hu] at ht; cases ht
  | sl rows ht h =>
    rw [hu] at ht; cases ht
    obtain ⟨s, rfl, hs⟩ := conf_rows h
    exact ⟨s, rfl, hs⟩
  | st parts ht h => rw [hu] at ht; cases ht
theorem conf_T {v : List PV} (h : Conf Tryz.prog 25 v) : ∃ s d : List Int, v = [eI s, eI d] ∧ i64s s ∧ i64s d := by
  have hu := Tryz.underlying25
  cases h with
  | bool b ht => rw [hu] at ht; cases ht
  | int n ht hw => rw [hu] at ht; cases ht
  | str s ht => rw [hu] at ht; cases ht
  | sl rows ht h => rw [hu] at ht; cases ht
  | st parts ht h =>
    rw [hu] at ht; cases ht
    cases h with | cons h1 h => cases h with | cons h2 h => cases h with | nil =>
      obtain ⟨s, rfl, hs⟩ := conf_ints h1
      obtain ⟨d, rfl, hd⟩ := conf_ints h2
      exact ⟨s, d, rfl, hs, hd⟩
theorem arg_T {d : DV} (h : ArgOk Tryz.prog 25 d) : ∃ s e : List Int, d = dT s e ∧ i64s s ∧ i64s e := by
  unfold ArgOk at h
  rw [Tryz.underlying25] at h
  obtain ⟨vs, rfl, h⟩ := h
  obtain ⟨s, e, rfl, hs, he⟩ := conf_T h
  exact ⟨s, e, rfl, hs, he⟩
theorem arg_N {d : DV} (h : ArgOk Tryz.prog 3 d) : ∃ n : Int, d = dN n ∧ -9223372036854775808 ≤ n ∧ n < 9223372036854775808 := by
  unfold ArgOk at h
  rw [Tryz.underlying3] at h
  obtain ⟨v, rfl, h⟩ := h
  obtain ⟨s, e, hs⟩ := conf_int h
  cases e
  exact ⟨s, rfl, hs⟩
theorem own : ownKnob Tryz.prog.godebug = none := by kernel_rfl
theorem laidOut : laidOutB Tryz.prog = true := by kernel_rfl
theorem conf_Ts : ∀ {rows : List (List PV)}, (∀ r ∈ rows, Conf Tryz.prog 25 r) → ∃ ps : List Tn, rows = rTn ps ∧ ∀ t ∈ ps, i64s t.2
  | [], _ => ⟨[], rfl, fun n hn => by simp at hn⟩
  | r :: rows, h => by
    obtain ⟨s, d, rfl, hs, hd⟩ := conf_T (h r (by simp))
    obtain ⟨ps, rfl, hps⟩ := conf_Ts (rows := rows) fun r hr => h r (by simp [hr])
    exact ⟨(s, d) :: ps, rfl, fun t ht => by
      rcases List.mem_cons.1 ht with rfl | ht
      · exact hd
      · exact hps t ht⟩
theorem arg_Ts {d : DV} (h : ArgOk Tryz.prog 26 d) : ∃ ps : List Tn, d = dTs ps ∧ ∀ x ∈ ps, I64s x.2 := by
  have hu := Tryz.underlying26
  unfold ArgOk at h
  rw [hu] at h
  obtain ⟨v, rfl, h⟩ := h
  generalize hv : [v] = l at h
  cases h with
  | bool b ht => rw [hu] at ht; cases ht
  | int n ht hw => rw [hu] at ht; cases ht
  | str s ht => rw [hu] at ht; cases ht
  | sl rows ht h =>
    rw [hu] at ht; cases ht; cases hv
    obtain ⟨ps, rfl, hps⟩ := conf_Ts h
    exact ⟨ps, rfl, hps⟩
  | st parts ht h => rw [hu] at ht; cases ht
theorem conf_Nd {v : List PV} (h : Conf Tryz.prog 39 v) : ∃ n : Nd, v = rNd n ∧ I64 n.op ∧ I64s n.args ∧ I64s n.nums := by
  have hu := Tryz.underlying39
  cases h with
  | bool b ht => rw [hu] at ht; cases ht
  | int n ht hw => rw [hu] at ht; cases ht
  | str s ht => rw [hu] at ht; cases ht
  | sl rows ht h => rw [hu] at ht; cases ht
  | st parts ht h =>
    rw [hu] at ht; cases ht
    cases h with | cons h1 h => cases h with | cons h2 h => cases h with | cons h3 h => cases h with | nil =>
      obtain ⟨a, rfl, ha⟩ := conf_int h1
      obtain ⟨s, rfl, hs⟩ := conf_ints h2
      obtain ⟨d, rfl, hd⟩ := conf_ints h3
      exact ⟨⟨a, s, d⟩, rfl, ha, hs, hd⟩
theorem conf_Nds : ∀ {rows : List (List PV)}, (∀ r ∈ rows, Conf Tryz.prog 39 r) → ∃ l : List Nd, rows = l.map rNd ∧ ∀ n ∈ l, I64 n.op ∧ I64s n.args ∧ I64s n.nums
  | [], _ => ⟨[], rfl, fun n hn => absurd hn List.not_mem_nil⟩
  | r :: rows, h => by
    obtain ⟨n, rfl, hn⟩ := conf_Nd (h r (by simp))
    obtain ⟨l, rfl, hl⟩ := conf_Nds (rows := rows) fun r hr => h r (by simp [hr])
    exact ⟨n :: l, rfl, fun t ht => by
      rcases List.mem_cons.1 ht with rfl | ht
      · exact hn
      · exact hl t ht⟩
theorem arg_Nds {d : DV} (h : ArgOk Tryz.prog 22 d) : ∃ l : List Nd, d = dNds l ∧ ∀ n ∈ l, I64 n.op ∧ I64s n.args ∧ I64s n.nums := by
  have hu := Tryz.underlying22
  unfold ArgOk at h
  rw [hu] at h
  obtain ⟨v, rfl, h⟩ := h
  generalize hv : [v] = l at h
  cases h with
  | bool b ht => rw [hu] at ht; cases ht
  | int n ht hw => rw [hu] at ht; cases ht
  | str s ht => rw [hu] at ht; cases ht
  | sl rows ht h =>
    rw [hu] at ht; cases ht; cases hv
    obtain ⟨l, rfl, hl⟩ := conf_Nds h
    exact ⟨l, rfl, hl⟩
  | st parts ht h => rw [hu] at ht; cases ht
theorem wf_u8 {n : Int} (h : (Lit.int .u8 n).wf = true) : 0 ≤ n ∧ n < 256 := by
  simp only [Lit.wf, IntKind.has, IntKind.min, IntKind.max, IntKind.bits, IntKind.signed] at h
  simp at h
  omega
theorem arg_U {d : DV} (h : ArgOk Tryz.prog 5 d) : ∃ n : Nat, d = .one (.int .u8 n) ∧ n < 256 := by
  have hu := Tryz.underlying5
  unfold ArgOk at h
  rw [hu] at h
  obtain ⟨v, rfl, h⟩ := h
  generalize hv : [v] = l at h
  cases h with
  | bool b ht => rw [hu] at ht; cases ht
  | int n ht hw =>
    rw [hu] at ht; cases ht; cases hv
    have := wf_u8 hw
    obtain ⟨m, rfl⟩ := Int.eq_ofNat_of_zero_le this.1
    exact ⟨m, rfl, by omega⟩
  | str s ht => rw [hu] at ht; cases ht
  | sl rows ht h => rw [hu] at ht; cases ht
  | st parts ht h => rw [hu] at ht; cases ht
end Go.AM

