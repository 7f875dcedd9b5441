import Derived.Test.YtphnlpfkenannaaGreatMx26
set_option linter.unusedVariables false
set_option linter.unusedSimpArgs false
namespace Go.AM
open Go Go.Proofs
set_option maxRecDepth 100000
set_option maxHeartbeats 4000000

theorem ltz0 (n : Nat) : ((0 : Int) < ((n + 1 : Nat) : Int)) = True := eq_true (by omega)
theorem ltz1 (n : Nat) : ((1 : Int) < ((n + 1 + 1 : Nat) : Int)) = True := eq_true (by omega)
theorem lez1 (n : Nat) : ((1 : Int) ≤ ((n + 1 : Nat) : Int)) = True := eq_true (by omega)
attribute [go_sem] ltz0 ltz1 lez1
abbrev rNd (n : Nd) : List PV := [.int .i64 n.op, eI n.args, eI n.nums]
abbrev dNd (n : Nd) : DV := .agg (rNd n)
abbrev dNds (l : List Nd) : DV := .one (.sl (l.map rNd))
abbrev rS (s : List (List Int)) : List (List PV) := s.map fun x => [eI x]
abbrev dSS (s : List (List Int)) : DV := .one (.sl (rS s))
def kindsE : List (Int × Bool × List PV) := kindL.map fun p => (p.1, true, [.int .i64 p.2.1, .int .i64 p.2.2])
def eM (m : Shs) : List (Int × Bool × List PV) := m.map fun p => (p.1, false, [eI p.2])
theorem find_map {α : Type} (f : α → Bool × List PV) (n : Int) : ∀ (l : List (Int × α)), findE n (l.map fun p => (p.1, f p.2)) = (lkI n l).map f
  | [] => rfl
  | p :: l => by
    simp only [List.map_cons, findE, lkI]
    split
    · rfl
    · exact find_map f n l
theorem find_kinds (op : Int) : findE op kindsE = (kindF op).map fun k => (true, [.int .i64 k.1, .int .i64 k.2]) := find_map (fun k : Int × Int => (true, [PV.int .i64 k.1, PV.int .i64 k.2])) op kindL
theorem find_eM (k : Int) (m : Shs) : findE k (eM m) = (lkI k m).map fun s => (false, [eI s]) := find_map (fun s : List Int => (false, [eI s])) k m
theorem put_eM (k : Int) (v : List Int) : ∀ (m : Shs), putM k (false, [eI v]) (eM m) = eM (putI k v m)
  | [] => rfl
  | p :: m => by
    simp only [eM, List.map_cons, putM, putI]
    split
    · rfl
    · rw [List.map_cons]; congr 1; exact put_eM k v m
theorem p_graph_kinds : PureC Tryz.prog fi_graph_kinds [] (.one (.map kindsE)) := by
  refine pure_graph_kinds (by simp) fun G hP hn => ?_
  refine go trivial trivial ?_
  exact ends_ret rfl rfl rfl rfl
theorem p_graph_Arity (op : Int) : PureC Tryz.prog fi_graph_Arity [dN op] (dN (arityF op)) := by
  refine pure_graph_Arity (by simp) fun G hP hn => ?_
  have kk := p_graph_kinds
  have hf := find_kinds op
  unfold arityF
  cases hk : kindF op with
  | none =>
    rw [hk, Option.map_none] at hf
    refine go hf kk ?_
    exact ends_ret rfl rfl rfl rfl
  | some k =>
    rw [hk, Option.map_some] at hf
    refine go hf kk ?_
    exact ends_ret rfl rfl rfl rfl
def ixF {α : Type} (h : α → Bool) : List α → Int → Int
  | [], _ => -1
  | x :: r, i => if h x = true then i else ixF h r (i + 1)
theorem ixF_any {α : Type} (h : α → Bool) : ∀ (l : List α) (i : Int), 0 ≤ i → decide (ixF h l i ≥ 0) = l.any h
  | [], i, _ => by simp [ixF]
  | x :: r, i, hi => by
    simp only [ixF, List.any_cons]
    split
    · rename_i h1; rw [h1]; simp [hi]
    · rename_i h1; rw [ixF_any h r (i + 1) (by omega)]; simp [h1]
theorem p_slices_IndexFunc {f : FuncId} {caps : List PV} (l : List Int) (h : Int → Bool) (hl : l.length ≤ MaxN) (hf : ∀ x ∈ l, PureC Tryz.prog f ([dN x] ++ caps.map .one) (dB (h x))) :
    PureC Tryz.prog fi_slices_IndexFunc_int_int [dI l, .one (.fn f [] caps)] (dN (ixF h l 0)) := by
  refine pure_slices_IndexFunc_int_int (by simp) fun G hP hn => ?_
  have hM : MaxN = 140737488355328 := rfl
  refine go trivial trivial ?_
  refine T_for l.length (fun i (_ : Unit) => { env := [(0, .one (.p (eI l))), (1, .one (.p (.fn f [] caps))), (7, .one (.p (.int .i64 l.length))), (8, .one (.p (.int .i64 i)))], σ := [] })
    (fun i _ => ixF h (l.drop i) i = ixF h l 0) () rfl (.refl _ _) fun i _ hi hinv => ?_
  by_cases hlt : i < l.length
  · have c1 : (i : Int) < l.length := by omega
    have w1 : IntKind.i64.wrap ((i : Int) + 1) = ((i + 1 : Nat) : Int) := by rw [wrap_in (by omega) (by omega)]; rfl
    have hx := List.getElem?_eq_getElem hlt
    have kf := hf l[i] (List.getElem_mem hlt)
    rw [List.drop_eq_getElem_cons hlt] at hinv
    simp only [ixF] at hinv
    generalize l[i] = y at *
    cases hy : h y
    · rw [hy, if_neg (by simp)] at hinv
      rw [hy] at kf
      refine go (aa c1 <| aa hlt <| aa hx w1) kf ?_
      exact rnd_next hlt () hinv (.refl _ _)
    · rw [hy, if_pos rfl] at hinv
      rw [hy] at kf
      rw [← hinv]
      refine go (aa c1 <| aa hlt hx) kf ?_
      exact ends_ret rfl rfl rfl rfl
  · have c1 : ¬ (i : Int) < l.length := by omega
    rw [List.drop_of_length_le (by omega)] at hinv
    rw [← hinv]
    refine go c1 trivial ?_
    exact ends_ret rfl rfl rfl rfl
theorem p_slices_ContainsFunc {f : FuncId} {caps : List PV} (l : List Int) (h : Int → Bool) (hl : l.length ≤ MaxN) (hf : ∀ x ∈ l, PureC Tryz.prog f ([dN x] ++ caps.map .one) (dB (h x))) :
    PureC Tryz.prog fi_slices_ContainsFunc_int_int [dI l, .one (.fn f [] caps)] (dB (l.any h)) := by
  refine pure_slices_ContainsFunc_int_int (by simp) fun G hP hn => ?_
  have k := p_slices_IndexFunc l h hl hf
  have e := ixF_any h l 0 (Int.le_refl _)
  rw [← e]
  generalize ixF h l 0 = x at *
  refine go trivial k ?_
  exact ends_ret rfl rfl rfl rfl
theorem p_slices_IndexFuncL {f : FuncId} {caps : List PV} (l : List (List Int)) (h : List Int → Bool) (hl : l.length ≤ MaxN) (hf : ∀ x ∈ l, PureC Tryz.prog f ([dI x] ++ caps.map .one) (dB (h x))) :
    PureC Tryz.prog fi_slices_IndexFunc_LL_int_int [dSS l, .one (.fn f [] caps)] (dN (ixF h l 0)) := by
  refine pure_slices_IndexFunc_LL_int_int (by simp) fun G hP hn => ?_
  have hM : MaxN = 140737488355328 := rfl
  refine go trivial trivial ?_
  refine T_for l.length (fun i (_ : Unit) => { env := [(0, .one (.p (.sl (rS l)))), (1, .one (.p (.fn f [] caps))), (7, .one (.p (.int .i64 l.length))), (8, .one (.p (.int .i64 i)))], σ := [] })
    (fun i _ => ixF h (l.drop i) i = ixF h l 0) () rfl (.refl _ _) fun i _ hi hinv => ?_
  by_cases hlt : i < l.length
  · have c1 : (i : Int) < l.length := by omega
    have w1 : IntKind.i64.wrap ((i : Int) + 1) = ((i + 1 : Nat) : Int) := by rw [wrap_in (by omega) (by omega)]; rfl
    have hx := List.getElem?_eq_getElem hlt
    have kf := hf l[i] (List.getElem_mem hlt)
    rw [List.drop_eq_getElem_cons hlt] at hinv
    simp only [ixF] at hinv
    generalize l[i] = y at *
    cases hy : h y
    · rw [hy, if_neg (by simp)] at hinv
      rw [hy] at kf
      refine go (aa c1 <| aa hlt <| aa hx w1) kf ?_
      exact rnd_next hlt () hinv (.refl _ _)
    · rw [hy, if_pos rfl] at hinv
      rw [hy] at kf
      rw [← hinv]
      refine go (aa c1 <| aa hlt hx) kf ?_
      exact ends_ret rfl rfl rfl rfl
  · have c1 : ¬ (i : Int) < l.length := by omega
    rw [List.drop_of_length_le (by omega)] at hinv
    rw [← hinv]
    refine go c1 trivial ?_
    exact ends_ret rfl rfl rfl rfl
theorem p_slices_ContainsFuncL {f : FuncId} {caps : List PV} (l : List (List Int)) (h : List Int → Bool) (hl : l.length ≤ MaxN) (hf : ∀ x ∈ l, PureC Tryz.prog f ([dI x] ++ caps.map .one) (dB (h x))) :
    PureC Tryz.prog fi_slices_ContainsFunc_LL_int_int [dSS l, .one (.fn f [] caps)] (dB (l.any h)) := by
  refine pure_slices_ContainsFunc_LL_int_int (by simp) fun G hP hn => ?_
  have k := p_slices_IndexFuncL l h hl hf
  have e := ixF_any h l 0 (Int.le_refl _)
  rw [← e]
  generalize ixF h l 0 = x at *
  refine go trivial k ?_
  exact ends_ret rfl rfl rfl rfl
theorem p_graph_Check_1 (a i : Int) : PureC Tryz.prog fi_graph_Check_1 [dN a, .one (.box [.int .i64 i])] (dB (!decide (0 ≤ a ∧ a < i))) := by
  refine pure_graph_Check_1 (by simp) fun G hP hn => ?_
  by_cases h1 : a < 0
  · have e : (!decide (0 ≤ a ∧ a < i)) = true := by simp; omega
    rw [e]
    refine go h1 trivial ?_
    exact ends_ret rfl rfl rfl rfl
  by_cases h2 : a ≥ i
  · have e : (!decide (0 ≤ a ∧ a < i)) = true := by simp; omega
    rw [e]
    refine go (aa h1 h2) trivial ?_
    exact ends_ret rfl rfl rfl rfl
  · have e : (!decide (0 ≤ a ∧ a < i)) = false := by simp; omega
    rw [e]
    refine go (aa h1 h2) trivial ?_
    exact ends_ret rfl rfl rfl rfl
theorem p_graph_name (n : Nd) (h : n.op = 2 → 0 < n.nums.length) : PureC Tryz.prog fi_graph_name [dNd n] (.tup [dN (nameF n).1, dB (nameF n).2]) := by
  refine pure_graph_name (by simp) fun G hP hn => ?_
  obtain ⟨op, args, nums⟩ := n
  by_cases h1 : op = 1
  · subst h1
    refine go trivial trivial ?_
    exact ends_ret rfl rfl rfl rfl
  by_cases h2 : op = 2
  · subst h2
    obtain ⟨p, r, rfl⟩ : ∃ p r, nums = p :: r := by
      cases nums with
      | nil => exact absurd (h rfl) (by simp)
      | cons p r => exact ⟨p, r, rfl⟩
    refine go trivial trivial ?_
    exact ends_ret rfl rfl rfl rfl
  have e1 : (op == 1) = false := by simp [h1]
  have e2 : (op == 2) = false := by simp [h2]
  have e : nameF ⟨op, args, nums⟩ = (0, false) := by unfold nameF; rw [if_neg h1, if_neg h2]
  rw [e]
  refine go (aa e1 e2) trivial ?_
  exact ends_ret rfl rfl rfl rfl
theorem p_graph_well (n : Nd) (a k : Int) : PureC Tryz.prog fi_graph_well [dNd n, .agg [.int .i64 a, .int .i64 k]] (dB (wellF n.nums k)) := by
  refine pure_graph_well (by simp) fun G hP hn => ?_
  obtain ⟨op, args, nums⟩ := n
  show T _ _ _ _ _ _
  by_cases h1 : k = -2
  · subst h1
    cases nums with
    | nil =>
      refine go trivial trivial ?_
      exact ends_ret rfl rfl rfl rfl
    | cons p r =>
      have e0 : (((p :: r).length : Int) == 0) = false := by simp; omega
      have e0' : (((r.length + 1 : Nat) : Int) == 0) = false := by simp; omega
      have e0'' : (((r.length : Int) + 1) == 0) = false := by simp; omega
      by_cases h2 : p < 0
      · have e : wellF (p :: r) (-2) = false := by unfold wellF; rw [if_pos rfl]; simp; omega
        rw [e]
        refine go (aa e0 <| aa e0' <| aa e0'' h2) trivial ?_
        exact ends_ret rfl rfl rfl rfl
      by_cases h3 : p ≥ 8
      · have e : wellF (p :: r) (-2) = false := by unfold wellF; rw [if_pos rfl]; simp; omega
        rw [e]
        refine go (aa e0 <| aa e0' <| aa e0'' <| aa h2 h3) trivial ?_
        exact ends_ret rfl rfl rfl rfl
      · have e : wellF (p :: r) (-2) = checkS r := by unfold wellF; rw [if_pos rfl]; simp; omega
        rw [e]
        have kc := p_shape_Check r
        have t1 : List.take (r.length + 1 - 1) (rI r) = rI r := List.take_of_length_le (by simp)
        have t2 : List.take r.length (rI r) = rI r := List.take_of_length_le (by simp)
        refine go (aa e0 <| aa e0' <| aa e0'' <| aa h2 <| aa h3 <| aa t1 <| aa t2 @all1) kc ?_
        exact ends_ret rfl rfl rfl rfl
  by_cases h2 : k = -1
  · subst h2
    have kc := p_shape_Check nums
    refine go trivial kc ?_
    exact ends_ret rfl rfl rfl rfl
  have e1 : (k == -2) = false := by simp [h1]
  have e2 : (k == -1) = false := by simp [h2]
  have e : wellF nums k = ((nums.length : Int) == k) := by unfold wellF; rw [if_neg h1, if_neg h2]
  rw [e]
  refine go (aa e1 e2) trivial ?_
  exact ends_ret rfl rfl rfl rfl
end Go.AM

namespace Go.AM
open Go
theorem owOf_ren {ρ : Nat → Nat} (hρ : ∀ t, ρ (ρ t) = t) (σ : Sto) (τ : Tau) : owOf (renS ρ σ) τ = owOf σ (fun t => τ (ρ t)) := by
  funext k
  apply propext
  constructor
  · rintro ⟨t, hm, ht⟩
    rw [lo_renS hρ, AO.ren_mu] at hm
    exact ⟨ρ t, hm, by show τ (ρ (ρ t)) = some k; rw [hρ]; exact ht⟩
  · rintro ⟨t, hm, ht⟩
    exact ⟨ρ t, by rw [lo_renS hρ, AO.ren_mu, hρ]; exact hm, ht⟩
theorem SepS.ren {ρ : Nat → Nat} (hρ : ∀ t, ρ (ρ t) = t) {σ : Sto} {τ : Tau} (h : SepS σ τ) : SepS (renS ρ σ) (fun t => τ (ρ t)) := fun t t' b h1 h2 hne hm hb => by
  rw [lo_renS hρ] at h1 h2 hm
  rw [AO.ren_mu] at hm
  exact h (ρ t) (ρ t') b (fun e => h1 (AO.ren_none.2 e)) (fun e => h2 (AO.ren_none.2 e)) (fun e => hne (by rw [← hρ t, e, hρ])) hm hb
theorem MutC.ren {P : Program} {f : FuncId} {vs : List AV} {σ σ' : Sto} {r : AV} {fr : List Nat} {ρ : Nat → Nat} (hρ : ∀ t, ρ (ρ t) = t) (h : MutC P f vs σ r σ' fr) :
    MutC P f (vs.map (AV.ren ρ)) (renS ρ σ) (r.ren ρ) (renS ρ σ') (fr.map ρ) := by
  refine ⟨h.enters, fun A τ w xs ex exs hA hxs hex hfr hob hsp => ?_⟩
  have hob2 : ∀ t, ORel (fun _ => True) A (fun t => τ (ρ t)) w t (lo σ t) := fun t => by
    have := (hob (ρ t)).ren (ρ := ρ) (τ := τ) hρ (t := t)
    rw [lo_renS hρ, hρ, AO.ren_ren hρ] at this
    exact this
  have hsp2 : SepS σ (fun t => τ (ρ t)) := by
    have := SepS.ren hρ hsp
    rw [renS_renS hρ] at this
    exact this
  have key := h.calls A (fun t => τ (ρ t)) w xs (ex.map (AV.ren ρ)) exs hA (all2_unmap hxs fun _ _ h => h.unren hρ)
    (all2_map hex fun _ _ h => h.ren (fun t => by show τ (ρ (ρ t)) = τ t; rw [hρ]))
    (fun d hd v hv => by
      obtain ⟨v0, hv0, rfl⟩ := List.mem_map.1 hv
      rw [AV.ren_has hρ]
      exact hfr (ρ d) (List.mem_map.2 ⟨d, hd, rfl⟩) v0 hv0) hob2 hsp2
  rw [owOf_ren hρ]
  refine key.mono ?_
  rintro e w' ⟨x, A', τ', he, hfm, ho, hs, hr, hx⟩
  refine ⟨x, A', fun t => τ' (ρ t), he, hfm, fun t => ?_, SepS.ren hρ hs, hr.ren (fun t => by show τ' (ρ (ρ t)) = τ' t; rw [hρ]), all2_unmap hx fun _ _ h => h.unren hρ⟩
  rw [lo_renS hρ]
  exact (ho (ρ t)).ren hρ
end Go.AM

namespace Go.AM
open Go

def RunN (P : Program) (s0 : AS) : Nat → List (List Nat) → List FOp → List It → (AS → Prop) → AS → Prop
  | _, [], [], _, K, s => K s
  | i, un :: uns, o :: os, acc, K, s =>
    match gmet s.env o.g with
    | some false => acc.all (fun t => okPair un t (i, o, { v := .und })) = true ∧ RunN P s0 (i + 1) uns os ((i, o, { v := .und }) :: acc) K (putd o.d .und s)
    | some true => match o.op with
      | .q q => match evQ q s.env s.σ with
        | some v => acc.all (fun t => okPair un t (i, o, { v := v, rd := rdOf (.q q) s.env })) = true ∧ RunN P s0 (i + 1) uns os ((i, o, { v := v, rd := rdOf (.q q) s.env }) :: acc) K (putd o.d v s)
        | none => False
      | .n q => match o.d with
        | some t => match evN q s.env t with
          | some (ob, v) => (okFr s0 { v := v, wr := some (t, ob), nw := true } && acc.all (fun a => okPair un a (i, o, { v := v, wr := some (t, ob), nw := true }))) = true ∧
              RunN P s0 (i + 1) uns os ((i, o, { v := v, wr := some (t, ob), nw := true }) :: acc) K (putd o.d v { s with σ := (t, ob) :: s.σ })
          | none => False
        | none => False
      | .s q => match evS q s.env s.σ (o.d.getD 0) with
        | some (u, ob, v, k) => (k = 1 → o.d = some u) ∧
            (okFr s0 { v := v, wr := some (u, ob), nw := decide (k = 1), sc := decide (k = 2) } &&
              acc.all (fun a => okPair un a (i, o, { v := v, wr := some (u, ob), nw := decide (k = 1), sc := decide (k = 2), rd := rdOf (.s q) s.env, dt := dtOf s0 acc u, dob := dobOf s0 acc u }))) = true ∧
            RunN P s0 (i + 1) uns os ((i, o, { v := v, wr := some (u, ob), nw := decide (k = 1), sc := decide (k = 2), rd := rdOf (.s q) s.env, dt := dtOf s0 acc u, dob := dobOf s0 acc u }) :: acc) K (putd o.d v (newSt k u ob s))
        | none => False
      | .call f xs => (((gets s.env (f :: xs)).all AVp = true ∧ ∃ r, CallR P f xs s.env s.σ s.σ r ∧ acc.all (fun a => okPair un a (i, o, { v := r.av })) = true ∧
          RunN P s0 (i + 1) uns os ((i, o, { v := r.av }) :: acc) K (putd o.d r.av s))) ∨
          ∃ r t ob, CallN P f xs s.env r t ob ∧ (okFr s0 { v := r, wr := some (t, ob), nw := true } && acc.all (fun a => okPair un a (i, o, { v := r, wr := some (t, ob), nw := true }))) = true ∧
            RunN P s0 (i + 1) uns os ((i, o, { v := r, wr := some (t, ob), nw := true }) :: acc) K (putd o.d r { s with σ := (t, ob) :: s.σ })
      | .bad => False
    | none => False
  | _, _, _, _, _, _ => False
theorem runN_sound {P : Program} {s0 : AS} {U : Nat → List Nat} {K : AS → Prop} : ∀ (os : List FOp) (uns : List (List Nat)) (i : Nat) (acc : List It) (s : AS), (∀ j, j < uns.length → uns.getD j [] = U (i + j)) → (∀ a ∈ acc, a.1 < i) →
    RunN P s0 i uns os acc K s → ∃ R Z, Good P s0 U i os acc R s Z ∧ K Z
  | [], [], i, acc, s, _, _, h => by
    simp only [RunN] at h
    exact ⟨[], s, ⟨rfl, .nil (.refl s), .nil, fun _ _ _ hb => by simp at hb, fun _ hk => by simp at hk⟩, h⟩
  | [], _ :: _, i, acc, s, _, _, h => by simp [RunN] at h
  | _ :: _, [], i, acc, s, _, _, h => by simp [RunN] at h
  | o :: os, un :: uns, i, acc, s, hU, hlt, h => by
    have hun : un = U i := by have := hU 0 (by simp); simpa using this
    have hU' : ∀ j, j < uns.length → uns.getD j [] = U (i + 1 + j) := fun j hj => by
      have := hU (j + 1) (by simpa using hj)
      rw [show i + 1 + j = i + (j + 1) from by omega]
      simpa using this
    have hlt' : ∀ (f : FP), ∀ a ∈ ((i, o, f) :: acc : List It), a.1 < i + 1 := fun f a ha => by
      rcases List.mem_cons.1 ha with rfl | ha
      · simp
      · have := hlt a ha; omega
    have fin : ∀ (f : FP), En P o f s → Fr f s0 → Told s0 acc f → acc.all (fun a => okPair un a (i, o, f)) = true → RunN P s0 (i + 1) uns os ((i, o, f) :: acc) K (stepS o f s) → ∃ R Z, Good P s0 U i (o :: os) acc R s Z ∧ K Z := by
      intro f h1 h2 h3 h4 h5
      obtain ⟨R, Z, hg, hk⟩ := runN_sound os uns (i + 1) _ _ hU' (hlt' f) h5
      exact ⟨(i, o, f) :: R, Z, hg.cons h1 h2 h3 hlt (by rw [← hun]; exact h4), hk⟩
    have noSc : ∀ f : FP, f.wr = none → Told s0 acc f := fun f hf u hu => by
      unfold FP.scO at hu; rw [hf] at hu; cases hs : f.sc <;> rw [hs] at hu <;> cases hu
    have noFr : ∀ f : FP, f.wr = none → Fr f s0 := fun f hf hn u ob hw => by rw [hf] at hw; cases hw
    simp only [RunN] at h
    split at h
    · rename_i hg
      refine fin { v := .und } (.skip hg rfl rfl) (noFr _ rfl) (noSc _ rfl) h.1 ?_
      exact h.2
    · rename_i hg
      split at h
      · rename_i q ho
        split at h
        · rename_i v hv
          exact fin _ (.q hg ho hv (fun t ht => by rw [ho] at ht; exact ht) rfl) (noFr _ rfl) (noSc _ rfl) h.1 h.2
        · exact h.elim
      · rename_i q ho
        split at h
        · rename_i t hd
          split at h
          · rename_i ob v hv
            simp only [Bool.and_eq_true] at h
            exact fin _ (.n hg ho hd hv rfl rfl rfl) (okFr_sound h.1.1) (fun u hu => by simp [FP.scO] at hu) h.1.2 h.2
          · exact h.elim
        · exact h.elim
      · rename_i q ho
        split at h
        · rename_i u ob v k hv
          obtain ⟨h1, h2, h3⟩ := h
          simp only [Bool.and_eq_true] at h2
          refine fin { v := v, wr := some (u, ob), nw := decide (k = 1), sc := decide (k = 2), rd := rdOf (.s q) s.env, dt := dtOf s0 acc u, dob := dobOf s0 acc u } (.s hg ho hv (fun t ht => by rw [ho] at ht; exact ht) rfl (fun hk => ⟨by simp [hk], h1 hk⟩) rfl)
            (okFr_sound (f := { v := v, wr := some (u, ob), nw := decide (k = 1), sc := decide (k = 2) }) h2.1) (fun w hw => ?_) h2.2 ?_
          · unfold FP.scO at hw
            split at hw
            · simp at hw; subst hw; exact ⟨rfl, rfl⟩
            · cases hw
          · have : stepS o { v := v, wr := some (u, ob), nw := decide (k = 1), sc := decide (k = 2), rd := rdOf (.s q) s.env, dt := dtOf s0 acc u, dob := dobOf s0 acc u } s = putd o.d v (newSt k u ob s) := by
              unfold stepS
              simp only
              by_cases hk : k = 2
              · subst hk; rfl
              · simp [newSt, hk]
            rw [this]; exact h3
        · exact h.elim
      · rename_i f xs ho
        rcases h with ⟨h1, r, h2, h3, h4⟩ | ⟨r, t, ob, h2, h3, h4⟩
        · exact fin _ (.call hg ho h1 h2 rfl rfl) (noFr _ rfl) (noSc _ rfl) h3 h4
        · simp only [Bool.and_eq_true] at h3
          exact fin _ (.callN hg ho h2 rfl rfl rfl) (okFr_sound h3.1) (fun u hu => by simp [FP.scO] at hu) h3.2 h4
      · exact h.elim
    · exact h.elim
section
variable {G : Ground} {F : Fence} {n : Nat} {Q : Exit → AS → Prop} {s : AS}
theorem T_drN (hF : FOk F) {un : List (List Nat)} {t : TOps} {kp ids : List Nat} {S : AS} (hm : G.P.follows .mixedOrders = true) (h : RunN G.P s 0 un t.flat [] (fun s' => s'.keep kp ids = S) s) (k : Q .normal S) :
    T G F n (.region (some un) t kp ids) Q s := T_good hF hm fun U hU => by
  obtain ⟨R, Z, h1, h2⟩ := runN_sound (P := G.P) (s0 := s) (U := U) t.flat un 0 [] s hU (fun a ha => by simp at ha) h
  exact ⟨R, Z, h1, h2 ▸ k⟩
end
attribute [go_sem] RunN
end Go.AM

namespace Go.AM
open Go Go.Proofs
set_option maxRecDepth 100000
set_option maxHeartbeats 4000000

theorem m_slices_Equal {s : List Int} (t : List Int) (hs : s.length ≤ 64) : MutC Tryz.prog fi_slices_Equal_int_int [.one (.msl 5 0 1 s.length none), .one (.p (eI t))] [(5, .arr true 1 (rI s))] (.one (.p (.bool (sameL s t)))) [(5, .arr true 1 (rI s))] [] := by
  refine mut_slices_Equal_int_int (by simp) fun G ex hP hn hfr => ?_
  by_cases hl : s.length = t.length
  rotate_left
  · have e : ((s.length : Int) != (t.length : Int)) = true := by simp; omega
    have hr : sameL s t = false := by unfold sameL; rw [if_pos e]
    rw [hr]
    refine go @e trivial ?_
    exact endsM_ret rfl rfl rfl (by simp [lo]) rfl
  have e : ((s.length : Int) != (t.length : Int)) = false := by simp [hl]
  have hr : sameL s t = eqL s t := by unfold sameL; rw [e]; rfl
  rw [hr]
  refine go @e trivial ?_
  refine T_for s.length (fun i (_ : Unit) => { env := [(0, .one (.msl 5 0 1 s.length none)), (1, .one (.p (eI t))), (12, .one (.p (.int .i64 s.length))), (13, .one (.p (.int .i64 i)))], σ := [(5, .arr true 1 (rI s))], ex := ex })
    (fun i _ => eqL (s.drop i) (t.drop i) = eqL s t) () rfl (.refl _ _) fun i _ hi hc => ?_
  by_cases hlt : i < s.length
  · have c1 : (i : Int) < s.length := by omega
    have w1 : IntKind.i64.wrap ((i : Int) + 1) = ((i + 1 : Nat) : Int) := by rw [wrap_in (by omega) (by omega)]; rfl
    have hlt2 : i < t.length := by omega
    have hx : s[i]? = some s[i] := List.getElem?_eq_getElem hlt
    have hy : t[i]? = some t[i] := List.getElem?_eq_getElem hlt2
    rw [List.drop_eq_getElem_cons hlt, List.drop_eq_getElem_cons hlt2] at hc
    simp only [eqL] at hc
    generalize s[i] = a at *
    generalize t[i] = b at *
    by_cases hab : a = b
    · have e2 : (a != b) = false := by simp [hab]
      have e3 : (!(a == b)) = false := e2
      rw [if_neg (by rw [e3]; simp)] at hc
      refine go (aa c1 <| aa w1 <| aa hx <| aa hy <| aa hlt <| aa hlt2 e2) trivial ?_
      exact rnd_next hlt () hc (.refl _ _)
    · have e2 : (a != b) = true := by simp [hab]
      have e3 : (!(a == b)) = true := e2
      rw [if_pos e3] at hc
      rw [← hc]
      refine go (aa c1 <| aa w1 <| aa hx <| aa hy <| aa hlt <| aa hlt2 e2) trivial ?_
      exact endsM_ret rfl rfl rfl (by simp [lo]) rfl
  · have c1 : ¬ (i : Int) < s.length := by omega
    rw [List.drop_of_length_le (by omega)] at hc
    rw [← hc]
    refine go c1 trivial ?_
    exact endsM_ret rfl rfl rfl (by simp [lo, eqL]) rfl
abbrev dSB (r : List Int × Bool) : DV := .tup [dI r.1, dB r.2]
theorem ends_listT {rv : List RV} {s : AS} {t k len : Nat} {cap : Option Nat} {rows : List (List PV)} {v : PV} {r : DV} (h1 : evRV rv s.env s.σ = some [.one (.msl t 0 k len cap), .one (.p v)]) (h2 : lo s.σ t = .arr true k rows) (hl : len ≤ rows.length)
    (hr : r = .tup [.one (.sl (rows.take len)), .one v]) : Ends rv r .ret s := by
  subst hr
  exact ends_ret (ds := [.one (.sl (rows.take len)), .one v]) (σ' := (t, .arr false k rows) :: s.σ) h1 (by
    have e1 := toD_take (n := 5) (cap := cap) h2 hl
    simp only [if_true] at e1
    simp only [toDs, toD, e1]; rfl) rfl rfl
theorem p_infer_given (s : List (List Int)) (nums : List Int) (hn : nums.length ≤ 64) : PureC Tryz.prog fi_infer_rules_1 [dSS s, dI nums] (dSB (nums, true)) := by
  refine pure_infer_rules_1 (by simp) fun G hP hn => ?_
  have kc := p_slices_Clone nums (by omega)
  refine go trivial kc ?_
  exact ends_ret rfl rfl rfl rfl
theorem p_infer_param (s : List (List Int)) (p : Int) (nums : List Int) (hn : nums.length ≤ 64) : PureC Tryz.prog fi_infer_rules_2 [dSS s, dI (p :: nums)] (dSB (nums, true)) := by
  refine pure_infer_rules_2 (by simp) fun G hP hn => ?_
  have kc := p_slices_Clone nums (by omega)
  have e1 : (1 : Int) ≤ ((nums.length + 1 : Nat) : Int) := by omega
  have t1 : List.take (nums.length + 1 - 1) (rI nums) = rI nums := List.take_of_length_le (by simp)
  have t2 : List.take nums.length (rI nums) = rI nums := List.take_of_length_le (by simp)
  refine go (aa e1 <| aa t1 <| aa t2 @all1) kc ?_
  exact ends_ret rfl rfl rfl rfl
theorem p_infer_number (s : List (List Int)) (nums : List Int) : PureC Tryz.prog fi_infer_rules_3 [dSS s, dI nums] (dSB ([], true)) := by
  refine pure_infer_rules_3 (by simp) fun G hP hn => ?_
  refine go trivial trivial ?_
  exact ends_ret rfl rfl rfl rfl
theorem p_infer_again (a : List Int) (s : List (List Int)) (nums : List Int) (hn : nums.length ≤ 64) : PureC Tryz.prog fi_infer_rules_4 [dSS (a :: s), dI nums] (dSB (nums, sizeS nums == sizeS a)) := by
  refine pure_infer_rules_4 (by simp) fun G hP hn => ?_
  have kc := p_slices_Clone nums (by omega)
  have k1 := p_shape_Size nums
  have k2 := p_shape_Size a
  refine go trivial (aa kc <| aa k1 k2) ?_
  exact ends_ret rfl rfl rfl rfl
theorem p_infer_turn (a : List Int) (s : List (List Int)) (nums : List Int) (ha : a.length ≤ 64) : PureC Tryz.prog fi_infer_rules_5 [dSS (a :: s), dI nums] (dSB (a.reverse, true)) := by
  refine pure_infer_rules_5 (by simp) fun G hP hn => ?_
  have hM : MaxN = 140737488355328 := rfl
  have kc := m_slices_Clone a (by omega)
  have kr := m_slices_Reverse 5 a (by omega)
  refine go trivial (aa kc kr) ?_
  exact ends_list2 rfl rfl (by simp)
theorem p_infer_first (a : List Int) (s : List (List Int)) (nums : List Int) (ha : a.length ≤ 64) : PureC Tryz.prog fi_infer_first [dSS (a :: s), dI nums] (dSB (a, true)) := by
  refine pure_infer_first (by simp) fun G hP hn => ?_
  have kc := p_slices_Clone a (by omega)
  refine go trivial kc ?_
  exact ends_ret rfl rfl rfl rfl
theorem p_infer_both (a b : List Int) (s : List (List Int)) (nums : List Int) : PureC Tryz.prog fi_infer_both [dSS (a :: b :: s), dI nums] (dSB ((joinSF a b).1, (joinSF a b).2 == 0)) := by
  refine pure_infer_both (by simp) fun G hP hn => ?_
  have kj := p_shape_Join a b
  generalize joinSF a b = r at *
  refine go trivial kj ?_
  exact ends_ret rfl rfl rfl rfl
theorem p_infer_product (a b : List Int) (s : List (List Int)) (nums : List Int) (ha : a.length ≤ 64) (hb : b.length ≤ 64) : PureC Tryz.prog fi_infer_rules_6 [dSS (a :: b :: s), dI nums] (dSB (productF a b)) := by
  refine pure_infer_rules_6 (by simp) fun G hP hn => ?_
  by_cases h1 : a.length = 2
  rotate_left
  · have e1 : ((a.length : Int) != 2) = true := by simp; omega
    have e : productF a b = ([], false) := by
      unfold productF
      split
      · exact absurd rfl h1
      · rfl
    rw [e]
    refine go e1 trivial ?_
    exact ends_ret rfl rfl rfl rfl
  obtain ⟨m, n, rfl⟩ : ∃ m n, a = [m, n] := match a, h1 with | [m, n], _ => ⟨m, n, rfl⟩
  by_cases h2 : b.length = 2
  rotate_left
  · have e1 : ((b.length : Int) != 2) = true := by simp; omega
    have e : productF [m, n] b = ([], false) := match b, h2 with
      | [], _ => rfl
      | [_], _ => rfl
      | [_, _], h => absurd rfl h
      | _ :: _ :: _ :: _, _ => rfl
    rw [e]
    refine go e1 trivial ?_
    exact ends_ret rfl rfl rfl rfl
  obtain ⟨k, p, rfl⟩ : ∃ k p, b = [k, p] := match b, h2 with | [k, p], _ => ⟨k, p, rfl⟩
  by_cases h3 : n = k
  · subst h3
    have e : productF [m, n] [n, p] = ([m, p], checkS [m, p]) := if_pos rfl
    have e1 : (n != n) = false := by simp
    rw [e]
    have kc := p_shape_Check [m, p]
    refine go e1 kc ?_
    exact ends_ret rfl rfl rfl rfl
  · have e : productF [m, n] [k, p] = ([], false) := if_neg h3
    have e1 : (n != k) = true := by simp [h3]
    rw [e]
    refine go e1 trivial ?_
    exact ends_ret rfl rfl rfl rfl
theorem p_infer_together (a : List Int) (s : List (List Int)) (n : Nat) (nums : List Int) (ha : a.length ≤ 64) (h : n < a.length) : PureC Tryz.prog fi_infer_together [dSS (a :: s), dN n, dI nums] (dSB (a.eraseIdx n, true)) := by
  refine pure_infer_together (by simp) fun G hP hn => ?_
  have kc := m_slices_Clone a (by omega)
  have kd := m_slices_Delete h ha
  have w1 : IntKind.i64.wrap ((n : Int) + 1) = ((n + 1 : Nat) : Int) := by rw [wrap_in (by omega) (by omega)]; rfl
  refine go w1 (aa kc kd) ?_
  refine ends_listT rfl rfl (by simp [List.length_eraseIdx, h]) ?_
  rw [← List.map_take, List.take_left' (by rw [List.length_eraseIdx, if_pos h])]
theorem p_infer_part (a : List Int) (s : List (List Int)) (n : Nat) (f t : Int) (ha : a.length ≤ 64) (h : n < a.length) : PureC Tryz.prog fi_infer_part [dSS (a :: s), dN n, dI [f, t]] (dSB (partF a n [f, t])) := by
  refine pure_infer_part (by simp) fun G hP hn => ?_
  have kc := m_slices_Clone a (by omega)
  have hx : a[n]? = some a[n] := List.getElem?_eq_getElem h
  have hv : hd a n = a[n] := by unfold hd; rw [hx]; rfl
  have e0 : hd [f, t] 0 = f := rfl
  have e1 : hd [f, t] 1 = t := rfl
  unfold partF
  rw [e0, e1, hv]
  generalize a[n] = v at *
  by_cases h1 : f < 0
  · rw [if_pos (.inl h1)]
    refine go h1 trivial ?_
    exact ends_ret rfl rfl rfl rfl
  by_cases h2 : f ≥ t
  · rw [if_pos (.inr (.inl h2))]
    refine go (aa h1 h2) trivial ?_
    exact ends_ret rfl rfl rfl rfl
  by_cases h3 : t > v
  · rw [if_pos (.inr (.inr h3))]
    refine go (aa h1 <| aa h2 <| aa h3 <| aa hx h) trivial ?_
    exact ends_ret rfl rfl rfl rfl
  · rw [if_neg (by omega)]
    refine go (aa h1 <| aa h2 <| aa h3 <| aa hx <| aa h @rI_set) kc ?_
    exact ends_list2 rfl rfl (by simp)
theorem p_infer_behind (a b : List Int) (s : List (List Int)) (n : Nat) (nums : List Int) (ha : a.length ≤ 64) (h : n < a.length) : PureC Tryz.prog fi_infer_behind [dSS (a :: b :: s), dN n, dI nums] (dSB (behindF a b n)) := by
  refine pure_infer_behind (by simp) fun G hP hn => ?_
  have kc : MutC Tryz.prog fi_slices_Clone_int_int [.one (.p (eI a))] [] (.one (.msl 5 0 1 a.length none)) [(5, .arr true 1 (rI a))] [5] := m_slices_Clone a (by omega)
  refine go trivial trivial ?_
  apply T_drN fw (by rw [hP]; rfl)
  · simp only [go_sem, seval, reduceIte, ↓reduceIte, bne, beq_false, beq_true, Bool.not_eq_true, Bool.if_true_right, decide_not, reduceCtorEq, hP, hn]
    refine .inr ⟨_, _, _, ⟨_, _, _, _, rfl, rfl, kc⟩, ?_⟩
    exact rfl
  by_cases h1 : a.length = b.length
  rotate_left
  · have e1 : ((a.length : Int) != (b.length : Int)) = true := by simp; omega
    have e : behindF a b n = ([], false) := by unfold behindF; rw [if_neg (fun h => h1 h.1)]
    rw [e]
    refine go e1 trivial ?_
    exact ends_ret rfl rfl rfl rfl
  have e1 : ((a.length : Int) != (b.length : Int)) = false := by simp [h1]
  have h2 : n < b.length := by omega
  have hx : a[n]? = some a[n] := List.getElem?_eq_getElem h
  have hy : b[n]? = some b[n] := List.getElem?_eq_getElem h2
  have hvx : hd a n = a[n] := by unfold hd; rw [hx]; rfl
  have hvy : hd b n = b[n] := by unfold hd; rw [hy]; rfl
  have ke := m_slices_Equal (s := a.set n b[n]) b (by rw [List.length_set]; omega)
  rw [List.length_set] at ke
  have hz : (a.set n b[n])[n]? = some b[n] := by rw [List.getElem?_set_self h]
  have hzl : (a.set n b[n]).length = a.length := List.length_set
  have hset : ∀ z, (a.set n b[n]).set n z = a.set n z := fun z => List.set_set ..
  unfold behindF
  rw [hvx, hvy]
  generalize hA : a.set n b[n] = A at *
  generalize a[n] = x at *
  generalize b[n] = y at *
  cases hsm : sameL A b
  · rw [hsm] at ke
    rw [if_neg (fun h => by simp at h)]
    refine go (aa e1 <| aa hx <| aa hy <| aa h <| aa h2 <| aa @rI_set hA) ke ?_
    exact ends_ret rfl rfl rfl rfl
  · rw [hsm] at ke
    rw [if_pos ⟨h1, rfl⟩]
    have wc : IntKind.i64.wrap (y + x) = w64 (x + y) := by rw [Int.add_comm]
    have kch := p_shape_Check (a.set n (w64 (x + y)))
    have hl3 : (a.set n (w64 (x + y))).length = a.length := List.length_set
    generalize hB : a.set n (w64 (x + y)) = B at *
    have hset' : A.set n (w64 (x + y)) = B := by rw [← hB]; exact hset _
    refine go (aa e1 <| aa hx <| aa hy <| aa h <| aa h2 <| aa @rI_set <| aa hA <| aa hz <| aa hzl <| aa @wc @hset') ke ?_
    refine T_weak (Weak.freeze (i := 8) rfl (toD_list (n := 5) rfl (by simp [hl3]))) ?_
    simp only [lo, Nat.reduceEqDiff, if_true, if_false, if_pos]
    refine go trivial kch ?_
    exact ends_ret rfl rfl rfl rfl
end Go.AM

namespace Go.AM
open Go Go.Proofs

theorem two_shape {W : Int → Int → Int × Int} {s d t e : List Int} (h : (twoF W s d t e).2 = 0) : (twoF W s d t e).1.1 = (joinSF s t).1 := by
  obtain ⟨_, _, r, hj, _, he⟩ := two_inv h
  rw [he, hj.eq]
theorem one_shape {W : Int → Int × Int} {s d : List Int} (h : (oneF W s d).2 = 0) : (oneF W s d).1.1 = s := by
  unfold oneF eachF at h ⊢
  split
  · rename_i h1
    rw [if_pos h1] at h
    split
    · rfl
    · rename_i h2; rw [if_neg h2] at h; exact absurd h h2
  · rename_i h1; rw [if_neg h1] at h; simp [bad] at h
theorem mul_shape {s d t e : List Int} (h : (mulF s d t e).2 = 0) : (mulF s d t e).1.1 = (productF s t).1 := by
  unfold mulF at h ⊢
  split
  · rename_i h1
    rw [if_pos h1] at h
    split
    · rename_i m n n' p
      simp only at h
      split
      · rename_i h2
        rw [if_pos h2] at h
        split
        · simp only [productF]; rw [if_pos h2.1]
        · rename_i h3; rw [if_neg h3] at h; exact absurd h h3
      · rename_i h2; rw [if_neg h2] at h; simp [bad] at h
    · rename_i h0
      exfalso
      revert h
      split
      · exact fun _ => h0 _ _ _ _ rfl rfl
      · intro h; simp [bad] at h
  · rename_i h1; rw [if_neg h1] at h; simp [bad] at h
theorem reshape_shape {s d z : List Int} (h : (reshapeF s d z).2 = 0) : (reshapeF s d z).1.1 = z := by
  unfold reshapeF at h ⊢
  split
  · rename_i h1
    rw [if_pos h1] at h
    split
    · rfl
    · rename_i h2; rw [if_neg h2] at h; simp [bad] at h
  · rename_i h1; rw [if_neg h1] at h; simp [bad] at h
theorem turn_shape {s d : List Int} (h : (turnF s d).2 = 0) : (turnF s d).1.1 = s.reverse := by
  unfold turnF at h ⊢
  split
  · rfl
  · rename_i h1; rw [if_neg h1] at h; simp [bad] at h
theorem slice_shape {s d : List Int} {a f t : Int} (h : (sliceF s d a f t).2 = 0) : ¬(a < 0 ∨ a ≥ s.length) ∧ ¬(f < 0 ∨ f ≥ t ∨ t > hd s a.toNat) ∧ (sliceF s d a f t).1.1 = s.set a.toNat (w64 (t - f)) := by
  unfold sliceF at h ⊢
  by_cases h1 : checkT s d = true
  · rw [if_pos h1] at h ⊢
    by_cases h2 : a < 0 ∨ a ≥ s.length ∨ f < 0 ∨ f ≥ t ∨ t > (s[a.toNat]?).getD 0
    · rw [if_pos h2] at h; simp [bad] at h
    · rw [if_neg h2]
      refine ⟨by omega, ?_, rfl⟩
      unfold hd; omega
  · rw [if_neg h1] at h; simp [bad] at h
theorem join_shape {s d t e : List Int} {a : Int} (h : (joinF s d t e a).2 = 0) : ¬(a < 0 ∨ a ≥ s.length) ∧ (s.length = t.length ∧ sameL (s.set a.toNat (hd t a.toNat)) t = true) ∧ (joinF s d t e a).1.1 = s.set a.toNat (w64 (hd s a.toNat + hd t a.toNat)) := by
  unfold joinF at h ⊢
  by_cases h1 : checkT s d = true ∧ checkT t e = true
  · rw [if_pos h1] at h ⊢
    by_cases h2 : a < 0 ∨ a ≥ s.length ∨ s.length ≠ t.length ∨ sameL (s.set a.toNat ((t[a.toNat]?).getD 0)) t = false ∨ checkS (s.set a.toNat (w64 ((s[a.toNat]?).getD 0 + (t[a.toNat]?).getD 0))) = false
    · rw [if_pos h2] at h; simp [bad] at h
    · rw [if_neg h2]
      simp only [not_or] at h2
      obtain ⟨q1, q2, q3, q4, q5⟩ := h2
      exact ⟨by omega, ⟨by omega, by unfold hd; simpa using q4⟩, rfl⟩
  · rw [if_neg h1] at h; simp [bad] at h
theorem together_shape {W E : Int → Int → Int × Int} {F : Int → Int} {s d : List Int} {a : Int} (h : (togetherF W E F s d a).2 = 0) : ¬(a < 0 ∨ a ≥ s.length) ∧ (togetherF W E F s d a).1.1 = s.eraseIdx a.toNat := by
  unfold togetherF at h ⊢
  by_cases h1 : checkT s d = true
  · rw [if_pos h1] at h ⊢
    by_cases h2 : a < 0 ∨ a ≥ s.length
    · rw [if_pos h2] at h; simp [bad] at h
    · rw [if_neg h2] at h ⊢
      refine ⟨h2, ?_⟩
      split
      · rfl
      · rename_i h3; rw [if_neg h3] at h; exact absurd h h3
  · rw [if_neg h1] at h; simp [bad] at h
theorem mean_shape {s d : List Int} {a : Int} (h : (meanS s d a).2 = 0) : ¬(a < 0 ∨ a ≥ s.length) ∧ (meanS s d a).1.1 = s.eraseIdx a.toNat := by
  unfold meanS at h ⊢
  by_cases h1 : (sumS s d a).2 = 0
  · rw [if_pos h1] at h ⊢; exact together_shape h
  · rw [if_neg h1] at h; exact absurd h h1
theorem kind_cases {op : Int} {k : Int × Int} (h : kindF op = some k) : (op, k) ∈ ([(1, 0, -1), (2, 0, -2), (3, 0, 1), (10, 2, 0), (11, 2, 0), (12, 2, 0), (13, 2, 0), (20, 1, 0), (21, 1, 0), (22, 1, 0), (23, 1, 0), (30, 2, 0), (40, 1, -1), (41, 1, 0), (42, 1, 3), (43, 2, 1), (50, 1, 1), (51, 1, 1), (52, 1, 1)] : List (Int × Int × Int)) := by
  have : ∀ (l : List (Int × Int × Int)), lkI op l = some k → (op, k) ∈ l := by
    intro l
    induction l with
    | nil => intro h; simp [lkI] at h
    | cons p l ih =>
      intro h
      simp only [lkI] at h
      split at h
      · rename_i h1; cases h; subst h1; exact List.mem_cons_self
      · exact List.mem_cons_of_mem _ (ih h)
  exact this _ h
theorem inferOk_kind {op : Int} {nums : List Int} {s : List (List Int)} (h : inferOk op nums s = true) : ∃ k, kindF op = some k ∧ (s.length : Int) = k.1 ∧ wellF nums k.2 = true ∧ s.all checkS = true ∧ (ruleF op s nums).2 = true := by
  unfold inferOk at h
  cases hk : kindF op with
  | none => rw [hk] at h; simp at h
  | some k =>
    rw [hk] at h
    simp only [Bool.and_eq_true, decide_eq_true_eq] at h
    exact ⟨k, rfl, h.1, h.2.1, h.2.2.1, h.2.2.2⟩
theorem gs_map (t : List Tn) (i : Nat) : gs (t.map (·.1)) i = (gT t i).1 := by
  unfold gs gT
  rw [List.getElem?_map, Int.toNat_natCast]
  cases t[i]? <;> rfl
theorem hd_tail (l : List Int) (i : Nat) : hd l.tail i = hd l (i + 1) := by unfold hd; rw [List.getElem?_tail]
theorem evF_shape {op : Int} {t : List Tn} {nums : List Int} {k : Int × Int} (hk : kindF op = some k) (h1 : op ≠ 1) (h2 : op ≠ 2) (h3 : op ≠ 3) (h : (evF op t nums).2 = 0) : (evF op t nums).1.1 = (ruleF op (t.map (·.1)) nums).1 := by
  have g0 : gs (t.map (·.1)) 0 = (gT t 0).1 := gs_map t 0
  have g1 : gs (t.map (·.1)) 1 = (gT t 1).1 := gs_map t 1
  have hc := kind_cases hk
  simp only [List.mem_cons, Prod.mk.injEq, List.not_mem_nil, or_false] at hc
  have side : ∀ f : Nat → List Int → List Int × Bool, ¬(hd nums 0 < 0 ∨ hd nums 0 ≥ ((gT t 0).1.length : Int)) → sidedF (t.map (·.1)) nums f = f (hd nums 0).toNat nums.tail := fun f h => by unfold sidedF; rw [g0, if_neg h]
  rcases hc with ⟨rfl, _⟩ | ⟨rfl, _⟩ | ⟨rfl, _⟩ | ⟨rfl, _⟩ | ⟨rfl, _⟩ | ⟨rfl, _⟩ | ⟨rfl, _⟩ | ⟨rfl, _⟩ | ⟨rfl, _⟩ | ⟨rfl, _⟩ | ⟨rfl, _⟩ | ⟨rfl, _⟩ | ⟨rfl, _⟩ | ⟨rfl, _⟩ | ⟨rfl, _⟩ | ⟨rfl, _⟩ | ⟨rfl, _⟩ | ⟨rfl, _⟩ | ⟨rfl, _⟩
  · exact absurd rfl h1
  · exact absurd rfl h2
  · exact absurd rfl h3
  · exact (two_shape h).trans (by show _ = (joinSF _ _).1; rw [g0, g1])
  · exact (two_shape h).trans (by show _ = (joinSF _ _).1; rw [g0, g1])
  · exact (two_shape h).trans (by show _ = (joinSF _ _).1; rw [g0, g1])
  · exact (two_shape h).trans (by show _ = (joinSF _ _).1; rw [g0, g1])
  · exact (one_shape h).trans (by show _ = gs _ 0; rw [g0])
  · exact (one_shape h).trans (by show _ = gs _ 0; rw [g0])
  · exact (one_shape h).trans (by show _ = gs _ 0; rw [g0])
  · exact (one_shape h).trans (by show _ = gs _ 0; rw [g0])
  · exact (mul_shape h).trans (by show _ = (productF _ _).1; rw [g0, g1])
  · exact reshape_shape h
  · exact (turn_shape h).trans (by show _ = (gs _ 0).reverse; rw [g0])
  · obtain ⟨q1, q2, q3⟩ := slice_shape h
    exact q3.trans (by
      show _ = (sidedF (t.map (·.1)) nums (partF (gs (t.map (·.1)) 0))).1
      rw [side _ q1, g0]; unfold partF; rw [hd_tail, hd_tail, if_neg q2])
  · obtain ⟨q1, q2, q3⟩ := join_shape h
    exact q3.trans (by
      show _ = (sidedF (t.map (·.1)) nums (fun n _ => behindF (gs (t.map (·.1)) 0) (gs (t.map (·.1)) 1) n)).1
      rw [side _ q1, g0, g1]; unfold behindF; rw [if_pos q2])
  · obtain ⟨q1, q3⟩ := together_shape h
    exact q3.trans (by show _ = (sidedF (t.map (·.1)) nums (fun n _ => ((gs (t.map (·.1)) 0).eraseIdx n, true))).1; rw [side _ q1, g0])
  · obtain ⟨q1, q3⟩ := mean_shape h
    exact q3.trans (by show _ = (sidedF (t.map (·.1)) nums (fun n _ => ((gs (t.map (·.1)) 0).eraseIdx n, true))).1; rw [side _ q1, g0])
  · obtain ⟨q1, q3⟩ := together_shape h
    exact q3.trans (by show _ = (sidedF (t.map (·.1)) nums (fun n _ => ((gs (t.map (·.1)) 0).eraseIdx n, true))).1; rw [side _ q1, g0])
theorem nodeF_ok {n : Nd} {t : List Tn} {input : Tn} {ps : List Tn} (h : (nodeF n t input ps).2 = 0) : t.all (fun x => checkT x.1 x.2) = true ∧ (inferF n.op n.nums (t.map (·.1))).2 = 0 ∧ (nodeF n t input ps).1.1 = (inferF n.op n.nums (t.map (·.1))).1 := by
  unfold nodeF at h ⊢
  by_cases h1 : t.all (fun x => checkT x.1 x.2) = true
  · rw [if_pos h1] at h ⊢
    refine ⟨h1, ?_⟩
    by_cases h2 : (inferF n.op n.nums (t.map (·.1))).2 = 0
    · rw [if_pos h2] at h ⊢
      refine ⟨h2, ?_⟩
      have hi : inferOk n.op n.nums (t.map (·.1)) = true := by
        unfold inferF at h2
        by_cases h3 : inferOk n.op n.nums (t.map (·.1)) = true
        · exact h3
        · rw [if_neg h3] at h2; simp at h2
      have hi2 : (inferF n.op n.nums (t.map (·.1))).1 = (ruleF n.op (t.map (·.1)) n.nums).1 := by unfold inferF; rw [if_pos hi]
      obtain ⟨k, hk, _⟩ := inferOk_kind hi
      have gv : ∀ (x : Tn) (s : List Int), (givenF x s).2 = 0 → (givenF x s).1.1 = s := fun x s h => by
        unfold givenF at h ⊢
        by_cases h3 : checkT x.1 x.2 = true ∧ sameL x.1 s = true
        · rw [if_pos h3]; exact sameL_iff.1 h3.2
        · rw [if_neg h3] at h; simp [bad] at h
      by_cases c1 : n.op = 1
      · rw [if_pos c1] at h ⊢; exact gv _ _ h
      rw [if_neg c1] at h ⊢
      by_cases c2 : n.op = 2
      · rw [if_pos c2] at h ⊢; exact gv _ _ h
      rw [if_neg c2] at h ⊢
      by_cases c3 : n.op = 3
      · rw [if_pos c3] at h ⊢; rw [hi2, c3]; rfl
      rw [if_neg c3] at h ⊢
      rw [hi2]; exact evF_shape hk c1 c2 c3 h
    · rw [if_neg h2] at h; exact absurd h h2
  · rw [if_neg h1] at h; simp [bad] at h
end Go.AM

