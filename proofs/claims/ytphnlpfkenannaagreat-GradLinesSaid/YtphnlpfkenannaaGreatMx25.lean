import Derived.Test.YtphnlpfkenannaaGreatMx24
set_option linter.unusedVariables false
set_option linter.unusedSimpArgs false
namespace Go.AM
open Go Go.Proofs
set_option maxRecDepth 100000
set_option maxHeartbeats 4000000

theorem toD_take {n t k len : Nat} {cap : Option Nat} {σ : Sto} {m : Bool} {rows : List (List PV)} (h2 : lo σ t = .arr m k rows) (hl : len ≤ rows.length) :
    toP (n + 1) (.msl t 0 k len cap) σ = some (.sl (rows.take len), if m then (t, .arr false k rows) :: σ else σ) := by
  simp only [toP, h2]
  simp [hl]
theorem ends_twoT {rv : List RV} {s : AS} {t1 t2 k1 k2 l1 l2 : Nat} {cap1 cap2 : Option Nat} {rows1 rows2 : List (List PV)} {tl : List AV} {ds : List DV} {r : DV} (hne : t1 ≠ t2)
    (h1 : evRV rv s.env s.σ = some (.agg [.msl t1 0 k1 l1 cap1, .msl t2 0 k2 l2 cap2] :: tl)) (h2 : lo s.σ t1 = .arr true k1 rows1) (h3 : lo s.σ t2 = .arr true k2 rows2) (hl1 : l1 ≤ rows1.length) (hl2 : l2 ≤ rows2.length)
    (ht : (tl = [] ∧ ds = []) ∨ ∃ v, tl = [.one (.p v)] ∧ ds = [.one v]) (hr : r = resD (.agg [.sl (rows1.take l1), .sl (rows2.take l2)] :: ds)) :
    Ends rv r .ret s := by
  have h4 : foldP (toP 6) [.msl t1 0 k1 l1 cap1, .msl t2 0 k2 l2 cap2] s.σ = some ([.sl (rows1.take l1), .sl (rows2.take l2)], (t2, .arr false k2 rows2) :: (t1, .arr false k1 rows1) :: s.σ) := by
    have e1 := toD_take (n := 5) (cap := cap1) h2 hl1
    have e2 := toD_take (n := 5) (cap := cap2) (σ := (t1, .arr false k1 rows1) :: s.σ) (t := t2) (k := k2) (rows := rows2) (m := true) (by rw [← h3]; simp [lo, hne.symm]) hl2
    simp only [if_true] at e1 e2
    simp only [foldP, e1, e2]
  rcases ht with ⟨rfl, rfl⟩ | ⟨v, rfl, rfl⟩
  · exact ends_ret (ds := [.agg [.sl (rows1.take l1), .sl (rows2.take l2)]]) (σ' := (t2, .arr false k2 rows2) :: (t1, .arr false k1 rows1) :: s.σ) h1 (by simp only [toDs, toD, h4]) rfl hr.symm
  · exact ends_ret (ds := [.agg [.sl (rows1.take l1), .sl (rows2.take l2)], .one v]) (σ' := (t2, .arr false k2 rows2) :: (t1, .arr false k1 rows1) :: s.σ) h1 (by simp only [toDs, toD, h4]; rfl) rfl hr.symm
def foldE (W : Int → Int → Int × Int) (y : Nat → Int) : Nat → Nat → Int → Int × Int
  | 0, _, s => (s, 0)
  | n + 1, k, s => if (W s (y k)).2 = 0 then foldE W y n (k + 1) (W s (y k)).1 else (0, (W s (y k)).2)
def laneR (W E : Int → Int → Int × Int) (F : Int → Int) (S B : Nat) (d : List Int) (p : Nat) : Int × Int :=
  if (foldE W (fun i => gt d (laneAt S B p i)) S 0 (F (gt d (laneAt S B p 0)))).2 = 0 then E (foldE W (fun i => gt d (laneAt S B p i)) S 0 (F (gt d (laneAt S B p 0)))).1 S
  else (0, (foldE W (fun i => gt d (laneAt S B p i)) S 0 (F (gt d (laneAt S B p 0)))).2)
def togetherF (W E : Int → Int → Int × Int) (F : Int → Int) (s d : List Int) (a : Int) : (List Int × List Int) × Int :=
  if checkT s d = true then (if a < 0 ∨ a ≥ s.length then bad 20 else
    (if (coll (laneR W E F ((s[a.toNat]?).getD 0).toNat (sizeS (s.drop (a.toNat + 1))).toNat d) ((sizeS (s.take a.toNat)).toNat * (sizeS (s.drop (a.toNat + 1))).toNat) 0 []).2 = 0 then
      ((s.eraseIdx a.toNat, (coll (laneR W E F ((s[a.toNat]?).getD 0).toNat (sizeS (s.drop (a.toNat + 1))).toNat d) ((sizeS (s.take a.toNat)).toNat * (sizeS (s.drop (a.toNat + 1))).toNat) 0 []).1), 0)
    else bad (coll (laneR W E F ((s[a.toNat]?).getD 0).toNat (sizeS (s.drop (a.toNat + 1))).toNat d) ((sizeS (s.take a.toNat)).toNat * (sizeS (s.drop (a.toNat + 1))).toNat) 0 []).2)) else bad 30
theorem prd_split (s : List Int) {n : Nat} (h : n < s.length) : prd s = prd (s.take n) * (s[n] * prd (s.drop (n + 1))) := by
  have : s = s.take n ++ (s[n] :: s.drop (n + 1)) := by rw [← List.drop_eq_getElem_cons h, List.take_append_drop]
  conv => lhs; rw [this]
  rw [prd_append]; rfl
theorem ShapeOk.take {s : List Int} (h : ShapeOk s) (n : Nat) : ShapeOk (s.take n) := by
  refine ⟨by have := h.1; simp; omega, fun m hm => h.2.1 m (List.mem_of_mem_take hm), ?_⟩
  have h1 : prd s = prd (s.take n) * prd (s.drop n) := by rw [← prd_append, List.take_append_drop]
  have h2 := prd_pos (s := s.drop n) (fun m hm => h.2.1 m (List.mem_of_mem_drop hm))
  have h3 := prd_pos (s := s.take n) (fun m hm => h.2.1 m (List.mem_of_mem_take hm))
  have h4 := h.2.2
  have : prd (s.take n) * 1 ≤ prd (s.take n) * prd (s.drop n) := Int.mul_le_mul_of_nonneg_left h2 (by omega)
  omega
theorem ShapeOk.drop {s : List Int} (h : ShapeOk s) (n : Nat) : ShapeOk (s.drop n) := by
  refine ⟨by have := h.1; simp; omega, fun m hm => h.2.1 m (List.mem_of_mem_drop hm), ?_⟩
  have h1 : prd s = prd (s.take n) * prd (s.drop n) := by rw [← prd_append, List.take_append_drop]
  have h2 := prd_pos (s := s.drop n) (fun m hm => h.2.1 m (List.mem_of_mem_drop hm))
  have h3 := prd_pos (s := s.take n) (fun m hm => h.2.1 m (List.mem_of_mem_take hm))
  have h4 := h.2.2
  have : 1 * prd (s.drop n) ≤ prd (s.take n) * prd (s.drop n) := Int.mul_le_mul_of_nonneg_right h3 (by omega)
  omega
structure Lanes (s d : List Int) (n A S B : Nat) : Prop where
  hc : checkT s d = true
  hn : n < s.length
  hA : sizeS (s.take n) = A
  hS : s[n]? = some (S : Int)
  hB : sizeS (s.drop (n + 1)) = B
  a1 : 1 ≤ A
  s1 : 1 ≤ S
  b1 : 1 ≤ B
  s2 : S ≤ 16
  len : d.length = A * S * B
  le : A * S * B ≤ 64
theorem Lanes.of {s d : List Int} {n : Nat} (hc : checkT s d = true) (hn : n < s.length) : ∃ A S B, Lanes s d n A S B := by
  obtain ⟨h1, h2⟩ := checkT_iff.1 hc
  have hA := sizeS_ok (h1.take n)
  have hB := sizeS_ok (h1.drop (n + 1))
  have pA := prd_pos (h1.take n).2.1
  have pB := prd_pos (h1.drop (n + 1)).2.1
  have pS := h1.2.1 _ (List.getElem_mem hn)
  have hp := prd_split s hn
  obtain ⟨A, eA⟩ := Int.eq_ofNat_of_zero_le (by omega : 0 ≤ prd (s.take n))
  obtain ⟨B, eB⟩ := Int.eq_ofNat_of_zero_le (by omega : 0 ≤ prd (s.drop (n + 1)))
  obtain ⟨S, eS⟩ := Int.eq_ofNat_of_zero_le (by omega : 0 ≤ s[n])
  rw [eA, eB, eS] at hp
  have hp2 : prd s = ((A * S * B : Nat) : Int) := by rw [hp]; push_cast; rw [Int.mul_assoc]
  have h3 := h1.2.2
  exact ⟨A, S, B, hc, hn, by rw [hA, eA], by rw [List.getElem?_eq_getElem hn, eS], by rw [hB, eB], by omega, by omega, by omega, by omega, by omega, by omega⟩
theorem Lanes.lt {s d : List Int} {n A S B : Nat} (h : Lanes s d n A S B) {p i : Nat} (hp : p < A * B) (hi : i < S) : laneAt S B p i < d.length := by
  rw [h.len]
  have hb := h.b1
  have h1 : p / B < A := by rw [Nat.div_lt_iff_lt_mul (by omega)]; exact hp
  have h2 : p % B < B := Nat.mod_lt _ (by omega)
  exact row_lt (row_lt h1 hi) h2
theorem Lanes.AB {s d : List Int} {n A S B : Nat} (h : Lanes s d n A S B) : A * B ≤ 64 := by
  have h1 : A * 1 * B ≤ A * S * B := Nat.mul_le_mul_right B (Nat.mul_le_mul_left A h.s1)
  have := h.le
  rw [Nat.mul_one] at h1
  omega
theorem Lanes.B64 {s d : List Int} {n A S B : Nat} (h : Lanes s d n A S B) : B ≤ 64 := by
  have h1 : 1 * B ≤ A * B := Nat.mul_le_mul_right B h.a1
  have := h.AB
  omega
theorem p_reduce_together {gw ge gf : FuncId} {W E : Int → Int → Int × Int} {F : Int → Int} (hW : ∀ a b, I64 a → I64 b → PureC Tryz.prog gw [dN a, dN b] (dNE (W a b))) (hWr : ∀ a b, I64 a → I64 b → I64 (W a b).1)
    (hE : ∀ (a : Int) (S : Nat), I64 a → 1 ≤ S → S ≤ 16 → PureC Tryz.prog ge [dN a, dN S] (dNE (E a S))) (hF : ∀ a, I64 a → PureC Tryz.prog gf [dN a] (dN (F a))) (hFr : ∀ a, I64 a → I64 (F a))
    (s d : List Int) (a : Int) (hd : I64s d) :
    PureC Tryz.prog fi_reduce_together [dT s d, dN a, .agg [.fn gw [] [], .fn ge [] []], .one (.fn gf [] [])] (dTE (togetherF W E F s d a)) := by
  refine pure_reduce_together (by simp) fun G hP hn => ?_
  unfold a_reduce_together
  have kl := p_reduce_lanes s d a
  cases hc : checkT s d
  · have hl : lanesF s d a = ((0, 0, 0), 30) := by unfold lanesF; rw [if_neg (by simp [hc])]
    have hf : togetherF W E F s d a = bad 30 := by unfold togetherF; rw [if_neg (by simp [hc])]
    rw [hl] at kl
    refine go trivial kl ?_
    exact ends_ret rfl rfl rfl (by rw [hf]; rfl)
  by_cases ha : a < 0 ∨ a ≥ s.length
  · have hl : lanesF s d a = ((0, 0, 0), 20) := by unfold lanesF; rw [if_pos hc, if_pos ha]
    have hf : togetherF W E F s d a = bad 20 := by unfold togetherF; rw [if_pos hc, if_pos ha]
    rw [hl] at kl
    refine go trivial kl ?_
    exact ends_ret rfl rfl rfl (by rw [hf]; rfl)
  obtain ⟨n, rfl⟩ := Int.eq_ofNat_of_zero_le (by omega : 0 ≤ a)
  have hlt : n < s.length := by omega
  obtain ⟨A, S, B, L⟩ := Lanes.of hc hlt
  have hl : lanesF s d n = (((A : Int), (S : Int), (B : Int)), 0) := by
    unfold lanesF; rw [if_pos hc, if_neg ha]; simp only [Int.toNat_natCast, L.hA, L.hB, L.hS, Option.getD_some]
  rw [hl] at kl
  have hlen := check_len (checkS_iff.2 (checkT_iff.1 hc).1)
  have kC := m_slices_Clone s (by omega)
  have kD := m_slices_Delete hlt (by omega)
  have w1 : IntKind.i64.wrap ((n : Int) + 1) = ((n + 1 : Nat) : Int) := by rw [wrap_in (by omega) (by omega)]; rfl
  have hAB := L.AB
  have w2 : IntKind.i64.wrap ((A : Int) * (B : Int)) = ((A * B : Nat) : Int) := by rw [← Int.natCast_mul]; exact wrap_in (by omega) (by omega)
  refine go (aa w1 w2) (aa kl <| aa kC kD) ?_
  have htog : togetherF W E F s d n = if (coll (laneR W E F S B d) (A * B) 0 []).2 = 0 then ((s.eraseIdx n, (coll (laneR W E F S B d) (A * B) 0 []).1), 0) else bad (coll (laneR W E F S B d) (A * B) 0 []).2 := by
    unfold togetherF
    rw [if_pos hc, if_neg ha]
    simp only [Int.toNat_natCast, L.hA, L.hB, L.hS, Option.getD_some]
  have fin2 : ∀ er : Int, coll (laneR W E F S B d) (A * B) 0 [] = ([], er) → er ≠ 0 → togetherF W E F s d n = bad er := fun er h1 h2 => by rw [htog, h1]; exact if_neg h2
  refine T_weak (Weak.nilC 12 100 1 1 rfl rfl rfl rfl) ?_
  refine T_for (A * B) (fun p acc => { env := [(3, .one (.p (.fn gf [] []))), (4, .one (.ptr 4 0 2 0)), (6, .one (.ptr 6 0 2 0)), (8, .one (.ptr 8 0 2 0)), (10, .one (.ptr 10 0 3 0)), (12, .one (.ptr 12 0 2 0)), (38, .one (.p (.int .i64 ((A * B : Nat) : Int)))), (39, .one (.p (.int .i64 p)))], σ := [(4, .cells true [.p (eI s), .p (eI d)]), (6, .cells true [.p (.fn gw [] []), .p (.fn ge [] [])]), (8, .cells true [.nils, .nils]), (10, .cells true [.p (.int .i64 A), .p (.int .i64 S), .p (.int .i64 B)]), (12, .cells true [.msl 5 0 1 (s.length - 1) none, .msl 100 0 1 p none]), (5, .arr true 1 (rI (s.eraseIdx n ++ [0]))), (100, .arr true 1 (rI acc))] })
    (fun p acc => acc.length = p ∧ coll (laneR W E F S B d) (A * B - p) p acc = coll (laneR W E F S B d) (A * B) 0 []) [] ⟨rfl, rfl⟩ ?_ fun p acc hp hinv => ?_
  · refine Weak.sub fun q hq => ?_
    simp only [List.mem_cons, List.not_mem_nil, or_false] at hq
    rcases hq with rfl | rfl | rfl | rfl | rfl | rfl | rfl <;> rfl
  obtain ⟨hal, hcol⟩ := hinv
  have hs16 := L.s2
  have hb64 := L.B64
  have hb1 := L.b1
  have hs1 := L.s1
  by_cases hlt2 : p < A * B
  rotate_left
  · have c1 : ¬ (p : Int) < ((A * B : Nat) : Int) := by omega
    have hpe : p = A * B := by omega
    rw [hpe, Nat.sub_self] at hcol
    simp only [coll] at hcol
    refine go c1 trivial ?_
    refine ends_twoT (t1 := 5) (t2 := 100) (by decide) rfl rfl rfl (by rw [List.length_map, List.length_append, List.length_eraseIdx_of_lt hlt]; simp) (by simp [hal]) (.inr ⟨_, rfl, rfl⟩) ?_
    rw [htog, ← hcol, if_pos rfl]
    have e1 : (rI (s.eraseIdx n ++ [0])).take (s.length - 1) = rI (s.eraseIdx n) := by
      rw [rI_take, List.take_append_of_le_length (by rw [List.length_eraseIdx_of_lt hlt]; omega), List.take_of_length_le (by rw [List.length_eraseIdx_of_lt hlt]; omega)]
    have e2 : (rI acc).take p = rI acc := List.take_of_length_le (by simp [hal])
    rw [e1, e2]; rfl
  have c1 : (p : Int) < ((A * B : Nat) : Int) := by omega
  have w3 : IntKind.i64.wrap ((p : Int) + 1) = ((p + 1 : Nat) : Int) := by rw [wrap_in (by omega) (by omega)]; rfl
  have kat0 : PureC Tryz.prog fi_reduce_lane_at [dL A S B, dN p, dN 0] (dN (laneAt S B p 0)) := p_reduce_lane_at A S B p 0 hs16 hb64 hb1 (by omega) (by omega)
  have hl0 := L.lt hlt2 (i := 0) (by omega)
  have hx0 : d[laneAt S B p 0]? = some (gt d (laneAt S B p 0)) := by unfold gt; rw [List.getElem?_eq_getElem hl0]; rfl
  have kF := hF (gt d (laneAt S B p 0)) (gt_range hd _)
  have hfr := hFr (gt d (laneAt S B p 0)) (gt_range hd _)
  rw [show A * B - p = (A * B - (p + 1)) + 1 from by omega] at hcol
  simp only [coll] at hcol
  have hlane : laneR W E F S B d p = laneR W E F S B d p := rfl
  conv at hlane => rhs; unfold laneR
  generalize F (gt d (laneAt S B p 0)) = n0 at *
  generalize gt d (laneAt S B p 0) = x0 at *
  refine go (aa c1 <| aa hx0 hl0) (aa kat0 kF) ?_
  refine T_for S (fun i v => { env := [(3, .one (.p (.fn gf [] []))), (4, .one (.ptr 4 0 2 0)), (6, .one (.ptr 6 0 2 0)), (8, .one (.ptr 8 0 2 0)), (10, .one (.ptr 10 0 3 0)), (12, .one (.ptr 12 0 2 0)), (13, .one (.p (.int .i64 p))), (14, .one (.p (.int .i64 v))), (38, .one (.p (.int .i64 ((A * B : Nat) : Int)))), (39, .one (.p (.int .i64 p))), (52, .one (.p (.int .i64 S))), (53, .one (.p (.int .i64 i)))], σ := [(4, .cells true [.p (eI s), .p (eI d)]), (6, .cells true [.p (.fn gw [] []), .p (.fn ge [] [])]), (8, .cells true [.nils, .nils]), (10, .cells true [.p (.int .i64 A), .p (.int .i64 S), .p (.int .i64 B)]), (12, .cells true [.msl 5 0 1 (s.length - 1) none, .msl 100 0 1 p none]), (5, .arr true 1 (rI (s.eraseIdx n ++ [0]))), (100, .arr true 1 (rI acc))] })
    (fun i v => I64 v ∧ foldE W (fun i => gt d (laneAt S B p i)) (S - i) i v = foldE W (fun i => gt d (laneAt S B p i)) S 0 n0) n0 ⟨hfr, rfl⟩ (.refl _ _) fun i v hi hv => ?_
  obtain ⟨hv, hfold⟩ := hv
  by_cases hiS : i < S
  · have c2 : (i : Int) < (S : Int) := by omega
    have w4 : IntKind.i64.wrap ((i : Int) + 1) = ((i + 1 : Nat) : Int) := by rw [wrap_in (by omega) (by omega)]; rfl
    have kat := p_reduce_lane_at A S B p i hs16 hb64 hb1 (by omega) (by omega)
    have hli := L.lt hlt2 (i := i) hiS
    have hxi : d[laneAt S B p i]? = some (gt d (laneAt S B p i)) := by unfold gt; rw [List.getElem?_eq_getElem hli]; rfl
    have hy := gt_range hd (laneAt S B p i)
    have kW := hW v (gt d (laneAt S B p i)) hv hy
    have hWr' := hWr v (gt d (laneAt S B p i)) hv hy
    rw [show S - i = (S - (i + 1)) + 1 from by omega] at hfold
    simp only [foldE] at hfold
    generalize gt d (laneAt S B p i) = y at *
    by_cases e1 : (W v y).2 = 0
    · rw [if_pos e1] at hfold
      have e1' : ((W v y).2 != 0) = false := by simp [e1]
      refine go (aa c2 <| aa w4 <| aa hxi <| aa hli e1') (aa kat kW) ?_
      exact rnd_next hiS _ ⟨hWr', hfold⟩ (Weak.sub fun q hq => by
        simp only [List.mem_cons, List.not_mem_nil, or_false] at hq
        rcases hq with rfl | rfl | rfl | rfl | rfl | rfl | rfl <;> rfl)
    · rw [if_neg e1] at hfold
      have e1' : ((W v y).2 != 0) = true := by simp [e1]
      rw [← hfold] at hlane
      simp only [e1, if_false] at hlane
      rw [hlane] at hcol
      simp only [e1, if_false] at hcol
      refine go (aa c2 <| aa w4 <| aa hxi <| aa hli e1') (aa kat kW) ?_
      exact ends_ret rfl rfl rfl (by rw [fin2 _ hcol.symm e1]; rfl)
  · have c2 : ¬ (i : Int) < (S : Int) := by omega
    have hie : i = S := by omega
    rw [hie, Nat.sub_self] at hfold
    simp only [foldE] at hfold
    rw [← hfold] at hlane
    simp only [if_true] at hlane
    rw [hlane] at hcol
    have kE := hE v S hv hs1 hs16
    by_cases e1 : (E v S).2 = 0
    · rw [if_pos e1] at hcol
      have e1' : ((E v S).2 != 0) = false := by simp [e1]
      have c4 : (p + 1) * 8 ≤ 2 ^ 40 := by omega
      have c5 : p + 1 ≤ 2 ^ 40 := by omega
      refine go (aa c2 <| aa w3 <| aa e1' <| aa hal <| aa c4 c5) kE ?_
      refine rnd_next hlt2 (acc ++ [(E v S).1]) ⟨by simp [hal], hcol⟩ (Weak.sub fun q hq => ?_)
      simp only [List.mem_cons, List.not_mem_nil, or_false] at hq
      rcases hq with rfl | rfl | rfl | rfl | rfl | rfl | rfl
      · rfl
      · rfl
      · rfl
      · rfl
      · rfl
      · rfl
      · simp [lo, rI]
    · rw [if_neg e1] at hcol
      have e1' : ((E v S).2 != 0) = true := by simp [e1]
      refine go (aa c2 e1') kE ?_
      exact ends_ret rfl rfl rfl (by rw [fin2 _ hcol.symm e1]; rfl)
def sumS (s d : List Int) (a : Int) : (List Int × List Int) × Int := togetherF fAdd (fun n _ => (n, 0)) (fun _ => 0) s d a
theorem p_reduce_Sum (s d : List Int) (a : Int) (hd : I64s d) : PureC Tryz.prog fi_reduce_Sum [dT s d, dN a] (dTE (sumS s d a)) := by
  refine pure_reduce_Sum (by simp) fun G hP hn => ?_
  unfold a_reduce_Sum
  have k := p_reduce_together (W := fAdd) (E := fun n _ => (n, 0)) (F := fun _ => 0) (fun a b ha hb => p_fix_Add ha hb) (fun a b _ _ => fAdd_range a b) (fun a S _ _ _ => p_reduce_done a S) (fun a _ => p_reduce_none a) (fun _ _ => i64_0) s d a hd
  refine go trivial k ?_
  exact ends_ret rfl rfl rfl rfl
end Go.AM

namespace Go.AM
open Go Go.Proofs
set_option maxRecDepth 100000
set_option maxHeartbeats 4000000

def lenN (x : Nat) : Nat := if x = 0 then 0 else x.log2 + 1
theorem lenN_step {x k : Nat} (h : 2 ^ k ≤ x) : lenN x = lenN (x / 2 ^ k) + k := by
  have h0 : 0 < 2 ^ k := Nat.two_pow_pos k
  have hx : x ≠ 0 := by omega
  have hq : x / 2 ^ k ≠ 0 := by
    have := Nat.div_pos h h0
    omega
  unfold lenN
  rw [if_neg hx, if_neg hq]
  have h1 := (Nat.log2_eq_iff hq).1 rfl
  generalize (x / 2 ^ k).log2 = m at *
  have h2 : 2 ^ m * 2 ^ k ≤ x := Nat.le_trans (Nat.mul_le_mul_right _ h1.1) (Nat.div_mul_le_self x _)
  have h3 : x < 2 ^ (m + 1) * 2 ^ k := by
    rw [← Nat.div_lt_iff_lt_mul h0]; exact h1.2
  rw [← Nat.pow_add] at h2 h3
  have : x.log2 = m + k := (Nat.log2_eq_iff hx).2 ⟨h2, by rw [show m + k + 1 = m + 1 + k from by omega]; exact h3⟩
  omega
theorem lenN_lt {x : Nat} {n : Nat} (h : x < 2 ^ n) : lenN x ≤ n := by
  unfold lenN
  split
  · omega
  · rename_i hx
    have := (Nat.log2_eq_iff hx).1 rfl
    have h2 : 2 ^ x.log2 < 2 ^ n := Nat.lt_of_le_of_lt this.1 h
    have := (Nat.pow_lt_pow_iff_right (by decide : 1 < 2)).1 h2
    omega
theorem lenN_pow {x : Nat} (h : x ≠ 0) (hx : x < 18446744073709551616) : lenN x ≤ 64 ∧ 1 ≤ lenN x ∧ 9223372036854775808 ≤ x * 2 ^ (64 - lenN x) ∧ x * 2 ^ (64 - lenN x) < 18446744073709551616 := by
  have h1 := lenN_lt (n := 64) (x := x) (by omega)
  have h2 : lenN x = x.log2 + 1 := if_neg h
  have h3 := (Nat.log2_eq_iff h).1 rfl
  refine ⟨h1, by omega, ?_, ?_⟩
  · have : 2 ^ x.log2 * 2 ^ (64 - lenN x) ≤ x * 2 ^ (64 - lenN x) := Nat.mul_le_mul_right _ h3.1
    rw [← Nat.pow_add, show x.log2 + (64 - lenN x) = 63 from by omega] at this
    omega
  · have : x * 2 ^ (64 - lenN x) < 2 ^ (x.log2 + 1) * 2 ^ (64 - lenN x) := Nat.mul_lt_mul_of_pos_right h3.2 (Nat.two_pow_pos _)
    rw [← Nat.pow_add, show x.log2 + 1 + (64 - lenN x) = 64 from by omega] at this
    omega
structure Knuth (v1 v0 u u1 : Nat) : Prop where
  h1 : 2147483648 ≤ v1
  h2 : v1 < 4294967296
  h3 : v0 < 4294967296
  h4 : u < v1 * 4294967296 + v0
  h5 : u1 < 4294967296
def Knuth.q {v1 v0 u u1 : Nat} (_ : Knuth v1 v0 u u1) : Nat := (u * 4294967296 + u1) / (v1 * 4294967296 + v0)
theorem Knuth.q_lt {v1 v0 u u1 : Nat} (h : Knuth v1 v0 u u1) : h.q < 4294967296 := by
  have := h.h1; have := h.h4; have := h.h5
  unfold Knuth.q
  rw [Nat.div_lt_iff_lt_mul (by omega)]
  omega
theorem Knuth.lt_iff {v1 v0 u u1 : Nat} (h : Knuth v1 v0 u u1) {q r : Nat} (hq : q * v1 + r = u) : h.q < q ↔ q * v0 > 4294967296 * r + u1 := by
  have := h.h1
  unfold Knuth.q
  rw [Nat.div_lt_iff_lt_mul (by omega), Nat.mul_add, ← Nat.mul_assoc, ← hq]
  generalize q * v1 = P
  generalize q * v0 = A
  omega
theorem Knuth.start {v1 v0 u u1 : Nat} (h : Knuth v1 v0 u u1) : u / v1 * v1 + u % v1 = u ∧ h.q ≤ u / v1 ∧ u % v1 < 4294967296 := by
  have h1 := h.h1
  refine ⟨by rw [Nat.mul_comm]; exact Nat.div_add_mod u v1, ?_, by have := Nat.mod_lt u (y := v1) (by omega); have := h.h2; omega⟩
  rw [Nat.le_div_iff_mul_le (by omega)]
  have h2 : h.q * (v1 * 4294967296 + v0) ≤ u * 4294967296 + u1 := Nat.div_mul_le_self _ _
  rw [Nat.mul_add, ← Nat.mul_assoc] at h2
  have := h.h5
  generalize h.q * v1 = P at *
  generalize h.q * v0 = A at *
  omega
theorem Knuth.small {v1 v0 u u1 : Nat} (h : Knuth v1 v0 u u1) {q r : Nat} (hq : q * v1 + r = u) (hr : 4294967296 ≤ r) : q < 4294967296 ∧ q ≤ h.q := by
  have h1 := h.h1; have h2 := h.h2; have h3 := h.h3; have h4 := h.h4
  have hlt : q * v1 < 4294967296 * v1 := by
    rw [Nat.mul_comm 4294967296 v1]
    omega
  have hqb : q < 4294967296 := Nat.lt_of_mul_lt_mul_right hlt
  refine ⟨hqb, ?_⟩
  have : ¬ h.q < q := by
    rw [h.lt_iff hq]
    have hA : q * v0 ≤ 4294967296 * v0 := Nat.mul_le_mul_right v0 (by omega)
    omega
  omega
theorem Knuth.rest {v1 v0 u u1 : Nat} (h : Knuth v1 v0 u u1) : u * 4294967296 + u1 = h.q * (v1 * 4294967296 + v0) + (u * 4294967296 + u1) % (v1 * 4294967296 + v0) ∧ (u * 4294967296 + u1) % (v1 * 4294967296 + v0) < v1 * 4294967296 + v0 := by
  have h1 := h.h1
  refine ⟨?_, Nat.mod_lt _ (by omega)⟩
  unfold Knuth.q
  have := Nat.div_add_mod (u * 4294967296 + u1) (v1 * 4294967296 + v0)
  rw [Nat.mul_comm] at this
  exact this.symm
def tabL : Array UInt8 := #[0, 1, 2, 2, 3, 3, 3, 3, 4, 4, 4, 4, 4, 4, 4, 4, 5, 5, 5, 5, 5, 5, 5, 5, 5, 5, 5, 5, 5, 5, 5, 5, 6, 6, 6, 6, 6, 6, 6, 6, 6, 6, 6, 6, 6, 6, 6, 6, 6, 6, 6, 6, 6, 6, 6, 6, 6, 6, 6, 6, 6, 6, 6, 6, 7, 7, 7, 7, 7, 7, 7, 7, 7, 7, 7, 7, 7, 7, 7, 7, 7, 7, 7, 7, 7, 7, 7, 7, 7, 7, 7, 7, 7, 7, 7, 7, 7, 7, 7, 7, 7, 7, 7, 7, 7, 7, 7, 7, 7, 7, 7, 7, 7, 7, 7, 7, 7, 7, 7, 7, 7, 7, 7, 7, 7, 7, 7, 7, 8, 8, 8, 8, 8, 8, 8, 8, 8, 8, 8, 8, 8, 8, 8, 8, 8, 8, 8, 8, 8, 8, 8, 8, 8, 8, 8, 8, 8, 8, 8, 8, 8, 8, 8, 8, 8, 8, 8, 8, 8, 8, 8, 8, 8, 8, 8, 8, 8, 8, 8, 8, 8, 8, 8, 8, 8, 8, 8, 8, 8, 8, 8, 8, 8, 8, 8, 8, 8, 8, 8, 8, 8, 8, 8, 8, 8, 8, 8, 8, 8, 8, 8, 8, 8, 8, 8, 8, 8, 8, 8, 8, 8, 8, 8, 8, 8, 8, 8, 8, 8, 8, 8, 8, 8, 8, 8, 8, 8, 8, 8, 8, 8, 8, 8, 8, 8, 8, 8, 8, 8, 8, 8, 8, 8, 8, 8, 8]
theorem tab_lenN : ∀ x : Nat, x < 256 → tabL[x]? = some (UInt8.ofNat (lenN x)) := by decide +kernel
end Go.AM

namespace Go.AM
open Go Go.Proofs
set_option maxRecDepth 100000
set_option maxHeartbeats 4000000

theorem tab_get (x : Nat) (h : x < 256) : (⟨#[0, 1, 2, 2, 3, 3, 3, 3, 4, 4, 4, 4, 4, 4, 4, 4, 5, 5, 5, 5, 5, 5, 5, 5, 5, 5, 5, 5, 5, 5, 5, 5, 6, 6, 6, 6, 6, 6, 6, 6, 6, 6, 6, 6, 6, 6, 6, 6, 6, 6, 6, 6, 6, 6, 6, 6, 6, 6, 6, 6, 6, 6, 6, 6, 7, 7, 7, 7, 7, 7, 7, 7, 7, 7, 7, 7, 7, 7, 7, 7, 7, 7, 7, 7, 7, 7, 7, 7, 7, 7, 7, 7, 7, 7, 7, 7, 7, 7, 7, 7, 7, 7, 7, 7, 7, 7, 7, 7, 7, 7, 7, 7, 7, 7, 7, 7, 7, 7, 7, 7, 7, 7, 7, 7, 7, 7, 7, 7, 8, 8, 8, 8, 8, 8, 8, 8, 8, 8, 8, 8, 8, 8, 8, 8, 8, 8, 8, 8, 8, 8, 8, 8, 8, 8, 8, 8, 8, 8, 8, 8, 8, 8, 8, 8, 8, 8, 8, 8, 8, 8, 8, 8, 8, 8, 8, 8, 8, 8, 8, 8, 8, 8, 8, 8, 8, 8, 8, 8, 8, 8, 8, 8, 8, 8, 8, 8, 8, 8, 8, 8, 8, 8, 8, 8, 8, 8, 8, 8, 8, 8, 8, 8, 8, 8, 8, 8, 8, 8, 8, 8, 8, 8, 8, 8, 8, 8, 8, 8, 8, 8, 8, 8, 8, 8, 8, 8, 8, 8, 8, 8, 8, 8, 8, 8, 8, 8, 8, 8, 8, 8, 8, 8, 8, 8, 8, 8]⟩ : ByteArray)[x]? = some (UInt8.ofNat (lenN x)) := by
  have := tab_lenN x h
  rw [Array.getElem?_eq_getElem (by rw [show tabL.size = 256 from rfl]; exact h)] at this
  rw [← this]
  exact getElem?_pos _ _ _
theorem u8_len {x : Nat} (h : x < 256) : (UInt8.ofNat (lenN x)).toNat = lenN x ∧ lenN x ≤ 8 := by
  have := lenN_lt (n := 8) (x := x) h
  refine ⟨?_, this⟩
  rw [UInt8.toNat_ofNat']
  omega
theorem u8_eq (n : Int) : IntKind.u8.wrap n = n % 256 := by
  simp [IntKind.wrap, IntKind.bits, IntKind.signed]
theorem p_Len64 {x : Nat} (hx : x < 18446744073709551616) : PureC Tryz.prog fi_math_bits_Len64 [dU x] (dN (lenN x)) := by
  refine pure_math_bits_Len64 (by simp) fun G hP hn => ?_
  unfold a_math_bits_Len64
  have fin : ∀ (y : Nat) (n : Int), y < 256 → (lenN x : Int) = lenN y + n → 0 ≤ n → n ≤ 56 → IntKind.u8.wrap (y : Int) = (y : Int) ∧ (⟨#[0, 1, 2, 2, 3, 3, 3, 3, 4, 4, 4, 4, 4, 4, 4, 4, 5, 5, 5, 5, 5, 5, 5, 5, 5, 5, 5, 5, 5, 5, 5, 5, 6, 6, 6, 6, 6, 6, 6, 6, 6, 6, 6, 6, 6, 6, 6, 6, 6, 6, 6, 6, 6, 6, 6, 6, 6, 6, 6, 6, 6, 6, 6, 6, 7, 7, 7, 7, 7, 7, 7, 7, 7, 7, 7, 7, 7, 7, 7, 7, 7, 7, 7, 7, 7, 7, 7, 7, 7, 7, 7, 7, 7, 7, 7, 7, 7, 7, 7, 7, 7, 7, 7, 7, 7, 7, 7, 7, 7, 7, 7, 7, 7, 7, 7, 7, 7, 7, 7, 7, 7, 7, 7, 7, 7, 7, 7, 7, 8, 8, 8, 8, 8, 8, 8, 8, 8, 8, 8, 8, 8, 8, 8, 8, 8, 8, 8, 8, 8, 8, 8, 8, 8, 8, 8, 8, 8, 8, 8, 8, 8, 8, 8, 8, 8, 8, 8, 8, 8, 8, 8, 8, 8, 8, 8, 8, 8, 8, 8, 8, 8, 8, 8, 8, 8, 8, 8, 8, 8, 8, 8, 8, 8, 8, 8, 8, 8, 8, 8, 8, 8, 8, 8, 8, 8, 8, 8, 8, 8, 8, 8, 8, 8, 8, 8, 8, 8, 8, 8, 8, 8, 8, 8, 8, 8, 8, 8, 8, 8, 8, 8, 8, 8, 8, 8, 8, 8, 8, 8, 8, 8, 8, 8, 8, 8, 8, 8, 8, 8, 8, 8, 8, 8, 8, 8, 8]⟩ : ByteArray)[y]? = some (UInt8.ofNat (lenN y)) ∧ IntKind.i64.wrap ((((UInt8.ofNat (lenN y)).toNat : Nat)) : Int) = (lenN y : Int) ∧ IntKind.i64.wrap (n + (lenN y : Int)) = (lenN x : Int) := fun y n h h2 h0 h3 => by
    have h4 := u8_len h
    refine ⟨by rw [u8_eq]; omega, tab_get y h, ?_, ?_⟩
    · rw [h4.1]; exact wrap_in (by omega) (by omega)
    · rw [wrap_in (by omega) (by omega), h2]; omega
  have s32 : shrZ .u64 (x : Int) 32 = ((x / 2 ^ 32 : Nat) : Int) := shr32 x
  have shr : ∀ (y k : Nat), k ≤ 64 → shrZ .u64 (y : Int) (k : Int) = ((y / 2 ^ k : Nat) : Int) := fun y k hk => by
    unfold shrZ
    rw [Int.toNat_natCast, show min k (IntKind.u64.bits) = k from by show min k 64 = k; omega, Int.fdiv_eq_ediv_of_nonneg _ (Int.pow_nonneg (by decide))]
    push_cast; rfl
  have shr16 : ∀ y : Nat, shrZ .u64 (y : Int) 16 = ((y / 2 ^ 16 : Nat) : Int) := fun y => shr y 16 (by decide)
  have shr8 : ∀ y : Nat, shrZ .u64 (y : Int) 8 = ((y / 2 ^ 8 : Nat) : Int) := fun y => shr y 8 (by decide)
  obtain ⟨x1, n1, e1, b1, h1⟩ : ∃ (x1 : Nat) (n1 : Int), (lenN x : Int) = lenN x1 + n1 ∧ x1 < 2 ^ 32 ∧ ((¬ (x : Int) ≥ 4294967296 ∧ x = x1 ∧ 0 = n1) ∨ ((x : Int) ≥ 4294967296 ∧ x / 2 ^ 32 = x1 ∧ 32 = n1)) := by
    by_cases h : x < 2 ^ 32
    · exact ⟨x, 0, by omega, h, .inl ⟨by omega, rfl, rfl⟩⟩
    · exact ⟨x / 2 ^ 32, 32, by have := lenN_step (x := x) (k := 32) (by omega); omega, by omega, .inr ⟨by omega, rfl, rfl⟩⟩
  obtain ⟨x2, n2, e2, b2, h2⟩ : ∃ (x2 : Nat) (n2 : Int), (lenN x1 : Int) = lenN x2 + n2 ∧ x2 < 2 ^ 16 ∧ ((¬ (x1 : Int) ≥ 65536 ∧ x1 = x2 ∧ 0 = n2) ∨ ((x1 : Int) ≥ 65536 ∧ x1 / 2 ^ 16 = x2 ∧ 16 = n2)) := by
    by_cases h : x1 < 2 ^ 16
    · exact ⟨x1, 0, by omega, h, .inl ⟨by omega, rfl, rfl⟩⟩
    · exact ⟨x1 / 2 ^ 16, 16, by have := lenN_step (x := x1) (k := 16) (by omega); omega, by omega, .inr ⟨by omega, rfl, rfl⟩⟩
  obtain ⟨x3, n3, e3, b3, h3⟩ : ∃ (x3 : Nat) (n3 : Int), (lenN x2 : Int) = lenN x3 + n3 ∧ x3 < 2 ^ 8 ∧ ((¬ (x2 : Int) ≥ 256 ∧ x2 = x3 ∧ 0 = n3) ∨ ((x2 : Int) ≥ 256 ∧ x2 / 2 ^ 8 = x3 ∧ 8 = n3)) := by
    by_cases h : x2 < 2 ^ 8
    · exact ⟨x2, 0, by omega, h, .inl ⟨by omega, rfl, rfl⟩⟩
    · exact ⟨x2 / 2 ^ 8, 8, by have := lenN_step (x := x2) (k := 8) (by omega); omega, by omega, .inr ⟨by omega, rfl, rfl⟩⟩
  have hnn : 0 ≤ n1 + n2 + n3 ∧ n1 + n2 + n3 ≤ 56 := by omega
  obtain ⟨g1, g2, g3, g4⟩ := fin x3 (n1 + n2 + n3) b3 (by omega) (by omega) (by omega)
  have w1 : IntKind.i64.wrap 8 = 8 := by decide
  have w2 : IntKind.i64.wrap 16 = 16 := by decide
  have w3 : IntKind.i64.wrap 24 = 24 := by decide
  have w4 : IntKind.i64.wrap 40 = 40 := by decide
  have w5 : IntKind.i64.wrap 48 = 48 := by decide
  have w6 : IntKind.i64.wrap 56 = 56 := by decide
  clear e1 e2 e3 fin shr
  rcases h1 with ⟨c1, rfl, rfl⟩ | ⟨c1, rfl, rfl⟩
  all_goals
    rcases h2 with ⟨c2, rfl, rfl⟩ | ⟨c2, rfl, rfl⟩
    all_goals
      rcases h3 with ⟨c3, rfl, rfl⟩ | ⟨c3, rfl, rfl⟩
      all_goals
        simp only [Int.add_zero, Int.zero_add, Int.reduceAdd] at g4
        refine go (aa c1 <| aa c2 <| aa c3 <| aa s32 <| aa @shr16 <| aa @shr8 <| aa w1 <| aa w2 <| aa w3 <| aa w4 <| aa w5 <| aa w6 <| aa g1 <| aa g2 <| aa g3 g4) trivial ?_
        exact ends_ret rfl rfl rfl (by first | rfl | (simp only [Int.zero_add]; rw [g4]; rfl))
def lzN (x : Nat) : Nat := 64 - lenN x
theorem p_LZ64 {x : Nat} (hx : x < 18446744073709551616) : PureC Tryz.prog fi_math_bits_LeadingZeros64 [dU x] (dN (lzN x)) := by
  refine pure_math_bits_LeadingZeros64 (by simp) fun G hP hn => ?_
  unfold a_math_bits_LeadingZeros64
  have k := p_Len64 hx
  have hl := lenN_lt (n := 64) (x := x) (by omega)
  have w : IntKind.i64.wrap (64 - (lenN x : Int)) = (lzN x : Int) := by unfold lzN; rw [wrap_in (by omega) (by omega)]; omega
  refine go @w k ?_
  exact ends_ret rfl rfl rfl rfl
end Go.AM

namespace Go.AM
open Go Go.Proofs
set_option maxRecDepth 100000
set_option maxHeartbeats 4000000

theorem shlN {x k : Nat} (hk : k ≤ 64) (h : x * 2 ^ k < 18446744073709551616) : shlZ .u64 (x : Int) (k : Int) = ((x * 2 ^ k : Nat) : Int) := by
  unfold shlZ
  rw [Int.toNat_natCast, show min k (IntKind.u64.bits) = k from by show min k 64 = k; omega]
  have : (x : Int) * 2 ^ k = ((x * 2 ^ k : Nat) : Int) := by push_cast; rfl
  rw [this]; exact u64_nat h
theorem shlM {x k : Nat} (hk : k ≤ 64) : shlZ .u64 (x : Int) (k : Int) = ((x * 2 ^ k % 18446744073709551616 : Nat) : Int) := by
  unfold shlZ
  rw [Int.toNat_natCast, show min k (IntKind.u64.bits) = k from by show min k 64 = k; omega]
  have : (x : Int) * 2 ^ k = ((x * 2 ^ k : Nat) : Int) := by push_cast; rfl
  rw [this, u64_eq]
  generalize x * 2 ^ k = m
  omega
theorem shrN {y k : Nat} (hk : k ≤ 64) : shrZ .u64 (y : Int) (k : Int) = ((y / 2 ^ k : Nat) : Int) := by
  unfold shrZ
  rw [Int.toNat_natCast, show min k (IntKind.u64.bits) = k from by show min k 64 = k; omega, Int.fdiv_eq_ediv_of_nonneg _ (Int.pow_nonneg (by decide))]
  push_cast; rfl
theorem orN {x y k : Nat} (hk : k ≤ 64) (hx : x * 2 ^ k < 18446744073709551616) (hy : y < 2 ^ k) : orZ .u64 ((x * 2 ^ k : Nat) : Int) (y : Int) = ((x * 2 ^ k + y : Nat) : Int) := by
  have hy2 : y < 18446744073709551616 := by
    have : 2 ^ k ≤ 2 ^ 64 := Nat.pow_le_pow_right (by decide) hk
    omega
  have e : x * 2 ^ k ||| y = x * 2 ^ k + y := by
    rw [← Nat.shiftLeft_eq, Nat.shiftLeft_add_eq_or_of_lt hy]
  have hs : x * 2 ^ k + y < 18446744073709551616 := by
    rw [← e]
    exact Nat.or_lt_two_pow (n := 64) hx hy2
  unfold orZ
  have h1 : (BitVec.ofInt IntKind.u64.bits ((x * 2 ^ k : Nat) : Int)).toNat = x * 2 ^ k := by
    rw [BitVec.toNat_ofInt]
    show (((x * 2 ^ k : Nat) : Int) % (18446744073709551616 : Int)).toNat = _
    omega
  have h2 : (BitVec.ofInt IntKind.u64.bits (y : Int)).toNat = y := by
    rw [BitVec.toNat_ofInt]
    show ((y : Int) % (18446744073709551616 : Int)).toNat = _
    omega
  rw [BitVec.toNat_or, h1, h2, e]
  exact u64_nat hs
theorem p_Div64_0 {lo y : Nat} (hl : lo < 18446744073709551616) (hy : y < 18446744073709551616) (h0 : 0 < y) : PureC Tryz.prog fi_math_bits_Div64 [dU 0, dU lo, dU y] (dUU (lo / y) (lo % y)) := by
  refine pure_math_bits_Div64 (by simp) fun G hP hn => ?_
  unfold a_math_bits_Div64
  have c1 : ((y : Int) == 0) = false := by simp; omega
  have c1' : ((y : Int) = 0) = False := by simp; omega
  have c2 : ¬ (y : Int) ≤ 0 := by omega
  have hq := Nat.div_le_self lo y
  have hr := Nat.mod_lt lo h0
  have qd : IntKind.u64.wrap ((lo : Int).tdiv (y : Int)) = ((lo / y : Nat) : Int) := by
    rw [Int.tdiv_eq_ediv_of_nonneg (by omega), ← Int.natCast_ediv]
    exact u64_nat (by omega)
  have qm : (lo : Int).tmod (y : Int) = ((lo % y : Nat) : Int) := by rw [Int.tmod_eq_emod_of_nonneg (by omega)]; omega
  refine go (aa c1 <| aa c1' <| aa c2 <| aa @qd @qm) trivial ?_
  exact ends_ret rfl rfl rfl rfl
end Go.AM

