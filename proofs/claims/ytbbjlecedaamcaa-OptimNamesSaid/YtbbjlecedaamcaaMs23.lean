import Derived.Test.YtbbjlecedaamcaaMs22
set_option linter.unusedVariables false
set_option linter.unusedSimpArgs false
namespace Go.AM
open Go Go.Proofs
set_option maxRecDepth 100000
set_option maxHeartbeats 4000000

theorem side_pos {s : List Int} (h : ShapeOk s) (i : Nat) : 1 ≤ sideS s i := by
  by_cases hi : i < s.length
  · have := sideS_lt hi
    exact (h.2.1 _ (List.mem_of_getElem? this)).1
  · rw [sideS_ge (by omega)]; omega
theorem side_ext {s t : List Int} (hl : s.length = t.length) (h : ∀ i, i < s.length → sideS s i = sideS t i) : s = t := by
  have key : s.reverse = t.reverse := by
    apply List.ext_getElem?
    intro i
    by_cases hi : i < s.length
    · have := h i hi
      unfold sideS at this
      rw [List.getElem?_eq_getElem (by simpa using hi), List.getElem?_eq_getElem (by simp; omega)] at this ⊢
      simpa using this
    · rw [List.getElem?_eq_none (by simp; omega), List.getElem?_eq_none (by simp; omega)]
  have := congrArg List.reverse key
  simpa using this
theorem side_joinSh {a b : List Int} {k i : Nat} (hi : i < k) : sideS (joinSh a b k) i = maxS a b i := by
  unfold sideS joinSh
  rw [List.reverse_reverse, List.getElem?_map, List.getElem?_range hi]; rfl
structure JoinOk (a b r : List Int) : Prop where
  ha : ShapeOk a
  hb : ShapeOk b
  hr : ShapeOk r
  len : r.length = max a.length b.length
  side : ∀ i, sideS r i = max (sideS a i) (sideS b i)
  ok : ∀ i, sideS a i = sideS b i ∨ sideS a i = 1 ∨ sideS b i = 1
theorem clash_iff {x y : Int} : clash x y = false ↔ x = y ∨ x = 1 ∨ y = 1 := by
  unfold clash
  by_cases h1 : x = y <;> by_cases h2 : x = 1 <;> by_cases h3 : y = 1 <;> simp [h1, h2, h3]
theorem joinOk_of {a b : List Int} (h : joinOk a b = true) : JoinOk a b (joinSh a b (max a.length b.length)) := by
  unfold joinOk at h
  simp only [Bool.and_eq_true, List.all_eq_true, List.mem_range] at h
  obtain ⟨h1, h2, h3, h4⟩ := h
  refine ⟨checkS_iff.1 h1, checkS_iff.1 h2, checkS_iff.1 h4, joinSh_len _ _ _, fun i => ?_, fun i => ?_⟩
  · by_cases hi : i < max a.length b.length
    · exact side_joinSh hi
    · rw [sideS_ge (by rw [joinSh_len]; omega), sideS_ge (s := a) (by omega), sideS_ge (s := b) (by omega)]; rfl
  · by_cases hi : i < max a.length b.length
    · have := h3 i hi
      rw [Bool.not_eq_true'] at this
      exact clash_iff.1 this
    · left; rw [sideS_ge (s := a) (by omega), sideS_ge (s := b) (by omega)]
theorem JoinOk.eq {a b r : List Int} (h : JoinOk a b r) : joinSF a b = (r, 0) := by
  have hr : joinSh a b (max a.length b.length) = r := side_ext (by rw [joinSh_len, h.len]) fun i hi => by
    rw [joinSh_len] at hi
    rw [side_joinSh hi, h.side i]; rfl
  have hk : joinOk a b = true := by
    unfold joinOk
    rw [checkS_iff.2 h.ha, checkS_iff.2 h.hb, hr, checkS_iff.2 h.hr]
    have : ((List.range (max a.length b.length)).all fun i => !clash (sideS a i) (sideS b i)) = true := by
      rw [List.all_eq_true]
      intro i _
      rw [clash_iff.2 (h.ok i)]; rfl
    rw [this]; rfl
  unfold joinSF
  rw [if_pos hk, hr]
theorem join_or (a b : List Int) : (∃ r, JoinOk a b r ∧ joinSF a b = (r, 0)) ∨ ((¬ ∃ r, JoinOk a b r) ∧ joinSF a b = ([], 20)) := by
  by_cases h : joinOk a b = true
  · exact .inl ⟨_, joinOk_of h, (joinOk_of h).eq⟩
  · have e : joinSF a b = ([], 20) := by unfold joinSF; rw [if_neg h]
    refine .inr ⟨?_, e⟩
    rintro ⟨r, k⟩
    rw [k.eq] at e; simp at e
theorem JoinOk.comm {a b r : List Int} (h : JoinOk a b r) : JoinOk b a r :=
  ⟨h.hb, h.ha, h.hr, by rw [h.len]; omega, fun i => by rw [h.side i]; omega, fun i => by have := h.ok i; omega⟩
theorem JoinOk.left {a b r : List Int} (h : JoinOk a b r) : JoinOk a r r :=
  ⟨h.ha, h.hr, h.hr, by have := h.len; omega, fun i => by have := h.side i; omega, fun i => by
    have h1 := h.side i; have h2 := h.ok i; have h3 := side_pos h.ha i; have h4 := side_pos h.hb i; omega⟩
theorem JoinOk.right {a b r : List Int} (h : JoinOk a b r) : JoinOk b r r := h.comm.left
theorem JoinOk.self {s : List Int} (h : ShapeOk s) : JoinOk s s s := ⟨h, h, h, by omega, fun i => by omega, fun i => .inl rfl⟩
theorem shape_nil : ShapeOk [] := checkS_iff.1 (by decide)
theorem JoinOk.nil {s : List Int} (h : ShapeOk s) : JoinOk [] s s :=
  ⟨shape_nil, h, h, by simp, fun i => by have := side_pos h i; rw [sideS_ge (s := []) (by simp)]; omega, fun i => .inr (.inl (sideS_ge (by simp)))⟩
theorem JoinOk.uniq {a b r r' : List Int} (h : JoinOk a b r) (k : JoinOk a b r') : r = r' := by
  have := h.eq
  rw [k.eq] at this
  exact (congrArg Prod.fst this).symm
theorem JoinOk.trans {a b r : List Int} (h : JoinOk a b b) (k : JoinOk b r r) : JoinOk a r r :=
  ⟨h.ha, k.hb, k.hr, by have := h.len; have := k.len; omega, fun i => by have := h.side i; have := k.side i; omega, fun i => by
    have h1 := h.side i; have h2 := h.ok i; have h3 := side_pos h.ha i; have h4 := side_pos h.hb i
    have k1 := k.side i; have k2 := k.ok i; have k4 := side_pos k.hb i; omega⟩
theorem fits_of {s g : List Int} (h : JoinOk s g g) : fitsS s g = true := by
  unfold fitsS; rw [h.eq]; simp [sameL_refl]
theorem of_fits {s g : List Int} (h : fitsS s g = true) : JoinOk s g g := by
  unfold fitsS at h
  rcases join_or s g with ⟨r, k, e⟩ | ⟨_, e⟩
  · rw [e] at h
    simp only [beq_self_eq_true, Bool.true_and] at h
    have := sameL_iff.1 h
    subst this
    exact k
  · rw [e] at h; simp at h
def clip : List Int → List Int → List Int
  | m :: s, k :: x => (if m > 1 then k else 0) :: clip s x
  | _, _ => []
def FitR (s g : List Int) : Prop := All2 (fun m k => m = k ∨ m = 1) s g
theorem clip_in : ∀ {s g x : List Int}, Sides s → FitR s g → InIdx g x → InIdx s (clip s x)
  | [], _, _, _, h, _ => by cases h; cases ‹InIdx _ _›; exact .nil
  | m :: s, _, _, hs, h, hx => by
    cases h with
    | cons h t => cases hx with
      | cons k0 k1 hx =>
        have := hs.head
        refine .cons ?_ ?_ (clip_in hs.tail t hx)
        · split <;> omega
        · split <;> omega
theorem dot_clip : ∀ {s g x : List Int} {a : Int}, Sides s → FitR s g → InIdx g x → dotL x (stp s) a = a + pl s (clip s x) 0
  | [], _, _, a, _, h, hx => by cases h; cases hx; simp [dotL, stp, clip, pl]
  | m :: s, _, _, a, hs, h, hx => by
    cases h with
    | cons h t => cases hx with
      | @cons _ k _ _ k0 k1 hx =>
        have ih := dot_clip (a := a + k * (if m > 1 then prd s else 0)) hs.tail t hx
        have h2 := pl_add (clip_in hs.tail t hx) (0 * m + (if m > 1 then k else 0))
        simp only [dotL, stp, clip, pl]
        rw [ih, h2]
        split <;> simp <;> omega
theorem dot_skip : ∀ {n : Nat} {x1 x2 t : List Int} {a : Int}, x1.length = n → dotL (x1 ++ x2) (List.replicate n 0 ++ t) a = dotL x2 t a
  | 0, [], _, _, _, _ => rfl
  | n + 1, k :: x1, x2, t, a, h => by
    simp only [List.cons_append, List.replicate_succ, dotL, Int.mul_zero, Int.add_zero]
    exact dot_skip (by simpa using h)
theorem JoinOk.fitR {s g : List Int} (h : JoinOk s g g) : s.length ≤ g.length ∧ FitR s (g.drop (g.length - s.length)) := by
  have hl : s.length ≤ g.length := by have := h.len; omega
  refine ⟨hl, All2.of_get (by simp; omega) fun i m k hm hk => ?_⟩
  have hi := (List.getElem?_eq_some_iff.1 hm).1
  have e1 := sideS_lt (s := s) (i := s.length - 1 - i) (by omega)
  have e2 := sideS_lt (s := g) (i := s.length - 1 - i) (by omega)
  rw [show s.length - 1 - (s.length - 1 - i) = i from by omega, hm] at e1
  rw [List.getElem?_drop] at hk
  rw [show g.length - 1 - (s.length - 1 - i) = g.length - s.length + i from by omega, hk] at e2
  have h1 := h.side (s.length - 1 - i); have h2 := h.ok (s.length - 1 - i); have h3 := side_pos h.ha (s.length - 1 - i); have h4 := side_pos h.hb (s.length - 1 - i)
  simp only [Option.some.injEq] at e1 e2
  omega
theorem InIdx.drop {s x : List Int} (h : InIdx s x) : ∀ n, InIdx (s.drop n) (x.drop n) := by
  induction h with
  | nil => intro n; simp; exact .nil
  | cons k0 k1 h ih =>
    intro n
    cases n with
    | zero => exact .cons k0 k1 h
    | succ n => exact ih n
def fromX (s x : List Int) : List Int := clip s (x.drop (x.length - s.length))
theorem fromX_in {s g x : List Int} (h : JoinOk s g g) (hx : InIdx g x) : InIdx s (fromX s x) := by
  have hf := h.fitR
  have hxl := hx.length
  unfold fromX
  rw [← hxl]
  exact clip_in h.ha.2.1 hf.2 (hx.drop _)
theorem fromAt_eq {s g : List Int} (h : JoinOk s g g) {p : Nat} (hp : (p : Int) < prd g) : fromAt s g p = pl s (fromX s (ix g p)) 0 := by
  have hf := h.fitR
  have hix : InIdx g (ix g p) := ix_in h.hb.2.1
  have hxl := hix.length
  have h64 := h.hb.2.2
  unfold fromAt fromX stepsL
  rw [idxF_eq h.hb.2.1 (by omega) (by omega)]
  generalize ix g (p : Int) = x at *
  rw [← hxl]
  conv => lhs; rw [← List.take_append_drop (g.length - s.length) x]
  rw [dot_skip (by simp; omega), dot_clip h.ha.2.1 hf.2 (hix.drop _), Int.zero_add]
theorem fromAt_lt {s g : List Int} (h : JoinOk s g g) {p : Nat} (hp : (p : Int) < prd g) : 0 ≤ fromAt s g p ∧ fromAt s g p < prd s := by
  rw [fromAt_eq h hp]
  exact pl_lt (fromX_in h (ix_in h.hb.2.1))
def spreadD (s d g : List Int) : List Int := mk g fun x => (atF s d (fromX s x)).1
def spreadN (s d g : List Int) (n : Nat) : List Int := (List.range n).map fun p => (d[(fromAt s g ((p : Nat) : Int)).toNat]?).getD 0
theorem spreadN_eq {s d g : List Int} (h : JoinOk s g g) (hc : checkT s d = true) : spreadN s d g (sizeS g).toNat = spreadD s d g := by
  unfold spreadN spreadD mk
  apply List.map_congr_left
  intro p hp
  have hp := List.mem_range.1 hp
  have hsz := sizeS_ok h.hb
  have h64 := h.hb.2.2
  have hlt : (p : Int) < prd g := by omega
  have hix : InIdx g (ix g p) := ix_in h.hb.2.1
  rw [fromAt_eq h hlt, idxF_eq h.hb.2.1 (by omega) (by omega)]
  show _ = (atF s d (fromX s (ix g p))).1
  rw [atF_ok hc (fromX_in h hix)]
end Go.AM

namespace Go.AM
open Go Go.Proofs
set_option maxRecDepth 100000
set_option maxHeartbeats 4000000

theorem p_bits_Mul {x y : Nat} (hx : x < 18446744073709551616) (hy : y < 18446744073709551616) : PureC Try.prog fi_math_bits_Mul [dU x, dU y] (dUU (x * y / 18446744073709551616) (x * y % 18446744073709551616)) := by
  refine pure_math_bits_Mul (by simp) fun G hP hn => ?_
  unfold a_math_bits_Mul
  have k := p_bits_Mul64 hx hy
  have w1 := u64_nat hx
  have w2 := u64_nat hy
  have w3 : IntKind.u64.wrap ((x * y / 18446744073709551616 : Nat) : Int) = ((x * y / 18446744073709551616 : Nat) : Int) := u64_nat (by
    have : x * y < 18446744073709551616 * 18446744073709551616 := Nat.mul_lt_mul'' hx hy
    omega)
  have w4 : IntKind.u64.wrap ((x * y % 18446744073709551616 : Nat) : Int) = ((x * y % 18446744073709551616 : Nat) : Int) := u64_nat (by omega)
  generalize x * y / 18446744073709551616 = h at *
  generalize x * y % 18446744073709551616 = l at *
  refine go (aa w1 <| aa w2 <| aa w3 w4) k ?_
  exact ends_ret rfl rfl rfl rfl
def repL (v : Int) (k n : Nat) : List Int := List.replicate n v ++ List.replicate (k - n) 0
theorem m_slices_Repeat (v : Int) (k : Nat) (h1 : 1 ≤ k) (h2 : k ≤ 64) : MutC Try.prog fi_slices_Repeat_int_int [.one (.msl 13 0 1 1 none), .one (.p (.int .i64 k))] [(13, .arr true 1 (rI [v]))]
    (.one (.msl 30 0 1 k (some k))) [(13, .arr true 1 (rI [v])), (30, .arr true 1 (rI (List.replicate k v)))] [30] := by
  refine mut_slices_Repeat_int_int (by simp) fun G ex hP hn hfr => ?_
  unfold a_slices_Repeat_int_int
  have hfr := hfr 30 (by simp)
  have kb := p_bits_Mul (x := 1) (y := k) (by omega) (by omega)
  rw [Nat.one_mul, show k / 18446744073709551616 = 0 from by omega, show k % 18446744073709551616 = k from by omega] at kb
  have w1 : IntKind.u64.wrap (1 : Int) = 1 := by decide
  have w2 := u64_nat (n := k) (by omega)
  have w3 : IntKind.i64.wrap (k : Int) = (k : Int) := wrap_in (by omega) (by omega)
  have c0 : ¬ (k : Int) < 0 := by omega
  have c1 : ¬ (k : Int) > 9223372036854775807 := by omega
  have hM : MaxN = 140737488355328 := rfl
  have q1 : (k : Int) * 8 ≤ MaxN := by omega
  have q2 : (k : Int) ≤ MaxN := by omega
  have m1 : min (1 : Int) (k : Int) = 1 := by omega
  refine go (aa w1 <| aa w2 <| aa w3 <| aa c0 <| aa c1 <| aa m1 <| aa q1 <| aa q2 <| aa hfr (scr_ex hfr)) kb ?_
  have e0 : List.take k [[PV.int IntKind.i64 v]] = [[PV.int IntKind.i64 v]] := List.take_of_length_le (by simpa using h1)
  refine T_for k (fun i (n : Nat) => { env := [(7, .one (.msl 30 0 1 k (some k))), (8, .one (.p (.int .i64 n)))], σ := [(30, .arr true 1 (rI (repL v k n))), (13, .arr true 1 (rI [v]))], ex := ex })
    (fun i n => i < n ∧ n ≤ k) 1 ⟨by omega, h1⟩ ?_ fun i n hi hc => ?_
  · refine Weak.sub fun p hp => ?_
    simp only [List.mem_cons, List.not_mem_nil, or_false] at hp
    rcases hp with rfl | rfl
    · simp [lo, e0, repL, rI]
    · rfl
  obtain ⟨c1, c2⟩ := hc
  by_cases hlt : n < k
  · have c3 : (n : Int) < k := by omega
    have c4 : (n : Int) ≤ k := by omega
    refine go (aa c3 <| aa c4 c2) trivial ?_
    have n0 : ¬ n = 0 := by omega
    have n1 : ¬ n = k := by omega
    have hl : (repL v k n).length = k := by simp [repL]; omega
    have c5 : n + (k - n) = k := by omega
    have e1 : (List.take (k - n) (List.take n (rI (repL v k n)))) = rI (List.replicate (min n (k - n)) v) := by
      simp [repL, rI, List.take_append_of_le_length, List.take_replicate, Nat.min_comm]
    have e2 : (List.take n (rI (repL v k n))).length = n := by simp [hl]; omega
    have w4 : IntKind.i64.wrap ((n : Int) + min (n : Int) ((k - n : Nat) : Int)) = ((n + min n (k - n) : Nat) : Int) := by rw [wrap_in (by omega) (by omega)]; omega
    have e3 : List.take n (rI (repL v k n)) ++ rI (List.replicate (min n (k - n)) v) ++ List.drop (n + min n (k - n)) (rI (repL v k n)) = rI (repL v k (n + min n (k - n))) := by
      rw [← List.map_take, ← List.map_drop, ← List.map_append, ← List.map_append]
      congr 1
      unfold repL
      rw [List.take_append_of_le_length (by simp), List.take_of_length_le (by simp), List.drop_append, List.drop_of_length_le (by simp), List.nil_append, List.length_replicate, List.drop_replicate, List.replicate_append_replicate]
      congr 2
      omega
    apply T_dr fw (by rw [hP]; rfl)
    · simp only [go_sem, seval, reduceIte, ↓reduceIte, bne, beq_false, beq_true, Bool.not_eq_true, Bool.if_true_right, decide_not, reduceCtorEq, hP, all1, n0, n1, hlt, hl, c3, c4, c2, c5, e1, e2, w4, Nat.le_refl, Int.le_refl]
      exact rfl
    refine go trivial trivial ?_
    refine rnd_next (by omega) (n + min n (k - n)) ⟨by omega, by omega⟩ (Weak.sub fun p hp => ?_)
    simp only [List.mem_cons, List.not_mem_nil, or_false] at hp
    rcases hp with rfl | rfl
    · rw [← e3]; simp [lo]
    · rfl
  · have c3 : ¬ (n : Int) < k := by omega
    have hnk : n = k := by omega
    refine go c3 trivial ?_
    refine endsM_ret rfl rfl rfl (fun p hp => ?_) rfl
    simp only [List.mem_cons, List.not_mem_nil, or_false] at hp
    rcases hp with rfl | rfl
    · rfl
    · simp [lo, hnk, repL]
end Go.AM

namespace Go.AM
open Go Go.Proofs
set_option maxRecDepth 100000
set_option maxHeartbeats 4000000

def fullF (s : List Int) (n : Int) : (List Int × List Int) × Int := if checkS s = true then ((s, List.replicate (sizeS s).toNat n), 0) else bad 20
theorem sizeS_nat (s : List Int) : sizeS s = (((sizeS s).toNat : Nat) : Int) := by have := sizeS_nn s; omega
theorem sizeS_one {s : List Int} (h : checkS s = true) : 1 ≤ (sizeS s).toNat ∧ (sizeS s).toNat ≤ 64 := by
  have h1 := checkS_iff.1 h
  have h2 := sizeS_ok h1
  have h3 := prd_pos h1.2.1
  have h4 := h1.2.2
  omega
theorem c_size {s : List Int} : PureC Try.prog fi_shape_Size [dI s] (dN (((sizeS s).toNat : Nat) : Int)) := by
  have := p_shape_Size s
  rw [sizeS_nat s] at this; exact this
theorem m_tensor_Full' {s : List Int} (n : Int) (h : checkS s = true) : MutC Try.prog fi_tensor_Full [.one (.p (eI s)), .one (.p (.int .i64 n))] []
    (.tup [.agg [.msl 5 0 1 s.length none, .msl 30 0 1 (sizeS s).toNat (some (sizeS s).toNat)], .one (.p (.int .i64 0))])
    [(5, .arr true 1 (rI s)), (30, .arr true 1 (rI (List.replicate (sizeS s).toNat n)))] [4, 13, 5, 30] := by
  refine mut_tensor_Full (by simp) fun G ex hP hn hfr => ?_
  unfold a_tensor_Full
  have hs := check_len h
  have kc := p_shape_Check s
  rw [h] at kc
  have kl := m_slices_Clone s (by omega)
  have ks := c_size (s := s)
  have hk := sizeS_one h
  have kr := m_slices_Repeat n (sizeS s).toNat hk.1 hk.2
  have hfr4 := hfr 4 (by simp)
  have hfr13 := hfr 13 (by simp)
  have hfr5 := hfr 5 (by simp)
  have hfr30 := hfr 30 (by simp)
  have hfrA : ∀ x ∈ ex, AV.has 5 x = false := by simpa using hfr5
  have hfrB : ∀ x ∈ ex, AV.has 30 x = false := by simpa using hfr30
  generalize (sizeS s).toNat = k at *
  refine go (aa hfr5 <| aa hfr30 <| aa hfr4 <| aa hfr13 <| aa (scr_ex hfr5) <| aa (scr_ex hfr30) <| aa hfrA hfrB) (aa kc <| aa ks <| aa kl kr) ?_
  refine endsM_ret rfl rfl rfl (fun p hp => ?_) rfl
  simp only [List.mem_cons, List.not_mem_nil, or_false] at hp
  rcases hp with rfl | rfl <;> rfl
theorem m_tensor_Full {s : List Int} (n : Int) (h : checkS s = true) : MutC Try.prog fi_tensor_Full [.one (.p (eI s)), .one (.p (.int .i64 n))] []
    (.tup [.agg [.msl 5 0 1 s.length none, .msl 30 0 1 (sizeS s).toNat (some (sizeS s).toNat)], .one (.p (.int .i64 0))])
    [(5, .arr true 1 (rI s)), (30, .arr true 1 (rI (List.replicate (sizeS s).toNat n)))] [5, 30] :=
  ((m_tensor_Full' n h).hide 4 rfl rfl rfl rfl (by simp)).hide 13 rfl rfl rfl rfl (by simp)
end Go.AM

namespace Go.AM
open Go Go.Proofs
set_option maxRecDepth 100000
set_option maxHeartbeats 4000000

def spreadF (s d g : List Int) : (List Int × List Int) × Int :=
  if checkT s d = true then (if fitsS s g = true then ((g, spreadD s d g), 0) else bad 20) else bad 30
theorem spreadN_len (s d g : List Int) (k : Nat) : (spreadN s d g k).length = k := by simp [spreadN]
theorem spreadN_succ (s d g : List Int) (k : Nat) : spreadN s d g (k + 1) = spreadN s d g k ++ [(d[(fromAt s g ((k : Nat) : Int)).toNat]?).getD 0] := by
  simp [spreadN, List.range_succ]
def spD (s d g : List Int) (k : Nat) : List Int := spreadN s d g k ++ List.replicate ((sizeS g).toNat - k) 0
theorem spD_len {s d g : List Int} {k : Nat} (h : k ≤ (sizeS g).toNat) : (spD s d g k).length = (sizeS g).toNat := by simp [spD, spreadN_len]; omega
theorem spD_set {s d g : List Int} {k : Nat} (h : k < (sizeS g).toNat) : (spD s d g k).set k ((d[(fromAt s g ((k : Nat) : Int)).toNat]?).getD 0) = spD s d g (k + 1) := by
  unfold spD
  rw [spreadN_succ, List.set_append_right _ _ (by rw [spreadN_len]; omega), spreadN_len, Nat.sub_self]
  rw [show (sizeS g).toNat - k = ((sizeS g).toNat - (k + 1)) + 1 from by omega, List.replicate_succ]
  simp
def spS (s d g : List Int) (k : Nat) : Sto :=
  [(2, .cells true [.p (eI s), .p (eI d)]), (4, .cells true [.nils, .nils]), (6, .cells true [.msl 5 0 1 g.length none, .msl 30 0 1 (sizeS g).toNat (some (sizeS g).toNat)]), (5, .arr true 1 (rI g)), (30, .arr true 1 (rI (spD s d g k)))]
theorem sp_fam (s d g : List Int) : Fam (spS s d g) [] := by
  refine ⟨fun k p hp => ?_, fun k t ht => ?_, fun k d hd => ?_, fun k t d hd ht => ?_⟩
  · simp only [spS, List.mem_cons, List.not_mem_nil, or_false] at hp
    rcases hp with rfl | rfl | rfl | rfl | rfl <;> rfl
  · by_cases h : t ∈ (spS s d g k).map (·.1)
    · exact h
    · exact absurd (lo_none h) ht
  · simp at hd
  · simp at hd
theorem p_tensor_Spread (s d g : List Int) : PureC Try.prog fi_tensor_Spread [dT s d, dI g] (dTE (spreadF s d g)) := by
  refine pure_tensor_Spread (by simp) fun G hP hn => ?_
  unfold a_tensor_Spread
  have kc := p_tensor_Check s d
  cases h1 : checkT s d
  · rw [h1] at kc
    have hf : spreadF s d g = bad 30 := by unfold spreadF; rw [if_neg (by simp [h1])]
    refine go trivial kc ?_
    exact ends_ret rfl rfl rfl (by rw [hf]; rfl)
  rw [h1] at kc
  have kf := p_shape_Fits s g
  cases h2 : fitsS s g
  · rw [h2] at kf
    have hf : spreadF s d g = bad 20 := by unfold spreadF; rw [if_pos h1, if_neg (by simp [h2])]
    refine go trivial (aa kc kf) ?_
    exact ends_ret rfl rfl rfl (by rw [hf]; rfl)
  rw [h2] at kf
  have hj := of_fits h2
  have kF := m_tensor_Full (s := g) 0 (checkS_iff.2 hj.hb)
  have kfrom := p_tensor_from s g
  refine go trivial (aa kc <| aa kf <| aa kF kfrom) ?_
  refine T_range rfl (by rw [hP]; exact q_tensor_from_1 hj.ha hj.hb hj.fitR.1) (spS s d g) [] (by rw [hn]; rfl) (fun x hx => by
    simp only [allF, List.mem_map] at hx
    obtain ⟨p, _, rfl⟩ := hx
    rfl) (fun t => ?_) (sp_fam s d g) (fun t ht => ?_) (fun d hd => by simp at hd) ?_ ?_
  · left
    have : spD s d g 0 = List.replicate (sizeS g).toNat 0 := by simp [spD, spreadN]
    simp only [spS, this, lo]
  · by_cases h : t ∈ (spS s d g 0).map (·.1)
    · exact h
    · exact absurd (lo_none h) ht
  · intro k v hv F n G' G'' ex fw h1' h2' h3' h4' hfr
    have hP : G''.P = Try.prog := h3'.trans hP
    have hk : k < (sizeS g).toNat := by
      have := (List.getElem?_eq_some_iff.1 hv).1
      rwa [allF_len] at this
    rw [allF_get s g k hk] at hv
    cases hv
    have hsz := sizeS_ok hj.hb
    have hlt := fromAt_lt hj (p := k) (by omega)
    have hdl := (checkT_iff.1 h1).2
    obtain ⟨q, hq⟩ := Int.eq_ofNat_of_zero_le hlt.1
    have hset := spD_set (s := s) (d := d) hk
    have hlen := spD_len (s := s) (d := d) (Nat.le_of_lt hk)
    rw [hq, Int.toNat_natCast] at hset
    have hql : q < d.length := by omega
    have hx : d[q]? = some d[q] := List.getElem?_eq_getElem hql
    rw [hx] at hset
    simp only [Option.getD_some] at hset
    obtain ⟨z, hz⟩ : ∃ z, (spD s d g k)[k]? = some z := ⟨_, List.getElem?_eq_getElem (by omega)⟩
    simp only [putE, List.map, spS, hq]
    generalize (sizeS g).toNat = N at *
    generalize spD s d g k = R at *
    repeat' (first     | refine T_then ?_ | refine then_ret ?_ | refine then_exit ?_ | refine then_goto ?_     | refine rnd_exit ?_ | refine rnd_ret ?_ | refine rnd_goto ?_     | refine noGo_normal ?_ | refine noGo_ret ?_ | refine noGo_exit ?_ | refine jmp_normal ?_ | refine jmp_ret ?_ | refine jmp_exit ?_ | refine jmp_goto ?_     | refine inB_normal ?_ | refine inB_ret ?_ | refine inB_goto ?_ | refine inB_exit ?_ | refine inB_exit_ne rfl ?_     | ((first | apply T_sr fw | apply T_reg fw); · ((try simp only [go_sem, seval, reduceIte, ↓reduceIte, hP]); (repeat ((first       | (refine ⟨true, false, rfl, fun h => absurd h (by decide), ?_⟩) | (refine ⟨false, false, rfl, fun h => absurd h (by decide), ?_⟩) | refine ⟨_, _, rfl, fun _ => rfl, ?_⟩); (try simp only [go_sem, seval, reduceIte, ↓reduceIte, hP]))); (first | done | exact rfl)))     | ((first | apply T_sdF fw (by rw [hP]; rfl) (by decide +kernel) | apply T_drF fw (by rw [hP]; rfl) (by decide +kernel)); · ((try simp only [TOps.flat, List.cons_append, List.nil_append]); (repeat ((first | refine Y_g0 ?_ | refine Y_g (by (try simp only [go_sem, seval, reduceIte, ↓reduceIte, Bool.not_eq_true, reduceCtorEq, beq_false, beq_true, hP]); (first | done | exact rfl)) ?_); (first | refine Y_skip ?_ | ((first | apply Y_q); (· ((try simp only [go_sem, seval, reduceIte, ↓reduceIte, Bool.not_eq_true, reduceCtorEq, beq_false, beq_true, hP]); (first | done | exact rfl))))))); apply RunF_nil; (try simp only [go_sem, seval, reduceIte, ↓reduceIte, Bool.not_eq_true, reduceCtorEq, beq_false, beq_true, hP]); (first | done | exact rfl)))     | ((first | apply T_sd fw (by rw [hP]; rfl) | apply T_dr fw (by rw [hP]; rfl)); · ((try simp only [go_sem, seval, reduceIte, ↓reduceIte, bne, beq_false, beq_true, Bool.not_eq_true, Bool.if_true_right, decide_not, reduceCtorEq, hP]); (first | done | exact rfl)))     | refine T_seq ?_ | refine T_block ?_ | refine T_scopeJ 0 rfl ?_ | refine T_scope ?_ | refine T_goto ?_ | refine T_ret ?_ | refine T_skip ?_ | refine T_exit ?_ | refine T_label ?_     | refine T_condT rfl ?_ | refine T_condF rfl ?_     | refine T_condD rfl (fun _ => ?_) (fun _ => ?_)     | refine T_cond rfl (fun _ => ?_) (fun _ => ?_))
    refine ⟨rfl, ?_⟩
    apply T_block
    apply T_dr fw (by rw [hP]; rfl)
    · simp only [go_sem, seval, reduceIte, ↓reduceIte, bne, beq_false, beq_true, Bool.not_eq_true, Bool.if_true_right, decide_not, reduceCtorEq, hP, all1, hx, hql, hz, hlen, hk, rI_set]
      exact rfl
    refine go trivial trivial ?_
    refine ⟨rfl, fun p hp => ?_, rfl⟩
    simp only [List.mem_cons, List.not_mem_nil, or_false] at hp
    rcases hp with rfl | rfl | rfl | rfl | rfl
    · rfl
    · rfl
    · rfl
    · rfl
    · simp [lo, hset]
  · simp only [List.cons_append, List.nil_append, spS, allF_len]
    have he : spD s d g (sizeS g).toNat = spreadD s d g := by unfold spD; rw [Nat.sub_self, spreadN_eq hj h1]; simp
    have hsl : (spreadD s d g).length = (sizeS g).toNat := by rw [← he]; exact spD_len (Nat.le_refl _)
    rw [he]
    generalize (sizeS g).toNat = N at *
    refine go trivial trivial ?_
    exact ends_twoM (t1 := 5) (t2 := 30) (by decide) rfl rfl rfl (by simp) (by simp [hsl]) (.inr ⟨_, rfl, rfl⟩) (by unfold spreadF; rw [if_pos h1, if_pos h2]; rfl)
end Go.AM

namespace Go.AM
open Go Go.Proofs
set_option maxRecDepth 100000
set_option maxHeartbeats 4000000

def twoF (W : Int → Int → Int × Int) (s d t e : List Int) : (List Int × List Int) × Int :=
  if checkT s d = true ∧ checkT t e = true then (if (joinSF s t).2 = 0 then eachF (joinSF s t).1 (fun p => W (gt (spreadD s d (joinSF s t).1) p) (gt (spreadD t e (joinSF s t).1) p)) else bad 20) else bad 30
theorem gt_some {d : List Int} {p : Nat} (h : p < d.length) : d[p]? = some (gt d p) := by unfold gt; rw [List.getElem?_eq_getElem h]; rfl
theorem spread_I64 {s d g : List Int} (h : I64s d) : I64s (spreadD s d g) := I64s.mk fun x => atF_range h
theorem spread_len {s d g : List Int} (h : ShapeOk g) : (spreadD s d g).length = (sizeS g).toNat := by
  have := mk_len h (fun x => (atF s d (fromX s x)).1)
  have h2 := sizeS_ok h
  unfold spreadD; omega
theorem p_elem_Two' {op : Int} {f : FuncId} {W : Int → Int → Int × Int} (hop : (op = 10 ∧ f = fi_fix_Add) ∨ (op = 11 ∧ f = fi_fix_Sub) ∨ (op = 12 ∧ f = fi_fix_Mul) ∨ (op = 13 ∧ f = fi_fix_Div))
    (s d t e : List Int) (hd : I64s d) (he : I64s e) (hW : ∀ p, p < (sizeS (joinSF s t).1).toNat → PureC Try.prog f [dN (gt (spreadD s d (joinSF s t).1) p), dN (gt (spreadD t e (joinSF s t).1) p)] (dNE (W (gt (spreadD s d (joinSF s t).1) p) (gt (spreadD t e (joinSF s t).1) p)))) :
    PureC Try.prog fi_elem_Two [dN op, dT s d, dT t e] (dTE (twoF W s d t e)) := by
  refine pure_elem_Two (by simp) fun G hP hn => ?_
  unfold a_elem_Two
  have kk := p_elem_kinds
  unfold kindsM at kk
  have kc1 := p_tensor_Check s d
  have kc2 := p_tensor_Check t e
  have kj := p_shape_Join s t
  have kx := p_tensor_Spread s d (joinSF s t).1
  have ky := p_tensor_Spread t e (joinSF s t).1
  rcases hop with ⟨rfl, rfl⟩ | ⟨rfl, rfl⟩ | ⟨rfl, rfl⟩ | ⟨rfl, rfl⟩
  all_goals
    cases h1 : checkT s d
    · have hf : twoF W s d t e = bad 30 := by unfold twoF; rw [if_neg (by simp [h1])]
      rw [h1] at kc1
      refine go trivial (aa kk kc1) ?_
      exact ends_ret rfl rfl rfl (by rw [hf]; rfl)
    cases h2 : checkT t e
    · have hf : twoF W s d t e = bad 30 := by unfold twoF; rw [if_neg (by simp [h2])]
      rw [h1] at kc1
      rw [h2] at kc2
      refine go trivial (aa kk <| aa kc1 kc2) ?_
      exact ends_ret rfl rfl rfl (by rw [hf]; rfl)
    rw [h1] at kc1
    rw [h2] at kc2
    rcases join_or s t with ⟨r, hj, hr⟩ | ⟨_, hr⟩
    rotate_left
    · have hf : twoF W s d t e = bad 20 := by unfold twoF; rw [if_pos ⟨h1, h2⟩, hr, if_neg (by simp)]
      rw [hr] at kj
      refine go trivial (aa kk <| aa kc1 <| aa kc2 kj) ?_
      exact ends_ret rfl rfl rfl (by rw [hf]; rfl)
    · have hf : twoF W s d t e = eachF r (fun p => W (gt (spreadD s d r) p) (gt (spreadD t e r) p)) := by unfold twoF; rw [if_pos ⟨h1, h2⟩, hr, if_pos rfl]
      rw [hr] at kj kx ky hW
      have hx : spreadF s d r = ((r, spreadD s d r), 0) := by unfold spreadF; rw [if_pos h1, if_pos (fits_of hj.left)]
      have hy : spreadF t e r = ((r, spreadD t e r), 0) := by unfold spreadF; rw [if_pos h2, if_pos (fits_of hj.right)]
      rw [hx] at kx
      rw [hy] at ky
      have lx := spread_len (s := s) (d := d) hj.hr
      have ly := spread_len (s := t) (d := e) hj.hr
      have ix := spread_I64 (s := s) (g := r) hd
      have iy := spread_I64 (s := t) (g := r) he
      generalize spreadD s d r = xd at *
      generalize spreadD t e r = yd at *
      have kE := fun (k1 : PV) (f2 : FuncId) (hW : ∀ p, p < (sizeS r).toNat → PureC Try.prog f2 [dN (gt xd p), dN (gt yd p)] (dNE (W (gt xd p) (gt yd p)))) => p_elem_each (f := fi_elem_Two_1) (caps := [.box [k1, .fn f2 [] []], .box [eI r, eI xd], .box [eI r, eI yd]]) (s := r) (h := fun p => W (gt xd p) (gt yd p)) (by have := hj.hr.1; omega)
        (fun p hp => p_elem_Two_1 (gt_some (by omega)) (gt_some (by omega)) (hW p hp))
      refine go trivial (aa kk <| aa kc1 <| aa kc2 <| aa kj <| aa kx <| aa ky (kE _ _ hW)) ?_
      exact ends_ret rfl rfl rfl (by rw [hf]; rfl)
theorem p_elem_Two {op : Int} {f : FuncId} {W : Int → Int → Int × Int} (hop : (op = 10 ∧ f = fi_fix_Add) ∨ (op = 11 ∧ f = fi_fix_Sub) ∨ (op = 12 ∧ f = fi_fix_Mul) ∨ (op = 13 ∧ f = fi_fix_Div))
    (hW : ∀ a b, I64 a → I64 b → PureC Try.prog f [dN a, dN b] (dNE (W a b))) (s d t e : List Int) (hd : I64s d) (he : I64s e) : PureC Try.prog fi_elem_Two [dN op, dT s d, dT t e] (dTE (twoF W s d t e)) :=
  p_elem_Two' hop s d t e hd he fun p _ => hW _ _ (gt_range (spread_I64 hd) p) (gt_range (spread_I64 he) p)
end Go.AM

namespace Go.AM
open Go Go.Proofs
set_option maxRecDepth 100000
set_option maxHeartbeats 4000000

theorem k_Add {s d t e : List Int} (hd : I64s d) (he : I64s e) : PureC Try.prog fi_elem_Two [dN 10, dT s d, dT t e] (dTE (twoF fAdd s d t e)) := p_elem_Two (.inl ⟨rfl, rfl⟩) (fun _ _ ha hb => p_fix_Add ha hb) s d t e hd he
theorem k_Sub {s d t e : List Int} (hd : I64s d) (he : I64s e) : PureC Try.prog fi_elem_Two [dN 11, dT s d, dT t e] (dTE (twoF fSub s d t e)) := p_elem_Two (.inr (.inl ⟨rfl, rfl⟩)) (fun _ _ ha hb => p_fix_Sub ha hb) s d t e hd he
theorem k_Mul {s d t e : List Int} (hd : I64s d) (he : I64s e) : PureC Try.prog fi_elem_Two [dN 12, dT s d, dT t e] (dTE (twoF fMul s d t e)) := p_elem_Two (.inr (.inr (.inl ⟨rfl, rfl⟩))) (fun _ _ ha hb => p_fix_Mul ha hb) s d t e hd he
end Go.AM

namespace Go.AM
open Go Go.Proofs
set_option maxRecDepth 100000
set_option maxHeartbeats 4000000

def val (s d x : List Int) : Int := (atF s d x).1
theorem eachF_ok {s : List Int} {h : Nat → Int × Int} (k : ∀ p, p < (sizeS s).toNat → (h p).2 = 0) : eachF s h = ((s, (List.range (sizeS s).toNat).map fun p => (h p).1), 0) := by
  unfold eachF
  rw [coll_ok (fun p hp => by rw [Nat.zero_add]; exact k p hp)]
  simp
theorem eachF_inv {s : List Int} {h : Nat → Int × Int} (k : (eachF s h).2 = 0) : ∀ p, p < (sizeS s).toNat → (h p).2 = 0 := by
  rcases coll_cases h (sizeS s).toNat with c | ⟨j, hj, c1, c2⟩
  · exact c
  · exfalso
    have := coll_err (f := h) (n := (sizeS s).toNat) (a := 0) (acc := []) hj (fun i hi => by rw [Nat.zero_add]; exact c1 i hi) (by rw [Nat.zero_add]; exact c2)
    rw [Nat.zero_add] at this
    unfold eachF at k
    rw [this, if_neg c2] at k
    exact c2 k
theorem coll_bad {f : Nat → Int × Int} {n : Nat} (h : (coll f n 0 []).2 ≠ 0) : ∃ k, k < n ∧ (∀ j, j < k → (f j).2 = 0) ∧ (f k).2 ≠ 0 ∧ coll f n 0 [] = ([], (f k).2) := by
  rcases coll_cases f n with c | ⟨j, hj, c1, c2⟩
  · rw [coll_ok (fun p hp => by rw [Nat.zero_add]; exact c p hp)] at h; exact absurd rfl h
  · have := coll_err (f := f) (n := n) (a := 0) (acc := []) hj (fun i hi => by rw [Nat.zero_add]; exact c1 i hi) (by rw [Nat.zero_add]; exact c2)
    rw [Nat.zero_add] at this
    exact ⟨j, hj, c1, c2, this⟩
theorem eachF_bad {s : List Int} {h : Nat → Int × Int} (k : (eachF s h).2 ≠ 0) : ∃ p, p < (sizeS s).toNat ∧ (h p).2 ≠ 0 ∧ eachF s h = bad (h p).2 := by
  by_cases c : (coll h (sizeS s).toNat 0 []).2 = 0
  · unfold eachF at k; rw [if_pos c] at k; exact absurd rfl k
  · obtain ⟨p, hp, _, h2, h3⟩ := coll_bad c
    refine ⟨p, hp, h2, ?_⟩
    unfold eachF; rw [h3, if_neg h2]
theorem spread_gt {s d r : List Int} (h : ShapeOk r) {p : Nat} (hp : p < (sizeS r).toNat) : gt (spreadD s d r) p = val s d (fromX s (ix r p)) := by
  have hsz := sizeS_ok h
  unfold gt spreadD
  rw [mk_get h _ (by omega)]; rfl
theorem place_of {r x : List Int} (h : ShapeOk r) (hx : InIdx r x) : ∃ p, p < (sizeS r).toNat ∧ ix r ((p : Nat) : Int) = x := by
  have h1 := pl_lt hx
  have hsz := sizeS_ok h
  obtain ⟨p, hp⟩ := Int.eq_ofNat_of_zero_le h1.1
  exact ⟨p, by omega, by rw [← hp]; exact ix_pl0 hx h.2.1⟩
theorem mk_places {r : List Int} (h : ShapeOk r) (g : List Int → Int) : ((List.range (sizeS r).toNat).map fun p => g (ix r ((p : Nat) : Int))) = mk r g := by
  have h64 := sizeS_nn r
  unfold mk
  apply List.map_congr_left
  intro p hp
  have := List.mem_range.1 hp
  rw [idxF_eq h.2.1 (by omega) (by omega)]
theorem two_ok {W : Int → Int → Int × Int} {s d t e r : List Int} (h1 : checkT s d = true) (h2 : checkT t e = true) (hj : JoinOk s t r) (hW : ∀ x, InIdx r x → (W (val s d (fromX s x)) (val t e (fromX t x))).2 = 0) :
    twoF W s d t e = ((r, mk r fun x => (W (val s d (fromX s x)) (val t e (fromX t x))).1), 0) := by
  unfold twoF
  rw [if_pos ⟨h1, h2⟩, hj.eq, if_pos rfl]
  have hh : ∀ p, p < (sizeS r).toNat → W (gt (spreadD s d r) p) (gt (spreadD t e r) p) = W (val s d (fromX s (ix r p))) (val t e (fromX t (ix r p))) := fun p hp => by rw [spread_gt hj.hr hp, spread_gt hj.hr hp]
  rw [eachF_ok (fun p hp => by rw [hh p hp]; exact hW _ (ix_in hj.hr.2.1))]
  congr 2
  rw [← mk_places hj.hr]
  exact List.map_congr_left fun p hp => by rw [hh p (List.mem_range.1 hp)]
theorem two_inv {W : Int → Int → Int × Int} {s d t e : List Int} (h : (twoF W s d t e).2 = 0) : checkT s d = true ∧ checkT t e = true ∧ ∃ r, JoinOk s t r ∧ (∀ x, InIdx r x → (W (val s d (fromX s x)) (val t e (fromX t x))).2 = 0) ∧
    twoF W s d t e = ((r, mk r fun x => (W (val s d (fromX s x)) (val t e (fromX t x))).1), 0) := by
  by_cases hc : checkT s d = true ∧ checkT t e = true
  · refine ⟨hc.1, hc.2, ?_⟩
    rcases join_or s t with ⟨r, hj, hr⟩ | ⟨_, hr⟩
    · have hf : twoF W s d t e = eachF r (fun p => W (gt (spreadD s d r) p) (gt (spreadD t e r) p)) := by unfold twoF; rw [if_pos hc, hr, if_pos rfl]
      rw [hf] at h
      have hk := eachF_inv h
      have hW : ∀ x, InIdx r x → (W (val s d (fromX s x)) (val t e (fromX t x))).2 = 0 := fun x hx => by
        obtain ⟨p, hp, rfl⟩ := place_of hj.hr hx
        have := hk p hp
        rwa [spread_gt hj.hr hp, spread_gt hj.hr hp] at this
      exact ⟨r, hj, hW, two_ok hc.1 hc.2 hj hW⟩
    · unfold twoF at h; rw [if_pos hc, hr, if_neg (by simp)] at h; simp [bad] at h
  · unfold twoF at h; rw [if_neg hc] at h; simp [bad] at h
theorem two_bad {W : Int → Int → Int × Int} {s d t e : List Int} (h : (twoF W s d t e).2 ≠ 0) : twoF W s d t e = bad (twoF W s d t e).2 := by
  unfold twoF at h ⊢
  split
  · rename_i hc
    rw [if_pos hc] at h
    split
    · rename_i hr
      rw [if_pos hr] at h
      obtain ⟨p, _, _, hp⟩ := eachF_bad h
      rw [hp]; rfl
    · rfl
  · rfl
theorem coll_range {f : Nat → Int × Int} (hf : ∀ p, I64 (f p).1) : ∀ (n a : Nat) (acc : List Int), I64s acc → I64s (coll f n a acc).1
  | 0, _, _, h => h
  | n + 1, a, acc, h => by
    simp only [coll]
    split
    · exact coll_range hf n _ _ (h.append fun x hx => by rw [List.mem_singleton.1 hx]; exact hf a)
    · exact I64s.nil
theorem each_range {s : List Int} {h : Nat → Int × Int} (hf : ∀ p, I64 (h p).1) : I64s (eachF s h).1.2 := by
  unfold eachF
  split
  · exact coll_range hf _ _ _ I64s.nil
  · exact I64s.nil
theorem two_range {W : Int → Int → Int × Int} (hW : ∀ a b, I64 (W a b).1) (s d t e : List Int) : I64s (twoF W s d t e).1.2 := by
  unfold twoF
  split
  · split
    · exact each_range fun p => hW _ _
    · exact I64s.nil
  · exact I64s.nil
theorem full_is {s : List Int} (v : Int) (h : checkS s = true) : fullF s v = ((s, List.replicate (sizeS s).toNat v), 0) := by unfold fullF; rw [if_pos h]
theorem sub_self {s d : List Int} (h : checkT s d = true) : twoF fSub s d s d = fullF s 0 := by
  have hs := (checkT_iff.1 h).1
  have hv : ∀ v : Int, fSub v v = (0, 0) := fun v => by unfold fSub; rw [Int.sub_self]; exact rng_in i64_0
  rw [two_ok h h (JoinOk.self hs) (fun x _ => by rw [hv]), full_is 0 (checkS_iff.2 hs)]
  simp only [hv]
  congr 2
  unfold mk
  rw [List.map_const']; simp
end Go.AM

