import Derived.Test.YtphnlpfkenannaaGreatMx30
set_option linter.unusedVariables false
set_option linter.unusedSimpArgs false
namespace Go.AM
open Go Go.Proofs
set_option maxRecDepth 100000
set_option maxHeartbeats 8000000

abbrev Ts := List (Int × Tn)
def eTM (m : Ts) : List (Int × Bool × List PV) := m.map fun p => (p.1, true, [eI p.2.1, eI p.2.2])
theorem find_eTM (k : Int) (m : Ts) : findE k (eTM m) = (lkI k m).map fun t => (true, [eI t.1, eI t.2]) := find_map (fun t : Tn => (true, [eI t.1, eI t.2])) k m
theorem put_eTM (k : Int) (t : Tn) : ∀ (m : Ts), putM k (true, [eI t.1, eI t.2]) (eTM m) = eTM (putI k t m)
  | [] => rfl
  | p :: m => by
    simp only [eTM, List.map_cons, putM, putI]
    split
    · rfl
    · rw [List.map_cons]; congr 1; exact put_eTM k t m
def AddOk (m : Ts) (at_ : Int) (t : Tn) (m' : Ts) : Prop := ∃ r : Tn, m' = putI at_ r m ∧ ((lkI at_ m = none ∧ r = t) ∨ ∃ was : Tn, lkI at_ m = some was ∧ PureC Tryz.prog fi_elem_Two [dN 10, dT was.1 was.2, dT t.1 t.2] (dTE (r, 0)))
theorem m_add59' {m m' : Ts} {at_ : Int} {t : Tn} (h : AddOk m at_ t m') : MutC Tryz.prog fi_grad_sums_add [.one (.mmap 59), aN at_, aT t] [(59, .map true (eTM m))] (aN 0) [(59, .map true (eTM m'))] [5, 7] := by
  refine mut_grad_sums_add (by simp) fun G ex hP hn hfr => ?_
  have hf5 := hfr 5 (by simp)
  have hf7 := hfr 7 (by simp)
  obtain ⟨r, rfl, h⟩ := h
  have hf := find_eTM at_ m
  rcases h with ⟨h1, rfl⟩ | ⟨was, h1, h2⟩
  · rw [h1, Option.map_none] at hf
    obtain ⟨r1, r2⟩ := r
    refine go (aa hf5 <| aa hf7 hf) trivial ?_
    refine endsM_ret rfl rfl rfl (fun p hp => ?_) rfl
    rw [List.mem_singleton.1 hp]
    show AO.map true (putM at_ (true, [eI r1, eI r2]) (eTM m)) = _
    rw [put_eTM at_ (r1, r2)]
  · rw [h1, Option.map_some] at hf
    obtain ⟨r1, r2⟩ := r
    obtain ⟨t1, t2⟩ := t
    obtain ⟨w1, w2⟩ := was
    refine go (aa hf5 <| aa hf7 hf) h2 ?_
    refine endsM_ret rfl rfl rfl (fun p hp => ?_) rfl
    rw [List.mem_singleton.1 hp]
    show AO.map true (putM at_ (true, [eI r1, eI r2]) (eTM m)) = _
    rw [put_eTM at_ (r1, r2)]
theorem m_add59 {m m' : Ts} {at_ : Int} {t : Tn} (h : AddOk m at_ t m') : MutC Tryz.prog fi_grad_sums_add [.one (.mmap 59), aN at_, aT t] [(59, .map true (eTM m))] (aN 0) [(59, .map true (eTM m'))] [] :=
  ((m_add59' h).hide 5 rfl rfl rfl rfl (by simp)).hide 7 rfl rfl rfl rfl (by simp)
theorem m_add63' {m m' : Ts} {at_ : Int} {t : Tn} (h : AddOk m at_ t m') : MutC Tryz.prog fi_grad_sums_add [.one (.mmap 63), aN at_, aT t] [(63, .map true (eTM m))] (aN 0) [(63, .map true (eTM m'))] [5, 7] := by
  refine mut_grad_sums_add (by simp) fun G ex hP hn hfr => ?_
  have hf5 := hfr 5 (by simp)
  have hf7 := hfr 7 (by simp)
  obtain ⟨r, rfl, h⟩ := h
  have hf := find_eTM at_ m
  rcases h with ⟨h1, rfl⟩ | ⟨was, h1, h2⟩
  · rw [h1, Option.map_none] at hf
    obtain ⟨r1, r2⟩ := r
    refine go (aa hf5 <| aa hf7 hf) trivial ?_
    refine endsM_ret rfl rfl rfl (fun p hp => ?_) rfl
    rw [List.mem_singleton.1 hp]
    show AO.map true (putM at_ (true, [eI r1, eI r2]) (eTM m)) = _
    rw [put_eTM at_ (r1, r2)]
  · rw [h1, Option.map_some] at hf
    obtain ⟨r1, r2⟩ := r
    obtain ⟨t1, t2⟩ := t
    obtain ⟨w1, w2⟩ := was
    refine go (aa hf5 <| aa hf7 hf) h2 ?_
    refine endsM_ret rfl rfl rfl (fun p hp => ?_) rfl
    rw [List.mem_singleton.1 hp]
    show AO.map true (putM at_ (true, [eI r1, eI r2]) (eTM m)) = _
    rw [put_eTM at_ (r1, r2)]
theorem m_add63 {m m' : Ts} {at_ : Int} {t : Tn} (h : AddOk m at_ t m') : MutC Tryz.prog fi_grad_sums_add [.one (.mmap 63), aN at_, aT t] [(63, .map true (eTM m))] (aN 0) [(63, .map true (eTM m'))] [] :=
  ((m_add63' h).hide 5 rfl rfl rfl rfl (by simp)).hide 7 rfl rfl rfl rfl (by simp)
abbrev gZ (l : List Nd) (V : List Tn) (H D : Ts) : Sto := [(3, .cells true [.p (.sl (l.map rNd))]), (10, .cells true [.p (.sl (rTn V))]), (17, .cells true [.mmap 59]), (18, .cells true [.mmap 63]), (59, .map true (eTM H)), (63, .map true (eTM D))]
abbrev gA (i : Nat) : List AV := [aN i, .one (.ptr 3 0 1 0), .one (.ptr 18 0 1 0), .one (.ptr 17 0 1 0), .one (.ptr 10 0 1 0)]
theorem endG {l : List Nd} {V : List Tn} {H D : Ts} {σ : Sto} (h3 : lo σ 3 = .cells true [.p (.sl (l.map rNd))]) (h10 : lo σ 10 = .cells true [.p (.sl (rTn V))]) (h17 : lo σ 17 = .cells true [.mmap 59]) (h18 : lo σ 18 = .cells true [.mmap 63]) (h59 : lo σ 59 = .map true (eTM H)) (h63 : lo σ 63 = .map true (eTM D)) :
    ∀ p ∈ gZ l V H D, lo σ p.1 = p.2 := fun p hp => by
  simp only [List.mem_cons, List.not_mem_nil, or_false] at hp
  rcases hp with rfl | rfl | rfl | rfl | rfl | rfl <;> assumption
variable {l : List Nd} {V : List Tn} {H D : Ts}
theorem m_downP' {i : Nat} {p : Int} {args nums : List Int} {D' : Ts} {w : Tn} (hi : l[i]? = some ⟨2, args, p :: nums⟩) (hw : lkI (i : Int) H = some w) (h : AddOk D p w D') :
    MutC Tryz.prog fi_grad_All_1 (gA i) (gZ l V H D) (aN 0) (gZ l V H D') [7] := by
  refine mut_grad_All_1 (by simp) fun G ex hP hn hfr => ?_
  have hf7 := hfr 7 (by simp)
  have ka := m_add63 h
  have hil := (List.getElem?_eq_some_iff.1 hi).1
  have hil2 : (i : Int) < (l.length : Int) := by omega
  have hf := find_eTM (i : Int) H
  rw [hw, Option.map_some] at hf
  clear h hw
  obtain ⟨w1, w2⟩ := w
  refine go (aa hi <| aa hil <| aa hil2 hf7) trivial ?_
  apply T_drP fw (by rw [hP]; rfl)
  · simp only [go_sem, seval, reduceIte, ↓reduceIte, bne, beq_false, beq_true, Bool.not_eq_true, Bool.if_true_right, decide_not, reduceCtorEq, hP, hn, hf, hf7]
    refine RunP_S rfl ⟨_, _, _, _, rfl, rfl, ka⟩ rfl ?_
    simp only [go_sem, seval, reduceIte, ↓reduceIte, bne, beq_false, beq_true, Bool.not_eq_true, Bool.if_true_right, decide_not, reduceCtorEq, hP, hn, hf, hf7]
    exact rfl
  refine go trivial trivial ?_
  exact endsM_ret rfl rfl rfl (endG rfl rfl rfl rfl rfl rfl) rfl
theorem m_downP {i : Nat} {p : Int} {args nums : List Int} {D' : Ts} {w : Tn} (hi : l[i]? = some ⟨2, args, p :: nums⟩) (hw : lkI (i : Int) H = some w) (h : AddOk D p w D') :
    MutC Tryz.prog fi_grad_All_1 (gA i) (gZ l V H D) (aN 0) (gZ l V H D') [] := (m_downP' hi hw h).hide 7 rfl rfl rfl rfl (by simp)
theorem m_downN' {i : Nat} {op : Int} {args nums : List Int} {w : Tn} {L : List Tn} {Hs : Nat → Ts} (hi : l[i]? = some ⟨op, args, nums⟩) (hop : op ≠ 2) (hw : lkI (i : Int) H = some w) (hargs : ∀ a ∈ args, 0 ≤ a ∧ a < (V.length : Int)) (ha2 : args.length ≤ 2) (hiV : i < V.length)
    (kB : PureC Tryz.prog fi_vjp_Back [dNd ⟨op, args, nums⟩, dTs (args.map fun a => gT V a.toNat), dT (gT V i).1 (gT V i).2, dT w.1 w.2] (.tup [dTs L, dN 0])) (hL : L.length ≤ args.length) (h0 : Hs 0 = H)
    (hadd : ∀ k, k < L.length → AddOk (Hs k) (hd args k) (gT L k) (Hs (k + 1))) :
    MutC Tryz.prog fi_grad_All_1 (gA i) (gZ l V H D) (aN 0) (gZ l V (Hs L.length) D) [7, 14, 43, 100] := by
  refine mut_grad_All_1 (by simp) fun G ex hP hn hfr => ?_
  have hf7 := hfr 7 (by simp)
  have hf14 := hfr 14 (by simp)
  have hf43 := hfr 43 (by simp)
  have hf100 := hfr 100 (by simp)
  have hil := (List.getElem?_eq_some_iff.1 hi).1
  have hil2 : (i : Int) < (l.length : Int) := by omega
  have hf := find_eTM (i : Int) H
  rw [hw, Option.map_some] at hf
  have e2 : (op == 2) = false := by simp [hop]
  obtain ⟨w1, w2⟩ := w
  simp only at kB
  refine go (aa hi <| aa hil <| aa hil2 <| aa hf7 e2) trivial ?_
  refine T_nils 8 100 2 rfl (by simp [AS.nr, AV.has, AC.has, AC.has.hasL, AO.nr]; simpa using hf100) rfl ?_
  refine T_for args.length (fun j (acc : List Tn) => { env := [(0, aN i), (3, .one (.ptr 17 0 1 0)), (4, .one (.ptr 10 0 1 0)), (7, .one (.ptr 7 0 3 0)), (8, .one (.msl 100 0 2 j none)), (32, .one (.p (eI args))), (33, .one (.p (.int .i64 args.length))), (34, .one (.p (.int .i64 j)))], σ := [(3, .cells true [.p (.sl (l.map rNd))]), (10, .cells true [.p (.sl (rTn V))]), (17, .cells true [.mmap 59]), (18, .cells true [.mmap 63]), (59, .map true (eTM H)), (63, .map true (eTM D)), (7, .cells true [.p (.int .i64 op), .p (eI args), .p (eI nums)]), (100, .arr true 2 (rTn acc))], ex := ex })
    (fun j acc => acc = (args.take j).map (fun a => gT V a.toNat)) [] (by simp) ?_ fun j acc hj hacc => ?_
  · refine (Weak.pick [0, 3, 4, 7, 8, 32, 33, 34]).trans (Weak.sub fun q hq => ?_)
    simp only [List.mem_cons, List.not_mem_nil, or_false] at hq
    rcases hq with rfl | rfl | rfl | rfl | rfl | rfl | rfl | rfl <;> rfl
  have hal : acc.length = j := by rw [hacc, List.length_map, List.length_take]; omega
  by_cases hlj : j < args.length
  · have d1 : (j : Int) < args.length := by omega
    have v1 : IntKind.i64.wrap ((j : Int) + 1) = ((j + 1 : Nat) : Int) := by rw [wrap_in (by omega) (by omega)]; rfl
    have ha := hargs args[j] (List.getElem_mem hlj)
    obtain ⟨m, hm⟩ := Int.eq_ofNat_of_zero_le ha.1
    have hy : args[j]? = some (m : Int) := by rw [List.getElem?_eq_getElem hlj, hm]
    have hmi : m < V.length := by omega
    have d2 : (m : Int) < V.length := by omega
    have hg := gT_some (ps := V) (p := m) (by omega)
    have hn1 : acc ++ [gT V m] = (args.take (j + 1)).map (fun a => gT V a.toNat) := by rw [List.take_add_one, hy, List.map_append, hacc]; rfl
    have c4 : (j + 1) * 48 ≤ 2 ^ 40 := by omega
    have c5 : j + 1 ≤ 2 ^ 40 := by omega
    clear kB
    generalize gT V m = z at *
    refine go (aa d1 <| aa v1 <| aa hlj <| aa hy <| aa hmi <| aa d2 <| aa hg <| aa hal <| aa c4 <| aa c5 <| aa hf43 <| aa hf7 <| aa hf14 <| aa hf100 (scr_ex hf100)) trivial ?_
    refine rnd_next hlj (acc ++ [z]) hn1 (Weak.sub fun q hq => ?_)
    simp only [List.mem_cons, List.not_mem_nil, or_false] at hq
    rcases hq with rfl | rfl | rfl | rfl | rfl | rfl | rfl | rfl
    · rfl
    · rfl
    · rfl
    · rfl
    · rfl
    · rfl
    · rfl
    · simp [lo, rTn]
  obtain rfl : j = args.length := by omega
  rw [List.take_length] at hacc
  rw [← hacc] at kB
  have d1 : ¬ (args.length : Int) < args.length := by omega
  have hgi := gT_some (ps := V) (p := i) hiV
  have hiV2 : (i : Int) < V.length := by omega
  refine T_weak (Weak.freeze (i := 8) rfl (toD_list (n := 5) rfl (by simp [hal]))) ?_
  simp only [lo, Nat.reduceEqDiff, if_true, if_false, if_pos]
  generalize gT V i = u at *
  obtain ⟨u1, u2⟩ := u
  simp only at kB
  clear hfr
  refine go (aa d1 <| aa hgi <| aa hiV <| aa hiV2 hf) kB ?_
  refine T_for L.length (fun k (_ : Unit) => { env := [(3, .one (.ptr 17 0 1 0)), (7, .one (.ptr 7 0 3 0)), (12, aN 0), (59, .one (.p (.sl (rTn L)))), (60, .one (.p (.int .i64 L.length))), (61, .one (.p (.int .i64 k)))], σ := [(3, .cells true [.p (.sl (l.map rNd))]), (10, .cells true [.p (.sl (rTn V))]), (17, .cells true [.mmap 59]), (18, .cells true [.mmap 63]), (59, .map true (eTM (Hs k))), (63, .map true (eTM D)), (7, .cells true [.p (.int .i64 op), .p (eI args), .p (eI nums)])], ex := ex })
    (fun _ _ => True) () trivial ?_ fun k _ hk _ => ?_
  · refine Weak.sub fun q hq => ?_
    simp only [List.mem_cons, List.not_mem_nil, or_false] at hq
    rcases hq with rfl | rfl | rfl | rfl | rfl | rfl | rfl
    · rfl
    · rfl
    · rfl
    · rfl
    · rw [h0]; rfl
    · rfl
    · rfl
  by_cases hlk : k < L.length
  · have d1 : (k : Int) < L.length := by omega
    have v1 : IntKind.i64.wrap ((k : Int) + 1) = ((k + 1 : Nat) : Int) := by rw [wrap_in (by omega) (by omega)]; rfl
    have hka : k < args.length := by omega
    have hka2 : (k : Int) < args.length := by omega
    have hy : args[k]? = some (hd args k) := by unfold hd; rw [List.getElem?_eq_getElem hka]; rfl
    have hx := gT_some hlk
    have ka := m_add59 (hadd k hlk)
    clear hadd kB
    generalize hd args k = at_ at *
    generalize gT L k = z at *
    obtain ⟨z1, z2⟩ := z
    refine go (aa d1 <| aa hlk <| aa hx hf14) trivial ?_
    apply T_drP fw (by rw [hP]; rfl)
    · simp only [go_sem, seval, reduceIte, ↓reduceIte, bne, beq_false, beq_true, Bool.not_eq_true, Bool.if_true_right, decide_not, reduceCtorEq, hP, hn, hy, hka, hka2, hf14]
      refine RunP_S rfl ⟨_, _, _, _, rfl, rfl, ka⟩ rfl ?_
      simp only [go_sem, seval, reduceIte, ↓reduceIte, bne, beq_false, beq_true, Bool.not_eq_true, Bool.if_true_right, decide_not, reduceCtorEq, hP, hn, hy, hka, hka2, hf14]
      exact rfl
    refine go v1 trivial ?_
    refine rnd_next hlk () trivial (Weak.sub fun q hq => ?_)
    simp only [List.mem_cons, List.not_mem_nil, or_false] at hq
    rcases hq with rfl | rfl | rfl | rfl | rfl | rfl | rfl <;> rfl
  obtain rfl : k = L.length := by omega
  have d1 : ¬ (L.length : Int) < L.length := by omega
  refine go d1 trivial ?_
  exact endsM_ret rfl rfl rfl (endG rfl rfl rfl rfl rfl rfl) rfl
theorem m_downN {i : Nat} {op : Int} {args nums : List Int} {w : Tn} {L : List Tn} {Hs : Nat → Ts} (hi : l[i]? = some ⟨op, args, nums⟩) (hop : op ≠ 2) (hw : lkI (i : Int) H = some w) (hargs : ∀ a ∈ args, 0 ≤ a ∧ a < (V.length : Int)) (ha2 : args.length ≤ 2) (hiV : i < V.length)
    (kB : PureC Tryz.prog fi_vjp_Back [dNd ⟨op, args, nums⟩, dTs (args.map fun a => gT V a.toNat), dT (gT V i).1 (gT V i).2, dT w.1 w.2] (.tup [dTs L, dN 0])) (hL : L.length ≤ args.length) (h0 : Hs 0 = H)
    (hadd : ∀ k, k < L.length → AddOk (Hs k) (hd args k) (gT L k) (Hs (k + 1))) :
    MutC Tryz.prog fi_grad_All_1 (gA i) (gZ l V H D) (aN 0) (gZ l V (Hs L.length) D) [] :=
  ((((m_downN' hi hop hw hargs ha2 hiV kB hL h0 hadd).hide 7 rfl rfl rfl rfl (by simp)).hide 14 rfl rfl rfl rfl (by simp)).hide 43 rfl rfl rfl rfl (by simp)).hide 100 rfl rfl rfl rfl (by simp)
end Go.AM

namespace Go.AM
open Go Go.Proofs
set_option maxRecDepth 100000
set_option maxHeartbeats 4000000

theorem cel_zero {n p : Nat} {d : List Int} {i j : Nat} (hj : j < p) : cel n p d (tab n p fun _ _ => 0) i j = (0, 0) := by
  unfold cel
  exact dot_none i64_0 fun k hk => by rw [Nat.zero_add]; exact gt_tab hk hj
theorem mul_zero {m n p : Nat} {d e : List Int} (h1 : checkT [(m : Int), (n : Int)] d = true) (h2 : checkT [(n : Int), (p : Int)] (tab n p fun _ _ => 0) = true) (h3 : checkS [(m : Int), (p : Int)] = true) :
    mulF [(m : Int), (n : Int)] d [(n : Int), (p : Int)] (tab n p fun _ _ => 0) = (([(m : Int), (p : Int)], List.replicate (m * p) 0), 0) := by
  rw [mul_go h1 h2 h3 (fun i j hi hj => by rw [cel_zero hj])]
  unfold prod
  rw [tab_congr (g' := fun _ _ => 0) (fun i j hi hj => by rw [cel_zero hj])]
  congr 2
  unfold tab
  rw [List.map_const']; simp
end Go.AM

namespace Go.AM
open Go Go.Proofs
set_option maxRecDepth 100000
set_option maxHeartbeats 4000000

theorem join_range {s d t e : List Int} {a : Int} (hd : I64s d) (he : I64s e) : I64s (joinF s d t e a).1.2 := by
  unfold joinF
  split
  · split
    · exact I64s.nil
    · exact I64s.mk fun x => by
        unfold gJ
        split
        · exact atF_range hd
        · exact atF_range he
  · exact I64s.nil
theorem slice_range {s d : List Int} {a f t : Int} (hd : I64s d) : I64s (sliceF s d a f t).1.2 := by
  unfold sliceF
  split
  · split
    · exact I64s.nil
    · exact I64s.mk fun x => atF_range hd
  · exact I64s.nil
end Go.AM

namespace Go.AM
open Go Go.Proofs

theorem together_range {W E : Int → Int → Int × Int} {F : Int → Int} {s d : List Int} {a : Int} (hd : I64s d) (hW : ∀ a b, I64 a → I64 b → I64 (W a b).1) (hE : ∀ a S, I64 a → I64 (E a S).1) (hF : ∀ a, I64 a → I64 (F a)) : I64s (togetherF W E F s d a).1.2 := by
  have hfold : ∀ (y : Nat → Int), (∀ i, I64 (y i)) → ∀ (n k : Nat) (s : Int), I64 s → I64 (foldE W y n k s).1 := fun y hy n => by
    induction n with
    | zero => exact fun _ _ h => h
    | succ n ih =>
      intro k s h
      simp only [foldE]
      split
      · exact ih _ _ (hW _ _ h (hy _))
      · exact i64_0
  have hl : ∀ (S B p : Nat), I64 (laneR W E F S B d p).1 := fun S B p => by
    unfold laneR
    split
    · exact hE _ _ (hfold _ (fun i => gt_range hd _) _ _ _ (hF _ (gt_range hd _)))
    · exact i64_0
  unfold togetherF
  split
  · split
    · exact I64s.nil
    · split
      · exact coll_range (fun p => hl _ _ p) _ _ _ I64s.nil
      · exact I64s.nil
  · exact I64s.nil
theorem max_range {a b : Int} (ha : I64 a) (hb : I64 b) : I64 (max a b) := by rw [Int.max_def]; split <;> assumption
theorem mulF_range (s d t e : List Int) : I64s (mulF s d t e).1.2 := by
  unfold mulF
  split
  · split
    · split
      · split
        · exact coll_range (fun p => dot_range _ _ _ _ _ i64_0) _ _ _ I64s.nil
        · exact I64s.nil
      · exact I64s.nil
    · exact I64s.nil
  · exact I64s.nil
theorem reshape_range {s d z : List Int} (h : I64s d) : I64s (reshapeF s d z).1.2 := by
  unfold reshapeF
  split
  · split
    · exact h
    · exact I64s.nil
  · exact I64s.nil
theorem gT_range {t : List Tn} (h : ∀ x ∈ t, I64s x.2) (p : Nat) : I64s (gT t p).2 := by
  unfold gT
  cases hp : t[p]? with
  | none => exact I64s.nil
  | some x => exact h x (List.mem_of_getElem? hp)
theorem evF_range {op : Int} {t : List Tn} {nums : List Int} (ht : ∀ x ∈ t, I64s x.2) : I64s (evF op t nums).1.2 := by
  have h0 := gT_range ht 0
  have h1 := gT_range ht 1
  unfold evF
  by_cases h : op = 10
  · rw [if_pos h]
    exact two_range fAdd_range _ _ _ _
  rw [if_neg h]; clear h
  by_cases h : op = 11
  · rw [if_pos h]
    exact two_range (fun a b => rng_range _) _ _ _ _
  rw [if_neg h]; clear h
  by_cases h : op = 12
  · rw [if_pos h]
    exact two_range fMul_range _ _ _ _
  rw [if_neg h]; clear h
  by_cases h : op = 13
  · rw [if_pos h]
    exact two_range fDiv_range _ _ _ _
  rw [if_neg h]; clear h
  by_cases h : op = 20
  · rw [if_pos h]
    exact one_range (fun a => rng_range _) _ _
  rw [if_neg h]; clear h
  by_cases h : op = 21
  · rw [if_pos h]
    intro v hv
    unfold oneF eachF at hv
    split at hv
    · split at hv
      · have hr : ∀ (n a : Nat) (acc : List Int), I64s acc → I64s (coll (fun p => fRelu (gt (gT t 0).2 p)) n a acc).1 := fun n => by
          induction n with
          | zero => exact fun _ _ h => h
          | succ n ih =>
            intro a acc h
            simp only [coll]
            split
            · exact ih _ _ (h.append fun x hx => by rw [List.mem_singleton.1 hx]; exact max_range (gt_range h0 _) i64_0)
            · exact I64s.nil
        exact hr _ _ _ I64s.nil v hv
      · exact absurd hv List.not_mem_nil
    · exact absurd hv List.not_mem_nil
  rw [if_neg h]; clear h
  by_cases h : op = 22
  · rw [if_pos h]
    exact one_range fPow_range _ _
  rw [if_neg h]; clear h
  by_cases h : op = 23
  · rw [if_pos h]
    exact one_range fSqrt_range _ _
  rw [if_neg h]; clear h
  by_cases h : op = 30
  · rw [if_pos h]
    exact mulF_range _ _ _ _
  rw [if_neg h]; clear h
  by_cases h : op = 40
  · rw [if_pos h]
    exact reshape_range h0
  rw [if_neg h]; clear h
  by_cases h : op = 41
  · rw [if_pos h]
    exact turnF_range h0
  rw [if_neg h]; clear h
  by_cases h : op = 42
  · rw [if_pos h]
    exact slice_range h0
  rw [if_neg h]; clear h
  by_cases h : op = 43
  · rw [if_pos h]
    exact join_range h0 h1
  rw [if_neg h]; clear h
  by_cases h : op = 50
  · rw [if_pos h]
    exact together_range h0 (fun a b _ _ => fAdd_range a b) (fun a _ h => h) (fun _ _ => i64_0)
  rw [if_neg h]; clear h
  by_cases h : op = 51
  · rw [if_pos h]
    unfold meanS
    split
    · exact together_range h0 (fun a b _ _ => fAdd_range a b) (fun a _ h => fDiv_range _ _) (fun _ _ => i64_0)
    · exact I64s.nil
  rw [if_neg h]; clear h
  exact together_range h0 (fun a b ha hb => max_range ha hb) (fun a _ h => h) (fun _ h => h)
theorem nodeF_range {n : Nd} {t : List Tn} {input : Tn} {ps : List Tn} (ht : ∀ x ∈ t, I64s x.2) (hi : I64s input.2) (hp : ∀ x ∈ ps, I64s x.2) (hn : I64s n.nums) : I64s (nodeF n t input ps).1.2 := by
  have gv : ∀ (x : Tn) (s : List Int), I64s x.2 → I64s (givenF x s).1.2 := fun x s h => by unfold givenF; split; exact h; exact I64s.nil
  have h0 : I64 (hd n.nums 0) := gt_range hn 0
  unfold nodeF
  split
  · split
    · split
      · exact gv _ _ hi
      · split
        · exact gv _ _ (gT_range hp _)
        · split
          · unfold fullF
            split
            · intro v hv; rw [List.eq_of_mem_replicate hv]; exact h0
            · exact I64s.nil
          · exact evF_range ht
    · exact I64s.nil
  · exact I64s.nil
def more (l : List Nd) : List Nd := l ++ [⟨11, [(l.length : Int) - 1, (l.length : Int) - 1], []⟩, ⟨20, [(l.length : Int) - 1], []⟩, ⟨20, [(l.length : Int) + 1], []⟩]
end Go.AM

namespace Go.AM
open Go Go.Proofs
set_option maxRecDepth 100000
set_option maxHeartbeats 8000000

theorem p_eval_All (l : List Nd) (input : Tn) (ps : List Tn) (hl : l.length ≤ MaxN) (hl2 : ∀ n ∈ l, n.args.length ≤ MaxN) (hps : ps.length ≤ MaxN) (hi64 : I64s input.2) (hp64 : ∀ x ∈ ps, I64s x.2) (hn64 : ∀ n ∈ l, I64s n.nums) :
    PureC Tryz.prog fi_eval_All [dNds l, dT input.1 input.2, dTs ps] (.tup [dTs (evAll l input ps).1, dN (evAll l input ps).2.1, dN (evAll l input ps).2.2]) := by
  refine pure_eval_All (by simp) fun G hP hn => ?_
  have hM : MaxN = 140737488355328 := rfl
  obtain ⟨i1, i2⟩ := input
  have kS := p_infer_Shapes l hl hl2
  unfold evAll
  by_cases hz : (shapesF l).2.2 = 0
  rotate_left
  · rw [if_neg hz]
    have e1 : ((shapesF l).2.2 != 0) = true := by simp [hz]
    generalize shapesF l = R at *
    refine go e1 kS ?_
    exact ends_ret rfl rfl rfl rfl
  rw [if_pos hz]
  have hc := (shapesF_ok hz).1
  have hargs := fun (j : Nat) (hj : j < l.length) => checkG_args hc hj
  have h24 := checkG_len hc
  rw [hz] at kS
  generalize (shapesF l).1 = S1 at *
  generalize (shapesF l).2.1 = S2 at *
  refine go trivial kS ?_
  refine T_nils 12 100 2 rfl rfl rfl ?_
  refine T_for l.length (fun i (out : List Tn) => { env := [(2, .one (.p (.sl (rTn ps)))), (4, .one (.ptr 4 0 2 0)), (12, .one (.msl 100 0 2 i none)), (30, .one (.p (.sl (l.map rNd)))), (31, .one (.p (.int .i64 l.length))), (32, .one (.p (.int .i64 i)))], σ := [(4, .cells true [.p (eI i1), .p (eI i2)]), (100, .arr true 2 (rTn out))] })
    (fun i out => out.length = i ∧ (∀ x ∈ out, I64s x.2) ∧ evLst (i1, i2) ps (l.drop i) out = evLst (i1, i2) ps l []) [] ⟨rfl, fun x hx => absurd hx List.not_mem_nil, rfl⟩ ?_ fun i out hi hinv => ?_
  · refine (Weak.pick [2, 4, 12, 30, 31, 32]).trans (Weak.sub fun q hq => ?_)
    simp only [List.mem_cons, List.not_mem_nil, or_false] at hq
    rcases hq with rfl | rfl <;> rfl
  obtain ⟨hol, ho64, hinv⟩ := hinv
  by_cases hlt : i < l.length
  rotate_left
  · have c1 : ¬ (i : Int) < l.length := by omega
    rw [List.drop_of_length_le (by omega)] at hinv
    simp only [evLst] at hinv
    rw [← hinv]
    refine go c1 trivial ?_
    exact ends_list3 rfl rfl (by simp [hol])
  have c1 : (i : Int) < l.length := by omega
  have w1 : IntKind.i64.wrap ((i : Int) + 1) = ((i + 1 : Nat) : Int) := by rw [wrap_in (by omega) (by omega)]; rfl
  have hx := nd_some hlt
  obtain ⟨hb, k, hk, hkl, _⟩ := hargs i hlt
  have h2 := arity_le hk hkl
  have hnn := hn64 l[i] (List.getElem_mem hlt)
  rw [List.drop_eq_getElem_cons hlt] at hinv
  generalize l[i] = n at *
  obtain ⟨op, args, nums⟩ := n
  simp only [evLst] at hinv
  simp only at hb h2 hnn
  clear hk hkl kS hc hargs hz
  refine go (aa c1 <| aa hx hlt) trivial ?_
  refine T_nils 15 101 2 rfl rfl rfl ?_
  refine T_for args.length (fun j (acc : List Tn) => { env := [(2, .one (.p (.sl (rTn ps)))), (4, .one (.ptr 4 0 2 0)), (12, .one (.msl 100 0 2 i none)), (13, .one (.p (.int .i64 i))), (14, .one (.ptr 14 0 3 0)), (15, .one (.msl 101 0 2 j none)), (30, .one (.p (.sl (l.map rNd)))), (31, .one (.p (.int .i64 l.length))), (32, .one (.p (.int .i64 i))), (38, .one (.p (eI args))), (39, .one (.p (.int .i64 args.length))), (40, .one (.p (.int .i64 j)))], σ := [(4, .cells true [.p (eI i1), .p (eI i2)]), (100, .arr true 2 (rTn out)), (14, .cells true [.p (.int .i64 op), .p (eI args), .p (eI nums)]), (101, .arr true 2 (rTn acc))] })
    (fun j acc => acc = (args.take j).map (fun a => gT out a.toNat)) [] (by simp) ?_ fun j acc hj hacc => ?_
  · refine (Weak.pick [2, 4, 12, 13, 14, 15, 30, 31, 32, 38, 39, 40]).trans (Weak.sub fun q hq => ?_)
    simp only [List.mem_cons, List.not_mem_nil, or_false] at hq
    rcases hq with rfl | rfl | rfl | rfl <;> rfl
  have hal : acc.length = j := by rw [hacc, List.length_map, List.length_take]; omega
  by_cases hlj : j < args.length
  · have d1 : (j : Int) < args.length := by omega
    have v1 : IntKind.i64.wrap ((j : Int) + 1) = ((j + 1 : Nat) : Int) := by rw [wrap_in (by omega) (by omega)]; rfl
    have ha := hb args[j] (List.getElem_mem hlj)
    obtain ⟨m, hm⟩ := Int.eq_ofNat_of_zero_le ha.1
    have hy : args[j]? = some (m : Int) := by rw [List.getElem?_eq_getElem hlj, hm]
    have hmi : m < i := by omega
    have d2 : (m : Int) < i := by omega
    have hg := gT_some (ps := out) (p := m) (by omega)
    have hn1 : acc ++ [gT out m] = (args.take (j + 1)).map (fun a => gT out a.toNat) := by rw [List.take_add_one, hy, List.map_append, hacc]; rfl
    have c4 : (j + 1) * 48 ≤ 2 ^ 40 := by omega
    have c5 : j + 1 ≤ 2 ^ 40 := by omega
    have hmo : m < out.length := by omega
    generalize gT out m = z at *
    refine go (aa d1 <| aa v1 <| aa hlj <| aa hy <| aa hmi <| aa d2 <| aa hg <| aa hmo <| aa hal <| aa c4 c5) trivial ?_
    refine rnd_next hlj (acc ++ [z]) hn1 (Weak.sub fun q hq => ?_)
    simp only [List.mem_cons, List.not_mem_nil, or_false] at hq
    rcases hq with rfl | rfl | rfl | rfl
    · rfl
    · rfl
    · rfl
    · simp [lo, rTn]
  obtain rfl : j = args.length := by omega
  rw [List.take_length] at hacc
  have d1 : ¬ (args.length : Int) < args.length := by omega
  have ha64 : ∀ x ∈ acc, I64s x.2 := fun x hx => by
    rw [hacc] at hx
    obtain ⟨a, _, rfl⟩ := List.mem_map.1 hx
    exact gT_range ho64 _
  have kN := p_eval_Node ⟨op, args, nums⟩ acc (i1, i2) ps (by omega) ha64 hps
  have hN64 := nodeF_range (n := ⟨op, args, nums⟩) ha64 hi64 hp64 hnn
  rw [← hacc] at hinv
  refine T_weak (Weak.freeze (i := 15) rfl (toD_list (n := 5) rfl (by simp [hal]))) ?_
  simp only [lo, Nat.reduceEqDiff, if_true, if_false, if_pos]
  generalize nodeF ⟨op, args, nums⟩ acc (i1, i2) ps = R at *
  obtain ⟨⟨R1, R3⟩, R2⟩ := R
  simp only at kN hinv hN64
  by_cases he : R2 = 0
  · subst he
    rw [if_pos rfl] at hinv
    have c4 : (i + 1) * 48 ≤ 2 ^ 40 := by omega
    have c5 : i + 1 ≤ 2 ^ 40 := by omega
    refine go (aa d1 <| aa w1 <| aa hol <| aa c4 c5) kN ?_
    refine rnd_next hlt (out ++ [(R1, R3)]) ⟨by simp [hol], fun x hx => ?_, hinv⟩ (Weak.sub fun q hq => ?_)
    · rcases List.mem_append.1 hx with hx | hx
      · exact ho64 x hx
      · rw [List.mem_singleton.1 hx]; exact hN64
    simp only [List.mem_cons, List.not_mem_nil, or_false] at hq
    rcases hq with rfl | rfl
    · rfl
    · simp [lo, rTn]
  · rw [if_neg he] at hinv
    have e1 : (R2 != 0) = true := by simp [he]
    rw [← hinv, hol]
    refine go (aa d1 e1) kN ?_
    exact ends_ret rfl rfl rfl rfl
end Go.AM

namespace Go.AM
open Go Go.Proofs
set_option maxRecDepth 100000
set_option maxHeartbeats 16000000

theorem rTn_set (l : List Tn) (i : Nat) (s d : List Int) : (rTn l).set i [eI s, eI d] = rTn (l.set i (s, d)) := by
  simp [rTn, List.map_set]
theorem ends_list4 {rv : List RV} {s : AS} {t k len : Nat} {cap : Option Nat} {m : Bool} {rows : List (List PV)} {u v w : PV} (h1 : evRV rv s.env s.σ = some [.one (.msl t 0 k len cap), .one (.p u), .one (.p v), .one (.p w)]) (h2 : lo s.σ t = .arr m k rows) (hl : len = rows.length) :
    Ends rv (.tup [.one (.sl rows), .one u, .one v, .one w]) .ret s :=
  ends_ret (ds := [.one (.sl rows), .one u, .one v, .one w]) (σ' := if m then (t, .arr false k rows) :: s.σ else s.σ) h1 (by
    have e1 := toD_list (n := 5) (cap := cap) h2 hl
    simp only [toDs, toD, e1]; rfl) rfl rfl
def outL (V : List Tn) (D : Ts) : List Nd → Nat → List Tn → List Tn
  | [], _, acc => acc
  | n :: l, i, acc => outL V D l (i + 1) (if n.op = 2 then acc.set (hd n.nums 0).toNat (match lkI (hd n.nums 0) D with | some t => t | none => (fullF (gT V i).1 0).1) else acc)
def dG (G : List Tn) (x at_ e : Int) : DV := .tup [dTs G, dN x, dN at_, dN e]
abbrev oneT (V : List Tn) (l : List Nd) : Tn := (fullF (gT V (l.length - 1)).1 4294967296).1
theorem p_grad_All_err {l : List Nd} {input : Tn} {ps V : List Tn} {at_ e : Int} (kA : PureC Tryz.prog fi_eval_All [dNds l, dT input.1 input.2, dTs ps] (.tup [dTs V, dN at_, dN e])) (he : e ≠ 0) :
    PureC Tryz.prog fi_grad_All [dNds l, dT input.1 input.2, dTs ps] (dG [] 0 at_ e) := by
  refine pure_grad_All (by simp) fun G hP hn => ?_
  have e1 : (e != 0) = true := by simp [he]
  refine go e1 kA ?_
  exact ends_ret rfl rfl rfl rfl
theorem p_grad_All_loss {l : List Nd} {input : Tn} {ps V : List Tn} {at_ : Int} (kA : PureC Tryz.prog fi_eval_All [dNds l, dT input.1 input.2, dTs ps] (.tup [dTs V, dN at_, dN 0])) (hl : 0 < l.length) (h24 : l.length ≤ 24) (hV : V.length = l.length) (hL : (gT V (l.length - 1)).2.length > 1) :
    PureC Tryz.prog fi_grad_All [dNds l, dT input.1 input.2, dTs ps] (dG [] 0 ((l.length : Int) - 1) 150) := by
  refine pure_grad_All (by simp) fun G hP hn => ?_
  have w1 : IntKind.i64.wrap ((l.length : Int) - 1) = ((l.length - 1 : Nat) : Int) := by rw [wrap_in (by omega) (by omega)]; omega
  have c1 : ((l.length - 1 : Nat) : Int) < (V.length : Int) := by omega
  have c2 : l.length - 1 < V.length := by omega
  have hx := gT_some (ps := V) (p := l.length - 1) (by omega)
  have c3 : ((gT V (l.length - 1)).2.length : Int) > 1 := by omega
  have er : (l.length : Int) - 1 = ((l.length - 1 : Nat) : Int) := by omega
  rw [er]
  clear hL
  generalize gT V (l.length - 1) = q at *
  refine go (aa w1 <| aa c1 <| aa c2 <| aa hx c3) kA ?_
  exact ends_ret rfl rfl rfl rfl
theorem p_grad_All_ok {l : List Nd} {input : Tn} {ps V : List Tn} {at_ x : Int} {lv : List Nat} {H D : Nat → Ts} (kA : PureC Tryz.prog fi_eval_All [dNds l, dT input.1 input.2, dTs ps] (.tup [dTs V, dN at_, dN 0])) (hl : 0 < l.length) (h24 : l.length ≤ 24) (hV : V.length = l.length)
    (hck : checkG l = true) (hL : (gT V (l.length - 1)).2 = [x]) (hS : checkS (gT V (l.length - 1)).1 = true) (hsh : ∀ t ∈ V, checkS t.1 = true) (hlv : liveF l = (lv.map fun i => ((i : Nat) : Int)).reverse) (hvl : lv.length ≤ 24) (h0 : H 0 = [(((l.length - 1 : Nat) : Int), oneT V l)]) (d0 : D 0 = [])
    (hstep : ∀ k (hk : k < lv.length), MutC Tryz.prog fi_grad_All_1 (gA lv[k]) (gZ l V (H k) (D k)) (aN 0) (gZ l V (H (k + 1)) (D (k + 1))) []) :
    PureC Tryz.prog fi_grad_All [dNds l, dT input.1 input.2, dTs ps] (dG (outL V (D lv.length) l 0 (List.replicate 8 ([], []))) x (-1) 0) := by
  refine pure_grad_All (by simp) fun G hP hn => ?_
  have hM : MaxN = 140737488355328 := rfl
  have kL := p_graph_Live l (by omega) (fun n hn => by
    obtain ⟨j, hj, rfl⟩ := List.mem_iff_getElem.1 hn
    obtain ⟨_, k, hk, hkl, _⟩ := checkG_args hck hj
    have := arity_le hk hkl; omega)
  rw [hlv] at kL
  have hargs := fun (j : Nat) (hj : j < l.length) => checkG_args hck hj
  have w1 : IntKind.i64.wrap ((l.length : Int) - 1) = ((l.length - 1 : Nat) : Int) := by rw [wrap_in (by omega) (by omega)]; omega
  have c1 : ((l.length - 1 : Nat) : Int) < (V.length : Int) := by omega
  have c2 : l.length - 1 < V.length := by omega
  have hx := gT_some (ps := V) (p := l.length - 1) (by omega)
  have kF := p_tensor_Full (gT V (l.length - 1)).1 4294967296
  have hF : fullF (gT V (l.length - 1)).1 4294967296 = (oneT V l, 0) := by rw [full_is _ hS]; show _ = ((fullF _ _).1, _); rw [full_is _ hS]
  rw [hF] at kF
  generalize oneT V l = one at *
  have hgq : ∀ i, i = l.length - 1 → gT V i = gT V (l.length - 1) := fun i h => by rw [h]
  generalize hq : gT V (l.length - 1) = q at *
  obtain ⟨q1, q2⟩ := q
  simp only at hL kF
  subst hL
  obtain ⟨o1, o2⟩ := one
  clear hF hS hck hlv hgq
  have hlen : ((lv.map fun i => ((i : Nat) : Int)).reverse).length = lv.length := by simp
  have hget : ∀ k (hk : k < lv.length), ((lv.map fun i => ((i : Nat) : Int)).reverse)[lv.length - 1 - k]? = some ((lv[k] : Nat) : Int) := fun k hk => by
    rw [List.getElem?_reverse (by simp; omega), List.getElem?_map]
    simp only [List.length_map]
    rw [show lv.length - 1 - (lv.length - 1 - k) = k from by omega, List.getElem?_eq_getElem hk]; rfl
  generalize (lv.map fun i => ((i : Nat) : Int)).reverse = LV at *
  refine go (aa w1 <| aa c1 <| aa c2 hx) (aa kA <| aa kF kL) ?_
  refine T_for lv.length (fun k (_ : Unit) => { env := [(3, .one (.ptr 3 0 1 0)), (10, .one (.ptr 10 0 1 0)), (14, .one (.ptr 14 0 2 0)), (18, .one (.ptr 18 0 1 0)), (19, .one (.mfn fi_grad_All_1 [] [.ptr 3 0 1 0, .ptr 18 0 1 0, .ptr 17 0 1 0, .ptr 10 0 1 0])), (20, .one (.p (eI LV))), (68, .one (.p (.int .i64 lv.length))), (69, .one (.p (.int .i64 k)))], σ := (14, .cells true [.p (eI q1), .p (eI [x])]) :: gZ l V (H k) (D k) })
    (fun _ _ => True) () trivial ?_ fun k _ hk _ => ?_
  · rw [hlen]
    refine Weak.sub fun z hz => ?_
    simp only [List.mem_cons, List.not_mem_nil, or_false] at hz
    rcases hz with rfl | rfl | rfl | rfl | rfl | rfl | rfl
    · rfl
    · rfl
    · rfl
    · rfl
    · rfl
    · rw [h0]; rfl
    · rw [d0]; rfl
  by_cases hlt : k < lv.length
  · have d1 : (k : Int) < lv.length := by omega
    have v1 : IntKind.i64.wrap ((k : Int) + 1) = ((k + 1 : Nat) : Int) := by rw [wrap_in (by omega) (by omega)]; rfl
    have v2 : IntKind.i64.wrap ((lv.length : Int) - 1) = (lv.length : Int) - 1 := wrap_in (by omega) (by omega)
    have v3 : IntKind.i64.wrap ((lv.length : Int) - 1 - (k : Int)) = ((lv.length - 1 - k : Nat) : Int) := by rw [wrap_in (by omega) (by omega)]; omega
    have hy := hget k hlt
    have d2 : ((lv.length - 1 - k : Nat) : Int) < (lv.length : Int) := by omega
    have d3 : lv.length - 1 - k < lv.length := by omega
    have km := hstep k hlt
    clear hstep hget
    generalize lv[k] = i at *
    refine go (aa d1 <| aa v1 <| aa v2 <| aa v3 <| aa hlen <| aa hy <| aa d2 d3) km ?_
    refine rnd_next hlt () trivial (Weak.sub fun z hz => ?_)
    simp only [List.mem_cons, List.not_mem_nil, or_false] at hz
    rcases hz with rfl | rfl | rfl | rfl | rfl | rfl | rfl <;> rfl
  obtain rfl : k = lv.length := by omega
  have d1 : ¬ (lv.length : Int) < lv.length := by omega
  clear hstep hget kL kF kA
  generalize H lv.length = HH at *
  generalize D lv.length = DD at *
  refine go d1 trivial ?_
  refine T_for l.length (fun i (acc : List Tn) => { env := [(10, .one (.ptr 10 0 1 0)), (14, .one (.ptr 14 0 2 0)), (18, .one (.ptr 18 0 1 0)), (24, .one (.msl 88 0 2 8 (some 8))), (89, .one (.p (.sl (l.map rNd)))), (90, .one (.p (.int .i64 l.length))), (91, .one (.p (.int .i64 i)))], σ := [(14, .cells true [.p (eI q1), .p (eI [x])]), (10, .cells true [.p (.sl (rTn V))]), (18, .cells true [.mmap 63]), (63, .map true (eTM DD)), (88, .arr true 2 (rTn acc))] })
    (fun i acc => acc.length = 8 ∧ outL V DD (l.drop i) i acc = outL V DD l 0 (List.replicate 8 ([], []))) (List.replicate 8 ([], [])) ⟨List.length_replicate, rfl⟩ ?_ fun i acc hi hinv => ?_
  · refine Weak.sub fun z hz => ?_
    simp only [List.mem_cons, List.not_mem_nil, or_false] at hz
    rcases hz with rfl | rfl | rfl | rfl | rfl <;> rfl
  obtain ⟨hal, hinv⟩ := hinv
  by_cases hlt : i < l.length
  rotate_left
  · have e1 : ¬ (i : Int) < l.length := by omega
    rw [List.drop_of_length_le (by omega)] at hinv
    simp only [outL] at hinv
    rw [← hinv]
    refine go e1 trivial ?_
    exact ends_list4 rfl rfl (by simp [hal])
  have e1 : (i : Int) < l.length := by omega
  have w2 : IntKind.i64.wrap ((i : Int) + 1) = ((i + 1 : Nat) : Int) := by rw [wrap_in (by omega) (by omega)]; rfl
  have hy := nd_some hlt
  obtain ⟨_, k, hk, _, hw⟩ := hargs i hlt
  rw [List.drop_eq_getElem_cons hlt] at hinv
  simp only [outL] at hinv
  clear hargs
  generalize l[i] = n at *
  obtain ⟨op, args, nums⟩ := n
  simp only at hinv hk hw
  by_cases h2 : op = 2
  rotate_left
  · rw [if_neg h2] at hinv
    have e2 : (op != 2) = true := by simp [h2]
    refine go (aa e1 <| aa hy <| aa hlt <| aa w2 e2) trivial ?_
    refine rnd_next hlt acc ⟨hal, hinv⟩ (Weak.sub fun z hz => ?_)
    simp only [List.mem_cons, List.not_mem_nil, or_false] at hz
    rcases hz with rfl | rfl | rfl | rfl | rfl <;> rfl
  subst h2
  rw [if_pos rfl] at hinv
  obtain ⟨p, r, rfl, hp0, hp8⟩ : ∃ p r, nums = p :: r ∧ 0 ≤ p ∧ p < 8 := by
    have : k = (0, -2) := by have := hk.symm; rw [show kindF 2 = some (0, -2) from rfl] at this; exact Option.some.inj this
    subst this
    unfold wellF at hw
    simp only [if_true] at hw
    cases nums with
    | nil => cases hw
    | cons p r =>
      have := of_decide_eq_true (Bool.and_eq_true .. ▸ hw).1
      exact ⟨p, r, rfl, this.1, this.2⟩
  obtain ⟨m, rfl⟩ := Int.eq_ofNat_of_zero_le hp0
  have m8 : m < 8 := by omega
  have ehd : hd ((m : Int) :: r) 0 = (m : Int) := rfl
  rw [ehd, Int.toNat_natCast] at hinv
  have hf := find_eTM (m : Int) DD
  have hxm := gT_some (ps := acc) (p := m) (by omega)
  have hm2 : m < acc.length := by omega
  cases hlk : lkI (m : Int) DD with
  | some t =>
    rw [hlk, Option.map_some] at hf
    rw [hlk] at hinv
    simp only at hinv
    obtain ⟨t1, t2⟩ := t
    refine go (aa e1 <| aa hy <| aa hlt <| aa w2 <| aa hf <| aa hp8 <| aa m8 <| aa hxm <| aa hal <| aa hm2 @rTn_set) trivial ?_
    refine rnd_next hlt (acc.set m (t1, t2)) ⟨by rw [List.length_set]; exact hal, hinv⟩ (Weak.sub fun z hz => ?_)
    simp only [List.mem_cons, List.not_mem_nil, or_false] at hz
    rcases hz with rfl | rfl | rfl | rfl | rfl <;> rfl
  | none =>
    rw [hlk, Option.map_none] at hf
    rw [hlk] at hinv
    simp only at hinv
    have kF2 := p_tensor_Full (gT V i).1 0
    have hvi := gT_some (ps := V) (p := i) (by omega)
    have i1 : i < V.length := by omega
    have i2 : (i : Int) < (V.length : Int) := by omega
    generalize fullF (gT V i).1 0 = R at *
    generalize gT V i = u at *
    obtain ⟨⟨t1, t2⟩, er⟩ := R
    simp only at hinv
    refine go (aa e1 <| aa hy <| aa hlt <| aa w2 <| aa hf <| aa hp8 <| aa m8 <| aa hxm <| aa hal <| aa hm2 <| aa @rTn_set <| aa hvi <| aa i1 i2) kF2 ?_
    refine rnd_next hlt (acc.set m (t1, t2)) ⟨by rw [List.length_set]; exact hal, hinv⟩ (Weak.sub fun z hz => ?_)
    simp only [List.mem_cons, List.not_mem_nil, or_false] at hz
    rcases hz with rfl | rfl | rfl | rfl | rfl <;> rfl
end Go.AM

namespace Go.AM
open Go Go.Proofs
set_option maxRecDepth 100000
set_option maxHeartbeats 4000000

theorem i64s_one {n : Int} (h : I64 n) : I64s [n] := fun x hx => by simp at hx; subst hx; exact h
end Go.AM

namespace Go.AM
open Go Go.Proofs
set_option maxRecDepth 100000
set_option maxHeartbeats 4000000

def fewTs (n : Int) (ps : List Tn) : Bool := ps.all (fun t => fewT t.1 t.2) && decide ((ps.length : Int) ≤ n)
theorem p_ref09_Few (ps : List Tn) (n : Int) (hl : ps.length ≤ MaxN) : PureC Tryz.prog fi_fullerref09_Few [dTs ps, dN n] (dB (fewTs n ps)) := by
  refine pure_fullerref09_Few (by simp) fun G hP hn => ?_
  have hM : MaxN = 140737488355328 := rfl
  refine go trivial trivial ?_
  refine T_for ps.length (fun i (_ : Unit) => { env := [(0, .one (.p (.sl (rTn ps)))), (1, .one (.p (.int .i64 n))), (5, .one (.p (.int .i64 i)))], σ := [] })
    (fun i _ => ∀ j, j < i → fewT (gT ps j).1 (gT ps j).2 = true) () (fun j hj => by omega) (.refl _ _) fun i _ hi hinv => ?_
  by_cases hlt : i < ps.length
  · have c1 : (i : Int) < ps.length := by omega
    have w1 : IntKind.i64.wrap ((i : Int) + 1) = ((i + 1 : Nat) : Int) := by rw [wrap_in (by omega) (by omega)]; rfl
    have hx := gT_some hlt
    have kf := p_ref03_Few (gT ps i).1 (gT ps i).2
    have hin : gT ps i ∈ ps := List.mem_of_getElem? hx
    cases hf : fewT (gT ps i).1 (gT ps i).2
    · rw [hf] at kf
      have hr : fewTs n ps = false := by
        unfold fewTs
        have : ps.all (fun t => fewT t.1 t.2) = false := by
          apply Bool.eq_false_iff.2
          intro h
          have := List.all_eq_true.1 h _ hin
          rw [hf] at this; cases this
        rw [this]; rfl
      rw [hr]
      generalize gT ps i = q at *
      refine go (aa c1 <| aa hlt <| aa hx w1) kf ?_
      exact ends_ret rfl rfl rfl rfl
    · rw [hf] at kf
      have hnx : ∀ j, j < i + 1 → fewT (gT ps j).1 (gT ps j).2 = true := fun j hj => by
        by_cases hji : j = i
        · subst hji; exact hf
        · exact hinv j (by omega)
      generalize gT ps i = q at *
      refine go (aa c1 <| aa hlt <| aa hx w1) kf ?_
      exact rnd_next hlt () hnx (.refl _ _)
  · have c1 : ¬ (i : Int) < ps.length := by omega
    have hall : ps.all (fun t => fewT t.1 t.2) = true := List.all_eq_true.2 fun t ht => by
      obtain ⟨j, hj, rfl⟩ := List.getElem_of_mem ht
      have := hinv j (by omega)
      rw [show gT ps j = ps[j] from by unfold gT; rw [List.getElem?_eq_getElem hj]; rfl] at this
      exact this
    have hr : fewTs n ps = decide ((ps.length : Int) ≤ n) := by unfold fewTs; rw [hall]; rfl
    rw [hr]
    by_cases h1 : (ps.length : Int) ≤ n
    · have e : decide ((ps.length : Int) ≤ n) = true := by simp [h1]
      rw [e]
      refine go (aa c1 h1) trivial ?_
      exact ends_ret rfl rfl rfl rfl
    · have e : decide ((ps.length : Int) ≤ n) = false := by simp [h1]
      rw [e]
      refine go (aa c1 h1) trivial ?_
      exact ends_ret rfl rfl rfl rfl
end Go.AM

namespace Go.AM
open Go Go.Proofs
set_option maxRecDepth 100000
set_option maxHeartbeats 8000000

def fewN (l : List Nd) : Bool := l.all (fun n => decide (n.args.length ≤ 30 ∧ n.nums.length ≤ 30)) && decide (l.length ≤ 30)
theorem fewN_iff {l : List Nd} (h : fewN l = true) : (∀ n ∈ l, n.args.length ≤ 30 ∧ n.nums.length ≤ 30) ∧ l.length ≤ 30 := by
  unfold fewN at h
  simp only [Bool.and_eq_true, decide_eq_true_eq] at h
  exact ⟨fun n hn => of_decide_eq_true (List.all_eq_true.1 h.1 n hn), h.2⟩
theorem p_ref10_Few (l : List Nd) (hl : l.length ≤ MaxN) : PureC Tryz.prog fi_fullerref10_Few [dNds l] (dB (fewN l)) := by
  refine pure_fullerref10_Few (by simp) fun G hP hn => ?_
  have hM : MaxN = 140737488355328 := rfl
  refine go trivial trivial ?_
  refine T_for l.length (fun i (_ : Unit) => { env := [(0, .one (.p (.sl (l.map rNd)))), (3, .one (.p (.int .i64 i)))], σ := [] })
    (fun i _ => (l.drop i).all (fun n => decide (n.args.length ≤ 30 ∧ n.nums.length ≤ 30)) = l.all (fun n => decide (n.args.length ≤ 30 ∧ n.nums.length ≤ 30))) () rfl (.refl _ _) fun i _ hi hinv => ?_
  by_cases hlt : i < l.length
  · have c1 : (i : Int) < l.length := by omega
    have w1 : IntKind.i64.wrap ((i : Int) + 1) = ((i + 1 : Nat) : Int) := by rw [wrap_in (by omega) (by omega)]; rfl
    have hx := nd_some hlt
    rw [List.drop_eq_getElem_cons hlt, List.all_cons] at hinv
    generalize l[i] = n at *
    obtain ⟨op, args, nums⟩ := n
    simp only at hinv
    by_cases h1 : args.length ≤ 30
    rotate_left
    · have q1 : (args.length : Int) > 30 := by omega
      have hr : fewN l = false := by unfold fewN; rw [← hinv, decide_eq_false (fun h => h1 h.1)]; rfl
      rw [hr]
      refine go (aa c1 <| aa hlt <| aa hx q1) trivial ?_
      exact ends_ret rfl rfl rfl rfl
    have q1 : ¬ (args.length : Int) > 30 := by omega
    by_cases h2 : nums.length ≤ 30
    rotate_left
    · have q2 : (nums.length : Int) > 30 := by omega
      have hr : fewN l = false := by unfold fewN; rw [← hinv, decide_eq_false (fun h => h2 h.2)]; rfl
      rw [hr]
      refine go (aa c1 <| aa hlt <| aa hx <| aa q1 q2) trivial ?_
      exact ends_ret rfl rfl rfl rfl
    have q2 : ¬ (nums.length : Int) > 30 := by omega
    rw [decide_eq_true ⟨h1, h2⟩, Bool.true_and] at hinv
    refine go (aa c1 <| aa hlt <| aa hx <| aa q1 <| aa q2 w1) trivial ?_
    exact rnd_next hlt () hinv (.refl _ _)
  · have c1 : ¬ (i : Int) < l.length := by omega
    rw [List.drop_of_length_le (by omega)] at hinv
    have hr : fewN l = decide (l.length ≤ 30) := by unfold fewN; rw [← hinv]; rfl
    rw [hr]
    by_cases h3 : l.length ≤ 30
    · have q3 : (l.length : Int) ≤ 30 := by omega
      rw [decide_eq_true h3]
      refine go (aa c1 q3) trivial ?_
      exact ends_ret rfl rfl rfl rfl
    · have q3 : ¬ (l.length : Int) ≤ 30 := by omega
      rw [decide_eq_false h3]
      refine go (aa c1 q3) trivial ?_
      exact ends_ret rfl rfl rfl rfl
end Go.AM

